/- An argument that is a slice of bytes: opened to its bytes. -/
import Derived.Test.YtmhkmemaneopeaaBytes
import Derived.Test.YtmhkmemaneopeaaStructs
set_option linter.unusedVariables false
set_option linter.unusedSimpArgs false
namespace Go.Proofs.Ytmhkmemaneopeaa
open Go.Joins Go.ChangeShapes Go.WideShapes Go.RowKit Go.Deep
theorem list_of {α : Type} {P : Nat → α → Prop} : ∀ n, (∀ i, i < n → ∃ x, P i x) → ∃ l : List α, l.length = n ∧ ∀ (i : Nat) (x : α), l[i]? = some x → P i x
  | 0, _ => ⟨[], rfl, fun i x h => by simp at h⟩
  | n + 1, h => by
    obtain ⟨l, hl, hp⟩ := list_of n (fun i hi => h i (by omega))
    obtain ⟨x, hx⟩ := h n (by omega)
    refine ⟨l ++ [x], by simp [hl], fun i y hy => ?_⟩
    by_cases hi : i < l.length
    · rw [List.getElem?_append_left hi] at hy
      exact hp i y hy
    · have hlt := (List.getElem?_eq_some_iff.1 hy).1
      simp at hlt
      have : i = n := by omega
      subst this
      rw [List.getElem?_append_right (by omega)] at hy
      simp [hl] at hy
      subst hy
      exact hx
section
variable {H : Type} {enc : TypeId × Value → H} {w : World} {base : Nat} {spare : Nat → Bool} {held : Bool}
theorem trod_row {fuel : Nat} {v : Value} {y : DataW H × List MemPlace} (h : DataW.trod enc Try.prog w base spare held fuel 52 [v] = some y) : ∃ A l c, v = .slice A l c ∧ ∃ bs, IsB w w.heap.size A l bs ∧ (A = none → c = 0) := by
  rcases DataW.trod_slice Try.underlying52 h with ⟨hcs, _⟩ | ⟨a, len, cap, elems, rest, n, _, hcs, rfl, hb, hl, hm, hlen, hel, hsp, hns⟩
  · simp at hcs
    subst hcs
    exact ⟨none, 0, 0, rfl, [], ⟨Reads.none_, by simp, by omega⟩, fun _ => rfl⟩
  · simp at hcs
    subst hcs
    rcases open_slice Try.underlying52 h with ⟨h0, _⟩ | ⟨a', len', cap', m, n', D, Pl, hcs, hb, hl, hm, hmm, hx, hi⟩
    · simp at h0
    · simp at hcs
      obtain ⟨rfl, rfl, rfl⟩ := hcs
      refine ⟨some a, len, cap, rfl, ?_⟩
      have hle : len ≤ m := by rw [hmm]; split <;> omega
      have hc1 : Try.prog.cellsOf 5 = 1 := by kernel_rfl
      obtain ⟨bs, hbl, hbs⟩ := list_of (P := fun i b => w.cell? (a.add i) = some (u8 b) ∧ b < 256) len (fun i hil => by
        obtain ⟨cs', h1, h2⟩ := hi i (by omega)
        rw [hc1, Nat.mul_one] at h1
        obtain ⟨z, rfl, _, hw⟩ := DataW.trod_int (k := .u8) Try.underlying5 h2
        obtain ⟨_, _, hat⟩ := World.cells?_some h1
        obtain ⟨s, rfl, hs⟩ := nat_of_u8 hw
        have := hat 0 (by omega)
        rw [add_of_add, Nat.add_zero] at this
        exact ⟨s, by rw [this]; rfl, hs⟩)
      refine ⟨bs, ⟨⟨by simp [hbl], fun h0 => ⟨a, rfl, ?_, fun j u hu => ?_⟩⟩, fun b hb' => ?_, by unfold maxLen at hm; omega⟩, fun h => by cases h⟩
      · have h2 := (hbs 0 _ (List.getElem?_eq_getElem (by omega))).1
        have := World.block_lt_of_cell? w _ h2
        rwa [block_of_add] at this
      · rw [List.getElem?_map] at hu
        obtain ⟨b, hb1, rfl⟩ := Option.map_eq_some_iff.1 hu
        exact (hbs j b hb1).1
      · obtain ⟨i, hi1, rfl⟩ := List.mem_iff_getElem.1 hb'
        exact (hbs i _ (List.getElem?_eq_getElem hi1)).2
set_option maxRecDepth 100000 in
theorem trod_le {fuel : Nat} {A : Option Addr} {l c : Nat} {y : DataW H × List MemPlace} (h : DataW.trod enc Try.prog w base spare held fuel 52 [.slice A l c] = some y) : l ≤ c := by
  rcases DataW.trod_slice Try.underlying52 h with ⟨hcs, _⟩ | ⟨a, len, cap, elems, rest, n, _, hcs, rfl, hb, hl, hm, hlen, hel, hsp, hns⟩
  · simp at hcs; omega
  · simp at hcs; omega
end
end Go.Proofs.Ytmhkmemaneopeaa
