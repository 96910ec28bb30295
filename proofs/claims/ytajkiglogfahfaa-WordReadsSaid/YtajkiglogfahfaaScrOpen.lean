/- An argument that is a script: opened to its steps. -/
import Derived.Test.YtajkiglogfahfaaScr
import Derived.Test.YtajkiglogfahfaaStructs
set_option linter.unusedVariables false
set_option linter.unusedSimpArgs false
namespace Go.Proofs.Ytajkiglogfahfaa
open Go.Joins Go.ChangeShapes Go.WideShapes Go.RowKit Go.Deep
theorem list_of {α : Type} {P : Nat → α → Prop} : ∀ n, (∀ i, i < n → ∃ x, P i x) → ∃ l : List α, l.length = n ∧ ∀ (i : Nat) (x : α), l[i]? = some x → P i x
  | 0, _ => ⟨[], rfl, fun i x h => by simp at h⟩
  | n + 1, h => by
    obtain ⟨l, hl, hp⟩ := list_of n (fun i hi => h i (by omega))
    obtain ⟨x, hx⟩ := h n (by omega)
    refine ⟨l ++ [x], by simp [hl], fun i y hy => ?_⟩
    by_cases hi : i < l.length
    · rw [List.getElem?_append_left hi] at hy
      exact hp i y hy
    · have hlt := (List.getElem?_eq_some_iff.1 hy).1
      simp at hlt
      have : i = n := by omega
      subst this
      rw [List.getElem?_append_right (by omega)] at hy
      simp [hl] at hy
      subst hy
      exact hx
section
variable {H : Type} {enc : TypeId × Value → H} {w : World} {base : Nat} {spare : Nat → Bool} {held : Bool}
theorem trod_row {fuel : Nat} {v : Value} {y : DataW H × List MemPlace} (h : DataW.trod enc Try.prog w base spare held fuel 22 [v] = some y) : ∃ A l c, v = .slice A l c ∧ ∃ bs, IsB w w.heap.size A l bs ∧ (A = none → c = 0) := by
  rcases DataW.trod_slice Try.underlying22 h with ⟨hcs, _⟩ | ⟨a, len, cap, elems, rest, n, _, hcs, rfl, hb, hl, hm, hlen, hel, hsp, hns⟩
  · simp at hcs
    subst hcs
    exact ⟨none, 0, 0, rfl, [], isB_nil _ _, fun _ => rfl⟩
  · simp at hcs
    subst hcs
    rcases open_slice Try.underlying22 h with ⟨h0, _⟩ | ⟨a', len', cap', m, n', D, Pl, hcs, hb, hl, hm, hmm, hx, hi⟩
    · simp at h0
    · simp at hcs
      obtain ⟨rfl, rfl, rfl⟩ := hcs
      refine ⟨some a, len, cap, rfl, ?_⟩
      have hle : len ≤ m := by rw [hmm]; split <;> omega
      have hc1 : Try.prog.cellsOf 5 = 1 := by kernel_rfl
      obtain ⟨bs, hbl, hbs⟩ := list_of (P := fun i b => w.cell? (a.add i) = some (u8 b) ∧ b < 256) len (fun i hil => by
        obtain ⟨cs', h1, h2⟩ := hi i (by omega)
        rw [hc1, Nat.mul_one] at h1
        obtain ⟨z, rfl, _, hw⟩ := DataW.trod_int (k := .u8) Try.underlying5 h2
        obtain ⟨_, _, hat⟩ := World.cells?_some h1
        obtain ⟨s, rfl, hs⟩ := nat_of_u8 hw
        have := hat 0 (by omega)
        rw [add_of_add, Nat.add_zero] at this
        exact ⟨s, by rw [this]; rfl, hs⟩)
      refine ⟨bs, ⟨⟨by simp [hbl], fun h0 => ⟨a, rfl, ?_, fun j u hu => ?_⟩⟩, fun b hb' => ?_, by unfold maxLen at hm; omega⟩, fun h => by cases h⟩
      · have h2 := (hbs 0 _ (List.getElem?_eq_getElem (by omega))).1
        have := World.block_lt_of_cell? w _ h2
        rwa [block_of_add] at this
      · rw [List.getElem?_map] at hu
        obtain ⟨b, hb1, rfl⟩ := Option.map_eq_some_iff.1 hu
        exact (hbs j b hb1).1
      · obtain ⟨i, hi1, rfl⟩ := List.mem_iff_getElem.1 hb'
        exact (hbs i _ (List.getElem?_eq_getElem hi1)).2
set_option maxRecDepth 100000 in
theorem open_script {fuel : Nat} {A : Option Addr} {len cap : Nat} {y : DataW H × List MemPlace} (h : DataW.trod enc Try.prog w base spare held fuel 42 [.slice A len cap] = some y) : ∃ ops, Scr w w.heap.size A len ops := by
  have hC : Try.prog.cellsOf 54 = 6 := by kernel_rfl
  rcases open_slice_fields Try.underlying42 Try.underlying54 (by kernel_rfl) hC h with ⟨hcs, _⟩ | ⟨a, len', cap', m, D, Pl, hcs, hb, hl, hm, hmm, hx, hi⟩
  · simp at hcs
    obtain ⟨rfl, rfl, rfl⟩ := hcs
    exact ⟨[], rfl, fun h => absurd h (by omega), by simp, by omega⟩
  · simp at hcs
    obtain ⟨rfl, rfl, rfl⟩ := hcs
    have hle : len ≤ m := by rw [hmm]; split <;> omega
    obtain ⟨ops, hol, hops⟩ := list_of (P := fun i (x : OpA × List Nat) => (∀ (j : Nat) (v : Value), x.1.cells[j]? = some v → w.cell? (a.add (i * 6 + j)) = some v) ∧ IsB w w.heap.size x.1.pa x.1.pn x.2 ∧ x.1.n < 18446744073709551616 ∧ (-9223372036854775808 ≤ x.1.num ∧ x.1.num ≤ 9223372036854775807) ∧ (-9223372036854775808 ≤ x.1.at_ ∧ x.1.at_ ≤ 9223372036854775807) ∧ (-9223372036854775808 ≤ x.1.kind ∧ x.1.kind ≤ 9223372036854775807) ∧ x.1.s.size ≤ 9223372036854775807) len (fun i hil => by
      obtain ⟨ys, n, _, _, _, hf⟩ := hi i (by omega)
      obtain ⟨v0, y0, c0, _, t0⟩ := hf 0 _ rfl
      obtain ⟨v1, y1, c1, _, t1⟩ := hf 1 _ rfl
      obtain ⟨v2, y2, c2, _, t2⟩ := hf 2 _ rfl
      obtain ⟨v3, y3, c3, _, t3⟩ := hf 3 _ rfl
      obtain ⟨v4, y4, c4, _, t4⟩ := hf 4 _ rfl
      obtain ⟨v5, y5, c5, _, t5⟩ := hf 5 _ rfl
      obtain ⟨z0, e0, _, w0⟩ := DataW.trod_int (k := .i64) Try.underlying3 t0
      obtain ⟨z1, e1, _, w1⟩ := DataW.trod_int (k := .i64) Try.underlying3 t1
      obtain ⟨z2, e2, _, w2⟩ := DataW.trod_int (k := .u64) Try.underlying30 t2
      obtain ⟨z3, e3, _, w3⟩ := DataW.trod_int (k := .i64) Try.underlying3 t3
      obtain ⟨pa, pn, pc, rfl, ps, hps, _⟩ := trod_row t4
      obtain ⟨s, e5, _, hs⟩ := DataW.trod_string Try.underlying9 t5
      simp at e0 e1 e2 e3 e5
      subst e0 e1 e2 e3 e5
      obtain ⟨k, rfl, hk⟩ := nat_of_u64 w2
      refine ⟨(⟨z0, z1, k, z3, pa, pn, pc, s⟩, ps), ?_, hps, hk, bounds_i64 w3, bounds_i64 w1, bounds_i64 w0, by unfold maxLen at hs; exact hs⟩
      intro j v hv
      match j, hv with
      | 0, hv => simp [OpA.cells] at hv; subst hv; exact c0
      | 1, hv => simp [OpA.cells] at hv; subst hv; exact c1
      | 2, hv => simp [OpA.cells] at hv; subst hv; exact c2
      | 3, hv => simp [OpA.cells] at hv; subst hv; exact c3
      | 4, hv => simp [OpA.cells] at hv; subst hv; exact c4
      | 5, hv => simp [OpA.cells] at hv; subst hv; exact c5
      | j + 6, hv => simp [OpA.cells] at hv)
    refine ⟨ops, hol, fun h0 => ?_, fun x hx => ?_, by unfold maxLen at hm; omega⟩
    · obtain ⟨b, off, sp⟩ := a
      have hx0 := List.getElem?_eq_getElem (show 0 < ops.length by omega)
      have hc0 := (hops 0 _ hx0).1 0 _ rfl
      have hs : sp = none := by
        have := World.cell?_spot hc0
        simpa [Addr.add] using this
      subst hs
      have hlt := World.block_lt_of_cell? w _ hc0
      refine ⟨b, off, rfl, by simpa [Addr.add] using hlt, fun k x hk j v hv => ?_⟩
      have := (hops k x hk).1 j v hv
      have e : (⟨b, off, none⟩ : Addr).add (k * 6 + j) = ⟨b, off + k * 6 + j, none⟩ := by
        unfold Addr.add
        split
        · rename_i h
          have h1 : k = 0 := by omega
          have h2 : j = 0 := by omega
          subst h1 h2
          rfl
        · simp [Nat.add_assoc]
      rwa [e] at this
    · obtain ⟨i, hi1, rfl⟩ := List.mem_iff_getElem.1 hx
      exact (hops i _ (List.getElem?_eq_getElem hi1)).2
end
end Go.Proofs.Ytajkiglogfahfaa
