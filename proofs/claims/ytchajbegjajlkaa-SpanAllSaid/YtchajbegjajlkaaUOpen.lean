/- An argument that is a slice of uint64: opened to its numbers. -/
import Derived.Test.YtchajbegjajlkaaIsU
import Derived.Test.YtchajbegjajlkaaRowOpen
set_option linter.unusedVariables false
set_option linter.unusedSimpArgs false
namespace Go.Proofs.Ytchajbegjajlkaa
open Go.Joins Go.ChangeShapes Go.WideShapes Go.RowKit Go.Deep
section
variable {H : Type} {enc : TypeId × Value → H} {w : World} {base : Nat} {spare : Nat → Bool} {held : Bool}
theorem open_u64s {fuel : Nat} {A : Option Addr} {len cap : Nat} {y : DataW H × List MemPlace} (h : DataW.trod enc Try.prog w base spare held fuel 22 [.slice A len cap] = some y) : ∃ us, IsU w w.heap.size A len us ∧ len ≤ cap := by
  rcases open_slice Try.underlying22 h with ⟨h0, _⟩ | ⟨a, len', cap', m, n', D, Pl, hcs, hb, hl, hm, hmm, hx, hi⟩
  · simp at h0
    obtain ⟨rfl, rfl, rfl⟩ := h0
    exact ⟨[], ⟨Reads.none_, rfl, by omega, by simp⟩, Nat.le_refl _⟩
  · simp at hcs
    obtain ⟨rfl, rfl, rfl⟩ := hcs
    have hle : len ≤ m := by rw [hmm]; split <;> omega
    have hc1 : Try.prog.cellsOf 28 = 1 := by kernel_rfl
    obtain ⟨us, hbl, hbs⟩ := list_of (P := fun i u => w.cell? (a.add i) = some (.int .u64 (u : Nat)) ∧ u < 18446744073709551616) len (fun i hil => by
      obtain ⟨cs', h1, h2⟩ := hi i (by omega)
      rw [hc1, Nat.mul_one] at h1
      obtain ⟨z, rfl, _, hw⟩ := DataW.trod_int (k := .u64) Try.underlying28 h2
      obtain ⟨_, _, hat⟩ := World.cells?_some h1
      obtain ⟨s, rfl, hs⟩ : ∃ s : Nat, z = s ∧ s < 18446744073709551616 := by have := bounds_u64 hw; exact ⟨z.toNat, by omega, by omega⟩
      have := hat 0 (by omega)
      rw [add_of_add, Nat.add_zero] at this
      exact ⟨s, by rw [this]; rfl, hs⟩)
    refine ⟨us, ⟨⟨by simp [hbl], fun h0 => ⟨a, rfl, ?_, fun j u hu => ?_⟩⟩, hbl, by unfold maxLen at hm; omega, fun b hb' => ?_⟩, hl⟩
    · have h2 := (hbs 0 _ (List.getElem?_eq_getElem (by omega))).1
      have := World.block_lt_of_cell? w _ h2
      rwa [block_of_add] at this
    · rw [List.getElem?_map] at hu
      obtain ⟨b, hb1, rfl⟩ := Option.map_eq_some_iff.1 hu
      exact (hbs j b hb1).1
    · obtain ⟨i, hi1, rfl⟩ := List.mem_iff_getElem.1 hb'
      have := (hbs i _ (List.getElem?_eq_getElem hi1)).2; omega
end
end Go.Proofs.Ytchajbegjajlkaa
