/- An argument that is a list of rows: opened. -/
import Derived.Test.YtblfagmoilhdnaaPgT
import Derived.Test.YtblfagmoilhdnaaStructs
import Derived.Test.YtblfagmoilhdnaaRowOpen
set_option linter.unusedVariables false
set_option linter.unusedSimpArgs false
namespace Go.Proofs.Ytblfagmoilhdnaa
open Go.Joins Go.ChangeShapes Go.WideShapes Go.RowKit Go.Deep
section
variable {H : Type} {enc : TypeId × Value → H} {w : World} {base : Nat} {spare : Nat → Bool} {held : Bool}
set_option maxRecDepth 100000 in
theorem open_leaves {fuel : Nat} {A : Option Addr} {len cap : Nat} {y : DataW H × List MemPlace} (h : DataW.trod enc Try.prog w base spare held fuel 48 [.slice A len cap] = some y) : ∃ rows, IsL w w.heap.size A len rows ∧ len ≤ cap := by
  have hC : Try.prog.cellsOf 47 = 6 := by kernel_rfl
  rcases open_slice_fields Try.underlying48 Try.underlying47 (by kernel_rfl) hC h with ⟨hcs, _⟩ | ⟨a, len', cap', m, D, Pl, hcs, hb, hl, hm, hmm, hx, hi⟩
  · simp at hcs
    obtain ⟨rfl, rfl, rfl⟩ := hcs
    exact ⟨[], isL_nil _ _, Nat.le_refl _⟩
  · simp at hcs
    obtain ⟨rfl, rfl, rfl⟩ := hcs
    have hle : len ≤ m := by rw [hmm]; split <;> omega
    obtain ⟨rows, hol, hrows⟩ := list_of (P := fun i (r : Pg.Lf) => (∀ (j : Nat) (v : Value), (lcells r)[j]? = some v → w.cell? (a.add (i * 6 + j)) = some v) ∧ r.In) len (fun i hil => by
      obtain ⟨ys, n, _, _, _, hf⟩ := hi i (by omega)
      obtain ⟨v0, y0, c0, _, t0⟩ := hf 0 _ rfl
      obtain ⟨v1, y1, c1, _, t1⟩ := hf 1 _ rfl
      obtain ⟨v2, y2, c2, _, t2⟩ := hf 2 _ rfl
      obtain ⟨v3, y3, c3, _, t3⟩ := hf 3 _ rfl
      obtain ⟨v4, y4, c4, _, t4⟩ := hf 4 _ rfl
      obtain ⟨v5, y5, c5, _, t5⟩ := hf 5 _ rfl
      obtain ⟨z0, e0, _, w0⟩ := DataW.trod_int (k := .u64) Try.underlying22 t0
      obtain ⟨z1, e1, _, w1⟩ := DataW.trod_int (k := .u64) Try.underlying22 t1
      obtain ⟨z2, e2, _, w2⟩ := DataW.trod_int (k := .i64) Try.underlying3 t2
      obtain ⟨b3, e3, _⟩ := DataW.trod_bool Try.underlying4 t3
      obtain ⟨b4, e4, _⟩ := DataW.trod_bool Try.underlying4 t4
      obtain ⟨b5, e5, _⟩ := DataW.trod_bool Try.underlying4 t5
      simp at e0 e1 e2 e3 e4 e5
      subst e0 e1 e2 e3 e4 e5
      obtain ⟨k0, rfl, hk0⟩ := nat_of_u64 w0
      obtain ⟨k1, rfl, hk1⟩ := nat_of_u64 w1
      have h2 := bounds_i64 w2
      refine ⟨⟨k0, k1, z2, b3, b4, b5⟩, ?_, hk0, hk1, h2.1, by show z2 < _; omega⟩
      intro j v hv
      match j, hv with
      | 0, hv => simp [lcells] at hv; subst hv; exact c0
      | 1, hv => simp [lcells] at hv; subst hv; exact c1
      | 2, hv => simp [lcells] at hv; subst hv; exact c2
      | 3, hv => simp [lcells] at hv; subst hv; exact c3
      | 4, hv => simp [lcells] at hv; subst hv; exact c4
      | 5, hv => simp [lcells] at hv; subst hv; exact c5
      | j + 6, hv => simp [lcells] at hv)
    refine ⟨rows, ⟨⟨?_, fun h0 => ⟨a, rfl, ?_, fun j u hu => ?_⟩⟩, fun r hr => ?_, hol, by unfold maxLen at hm; omega⟩, hl⟩
    · show (lall rows).length = _
      rw [lall_len, hol]
    · have hx0 := List.getElem?_eq_getElem (show 0 < rows.length by omega)
      have hc0 := (hrows 0 _ hx0).1 0 _ rfl
      have := World.block_lt_of_cell? w _ hc0
      rwa [block_of_add] at this
    · have hj : j < rows.length * 6 := by
        have := (List.getElem?_eq_some_iff.1 hu).1
        rw [show (rows.flatMap lcells).length = rows.length * 6 from lall_len rows] at this
        exact this
      have hk : rows[j / 6]? = some (rows[j / 6]'(by omega)) := List.getElem?_eq_getElem (by omega)
      have h1 := lall_at hk (j % 6) (by omega)
      rw [show 6 * (j / 6) + j % 6 = j by omega] at h1
      have h2 := (hrows _ _ hk).1 (j % 6) u (h1 ▸ hu)
      rw [show j / 6 * 6 + j % 6 = j by omega] at h2
      exact h2
    · obtain ⟨i, hi1, rfl⟩ := List.mem_iff_getElem.1 hr
      exact (hrows i _ (List.getElem?_eq_getElem hi1)).2
end
end Go.Proofs.Ytblfagmoilhdnaa
