/- An argument that is a bus: opened. -/
import Derived.Test.YtmhkmemaneopeaaBusD
import Derived.Test.YtmhkmemaneopeaaStructs
import Derived.Test.YtmhkmemaneopeaaRowOpen
set_option linter.unusedVariables false
set_option linter.unusedSimpArgs false
namespace Go.Proofs.Ytmhkmemaneopeaa
open Go.Joins Go.ChangeShapes Go.WideShapes Go.RowKit Go.Deep
open S64
section
variable {H : Type} {enc : TypeId × Value → H} {w : World} {base : Nat} {spare : Nat → Bool} {held : Bool}
theorem open_agg2 {P : Program} {r : Reach} {b0 : Nat} {t : TypeId} {f0 f1 : Field} {v : Value} {d : DataW H} {p : List MemPlace} (hs : P.underlying t = some (.struct #[f0, f1])) (hone : oneCellFields P #[f0, f1] = true) (hC : P.cellsOf t = 2)
    (hv : Value.okWide P w r b0 t v) (h : DataW.Trod enc P w base spare held t v d p) :
    ∃ (v0 v1 : Value) (y0 y1 : DataW H × List MemPlace) (n : Nat), v = .agg #[v0, v1] ∧ DataW.trod enc P w base spare held n f0.type [v0] = some y0 ∧ DataW.trod enc P w base spare held n f1.type [v1] = some y1 := by
  obtain ⟨cs, rfl, hsz⟩ := okWide_struct hs hv
  obtain ⟨l⟩ := cs
  match l, hsz.trans hC with
  | [c0, c1], _ =>
    obtain ⟨fuel, hf⟩ := h
    obtain ⟨xs, n, _, hx, _, hlen, hg⟩ := DataW.trod_struct hs hf
    obtain ⟨o0, k0⟩ := hone_of hone 0 f0 rfl
    obtain ⟨o1, k1⟩ := hone_of hone 1 f1 rfl
    match xs, hlen with
    | [y0, y1], _ =>
      exact ⟨c0, c1, y0, y1, n, rfl, by simpa [Value.cells, o0, k0] using hg 0 f0 rfl, by simpa [Value.cells, o1, k1] using hg 1 f1 rfl⟩
set_option maxRecDepth 100000 in
theorem open_ranges {fuel : Nat} {v : Value} {y : DataW H × List MemPlace} (h : DataW.trod enc Try.prog w base spare held fuel 22 [v] = some y) : ∃ A l c s, v = .slice A l c ∧ IsS w w.heap.size A l s ∧ ∀ x ∈ s, x.1 ≤ TOP ∧ x.2 ≤ TOP := by
  have hC : Try.prog.cellsOf 31 = 2 := by kernel_rfl
  rcases DataW.trod_slice Try.underlying22 h with ⟨hcs, _⟩ | ⟨a, len, cap, elems, rest, n, _, hcs, rfl, hb, hl, hm, hlen, hel, hsp, hns⟩
  · simp at hcs
    subst hcs
    exact ⟨none, 0, 0, [], rfl, IsS.none_, fun x hx => by cases hx⟩
  · simp at hcs
    subst hcs
    rcases open_slice_fields Try.underlying22 Try.underlying31 (by kernel_rfl) hC h with ⟨hcs, _⟩ | ⟨a', len', cap', m, D, Pl, hcs, hb, hl, hm, hmm, hx, hi⟩
    · simp at hcs
    · simp at hcs
      obtain ⟨rfl, rfl, rfl⟩ := hcs
      have hle : len ≤ m := by rw [hmm]; split <;> omega
      obtain ⟨rows, hol, hrows⟩ := list_of (P := fun i (r : Nat × Nat) => (∀ (j : Nat) (v : Value), (scell r)[j]? = some v → w.cell? (a.add (i * 2 + j)) = some v) ∧ r.1 ≤ TOP ∧ r.2 ≤ TOP) len (fun i hil => by
        obtain ⟨ys, n, _, _, _, hf⟩ := hi i (by omega)
        obtain ⟨v0, y0, c0, _, t0⟩ := hf 0 _ rfl
        obtain ⟨v1, y1, c1, _, t1⟩ := hf 1 _ rfl
        obtain ⟨z0, e0, _, w0⟩ := DataW.trod_int (k := .u64) Try.underlying25 t0
        obtain ⟨z1, e1, _, w1⟩ := DataW.trod_int (k := .u64) Try.underlying25 t1
        simp at e0 e1
        subst e0 e1
        have b0 := bounds_u64 w0
        have b1 := bounds_u64 w1
        obtain ⟨k0, rfl⟩ : ∃ k : Nat, z0 = k := ⟨z0.toNat, by omega⟩
        obtain ⟨k1, rfl⟩ : ∃ k : Nat, z1 = k := ⟨z1.toNat, by omega⟩
        refine ⟨(k0, k1), ?_, by unfold TOP; simp only; omega, by unfold TOP; simp only; omega⟩
        intro j v hv
        match j, hv with
        | 0, hv => simp [scell] at hv; subst hv; exact c0
        | 1, hv => simp [scell] at hv; subst hv; exact c1
        | j + 2, hv => simp [scell] at hv)
      refine ⟨some a, len, cap, rows, rfl, ⟨⟨?_, fun h0 => ⟨a, rfl, ?_, fun j u hu => ?_⟩⟩, hol, by unfold maxLen at hm; omega⟩, fun r hr => ?_⟩
      · rw [flat_len (s := 2) _ (scell_len rows), List.length_map, hol, Nat.mul_comm]
      · have hx0 := List.getElem?_eq_getElem (show 0 < rows.length by omega)
        have hc0 := (hrows 0 _ hx0).1 0 _ rfl
        have := World.block_lt_of_cell? w _ hc0
        rwa [block_of_add] at this
      · have hj : j < rows.length * 2 := by
          have := (List.getElem?_eq_some_iff.1 hu).1
          rw [flat_len (s := 2) _ (scell_len rows), List.length_map, Nat.mul_comm] at this
          exact this
        have hk : rows[j / 2]? = some (rows[j / 2]'(by omega)) := List.getElem?_eq_getElem (by omega)
        have h1 := flat_cell (s := 2) (rows.map scell) (scell_len rows) (j / 2) (j % 2) (scell (rows[j / 2]'(by omega))) (by rw [List.getElem?_map, hk]; rfl) (by omega)
        rw [show 2 * (j / 2) + j % 2 = j by omega] at h1
        have h2 := (hrows _ _ hk).1 (j % 2) u (h1 ▸ hu)
        rw [show j / 2 * 2 + j % 2 = j by omega] at h2
        exact h2
      · obtain ⟨i, hi1, rfl⟩ := List.mem_iff_getElem.1 hr
        exact (hrows i _ (List.getElem?_eq_getElem hi1)).2
set_option maxRecDepth 100000 in
theorem open_bus {r : Reach} {b0 : Nat} {v : Value} {d : DataW H} {p : List MemPlace} (hv : Value.okWide Try.prog w r b0 24 v) (h : DataW.Trod enc Try.prog w base spare held 24 v d p) :
    ∃ A1 n1 c1 A2 n2 c2 s1 s2, v = .agg #[.slice A1 n1 c1, .slice A2 n2 c2] ∧ IsS w w.heap.size A1 n1 s1 ∧ IsS w w.heap.size A2 n2 s2 ∧ ∀ x ∈ s1 ++ s2, x.1 ≤ TOP ∧ x.2 ≤ TOP := by
  obtain ⟨v0, v1, y0, y1, n, rfl, h0, h1⟩ := open_agg2 Try.underlying24 (by kernel_rfl) (by kernel_rfl) hv h
  obtain ⟨A1, n1, c1, s1, rfl, hs1, ht1⟩ := open_ranges h0
  obtain ⟨A2, n2, c2, s2, rfl, hs2, ht2⟩ := open_ranges h1
  exact ⟨A1, n1, c1, A2, n2, c2, s1, s2, rfl, hs1, hs2, fun x hx => by
    rcases List.mem_append.1 hx with hx | hx
    · exact ht1 x hx
    · exact ht2 x hx⟩
end
end Go.Proofs.Ytmhkmemaneopeaa
