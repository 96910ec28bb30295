/- Texts of this claim, one behind the other: Structs, RowOpen, WalkOpen, LvB, RlA. -/
import Derived.ProofKit
import Derived.Lib.SmallJoins
import Derived.Deep.Slices
import Derived.OpenShut
import Derived.Test.YtfpofaniicegaaaGreatJWalkForeign1
import Derived.Test.YtfpofaniicegaaaGreatJWalkForeign27
import Derived.Test.YtfpofaniicegaaaGreatJWalkForeign23
import Derived.Test.YtfpofaniicegaaaGreatJWalkForeign21
import Derived.Test.YtfpofaniicegaaaGreatJWalkForeign22
/- Arguments that are structs by value or slices of structs, opened (the guide's page extra-structs, turned to this seat). -/
set_option linter.unusedVariables false
set_option linter.unusedSimpArgs false
namespace Go.Proofs.YtfpofaniicegaaaGreat
open Go.Joins Go.ChangeShapes Go.WideShapes Go.RowKit Go.Deep
section
variable {H : Type} {enc : TypeId × Value → H} {P : Program} {w : World} {base : Nat} {spare : Nat → Bool} {held : Bool}
theorem open_slice_fields {t e : TypeId} {fs : Array Field} {fuel : Nat} {cs : List Value} {x : DataW H × List MemPlace} (ht : P.underlying t = some (.slice e)) (he : P.underlying e = some (.struct fs))
    (hone : oneCellFields P fs = true) (hC : P.cellsOf e = fs.size) (h : DataW.trod enc P w base spare held fuel t cs = some x) :
    (cs = [.slice none 0 0] ∧ x = (.nil, [])) ∨
    ∃ (a : Addr) (len cap m : Nat) (D : Nat → DataW H) (Pl : Nat → List MemPlace), cs = [.slice (some a) len cap] ∧ base ≤ a.block ∧ len ≤ cap ∧ cap ≤ maxLen ∧ m = (if spare a.block then cap else len) ∧
      x = (.slice ((List.range len).map D) ((List.range (m - len)).map fun j => D (len + j)), MemPlace.row a (m * fs.size) ++ (List.range m).flatMap Pl) ∧
      ∀ i, i < m → ∃ (ys : List (DataW H × List MemPlace)) (n : Nat), D i = .agg (ys.map (·.1)) ∧ Pl i = ys.flatMap (·.2) ∧ ys.length = fs.size ∧
        ∀ (j : Nat) (f : Field), fs[j]? = some f → ∃ (v : Value) (y : DataW H × List MemPlace), w.cell? (a.add (i * fs.size + j)) = some v ∧ ys[j]? = some y ∧ DataW.trod enc P w base spare held n f.type [v] = some y := by
  rcases open_slice ht h with h0 | ⟨a, len, cap, m, n, D, Pl, hcs, hb, hl, hm, hmm, hx, hi⟩
  · exact .inl h0
  · refine .inr ⟨a, len, cap, m, D, Pl, hcs, hb, hl, hm, hmm, by rw [hC] at hx; exact hx, fun i him => ?_⟩
    obtain ⟨cs', hc, ht'⟩ := hi i him
    rw [hC] at hc
    obtain ⟨ys, n', hn', hy, hlen, hyl, hf⟩ := DataW.trod_struct he ht'
    obtain ⟨_, hcl, hat⟩ := World.cells?_some hc
    simp only [Prod.mk.injEq] at hy
    refine ⟨ys, n', hy.1, hy.2, hyl, fun j f hj => ?_⟩
    obtain ⟨ho, hk⟩ := hone_of hone j f hj
    have hjl : j < fs.size := (Array.getElem?_eq_some_iff.1 hj).1
    have hcell := hat j hjl
    have hv : cs'[j]? = some (cs'[j]'(by omega)) := List.getElem?_eq_getElem (by omega)
    have h1 := hf j f hj
    rw [ho, hk] at h1
    have hone' : (cs'.drop j).take 1 = [cs'[j]'(by omega)] := by
      rw [List.drop_eq_getElem_cons (by omega)]
      rfl
    rw [hone'] at h1
    have hys : ys[j]? = some (ys[j]'(by omega)) := List.getElem?_eq_getElem (by omega)
    refine ⟨_, _, ?_, hys, h1.trans hys⟩
    rw [← Go.Deep.add_add, hcell, hv]
end

section
variable {H : Type} {enc : TypeId × Value → H} {P : Program} {w : World} {base : Nat} {spare : Nat → Bool} {held : Bool}
theorem open_agg5 {r : Reach} {b0 : Nat} {t : TypeId} {f0 f1 f2 f3 f4 : Field} {v : Value} {d : DataW H} {p : List MemPlace} (hs : P.underlying t = some (.struct #[f0, f1, f2, f3, f4])) (hone : oneCellFields P #[f0, f1, f2, f3, f4] = true) (hC : P.cellsOf t = 5)
    (hv : Value.okWide P w r b0 t v) (h : DataW.Trod enc P w base spare held t v d p) :
    ∃ (v0 v1 v2 v3 v4 : Value) (y0 y1 y2 y3 y4 : DataW H × List MemPlace) (n : Nat), v = .agg #[v0, v1, v2, v3, v4] ∧ d = .agg [y0.1, y1.1, y2.1, y3.1, y4.1] ∧ p = y0.2 ++ (y1.2 ++ (y2.2 ++ (y3.2 ++ y4.2))) ∧
      DataW.trod enc P w base spare held n f0.type [v0] = some y0 ∧ DataW.trod enc P w base spare held n f1.type [v1] = some y1 ∧ DataW.trod enc P w base spare held n f2.type [v2] = some y2 ∧ DataW.trod enc P w base spare held n f3.type [v3] = some y3 ∧ DataW.trod enc P w base spare held n f4.type [v4] = some y4 := by
  obtain ⟨cs, rfl, hsz⟩ := okWide_struct hs hv
  obtain ⟨l⟩ := cs
  match l, hsz.trans hC with
  | [c0, c1, c2, c3, c4], _ =>
    obtain ⟨fuel, hf⟩ := h
    obtain ⟨xs, n, _, hx, _, hlen, hg⟩ := DataW.trod_struct hs hf
    obtain ⟨o0, k0⟩ := hone_of hone 0 f0 rfl
    obtain ⟨o1, k1⟩ := hone_of hone 1 f1 rfl
    obtain ⟨o2, k2⟩ := hone_of hone 2 f2 rfl
    obtain ⟨o3, k3⟩ := hone_of hone 3 f3 rfl
    obtain ⟨o4, k4⟩ := hone_of hone 4 f4 rfl
    match xs, hlen with
    | [y0, y1, y2, y3, y4], _ =>
      simp only [Prod.mk.injEq] at hx
      exact ⟨c0, c1, c2, c3, c4, y0, y1, y2, y3, y4, n, rfl, by simpa using hx.1, by simpa using hx.2, by simpa [Value.cells, o0, k0] using hg 0 f0 rfl, by simpa [Value.cells, o1, k1] using hg 1 f1 rfl, by simpa [Value.cells, o2, k2] using hg 2 f2 rfl, by simpa [Value.cells, o3, k3] using hg 3 f3 rfl, by simpa [Value.cells, o4, k4] using hg 4 f4 rfl⟩

theorem open_agg6 {r : Reach} {b0 : Nat} {t : TypeId} {f0 f1 f2 f3 f4 f5 : Field} {v : Value} {d : DataW H} {p : List MemPlace} (hs : P.underlying t = some (.struct #[f0, f1, f2, f3, f4, f5])) (hone : oneCellFields P #[f0, f1, f2, f3, f4, f5] = true) (hC : P.cellsOf t = 6)
    (hv : Value.okWide P w r b0 t v) (h : DataW.Trod enc P w base spare held t v d p) :
    ∃ (v0 v1 v2 v3 v4 v5 : Value) (y0 y1 y2 y3 y4 y5 : DataW H × List MemPlace) (n : Nat), v = .agg #[v0, v1, v2, v3, v4, v5] ∧ d = .agg [y0.1, y1.1, y2.1, y3.1, y4.1, y5.1] ∧ p = y0.2 ++ (y1.2 ++ (y2.2 ++ (y3.2 ++ (y4.2 ++ y5.2)))) ∧
      DataW.trod enc P w base spare held n f0.type [v0] = some y0 ∧ DataW.trod enc P w base spare held n f1.type [v1] = some y1 ∧ DataW.trod enc P w base spare held n f2.type [v2] = some y2 ∧ DataW.trod enc P w base spare held n f3.type [v3] = some y3 ∧ DataW.trod enc P w base spare held n f4.type [v4] = some y4 ∧ DataW.trod enc P w base spare held n f5.type [v5] = some y5 := by
  obtain ⟨cs, rfl, hsz⟩ := okWide_struct hs hv
  obtain ⟨l⟩ := cs
  match l, hsz.trans hC with
  | [c0, c1, c2, c3, c4, c5], _ =>
    obtain ⟨fuel, hf⟩ := h
    obtain ⟨xs, n, _, hx, _, hlen, hg⟩ := DataW.trod_struct hs hf
    obtain ⟨o0, k0⟩ := hone_of hone 0 f0 rfl
    obtain ⟨o1, k1⟩ := hone_of hone 1 f1 rfl
    obtain ⟨o2, k2⟩ := hone_of hone 2 f2 rfl
    obtain ⟨o3, k3⟩ := hone_of hone 3 f3 rfl
    obtain ⟨o4, k4⟩ := hone_of hone 4 f4 rfl
    obtain ⟨o5, k5⟩ := hone_of hone 5 f5 rfl
    match xs, hlen with
    | [y0, y1, y2, y3, y4, y5], _ =>
      simp only [Prod.mk.injEq] at hx
      exact ⟨c0, c1, c2, c3, c4, c5, y0, y1, y2, y3, y4, y5, n, rfl, by simpa using hx.1, by simpa using hx.2, by simpa [Value.cells, o0, k0] using hg 0 f0 rfl, by simpa [Value.cells, o1, k1] using hg 1 f1 rfl, by simpa [Value.cells, o2, k2] using hg 2 f2 rfl, by simpa [Value.cells, o3, k3] using hg 3 f3 rfl, by simpa [Value.cells, o4, k4] using hg 4 f4 rfl, by simpa [Value.cells, o5, k5] using hg 5 f5 rfl⟩
end

end Go.Proofs.YtfpofaniicegaaaGreat

/- An argument that is a slice of bytes: opened to its bytes. -/
set_option linter.unusedVariables false
set_option linter.unusedSimpArgs false
namespace Go.Proofs.YtfpofaniicegaaaGreat
open Go.Joins Go.ChangeShapes Go.WideShapes Go.RowKit Go.Deep
theorem list_of {α : Type} {P : Nat → α → Prop} : ∀ n, (∀ i, i < n → ∃ x, P i x) → ∃ l : List α, l.length = n ∧ ∀ (i : Nat) (x : α), l[i]? = some x → P i x
  | 0, _ => ⟨[], rfl, fun i x h => by simp at h⟩
  | n + 1, h => by
    obtain ⟨l, hl, hp⟩ := list_of n (fun i hi => h i (by omega))
    obtain ⟨x, hx⟩ := h n (by omega)
    refine ⟨l ++ [x], by simp [hl], fun i y hy => ?_⟩
    by_cases hi : i < l.length
    · rw [List.getElem?_append_left hi] at hy
      exact hp i y hy
    · have hlt := (List.getElem?_eq_some_iff.1 hy).1
      simp at hlt
      have : i = n := by omega
      subst this
      rw [List.getElem?_append_right (by omega)] at hy
      simp [hl] at hy
      subst hy
      exact hx
section
variable {H : Type} {enc : TypeId × Value → H} {w : World} {base : Nat} {spare : Nat → Bool} {held : Bool}
theorem trod_row {fuel : Nat} {v : Value} {y : DataW H × List MemPlace} (h : DataW.trod enc Tryz.prog w base spare held fuel 45 [v] = some y) : ∃ A l c, v = .slice A l c ∧ ∃ bs, IsB w w.heap.size A l bs ∧ (A = none → c = 0) := by
  rcases DataW.trod_slice Tryz.underlying45 h with ⟨hcs, _⟩ | ⟨a, len, cap, elems, rest, n, _, hcs, rfl, hb, hl, hm, hlen, hel, hsp, hns⟩
  · simp at hcs
    subst hcs
    exact ⟨none, 0, 0, rfl, [], ⟨Reads.none_, by simp, by omega⟩, fun _ => rfl⟩
  · simp at hcs
    subst hcs
    rcases open_slice Tryz.underlying45 h with ⟨h0, _⟩ | ⟨a', len', cap', m, n', D, Pl, hcs, hb, hl, hm, hmm, hx, hi⟩
    · simp at h0
    · simp at hcs
      obtain ⟨rfl, rfl, rfl⟩ := hcs
      refine ⟨some a, len, cap, rfl, ?_⟩
      have hle : len ≤ m := by rw [hmm]; split <;> omega
      have hc1 : Tryz.prog.cellsOf 5 = 1 := by kernel_rfl
      obtain ⟨bs, hbl, hbs⟩ := list_of (P := fun i b => w.cell? (a.add i) = some (u8 b) ∧ b < 256) len (fun i hil => by
        obtain ⟨cs', h1, h2⟩ := hi i (by omega)
        rw [hc1, Nat.mul_one] at h1
        obtain ⟨z, rfl, _, hw⟩ := DataW.trod_int (k := .u8) Tryz.underlying5 h2
        obtain ⟨_, _, hat⟩ := World.cells?_some h1
        obtain ⟨s, rfl, hs⟩ := nat_of_u8 hw
        have := hat 0 (by omega)
        rw [add_of_add, Nat.add_zero] at this
        exact ⟨s, by rw [this]; rfl, hs⟩)
      refine ⟨bs, ⟨⟨by simp [hbl], fun h0 => ⟨a, rfl, ?_, fun j u hu => ?_⟩⟩, fun b hb' => ?_, by unfold maxLen at hm; omega⟩, fun h => by cases h⟩
      · have h2 := (hbs 0 _ (List.getElem?_eq_getElem (by omega))).1
        have := World.block_lt_of_cell? w _ h2
        rwa [block_of_add] at this
      · rw [List.getElem?_map] at hu
        obtain ⟨b, hb1, rfl⟩ := Option.map_eq_some_iff.1 hu
        exact (hbs j b hb1).1
      · obtain ⟨i, hi1, rfl⟩ := List.mem_iff_getElem.1 hb'
        exact (hbs i _ (List.getElem?_eq_getElem hi1)).2
set_option maxRecDepth 100000 in
theorem trod_le {fuel : Nat} {A : Option Addr} {l c : Nat} {y : DataW H × List MemPlace} (h : DataW.trod enc Tryz.prog w base spare held fuel 45 [.slice A l c] = some y) : l ≤ c := by
  rcases DataW.trod_slice Tryz.underlying45 h with ⟨hcs, _⟩ | ⟨a, len, cap, elems, rest, n, _, hcs, rfl, hb, hl, hm, hlen, hel, hsp, hns⟩
  · simp at hcs; omega
  · simp at hcs; omega
end
end Go.Proofs.YtfpofaniicegaaaGreat

/- Arguments that are a bus, or words of a memory: opened. -/
set_option linter.unusedVariables false
set_option linter.unusedSimpArgs false
namespace Go.Proofs.YtfpofaniicegaaaGreat
open Go.Joins Go.ChangeShapes Go.WideShapes Go.RowKit Go.Deep
open S64
section
variable {H : Type} {enc : TypeId × Value → H} {w : World} {base : Nat} {spare : Nat → Bool} {held : Bool}
theorem open_agg2 {P : Program} {r : Reach} {b0 : Nat} {t : TypeId} {f0 f1 : Field} {v : Value} {d : DataW H} {p : List MemPlace} (hs : P.underlying t = some (.struct #[f0, f1])) (hone : oneCellFields P #[f0, f1] = true) (hC : P.cellsOf t = 2)
    (hv : Value.okWide P w r b0 t v) (h : DataW.Trod enc P w base spare held t v d p) :
    ∃ (v0 v1 : Value) (y0 y1 : DataW H × List MemPlace) (n : Nat), v = .agg #[v0, v1] ∧ DataW.trod enc P w base spare held n f0.type [v0] = some y0 ∧ DataW.trod enc P w base spare held n f1.type [v1] = some y1 := by
  obtain ⟨cs, rfl, hsz⟩ := okWide_struct hs hv
  obtain ⟨l⟩ := cs
  match l, hsz.trans hC with
  | [c0, c1], _ =>
    obtain ⟨fuel, hf⟩ := h
    obtain ⟨xs, n, _, hx, _, hlen, hg⟩ := DataW.trod_struct hs hf
    obtain ⟨o0, k0⟩ := hone_of hone 0 f0 rfl
    obtain ⟨o1, k1⟩ := hone_of hone 1 f1 rfl
    match xs, hlen with
    | [y0, y1], _ =>
      exact ⟨c0, c1, y0, y1, n, rfl, by simpa [Value.cells, o0, k0] using hg 0 f0 rfl, by simpa [Value.cells, o1, k1] using hg 1 f1 rfl⟩
set_option maxRecDepth 100000 in
theorem open_ranges {fuel : Nat} {v : Value} {y : DataW H × List MemPlace} (h : DataW.trod enc Tryz.prog w base spare held fuel 22 [v] = some y) : ∃ A l c s, v = .slice A l c ∧ IsS w w.heap.size A l s ∧ ∀ x ∈ s, x.1 ≤ TOP ∧ x.2 ≤ TOP := by
  have hC : Tryz.prog.cellsOf 62 = 2 := by kernel_rfl
  rcases DataW.trod_slice Tryz.underlying22 h with ⟨hcs, _⟩ | ⟨a, len, cap, elems, rest, n, _, hcs, rfl, hb, hl, hm, hlen, hel, hsp, hns⟩
  · simp at hcs
    subst hcs
    exact ⟨none, 0, 0, [], rfl, IsS.none_, fun x hx => by cases hx⟩
  · simp at hcs
    subst hcs
    rcases open_slice_fields Tryz.underlying22 Tryz.underlying62 (by kernel_rfl) hC h with ⟨hcs, _⟩ | ⟨a', len', cap', m, D, Pl, hcs, hb, hl, hm, hmm, hx, hi⟩
    · simp at hcs
    · simp at hcs
      obtain ⟨rfl, rfl, rfl⟩ := hcs
      have hle : len ≤ m := by rw [hmm]; split <;> omega
      obtain ⟨rows, hol, hrows⟩ := list_of (P := fun i (r : Nat × Nat) => (∀ (j : Nat) (v : Value), (scell r)[j]? = some v → w.cell? (a.add (i * 2 + j)) = some v) ∧ r.1 ≤ TOP ∧ r.2 ≤ TOP) len (fun i hil => by
        obtain ⟨ys, n, _, _, _, hf⟩ := hi i (by omega)
        obtain ⟨v0, y0, c0, _, t0⟩ := hf 0 _ rfl
        obtain ⟨v1, y1, c1, _, t1⟩ := hf 1 _ rfl
        obtain ⟨z0, e0, _, w0⟩ := DataW.trod_int (k := .u64) Tryz.underlying31 t0
        obtain ⟨z1, e1, _, w1⟩ := DataW.trod_int (k := .u64) Tryz.underlying31 t1
        simp at e0 e1
        subst e0 e1
        have b0 := bounds_u64 w0
        have b1 := bounds_u64 w1
        obtain ⟨k0, rfl⟩ : ∃ k : Nat, z0 = k := ⟨z0.toNat, by omega⟩
        obtain ⟨k1, rfl⟩ : ∃ k : Nat, z1 = k := ⟨z1.toNat, by omega⟩
        refine ⟨(k0, k1), ?_, by unfold TOP; simp only; omega, by unfold TOP; simp only; omega⟩
        intro j v hv
        match j, hv with
        | 0, hv => simp [scell] at hv; subst hv; exact c0
        | 1, hv => simp [scell] at hv; subst hv; exact c1
        | j + 2, hv => simp [scell] at hv)
      refine ⟨some a, len, cap, rows, rfl, ⟨⟨?_, fun h0 => ⟨a, rfl, ?_, fun j u hu => ?_⟩⟩, hol, by unfold maxLen at hm; omega⟩, fun r hr => ?_⟩
      · rw [flat_len (s := 2) _ (scell_len rows), List.length_map, hol, Nat.mul_comm]
      · have hx0 := List.getElem?_eq_getElem (show 0 < rows.length by omega)
        have hc0 := (hrows 0 _ hx0).1 0 _ rfl
        have := World.block_lt_of_cell? w _ hc0
        rwa [block_of_add] at this
      · have hj : j < rows.length * 2 := by
          have := (List.getElem?_eq_some_iff.1 hu).1
          rw [flat_len (s := 2) _ (scell_len rows), List.length_map, Nat.mul_comm] at this
          exact this
        have hk : rows[j / 2]? = some (rows[j / 2]'(by omega)) := List.getElem?_eq_getElem (by omega)
        have h1 := flat_cell (s := 2) (rows.map scell) (scell_len rows) (j / 2) (j % 2) (scell (rows[j / 2]'(by omega))) (by rw [List.getElem?_map, hk]; rfl) (by omega)
        rw [show 2 * (j / 2) + j % 2 = j by omega] at h1
        have h2 := (hrows _ _ hk).1 (j % 2) u (h1 ▸ hu)
        rw [show j / 2 * 2 + j % 2 = j by omega] at h2
        exact h2
      · obtain ⟨i, hi1, rfl⟩ := List.mem_iff_getElem.1 hr
        exact (hrows i _ (List.getElem?_eq_getElem hi1)).2
set_option maxRecDepth 100000 in
theorem open_words {fuel : Nat} {v : Value} {y : DataW H × List MemPlace} (h : DataW.trod enc Tryz.prog w base spare held fuel 25 [v] = some y) : ∃ A l c s, v = .slice A l c ∧ IsS w w.heap.size A l s ∧ ∀ x ∈ s, x.1 ≤ TOP ∧ x.2 ≤ TOP := by
  have hC : Tryz.prog.cellsOf 36 = 2 := by kernel_rfl
  rcases DataW.trod_slice Tryz.underlying25 h with ⟨hcs, _⟩ | ⟨a, len, cap, elems, rest, n, _, hcs, rfl, hb, hl, hm, hlen, hel, hsp, hns⟩
  · simp at hcs
    subst hcs
    exact ⟨none, 0, 0, [], rfl, IsS.none_, fun x hx => by cases hx⟩
  · simp at hcs
    subst hcs
    rcases open_slice_fields Tryz.underlying25 Tryz.underlying36 (by kernel_rfl) hC h with ⟨hcs, _⟩ | ⟨a', len', cap', m, D, Pl, hcs, hb, hl, hm, hmm, hx, hi⟩
    · simp at hcs
    · simp at hcs
      obtain ⟨rfl, rfl, rfl⟩ := hcs
      have hle : len ≤ m := by rw [hmm]; split <;> omega
      obtain ⟨rows, hol, hrows⟩ := list_of (P := fun i (r : Nat × Nat) => (∀ (j : Nat) (v : Value), (scell r)[j]? = some v → w.cell? (a.add (i * 2 + j)) = some v) ∧ r.1 ≤ TOP ∧ r.2 ≤ TOP) len (fun i hil => by
        obtain ⟨ys, n, _, _, _, hf⟩ := hi i (by omega)
        obtain ⟨v0, y0, c0, _, t0⟩ := hf 0 _ rfl
        obtain ⟨v1, y1, c1, _, t1⟩ := hf 1 _ rfl
        obtain ⟨z0, e0, _, w0⟩ := DataW.trod_int (k := .u64) Tryz.underlying31 t0
        obtain ⟨z1, e1, _, w1⟩ := DataW.trod_int (k := .u64) Tryz.underlying31 t1
        simp at e0 e1
        subst e0 e1
        have b0 := bounds_u64 w0
        have b1 := bounds_u64 w1
        obtain ⟨k0, rfl⟩ : ∃ k : Nat, z0 = k := ⟨z0.toNat, by omega⟩
        obtain ⟨k1, rfl⟩ : ∃ k : Nat, z1 = k := ⟨z1.toNat, by omega⟩
        refine ⟨(k0, k1), ?_, by unfold TOP; simp only; omega, by unfold TOP; simp only; omega⟩
        intro j v hv
        match j, hv with
        | 0, hv => simp [scell] at hv; subst hv; exact c0
        | 1, hv => simp [scell] at hv; subst hv; exact c1
        | j + 2, hv => simp [scell] at hv)
      refine ⟨some a, len, cap, rows, rfl, ⟨⟨?_, fun h0 => ⟨a, rfl, ?_, fun j u hu => ?_⟩⟩, hol, by unfold maxLen at hm; omega⟩, fun r hr => ?_⟩
      · rw [flat_len (s := 2) _ (scell_len rows), List.length_map, hol, Nat.mul_comm]
      · have hx0 := List.getElem?_eq_getElem (show 0 < rows.length by omega)
        have hc0 := (hrows 0 _ hx0).1 0 _ rfl
        have := World.block_lt_of_cell? w _ hc0
        rwa [block_of_add] at this
      · have hj : j < rows.length * 2 := by
          have := (List.getElem?_eq_some_iff.1 hu).1
          rw [flat_len (s := 2) _ (scell_len rows), List.length_map, Nat.mul_comm] at this
          exact this
        have hk : rows[j / 2]? = some (rows[j / 2]'(by omega)) := List.getElem?_eq_getElem (by omega)
        have h1 := flat_cell (s := 2) (rows.map scell) (scell_len rows) (j / 2) (j % 2) (scell (rows[j / 2]'(by omega))) (by rw [List.getElem?_map, hk]; rfl) (by omega)
        rw [show 2 * (j / 2) + j % 2 = j by omega] at h1
        have h2 := (hrows _ _ hk).1 (j % 2) u (h1 ▸ hu)
        rw [show j / 2 * 2 + j % 2 = j by omega] at h2
        exact h2
      · obtain ⟨i, hi1, rfl⟩ := List.mem_iff_getElem.1 hr
        exact (hrows i _ (List.getElem?_eq_getElem hi1)).2
set_option maxRecDepth 100000 in
theorem open_bus {r : Reach} {b0 : Nat} {v : Value} {d : DataW H} {p : List MemPlace} (hv : Value.okWide Tryz.prog w r b0 24 v) (h : DataW.Trod enc Tryz.prog w base spare held 24 v d p) :
    ∃ A1 n1 c1 A2 n2 c2 s1 s2, v = .agg #[.slice A1 n1 c1, .slice A2 n2 c2] ∧ IsS w w.heap.size A1 n1 s1 ∧ IsS w w.heap.size A2 n2 s2 ∧ ∀ x ∈ s1 ++ s2, x.1 ≤ TOP ∧ x.2 ≤ TOP := by
  obtain ⟨v0, v1, y0, y1, n, rfl, h0, h1⟩ := open_agg2 Tryz.underlying24 (by kernel_rfl) (by kernel_rfl) hv h
  obtain ⟨A1, n1, c1, s1, rfl, hs1, ht1⟩ := open_ranges h0
  obtain ⟨A2, n2, c2, s2, rfl, hs2, ht2⟩ := open_ranges h1
  exact ⟨A1, n1, c1, A2, n2, c2, s1, s2, rfl, hs1, hs2, fun x hx => by
    rcases List.mem_append.1 hx with hx | hx
    · exact ht1 x hx
    · exact ht2 x hx⟩
end
end Go.Proofs.YtfpofaniicegaaaGreat

/- What Leaves tells, in plain Lean. -/
set_option linter.unusedVariables false
set_option linter.unusedSimpArgs false
namespace Go.Proofs.YtfpofaniicegaaaGreat
open Go.RowKit
open S64
namespace Bu
/-- what is told at a time -/
structure Lv where
  v : Nat
  p : Nat
  n : Nat
  b : Bool
  w : Bool
  x : Bool
  no : Nat
deriving DecidableEq
def lvV (l : Lv) : Value := .agg #[.int .u64 (l.v : Nat), .int .u64 (l.p : Nat), .int .i64 (l.n : Nat), .bool l.b, .bool l.w, .bool l.x]
def lvEnc (l : Lv) : Array Value := #[lvV l, .int .i64 (l.no : Nat)]
def leafAt (lv at_ : Nat) (r : Ent.E × Nat) : Lv := if r.2 = 0 then ⟨at_, r.1.F, rch lv / 4096, r.1.b, r.1.w, r.1.x, 0⟩ else ⟨at_, 0, rch lv / 4096, false, false, false, r.2⟩
/-- what is left of a table: d entries -/
def lvR (M : PM) (sub : Nat → Nat → Nat → List Lv × Nat × Bool) (lv tab virt : Nat) : Nat → Nat → List Lv × Nat × Bool
  | 0, left => ([], left, true)
  | d + 1, left =>
    if (entM M tab (511 - d) lv).2 = 41 then lvR M sub lv tab virt d left
    else if (entM M tab (511 - d) lv).2 = 0 ∧ (entM M tab (511 - d) lv).1.t = true then
      (if left ≤ 1 then ([], 0, false)
       else if (sub (entM M tab (511 - d) lv).1.F (virt + (511 - d) * rch lv) (left - 1)).2.2 = true then
         ((sub (entM M tab (511 - d) lv).1.F (virt + (511 - d) * rch lv) (left - 1)).1 ++ (lvR M sub lv tab virt d (sub (entM M tab (511 - d) lv).1.F (virt + (511 - d) * rch lv) (left - 1)).2.1).1, (lvR M sub lv tab virt d (sub (entM M tab (511 - d) lv).1.F (virt + (511 - d) * rch lv) (left - 1)).2.1).2)
       else ((sub (entM M tab (511 - d) lv).1.F (virt + (511 - d) * rch lv) (left - 1)).1, (sub (entM M tab (511 - d) lv).1.F (virt + (511 - d) * rch lv) (left - 1)).2.1, false))
    else if left ≤ 1 then ([leafAt lv (virt + (511 - d) * rch lv) (entM M tab (511 - d) lv)], 0, false)
    else (leafAt lv (virt + (511 - d) * rch lv) (entM M tab (511 - d) lv) :: (lvR M sub lv tab virt d (left - 1)).1, (lvR M sub lv tab virt d (left - 1)).2)
/-- what lies under a table -/
def lvT (M : PM) : Nat → Nat → Nat → Nat → Nat → List Lv × Nat × Bool
  | 0, _, _, _, left => ([], left, true)
  | k + 1, lv, tab, virt, left => lvR M (lvT M k (lv + 1)) lv tab virt 512 left
/-- what Leaves tells -/
def lvs (M : PM) (root : Nat) (most : Int) : List Lv := if most < 1 then [] else if root % 4096 ≠ 0 then [⟨0, 0, 134217728, false, false, false, 42⟩] else (lvT M 3 0 root 0 most.toNat).1
theorem lvR_left {M : PM} {sub : Nat → Nat → Nat → List Lv × Nat × Bool} {lv tab virt : Nat} (hs : ∀ a b l, 1 ≤ l → (sub a b l).2.1 ≤ l ∧ ((sub a b l).2.2 = true → 1 ≤ (sub a b l).2.1)) : ∀ d left, 1 ≤ left → (lvR M sub lv tab virt d left).2.1 ≤ left ∧ ((lvR M sub lv tab virt d left).2.2 = true → 1 ≤ (lvR M sub lv tab virt d left).2.1) := by
  intro d
  induction d with
  | zero => intro left h; exact ⟨Nat.le_refl _, fun _ => h⟩
  | succ d ih =>
    intro left h
    unfold lvR
    split
    · exact ih left h
    · split
      · split
        · exact ⟨by simp, fun h => by simp at h⟩
        · rename_i hl
          have h1 := hs (entM M tab (511 - d) lv).1.F (virt + (511 - d) * rch lv) (left - 1) (by omega)
          split
          · rename_i hg
            have h2 := ih _ (h1.2 hg)
            exact ⟨by have := h2.1; have := h1.1; simp only; omega, h2.2⟩
          · exact ⟨by have := h1.1; simp only; omega, fun h => by simp at h⟩
      · split
        · exact ⟨by simp, fun h => by simp at h⟩
        · have h2 := ih (left - 1) (by omega)
          exact ⟨by have := h2.1; simp only; omega, h2.2⟩
theorem lvT_left {M : PM} : ∀ k lv tab virt left, 1 ≤ left → (lvT M k lv tab virt left).2.1 ≤ left ∧ ((lvT M k lv tab virt left).2.2 = true → 1 ≤ (lvT M k lv tab virt left).2.1) := by
  intro k
  induction k with
  | zero => intro lv tab virt left h; exact ⟨Nat.le_refl _, fun _ => h⟩
  | succ k ih =>
    intro lv tab virt left h
    exact lvR_left (fun a b l hl => ih (lv + 1) a b l hl) 512 left h
end Bu
end Go.Proofs.YtfpofaniicegaaaGreat

/- The walk of the document's peek. -/
set_option linter.unusedVariables false
set_option linter.unusedSimpArgs false
namespace Go.Proofs.YtfpofaniicegaaaGreat
open Go.RowKit
open S64
namespace Bu
theorem DM.setS {Z : Nat → Prop} {w : World} {B g : Nat} {M : PM} (h : DM Z w B g M) (s : Int) : DM Z (w.setCell ⟨g, 5, none⟩ (.int .i64 s)) B g (sM M s) ∧ ChgP Z w (w.setCell ⟨g, 5, none⟩ (.int .i64 s)) := by
  obtain ⟨A1, A2, Ap, n1, n2, c1, c2, np, cp, pgs, hd⟩ := h
  have hm := hd.m.count 5 (.int .i64 s) (sM M s) rfl rfl rfl rfl
  have hc : ChgP (fun k => k = g) w (w.setCell ⟨g, 5, none⟩ (.int .i64 s)) := ChgP.set_ (Z := fun k => k = g) (ChgP.refl _ w) (p := ⟨g, 5, none⟩) (.inl rfl) _
  obtain ⟨h1, h2⟩ := hd.quiet ⟨hm, hc⟩ rfl rfl rfl
  exact ⟨⟨A1, A2, Ap, n1, n2, c1, c2, np, cp, pgs, h1⟩, h2⟩
theorem DM.strays {Z : Nat → Prop} {w : World} {B g : Nat} {M : PM} (h : DM Z w B g M) : w.cell? ⟨g, 5, none⟩ = some (.int .i64 M.strays) ∧ w.frozen? ⟨g, 5, none⟩ = false ∧ g < w.heap.size := by
  obtain ⟨A1, A2, Ap, n1, n2, c1, c2, np, cp, pgs, hd⟩ := h
  exact ⟨hd.m.row.cell 5, hd.m.row.frozen 5, hd.m.row.lt⟩
theorem sM_stray (M : PM) (F : Option Nat) : sM (stray M F) M.strays = M := by cases F <;> rfl
/-- is the entry on the bus? -/
def onE (M : PM) (a : Nat) : Bool := (rdM M a).isSome
set_option maxRecDepth 100000 in
set_option maxHeartbeats 1000000 in
theorem rpeek4_any {Z : Nat → Prop} {w : World} {B g : Nat} {M : PM} (h : DM Z w B g M) (a : Nat) (ha : a ≤ 18446744073709551615) :
    Calls Tryz.prog 39 #[.pointer (some ⟨g, 0, none⟩), .int .u64 (a : Nat)] w fun e w' => e = .returned (.tuple #[.int .u64 (((rdM M a).getD 0 : Nat) : Nat), .bool (onE M a)]) ∧ DM Z w' B g M ∧ ChgP Z w w' := by
  have HM := Lib.hid h
  have HPK := Lib.hid (rpeek_m (n := 8) h (by omega) (show a ≤ TOP by unfold TOP; omega) trivial (offF_is (show Lim M from h.lim) (show a ≤ TOP by unfold TOP; omega)))
  have HRD := Lib.hid (rdM_off (M := M) (a := a))
  obtain ⟨P, hP⟩ : ∃ P, P = peekV M a 8 (offF M a 8) := ⟨_, rfl⟩
  rw [← hP] at HPK
  have HP := Lib.hid hP
  obtain ⟨F, hF⟩ : ∃ F, F = offF M a 8 := ⟨_, rfl⟩
  rw [← hF, faultV_eq] at HPK
  have HF := Lib.hid hF
  have HV : Hid ((rdM M a).getD 0 = P ∧ (onE M a = true ↔ F = none)) := Lib.hid (by
    unfold onE
    cases hr : rdM M a with
    | none =>
      obtain ⟨q, hq⟩ := HRD.out.1.1 hr
      rw [hP, hF, hq]
      simp [peekV]
    | some e =>
      obtain ⟨h1, h2⟩ := HRD.out.2 e hr
      rw [hP, hF, h1]
      simp [peekV, h2])
  obtain ⟨s0, s1, s2⟩ := h.strays
  clear h hP hF
  go_enter Tryz.func39, Tryz.ntmps39
  go_wp2_with fail
  refine HPK.out.mono ?_
  rintro e w2 ⟨rfl, hm2, hc2⟩
  clear s0 s1 s2 HPK
  go_upto_region 3 with fail
  have hrf := Row.new w2 33 [.int .i64 (fno F : Nat), .int .u64 (F.getD 0 : Nat)]
  have hb3 : Below w2.heap.size w2 (w2.alloc (.cells #[.int .i64 (fno F : Nat), .int .u64 (F.getD 0 : Nat)] 33)) := (Below.refl _ _).alloc (Nat.le_refl _) _
  have hm3 := hm2.below hb3
  have hc3 : ChgP Z w (w2.alloc (.cells #[.int .i64 (fno F : Nat), .int .u64 (F.getD 0 : Nat)] 33)) := hc2.alloc _
  obtain ⟨cf, hcf⟩ : ∃ cf, cf = w2.heap.size := ⟨_, rfl⟩
  have hgc : g < cf := by rw [hcf]; exact hm2.strays.2.2
  generalize w2.alloc (.cells #[.int .i64 (fno F : Nat), .int .u64 (F.getD 0 : Nat)] 33) = w3 at *
  rw [← hcf] at hrf ⊢
  obtain ⟨s0, s1, s2⟩ := hm3.strays
  obtain ⟨hm4, hc4⟩ := hm3.setS M.strays
  rw [sM_stray] at hm4
  have hg : ChgP (fun k => k = g) w3 (w3.setCell ⟨g, 5, none⟩ (.int .i64 M.strays)) := ChgP.set_ (Z := fun k => k = g) (ChgP.refl _ w3) (p := ⟨g, 5, none⟩) (.inl rfl) _
  have hrf4 := hg.row hrf (by omega)
  have HM4 := Lib.hid (And.intro hm4 (hc3.trans hc4 (fun x hx => .inl hx)))
  clear hm2 hc2 hb3 hm3 hc3 hcf hrf hm4 hc4 hg
  go_upto_region 4 with fail
  clear s0 s1 s2
  generalize w3.setCell ⟨g, 5, none⟩ (.int .i64 M.strays) = w4 at *
  have f0 := hrf4.cell 0
  have fl := hrf4.lt
  simp only [List.getElem?_cons_zero] at f0
  cases F with
  | none =>
    unfold fno at f0
    have HON : Hid ((rdM M a).getD 0 = P ∧ onE M a = true) := Lib.hid ⟨HV.out.1, by simpa using HV.out.2⟩
    clear HV
    go_quiet (fail)
    go_wp2_with fail
    go_ret2
    refine ⟨?_, HM4.out.1.below (below_drewN (Below.refl _ _) _), HM4.out.2.drewN _⟩
    rw [HON.out.1, HON.out.2]
    rfl
  | some q =>
    unfold fno at f0
    have HON : Hid ((rdM M a).getD 0 = P ∧ onE M a = false) := Lib.hid ⟨HV.out.1, by simpa using HV.out.2⟩
    clear HV
    go_quiet (fail)
    go_wp2_with fail
    go_ret2
    refine ⟨?_, HM4.out.1.below (below_drewN (Below.refl _ _) _), HM4.out.2.drewN _⟩
    rw [HON.out.1, HON.out.2]
    rfl
end Bu
end Go.Proofs.YtfpofaniicegaaaGreat
