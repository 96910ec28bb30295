/- Texts of this claim, one behind the other: RlE. -/
import Derived.Test.YtfpofaniicegaaaJWalkLeaves33
import Derived.Test.YtfpofaniicegaaaJWalkLeaves35
import Derived.Test.YtfpofaniicegaaaJWalkLeaves28
import Derived.Laws.OwnMore
/- What WalkLeaves collects: leaves and their refusals, in two lists. -/
set_option linter.unusedVariables false
set_option linter.unusedSimpArgs false
namespace Go.Proofs.Ytfpofaniicegaaa
open Go.RowKit
open S64
namespace Bu
def lvC (l : Lv) : List Value := [.int .u64 (l.v : Nat), .int .u64 (l.p : Nat), .int .i64 (l.n : Nat), .bool l.b, .bool l.w, .bool l.x]
def lvAll (L : List Lv) : List Value := L.flatMap lvC
def noV (l : Lv) : Value := .int .i64 (l.no : Nat)
theorem lvAll_snoc (L : List Lv) (x : Lv) : lvAll (L ++ [x]) = lvAll L ++ lvC x := by simp [lvAll]
theorem noAll_snoc (L : List Lv) (x : Lv) : (L ++ [x]).map noV = L.map noV ++ [noV x] := by simp
theorem oneCell_lv (l : Lv) : ∀ v ∈ lvC l, v.oneCell' = true := by
  intro u hu
  simp only [lvC, List.mem_cons, List.not_mem_nil, or_false] at hu
  rcases hu with rfl | rfl | rfl | rfl | rfl | rfl <;> rfl
theorem lvAll_at : ∀ (L : List Lv) (k j : Nat) (x : Lv), L[k]? = some x → j < 6 → (lvAll L)[k * 6 + j]? = (lvC x)[j]?
  | [], k, j, a, h, _ => by simp at h
  | y :: L, 0, j, a, h, hj => by
    simp at h; subst h
    unfold lvAll
    rw [List.flatMap_cons, Nat.zero_mul, Nat.zero_add, List.getElem?_append_left (by simp [lvC]; omega)]
  | y :: L, k + 1, j, a, h, hj => by
    have hl : (lvC y).length = 6 := rfl
    have := lvAll_at L k j a (by simpa using h) hj
    unfold lvAll at this ⊢
    rw [List.flatMap_cons, List.getElem?_append_right (by rw [hl]; omega), hl, show (k + 1) * 6 + j - 6 = k * 6 + j by omega]
    exact this
/-- two lists in cells -/
structure Col (gl gw lo : Nat) (A : Option Addr) (c : Nat) (A' : Option Addr) (c' : Nat) (n : Nat) (L : List Lv) (W : World) : Prop where
  len : L.length = n
  r1 : Row W gl 63 [.slice A n c]
  r2 : Row W gw 64 [.slice A' n c']
  o1 : W.ownsRow lo 72 6 (.slice A n c) n (lvAll L)
  o2 : W.ownsRow lo 25 1 (.slice A' n c') n (L.map noV)
theorem Col.chg {gl gw lo : Nat} {A : Option Addr} {c : Nat} {A' : Option Addr} {c' n : Nat} {L : List Lv} {W W' : World} {Y : Nat → Prop} (h : Col gl gw lo A c A' c' n L W) (hc : ChgP Y W W') (h1 : ¬ Y gl) (h2 : ¬ Y gw) (h3 : ∀ k, lo ≤ k → ¬ Y k) : Col gl gw lo A c A' c' n L W' :=
  ⟨h.len, hc.row h.r1 h1, hc.row h.r2 h2, owns_chgP h.o1 hc (fun k hk => h3 k (World.ownsRow.lt h.o1 k hk).1), owns_chgP h.o2 hc (fun k hk => h3 k (World.ownsRow.lt h.o2 k hk).1)⟩
/-- where they lie -/
theorem Col.form {gl gw lo : Nat} {A : Option Addr} {c : Nat} {A' : Option Addr} {c' n : Nat} {L : List Lv} {W : World} (h : Col gl gw lo A c A' c' n L W) :
    ∃ ga gb, Hid (0 < n → A = some ⟨ga, 0, none⟩ ∧ A' = some ⟨gb, 0, none⟩) := by
  rcases Nat.eq_zero_or_pos n with h0 | h0
  · exact ⟨0, 0, fun h => absurd h (by omega)⟩
  · rcases h.o1.2 with ⟨_, hn⟩ | ⟨g, cap, cur, hv, _⟩
    · omega
    · rcases h.o2.2 with ⟨_, hn⟩ | ⟨g', cap', cur', hv', _⟩
      · omega
      · injection hv with e1
        injection hv' with e2
        exact ⟨g, g', fun _ => ⟨e1, e2⟩⟩
theorem Col.at_ {gl gw lo : Nat} {ga gb c c' n : Nat} {L : List Lv} {W : World} (h : Col gl gw lo (some ⟨ga, 0, none⟩) c (some ⟨gb, 0, none⟩) c' n L W) {i : Nat} {x : Lv} (hi : L[i]? = some x) :
    W.cell? ⟨ga, i * 6, none⟩ = some (.int .u64 (x.v : Nat)) ∧ W.cell? ⟨ga, i * 6 + 1, none⟩ = some (.int .u64 (x.p : Nat)) ∧ W.cell? ⟨ga, i * 6 + 2, none⟩ = some (.int .i64 (x.n : Nat)) ∧ W.cell? ⟨ga, i * 6 + 3, none⟩ = some (.bool x.b) ∧ W.cell? ⟨ga, i * 6 + 4, none⟩ = some (.bool x.w) ∧ W.cell? ⟨ga, i * 6 + 5, none⟩ = some (.bool x.x) ∧ W.cell? ⟨gb, i, none⟩ = some (.int .i64 (x.no : Nat)) ∧ ga < W.heap.size ∧ gb < W.heap.size := by
  have hin : i < n := by rw [← h.len]; exact (List.getElem?_eq_some_iff.1 hi).1
  have hc : ∀ j u, j < 6 → (lvC x)[j]? = some u → W.cell? ⟨ga, i * 6 + j, none⟩ = some u := fun j u hj hu => by
    rw [World.ownsRow.cellAt h.o1 (i * 6 + j) (by omega), lvAll_at L i j x hi hj]; exact hu
  refine ⟨hc 0 _ (by omega) rfl, hc 1 _ (by omega) rfl, hc 2 _ (by omega) rfl, hc 3 _ (by omega) rfl, hc 4 _ (by omega) rfl, hc 5 _ (by omega) rfl, ?_, (World.ownsRow.lt h.o1 ga rfl).2, (World.ownsRow.lt h.o2 gb rfl).2⟩
  rw [World.ownsRow.cellAt h.o2 i (by omega), List.getElem?_map, hi]; rfl
/-- two lists of two kinds lie apart -/
theorem Col.apart {lo lo' n n' s s' : Nat} {t t' : TypeId} {W : World} {v v' : Value} {xs xs' : List Value} (h : W.ownsRow lo t s v n xs) (h' : W.ownsRow lo' t' s' v' n' xs') (ht : t ≠ t') (k : Nat) (h1 : v.ownBlock = some k) (h2 : v'.ownBlock = some k) : False := by
  rcases h.2 with ⟨hv, _⟩ | ⟨g, cap, cur, hv, _, hh, _⟩
  · rw [hv] at h1; simp [Value.ownBlock] at h1
  · rcases h'.2 with ⟨hv', _⟩ | ⟨g', cap', cur', hv', _, hh', _⟩
    · rw [hv'] at h2; simp [Value.ownBlock] at h2
    · rw [hv] at h1; rw [hv'] at h2
      have e1 : g = k := by simpa [Value.ownBlock] using h1
      have e2 : g' = k := by simpa [Value.ownBlock] using h2
      rw [e1] at hh; rw [e2, hh] at hh'
      injection hh' with hh'
      injection hh' with _ hh'
      exact ht hh'
/-- while it collects -/
def colI (gl gw lo : Nat) (w : World) (pre : List Lv) (W : World) : Prop := (∃ A c A' c', Col gl gw lo A c A' c' pre.length pre W) ∧ Below w.heap.size w W
def colA (lo : Nat) (a : Act) (x : Lv) (a' : Act) (W : World) : Prop := ∃ Bx, lo ≤ Bx ∧ Row W Bx 72 (lvC x) ∧ a' = { tmps := (((a.tmps.setIfInBounds 54 (lvV x)).setIfInBounds 55 (.int .i64 (x.no : Nat))).setIfInBounds 16 (.pointer (some ⟨Bx, 0, none⟩))).setIfInBounds 17 (.int .i64 (x.no : Nat)), defers := [] }
theorem colI_ab {gl gw lo : Nat} {w : World} {T : Nat → Prop} (h1 : ¬ T gl) (h2 : ¬ T gw) (h3 : ∀ k, lo ≤ k → ¬ T k) (h4 : ∀ k, T k → w.heap.size ≤ k) : AbC T (colI gl gw lo w) := by
  rintro pre W W' ⟨⟨A, c, A', c', h⟩, hb⟩ hc
  exact ⟨⟨A, c, A', c', h.chg hc h1 h2 h3⟩, hb.trans (hc.below hb.size h4)⟩
theorem colA_ab {lo : Nat} {a : Act} {x : Lv} {a' : Act} {T : Nat → Prop} (h3 : ∀ k, lo ≤ k → ¬ T k) : AbC T (fun (_ : Unit) W => colA lo a x a' W) := by
  rintro _ W W' ⟨Bx, h1, h2, h⟩ hc
  exact ⟨Bx, h1, hc.row h2 (h3 _ h1), h⟩
theorem reads_lv (w : World) (l : Lv) : ∀ (j : Nat) (u : Value), (lvC l)[j]? = some u → (w.alloc (.cells (lvC l).toArray 72)).cell? ((⟨w.heap.size, 0, none⟩ : Addr).add j) = some u := by
  intro j u hu
  have h := (Row.new w 72 (lvC l)).cell j
  unfold Addr.add
  split
  · rename_i h0; subst h0; rw [h]; exact hu
  · rw [Nat.zero_add, h]; exact hu
theorem reads_no (w : World) (l : Lv) : ∀ (j : Nat) (u : Value), [noV l][j]? = some u → (w.alloc (.cells #[noV l] 25)).cell? ((⟨w.heap.size, 0, none⟩ : Addr).add j) = some u := by
  intro j u hu
  have h := (Row.new w 25 [noV l]).cell j
  unfold Addr.add
  split
  · rename_i h0; subst h0; rw [h]; exact hu
  · rw [Nat.zero_add, h]; exact hu
theorem oneCell_no (l : Lv) : ∀ v ∈ [noV l], v.oneCell' = true := by
  intro u hu
  simp only [List.mem_cons, List.not_mem_nil, or_false] at hu
  subst hu; rfl
/-- a leaf that has an address is found -/
theorem Rises.find {a b : Nat} {L : List Lv} (h : Rises a b L) {x : Lv} (hx : x ∈ L) {v : Nat} (hv : x.v ≤ v ∧ v < x.hi) : L.find? (·.has v) = some x := by
  induction L with
  | nil => cases hx
  | cons y L ih =>
    have hp := List.pairwise_cons.1 h.1
    rw [List.find?_cons]
    rcases List.mem_cons.1 hx with rfl | hx
    · rw [show Lv.has x v = true by unfold Lv.has; simpa using hv]
    · have h1 := hp.1 x hx
      rw [show Lv.has y v = false by unfold Lv.has; simp only [decide_eq_false_iff_not]; omega]
      exact ih ⟨hp.2, fun l hl => h.2 l (List.mem_cons_of_mem _ hl)⟩ hx
theorem wl_says {M : PM} {root : Nat} (h : endsI M root 3000 = true) : Rises 0 549755813888 (lvs M root 3000) ∧
    (∀ x ∈ lvs M root 3000, ∀ v, x.v ≤ v → v < x.hi → ∀ access, 1 ≤ access ∧ access ≤ 3 → trI M root v access = x.say v access) ∧
    (∀ v, v < 549755813888 → (∀ x ∈ lvs M root 3000, ¬ (x.v ≤ v ∧ v < x.hi)) → ∀ access, 1 ≤ access ∧ access ≤ 3 → trI M root v access = (0, 41)) := by
  have he : lvEnds M root 3000 = true := h
  obtain ⟨h1, h2⟩ := lvs_says (M := M) (root := root) (most := 3000) (by decide) he
  have e : ((3000 : Nat) : Int) = 3000 := rfl
  rw [e] at h1 h2
  refine ⟨h1, fun x hx v ha hb access hac => ?_, fun v hv hno access hac => ?_⟩
  · have := (h1.2 x hx).2.1
    rw [h2 v (by omega) access hac]
    unfold askL
    rw [h1.find hx ⟨ha, hb⟩]
  · rw [h2 v hv access hac]
    unfold askL
    rw [List.find?_eq_none.2 (fun x hx hh => hno x hx (by unfold Lv.has at hh; simpa using hh))]
/-- while it looks -/
structure WS (g : Nat) (Z R : Nat → Prop) (M : PM) (w : World) (gl lo D : Nat) (A : Option Addr) (c : Nat) (A' : Option Addr) (c' n : Nat) (L : List Lv) (W : World) : Prop where
  col : Col gl (gl + 1) lo A c A' c' n L W
  b : Below w.heap.size w W
  m : ∃ s ld, MZ Z R W g (cM M s ld)
  k : W.heap[D]? = some (.deferred (some []))
theorem WS.chg {g : Nat} {Z R : Nat → Prop} {M : PM} {w : World} {gl lo D : Nat} {A : Option Addr} {c : Nat} {A' : Option Addr} {c' n : Nat} {L : List Lv} {W W' : World} (h : WS g Z R M w gl lo D A c A' c' n L W) (hm : ∃ s ld, MZ Z R W' g (cM M s ld)) (hc : ChgP Z W W') (hz : ∀ k, Z k → w.heap.size ≤ k ∧ k < gl) (hl : gl < lo) (hD : gl < D) : WS g Z R M w gl lo D A c A' c' n L W' := by
  refine ⟨h.col.chg hc (fun hk => by have := (hz _ hk).2; omega) (fun hk => by have := (hz _ hk).2; omega) (fun k hk hy => by have := (hz _ hy).2; omega), h.b.trans (hc.below h.b.size (fun k hk => (hz k hk).1)), hm, ?_⟩
  rw [hc.block D (Array.getElem?_eq_some_iff.1 h.k).1 (fun hk => by have := (hz _ hk).2; omega)]
  exact h.k
theorem WS.below {g : Nat} {Z R : Nat → Prop} {M : PM} {w : World} {gl lo D : Nat} {A : Option Addr} {c : Nat} {A' : Option Addr} {c' n : Nat} {L : List Lv} {W W' : World} (h : WS g Z R M w gl lo D A c A' c' n L W) (hb : Below W.heap.size W W') : WS g Z R M w gl lo D A c A' c' n L W' := by
  obtain ⟨s, ld, hm⟩ := h.m
  refine ⟨h.col.chg (ChgP.of_below (Z := fun _ => False) hb) (fun h => h) (fun h => h) (fun _ _ h => h), h.b.trans (hb.mono h.b.size), ⟨s, ld, hm.below hb⟩, ?_⟩
  rw [hb.block D (Array.getElem?_eq_some_iff.1 h.k).1]
  exact h.k
theorem WS.drew {g : Nat} {Z R : Nat → Prop} {M : PM} {w : World} {gl lo D : Nat} {A : Option Addr} {c : Nat} {A' : Option Addr} {c' n : Nat} {L : List Lv} {W : World} (h : WS g Z R M w gl lo D A c A' c' n L W) : WS g Z R M w gl lo D A c A' c' n L W.drew := h.below ((Below.refl _ _).drew)
/-- what a look at a leaf reads -/
structure WR (gl : Nat) (ga gb c c' n i : Nat) (x : Lv) (W : World) : Prop where
  l0 : W.cell? ⟨gl, 0, none⟩ = some (.slice (some ⟨ga, 0, none⟩) n c)
  w0 : W.cell? ⟨gl + 1, 0, none⟩ = some (.slice (some ⟨gb, 0, none⟩) n c')
  x0 : W.cell? ⟨ga, i * 6, none⟩ = some (.int .u64 (x.v : Nat))
  x1 : W.cell? ⟨ga, i * 6 + 1, none⟩ = some (.int .u64 (x.p : Nat))
  x2 : W.cell? ⟨ga, i * 6 + 2, none⟩ = some (.int .i64 (x.n : Nat))
  x3 : W.cell? ⟨ga, i * 6 + 3, none⟩ = some (.bool x.b)
  x4 : W.cell? ⟨ga, i * 6 + 4, none⟩ = some (.bool x.w)
  x5 : W.cell? ⟨ga, i * 6 + 5, none⟩ = some (.bool x.x)
  y : W.cell? ⟨gb, i, none⟩ = some (.int .i64 (x.no : Nat))
theorem WS.reads {g : Nat} {Z R : Nat → Prop} {M : PM} {w : World} {gl lo D : Nat} {ga gb c c' n : Nat} {L : List Lv} {W : World} (h : WS g Z R M w gl lo D (some ⟨ga, 0, none⟩) c (some ⟨gb, 0, none⟩) c' n L W) {i : Nat} {x : Lv} (hi : L[i]? = some x) : WR gl ga gb c c' n i x W := by
  obtain ⟨a0, a1, a2, a3, a4, a5, a6, _, _⟩ := h.col.at_ hi
  exact ⟨h.col.r1.cell 0, h.col.r2.cell 0, a0, a1, a2, a3, a4, a5, a6⟩
theorem infoLv : (Try.prog.info? 72).map (fun i => (i.zero, i.size, i.bytes)) = some (some (.agg #[.int .u64 0, .int .u64 0, .int .i64 0, .bool false, .bool false, .bool false]), 6, 32) := by kernel_rfl
theorem infoNo : (Try.prog.info? 25).map (fun i => (i.zero, i.size, i.bytes)) = some (some (.int .i64 0), 1, 8) := by kernel_rfl
end Bu
end Go.Proofs.Ytfpofaniicegaaa
