/- The walk of PagesNames: the tables of no rows, and of one page. -/
import Derived.Test.YtblfagmoilhdnaaPgG
set_option linter.unusedVariables false
set_option linter.unusedSimpArgs false
namespace Go.Proofs.Ytblfagmoilhdnaa
open Go.RowKit

def oneRow : Pg.Lf := ⟨12288, 32768, 1, false, true, false⟩
theorem ans_none : Pg.ansB [] 4096 = ([Pg.zero512], 0) := by kernel_rfl
theorem ansB_one : ((Pg.ansB [oneRow] 65536).2, (Pg.ansB [oneRow] 65536).1.length) = (0, 3) := by kernel_rfl
theorem ans_one : ((Pg.ans [oneRow] 0).2, (Pg.ans [oneRow] 0).1.length) = (0, 3) := by kernel_rfl
theorem ansB_cells : (((Pg.ansB [oneRow] 65536).1.getD 0 []).getD 0 0, ((Pg.ansB [oneRow] 65536).1.getD 1 []).getD 0 0, ((Pg.ansB [oneRow] 65536).1.getD 2 []).getD 3 0, ((Pg.ansB [oneRow] 65536).1.getD 2 []).getD 0 0) = (69633, 73729, 32771, 0) := by kernel_rfl
theorem isL_nil (w : World) (B : Nat) : IsL w B none 0 [] := ⟨⟨rfl, fun h => absurd h (by omega)⟩, by simp, rfl, by omega⟩
theorem isL_one (w : World) (r : Pg.Lf) (hr : r.In) : IsL (w.alloc (.cells (lcells r).toArray 47)) (w.alloc (.cells (lcells r).toArray 47)).heap.size (some ⟨w.heap.size, 0, none⟩) 1 [r] := by
  have h := Row.new w 47 (lcells r)
  refine ⟨⟨rfl, fun _ => ⟨_, rfl, h.lt, fun j u hu => ?_⟩⟩, by simpa using hr, rfl, by omega⟩
  rw [Addr.add_mid, Nat.zero_add, h.cell]
  simpa using hu
theorem IsT.form {w w' : World} {A : Option Addr} {c : Nat} {l : List (List Nat)} (h : IsT w w' A c l) (hl : 0 < l.length) : ∃ g, A = some ⟨g, 0, none⟩ ∧ w.heap.size ≤ g ∧ g < w'.heap.size ∧ l.length ≤ c ∧ c ≤ maxLen ∧
    (∀ t e, t < l.length → e < 512 → w'.cell? ⟨g, t * 512 + e, none⟩ = some (.int .u64 ((l.getD t []).getD e 0 : Nat))) := by
  obtain ⟨ho, ht, hb⟩ := h
  obtain ⟨g, rfl, h1, h2, h3, h4⟩ := own_some ho hl
  refine ⟨g, rfl, h1, h2, h3, h4, fun t e h5 h6 => ?_⟩
  rw [show t * 512 + e = 512 * t + e by omega, ho.cellAt (512 * t + e) (by omega), tcells_at ht h5 h6]
  rfl
theorem zeros_get (n i : Nat) (h : i < n) : (zeros n)[i]? = some (.int .u64 0) := by
  unfold zeros
  rw [List.getElem?_replicate, if_pos h]
  rfl
theorem zero512_get (e : Nat) (h : e < 512) : ([Pg.zero512].getD 0 []).getD e 0 = 0 := by
  unfold Pg.zero512
  show (List.replicate 512 0).getD e 0 = 0
  rw [List.getD_eq_getElem?_getD, List.getElem?_replicate]
  split <;> rfl
set_option maxRecDepth 100000 in
set_option maxHeartbeats 1000000 in
theorem pagesnames_walk (w : World) : Calls Try.prog 4 #[] w fun e w' => e = .returned (.bool true) ∧ Below w.heap.size w w' := by
  have hb0 := Build_any none 0 0 4096 [] w (isL_nil _ _) (by decide)
  rw [ans_none] at hb0
  have HB0 := Lib.hid hb0
  clear hb0
  go_enter Try.func4, Try.ntmps4
  go_wp2_with fail
  refine HB0.out.mono ?_
  rintro e w1 ⟨A1, c1, rfl, hi1⟩
  obtain ⟨g1, rfl, hg1, hl1, hc1, hm1, hcell⟩ := hi1.form (by simp)
  unfold tansV maxLen at *
  simp only [List.length_cons, List.length_nil] at hc1 ⊢
  obtain ⟨hz, hsz⟩ := zero_of_info infoTabZ
  have hrg : w1.rangeAt g1 0 (zeros 512) := fun j v hv => by
    have hj := (List.getElem?_eq_some_iff.1 hv).1
    have hj : j < 512 := by rw [show (zeros 512).length = 512 from List.length_replicate] at hj; exact hj
    have := hcell 0 j (by simp) hj
    rw [zeros_get 512 j hj] at hv
    injection hv with hv
    rw [← hv, zero512_get j hj, show 0 * 512 + j = 0 + j from rfl] at *
    exact this
  obtain ⟨V, hV⟩ : ∃ V, V = zeros 512 := ⟨_, rfl⟩
  rw [← hV] at hz hrg
  have HRG := Lib.hid hrg
  have HVL : Hid (V.length = 512) := Lib.hid (by rw [hV]; simp [zeros])
  have HEQ : Hid (∀ w : World, (Op.equalIn 10000 24 (.agg V.toArray) (.agg V.toArray)).run Try.prog w = .ok true w) := Lib.hid fun w => tab_eq_self V (fun i hi => by
    rw [hV]; rw [HVL.out] at hi
    exact ⟨0, zeros_get 512 i hi⟩) HVL.out w
  have heq := HEQ.out
  have B1 := Lib.hid hi1.2.2
  clear hV hrg hcell hi1 HB0
  have hin : oneRow.In := by unfold Pg.Lf.In oneRow; decide
  obtain ⟨a1, ha1⟩ : ∃ a, a = Pg.ansB [oneRow] 65536 := ⟨_, rfl⟩
  obtain ⟨a2, ha2⟩ : ∃ a, a = Pg.ans [oneRow] 0 := ⟨_, rfl⟩
  have q1 := ansB_one
  have q2 := ans_one
  have q3 := ansB_cells
  rw [← ha1] at q1 q3
  rw [← ha2] at q2
  obtain ⟨l1, f1⟩ := a1
  obtain ⟨l2, f2⟩ := a2
  simp only [Prod.mk.injEq] at q1 q2 q3
  obtain ⟨rfl, q1⟩ := q1
  obtain ⟨rfl, q2⟩ := q2
  obtain ⟨r1, r2, r3, r4⟩ := q3
  have HB2 : Hid (∀ w1 : World, Calls Try.prog 18 #[.slice (some ⟨w1.heap.size, 0, none⟩) 1 1, .int .u64 65536] (w1.alloc (.cells #[.int .u64 12288, .int .u64 32768, .int .i64 1, .bool false, .bool true, .bool false] 47)) fun e w' => ∃ A' c', e = .returned (.tuple #[.slice A' 3 c', .int .i64 0]) ∧ IsT (w1.alloc (.cells #[.int .u64 12288, .int .u64 32768, .int .i64 1, .bool false, .bool true, .bool false] 47)) w' A' c' l1) := Lib.hid fun w1 => by
    have h := Build_any (some ⟨w1.heap.size, 0, none⟩) 1 1 65536 [oneRow] _ (isL_one w1 oneRow hin) (by decide)
    rw [← ha1] at h
    unfold tansV at h
    simp only [q1] at h
    exact h
  have HB3 : Hid (∀ w1 : World, Calls Try.prog 19 #[.slice (some ⟨w1.heap.size, 0, none⟩) 1 1] (w1.alloc (.cells #[.int .u64 12288, .int .u64 32768, .int .i64 1, .bool false, .bool true, .bool false] 47)) fun e w' => e = .returned (.tuple #[.int .i64 3, .int .i64 0]) ∧ Below (w1.heap.size + 1) (w1.alloc (.cells #[.int .u64 12288, .int .u64 32768, .int .i64 1, .bool false, .bool true, .bool false] 47)) w') := Lib.hid fun w1 => by
    have h := count_any (some ⟨w1.heap.size, 0, none⟩) 1 1 [oneRow] _ (isL_one w1 oneRow hin)
    rw [← ha2] at h
    simp only [q2] at h
    refine h.mono fun e w' h => ⟨h.1, ?_⟩
    have h2 := h.2
    rw [show (w1.alloc (.cells (lcells oneRow).toArray 47)).heap.size = w1.heap.size + 1 by simp] at h2
    exact h2
  have HL1 := Lib.hid q1
  have HR1 := Lib.hid r1; have HR2 := Lib.hid r2; have HR3 := Lib.hid r3; have HR4 := Lib.hid r4
  clear ha1 ha2 q1 q2 r1 r2 r3 r4 hin
  go_upto_region 5 with (first | (refine wpList_load_midw (by rfl) _ _ rfl _ _ (by rfl) V (.array 512 22) HRG.out Try.underlying24 rfl (by rw [infoTab, HVL.out]) ?_))
  clear heq hz
  go_wp2_with fail
  refine (HB2.out w1).mono ?_
  rintro e w2 ⟨A2, c2, rfl, hi2⟩
  obtain ⟨g2, rfl, hg2, hl2, hc2, hm2, hcell⟩ := hi2.form (by rw [HL1.out]; omega)
  have k1 := hcell 0 0 (by rw [HL1.out]; omega) (by omega)
  have k2 := hcell 1 0 (by rw [HL1.out]; omega) (by omega)
  have k3 := hcell 2 3 (by rw [HL1.out]; omega) (by omega)
  have k4 := hcell 2 0 (by rw [HL1.out]; omega) (by omega)
  rw [HR1.out] at k1; rw [HR2.out] at k2; rw [HR3.out] at k3; rw [HR4.out] at k4
  rw [HL1.out] at hc2
  simp only [Nat.zero_mul, Nat.zero_add, Nat.one_mul] at k1 k2 k3 k4
  have K1 := Lib.hid k1; have K2 := Lib.hid k2; have K3 := Lib.hid k3; have K4 := Lib.hid k4
  have B2 := Lib.hid ((B1.out.alloc B1.out.size _).trans (hi2.2.2.mono (by have := B1.out.size; simp; omega)))
  clear hi2 hcell k1 k2 k3 k4 HB2 B1
  go_wp2_with fail
  refine (HB3.out w2).mono ?_
  rintro e w3 ⟨rfl, hb3⟩
  have hbl : Below w2.heap.size w2 w3 := ((Below.refl _ _).alloc (Nat.le_refl _) _).trans (hb3.mono (by omega))
  have k1 := (hbl.cell (p := ⟨g2, 0, none⟩) hl2).trans K1.out
  have k2 := (hbl.cell (p := ⟨g2, 512, none⟩) hl2).trans K2.out
  have k3 := (hbl.cell (p := ⟨g2, 2 * 512 + 3, none⟩) hl2).trans K3.out
  have k4 := (hbl.cell (p := ⟨g2, 2 * 512, none⟩) hl2).trans K4.out
  have hl3 : g2 < w3.heap.size := Nat.lt_of_lt_of_le hl2 hbl.size
  have B3 := Lib.hid (B2.out.trans (hbl.mono B2.out.size))
  simp only [Nat.reduceMul, Nat.reduceAdd] at k3 k4
  clear hb3 hbl K1 K2 K3 K4 B2 HB3 hl2
  go_wp2_with fail
  go_ret
  exact ⟨rfl, B3.out⟩
end Go.Proofs.Ytblfagmoilhdnaa
