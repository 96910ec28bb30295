/- The walk of bulkheadlaw4.WalkBack: it returns true, whatever the entry's number, the level and the entry. -/
import Derived.Test.YtfpofaniicegaaaEntL
set_option linter.unusedVariables false
set_option linter.unusedSimpArgs false
namespace Go.Proofs.Ytfpofaniicegaaa
open Go.RowKit
open Ent (E)

theorem sayI_back {e : Nat} {lv : Int} {y : E} (he : e < 18446744073709551616) (h : sayI e lv = (y, 0)) : makeI y lv = (e, 0) := by
  unfold sayI at h
  unfold makeI
  split at h
  · simp at h
  · rename_i hl; rw [if_neg hl]; exact Ent.make_back he h
theorem makeI_back {y : E} {lv : Int} {k : Nat} (hy : y.F < 18446744073709551616) (h : makeI y lv = (k, 0)) : sayI k lv = (y, 0) ∧ k < 18446744073709551616 := by
  unfold makeI at h
  unfold sayI
  split at h
  · simp at h
  · rename_i hl
    rw [if_neg hl]
    unfold Ent.make at h
    split at h
    · rename_i hs
      simp at h
      subst h
      exact ⟨hs, Ent.num_lt hy⟩
    · simp at h
theorem makeI_one : makeI ⟨4194304, false, true, false, true⟩ 1 = (4194317, 0) := by decide
theorem sayI_F {e : Nat} {lv : Int} {y : E} {n : Nat} (h : sayI e lv = (y, n)) : y.F < 18446744073709551616 := by
  unfold sayI at h
  split at h
  · simp at h; rw [← h.1]; decide
  · unfold Ent.say at h
    split at h
    · simp at h; rw [← h.1]; decide
    · split at h
      · simp at h; rw [← h.1]; decide
      · split at h
        · simp at h; rw [← h.1]; decide
        · simp at h; rw [← h.1]; have := Ent.frame_lt e; show Ent.frame e < _; omega
theorem neqE' (z : E) (wx : World) : (binOp .neq 24 (eVal z) (eVal z)).run Try.prog wx = .ok (.bool false) wx := neqE wx z z false (by simp)

set_option maxRecDepth 100000 in
set_option maxHeartbeats 2000000 in
theorem back_yy (e : Nat) (lv : Int) (y : E) (W : World) (he : e < 18446744073709551616) (hy : y.F < 18446744073709551616) (F1 : Nat) (t1 b1 v1 x1 : Bool) (n1 : Nat) (hz : sayI e lv = (⟨F1, t1, b1, v1, x1⟩, n1)) (k1 m1 : Nat) (hk : makeI y lv = (k1, m1)) (hn : n1 = 0) (hm : m1 = 0) :
    Calls Try.prog 4 #[.int .u64 (e : Nat), .int .i64 lv, eVal y] W fun en w' => en = .returned (.bool true) ∧ Below W.heap.size W w' := by
  have HZ := Lib.hid hz
  have HK := Lib.hid hk
  have HF1 := Lib.hid (sayI_F hz)
  subst hn
  have HBK := Lib.hid (sayI_back he hz)
  subst hm
  have HMB := Lib.hid (makeI_back hy hk)
  obtain ⟨F, t, b, v, x⟩ := y
  have HE := Lib.hid he
  have HY := Lib.hid hy
  clear hz hk he hy
  have hq1 := neqE' ⟨F, t, b, v, x⟩
  unfold eVal at hq1
  have hee : ((e : Int) != (e : Int)) = false := by simp
  have ha0 := EntAt.new W ⟨F, t, b, v, x⟩
  have hb0 : Below W.heap.size W (W.alloc (boxE ⟨F, t, b, v, x⟩)) := (Below.refl _ _).alloc (Nat.le_refl _) _
  have HA0 := Lib.hid ha0
  have HB0 := Lib.hid hb0
  clear ha0 hb0
  unfold eVal
  go_enter Try.func4, Try.ntmps4
  go_wp2_with fail
  refine (entry_int e lv _ HE.out _ HZ.out).mono ?_
  rintro en w1 ⟨rfl, hb⟩
  have HA1 := Lib.hid ((HA0.out.below hb HA0.out.lt).alloc (boxE ⟨F1, t1, b1, v1, x1⟩))
  have HY1 := Lib.hid (EntAt.new w1 ⟨F1, t1, b1, v1, x1⟩)
  have HB1 := Lib.hid ((HB0.out.trans (hb.mono (HB0.out.size))).alloc (Nat.le_trans HB0.out.size hb.size) (boxE ⟨F1, t1, b1, v1, x1⟩))
  clear hb HA0 HB0
  unfold eVal
  obtain ⟨c0, c1, c2, c3, c4, c5⟩ := HA1.out.open_
  go_wp2_with fail
  refine (make_int ⟨F1, t1, b1, v1, x1⟩ lv _ HF1.out _ HBK.out).mono ?_
  rintro en w2 ⟨rfl, hb⟩
  have HA2 := Lib.hid (HA1.out.below hb HA1.out.lt)
  have HB2 := Lib.hid (HB1.out.trans (hb.mono (HB1.out.size)))
  clear hb HA1 HY1 HB1 c0 c1 c2 c3 c4 c5
  obtain ⟨c0, c1, c2, c3, c4, c5⟩ := HA2.out.open_
  go_wp2_with fail
  refine (make_int ⟨F, t, b, v, x⟩ lv _ HY.out _ HK.out).mono ?_
  rintro en w3 ⟨rfl, hb⟩
  have HA3 := Lib.hid (HA2.out.below hb HA2.out.lt)
  have HB3 := Lib.hid (HB2.out.trans (hb.mono (HB2.out.size)))
  clear hb HA2 HB2 c0 c1 c2 c3 c4 c5
  go_wp2_with fail
  refine (entry_int k1 lv _ HMB.out.2 _ HMB.out.1).mono ?_
  rintro en w4 ⟨rfl, hb⟩
  have ha4 := HA3.out.below hb HA3.out.lt
  have HB4 := Lib.hid ((HB3.out.trans (hb.mono (HB3.out.size))).alloc (Nat.le_trans HB3.out.size hb.size) (boxE ⟨F, t, b, v, x⟩))
  clear hb HA3 HB3
  obtain ⟨c0, c1, c2, c3, c4, c5⟩ := ha4.open_
  clear ha4
  unfold eVal
  go_wp2_with fail
  refine (make_int ⟨4194304, false, true, false, true⟩ 1 _ (by decide) _ makeI_one).mono ?_
  rintro en w5 ⟨rfl, hb⟩
  have HB5 := Lib.hid (HB4.out.trans (hb.mono (HB4.out.size)))
  clear hb HB4
  go_wp2_with fail
  go_ret
  exact ⟨rfl, HB5.out⟩

set_option maxRecDepth 100000 in
set_option maxHeartbeats 2000000 in
theorem back_yn (e : Nat) (lv : Int) (y : E) (W : World) (he : e < 18446744073709551616) (hy : y.F < 18446744073709551616) (F1 : Nat) (t1 b1 v1 x1 : Bool) (n1 : Nat) (hz : sayI e lv = (⟨F1, t1, b1, v1, x1⟩, n1)) (k1 m1 : Nat) (hk : makeI y lv = (k1, m1)) (hn : n1 = 0) (hm : m1 ≠ 0) :
    Calls Try.prog 4 #[.int .u64 (e : Nat), .int .i64 lv, eVal y] W fun en w' => en = .returned (.bool true) ∧ Below W.heap.size W w' := by
  have HZ := Lib.hid hz
  have HK := Lib.hid hk
  have HF1 := Lib.hid (sayI_F hz)
  subst hn
  have HBK := Lib.hid (sayI_back he hz)
  have hm' : ((m1 : Int) == 0) = false := beq_eq_false_iff_ne.2 (by omega)
  clear hm
  obtain ⟨F, t, b, v, x⟩ := y
  have HE := Lib.hid he
  have HY := Lib.hid hy
  clear hz hk he hy
  have hq1 := neqE' ⟨F, t, b, v, x⟩
  unfold eVal at hq1
  have hee : ((e : Int) != (e : Int)) = false := by simp
  have ha0 := EntAt.new W ⟨F, t, b, v, x⟩
  have hb0 : Below W.heap.size W (W.alloc (boxE ⟨F, t, b, v, x⟩)) := (Below.refl _ _).alloc (Nat.le_refl _) _
  have HA0 := Lib.hid ha0
  have HB0 := Lib.hid hb0
  clear ha0 hb0
  unfold eVal
  go_enter Try.func4, Try.ntmps4
  go_wp2_with fail
  refine (entry_int e lv _ HE.out _ HZ.out).mono ?_
  rintro en w1 ⟨rfl, hb⟩
  have HA1 := Lib.hid ((HA0.out.below hb HA0.out.lt).alloc (boxE ⟨F1, t1, b1, v1, x1⟩))
  have HY1 := Lib.hid (EntAt.new w1 ⟨F1, t1, b1, v1, x1⟩)
  have HB1 := Lib.hid ((HB0.out.trans (hb.mono (HB0.out.size))).alloc (Nat.le_trans HB0.out.size hb.size) (boxE ⟨F1, t1, b1, v1, x1⟩))
  clear hb HA0 HB0
  unfold eVal
  obtain ⟨c0, c1, c2, c3, c4, c5⟩ := HA1.out.open_
  go_wp2_with fail
  refine (make_int ⟨F1, t1, b1, v1, x1⟩ lv _ HF1.out _ HBK.out).mono ?_
  rintro en w2 ⟨rfl, hb⟩
  have HA2 := Lib.hid (HA1.out.below hb HA1.out.lt)
  have HB2 := Lib.hid (HB1.out.trans (hb.mono (HB1.out.size)))
  clear hb HA1 HY1 HB1 c0 c1 c2 c3 c4 c5
  obtain ⟨c0, c1, c2, c3, c4, c5⟩ := HA2.out.open_
  go_wp2_with fail
  refine (make_int ⟨F, t, b, v, x⟩ lv _ HY.out _ HK.out).mono ?_
  rintro en w3 ⟨rfl, hb⟩
  have HA3 := Lib.hid (HA2.out.below hb HA2.out.lt)
  have HB3 := Lib.hid (HB2.out.trans (hb.mono (HB2.out.size)))
  clear hb HA2 HB2 c0 c1 c2 c3 c4 c5
  go_wp2_with fail
  have HB4 := HB3
  clear HA3 HB3
  refine (make_int ⟨4194304, false, true, false, true⟩ 1 _ (by decide) _ makeI_one).mono ?_
  rintro en w5 ⟨rfl, hb⟩
  have HB5 := Lib.hid (HB4.out.trans (hb.mono (HB4.out.size)))
  clear hb HB4
  go_wp2_with fail
  go_ret
  exact ⟨rfl, HB5.out⟩

set_option maxRecDepth 100000 in
set_option maxHeartbeats 2000000 in
theorem back_ny (e : Nat) (lv : Int) (y : E) (W : World) (he : e < 18446744073709551616) (hy : y.F < 18446744073709551616) (F1 : Nat) (t1 b1 v1 x1 : Bool) (n1 : Nat) (hz : sayI e lv = (⟨F1, t1, b1, v1, x1⟩, n1)) (k1 m1 : Nat) (hk : makeI y lv = (k1, m1)) (hn : n1 ≠ 0) (hm : m1 = 0) :
    Calls Try.prog 4 #[.int .u64 (e : Nat), .int .i64 lv, eVal y] W fun en w' => en = .returned (.bool true) ∧ Below W.heap.size W w' := by
  have HZ := Lib.hid hz
  have HK := Lib.hid hk
  have HF1 := Lib.hid (sayI_F hz)
  have hn' : ((n1 : Int) == 0) = false := beq_eq_false_iff_ne.2 (by omega)
  clear hn
  subst hm
  have HMB := Lib.hid (makeI_back hy hk)
  obtain ⟨F, t, b, v, x⟩ := y
  have HE := Lib.hid he
  have HY := Lib.hid hy
  clear hz hk he hy
  have hq1 := neqE' ⟨F, t, b, v, x⟩
  unfold eVal at hq1
  have hee : ((e : Int) != (e : Int)) = false := by simp
  have ha0 := EntAt.new W ⟨F, t, b, v, x⟩
  have hb0 : Below W.heap.size W (W.alloc (boxE ⟨F, t, b, v, x⟩)) := (Below.refl _ _).alloc (Nat.le_refl _) _
  have HA0 := Lib.hid ha0
  have HB0 := Lib.hid hb0
  clear ha0 hb0
  unfold eVal
  go_enter Try.func4, Try.ntmps4
  go_wp2_with fail
  refine (entry_int e lv _ HE.out _ HZ.out).mono ?_
  rintro en w1 ⟨rfl, hb⟩
  have HA1 := Lib.hid ((HA0.out.below hb HA0.out.lt).alloc (boxE ⟨F1, t1, b1, v1, x1⟩))
  have HY1 := Lib.hid (EntAt.new w1 ⟨F1, t1, b1, v1, x1⟩)
  have HB1 := Lib.hid ((HB0.out.trans (hb.mono (HB0.out.size))).alloc (Nat.le_trans HB0.out.size hb.size) (boxE ⟨F1, t1, b1, v1, x1⟩))
  clear hb HA0 HB0
  unfold eVal
  obtain ⟨c0, c1, c2, c3, c4, c5⟩ := HA1.out.open_
  go_wp2_with fail
  have HA2 := HA1
  have HB2 := HB1
  clear HA1 HB1 HY1
  refine (make_int ⟨F, t, b, v, x⟩ lv _ HY.out _ HK.out).mono ?_
  rintro en w3 ⟨rfl, hb⟩
  have HA3 := Lib.hid (HA2.out.below hb HA2.out.lt)
  have HB3 := Lib.hid (HB2.out.trans (hb.mono (HB2.out.size)))
  clear hb HA2 HB2 c0 c1 c2 c3 c4 c5
  go_wp2_with fail
  refine (entry_int k1 lv _ HMB.out.2 _ HMB.out.1).mono ?_
  rintro en w4 ⟨rfl, hb⟩
  have ha4 := HA3.out.below hb HA3.out.lt
  have HB4 := Lib.hid ((HB3.out.trans (hb.mono (HB3.out.size))).alloc (Nat.le_trans HB3.out.size hb.size) (boxE ⟨F, t, b, v, x⟩))
  clear hb HA3 HB3
  obtain ⟨c0, c1, c2, c3, c4, c5⟩ := ha4.open_
  clear ha4
  unfold eVal
  go_wp2_with fail
  refine (make_int ⟨4194304, false, true, false, true⟩ 1 _ (by decide) _ makeI_one).mono ?_
  rintro en w5 ⟨rfl, hb⟩
  have HB5 := Lib.hid (HB4.out.trans (hb.mono (HB4.out.size)))
  clear hb HB4
  go_wp2_with fail
  go_ret
  exact ⟨rfl, HB5.out⟩

set_option maxRecDepth 100000 in
set_option maxHeartbeats 2000000 in
theorem back_nn (e : Nat) (lv : Int) (y : E) (W : World) (he : e < 18446744073709551616) (hy : y.F < 18446744073709551616) (F1 : Nat) (t1 b1 v1 x1 : Bool) (n1 : Nat) (hz : sayI e lv = (⟨F1, t1, b1, v1, x1⟩, n1)) (k1 m1 : Nat) (hk : makeI y lv = (k1, m1)) (hn : n1 ≠ 0) (hm : m1 ≠ 0) :
    Calls Try.prog 4 #[.int .u64 (e : Nat), .int .i64 lv, eVal y] W fun en w' => en = .returned (.bool true) ∧ Below W.heap.size W w' := by
  have HZ := Lib.hid hz
  have HK := Lib.hid hk
  have HF1 := Lib.hid (sayI_F hz)
  have hn' : ((n1 : Int) == 0) = false := beq_eq_false_iff_ne.2 (by omega)
  clear hn
  have hm' : ((m1 : Int) == 0) = false := beq_eq_false_iff_ne.2 (by omega)
  clear hm
  obtain ⟨F, t, b, v, x⟩ := y
  have HE := Lib.hid he
  have HY := Lib.hid hy
  clear hz hk he hy
  have hq1 := neqE' ⟨F, t, b, v, x⟩
  unfold eVal at hq1
  have hee : ((e : Int) != (e : Int)) = false := by simp
  have ha0 := EntAt.new W ⟨F, t, b, v, x⟩
  have hb0 : Below W.heap.size W (W.alloc (boxE ⟨F, t, b, v, x⟩)) := (Below.refl _ _).alloc (Nat.le_refl _) _
  have HA0 := Lib.hid ha0
  have HB0 := Lib.hid hb0
  clear ha0 hb0
  unfold eVal
  go_enter Try.func4, Try.ntmps4
  go_wp2_with fail
  refine (entry_int e lv _ HE.out _ HZ.out).mono ?_
  rintro en w1 ⟨rfl, hb⟩
  have HA1 := Lib.hid ((HA0.out.below hb HA0.out.lt).alloc (boxE ⟨F1, t1, b1, v1, x1⟩))
  have HY1 := Lib.hid (EntAt.new w1 ⟨F1, t1, b1, v1, x1⟩)
  have HB1 := Lib.hid ((HB0.out.trans (hb.mono (HB0.out.size))).alloc (Nat.le_trans HB0.out.size hb.size) (boxE ⟨F1, t1, b1, v1, x1⟩))
  clear hb HA0 HB0
  unfold eVal
  obtain ⟨c0, c1, c2, c3, c4, c5⟩ := HA1.out.open_
  go_wp2_with fail
  have HA2 := HA1
  have HB2 := HB1
  clear HA1 HB1 HY1
  refine (make_int ⟨F, t, b, v, x⟩ lv _ HY.out _ HK.out).mono ?_
  rintro en w3 ⟨rfl, hb⟩
  have HA3 := Lib.hid (HA2.out.below hb HA2.out.lt)
  have HB3 := Lib.hid (HB2.out.trans (hb.mono (HB2.out.size)))
  clear hb HA2 HB2 c0 c1 c2 c3 c4 c5
  go_wp2_with fail
  have HB4 := HB3
  clear HA3 HB3
  refine (make_int ⟨4194304, false, true, false, true⟩ 1 _ (by decide) _ makeI_one).mono ?_
  rintro en w5 ⟨rfl, hb⟩
  have HB5 := Lib.hid (HB4.out.trans (hb.mono (HB4.out.size)))
  clear hb HB4
  go_wp2_with fail
  go_ret
  exact ⟨rfl, HB5.out⟩

theorem back_walk (e : Nat) (lv : Int) (y : E) (W : World) (he : e < 18446744073709551616) (hy : y.F < 18446744073709551616) :
    Calls Try.prog 4 #[.int .u64 (e : Nat), .int .i64 lv, eVal y] W fun en w' => en = .returned (.bool true) ∧ Below W.heap.size W w' := by
  obtain ⟨⟨⟨F1, t1, b1, v1, x1⟩, n1⟩, hz⟩ : ∃ z, sayI e lv = z := ⟨_, rfl⟩
  obtain ⟨⟨k1, m1⟩, hk⟩ : ∃ z, makeI y lv = z := ⟨_, rfl⟩
  by_cases hn : n1 = 0 <;> by_cases hm : m1 = 0
  · exact back_yy e lv y W he hy _ _ _ _ _ _ hz _ _ hk hn hm
  · exact back_yn e lv y W he hy _ _ _ _ _ _ hz _ _ hk hn hm
  · exact back_ny e lv y W he hy _ _ _ _ _ _ hz _ _ hk hn hm
  · exact back_nn e lv y W he hy _ _ _ _ _ _ hz _ _ hk hn hm
end Go.Proofs.Ytfpofaniicegaaa
