/- The walks of bulkheadlaw4.WalkEntries and bulkheadlaw4.WalkBack: both return true, whatever the entry's number, the level and the entry. -/
import Derived.Test.YtfpofaniicegaaaRmake
set_option linter.unusedVariables false
set_option linter.unusedSimpArgs false
namespace Go.Proofs.Ytfpofaniicegaaa
open Go.RowKit
open Ent (E)

def sayI (e : Nat) (lv : Int) : E × Nat := if lv < 0 ∨ 2 < lv then (Ent.zero, 1) else Ent.say e lv.toNat
def makeI (y : E) (lv : Int) : Nat × Nat := if lv < 0 ∨ 2 < lv then (0, 1) else Ent.make y lv.toNat
theorem entry_int (e : Nat) (lv : Int) (W : World) (he : e < 18446744073709551616) (p : E × Nat) (hp : sayI e lv = p) :
    Calls Try.prog 8 #[.int .u64 (e : Nat), .int .i64 lv] W fun en w' => en = .returned (.tuple #[eVal p.1, .int .i64 (p.2 : Nat)]) ∧ Below W.heap.size W w' := by
  subst hp
  unfold sayI
  split
  · rename_i h; exact entnone e lv W h
  · rename_i h
    have := entry_any e lv.toNat W he (by omega)
    rwa [show ((lv.toNat : Nat) : Int) = lv by omega] at this
theorem rentry_int (e : Nat) (lv : Int) (W : World) (he : e < 18446744073709551616) (p : E × Nat) (hp : sayI e lv = p) :
    Calls Try.prog 9 #[.int .u64 (e : Nat), .int .i64 lv] W fun en w' => en = .returned (.tuple #[eVal p.1, .int .i64 (p.2 : Nat)]) ∧ Below W.heap.size W w' := by
  subst hp
  unfold sayI
  split
  · rename_i h; exact rentnone e lv W h
  · rename_i h
    have := rentry_any e lv.toNat W he (by omega)
    rwa [show ((lv.toNat : Nat) : Int) = lv by omega] at this
theorem make_int (y : E) (lv : Int) (W : World) (hy : y.F < 18446744073709551616) (p : Nat × Nat) (hp : makeI y lv = p) :
    Calls Try.prog 10 #[eVal y, .int .i64 lv] W fun en w' => en = .returned (.tuple #[.int .u64 (p.1 : Nat), .int .i64 (p.2 : Nat)]) ∧ Below W.heap.size W w' := by
  subst hp
  unfold makeI
  split
  · rename_i h; exact make_none y lv W h
  · rename_i h
    have := make_walk y lv.toNat W hy (by omega)
    rwa [show ((lv.toNat : Nat) : Int) = lv by omega] at this
theorem rmake_int (y : E) (lv : Int) (W : World) (hy : y.F < 18446744073709551616) (p : Nat × Nat) (hp : makeI y lv = p) :
    Calls Try.prog 11 #[eVal y, .int .i64 lv] W fun en w' => en = .returned (.tuple #[.int .u64 (p.1 : Nat), .int .i64 (p.2 : Nat)]) ∧ Below W.heap.size W w' := by
  subst hp
  unfold makeI
  split
  · rename_i h; exact rmake_none y lv W h
  · rename_i h
    have := rmake_walk y lv.toNat W hy (by omega)
    rwa [show ((lv.toNat : Nat) : Int) = lv by omega] at this
/-- an entry that lies in a block of its own -/
def EntAt (w : World) (g : Nat) (y : E) : Prop := Row w g 24 [.int .u64 (y.F : Nat), .bool y.t, .bool y.b, .bool y.w, .bool y.x]
theorem EntAt.open_ {w : World} {g : Nat} {y : E} (h : EntAt w g y) : w.cell? ⟨g, 0, none⟩ = some (.int .u64 (y.F : Nat)) ∧ w.cell? ⟨g, 1, none⟩ = some (.bool y.t) ∧ w.cell? ⟨g, 2, none⟩ = some (.bool y.b) ∧ w.cell? ⟨g, 3, none⟩ = some (.bool y.w) ∧ w.cell? ⟨g, 4, none⟩ = some (.bool y.x) ∧ g < w.heap.size :=
  ⟨Row.cell h 0, Row.cell h 1, Row.cell h 2, Row.cell h 3, Row.cell h 4, Row.lt h⟩
theorem EntAt.below {w w' : World} {g B : Nat} {y : E} (h : EntAt w g y) (hb : Below B w w') (hg : g < B) : EntAt w' g y := Row.below h hb hg
theorem EntAt.new (w : World) (y : E) : EntAt (w.alloc (boxE y)) w.heap.size y := Row.new w 24 [.int .u64 (y.F : Nat), .bool y.t, .bool y.b, .bool y.w, .bool y.x]
theorem EntAt.alloc {w : World} {g : Nat} {y : E} (h : EntAt w g y) (o : Obj) : EntAt (w.alloc o) g y := Row.alloc h o
theorem EntAt.lt {w : World} {g : Nat} {y : E} (h : EntAt w g y) : g < w.heap.size := Row.lt h
theorem sayI_one : sayI 20483 2 = (⟨20480, false, false, true, false⟩, 0) := by decide
theorem eqlE' (z : E) (wx : World) : (binOp .eql 24 (eVal z) (eVal z)).run Try.prog wx = .ok (.bool true) wx := eqlE wx z z true (by simp)

set_option maxRecDepth 100000 in
set_option maxHeartbeats 2000000 in
theorem entries_walk (e : Nat) (lv : Int) (y : E) (W : World) (he : e < 18446744073709551616) (hy : y.F < 18446744073709551616) :
    Calls Try.prog 3 #[.int .u64 (e : Nat), .int .i64 lv, eVal y] W fun en w' => en = .returned (.bool true) ∧ Below W.heap.size W w' := by
  obtain ⟨⟨⟨F1, t1, b1, v1, x1⟩, n1⟩, hz⟩ : ∃ z, sayI e lv = z := ⟨_, rfl⟩
  obtain ⟨⟨k1, m1⟩, hk⟩ : ∃ z, makeI y lv = z := ⟨_, rfl⟩
  have HZ := Lib.hid hz
  have HK := Lib.hid hk
  obtain ⟨F, t, b, v, x⟩ := y
  have HE := Lib.hid he
  have HY := Lib.hid hy
  clear hz hk he hy
  have hq1 := eqlE' ⟨F1, t1, b1, v1, x1⟩
  have hq2 := eqlE' ⟨20480, false, false, true, false⟩
  unfold eVal at hq1 hq2
  have hn1 : ((n1 : Int) == (n1 : Int)) = true := by simp
  have hk1 : ((k1 : Int) == (k1 : Int)) = true := by simp
  have hm1 : ((m1 : Int) == (m1 : Int)) = true := by simp
  have ha0 := EntAt.new W ⟨F, t, b, v, x⟩
  have hb0 : Below W.heap.size W (W.alloc (boxE ⟨F, t, b, v, x⟩)) := (Below.refl _ _).alloc (Nat.le_refl _) _
  have HA0 := Lib.hid ha0
  have HB0 := Lib.hid hb0
  clear ha0 hb0
  unfold eVal
  go_enter Try.func3, Try.ntmps3
  go_wp2_with fail
  refine (entry_int e lv _ HE.out _ HZ.out).mono ?_
  rintro en w1 ⟨rfl, hb⟩
  have HA1 := Lib.hid ((HA0.out.below hb HA0.out.lt).alloc (boxE ⟨F1, t1, b1, v1, x1⟩))
  have HY1 := Lib.hid (EntAt.new w1 ⟨F1, t1, b1, v1, x1⟩)
  have HB1 := Lib.hid ((HB0.out.trans (hb.mono (HB0.out.size))).alloc (Nat.le_trans HB0.out.size hb.size) (boxE ⟨F1, t1, b1, v1, x1⟩))
  clear hb HA0 HB0
  unfold eVal
  go_wp2_with fail
  refine (rentry_int e lv _ HE.out _ HZ.out).mono ?_
  rintro en w2 ⟨rfl, hb⟩
  have HA2 := Lib.hid ((HA1.out.below hb HA1.out.lt).alloc (boxE ⟨F1, t1, b1, v1, x1⟩))
  have HY2 := Lib.hid ((HY1.out.below hb HY1.out.lt).alloc (boxE ⟨F1, t1, b1, v1, x1⟩))
  have HR2 := Lib.hid (EntAt.new w2 ⟨F1, t1, b1, v1, x1⟩)
  have HB2 := Lib.hid ((HB1.out.trans (hb.mono (HB1.out.size))).alloc (Nat.le_trans HB1.out.size hb.size) (boxE ⟨F1, t1, b1, v1, x1⟩))
  clear hb HA1 HY1 HB1
  unfold eVal
  obtain ⟨c0, c1, c2, c3, c4, c5⟩ := HA2.out.open_
  go_wp2_with fail
  refine (make_int ⟨F, t, b, v, x⟩ lv _ HY.out _ HK.out).mono ?_
  rintro en w3 ⟨rfl, hb⟩
  have HA3 := Lib.hid (HA2.out.below hb HA2.out.lt)
  have HY3 := Lib.hid (HY2.out.below hb HY2.out.lt)
  have HR3 := Lib.hid (HR2.out.below hb HR2.out.lt)
  have HB3 := Lib.hid (HB2.out.trans (hb.mono (HB2.out.size)))
  clear hb HA2 HY2 HR2 HB2 c0 c1 c2 c3 c4 c5
  obtain ⟨c0, c1, c2, c3, c4, c5⟩ := HA3.out.open_
  go_wp2_with fail
  refine (rmake_int ⟨F, t, b, v, x⟩ lv _ HY.out _ HK.out).mono ?_
  rintro en w4 ⟨rfl, hb⟩
  have HY4 := Lib.hid (HY3.out.below hb HY3.out.lt)
  have HR4 := Lib.hid (HR3.out.below hb HR3.out.lt)
  have HB4 := Lib.hid (HB3.out.trans (hb.mono (HB3.out.size)))
  clear hb HA3 HY3 HR3 HB3 c0 c1 c2 c3 c4 c5
  go_wp2_with fail
  refine (entry_int 20483 2 _ (by decide) _ sayI_one).mono ?_
  rintro en w5 ⟨rfl, hb⟩
  have hy5 := HY4.out.below hb HY4.out.lt
  have hr5 := HR4.out.below hb HR4.out.lt
  have HB5 := Lib.hid ((HB4.out.trans (hb.mono (HB4.out.size))).alloc (Nat.le_trans HB4.out.size hb.size) (boxE ⟨20480, false, false, true, false⟩))
  clear hb HY4 HR4 HB4
  obtain ⟨c0, c1, c2, c3, c4, c5⟩ := hy5.open_
  obtain ⟨d0, d1, d2, d3, d4, d5⟩ := hr5.open_
  clear hy5 hr5
  unfold eVal
  go_wp2_with fail
  go_ret
  exact ⟨rfl, HB5.out⟩
end Go.Proofs.Ytfpofaniicegaaa
