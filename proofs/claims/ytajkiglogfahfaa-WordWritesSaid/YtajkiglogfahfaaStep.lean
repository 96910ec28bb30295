/- The walk of the row's step. -/
import Derived.Test.YtajkiglogfahfaaWNew
import Derived.Test.YtajkiglogfahfaaBurstA
import Derived.Deep.Cut
import Derived.Deep.DeepCutAuto
set_option linter.unusedVariables false
set_option linter.unusedSimpArgs false
namespace Go.Proofs.Ytajkiglogfahfaa
open Go.RowKit

theorem box_at (w : World) (p : Addr) (L v : Value) {t t' : TypeId} {cs : Array Value} : (((w.setCell p L).alloc (.cells cs t')).alloc (.cells #[v] t)).cell? ⟨w.heap.size + 1, 0, none⟩ = some v := by
  have h := (Row.new ((w.setCell p L).alloc (.cells cs t')) t [v]).cell 0
  have e : ((w.setCell p L).alloc (.cells cs t')).heap.size = w.heap.size + 1 := by simp [World.setCell]
  rw [e] at h
  exact h
theorem info58 : (Try.prog.info? 58).map (fun i => (i.zero, i.size, i.bytes)) = some (some (.pointer none), 1, 8) := by kernel_rfl
theorem info102 : (Try.prog.info? 102).map (fun i => (i.zero, i.size, i.bytes)) = some (some (.pointer none), 1, 8) := by kernel_rfl
set_option maxRecDepth 100000 in
set_option maxHeartbeats 4000000 in
theorem step_new (B gx : Nat) (es : List En) (cs : List Value) (L M : Value) (SL SM S : List Nat) (w : World) (h : Wrow w B gx es cs L M SL SM S) (hB : B ≤ w.heap.size) (at_ : Int) (n : Nat) (num : Int) (pa : Option Addr) (pn pc : Nat) (t : ByteArray) (hi : es.length ≤ 1000000) :
    Calls Try.prog 27 #[.pointer (some ⟨gx, 0, none⟩), .agg #[.int .i64 10, .int .i64 at_, .int .u64 (n : Nat), .int .i64 num, .slice pa pn pc, .string t]] w fun e w' => e = .returned (.bool true) ∧ (∃ cs' L' M' SL' SM' S' gw gr, Wrow w' B gx (es ++ [⟨gw, none, gr, none, ⟨[], 0⟩⟩]) cs' L' M' SL' SM' S') ∧ Below B w w' := by
  obtain ⟨i1, hi1, hy1, hy2, hy3⟩ := info_parts info58
  have HJ := Lib.hid hi1; have HY1 := Lib.hid hy1; have HY2 := Lib.hid hy2; have HY3 := Lib.hid hy3
  obtain ⟨i2, hi2, hz1, hz2, hz3⟩ := info_parts info102
  have HK := Lib.hid hi2; have HZ1 := Lib.hid hz1; have HZ2 := Lib.hid hz2; have HZ3 := Lib.hid hz3
  have hbx : Below w.heap.size w (w.alloc (.cells #[.int .i64 10, .int .i64 at_, .int .u64 (n : Nat), .int .i64 num, .slice pa pn pc, .string t] 54)) := (Below.refl _ _).alloc (Nat.le_refl _) _
  have HR := Lib.hid h
  have HBX := Lib.hid hbx
  clear h hbx hi1 hy1 hy2 hy3 hi2 hz1 hz2 hz3
  go_enter Try.func27, Try.ntmps27
  go_wp2_with fail
  refine (newwriter_any _).mono ?_
  rintro e w1 ⟨rfl, hwr, hb⟩
  obtain ⟨w0, hw0⟩ : ∃ w0, w0 = w.alloc (.cells #[.int .i64 10, .int .i64 at_, .int .u64 (n : Nat), .int .i64 num, .slice pa pn pc, .string t] 54) := ⟨_, rfl⟩
  rw [← hw0] at hwr hb HBX ⊢
  clear hw0
  obtain ⟨gw, hgw⟩ : ∃ gw, gw = w0.heap.size := ⟨_, rfl⟩
  rw [← hgw] at hwr ⊢
  have HB1 := Lib.hid (HBX.out.trans (hb.mono HBX.out.size))
  have hr1 := HR.out.below HB1.out
  have hcells := hr1.cells
  obtain ⟨c0, c1, f0, f1, hgx⟩ := hcells
  have HR1 := Lib.hid hr1
  have HWR := Lib.hid hwr
  have HGW := Lib.hid hgw
  have hgwB : w.heap.size ≤ gw := by rw [hgw]; exact HBX.out.size
  clear hwr hb hr1 hgw
  go_wp2_with (first
    | (at_builtin; refine wpList_append_tl _ (by rfl) (.tmp 18) (.tmp 20) 45 rfl 58 i1 _ 8 Try.underlying45 HJ.out HY1.out HY2.out HY3.out rfl L es.length (es.map En.pw) SL rfl (HR1.out.ws.chg ((Chg.refl [] w1).alloc _) (by simp)) ⟨w1.heap.size, 0, none⟩ 1 (.pointer (some ⟨gw, 0, none⟩)) rfl ((Row.new w1 58 [.pointer (some ⟨gw, 0, none⟩)]).cell 0) rfl (by unfold maxLen; omega) (by omega) ?_; intro A1 c1' S1 w2 HL1 HC1 HS1; have hwn := wnew1 HR.out HR1.out _ HL1.out HC1.out; have HCW := Lib.hid hwn.2; have d0 : w2.cell? ⟨gx, 0, none⟩ = some L := (hwn.1.cell 0).trans HR1.out.c0; have d1 := hwn.1.frozen 0; have d2 : w2.cell? ⟨gx, 1, none⟩ = some M := (hwn.1.cell 1).trans HR1.out.c1; have d3 := hwn.1.frozen 1; have d4 := hwn.1.lt; clear hwn)
    | (at_builtin; refine wpList_append_tl _ (by rfl) (.tmp 28) (.tmp 31) 46 rfl 102 i2 _ 8 Try.underlying46 HK.out HZ1.out HZ2.out HZ3.out rfl M es.length (es.map En.pr) SM rfl (wnew_is HR1.out HCW.out _ _) ⟨w2.heap.size + 1, 0, none⟩ 1 (.pointer (some ⟨w2.heap.size, 0, none⟩)) (by simp [Act.eval, World.setCell]) ?hu rfl (by unfold maxLen; omega) (by omega) ?_; rotate_right; intro A2 c2' S2 w6 HL2 HC2 HS2; have hwm := wnew2 HR.out HB1.out hB hgwB HWR.out _ _ HL1.out HC1.out HS1.out HL2.out HC2.out HS2.out; have HWM := Lib.hid hwm.2; have hl := hwm.1.lt; have d5 : w6.cell? ⟨gx, 1, none⟩ = some M := (by rw [hwm.1.cell, List.getElem?_set_ne (by omega)]; exact HR1.out.c1); have d6 := hwm.1.frozen 1; clear hwm)
    | fail)
  case hu => exact box_at _ _ _ _
  go_ret
  exact ⟨rfl, ⟨_, _, _, _, _, _, _, _, HWM.out.1⟩, HWM.out.2⟩
end Go.Proofs.Ytajkiglogfahfaa
