/- Texts of this claim, one behind the other: BuZ. -/
import Derived.Test.YtfpofaniicegaaaGreatJWalkForeign18
import Derived.StillTailTactics
/- The document's machine: Peek, Load. -/
set_option linter.unusedVariables false
set_option linter.unusedSimpArgs false
namespace Go.Proofs.YtfpofaniicegaaaGreat
open Go.RowKit
open S64
namespace Bu
/-- what a quiet call leaves the document's machine -/
structure RQ (w : World) (B g : Nat) (M : PM) (A1 A2 Ap : Option Addr) (n1 n2 c1 c2 np cp : Nat) (pgs : List (Nat × Nat)) (wr : World) : Prop where
  m : RMA wr B g M A1 A2 Ap n1 n2 c1 c2 np cp pgs
  c : ChgP (fun k => k = g) w wr
theorem RQ.below {w wr wx : World} {B g : Nat} {M : PM} {A1 A2 Ap : Option Addr} {n1 n2 c1 c2 np cp : Nat} {pgs : List (Nat × Nat)} (h : RQ w B g M A1 A2 Ap n1 n2 c1 c2 np cp pgs wr) (hb : Below wr.heap.size wr wx) : RQ w B g M A1 A2 Ap n1 n2 c1 c2 np cp pgs wx :=
  ⟨h.m.below hb, h.c.trans (ChgP.of_below (Z := fun k => k = g) hb) (fun x hx => .inl hx)⟩
theorem RQ.then {w wr wx : World} {B g : Nat} {M M' : PM} {A1 A2 Ap : Option Addr} {n1 n2 c1 c2 np cp : Nat} {pgs : List (Nat × Nat)} (h : RQ w B g M A1 A2 Ap n1 n2 c1 c2 np cp pgs wr) (h2 : RQ wr B g M' A1 A2 Ap n1 n2 c1 c2 np cp pgs wx) : RQ w B g M' A1 A2 Ap n1 n2 c1 c2 np cp pgs wx :=
  ⟨h2.m, h.c.trans h2.c (fun x hx => .inl hx)⟩
/-- a fault is laid into the result's cell -/
theorem RQ.fault {w wd : World} {B g c : Nat} {M : PM} {A1 A2 Ap : Option Addr} {n1 n2 c1 c2 np cp : Nat} {pgs : List (Nat × Nat)} {cs : List Value} (h : RQ w B g M A1 A2 Ap n1 n2 c1 c2 np cp pgs wd) (hr : Row wd c 33 cs) (hB : B ≤ c) (hw : w.heap.size ≤ c) (u v : Value) :
    RQ w B g M A1 A2 Ap n1 n2 c1 c2 np cp pgs ((wd.setCell ⟨c, 0, none⟩ u).setCell ⟨c, 1, none⟩ v) :=
  ⟨(h.m.far hr hB 0 u).far (hr.set_ 0 u) hB 1 v, (h.c.set_ (p := ⟨c, 0, none⟩) (.inr hw) u).set_ (p := ⟨c, 1, none⟩) (.inr hw) v⟩
theorem RQ.drew {w wr : World} {B g : Nat} {M : PM} {A1 A2 Ap : Option Addr} {n1 n2 c1 c2 np cp : Nat} {pgs : List (Nat × Nat)} (h : RQ w B g M A1 A2 Ap n1 n2 c1 c2 np cp pgs wr) : RQ w B g M A1 A2 Ap n1 n2 c1 c2 np cp pgs wr.drew := h.below (Below.refl _ _).drew
theorem numB_cons (mem : Nat → Nat) (a k : Nat) : numB mem a (k + 1) = mem a + 256 * numB mem (a + 1) k := by
  unfold numB
  rw [List.range_succ_eq_map, List.map_cons, List.map_map, Wd.unle]
  congr 2
  congr 1
  refine List.map_congr_left fun i _ => ?_
  show mem (a + (i + 1)) = mem (a + 1 + i)
  congr 1; omega
set_option maxRecDepth 100000 in
set_option maxHeartbeats 1000000 in
theorem refpeek_bad {w : World} {B g : Nat} {M : PM} {A1 A2 Ap : Option Addr} {n1 n2 c1 c2 np cp : Nat} {pgs : List (Nat × Nat)} (h : RMA w B g M A1 A2 Ap n1 n2 c1 c2 np cp pgs) (at_ : Nat) (z : Int) (hz : wideB z = false) :
    Calls Tryz.prog 62 #[.pointer (some ⟨g, 0, none⟩), .int .u64 (at_ : Nat), .int .i64 z] w fun e w' => e = .returned (.tuple #[.int .u64 0, .agg #[.int .i64 31, .int .u64 (at_ : Nat)]]) ∧ RQ w B g M A1 A2 Ap n1 n2 c1 c2 np cp pgs w' := by
  have HZ := Lib.hid hz
  have HM := Lib.hid h
  have HGB : Hid (B ≤ w.heap.size) := Lib.hid (Nat.le_of_lt (Nat.lt_of_le_of_lt h.gB h.row.lt))
  clear h hz
  go_enter Tryz.func62, Tryz.ntmps62
  go_upto_region 1 with fail
  have r0 : Row (w.alloc (.cells #[.int .i64 0, .int .u64 0] 33)) w.heap.size 33 [.int .i64 0, .int .u64 0] := Row.new w _ [.int .i64 0, .int .u64 0]
  have hb0 : Below w.heap.size w (w.alloc (.cells #[.int .i64 0, .int .u64 0] 33)) := (Below.refl _ _).alloc (Nat.le_refl _) _
  generalize w.alloc (.cells #[.int .i64 0, .int .u64 0] 33) = w1 at *
  have f0 := r0.cell 0
  have f1 := r0.cell 1
  have fz0 := r0.frozen 0
  have fz1 := r0.frozen 1
  have lf := r0.lt
  simp only [List.getElem?_cons_zero, List.getElem?_cons_succ] at f0 f1
  have HQ : Hid (RQ w B g M A1 A2 Ap n1 n2 c1 c2 np cp pgs w1) := Lib.hid ⟨HM.out.below hb0, ChgP.of_below hb0⟩
  have HR := Lib.hid r0
  clear hb0 r0
  go_wp2_with fail
  refine (refright_any z w1).mono ?_
  rw [HZ.out]
  rintro e w' ⟨rfl, rfl⟩
  have hrz := (HR.out.set_ 0 (.int .i64 31)).set_ 1 (.int .u64 (at_ : Nat))
  have z0 := hrz.cell 0
  have z1 := hrz.cell 1
  simp only [List.set_cons_zero, List.set_cons_succ, List.getElem?_cons_zero, List.getElem?_cons_succ] at z0 z1
  have HZ0 := Lib.hid z0
  have HZ1 := Lib.hid z1
  have HQ5 := Lib.hid (HQ.out.fault HR.out HGB.out (Nat.le_refl _) (.int .i64 31) (.int .u64 (at_ : Nat)))
  clear hrz z0 z1
  go_wp2_with fail
  refine bodyPost_ret (v := .tuple #[.int .u64 0, .agg #[.int .i64 31, .int .u64 (at_ : Nat)]]) (by simp [results, Tryz.results62, go_sem, HZ0.out, HZ1.out]) rfl ⟨rfl, HQ5.out⟩
set_option maxRecDepth 100000 in
set_option maxHeartbeats 4000000 in
theorem refpeek_any {w : World} {B g : Nat} {M : PM} {A1 A2 Ap : Option Addr} {n1 n2 c1 c2 np cp : Nat} {pgs : List (Nat × Nat)} (h : RMA w B g M A1 A2 Ap n1 n2 c1 c2 np cp pgs) (at_ n : Nat) (hk : n = 1 ∨ n = 2 ∨ n = 4 ∨ n = 8) (ha : at_ ≤ TOP) (hs : True) {F : Option Nat} (hF : OffIs (M.rams ++ M.devs) at_ n F) :
    Calls Tryz.prog 62 #[.pointer (some ⟨g, 0, none⟩), .int .u64 (at_ : Nat), .int .i64 (n : Nat)] w fun e w' => e = .returned (.tuple #[.int .u64 (peekV M at_ n F : Nat), faultV F]) ∧ RQ w B g (stray M F) A1 A2 Ap n1 n2 c1 c2 np cp pgs w' := by
  have HM := Lib.hid h
  have HA := Lib.hid ha; have HS := Lib.hid hs; have HF := Lib.hid hF
  have HW := Lib.hid (wideB_of hk)
  have hn8 : n ≤ 8 := by omega
  have hn0 : 0 < n := by omega
  have HGB : Hid (B ≤ w.heap.size) := Lib.hid (Nat.le_of_lt (Nat.lt_of_le_of_lt h.gB h.row.lt))
  clear h ha hs hk hF
  go_enter Tryz.func62, Tryz.ntmps62
  go_upto_region 1 with fail
  have r0 : Row (w.alloc (.cells #[.int .i64 0, .int .u64 0] 33)) w.heap.size 33 [.int .i64 0, .int .u64 0] := Row.new w _ [.int .i64 0, .int .u64 0]
  have hb0 : Below w.heap.size w (w.alloc (.cells #[.int .i64 0, .int .u64 0] 33)) := (Below.refl _ _).alloc (Nat.le_refl _) _
  obtain ⟨c, hc⟩ : ∃ c, c = w.heap.size := ⟨_, rfl⟩
  generalize w.alloc (.cells #[.int .i64 0, .int .u64 0] 33) = w1 at *
  rw [← hc] at r0 ⊢
  have HCW : Hid (w.heap.size ≤ c) := Lib.hid (Nat.le_of_eq hc.symm)
  have HCB : Hid (B ≤ c) := Lib.hid (Nat.le_trans HGB.out HCW.out)
  have HQ : Hid (RQ w B g M A1 A2 Ap n1 n2 c1 c2 np cp pgs w1) := Lib.hid ⟨HM.out.below hb0, ChgP.of_below hb0⟩
  have HR := Lib.hid r0
  clear hb0 r0 hc
  go_wp2_with fail
  refine (refright_any (n : Int) w1).mono ?_
  rw [HW.out]
  rintro e w' ⟨rfl, rfl⟩
  go_wp2_with fail
  refine (refaccess_any HQ.out.m at_ n HA.out (by omega) HS.out HF.out).mono ?_
  rintro e w2 ⟨rfl, h2, h3⟩
  have HQ2 := Lib.hid (HQ.out.then ⟨h2, h3⟩)
  have HR2 := Lib.hid (h3.row HR.out (Row.ne_t HR.out HQ.out.m.row (by decide)))
  clear h2 h3 HQ HR
  cases F with
  | some p =>
    unfold faultV
    go_upto_region 4 with fail
    have hrc : Row (w2.alloc (.cells #[.int .i64 30, .int .u64 (p : Nat)] 33)) w2.heap.size 33 [.int .i64 30, .int .u64 (p : Nat)] := Row.new w2 _ [.int .i64 30, .int .u64 (p : Nat)]
    have hra := HR2.out.alloc (.cells #[.int .i64 30, .int .u64 (p : Nat)] 33)
    have hq3 := HQ2.out.below ((Below.refl _ _).alloc (Nat.le_refl _) (.cells #[.int .i64 30, .int .u64 (p : Nat)] 33))
    obtain ⟨c8, hc8⟩ : ∃ c, c = w2.heap.size := ⟨_, rfl⟩
    rw [← hc8] at hrc ⊢
    clear hc8
    generalize w2.alloc (.cells #[.int .i64 30, .int .u64 (p : Nat)] 33) = w3 at *
    have HRA := Lib.hid hra; have HQ3 := Lib.hid hq3
    have q0 := hra.cell 0
    have q1 := hra.cell 1
    have t0 := hrc.cell 0
    have t1 := hrc.cell 1
    have la := hra.lt
    have lc := hrc.lt
    have a0 := hra.frozen 0
    have a1 := hra.frozen 1
    simp only [List.getElem?_cons_zero, List.getElem?_cons_succ] at q0 q1 t0 t1
    clear hra hrc hq3
    go_upto_region 5 with fail
    go_still_tail 2, (by kernel_rfl)
    change wpList _ _ _ _ _ w3.drew
    have HY0 := Lib.hid ((HRA.out.set_ 0 (.int .i64 30)).cell 0)
    have HY1 := Lib.hid (((HRA.out.set_ 0 (.int .i64 30)).set_ 1 (.int .u64 (p : Nat))).cell 1)
    simp only [List.set_cons_zero, List.set_cons_succ, List.getElem?_cons_zero, List.getElem?_cons_succ] at HY0 HY1
    have HQ5 := Lib.hid (HQ3.out.drew.fault HRA.out.drew HCB.out HCW.out (.int .i64 30) (.int .u64 (p : Nat)))
    go_wp2_with fail
    refine bodyPost_ret (v := .tuple #[.int .u64 0, .agg #[.int .i64 30, .int .u64 (p : Nat)]]) (by simp [results, Tryz.results62, go_sem, HY0.out, HY1.out]) rfl ⟨rfl, HQ5.out⟩
  | none =>
    unfold faultV
    go_upto_region 4 with fail
    have hrc : Row (w2.alloc (.cells #[.int .i64 0, .int .u64 0] 33)) w2.heap.size 33 [.int .i64 0, .int .u64 0] := Row.new w2 _ [.int .i64 0, .int .u64 0]
    have hra := HR2.out.alloc (.cells #[.int .i64 0, .int .u64 0] 33)
    have hq3 := HQ2.out.below ((Below.refl _ _).alloc (Nat.le_refl _) (.cells #[.int .i64 0, .int .u64 0] 33))
    obtain ⟨c8, hc8⟩ : ∃ c, c = w2.heap.size := ⟨_, rfl⟩
    rw [← hc8] at hrc ⊢
    clear hc8
    generalize w2.alloc (.cells #[.int .i64 0, .int .u64 0] 33) = w3 at *
    have HRA := Lib.hid hra; have HQ3 := Lib.hid hq3; have HRC := Lib.hid hrc
    have t0 := hrc.cell 0
    have lc := hrc.lt
    simp only [List.getElem?_cons_zero, List.getElem?_cons_succ] at t0
    clear hra hrc hq3
    have H32 : Hid (n = 0 ∨ at_ + n ≤ 4294967296) := Lib.hid (.inr (by
      have h1 := HF.out (at_ + n - 1) (by omega) (by omega)
      obtain ⟨r, hr, h2⟩ := List.any_eq_true.1 h1
      have h2 := of_decide_eq_true h2
      have h3 := (HQ3.out.m.ok.good r hr).2
      unfold M32 at h3
      omega))
    go_wp2_with fail
    refine (refbytes_any HQ3.out.m at_ n HA.out H32.out).mono ?_
    rintro e w5 ⟨bb, rfl, hbb, hrb, hb5⟩
    have HRA5 := Lib.hid (HRA.out.below hb5 HRA.out.lt)
    have HRC5 := Lib.hid (HRC.out.below hb5 HRC.out.lt)
    have HQ5 := Lib.hid (HQ3.out.below hb5)
    have HRB := Lib.hid hrb
    clear hbb hrb hb5 t0 lc HQ3 HRA HRC HR2 HQ2
    go_wp2_with fail
    go_loopw [10, 11] (fun acc i wr => ∃ j v : Nat, j ≤ n ∧ i = .int .i64 ((j : Int) - 1) ∧ acc = .int .u64 (v : Nat) ∧ Hid (v = numB M.mem (at_ + j) (n - j)) ∧ w5 = wr) (fun _ i _ => (intOf i + 1).toNat)
    case atStart => exact ⟨n, 0, Nat.le_refl _, by first | rfl | go_num, rfl, Lib.hid (by rw [Nat.sub_self]; rfl), rfl⟩
    case round =>
    obtain ⟨j, v, hj, rfl, rfl, HV, rfl⟩ := hrel
    cases j with
    | succ j =>
      have ej : ((j + 1 : Nat) : Int) - 1 = (j : Int) := by omega
      rw [ej]
      obtain ⟨y, hy⟩ : ∃ y, y = M.mem (at_ + j) := ⟨_, rfl⟩
      have hy256 : y < 256 := by rw [hy]; exact HM.out.byte _
      have hjn : j < n := by omega
      have hv7 : v < 72057594037927936 := by
        have h1 := numB_lt HM.out.byte (at_ + (j + 1)) (n - (j + 1))
        rw [← HV.out] at h1
        have h2 : (256 : Nat) ^ (n - (j + 1)) ≤ 256 ^ 7 := Nat.pow_le_pow_right (by decide) (by omega)
        have h3 : (256 : Nat) ^ 7 = 72057594037927936 := by decide
        omega
      have r0 := HRB.out.cell j
      rw [outB_get _ _ _ _ _ hjn, if_pos hjn, show (stray M none).mem (at_ + j) = M.mem (at_ + j) from rfl, ← hy] at r0
      simp only [u8] at r0
      have lr := HRB.out.lt
      have HV' : Hid (v * 256 + y = numB M.mem (at_ + j) (n - j)) := Lib.hid (by
        rw [show n - j = (n - (j + 1)) + 1 by omega, numB_cons, ← hy, HV.out, show at_ + j + 1 = at_ + (j + 1) by omega]
        omega)
      clear hy ej
      go_wp2_with fail
      go_roundw
      case rel => exact ⟨j, v * 256 + y, by omega, by first | rfl | go_num, by first | rfl | go_num, HV', by first | rfl | trivial⟩
      case measure => (simp [intOf]; try omega)
    | zero =>
      have ez : ((0 : Nat) : Int) - 1 = -1 := by omega
      rw [ez]
      have HVE : Hid (v = numB M.mem at_ n) := Lib.hid (by have := HV.out; simpa using this)
      have t0 := HRC5.out.cell 0
      have t1 := HRC5.out.cell 1
      have q0 := HRA5.out.cell 0
      have q1 := HRA5.out.cell 1
      have la := HRA5.out.lt
      have lc := HRC5.out.lt
      have a0 := HRA5.out.frozen 0
      have a1 := HRA5.out.frozen 1
      simp only [List.getElem?_cons_zero, List.getElem?_cons_succ] at q0 q1 t0 t1
      go_upto_region 12 with fail
      go_still_tail 3, (by kernel_rfl)
      change wpList _ _ _ _ _ w5.drew
      have HY0 := Lib.hid ((HRA5.out.set_ 0 (.int .i64 0)).cell 0)
      have HY1 := Lib.hid (((HRA5.out.set_ 0 (.int .i64 0)).set_ 1 (.int .u64 0)).cell 1)
      simp only [List.set_cons_zero, List.set_cons_succ, List.getElem?_cons_zero, List.getElem?_cons_succ] at HY0 HY1
      have HQ6 := Lib.hid (HQ5.out.drew.fault HRA5.out.drew HCB.out HCW.out (.int .i64 0) (.int .u64 0))
      go_wp2_with fail
      refine bodyPost_ret (v := .tuple #[.int .u64 (v : Nat), .agg #[.int .i64 0, .int .u64 0]]) (by simp [results, Tryz.results62, go_sem, HY0.out, HY1.out]) rfl ⟨by rw [HVE.out]; rfl, HQ6.out⟩
set_option maxRecDepth 100000 in
set_option maxHeartbeats 2000000 in
theorem refload_any {w : World} {B g : Nat} {M : PM} {A1 A2 Ap : Option Addr} {n1 n2 c1 c2 np cp : Nat} {pgs : List (Nat × Nat)} (h : RMA w B g M A1 A2 Ap n1 n2 c1 c2 np cp pgs) (at_ n : Nat) (hk : n = 1 ∨ n = 2 ∨ n = 4 ∨ n = 8) (ha : at_ ≤ TOP) (hs : True) (hl : True) {F : Option Nat} (hF : OffIs (M.rams ++ M.devs) at_ n F) :
    Calls Tryz.prog 43 #[.pointer (some ⟨g, 0, none⟩), .int .u64 (at_ : Nat), .int .i64 (n : Nat)] w fun e w' => e = .returned (.tuple #[.int .u64 (peekV M at_ n F : Nat), faultV F]) ∧ RQ w B g (loadM M F) A1 A2 Ap n1 n2 c1 c2 np cp pgs w' := by
  have HM := Lib.hid h
  have HL := Lib.hid hl
  have HGB : Hid (B ≤ w.heap.size) := Lib.hid (Nat.le_of_lt (Nat.lt_of_le_of_lt h.gB h.row.lt))
  have HPK : Hid (∀ wx, RMA wx B g M A1 A2 Ap n1 n2 c1 c2 np cp pgs → Calls Tryz.prog 62 #[.pointer (some ⟨g, 0, none⟩), .int .u64 (at_ : Nat), .int .i64 (n : Nat)] wx fun e w' => e = .returned (.tuple #[.int .u64 (peekV M at_ n F : Nat), faultV F]) ∧ RQ wx B g (stray M F) A1 A2 Ap n1 n2 c1 c2 np cp pgs w') := Lib.hid (fun wx hx => refpeek_any hx at_ n hk ha hs hF)
  obtain ⟨v, hv⟩ : ∃ v, v = peekV M at_ n F := ⟨_, rfl⟩
  rw [← hv] at HPK ⊢
  clear h hk ha hs hl hF hv
  go_enter Tryz.func43, Tryz.ntmps43
  go_upto_region 1 with fail
  have r0 : Row (w.alloc (.cells #[.int .i64 0, .int .u64 0] 33)) w.heap.size 33 [.int .i64 0, .int .u64 0] := Row.new w _ [.int .i64 0, .int .u64 0]
  have hb0 : Below w.heap.size w (w.alloc (.cells #[.int .i64 0, .int .u64 0] 33)) := (Below.refl _ _).alloc (Nat.le_refl _) _
  obtain ⟨c, hc⟩ : ∃ c, c = w.heap.size := ⟨_, rfl⟩
  generalize w.alloc (.cells #[.int .i64 0, .int .u64 0] 33) = w1 at *
  rw [← hc] at r0 ⊢
  have HCW : Hid (w.heap.size ≤ c) := Lib.hid (Nat.le_of_eq hc.symm)
  have HCB : Hid (B ≤ c) := Lib.hid (Nat.le_trans HGB.out HCW.out)
  have HQ : Hid (RQ w B g M A1 A2 Ap n1 n2 c1 c2 np cp pgs w1) := Lib.hid ⟨HM.out.below hb0, ChgP.of_below hb0⟩
  have HR := Lib.hid r0
  clear hb0 r0 hc
  go_wp2_with fail
  refine (HPK.out w1 HQ.out.m).mono ?_
  rintro e w2 ⟨rfl, h2⟩
  have HQ2 := Lib.hid (HQ.out.then h2)
  have HR2 := Lib.hid (h2.c.row HR.out (Row.ne_t HR.out HQ.out.m.row (by decide)))
  clear h2 HQ HR
  cases F with
  | some p =>
    unfold faultV
    go_upto_region 2 with fail
    have hrc : Row (w2.alloc (.cells #[.int .i64 30, .int .u64 (p : Nat)] 33)) w2.heap.size 33 [.int .i64 30, .int .u64 (p : Nat)] := Row.new w2 _ [.int .i64 30, .int .u64 (p : Nat)]
    have hra := HR2.out.alloc (.cells #[.int .i64 30, .int .u64 (p : Nat)] 33)
    have hq3 := HQ2.out.below ((Below.refl _ _).alloc (Nat.le_refl _) (.cells #[.int .i64 30, .int .u64 (p : Nat)] 33))
    obtain ⟨c8, hc8⟩ : ∃ c, c = w2.heap.size := ⟨_, rfl⟩
    rw [← hc8] at hrc ⊢
    clear hc8
    generalize w2.alloc (.cells #[.int .i64 30, .int .u64 (p : Nat)] 33) = w3 at *
    have HRA := Lib.hid hra; have HQ3 := Lib.hid hq3; have HRC := Lib.hid hrc
    have t0 := hrc.cell 0
    have lc := hrc.lt
    simp only [List.getElem?_cons_zero, List.getElem?_cons_succ] at t0
    clear hra hrc hq3
    go_upto_region 4 with fail
    clear t0 lc
    have t0 := HRC.out.cell 0
    have t1 := HRC.out.cell 1
    have q0 := HRA.out.cell 0
    have q1 := HRA.out.cell 1
    have la := HRA.out.lt
    have lc := HRC.out.lt
    have a0 := HRA.out.frozen 0
    have a1 := HRA.out.frozen 1
    simp only [List.getElem?_cons_zero, List.getElem?_cons_succ] at q0 q1 t0 t1
    go_still_tail 3, (by kernel_rfl)
    change wpList _ _ _ _ _ w3.drew
    have HY0 := Lib.hid ((HRA.out.set_ 0 (.int .i64 30)).cell 0)
    have HY1 := Lib.hid (((HRA.out.set_ 0 (.int .i64 30)).set_ 1 (.int .u64 (p : Nat))).cell 1)
    simp only [List.set_cons_zero, List.set_cons_succ, List.getElem?_cons_zero, List.getElem?_cons_succ] at HY0 HY1
    have HQ6 := Lib.hid (HQ3.out.drew.fault HRA.out.drew HCB.out HCW.out (.int .i64 30) (.int .u64 (p : Nat)))
    go_wp2_with fail
    refine bodyPost_ret (v := .tuple #[.int .u64 (v : Nat), .agg #[.int .i64 30, .int .u64 (p : Nat)]]) (by simp [results, Tryz.results43, go_sem, HY0.out, HY1.out]) rfl ⟨rfl, HQ6.out⟩
  | none =>
    unfold faultV
    go_upto_region 2 with fail
    have hrc : Row (w2.alloc (.cells #[.int .i64 0, .int .u64 0] 33)) w2.heap.size 33 [.int .i64 0, .int .u64 0] := Row.new w2 _ [.int .i64 0, .int .u64 0]
    have hra := HR2.out.alloc (.cells #[.int .i64 0, .int .u64 0] 33)
    have hq3 := HQ2.out.below ((Below.refl _ _).alloc (Nat.le_refl _) (.cells #[.int .i64 0, .int .u64 0] 33))
    obtain ⟨c8, hc8⟩ : ∃ c, c = w2.heap.size := ⟨_, rfl⟩
    rw [← hc8] at hrc ⊢
    clear hc8
    generalize w2.alloc (.cells #[.int .i64 0, .int .u64 0] 33) = w3 at *
    have HRA := Lib.hid hra; have HQ3 := Lib.hid hq3; have HRC := Lib.hid hrc
    have t0 := hrc.cell 0
    have lc := hrc.lt
    simp only [List.getElem?_cons_zero, List.getElem?_cons_succ] at t0
    clear hra hrc hq3
    have p3 := HQ3.out.m.row.cell 3
    have pf := HQ3.out.m.row.frozen 3
    have lg := HQ3.out.m.row.lt
    simp only [List.getElem?_cons_zero, List.getElem?_cons_succ] at p3
    obtain ⟨yy, hyy⟩ : ∃ yy, yy = cInc M.loads := ⟨_, rfl⟩
    have hw1 : IntKind.i64.wrap (M.loads + 1) = yy := by rw [hyy]; rfl
    have hw2 : wrap64 (M.loads + 1) = yy := by rw [hyy]; unfold cInc wrap64; exact (IntKind.wrap_i64 _).symm
    have HYY := Lib.hid hyy
    clear hyy
    rw [show (stray M none).loads = M.loads from rfl] at p3
    go_upto_region 4 with fail
    have HQ4 : Hid (RQ w B g { M with loads := cInc M.loads } A1 A2 Ap n1 n2 c1 c2 np cp pgs (w3.setCell ⟨g, 3, none⟩ (.int .i64 yy))) := Lib.hid ⟨HQ3.out.m.count 3 _ { M with loads := cInc M.loads } rfl rfl rfl (by rw [HYY.out]; simp [stray]), HQ3.out.c.set_ (p := ⟨g, 3, none⟩) (.inl rfl) _⟩
    have HRA4 := Lib.hid (HRA.out.far (p := ⟨g, 3, none⟩) (Row.ne_t HRA.out HQ3.out.m.row (by decide)) (.int .i64 yy))
    have HRC4 := Lib.hid (HRC.out.far (p := ⟨g, 3, none⟩) (Row.ne_t HRC.out HQ3.out.m.row (by decide)) (.int .i64 yy))
    clear p3 pf lg hw1 hw2 t0 lc HQ3 HRA HRC
    generalize w3.setCell ⟨g, 3, none⟩ (.int .i64 yy) = w4 at *
    have t0 := HRC4.out.cell 0
    have t1 := HRC4.out.cell 1
    have q0 := HRA4.out.cell 0
    have q1 := HRA4.out.cell 1
    have la := HRA4.out.lt
    have lc := HRC4.out.lt
    have a0 := HRA4.out.frozen 0
    have a1 := HRA4.out.frozen 1
    simp only [List.getElem?_cons_zero, List.getElem?_cons_succ] at q0 q1 t0 t1
    go_still_tail 3, (by kernel_rfl)
    change wpList _ _ _ _ _ w4.drew
    have HY0 := Lib.hid ((HRA4.out.set_ 0 (.int .i64 0)).cell 0)
    have HY1 := Lib.hid (((HRA4.out.set_ 0 (.int .i64 0)).set_ 1 (.int .u64 0)).cell 1)
    simp only [List.set_cons_zero, List.set_cons_succ, List.getElem?_cons_zero, List.getElem?_cons_succ] at HY0 HY1
    have HQ6 := Lib.hid (HQ4.out.drew.fault HRA4.out.drew HCB.out HCW.out (.int .i64 0) (.int .u64 0))
    go_wp2_with fail
    refine bodyPost_ret (v := .tuple #[.int .u64 (v : Nat), .agg #[.int .i64 0, .int .u64 0]]) (by simp [results, Tryz.results43, go_sem, HY0.out, HY1.out]) rfl ⟨rfl, HQ6.out⟩
set_option maxRecDepth 100000 in
set_option maxHeartbeats 1000000 in
theorem refnew_any (A1 A2 : Option Addr) (n1 n2 c1 c2 : Nat) (rams devs : Sp.S) (w : World) (h1 : IsS w w.heap.size A1 n1 rams) (h2 : IsS w w.heap.size A2 n2 devs) (ho : Okay rams devs) :
    Calls Tryz.prog 7 #[.agg #[.slice A1 n1 c1, .slice A2 n2 c2]] w fun e w' => ∃ g, e = .returned (.pointer (some ⟨g, 0, none⟩)) ∧ w.heap.size ≤ g ∧ RMA w' w.heap.size g ⟨rams, devs, fun _ => 0, 0, 0, 0, fun l => l = []⟩ A1 A2 none n1 n2 c1 c2 0 0 [] ∧ Below w.heap.size w w' := by
  have H1 := Lib.hid h1; have H2 := Lib.hid h2; have HO := Lib.hid ho
  clear h1 h2 ho
  go_enter Tryz.func7, Tryz.ntmps7
  go_upto_region 1 with fail
  have r0 : Row (w.alloc (.cells #[.slice A1 n1 c1, .slice A2 n2 c2] 24)) w.heap.size 24 [.slice A1 n1 c1, .slice A2 n2 c2] := Row.new w _ [.slice A1 n1 c1, .slice A2 n2 c2]
  have hb0 : Below w.heap.size w (w.alloc (.cells #[.slice A1 n1 c1, .slice A2 n2 c2] 24)) := (Below.refl _ _).alloc (Nat.le_refl _) _
  obtain ⟨c, hc⟩ : ∃ c, c = w.heap.size := ⟨_, rfl⟩
  generalize w.alloc (.cells #[.slice A1 n1 c1, .slice A2 n2 c2] 24) = w1 at *
  rw [← hc] at r0 ⊢
  clear hc
  have p0 := r0.cell 0
  have p1 := r0.cell 1
  have lp := r0.lt
  simp only [List.getElem?_cons_zero, List.getElem?_cons_succ] at p0 p1
  have HB0 := Lib.hid hb0
  clear r0 hb0
  go_wp2_with fail
  go_ret
  have hb1 : Below w.heap.size w (w1.alloc (.cells #[.slice A1 n1 c1, .slice A2 n2 c2, .slice none 0 0, .int .i64 0, .int .i64 0, .int .i64 0] 44)) := HB0.out.alloc HB0.out.size _
  exact ⟨w1.heap.size, rfl, HB0.out.size, ⟨Row.new w1 _ [.slice A1 n1 c1, .slice A2 n2 c2, .slice none 0 0, .int .i64 0, .int .i64 0, .int .i64 0], HB0.out.size, H1.out.below hb1, H2.out.below hb1, HO.out, World.ownsRow_nil _ _ _ _, rfl, (fun x hx => by cases hx), List.nodup_nil, List.nodup_nil, fun _ _ => rfl, fun _ => (show 0 < 256 by omega)⟩, hb1⟩
end Bu
end Go.Proofs.YtfpofaniicegaaaGreat
