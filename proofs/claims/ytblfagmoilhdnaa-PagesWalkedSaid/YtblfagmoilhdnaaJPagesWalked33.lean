/- Texts of this claim, one behind the other: PwE, PwF, U64Open. -/
import Derived.Test.YtblfagmoilhdnaaJPagesWalked32
import Derived.Test.YtblfagmoilhdnaaJPagesWalked20
import Derived.Deep.RegionHeld3
import Derived.Deep.RegionLaw
import Derived.StillTailTactics
import Derived.Test.YtblfagmoilhdnaaJPagesWalked18
import Derived.Deep.QuietTactic
import Derived.Test.YtblfagmoilhdnaaJPagesWalked27
/- The walk of the document's At. -/
set_option linter.unusedVariables false
set_option linter.unusedSimpArgs false
namespace Go.Proofs.Ytblfagmoilhdnaa
open Go.RowKit
namespace Pg
def zlf : Lf := ⟨0, 0, 0, false, false, false⟩
/-- what At answers -/
def atV (rows : List Lf) (virt : Nat) : Value := match atR rows virt with
  | none => .tuple #[.int .u64 0, lfV zlf, .bool false]
  | some r => .tuple #[.int .u64 ((r.p + (virt - r.v) : Nat) : Nat), lfV r, .bool true]
theorem atR_at {rows : List Lf} {virt k : Nat} {r : Lf} (hr : rows[k]? = some r) (hn : ∀ x ∈ rows.take k, x.has virt = false) (hh : r.has virt = true) : atR rows virt = some r := by
  unfold atR
  obtain ⟨hl, he⟩ := List.getElem?_eq_some_iff.1 hr
  rw [← List.take_append_drop k rows, List.find?_append, List.find?_eq_none.2 (fun x hx => by simp [hn x hx]), List.drop_eq_getElem_cons hl, he, List.find?_cons, hh]
  rfl
theorem atR_none {rows : List Lf} {virt : Nat} (hn : ∀ x ∈ rows, x.has virt = false) : atR rows virt = none := by
  unfold atR
  exact List.find?_eq_none.2 (fun x hx => by simp [hn x hx])
end Pg
theorem row6 {w : World} {g : Nat} {t : TypeId} {a0 a1 a2 a3 a4 a5 : Value} (h : Row w g t [a0, a1, a2, a3, a4, a5]) (b0 b1 b2 b3 b4 b5 : Value) : Row ((((((w.setCell ⟨g, 0, none⟩ b0).setCell ⟨g, 1, none⟩ b1).setCell ⟨g, 2, none⟩ b2).setCell ⟨g, 3, none⟩ b3).setCell ⟨g, 4, none⟩ b4).setCell ⟨g, 5, none⟩ b5) g t [b0, b1, b2, b3, b4, b5] := (((((h.set_ 0 b0).set_ 1 b1).set_ 2 b2).set_ 3 b3).set_ 4 b4).set_ 5 b5
theorem below6 {B g : Nat} {w0 w : World} (h : Below B w0 w) (hg : B ≤ g) (b0 b1 b2 b3 b4 b5 : Value) : Below B w0 ((((((w.setCell ⟨g, 0, none⟩ b0).setCell ⟨g, 1, none⟩ b1).setCell ⟨g, 2, none⟩ b2).setCell ⟨g, 3, none⟩ b3).setCell ⟨g, 4, none⟩ b4).setCell ⟨g, 5, none⟩ b5) := (((((h.setCell hg b0).setCell hg b1).setCell hg b2).setCell hg b3).setCell hg b4).setCell hg b5
set_option maxRecDepth 100000 in
set_option maxHeartbeats 1000000 in
theorem at_any (A : Option Addr) (n c virt : Nat) (rows : List Pg.Lf) (w : World) (hr : IsL w w.heap.size A n rows) (hok : ∀ r ∈ rows, r.Ok) (hv : virt < 18446744073709551616) :
    Calls Try.prog 57 #[.slice A n c, .int .u64 (virt : Nat)] w fun e w' => e = .returned (Pg.atV rows virt) ∧ Below w.heap.size w w' := by
  obtain ⟨b, off, HF⟩ := hr.form
  have HL := Lib.hid hr.2.2.1
  have HOK := Lib.hid hok
  have hn := hr.2.2.2
  have HVL := Lib.hid hv
  clear hr hok hv
  go_enter Try.func57, Try.ntmps57
  go_wp2_with fail
  have hrow := Row.new w 47 [.int .u64 0, .int .u64 0, .int .i64 0, .bool false, .bool false, .bool false]
  have hb1 : Below w.heap.size w (w.alloc (.cells #[.int .u64 0, .int .u64 0, .int .i64 0, .bool false, .bool false, .bool false] 47)) := (Below.refl _ _).alloc (Nat.le_refl _) _
  obtain ⟨g, hg⟩ : ∃ g, g = w.heap.size := ⟨_, rfl⟩
  generalize w.alloc (.cells #[.int .u64 0, .int .u64 0, .int .i64 0, .bool false, .bool false, .bool false] 47) = w1 at *
  rw [← hg] at hrow ⊢
  have HG := Lib.hid hg
  have HRW : Hid (Row w1 g 47 [.int .u64 0, .int .u64 0, .int .i64 0, .bool false, .bool false, .bool false] ∧ Below w.heap.size w w1) := Lib.hid ⟨hrow, hb1⟩
  clear hrow hb1 hg
  go_loopw [7] (fun i wr => ∃ k : Nat, k ≤ n ∧ i = .int .i64 (k : Nat) ∧ Hid (∀ x ∈ rows.take k, x.has virt = false) ∧ Hid (Row wr g 47 [.int .u64 0, .int .u64 0, .int .i64 0, .bool false, .bool false, .bool false] ∧ Below w.heap.size w wr)) (fun i _ => n - (intOf i).toNat)
  case atStart => exact ⟨0, by omega, rfl, Lib.hid (by intro x hx; simp at hx), HRW⟩
  case round =>
    clear HRW
    obtain ⟨k, hk, rfl, HNO, HR⟩ := hrel
    have hrow := HR.out.1
    have HB := Lib.hid HR.out.2
    have d0 := hrow.cell 0
    have d1 := hrow.cell 1
    have d2 := hrow.cell 2
    have d3 := hrow.cell 3
    have d4 := hrow.cell 4
    have d5 := hrow.cell 5
    have dl := hrow.lt
    have fz0 := hrow.frozen 0
    have fz1 := hrow.frozen 1
    have fz2 := hrow.frozen 2
    have fz3 := hrow.frozen 3
    have fz4 := hrow.frozen 4
    have fz5 := hrow.frozen 5
    simp at d0 d1 d2 d3 d4 d5
    by_cases hkn : k < n
    · obtain ⟨hA, hbB, hc⟩ := HF.out (by omega)
      subst hA
      obtain ⟨r, hrk⟩ : ∃ r, rows[k]? = some r := ⟨_, List.getElem?_eq_getElem (by have := HL.out; omega)⟩
      have hro := HOK.out r (List.mem_of_getElem? hrk)
      have HRK := Lib.hid hrk
      have hbg : b ≠ g := by rw [HG.out]; omega
      have hbl : b < wr.heap.size := Nat.lt_of_lt_of_le hbB HB.out.size
      have c0 := (HB.out.cell (p := ⟨b, off + k * 6, none⟩) hbB).trans (hc k r hrk 0 _ rfl)
      have c1 := (HB.out.cell (p := ⟨b, off + k * 6 + 1, none⟩) hbB).trans (hc k r hrk 1 _ rfl)
      have c2 := (HB.out.cell (p := ⟨b, off + k * 6 + 2, none⟩) hbB).trans (hc k r hrk 2 _ rfl)
      have c3 := (HB.out.cell (p := ⟨b, off + k * 6 + 3, none⟩) hbB).trans (hc k r hrk 3 _ rfl)
      have c4 := (HB.out.cell (p := ⟨b, off + k * 6 + 4, none⟩) hbB).trans (hc k r hrk 4 _ rfl)
      have c5 := (HB.out.cell (p := ⟨b, off + k * 6 + 5, none⟩) hbB).trans (hc k r hrk 5 _ rfl)
      have e1 := hro.n1; have e2 := hro.vl; have e3 := hro.pl
      obtain ⟨m, hm⟩ : ∃ m : Nat, r.n = (m : Int) := ⟨r.n.toNat, by omega⟩
      rw [hm] at c2 e1 e2 e3
      simp only [Int.toNat_natCast] at e2 e3
      have HHAS : Hid (r.has virt = decide (r.v ≤ virt ∧ virt - r.v < m * 4096)) := Lib.hid (by unfold Pg.Lf.has; rw [hm]; simp)
      have HM := Lib.hid hm
      obtain ⟨v, hv0⟩ : ∃ v, v = r.v := ⟨_, rfl⟩
      obtain ⟨p, hp0⟩ : ∃ p, p = r.p := ⟨_, rfl⟩
      have HV0 := Lib.hid hv0; have HP0 := Lib.hid hp0
      rw [← hv0] at c0 e2 HHAS
      rw [← hp0] at c1 e3
      obtain ⟨s, hs⟩ : ∃ s, s = m * 4096 := ⟨_, rfl⟩
      rw [← hs] at e2 e3 HHAS
      have ew1 : IntKind.u64.wrap (m : Int) = (m : Int) := by rw [IntKind.wrap_u64]; omega
      have ew2 : IntKind.u64.wrap ((m : Int) * 4096) = (s : Int) := by rw [IntKind.wrap_u64]; omega
      have ew3 : (m : Int) * 4096 = (s : Int) := by omega
      have ew4 : IntKind.u64.wrap (s : Int) = (s : Int) := by rw [IntKind.wrap_u64]; omega
      have HE2 := Lib.hid e2; have HE3 := Lib.hid e3
      clear hc hrk hro hm hv0 hp0 e1 e2 e3 hs
      obtain ⟨bb, hbb⟩ : ∃ x, x = r.b := ⟨_, rfl⟩
      obtain ⟨bw, hbw⟩ : ∃ x, x = r.w := ⟨_, rfl⟩
      obtain ⟨bx, hbx⟩ : ∃ x, x = r.x := ⟨_, rfl⟩
      have HB0 := Lib.hid hbb; have HB1 := Lib.hid hbw; have HB2 := Lib.hid hbx
      rw [← hbb] at c3
      rw [← hbw] at c4
      rw [← hbx] at c5
      clear hbb hbw hbx
      by_cases q1 : v ≤ virt
      · have f1 : (v : Int) ≤ (virt : Int) := by omega
        have ewd : IntKind.u64.wrap ((virt : Int) - (v : Int)) = (virt : Int) - (v : Int) := by have := HVL.out; rw [IntKind.wrap_u64]; omega
        by_cases q2 : virt - v < s
        · have f2 : (virt : Int) - (v : Int) < (s : Int) := by omega
          have f0 : (0 : Int) ≤ (virt : Int) - (v : Int) := by omega
          obtain ⟨o, ho⟩ : ∃ o, o = p + (virt - v) := ⟨_, rfl⟩
          have ewo : IntKind.u64.wrap ((p : Int) + ((virt : Int) - (v : Int))) = (o : Int) := by have := HE3.out; rw [IntKind.wrap_u64]; omega
          have ewq : IntKind.u64.wrap (o : Int) = (o : Int) := by have := HE3.out; rw [IntKind.wrap_u64]; omega
          have ewp : (p : Int) + ((virt : Int) - (v : Int)) = (o : Int) := by omega
          have HAT : Hid (Pg.atV rows virt = .tuple #[.int .u64 (o : Nat), .agg #[.int .u64 (v : Nat), .int .u64 (p : Nat), .int .i64 (m : Nat), .bool bb, .bool bw, .bool bx], .bool true]) := Lib.hid (by
            unfold Pg.atV
            rw [Pg.atR_at HRK.out HNO.out (by rw [HHAS.out, decide_eq_true_eq]; exact ⟨q1, q2⟩), ho]
            unfold lfV
            simp only [HM.out, HV0.out, HP0.out, HB0.out, HB1.out, HB2.out])
          clear ho q1 q2
          go_upto_region 4 with fail
          go_quiet (fail)
          go_upto_region 5 with fail
          go_region_law fail
          all_goals
            go_wp2_with fail
            have HR6 := row6 (HR.out.1.below (below_drewN (Below.refl _ _) (nq + 1)) HR.out.1.lt) (.int .u64 (v : Nat)) (.int .u64 (p : Nat)) (.int .i64 (m : Nat)) (.bool bb) (.bool bw) (.bool bx)
            have HB6 := below6 (below_drewN HR.out.2 (nq + 1)) (Nat.le_of_eq HG.out.symm) (.int .u64 (v : Nat)) (.int .u64 (p : Nat)) (.int .i64 (m : Nat)) (.bool bb) (.bool bw) (.bool bx)
            generalize ((((((wr.drewN (nq + 1)).setCell ⟨g, 0, none⟩ (.int .u64 (v : Nat))).setCell ⟨g, 1, none⟩ (.int .u64 (p : Nat))).setCell ⟨g, 2, none⟩ (.int .i64 (m : Nat))).setCell ⟨g, 3, none⟩ (.bool bb)).setCell ⟨g, 4, none⟩ (.bool bw)).setCell ⟨g, 5, none⟩ (.bool bx) = wz at *
            have z0 := HR6.cell 0
            have z1 := HR6.cell 1
            have z2 := HR6.cell 2
            have z3 := HR6.cell 3
            have z4 := HR6.cell 4
            have z5 := HR6.cell 5
            simp only [List.getElem?_cons_zero, List.getElem?_cons_succ] at z0 z1 z2 z3 z4 z5
            refine bodyPost_ret (v := .tuple #[.int .u64 (o : Nat), .agg #[.int .u64 (v : Nat), .int .u64 (p : Nat), .int .i64 (m : Nat), .bool bb, .bool bw, .bool bx], .bool true]) ?_ rfl ?_
            · simp [results, Try.results57, go_sem, z0, z1, z2, z3, z4, z5]
            · exact ⟨by rw [HAT.out], HB6⟩
        · have f2 : ¬ (virt : Int) - (v : Int) < (s : Int) := by omega
          have f0 : (0 : Int) ≤ (virt : Int) - (v : Int) := by omega
          have HNO2 : Hid (∀ x ∈ rows.take (k + 1), x.has virt = false) := Lib.hid (fun x hx => by
            rw [List.take_add_one, HRK.out] at hx
            rcases List.mem_append.1 hx with hx | hx
            · exact HNO.out x hx
            · simp at hx
              rw [hx, HHAS.out, decide_eq_false_iff_not]
              intro h; exact q2 h.2)
          clear q1 q2
          go_upto_region 4 with fail
          go_quiet (fail)
          go_wp2_with fail
          go_roundw
          case rel => exact ⟨k + 1, by omega, by go_num, HNO2, Lib.hid ⟨HR.out.1.below (below_drewN (Below.refl _ _) _) HR.out.1.lt, below_drewN HR.out.2 _⟩⟩
          case measure => simp [intOf]; omega
      · have f1 : ¬ (v : Int) ≤ (virt : Int) := by omega
        have HNO2 : Hid (∀ x ∈ rows.take (k + 1), x.has virt = false) := Lib.hid (fun x hx => by
          rw [List.take_add_one, HRK.out] at hx
          rcases List.mem_append.1 hx with hx | hx
          · exact HNO.out x hx
          · simp at hx
            rw [hx, HHAS.out, decide_eq_false_iff_not]
            intro h; exact q1 h.1)
        clear q1
        go_upto_region 4 with fail
        go_quiet (fail)
        go_wp2_with fail
        go_roundw
        case rel => exact ⟨k + 1, by omega, by go_num, HNO2, Lib.hid ⟨HR.out.1.below (below_drewN (Below.refl _ _) _) HR.out.1.lt, below_drewN HR.out.2 _⟩⟩
        case measure => simp [intOf]; omega
    · have ek : k = n := by omega
      subst ek
      have HAN : Hid (Pg.atV rows virt = .tuple #[.int .u64 0, lfV Pg.zlf, .bool false]) := Lib.hid (by
        unfold Pg.atV
        rw [Pg.atR_none (fun x hx => HNO.out x (by rw [List.take_of_length_le (by rw [HL.out]; omega)]; exact hx))])
      go_wp2_with fail
      have HR6 := row6 HR.out.1 (.int .u64 0) (.int .u64 0) (.int .i64 0) (.bool false) (.bool false) (.bool false)
      have HB6 := below6 HR.out.2 (Nat.le_of_eq HG.out.symm) (.int .u64 0) (.int .u64 0) (.int .i64 0) (.bool false) (.bool false) (.bool false)
      generalize (((((wr.setCell ⟨g, 0, none⟩ (.int .u64 0)).setCell ⟨g, 1, none⟩ (.int .u64 0)).setCell ⟨g, 2, none⟩ (.int .i64 0)).setCell ⟨g, 3, none⟩ (.bool false)).setCell ⟨g, 4, none⟩ (.bool false)).setCell ⟨g, 5, none⟩ (.bool false) = wz at *
      have z0 := HR6.cell 0
      have z1 := HR6.cell 1
      have z2 := HR6.cell 2
      have z3 := HR6.cell 3
      have z4 := HR6.cell 4
      have z5 := HR6.cell 5
      simp only [List.getElem?_cons_zero, List.getElem?_cons_succ] at z0 z1 z2 z3 z4 z5
      show bodyPost _ _ _ .ret _ _
      refine bodyPost_ret (v := .tuple #[.int .u64 0, .agg #[.int .u64 0, .int .u64 0, .int .i64 0, .bool false, .bool false, .bool false], .bool false]) ?_ rfl ?_
      · simp [results, Try.results57, go_sem, z0, z1, z2, z3, z4, z5]
      · exact ⟨by rw [HAN.out]; rfl, HB6⟩
end Go.Proofs.Ytblfagmoilhdnaa

/- The walk of the law's says. -/
set_option linter.unusedVariables false
set_option linter.unusedSimpArgs false
namespace Go.Proofs.Ytblfagmoilhdnaa
open Go.RowKit
open S64
open Bu
/-- a machine with tables in its memory -/
def LaidZ (Z R : Nat → Prop) (g base : Nat) (l : List (List Nat)) (w : World) : Prop := ∃ M, MZ Z R w g M ∧ Pg.LiesM M base l
theorem LaidZ.chg {Z R Y : Nat → Prop} {g base : Nat} {l : List (List Nat)} {w w' : World} (h : LaidZ Z R g base l w) (hc : ChgP Y w w') (hY : ∀ k, Z k ∨ R k → ¬ Y k) : LaidZ Z R g base l w' := by
  obtain ⟨M, h1, h2⟩ := h
  exact ⟨M, h1.chg hc (fun k hk hy => hY k hk hy), h2⟩
theorem LaidZ.lt {Z R : Nat → Prop} {g base : Nat} {l : List (List Nat)} {w : World} (h : LaidZ Z R g base l w) : ∀ k, Z k ∨ R k → k < w.heap.size := by
  obtain ⟨M, h1, h2⟩ := h
  intro k hk
  rcases hk with hk | hk
  · exact (smach_i g).z h1 k hk
  · exact (smach_i g).r h1 k hk
theorem LaidZ.below {Z R : Nat → Prop} {g base : Nat} {l : List (List Nat)} {w w' : World} (h : LaidZ Z R g base l w) (hb : Below w.heap.size w w') : LaidZ Z R g base l w' :=
  h.chg (Y := fun _ => False) (ChgP.of_below hb) (fun _ _ h => h)
theorem trans_laid (Z R : Nat → Prop) (g base virt : Nat) (access : Int) (rows : List Pg.Lf) (w : World) (h0 : (Pg.ans rows base).2 = 0) (hl : LaidZ Z R g base (Pg.ans rows base).1 w) (ha : 1 ≤ access ∧ access ≤ 3) (hv : virt < 18446744073709551616) (hb : base < 18446744073709551616) :
    Calls Try.prog 58 #[.iface 75 (.pointer (some ⟨g, 0, none⟩)), .int .u64 (base : Nat), .int .u64 (virt : Nat), .int .i64 access] w fun e w' => e = .returned (.tuple #[.int .u64 ((Pg.sayV rows virt access).1 : Nat), flt (Pg.sayV rows virt access).2 virt]) ∧ LaidZ Z R g base (Pg.ans rows base).1 w' ∧ ChgP Z w w' := by
  obtain ⟨M, hm, hL⟩ := hl
  have hp := Pg.says_plain h0 hL (virt := virt) ha
  refine (translateT_any (smach_i g) (ent_mach g) Z R w M base virt access hm trivial (by unfold TOP; omega) (by unfold TOP; omega)).mono ?_
  rintro e w' ⟨he, s, _, _, hS, hc⟩
  rw [hp] at he
  exact ⟨he, ⟨sM M s, hS, ⟨hL.al, hL.hi, hL.bus, hL.num⟩⟩, hc⟩
def faultC (no virt : Nat) : List Value := [.int .i64 (no : Nat), .int .u64 (virt : Nat)]
set_option maxRecDepth 100000 in
set_option maxHeartbeats 4000000 in
theorem says_any (Z R : Nat → Prop) (B g base virt n c : Nat) (A : Option Addr) (rows : List Pg.Lf) (w : World) (h0 : (Pg.ans rows base).2 = 0) (hl : LaidZ Z R g base (Pg.ans rows base).1 w) (hZ : ∀ k, Z k ∨ R k → B ≤ k) (hB : B ≤ w.heap.size) (hr : IsL w w.heap.size A n rows)
    (hv : virt < 18446744073709551616) (hb : base < 18446744073709551616) :
    Calls Try.prog 33 #[.pointer (some ⟨g, 0, none⟩), .int .u64 (base : Nat), .slice A n c, .int .u64 (virt : Nat)] w fun e w' => e = .returned (.bool true) ∧ LaidZ Z R g base (Pg.ans rows base).1 w' ∧ Below B w w' := by
  have hrg : Pg.right 0 rows = 0 := (Pg.ans_known h0).1
  have HAT := Lib.hid (at_any A n c virt rows w hr (Pg.right_ok rows 0 hrg) hv)
  have HTR : Hid (∀ (access : Int) (wx : World), 1 ≤ access ∧ access ≤ 3 → LaidZ Z R g base (Pg.ans rows base).1 wx → Calls Try.prog 58 #[.iface 75 (.pointer (some ⟨g, 0, none⟩)), .int .u64 (base : Nat), .int .u64 (virt : Nat), .int .i64 access] wx fun e w' => e = .returned (.tuple #[.int .u64 ((Pg.sayV rows virt access).1 : Nat), flt (Pg.sayV rows virt access).2 virt]) ∧ LaidZ Z R g base (Pg.ans rows base).1 w' ∧ ChgP Z wx w') := Lib.hid (fun access wx ha hx => trans_laid Z R g base virt access rows wx h0 hx ha hv hb)
  have HLT := Lib.hid hl.lt
  obtain ⟨l, hL⟩ : ∃ l, l = (Pg.ans rows base).1 := ⟨_, rfl⟩
  rw [← hL] at HTR hl ⊢
  have HLZ := Lib.hid hl
  have HZB := Lib.hid hZ
  have HBW := Lib.hid hB
  -- what the rows say
  obtain ⟨o, p, r, is, hat, hsay⟩ : ∃ (o p : Nat) (r : Pg.Lf) (is : Bool), Pg.atV rows virt = .tuple #[.int .u64 (o : Nat), lfV r, .bool is] ∧ ∀ access : Int, Pg.sayV rows virt access = if 549755813888 ≤ virt then (0, 40) else if is = false then (0, 41) else if access = 2 ∧ r.w = false then (0, 43) else if access = 3 ∧ r.x = false then (0, 44) else (o, 0) := by
    unfold Pg.atV Pg.sayV
    cases hh : Pg.atR rows virt with
    | none => exact ⟨0, 0, Pg.zlf, false, rfl, fun access => by simp⟩
    | some r => exact ⟨_, 0, r, true, rfl, fun access => by simp⟩
  rw [hat] at HAT
  have HSY := Lib.hid hsay
  obtain ⟨rv, rp, rn, rb, rw_, rx⟩ := r
  unfold lfV at HAT
  simp only at HAT HSY
  clear hat hsay h0 hl hZ hB hr hrg hL
  go_enter Try.func33, Try.ntmps33
  go_wp2_with fail
  refine HAT.out.mono ?_
  rintro e w1 ⟨rfl, hb1⟩
  have HB1 := Lib.hid hb1
  clear hb1 HAT
  go_upto_region 2 with fail
  have hrow := Row.new w1 47 [.int .u64 (rv : Nat), .int .u64 (rp : Nat), .int .i64 rn, .bool rb, .bool rw_, .bool rx]
  have hb2 : Below w.heap.size w (w1.alloc (.cells #[.int .u64 (rv : Nat), .int .u64 (rp : Nat), .int .i64 rn, .bool rb, .bool rw_, .bool rx] 47)) := HB1.out.alloc HB1.out.size _
  obtain ⟨gx, hgx⟩ : ∃ gx, gx = w1.heap.size := ⟨_, rfl⟩
  have HGX : Hid (w.heap.size ≤ gx) := Lib.hid (by rw [hgx]; exact HB1.out.size)
  generalize w1.alloc (.cells #[.int .u64 (rv : Nat), .int .u64 (rp : Nat), .int .i64 rn, .bool rb, .bool rw_, .bool rx] 47) = w2 at *
  rw [← hgx] at hrow ⊢
  have HE2 : Hid (LaidZ Z R g base l w2 ∧ Row w2 gx 47 [.int .u64 (rv : Nat), .int .u64 (rp : Nat), .int .i64 rn, .bool rb, .bool rw_, .bool rx] ∧ Below B w w2) := Lib.hid ⟨HLZ.out.below hb2, hrow, hb2.mono HBW.out⟩
  clear hrow hb2 hgx HB1 HLZ
  go_wp2_with fail
  go_loopw [12] (fun x wr => ∃ a : Nat, 1 ≤ a ∧ a ≤ 4 ∧ x = .int .i64 (a : Nat) ∧ Hid (LaidZ Z R g base l wr ∧ Row wr gx 47 [.int .u64 (rv : Nat), .int .u64 (rp : Nat), .int .i64 rn, .bool rb, .bool rw_, .bool rx] ∧ Below B w wr)) (fun x _ => 4 - (intOf x).toNat)
  case atStart => exact ⟨1, by omega, by omega, rfl, HE2⟩
  case round =>
  clear HE2
  obtain ⟨a, ha1, ha4, rfl, HE⟩ := hrel
  by_cases ha : a ≤ 3
  · obtain ⟨PI, hPI⟩ : ∃ PI : Int, PI = ((Pg.sayV rows virt (a : Int)).1 : Nat) := ⟨_, rfl⟩
    obtain ⟨WI, FI, hfl⟩ : ∃ WI FI : Int, flt (Pg.sayV rows virt (a : Int)).2 virt = .agg #[.int .i64 WI, .int .u64 FI] := by
      unfold flt fltV
      split
      · exact ⟨_, _, rfl⟩
      · exact ⟨_, _, rfl⟩
    have hT := HTR.out (a : Int) wr ⟨by omega, by omega⟩ HE.out.1
    rw [← hPI, hfl] at hT
    have hcase : ((549755813888 : Int) ≤ (virt : Int) ∧ PI = 0 ∧ WI = 40 ∧ FI = (virt : Int)) ∨
        (¬ (549755813888 : Int) ≤ (virt : Int) ∧ is = false ∧ PI = 0 ∧ WI = 41 ∧ FI = (virt : Int)) ∨
        (¬ (549755813888 : Int) ≤ (virt : Int) ∧ is = true ∧ a = 1 ∧ PI = (o : Int) ∧ WI = 0 ∧ FI = 0) ∨
        (¬ (549755813888 : Int) ≤ (virt : Int) ∧ is = true ∧ a = 2 ∧ rw_ = false ∧ PI = 0 ∧ WI = 43 ∧ FI = (virt : Int)) ∨
        (¬ (549755813888 : Int) ≤ (virt : Int) ∧ is = true ∧ a = 2 ∧ rw_ = true ∧ PI = (o : Int) ∧ WI = 0 ∧ FI = 0) ∨
        (¬ (549755813888 : Int) ≤ (virt : Int) ∧ is = true ∧ a = 3 ∧ rx = false ∧ PI = 0 ∧ WI = 44 ∧ FI = (virt : Int)) ∨
        (¬ (549755813888 : Int) ≤ (virt : Int) ∧ is = true ∧ a = 3 ∧ rx = true ∧ PI = (o : Int) ∧ WI = 0 ∧ FI = 0) := by
      rw [HSY.out] at hPI hfl
      unfold flt fltV at hfl
      by_cases q : 549755813888 ≤ virt
      · rw [if_pos q] at hPI hfl
        simp at hPI hfl
        exact .inl ⟨by omega, hPI, hfl.1.symm, hfl.2.symm⟩
      · rw [if_neg q] at hPI hfl
        have q' : ¬ (549755813888 : Int) ≤ (virt : Int) := by omega
        refine .inr ?_
        cases is with
        | false =>
          simp at hPI hfl
          exact .inl ⟨q', rfl, hPI, hfl.1.symm, hfl.2.symm⟩
        | true =>
          refine .inr ?_
          rcases (show a = 1 ∨ a = 2 ∨ a = 3 by omega) with rfl | rfl | rfl
          · simp at hPI hfl
            exact .inl ⟨q', rfl, rfl, hPI, hfl.1.symm, hfl.2.symm⟩
          · cases rw_
            · simp at hPI hfl
              exact .inr (.inl ⟨q', rfl, rfl, rfl, hPI, hfl.1.symm, hfl.2.symm⟩)
            · simp at hPI hfl
              exact .inr (.inr (.inl ⟨q', rfl, rfl, rfl, hPI, hfl.1.symm, hfl.2.symm⟩))
          · cases rx
            · simp at hPI hfl
              exact .inr (.inr (.inr (.inl ⟨q', rfl, rfl, rfl, hPI, hfl.1.symm, hfl.2.symm⟩)))
            · simp at hPI hfl
              exact .inr (.inr (.inr (.inr ⟨q', rfl, rfl, rfl, hPI, hfl.1.symm, hfl.2.symm⟩)))
    have HT := Lib.hid hT
    clear hT hPI hfl HTR HSY
    have hgl := HE.out.2.1.lt
    go_wp2_with fail
    refine HT.out.mono ?_
    rintro e w3 ⟨rfl, hl3, hc3⟩
    go_upto_region 6 with fail
    have hgz : ¬ Z gx := fun h => by have := HLT.out gx (.inl h); have := HGX.out; omega
    have hx3 := hc3.row HE.out.2.1 hgz
    have hb3 : Below B w w3 := HE.out.2.2.trans (hc3.below (Nat.le_trans HBW.out HE.out.2.2.size) (fun k hk => HZB.out k (.inl hk)))
    have hff := Row.new w3 111 [.int .i64 WI, .int .u64 FI]
    have hx4 := hx3.alloc (.cells #[.int .i64 WI, .int .u64 FI] 111)
    have hl4 := hl3.below ((Below.refl w3.heap.size w3).alloc (Nat.le_refl _) (.cells #[.int .i64 WI, .int .u64 FI] 111))
    have hb4 : Below B w (w3.alloc (.cells #[.int .i64 WI, .int .u64 FI] 111)) := hb3.alloc (Nat.le_trans (Nat.le_trans HBW.out HGX.out) (Nat.le_of_lt hx3.lt)) _
    obtain ⟨gf, hgf⟩ : ∃ gf, gf = w3.heap.size := ⟨_, rfl⟩
    generalize w3.alloc (.cells #[.int .i64 WI, .int .u64 FI] 111) = w4 at *
    rw [← hgf] at hff ⊢
    have HE4 := Lib.hid (And.intro hl4 (And.intro hx4 hb4))
    have d4 := hx4.cell 4
    have d5 := hx4.cell 5
    have dl := hx4.lt
    have k0 := hff.cell 0
    have k1 := hff.cell 1
    have kl := hff.lt
    simp only [List.getElem?_cons_zero, List.getElem?_cons_succ] at d4 d5 k0 k1
    clear hx3 hb3 hff hx4 hl4 hb4 hl3 hc3 HT HE hgf hgz hgl
    rcases hcase with ⟨f1, rfl, rfl, rfl⟩ | ⟨f1, rfl, rfl, rfl, rfl⟩ | ⟨f1, rfl, rfl, rfl, rfl, rfl⟩ | ⟨f1, rfl, rfl, rfl, rfl, rfl, rfl⟩ | ⟨f1, rfl, rfl, rfl, rfl, rfl, rfl⟩ | ⟨f1, rfl, rfl, rfl, rfl, rfl, rfl⟩ | ⟨f1, rfl, rfl, rfl, rfl, rfl, rfl⟩
    · go_wp2_with fail
      go_roundw
      case rel => exact ⟨a + 1, by omega, by omega, by go_num, HE4⟩
      case measure => simp [intOf]; omega
    · have f2 : decide ((549755813888 : Int) ≤ (virt : Int)) = false := decide_eq_false (by omega)
      clear f1
      go_wp2_with fail
      go_roundw
      case rel => exact ⟨a + 1, by omega, by omega, by go_num, HE4⟩
      case measure => simp [intOf]; omega
    · have f2 : decide ((549755813888 : Int) ≤ (virt : Int)) = false := decide_eq_false (by omega)
      clear f1
      go_wp2_with fail
      go_roundw
      case rel => exact ⟨2, by omega, by omega, by go_num, HE4⟩
      case measure => simp [intOf]
    · have f2 : decide ((549755813888 : Int) ≤ (virt : Int)) = false := decide_eq_false (by omega)
      clear f1
      go_wp2_with fail
      go_roundw
      case rel => exact ⟨3, by omega, by omega, by go_num, HE4⟩
      case measure => simp [intOf]
    · have f2 : decide ((549755813888 : Int) ≤ (virt : Int)) = false := decide_eq_false (by omega)
      clear f1
      go_wp2_with fail
      go_roundw
      case rel => exact ⟨3, by omega, by omega, by go_num, HE4⟩
      case measure => simp [intOf]
    · have f2 : decide ((549755813888 : Int) ≤ (virt : Int)) = false := decide_eq_false (by omega)
      clear f1
      go_wp2_with fail
      go_roundw
      case rel => exact ⟨4, by omega, by omega, by go_num, HE4⟩
      case measure => simp [intOf]
    · have f2 : decide ((549755813888 : Int) ≤ (virt : Int)) = false := decide_eq_false (by omega)
      clear f1
      go_wp2_with fail
      go_roundw
      case rel => exact ⟨4, by omega, by omega, by go_num, HE4⟩
      case measure => simp [intOf]
  · have ea : a = 4 := by omega
    subst ea
    go_wp2_with fail
    go_ret
    exact ⟨rfl, HE.out.1, HE.out.2.2⟩
end Go.Proofs.Ytblfagmoilhdnaa

/- An argument that is a slice of uint64: opened to its numbers. -/
set_option linter.unusedVariables false
set_option linter.unusedSimpArgs false
namespace Go.Proofs.Ytblfagmoilhdnaa
open Go.Joins Go.ChangeShapes Go.WideShapes Go.RowKit Go.Deep
/-- a slice of numbers -/
def IsU (w : World) (B : Nat) (A : Option Addr) (n : Nat) (us : List Nat) : Prop := Reads w B 1 A n (us.map u64v) ∧ (∀ u ∈ us, u < 18446744073709551616) ∧ n ≤ 9223372036854775807
theorem IsU.len {w : World} {B n : Nat} {A : Option Addr} {us : List Nat} (h : IsU w B A n us) : us.length = n := by have := h.1.1; simpa using this
theorem IsU.below {w w' : World} {B n : Nat} {A : Option Addr} {us : List Nat} (h : IsU w B A n us) (hb : Below B w w') : IsU w' B A n us := ⟨h.1.below hb, h.2⟩
theorem IsU.form {w : World} {B n : Nat} {A : Option Addr} {us : List Nat} (h : IsU w B A n us) :
    ∃ b off, Hid (0 < n → A = some ⟨b, off, none⟩ ∧ b < B ∧ ∀ k u, us[k]? = some u → u < 18446744073709551616 ∧ w.cell? ⟨b, off + k, none⟩ = some (.int .u64 (u : Nat))) := by
  rcases Nat.eq_zero_or_pos n with h0 | h0
  · exact ⟨0, 0, fun h => absurd h (by omega)⟩
  · obtain ⟨⟨b, off, sp⟩, rfl, hb, hc⟩ := h.1.2 h0
    have hx : ∀ k u, us[k]? = some u → (us.map u64v)[k]? = some (u64v u) := fun k u hu => by rw [List.getElem?_map, hu]; rfl
    have hs : sp = none := by
      have hl := h.len
      have h0r : ∃ r, us[0]? = some r := ⟨_, List.getElem?_eq_getElem (by omega)⟩
      obtain ⟨r, hr⟩ := h0r
      have := World.cell?_spot (hc 0 _ (hx 0 r hr))
      simpa [Addr.add] using this
    subst hs
    refine ⟨b, off, fun _ => ⟨rfl, hb, fun k u hu => ⟨h.2.1 u (List.mem_of_getElem? hu), ?_⟩⟩⟩
    have := hc _ _ (hx k u hu)
    unfold Addr.add at this
    split at this
    · rename_i h0; rw [h0, Nat.add_zero]; exact this
    · exact this
section
variable {H : Type} {enc : TypeId × Value → H} {w : World} {base : Nat} {spare : Nat → Bool} {held : Bool}
theorem open_u64s {fuel : Nat} {A : Option Addr} {len cap : Nat} {y : DataW H × List MemPlace} (h : DataW.trod enc Try.prog w base spare held fuel 74 [.slice A len cap] = some y) : ∃ us, IsU w w.heap.size A len us ∧ len ≤ cap := by
  rcases open_slice Try.underlying74 h with ⟨h0, _⟩ | ⟨a, len', cap', m, n', D, Pl, hcs, hb, hl, hm, hmm, hx, hi⟩
  · simp at h0
    obtain ⟨rfl, rfl, rfl⟩ := h0
    exact ⟨[], ⟨Reads.none_, by simp, by omega⟩, Nat.le_refl _⟩
  · simp at hcs
    obtain ⟨rfl, rfl, rfl⟩ := hcs
    have hle : len ≤ m := by rw [hmm]; split <;> omega
    have hc1 : Try.prog.cellsOf 22 = 1 := by kernel_rfl
    obtain ⟨us, hbl, hbs⟩ := list_of (P := fun i u => w.cell? (a.add i) = some (u64v u) ∧ u < 18446744073709551616) len (fun i hil => by
      obtain ⟨cs', h1, h2⟩ := hi i (by omega)
      rw [hc1, Nat.mul_one] at h1
      obtain ⟨z, rfl, _, hw⟩ := DataW.trod_int (k := .u64) Try.underlying22 h2
      obtain ⟨_, _, hat⟩ := World.cells?_some h1
      obtain ⟨s, rfl, hs⟩ := nat_of_u64 hw
      have := hat 0 (by omega)
      rw [add_of_add, Nat.add_zero] at this
      exact ⟨s, by rw [this]; rfl, hs⟩)
    refine ⟨us, ⟨⟨by simp [hbl], fun h0 => ⟨a, rfl, ?_, fun j u hu => ?_⟩⟩, fun b hb' => ?_, by unfold maxLen at hm; omega⟩, hl⟩
    · have h2 := (hbs 0 _ (List.getElem?_eq_getElem (by omega))).1
      have := World.block_lt_of_cell? w _ h2
      rwa [block_of_add] at this
    · rw [List.getElem?_map] at hu
      obtain ⟨b, hb1, rfl⟩ := Option.map_eq_some_iff.1 hu
      exact (hbs j b hb1).1
    · obtain ⟨i, hi1, rfl⟩ := List.mem_iff_getElem.1 hb'
      exact (hbs i _ (List.getElem?_eq_getElem hi1)).2
end
end Go.Proofs.Ytblfagmoilhdnaa
