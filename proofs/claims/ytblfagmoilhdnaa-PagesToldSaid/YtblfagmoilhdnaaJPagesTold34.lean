/- Texts of this claim, one behind the other: PwF, LvB, LvA. -/
import Derived.Test.YtblfagmoilhdnaaJPagesTold33
import Derived.Test.YtblfagmoilhdnaaJPagesTold18
import Derived.Deep.QuietTactic
import Derived.RangeFuncNested
import Derived.RangeFuncBound
import Derived.RangeFuncCalls
import Derived.RangeFuncLeaves
import Derived.Test.YtblfagmoilhdnaaJPagesTold9
/- The walk of the law's says. -/
set_option linter.unusedVariables false
set_option linter.unusedSimpArgs false
namespace Go.Proofs.Ytblfagmoilhdnaa
open Go.RowKit
open S64
open Bu
/-- a machine with tables in its memory -/
def LaidZ (Z R : Nat → Prop) (g base : Nat) (l : List (List Nat)) (w : World) : Prop := ∃ M, MZ Z R w g M ∧ Pg.LiesM M base l
theorem LaidZ.chg {Z R Y : Nat → Prop} {g base : Nat} {l : List (List Nat)} {w w' : World} (h : LaidZ Z R g base l w) (hc : ChgP Y w w') (hY : ∀ k, Z k ∨ R k → ¬ Y k) : LaidZ Z R g base l w' := by
  obtain ⟨M, h1, h2⟩ := h
  exact ⟨M, h1.chg hc (fun k hk hy => hY k hk hy), h2⟩
theorem LaidZ.lt {Z R : Nat → Prop} {g base : Nat} {l : List (List Nat)} {w : World} (h : LaidZ Z R g base l w) : ∀ k, Z k ∨ R k → k < w.heap.size := by
  obtain ⟨M, h1, h2⟩ := h
  intro k hk
  rcases hk with hk | hk
  · exact (smach_i g).z h1 k hk
  · exact (smach_i g).r h1 k hk
theorem LaidZ.below {Z R : Nat → Prop} {g base : Nat} {l : List (List Nat)} {w w' : World} (h : LaidZ Z R g base l w) (hb : Below w.heap.size w w') : LaidZ Z R g base l w' :=
  h.chg (Y := fun _ => False) (ChgP.of_below hb) (fun _ _ h => h)
theorem trans_laid (Z R : Nat → Prop) (g base virt : Nat) (access : Int) (rows : List Pg.Lf) (w : World) (h0 : (Pg.ans rows base).2 = 0) (hl : LaidZ Z R g base (Pg.ans rows base).1 w) (ha : 1 ≤ access ∧ access ≤ 3) (hv : virt < 18446744073709551616) (hb : base < 18446744073709551616) :
    Calls Try.prog 58 #[.iface 75 (.pointer (some ⟨g, 0, none⟩)), .int .u64 (base : Nat), .int .u64 (virt : Nat), .int .i64 access] w fun e w' => e = .returned (.tuple #[.int .u64 ((Pg.sayV rows virt access).1 : Nat), flt (Pg.sayV rows virt access).2 virt]) ∧ LaidZ Z R g base (Pg.ans rows base).1 w' ∧ ChgP Z w w' := by
  obtain ⟨M, hm, hL⟩ := hl
  have hp := Pg.says_plain h0 hL (virt := virt) ha
  refine (translateT_any (smach_i g) (ent_mach g) Z R w M base virt access hm trivial (by unfold TOP; omega) (by unfold TOP; omega)).mono ?_
  rintro e w' ⟨he, s, _, _, hS, hc⟩
  rw [hp] at he
  exact ⟨he, ⟨sM M s, hS, ⟨hL.al, hL.hi, hL.bus, hL.num⟩⟩, hc⟩
def faultC (no virt : Nat) : List Value := [.int .i64 (no : Nat), .int .u64 (virt : Nat)]
set_option maxRecDepth 100000 in
set_option maxHeartbeats 4000000 in
theorem says_any (Z R : Nat → Prop) (B g base virt n c : Nat) (A : Option Addr) (rows : List Pg.Lf) (w : World) (h0 : (Pg.ans rows base).2 = 0) (hl : LaidZ Z R g base (Pg.ans rows base).1 w) (hZ : ∀ k, Z k ∨ R k → B ≤ k) (hB : B ≤ w.heap.size) (hr : IsL w w.heap.size A n rows)
    (hv : virt < 18446744073709551616) (hb : base < 18446744073709551616) :
    Calls Try.prog 33 #[.pointer (some ⟨g, 0, none⟩), .int .u64 (base : Nat), .slice A n c, .int .u64 (virt : Nat)] w fun e w' => e = .returned (.bool true) ∧ LaidZ Z R g base (Pg.ans rows base).1 w' ∧ Below B w w' := by
  have hrg : Pg.right 0 rows = 0 := (Pg.ans_known h0).1
  have HAT := Lib.hid (at_any A n c virt rows w hr (Pg.right_ok rows 0 hrg) hv)
  have HTR : Hid (∀ (access : Int) (wx : World), 1 ≤ access ∧ access ≤ 3 → LaidZ Z R g base (Pg.ans rows base).1 wx → Calls Try.prog 58 #[.iface 75 (.pointer (some ⟨g, 0, none⟩)), .int .u64 (base : Nat), .int .u64 (virt : Nat), .int .i64 access] wx fun e w' => e = .returned (.tuple #[.int .u64 ((Pg.sayV rows virt access).1 : Nat), flt (Pg.sayV rows virt access).2 virt]) ∧ LaidZ Z R g base (Pg.ans rows base).1 w' ∧ ChgP Z wx w') := Lib.hid (fun access wx ha hx => trans_laid Z R g base virt access rows wx h0 hx ha hv hb)
  have HLT := Lib.hid hl.lt
  obtain ⟨l, hL⟩ : ∃ l, l = (Pg.ans rows base).1 := ⟨_, rfl⟩
  rw [← hL] at HTR hl ⊢
  have HLZ := Lib.hid hl
  have HZB := Lib.hid hZ
  have HBW := Lib.hid hB
  -- what the rows say
  obtain ⟨o, p, r, is, hat, hsay⟩ : ∃ (o p : Nat) (r : Pg.Lf) (is : Bool), Pg.atV rows virt = .tuple #[.int .u64 (o : Nat), lfV r, .bool is] ∧ ∀ access : Int, Pg.sayV rows virt access = if 549755813888 ≤ virt then (0, 40) else if is = false then (0, 41) else if access = 2 ∧ r.w = false then (0, 43) else if access = 3 ∧ r.x = false then (0, 44) else (o, 0) := by
    unfold Pg.atV Pg.sayV
    cases hh : Pg.atR rows virt with
    | none => exact ⟨0, 0, Pg.zlf, false, rfl, fun access => by simp⟩
    | some r => exact ⟨_, 0, r, true, rfl, fun access => by simp⟩
  rw [hat] at HAT
  have HSY := Lib.hid hsay
  obtain ⟨rv, rp, rn, rb, rw_, rx⟩ := r
  unfold lfV at HAT
  simp only at HAT HSY
  clear hat hsay h0 hl hZ hB hr hrg hL
  go_enter Try.func33, Try.ntmps33
  go_wp2_with fail
  refine HAT.out.mono ?_
  rintro e w1 ⟨rfl, hb1⟩
  have HB1 := Lib.hid hb1
  clear hb1 HAT
  go_upto_region 2 with fail
  have hrow := Row.new w1 47 [.int .u64 (rv : Nat), .int .u64 (rp : Nat), .int .i64 rn, .bool rb, .bool rw_, .bool rx]
  have hb2 : Below w.heap.size w (w1.alloc (.cells #[.int .u64 (rv : Nat), .int .u64 (rp : Nat), .int .i64 rn, .bool rb, .bool rw_, .bool rx] 47)) := HB1.out.alloc HB1.out.size _
  obtain ⟨gx, hgx⟩ : ∃ gx, gx = w1.heap.size := ⟨_, rfl⟩
  have HGX : Hid (w.heap.size ≤ gx) := Lib.hid (by rw [hgx]; exact HB1.out.size)
  generalize w1.alloc (.cells #[.int .u64 (rv : Nat), .int .u64 (rp : Nat), .int .i64 rn, .bool rb, .bool rw_, .bool rx] 47) = w2 at *
  rw [← hgx] at hrow ⊢
  have HE2 : Hid (LaidZ Z R g base l w2 ∧ Row w2 gx 47 [.int .u64 (rv : Nat), .int .u64 (rp : Nat), .int .i64 rn, .bool rb, .bool rw_, .bool rx] ∧ Below B w w2) := Lib.hid ⟨HLZ.out.below hb2, hrow, hb2.mono HBW.out⟩
  clear hrow hb2 hgx HB1 HLZ
  go_wp2_with fail
  go_loopw [12] (fun x wr => ∃ a : Nat, 1 ≤ a ∧ a ≤ 4 ∧ x = .int .i64 (a : Nat) ∧ Hid (LaidZ Z R g base l wr ∧ Row wr gx 47 [.int .u64 (rv : Nat), .int .u64 (rp : Nat), .int .i64 rn, .bool rb, .bool rw_, .bool rx] ∧ Below B w wr)) (fun x _ => 4 - (intOf x).toNat)
  case atStart => exact ⟨1, by omega, by omega, rfl, HE2⟩
  case round =>
  clear HE2
  obtain ⟨a, ha1, ha4, rfl, HE⟩ := hrel
  by_cases ha : a ≤ 3
  · obtain ⟨PI, hPI⟩ : ∃ PI : Int, PI = ((Pg.sayV rows virt (a : Int)).1 : Nat) := ⟨_, rfl⟩
    obtain ⟨WI, FI, hfl⟩ : ∃ WI FI : Int, flt (Pg.sayV rows virt (a : Int)).2 virt = .agg #[.int .i64 WI, .int .u64 FI] := by
      unfold flt fltV
      split
      · exact ⟨_, _, rfl⟩
      · exact ⟨_, _, rfl⟩
    have hT := HTR.out (a : Int) wr ⟨by omega, by omega⟩ HE.out.1
    rw [← hPI, hfl] at hT
    have hcase : ((549755813888 : Int) ≤ (virt : Int) ∧ PI = 0 ∧ WI = 40 ∧ FI = (virt : Int)) ∨
        (¬ (549755813888 : Int) ≤ (virt : Int) ∧ is = false ∧ PI = 0 ∧ WI = 41 ∧ FI = (virt : Int)) ∨
        (¬ (549755813888 : Int) ≤ (virt : Int) ∧ is = true ∧ a = 1 ∧ PI = (o : Int) ∧ WI = 0 ∧ FI = 0) ∨
        (¬ (549755813888 : Int) ≤ (virt : Int) ∧ is = true ∧ a = 2 ∧ rw_ = false ∧ PI = 0 ∧ WI = 43 ∧ FI = (virt : Int)) ∨
        (¬ (549755813888 : Int) ≤ (virt : Int) ∧ is = true ∧ a = 2 ∧ rw_ = true ∧ PI = (o : Int) ∧ WI = 0 ∧ FI = 0) ∨
        (¬ (549755813888 : Int) ≤ (virt : Int) ∧ is = true ∧ a = 3 ∧ rx = false ∧ PI = 0 ∧ WI = 44 ∧ FI = (virt : Int)) ∨
        (¬ (549755813888 : Int) ≤ (virt : Int) ∧ is = true ∧ a = 3 ∧ rx = true ∧ PI = (o : Int) ∧ WI = 0 ∧ FI = 0) := by
      rw [HSY.out] at hPI hfl
      unfold flt fltV at hfl
      by_cases q : 549755813888 ≤ virt
      · rw [if_pos q] at hPI hfl
        simp at hPI hfl
        exact .inl ⟨by omega, hPI, hfl.1.symm, hfl.2.symm⟩
      · rw [if_neg q] at hPI hfl
        have q' : ¬ (549755813888 : Int) ≤ (virt : Int) := by omega
        refine .inr ?_
        cases is with
        | false =>
          simp at hPI hfl
          exact .inl ⟨q', rfl, hPI, hfl.1.symm, hfl.2.symm⟩
        | true =>
          refine .inr ?_
          rcases (show a = 1 ∨ a = 2 ∨ a = 3 by omega) with rfl | rfl | rfl
          · simp at hPI hfl
            exact .inl ⟨q', rfl, rfl, hPI, hfl.1.symm, hfl.2.symm⟩
          · cases rw_
            · simp at hPI hfl
              exact .inr (.inl ⟨q', rfl, rfl, rfl, hPI, hfl.1.symm, hfl.2.symm⟩)
            · simp at hPI hfl
              exact .inr (.inr (.inl ⟨q', rfl, rfl, rfl, hPI, hfl.1.symm, hfl.2.symm⟩))
          · cases rx
            · simp at hPI hfl
              exact .inr (.inr (.inr (.inl ⟨q', rfl, rfl, rfl, hPI, hfl.1.symm, hfl.2.symm⟩)))
            · simp at hPI hfl
              exact .inr (.inr (.inr (.inr ⟨q', rfl, rfl, rfl, hPI, hfl.1.symm, hfl.2.symm⟩)))
    have HT := Lib.hid hT
    clear hT hPI hfl HTR HSY
    have hgl := HE.out.2.1.lt
    go_wp2_with fail
    refine HT.out.mono ?_
    rintro e w3 ⟨rfl, hl3, hc3⟩
    go_upto_region 6 with fail
    have hgz : ¬ Z gx := fun h => by have := HLT.out gx (.inl h); have := HGX.out; omega
    have hx3 := hc3.row HE.out.2.1 hgz
    have hb3 : Below B w w3 := HE.out.2.2.trans (hc3.below (Nat.le_trans HBW.out HE.out.2.2.size) (fun k hk => HZB.out k (.inl hk)))
    have hff := Row.new w3 111 [.int .i64 WI, .int .u64 FI]
    have hx4 := hx3.alloc (.cells #[.int .i64 WI, .int .u64 FI] 111)
    have hl4 := hl3.below ((Below.refl w3.heap.size w3).alloc (Nat.le_refl _) (.cells #[.int .i64 WI, .int .u64 FI] 111))
    have hb4 : Below B w (w3.alloc (.cells #[.int .i64 WI, .int .u64 FI] 111)) := hb3.alloc (Nat.le_trans (Nat.le_trans HBW.out HGX.out) (Nat.le_of_lt hx3.lt)) _
    obtain ⟨gf, hgf⟩ : ∃ gf, gf = w3.heap.size := ⟨_, rfl⟩
    generalize w3.alloc (.cells #[.int .i64 WI, .int .u64 FI] 111) = w4 at *
    rw [← hgf] at hff ⊢
    have HE4 := Lib.hid (And.intro hl4 (And.intro hx4 hb4))
    have d4 := hx4.cell 4
    have d5 := hx4.cell 5
    have dl := hx4.lt
    have k0 := hff.cell 0
    have k1 := hff.cell 1
    have kl := hff.lt
    simp only [List.getElem?_cons_zero, List.getElem?_cons_succ] at d4 d5 k0 k1
    clear hx3 hb3 hff hx4 hl4 hb4 hl3 hc3 HT HE hgf hgz hgl
    rcases hcase with ⟨f1, rfl, rfl, rfl⟩ | ⟨f1, rfl, rfl, rfl, rfl⟩ | ⟨f1, rfl, rfl, rfl, rfl, rfl⟩ | ⟨f1, rfl, rfl, rfl, rfl, rfl, rfl⟩ | ⟨f1, rfl, rfl, rfl, rfl, rfl, rfl⟩ | ⟨f1, rfl, rfl, rfl, rfl, rfl, rfl⟩ | ⟨f1, rfl, rfl, rfl, rfl, rfl, rfl⟩
    · go_wp2_with fail
      go_roundw
      case rel => exact ⟨a + 1, by omega, by omega, by go_num, HE4⟩
      case measure => simp [intOf]; omega
    · have f2 : decide ((549755813888 : Int) ≤ (virt : Int)) = false := decide_eq_false (by omega)
      clear f1
      go_wp2_with fail
      go_roundw
      case rel => exact ⟨a + 1, by omega, by omega, by go_num, HE4⟩
      case measure => simp [intOf]; omega
    · have f2 : decide ((549755813888 : Int) ≤ (virt : Int)) = false := decide_eq_false (by omega)
      clear f1
      go_wp2_with fail
      go_roundw
      case rel => exact ⟨2, by omega, by omega, by go_num, HE4⟩
      case measure => simp [intOf]
    · have f2 : decide ((549755813888 : Int) ≤ (virt : Int)) = false := decide_eq_false (by omega)
      clear f1
      go_wp2_with fail
      go_roundw
      case rel => exact ⟨3, by omega, by omega, by go_num, HE4⟩
      case measure => simp [intOf]
    · have f2 : decide ((549755813888 : Int) ≤ (virt : Int)) = false := decide_eq_false (by omega)
      clear f1
      go_wp2_with fail
      go_roundw
      case rel => exact ⟨3, by omega, by omega, by go_num, HE4⟩
      case measure => simp [intOf]
    · have f2 : decide ((549755813888 : Int) ≤ (virt : Int)) = false := decide_eq_false (by omega)
      clear f1
      go_wp2_with fail
      go_roundw
      case rel => exact ⟨4, by omega, by omega, by go_num, HE4⟩
      case measure => simp [intOf]
    · have f2 : decide ((549755813888 : Int) ≤ (virt : Int)) = false := decide_eq_false (by omega)
      clear f1
      go_wp2_with fail
      go_roundw
      case rel => exact ⟨4, by omega, by omega, by go_num, HE4⟩
      case measure => simp [intOf]
  · have ea : a = 4 := by omega
    subst ea
    go_wp2_with fail
    go_ret
    exact ⟨rfl, HE.out.1, HE.out.2.2⟩
end Go.Proofs.Ytblfagmoilhdnaa

/- What Leaves tells, in plain Lean. -/
set_option linter.unusedVariables false
set_option linter.unusedSimpArgs false
namespace Go.Proofs.Ytblfagmoilhdnaa
open Go.RowKit
open S64
namespace Bu
/-- what is told at a time -/
structure Lv where
  v : Nat
  p : Nat
  n : Nat
  b : Bool
  w : Bool
  x : Bool
  no : Nat
deriving DecidableEq
def lvV (l : Lv) : Value := .agg #[.int .u64 (l.v : Nat), .int .u64 (l.p : Nat), .int .i64 (l.n : Nat), .bool l.b, .bool l.w, .bool l.x]
def lvEnc (l : Lv) : Array Value := #[lvV l, .int .i64 (l.no : Nat)]
def leafAt (lv at_ : Nat) (r : Ent.E × Nat) : Lv := if r.2 = 0 then ⟨at_, r.1.F, rch lv / 4096, r.1.b, r.1.w, r.1.x, 0⟩ else ⟨at_, 0, rch lv / 4096, false, false, false, r.2⟩
/-- what is left of a table: d entries -/
def lvR (M : PM) (sub : Nat → Nat → Nat → List Lv × Nat × Bool) (lv tab virt : Nat) : Nat → Nat → List Lv × Nat × Bool
  | 0, left => ([], left, true)
  | d + 1, left =>
    if (entM M tab (511 - d) lv).2 = 41 then lvR M sub lv tab virt d left
    else if (entM M tab (511 - d) lv).2 = 0 ∧ (entM M tab (511 - d) lv).1.t = true then
      (if left ≤ 1 then ([], 0, false)
       else if (sub (entM M tab (511 - d) lv).1.F (virt + (511 - d) * rch lv) (left - 1)).2.2 = true then
         ((sub (entM M tab (511 - d) lv).1.F (virt + (511 - d) * rch lv) (left - 1)).1 ++ (lvR M sub lv tab virt d (sub (entM M tab (511 - d) lv).1.F (virt + (511 - d) * rch lv) (left - 1)).2.1).1, (lvR M sub lv tab virt d (sub (entM M tab (511 - d) lv).1.F (virt + (511 - d) * rch lv) (left - 1)).2.1).2)
       else ((sub (entM M tab (511 - d) lv).1.F (virt + (511 - d) * rch lv) (left - 1)).1, (sub (entM M tab (511 - d) lv).1.F (virt + (511 - d) * rch lv) (left - 1)).2.1, false))
    else if left ≤ 1 then ([leafAt lv (virt + (511 - d) * rch lv) (entM M tab (511 - d) lv)], 0, false)
    else (leafAt lv (virt + (511 - d) * rch lv) (entM M tab (511 - d) lv) :: (lvR M sub lv tab virt d (left - 1)).1, (lvR M sub lv tab virt d (left - 1)).2)
/-- what lies under a table -/
def lvT (M : PM) : Nat → Nat → Nat → Nat → Nat → List Lv × Nat × Bool
  | 0, _, _, _, left => ([], left, true)
  | k + 1, lv, tab, virt, left => lvR M (lvT M k (lv + 1)) lv tab virt 512 left
/-- what Leaves tells -/
def lvs (M : PM) (root : Nat) (most : Int) : List Lv := if most < 1 then [] else if root % 4096 ≠ 0 then [⟨0, 0, 134217728, false, false, false, 42⟩] else (lvT M 3 0 root 0 most.toNat).1
theorem lvR_left {M : PM} {sub : Nat → Nat → Nat → List Lv × Nat × Bool} {lv tab virt : Nat} (hs : ∀ a b l, 1 ≤ l → (sub a b l).2.1 ≤ l ∧ ((sub a b l).2.2 = true → 1 ≤ (sub a b l).2.1)) : ∀ d left, 1 ≤ left → (lvR M sub lv tab virt d left).2.1 ≤ left ∧ ((lvR M sub lv tab virt d left).2.2 = true → 1 ≤ (lvR M sub lv tab virt d left).2.1) := by
  intro d
  induction d with
  | zero => intro left h; exact ⟨Nat.le_refl _, fun _ => h⟩
  | succ d ih =>
    intro left h
    unfold lvR
    split
    · exact ih left h
    · split
      · split
        · exact ⟨by simp, fun h => by simp at h⟩
        · rename_i hl
          have h1 := hs (entM M tab (511 - d) lv).1.F (virt + (511 - d) * rch lv) (left - 1) (by omega)
          split
          · rename_i hg
            have h2 := ih _ (h1.2 hg)
            exact ⟨by have := h2.1; have := h1.1; simp only; omega, h2.2⟩
          · exact ⟨by have := h1.1; simp only; omega, fun h => by simp at h⟩
      · split
        · exact ⟨by simp, fun h => by simp at h⟩
        · have h2 := ih (left - 1) (by omega)
          exact ⟨by have := h2.1; simp only; omega, h2.2⟩
theorem lvT_left {M : PM} : ∀ k lv tab virt left, 1 ≤ left → (lvT M k lv tab virt left).2.1 ≤ left ∧ ((lvT M k lv tab virt left).2.2 = true → 1 ≤ (lvT M k lv tab virt left).2.1) := by
  intro k
  induction k with
  | zero => intro lv tab virt left h; exact ⟨Nat.le_refl _, fun _ => h⟩
  | succ k ih =>
    intro lv tab virt left h
    exact lvR_left (fun a b l hl => ih (lv + 1) a b l hl) 512 left h
end Bu
end Go.Proofs.Ytblfagmoilhdnaa

/- A range over a function whose iterator keeps state in cells of its own: what the iterator promises, and the caller's law. -/
set_option linter.unusedVariables false
set_option linter.unusedSimpArgs false
namespace Go.Proofs.Ytblfagmoilhdnaa
open Go.RowKit
open Bu
/-- blocks that stay as they lie -/
def KpC (prot : Nat → Prop) (w w' : World) : Prop := ChgP (fun k => ¬ prot k) w w'
/-- what is said abides a turn of the blocks of T, and new blocks -/
def AbC {β : Type} (T : Nat → Prop) (J : β → World → Prop) : Prop := ∀ s W W', J s W → ChgP T W W' → J s W'
/-- B and the four blocks behind -/
def upTo (p : Nat → Prop) (B n : Nat) : Nat → Prop := fun k => p k ∨ (B ≤ k ∧ k < B + n)
/-- the iterator's promise: it turns its own three cells, and Z -/
def SeqC {α : Type} (F : Fence) (n : Nat) (P : Program) (g : Nat) (lb : Array Value) (encs : α → Array Value) (Z prot : Nat → Prop) (S Sp : List α → Prop) (L : List α) (m : Nat) (E : World → Prop) (w : World) : Prop :=
  ∀ (l : Nat) (J Jx : List α → World → Prop) (W : World), Below w.heap.size w W → AbC (upTo Z W.heap.size m) J → AbC (upTo Z W.heap.size m) Jx →
    (∀ pre x W1, J pre W1 → pre ++ [x] <+: L → W.heap.size + m ≤ W1.heap.size → YieldAt F (n - 1) P l (encs x) W1 fun e W' =>
      (e = .returned (.bool true) ∧ J (pre ++ [x]) W' ∧ KpC (upTo prot W.heap.size m) W1 W') ∨ (e = .returned (.bool false) ∧ Jx (pre ++ [x]) W' ∧ KpC (upTo prot W.heap.size m) W1 W')) →
    J [] W →
    CallsIn F n P g (#[.func (.yield l) #[] #[]] ++ lb) W fun e W' => (∃ v, e = .returned v) ∧ ((∃ xs, S xs ∧ J xs W') ∨ (∃ pre, Sp pre ∧ Jx pre W')) ∧ E W'
/-- how the body of a round may be left -/
def postC {α : Type} (prot : Nat → Prop) (I : List α → World → Prop) (Ix : Code → List α → World → Prop) (xs : List α) (W : World) : Exit → Act → World → Prop
  | .normal, _, W' => KpC prot W W' ∧ I xs W'
  | .ret, _, W' => KpC prot W W' ∧ Ix .ret xs W'
  | .exit id, _, W' => KpC prot W W' ∧ Ix (.exit id) xs W'
  | .goto t, _, W' => KpC prot W W' ∧ Ix (.goto t) xs W'
  | .panic _, _, _ => False
  | .outgrown, _, _ => False
theorem chgP_put {Z : Nat → Prop} (W : World) (l : Nat) (o : Obj) (h : Z l) : ChgP Z W (W.putObj l o) :=
  (ChgP.refl Z W).grown (grownBy_putObj' W l o) (fun k e => by cases e; exact .inl h)
theorem KpC.trans {p : Nat → Prop} {a b c : World} (h : KpC p a b) (k : KpC p b c) : KpC p a c := ChgP.trans h k (fun x hx => .inl hx)
theorem KpC.mono {p q : Nat → Prop} {a b : World} (h : KpC p a b) (hs : ∀ x, q x → p x) : KpC q a b := ChgP.mono h (fun x hx => .inl fun hq => hx (hs x hq))
theorem KpC.at_ {p : Nat → Prop} {a b : World} (h : KpC p a b) {k : Nat} (hk : p k) {o : Obj} (ho : a.heap[k]? = some o) : b.heap[k]? = some o := by
  rw [h.block k (Array.getElem?_eq_some_iff.1 ho).1 (fun hn => hn hk)]
  exact ho
variable {F : Fence} {n : Nat} {P : Program}
theorem wpIn_rangeFunc_C {α : Type} {g : Operand} {ps : Array Tmp} {assign body : Code} {Q : Exit → Act → World → Prop} {a : Act} {w : World}
    (hro : F.round = none) (h1 : 1 ≤ n) {gf : Nat} {lb : Array Value} (hg : a.eval g = .func (.func gf) #[] lb) (hFg : F.fn gf) (eg : ∀ args w, (callFunc gf args).run P w = .ok (.enter gf args) w)
    {encs : α → Array Value} {Z prot : Nat → Prop} {S Sp : List α → Prop} {L : List α} {m : Nat} {E : World → Prop} {w0 : World} (hseq : SeqC F (n - 1) P gf lb encs Z prot S Sp L m E w0) (hb0 : Below w0.heap.size w0 w)
    (hZ : ∀ k, Z k → k < w.heap.size) (hpr : ∀ k, prot k → k < w.heap.size) (hps : ∀ x, (encs x).size = ps.size)
    (hE : ∀ A B', E A → ChgP (fun k => w.heap.size ≤ k ∧ k < w.heap.size + (m + 2)) A B' → E B')
    (I : List α → World → Prop) (Ix : Code → List α → World → Prop) (hI : AbC (upTo Z w.heap.size (m + 2)) I) (hIx : ∀ c, AbC (upTo Z w.heap.size (m + 2)) (Ix c)) (h0 : I [] w) (Ax : Act → α → Act → World → Prop)
    (hAx : ∀ x a', AbC (upTo Z w.heap.size (m + 2)) (fun (_ : Unit) W => Ax a x a' W))
    (hassign : ∀ (l : Nat) (pre : List α) (x : α) (W : World) (K : Act → World → Prop), w.heap.size + 2 + m ≤ W.heap.size → I pre W → pre ++ [x] <+: L → (∀ a' W', KpC (upTo prot w.heap.size (m + 2)) W W' → I pre W' → Ax a x a' W' → K a' W') →
      assign.wpIn (F.inRound l) (n - 1 - 1) P (Exit.then K (fun _ _ _ => False)) { tmps := (ps.zip (encs x)).foldl (fun t (p, v) => t.setIfInBounds p v) a.tmps, defers := [] } W)
    (hbody : ∀ (l : Nat) (pre : List α) (x : α) (a' : Act) (W : World), w.heap.size + 2 + m ≤ W.heap.size → I pre W → Ax a x a' W → pre ++ [x] <+: L → body.wpIn (F.inRound l) (n - 1 - 1) P (postC (upTo prot w.heap.size (m + 2)) I Ix (pre ++ [x]) W) a' W)
    (hdone : ∀ (xs : List α) (W : World), S xs → I xs W → E W → W.heap[w.heap.size]? = some (.deferred (some [])) → Q .normal { a with defers := { target := .collected w.heap.size, args := #[] } :: a.defers } W)
    (hstop : ∀ (c : Code) (pre : List α) (W : World), Sp pre → Ix c pre W → E W → W.heap[w.heap.size]? = some (.deferred (some [])) → c.wpIn F n P Q { a with defers := { target := .collected w.heap.size, args := #[] } :: a.defers } W) :
    (Code.rangeFunc g ps assign body).wpIn F n P Q a w := by
  refine wpIn_rangeFunc ?_
  intro fn hfn
  rw [hro]
  obtain ⟨rec, hrec⟩ : ∃ rec : LoopState → Option Code → Loop, rec = fun st pe => { state := st, pending := pe, fn, tmps := a.tmps, params := ps, assign, body, defers := w.heap.size } := ⟨_, rfl⟩
  obtain ⟨W1, hW1⟩ : ∃ W1, (w.alloc (.deferred (some []))).alloc (.loop (rec .ready none)) = W1 := ⟨_, rfl⟩
  have hL1 : W1.heap[w.heap.size + 1]? = some (.loop (rec .ready none)) := by
    rw [← hW1]; have := World.alloc_heap_new (w.alloc (.deferred (some []))) (.loop (rec .ready none)); rwa [World.size_alloc] at this
  have hK1 : W1.heap[w.heap.size]? = some (.deferred (some [])) := by
    rw [← hW1]; exact (Below.heap_alloc _ _ _ (by simp)).trans (World.alloc_heap_new w _)
  have hsz : W1.heap.size = w.heap.size + 2 := by rw [← hW1]; simp
  have hI1 : I [] W1 := by rw [← hW1]; exact hI _ _ _ h0 (((ChgP.refl _ w).alloc _).alloc _)
  have hb1 : Below w0.heap.size w0 W1 := by
    rw [← hW1]; exact hb0.trans ((((Below.refl _ w).alloc (Nat.le_refl _) _).alloc (by simp) _).mono hb0.size)
  refine ⟨w.heap.size + 1, [{ target := .collected w.heap.size, args := #[] }], W1, { target := .fn (.func gf) lb, args := #[.func (.yield (w.heap.size + 1)) #[] #[]] }, W1, gf,
    #[.func (.yield (w.heap.size + 1)) #[] #[]] ++ lb, W1, ?_, ?_, ?_, ?_, fun _ => h1, ?_⟩
  · rw [← hW1, hrec]; exact run_enterLoop_outer _ _ _ _ _
  · simp only [resolve, hg]
    simp [go_sem]
  · intro f' hf'; simp [Target.leads] at hf'; subst hf'; exact hFg
  · simp [invoke, go_sem, eg]
  · have hT : ∀ {β : Type} {J : β → World → Prop}, AbC (upTo Z w.heap.size (m + 2)) J → AbC (upTo Z W1.heap.size m) J := fun h s A B' hs hc => h s A B' hs (hc.mono (fun k hk => .inl (by
      rcases hk with hk | hk
      · exact .inl hk
      · exact .inr (by omega))))
    have hfar : ∀ j, w.heap.size ≤ j → j < w.heap.size + 2 → ¬ upTo Z W1.heap.size m j := fun j hj1 hj2 h => by
      rcases h with h | h
      · have := hZ j h; omega
      · omega
    have hkeep : ∀ {A B' : World} {j : Nat} {o : Obj}, ChgP (upTo Z W1.heap.size m) A B' → w.heap.size ≤ j → j < w.heap.size + 2 → A.heap[j]? = some o → B'.heap[j]? = some o := fun hc hj1 hj2 ho => by
      rw [hc.block _ (Array.getElem?_eq_some_iff.1 ho).1 (hfar _ hj1 hj2)]
      exact ho
    have hput : ∀ (W : World) (o : Obj), ChgP (upTo Z w.heap.size (m + 2)) W (W.putObj (w.heap.size + 1) o) := fun W o => chgP_put W _ o (.inr (by omega))
    have hputK : ∀ (W : World) (o : Obj), KpC (upTo prot W1.heap.size m) W (W.putObj (w.heap.size + 1) o) := fun W o => chgP_put W _ o (fun h => by
      rcases h with h | h
      · have := hpr _ h; omega
      · omega)
    have hKm : ∀ {A B' : World}, KpC (upTo prot w.heap.size (m + 2)) A B' → KpC (upTo prot W1.heap.size m) A B' := fun h => h.mono (fun k hk => by
      rcases hk with hk | hk
      · exact .inl hk
      · exact .inr (by omega))
    refine (hseq (w.heap.size + 1)
      (fun pre W => I pre W ∧ W.heap[w.heap.size + 1]? = some (.loop (rec .ready none)) ∧ W.heap[w.heap.size]? = some (.deferred (some [])))
      (fun pre W => ∃ c, Ix c pre W ∧ W.heap[w.heap.size + 1]? = some (.loop (rec .done (some c))) ∧ W.heap[w.heap.size]? = some (.deferred (some [])))
      W1 hb1
      (fun s A B' hs hc => ⟨hT hI s A B' hs.1 hc, hkeep hc (by omega) (by omega) hs.2.1, hkeep hc (by omega) (by omega) hs.2.2⟩)
      (fun s A B' hs hc => by
        obtain ⟨c, hc1, hl, hk⟩ := hs
        exact ⟨c, hT (hIx c) s A B' hc1 hc, hkeep hc (by omega) (by omega) hl, hkeep hc (by omega) (by omega) hk⟩)
      ?_ ⟨hI1, hL1, hK1⟩).mono ?_
    · rintro pre x W ⟨hi, hl, hk⟩ hlen hsz2
      have hlt : w.heap.size + 1 < W.heap.size := (Array.getElem?_eq_some_iff.1 hl).1
      have hy := run_yield (P := P) (args := encs x) hl (by rw [hrec]; exact hps x)
      rw [hrec] at hy
      refine ⟨fn, _, assign, body, hy, roundIn_of_wpIn hfn (hassign _ pre x W _ (by omega) hi hlen ?_)⟩
      clear hy
      intro a' Wa hkpa hia hax
      have hszW := hkpa.size
      replace hl := hkpa.at_ (.inr (by omega)) hl
      replace hk := hkpa.at_ (.inr (by omega)) hk
      replace hlt : w.heap.size + 1 < Wa.heap.size := (Array.getElem?_eq_some_iff.1 hl).1
      replace hi := hia
      clear hia
      have hszA : w.heap.size + 2 + m ≤ Wa.heap.size := by omega
      clear hszW hsz2
      revert hkpa
      generalize W = Wb
      intro hkpa
      obtain ⟨W, rfl⟩ : ∃ W, W = Wa := ⟨_, rfl⟩
      refine ⟨_, run_beginRound hl (by rw [hrec]), ?_⟩
      have hl2 : (W.putObj (w.heap.size + 1) (.loop { rec .ready none with state := .busy })).heap[w.heap.size + 1]? = some (.loop { rec .ready none with state := .busy }) := World.putObj_heap_same hlt
      have hk2 : (W.putObj (w.heap.size + 1) (.loop { rec .ready none with state := .busy })).heap[w.heap.size]? = some (.deferred (some [])) := (World.putObj_heap_other (by omega)).trans hk
      have hw2 : KpC (upTo prot W1.heap.size m) W (W.putObj (w.heap.size + 1) (.loop { rec .ready none with state := .busy })) := hputK W _
      refine wpIn_mono (hbody _ pre x a' _ (by simp; omega) (hI _ _ _ hi (hput _ _)) (hAx x a' () _ _ hax (hput _ _)) hlen) ?_
      have fin : ∀ (jump : Option Code) (W3 : World), KpC (upTo prot w.heap.size (m + 2)) (W.putObj (w.heap.size + 1) (.loop { rec .ready none with state := .busy })) W3 →
          (Instr.endRound (w.heap.size + 1) jump).run P W3 = .ok (.bool jump.isNone) (W3.putObj (w.heap.size + 1) (.loop (rec (if jump.isNone then .ready else .done) jump))) ∧
          W3.heap[w.heap.size + 1]? = some (.loop { rec .ready none with state := .busy }) ∧
          (W3.putObj (w.heap.size + 1) (.loop (rec (if jump.isNone then .ready else .done) jump))).heap[w.heap.size + 1]? = some (.loop (rec (if jump.isNone then .ready else .done) jump)) ∧
          (W3.putObj (w.heap.size + 1) (.loop (rec (if jump.isNone then .ready else .done) jump))).heap[w.heap.size]? = some (.deferred (some [])) := fun jump W3 hk3 => by
        have hl3 := hk3.at_ (.inr (by omega)) hl2
        have := run_endRound (P := P) jump hl3
        rw [hrec] at this ⊢
        exact ⟨this, by rw [hrec] at hl3; exact hl3, World.putObj_heap_same (Array.getElem?_eq_some_iff.1 hl3).1, (World.putObj_heap_other (by omega)).trans (hk3.at_ (.inr (by omega)) hk2)⟩
      rintro e a3 W3 hp
      cases e with
      | normal =>
        obtain ⟨hkp3, hi3⟩ := hp
        obtain ⟨hr, hl3, hl4, hk4⟩ := fin none W3 hkp3
        exact ⟨_, _, hr, .inl ⟨rfl, ⟨hI _ _ _ hi3 (hput _ _), hl4, hk4⟩, (hKm hkpa).trans (hw2.trans ((hKm hkp3).trans (hputK _ _)))⟩⟩
      | ret =>
        obtain ⟨hkp3, hi3⟩ := hp
        obtain ⟨hr, hl3, hl4, hk4⟩ := fin (some .ret) W3 hkp3
        exact ⟨_, _, hr, .inr ⟨rfl, ⟨.ret, hIx _ _ _ _ hi3 (hput _ _), hl4, hk4⟩, (hKm hkpa).trans (hw2.trans ((hKm hkp3).trans (hputK _ _)))⟩⟩
      | exit id =>
        obtain ⟨hkp3, hi3⟩ := hp
        obtain ⟨hr, hl3, hl4, hk4⟩ := fin (some (.exit id)) W3 hkp3
        exact ⟨_, _, hr, .inr ⟨rfl, ⟨.exit id, hIx _ _ _ _ hi3 (hput _ _), hl4, hk4⟩, (hKm hkpa).trans (hw2.trans ((hKm hkp3).trans (hputK _ _)))⟩⟩
      | goto t =>
        obtain ⟨hkp3, hi3⟩ := hp
        obtain ⟨hr, hl3, hl4, hk4⟩ := fin (some (.goto t)) W3 hkp3
        exact ⟨_, _, hr, .inr ⟨rfl, ⟨.goto t, hIx _ _ _ _ hi3 (hput _ _), hl4, hk4⟩, (hKm hkpa).trans (hw2.trans ((hKm hkp3).trans (hputK _ _)))⟩⟩
      | panic ch => exact hp.elim
      | outgrown => exact hp.elim
    · have hputE : ∀ (W : World) (o : Obj), E W → E (W.putObj (w.heap.size + 1) o) := fun W o h => hE _ _ h (chgP_put W _ o (by omega))
      rintro e W2 ⟨⟨v, rfl⟩, (⟨xs, hS, hi, hl, hk⟩ | ⟨pre, hSp, c, hi, hl, hk⟩), hEw⟩
      · exact ⟨none, _, by have := run_endLoop (P := P) hl (by rw [hrec]; simp); rw [hrec] at this; exact this, hdone xs _ hS (hI _ _ _ hi (hput _ _)) (hputE _ _ hEw) ((World.putObj_heap_other (by omega)).trans hk)⟩
      · exact ⟨some c, _, by have := run_endLoop (P := P) hl (by rw [hrec]; simp); rw [hrec] at this; exact this, hstop c pre _ hSp (hIx c _ _ _ hi (hput _ _)) (hputE _ _ hEw) ((World.putObj_heap_other (by omega)).trans hk)⟩
end Go.Proofs.Ytblfagmoilhdnaa
