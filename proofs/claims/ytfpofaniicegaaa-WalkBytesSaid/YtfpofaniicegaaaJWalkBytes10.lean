/- Texts of this claim, one behind the other: BuP, Crc, Wd, Put, More, Get. -/
import Derived.Test.YtfpofaniicegaaaJWalkBytes9
import Derived.Test.YtfpofaniicegaaaJWalkBytes1
import Derived.Laws.CopyOwn
import Derived.Deep.OwnRows
import Derived.Test.YtfpofaniicegaaaRows
import Derived.WalkKit
import Derived.WalkSpells
import Derived.WalkLawsBesides
import Derived.Lib.Hide
import Derived.Laws.Bits64b
/- The walks of wide, Read, Peek, Load. -/
set_option linter.unusedVariables false
set_option linter.unusedSimpArgs false
namespace Go.Proofs.Ytfpofaniicegaaa
open Go.RowKit
open S64
namespace Bu
def wideB (z : Int) : Bool := z == 1 || z == 2 || z == 4 || z == 8
set_option maxRecDepth 100000 in
theorem wide_any (z : Int) (w : World) : Calls Try.prog 50 #[.int .i64 z] w fun e w' => e = .returned (.bool (wideB z)) ∧ w' = w := by
  have H1 := Lib.hid (show wideB z = (z == 1 || z == 2 || z == 4 || z == 8) from rfl)
  obtain ⟨b, hb⟩ : ∃ b, b = wideB z := ⟨_, rfl⟩
  rw [← hb] at H1 ⊢
  clear hb
  cases h1 : (z == 1) with
  | true =>
    go_enter Try.func50, Try.ntmps50
    go_wp2_with fail
    go_ret
    exact ⟨by rw [H1.out, h1]; rfl, rfl⟩
  | false =>
  cases h2 : (z == 2) with
  | true =>
    go_enter Try.func50, Try.ntmps50
    go_wp2_with fail
    go_ret
    exact ⟨by rw [H1.out, h1, h2]; rfl, rfl⟩
  | false =>
  cases h3 : (z == 4) with
  | true =>
    go_enter Try.func50, Try.ntmps50
    go_wp2_with fail
    go_ret
    exact ⟨by rw [H1.out, h1, h2, h3]; rfl, rfl⟩
  | false =>
    go_enter Try.func50, Try.ntmps50
    go_wp2_with fail
    go_ret
    exact ⟨by rw [H1.out, h1, h2, h3]; rfl, rfl⟩
set_option maxRecDepth 100000 in
set_option maxHeartbeats 1000000 in
theorem read_neg (g at_ : Nat) (z : Int) (w : World) (hz : z < 0) :
    Calls Try.prog 35 #[.pointer (some ⟨g, 0, none⟩), .int .u64 (at_ : Nat), .int .i64 z] w fun e w' => e = .returned (.tuple #[.slice none 0 0, .agg #[.int .i64 1, .int .u64 (at_ : Nat)]]) ∧ Below w.heap.size w w' := by
  go_enter Try.func35, Try.ntmps35
  go_upto_region 1 with fail
  have r0 : Row (w.alloc (.cells #[.int .i64 0, .int .u64 0] 48)) w.heap.size 48 [.int .i64 0, .int .u64 0] := Row.new w _ [.int .i64 0, .int .u64 0]
  have hb0 : Below w.heap.size w (w.alloc (.cells #[.int .i64 0, .int .u64 0] 48)) := (Below.refl _ _).alloc (Nat.le_refl _) _
  generalize w.alloc (.cells #[.int .i64 0, .int .u64 0] 48) = w1 at *
  have f0 := r0.cell 0
  have f1 := r0.cell 1
  have fz0 := r0.frozen 0
  have fz1 := r0.frozen 1
  have lf := r0.lt
  simp only [List.getElem?_cons_zero, List.getElem?_cons_succ] at f0 f1
  have HB := Lib.hid hb0; have HR := Lib.hid r0
  clear hb0 r0
  go_wp2_with fail
  have hrz := (HR.out.set_ 0 (.int .i64 1)).set_ 1 (.int .u64 (at_ : Nat))
  have z0 := hrz.cell 0
  have z1 := hrz.cell 1
  simp only [List.set_cons_zero, List.set_cons_succ, List.getElem?_cons_zero, List.getElem?_cons_succ] at z0 z1
  refine bodyPost_ret (v := .tuple #[.slice none 0 0, .agg #[.int .i64 1, .int .u64 (at_ : Nat)]]) (by simp [results, Try.results35, go_sem, z0, z1]) rfl ⟨rfl, (HB.out.setCell (p := ⟨w.heap.size, 0, none⟩) (Nat.le_refl _) _).setCell (p := ⟨w.heap.size, 1, none⟩) (Nat.le_refl _) _⟩
/-- what Read tells -/
def ReadSaid (Z R : Nat → Prop) (w : World) (g : Nat) (M : PM) (A1 A2 Ao : Option Addr) (x1 x2 no co b : Nat) (pm : Nat → Option Nat) (sp : Sp.S) (at_ n : Nat) (e : Ending) (w' : World) : Prop :=
  MachAt Z R w' g (stray M (offAt sp at_ n)) A1 A2 Ao x1 x2 no co b pm sp ∧ ChgP Z w w' ∧
  ((∃ p, offAt sp at_ n = some p ∧ e = .returned (.tuple #[.slice none 0 0, faultV (some p)])) ∨
   (offAt sp at_ n = none ∧ ∃ bb, e = .returned (.tuple #[.slice (some ⟨bb, 0, none⟩) n n, faultV none]) ∧ w.heap.size ≤ bb ∧ Row w' bb 5 (outB M.mem at_ n n)))
set_option maxRecDepth 100000 in
set_option maxHeartbeats 1000000 in
theorem read_any (Z R : Nat → Prop) (M : PM) (A1 A2 Ao : Option Addr) (x1 x2 no co b : Nat) (pm : Nat → Option Nat) (sp : Sp.S) (at_ n g : Nat) (w : World)
    (hm : MachAt Z R w g M A1 A2 Ao x1 x2 no co b pm sp) (hn : n ≤ 9223372036854775807) (ha : at_ ≤ TOP) (hs : True) :
    Calls Try.prog 35 #[.pointer (some ⟨g, 0, none⟩), .int .u64 (at_ : Nat), .int .i64 (n : Nat)] w (ReadSaid Z R w g M A1 A2 Ao x1 x2 no co b pm sp at_ n) := by
  have HM := Lib.hid hm
  have HA := Lib.hid ha
  have HS := Lib.hid hs
  have HN := Lib.hid hn
  clear hm ha hs
  unfold TOP at HA
  go_enter Try.func35, Try.ntmps35
  go_upto_region 1 with fail
  have r0 : Row (w.alloc (.cells #[.int .i64 0, .int .u64 0] 48)) w.heap.size 48 [.int .i64 0, .int .u64 0] := Row.new w _ [.int .i64 0, .int .u64 0]
  have hb0 : Below w.heap.size w (w.alloc (.cells #[.int .i64 0, .int .u64 0] 48)) := (Below.refl _ _).alloc (Nat.le_refl _) _
  generalize w.alloc (.cells #[.int .i64 0, .int .u64 0] 48) = w1 at *
  have HM1 : Hid (MachAt (fun k => Z k ∧ k < w.heap.size) (fun k => R k ∧ k < w.heap.size) w1 g M A1 A2 Ao x1 x2 no co b pm sp) := Lib.hid (HM.out.tight.below hb0)
  have HB0 := Lib.hid hb0; have HR0 := Lib.hid r0
  clear hb0 r0
  go_upto_region 3 with fail
  obtain ⟨F, hF⟩ : ∃ F, F = offAt sp at_ n := ⟨_, rfl⟩
  have HF := Lib.hid hF
  clear hF
  cases F with
  | some p =>
    go_upto_region 4 with (go_at_call 51; refine (access_any _ _ M A1 A2 Ao x1 x2 no co b pm sp at_ n g w1 HM1.out HN.out HA.out HS.out).mono ?_; rw [← HF.out]; rintro e w2 ⟨rfl, hm2, hc2⟩; have HM2 := Lib.hid hm2; have HC2 := Lib.hid hc2; clear hm2 hc2; unfold faultV)
    have hra : Row (w2.alloc (.cells #[.int .i64 30, .int .u64 (p : Nat)] 48)) w.heap.size 48 [.int .i64 0, .int .u64 0] := (HC2.out.row HR0.out (fun h => Nat.lt_irrefl _ h.2)).alloc _
    have hrc : Row (w2.alloc (.cells #[.int .i64 30, .int .u64 (p : Nat)] 48)) w2.heap.size 48 [.int .i64 30, .int .u64 (p : Nat)] := Row.new w2 _ [.int .i64 30, .int .u64 (p : Nat)]
    have hm3 := HM2.out.below (w' := w2.alloc (.cells #[.int .i64 30, .int .u64 (p : Nat)] 48)) ((Below.refl _ _).alloc (Nat.le_refl _) _)
    have hc3 : ChgP (fun k => Z k ∧ k < w.heap.size) w1 (w2.alloc (.cells #[.int .i64 30, .int .u64 (p : Nat)] 48)) := HC2.out.alloc _
    have HNE : Hid (w.heap.size ≠ w2.heap.size) := Lib.hid (by have := HC2.out.size; have := HR0.out.lt; omega)
    have hcs : w.heap.size ≤ w2.heap.size := Nat.le_trans HB0.out.size HC2.out.size
    obtain ⟨c, hc⟩ : ∃ c, c = w2.heap.size := ⟨_, rfl⟩
    rw [← hc] at hrc HNE hcs ⊢
    clear hc
    generalize w2.alloc (.cells #[.int .i64 30, .int .u64 (p : Nat)] 48) = w3 at *
    have HRA := Lib.hid hra; have HRC := Lib.hid hrc; have HM3 := Lib.hid hm3; have HC3 := Lib.hid hc3; have HCS := Lib.hid hcs
    have q0 := hra.cell 0
    have q1 := hra.cell 1
    have t0 := hrc.cell 0
    have t1 := hrc.cell 1
    have la := hra.lt
    have lc := hrc.lt
    simp only [List.getElem?_cons_zero, List.getElem?_cons_succ] at q0 q1 t0 t1
    clear hra hrc hm3 hc3 hcs
    go_upto_region 5 with fail
    have a0 := HRA.out.frozen 0
    have a1 := HRA.out.frozen 1
    go_still_tail 2, (by kernel_rfl)
    change wpList _ _ _ _ _ w3.drew
    have hr5 := (HRA.out.drew.set_ 0 (.int .i64 30)).set_ 1 (.int .u64 (p : Nat))
    have z0 := hr5.cell 0
    have z1 := hr5.cell 1
    simp only [List.set_cons_zero, List.set_cons_succ, List.getElem?_cons_zero, List.getElem?_cons_succ] at z0 z1
    have hr6 := (HRA.out.set_ 0 (.int .i64 30)).set_ 1 (.int .u64 (p : Nat))
    have y0 := hr6.cell 0
    have y1 := hr6.cell 1
    simp only [List.set_cons_zero, List.set_cons_succ, List.getElem?_cons_zero, List.getElem?_cons_succ] at y0 y1
    have HY0 := Lib.hid y0; have HY1 := Lib.hid y1
    have hcq : ChgP (fun k => w.heap.size ≤ k) w3 ((w3.drew.setCell ⟨w.heap.size, 0, none⟩ (.int .i64 30)).setCell ⟨w.heap.size, 1, none⟩ (.int .u64 (p : Nat))) := ((ChgP.refl (fun k => w.heap.size ≤ k) w3).drew.set_ (p := ⟨w.heap.size, 0, none⟩) (.inl (Nat.le_refl _)) _).set_ (p := ⟨w.heap.size, 1, none⟩) (.inl (Nat.le_refl _)) _
    have HM5 := Lib.hid (MachAt.past (Z := Z) (R := R) (N := w.heap.size) HM3.out hcq HM.out.dis)
    have HC5 : Hid (ChgP Z w ((w3.drew.setCell ⟨w.heap.size, 0, none⟩ (.int .i64 30)).setCell ⟨w.heap.size, 1, none⟩ (.int .u64 (p : Nat)))) := Lib.hid ((((ChgP.of_below HB0.out).trans HC3.out (fun x hx => .inl hx.1)).drew.set_ (p := ⟨w.heap.size, 0, none⟩) (.inr (Nat.le_refl _)) _).set_ (p := ⟨w.heap.size, 1, none⟩) (.inr (Nat.le_refl _)) _)
    clear hr5 hcq hr6
    go_wp2_with fail
    refine bodyPost_ret (v := .tuple #[.slice none 0 0, .agg #[.int .i64 30, .int .u64 (p : Nat)]]) (by simp [results, Try.results35, go_sem, HY0.out, HY1.out, z0, z1]) rfl ⟨by rw [← HF.out]; exact HM5.out, HC5.out, .inl ⟨p, HF.out.symm, rfl⟩⟩
  | none =>
    go_upto_region 4 with (go_at_call 51; refine (access_any _ _ M A1 A2 Ao x1 x2 no co b pm sp at_ n g w1 HM1.out HN.out HA.out HS.out).mono ?_; rw [← HF.out]; rintro e w2 ⟨rfl, hm2, hc2⟩; have HM2 := Lib.hid hm2; have HC2 := Lib.hid hc2; clear hm2 hc2; unfold faultV)
    have hra : Row (w2.alloc (.cells #[.int .i64 0, .int .u64 0] 48)) w.heap.size 48 [.int .i64 0, .int .u64 0] := (HC2.out.row HR0.out (fun h => Nat.lt_irrefl _ h.2)).alloc _
    have hrc : Row (w2.alloc (.cells #[.int .i64 0, .int .u64 0] 48)) w2.heap.size 48 [.int .i64 0, .int .u64 0] := Row.new w2 _ [.int .i64 0, .int .u64 0]
    have hm3 := HM2.out.below (w' := w2.alloc (.cells #[.int .i64 0, .int .u64 0] 48)) ((Below.refl _ _).alloc (Nat.le_refl _) _)
    have hc3 : ChgP (fun k => Z k ∧ k < w.heap.size) w1 (w2.alloc (.cells #[.int .i64 0, .int .u64 0] 48)) := HC2.out.alloc _
    have HNE : Hid (w.heap.size ≠ w2.heap.size) := Lib.hid (by have := HC2.out.size; have := HR0.out.lt; omega)
    have hcs : w.heap.size ≤ w2.heap.size := Nat.le_trans HB0.out.size HC2.out.size
    obtain ⟨c, hc⟩ : ∃ c, c = w2.heap.size := ⟨_, rfl⟩
    rw [← hc] at hrc HNE hcs ⊢
    clear hc
    generalize w2.alloc (.cells #[.int .i64 0, .int .u64 0] 48) = w3 at *
    have HRA := Lib.hid hra; have HRC := Lib.hid hrc; have HM3 := Lib.hid hm3; have HC3 := Lib.hid hc3; have HCS := Lib.hid hcs
    have q0 := hra.cell 0
    have q1 := hra.cell 1
    have t0 := hrc.cell 0
    have t1 := hrc.cell 1
    have la := hra.lt
    have lc := hrc.lt
    simp only [List.getElem?_cons_zero, List.getElem?_cons_succ] at q0 q1 t0 t1
    clear hra hrc hm3 hc3 hcs
    go_upto_region 6 with fail
    have H64 := Lib.hid (offAt_none HM.out HA.out HF.out.symm)
    have HNB : Hid (n ≤ 1099511627776) := Lib.hid (by rcases H64.out with h | h <;> omega)
    have HMD : Hid (MachAt (fun k => Z k ∧ k < w.heap.size) (fun k => R k ∧ k < w.heap.size) w3.drew g M A1 A2 Ao x1 x2 no co b pm sp) := Lib.hid (MachAt.below (M := M) HM3.out (Below.refl w3.heap.size w3).drew)
    have KEEP : Hid (∀ (w' : World) (u v : Value), w'.cell? ⟨c, 0, none⟩ = some (.int .i64 0) → w'.cell? ⟨c, 1, none⟩ = some (.int .u64 0) → ((w'.setCell ⟨w.heap.size, 0, none⟩ u).setCell ⟨w.heap.size, 1, none⟩ v).cell? ⟨c, 0, none⟩ = some (.int .i64 0) ∧ ((w'.setCell ⟨w.heap.size, 0, none⟩ u).setCell ⟨w.heap.size, 1, none⟩ v).cell? ⟨c, 1, none⟩ = some (.int .u64 0)) := Lib.hid fun w' u v h1 h2 => ⟨(World.cell?_setCell_other _ _ _ _ (by intro h; injection h with h; exact HNE.out (by first | exact h | exact h.symm))).trans ((World.cell?_setCell_other _ _ _ _ (by intro h; injection h with h; exact HNE.out (by first | exact h | exact h.symm))).trans h1), (World.cell?_setCell_other _ _ _ _ (by intro h; injection h with h; exact HNE.out (by first | exact h | exact h.symm))).trans ((World.cell?_setCell_other _ _ _ _ (by intro h; injection h with h; exact HNE.out (by first | exact h | exact h.symm))).trans h2)⟩
    clear q0 q1
    go_region_held3 (fun w' => w'.cell? ⟨c, 0, none⟩ = some (.int .i64 0) ∧ w'.cell? ⟨c, 1, none⟩ = some (.int .u64 0))
      (first | exact ⟨t0, t1⟩ | exact KO.out | exact KEEP.out _ _ _ KO.out.1 KO.out.2)
      (first
        | (go_at_call 57; refine (bytes_any _ _ M A1 A2 Ao x1 x2 no co b pm sp at_ n g w3.drew HMD.out (by rcases H64.out with h | h <;> omega) HNB.out HA.out).mono ?_; rintro e w4 ⟨bb, rfl, hle, hrb, hb4⟩; have HB4 : Hid (Below w3.heap.size w3 w4) := Lib.hid ((Below.refl w3.heap.size w3).drew.trans (hb4.mono (Below.refl w3.heap.size w3).drew.size)); have HRB := Lib.hid hrb; have HLE := Lib.hid hle; have KO : Hid (w4.cell? ⟨c, 0, none⟩ = some (.int .i64 0) ∧ w4.cell? ⟨c, 1, none⟩ = some (.int .u64 0)) := Lib.hid ⟨(HB4.out.cell (p := ⟨c, 0, none⟩) lc).trans t0, (HB4.out.cell (p := ⟨c, 1, none⟩) lc).trans t1⟩; have hr4 := HRA.out.below HB4.out la; have q0 := hr4.cell 0; have q1 := hr4.cell 1; have qz0 := hr4.frozen 0; have qz1 := hr4.frozen 1; have la4 := hr4.lt; have HR4 := Lib.hid hr4; simp only [List.getElem?_cons_zero, List.getElem?_cons_succ] at q0 q1; clear hb4 hrb hle hr4))
    all_goals
      have hr5 := (HR4.out.set_ 0 (.int .i64 0)).set_ 1 (.int .u64 0)
      have z0 := hr5.cell 0
      have z1 := hr5.cell 1
      simp only [List.set_cons_zero, List.set_cons_succ, List.getElem?_cons_zero, List.getElem?_cons_succ] at z0 z1
      have hcq : ChgP (fun k => w.heap.size ≤ k) w4 ((w4.setCell ⟨w.heap.size, 0, none⟩ (.int .i64 0)).setCell ⟨w.heap.size, 1, none⟩ (.int .u64 0)) := ((ChgP.refl (fun k => w.heap.size ≤ k) w4).set_ (p := ⟨w.heap.size, 0, none⟩) (.inl (Nat.le_refl _)) _).set_ (p := ⟨w.heap.size, 1, none⟩) (.inl (Nat.le_refl _)) _
      have hm5 := (MachAt.below (M := M) HM3.out HB4.out).past hcq HM.out.dis
      have hc5 : ChgP Z w ((w4.setCell ⟨w.heap.size, 0, none⟩ (.int .i64 0)).setCell ⟨w.heap.size, 1, none⟩ (.int .u64 0)) := ((((ChgP.of_below HB0.out).trans HC3.out (fun x hx => .inl hx.1)).trans (ChgP.of_below (Z := fun _ => False) HB4.out) (fun x hx => hx.elim)).set_ (p := ⟨w.heap.size, 0, none⟩) (.inr (Nat.le_refl _)) _).set_ (p := ⟨w.heap.size, 1, none⟩) (.inr (Nat.le_refl _)) _
      have hnb : bb ≠ w.heap.size := Row.ne_t HRB.out HR4.out (by decide)
      have hrb5 := (HRB.out.far (p := ⟨w.heap.size, 0, none⟩) hnb (.int .i64 0)).far (p := ⟨w.heap.size, 1, none⟩) hnb (.int .u64 0)
      have hbb : w.heap.size ≤ bb := by have := HLE.out; have := HC3.out.size; have := HB0.out.size; simp only [World.drew] at *; omega
      have HE1 := Lib.hid z0; have HE2 := Lib.hid z1; have HM5 := Lib.hid hm5; have HC5 := Lib.hid hc5; have HRB5 := Lib.hid hrb5
      clear hr5 hcq hm5 hc5 hrb5 hnb
      go_wp2_with fail
      refine bodyPost_ret (v := .tuple #[.slice (some ⟨bb, 0, none⟩) n n, .agg #[.int .i64 0, .int .u64 0]]) (by simp [results, Try.results35, go_sem, z0, z1]) rfl ⟨by rw [← HF.out]; exact HM5.out, HC5.out, .inr ⟨HF.out.symm, bb, rfl, hbb, HRB5.out⟩⟩
end Bu
end Go.Proofs.Ytfpofaniicegaaa

/- Plain law: the check sum, one bit at a time and four bits at a time. No program in sight. -/
set_option linter.unusedVariables false
set_option linter.unusedSimpArgs false
namespace Go.Proofs.Ytfpofaniicegaaa.Crc
def poly : Nat := 2197175160
/-- one bit of the register -/
def st (r : Nat) : Nat := (r >>> 1) ^^^ (if r % 2 = 1 then poly else 0)
def stN : Nat → Nat → Nat
  | 0, r => r
  | n + 1, r => stN n (st r)
def upd (r c : Nat) : Nat := stN 8 (r ^^^ c)
def run (r : Nat) (bs : List Nat) : Nat := bs.foldl upd r
def ones : Nat := 4294967295
def more (sum : Nat) (bs : List Nat) : Nat := run (sum ^^^ ones) bs ^^^ ones

theorem st_xor (a b : Nat) : st (a ^^^ b) = st a ^^^ st b := by
  unfold st
  have h : (a ^^^ b) % 2 = (a % 2 + b % 2) % 2 := by
    have := Nat.xor_mod_two_pow (a := a) (b := b) (n := 1)
    simp at this
    rw [this]
    rcases Nat.mod_two_eq_zero_or_one a with ha | ha <;> rcases Nat.mod_two_eq_zero_or_one b with hb | hb <;> simp [ha, hb]
  rw [Nat.shiftRight_xor_distrib, h]
  rcases Nat.mod_two_eq_zero_or_one a with ha | ha <;> rcases Nat.mod_two_eq_zero_or_one b with hb | hb <;> simp only [ha, hb]
  · simp
  · simp; rw [Nat.xor_assoc]
  · simp; rw [Nat.xor_assoc, Nat.xor_assoc, Nat.xor_comm poly]
  · simp
    rw [Nat.xor_assoc, ← Nat.xor_assoc poly, Nat.xor_comm poly (b >>> 1), Nat.xor_assoc (b >>> 1), Nat.xor_self, Nat.xor_zero]
theorem stN_xor (n a b : Nat) : stN n (a ^^^ b) = stN n a ^^^ stN n b := by
  induction n generalizing a b with
  | zero => rfl
  | succ n ih => simp only [stN]; rw [st_xor, ih]
theorem stN_add (m n r : Nat) : stN (m + n) r = stN n (stN m r) := by
  induction m generalizing r with
  | zero => simp [stN]
  | succ m ih => rw [Nat.succ_add]; simp only [stN]; exact ih _
theorem st_lt {r : Nat} (h : r < 4294967296) : st r < 4294967296 := by
  unfold st
  refine Nat.xor_lt_two_pow (n := 32) ?_ ?_
  · rw [Nat.shiftRight_eq_div_pow]; omega
  · split <;> simp [poly]
theorem stN_lt {r : Nat} (n : Nat) (h : r < 4294967296) : stN n r < 4294967296 := by
  induction n generalizing r with
  | zero => exact h
  | succ n ih => exact ih (st_lt h)
theorem stN_even (n x : Nat) : stN n (x <<< n) = x := by
  induction n with
  | zero => simp [stN]
  | succ n ih =>
    simp only [stN]
    have : st (x <<< (n + 1)) = x <<< n := by
      unfold st
      have h2 : x <<< (n + 1) = 2 * (x <<< n) := by rw [Nat.shiftLeft_succ]
      rw [h2]
      have : ¬ (2 * (x <<< n)) % 2 = 1 := by omega
      rw [if_neg this, Nat.shiftRight_eq_div_pow]
      simp
    rw [this, ih]
/-- four bits at a time -/
theorem st4 (r : Nat) : stN 4 r = (r >>> 4) ^^^ stN 4 (r &&& 15) := by
  have h : r = ((r >>> 4) <<< 4) ^^^ (r &&& 15) := by
    apply Nat.eq_of_testBit_eq
    intro i
    have h15 : (15 : Nat) = 2 ^ 4 - 1 := rfl
    rw [Nat.testBit_xor, Nat.testBit_shiftLeft, Nat.testBit_and, h15, Nat.testBit_two_pow_sub_one, Nat.testBit_shiftRight]
    by_cases hi : i < 4
    · have : ¬ 4 ≤ i := by omega
      simp [hi, this]
    · have : 4 ≤ i := by omega
      simp [hi, this, show 4 + (i - 4) = i by omega]
  conv => lhs; rw [h]
  rw [stN_xor, stN_even]
theorem upd_two (r c : Nat) : upd r c = (let a := r ^^^ c; let b := (a >>> 4) ^^^ stN 4 (a &&& 15); (b >>> 4) ^^^ stN 4 (b &&& 15)) := by
  unfold upd
  rw [show (8 : Nat) = 4 + 4 from rfl, stN_add, st4, st4 (r ^^^ c)]
theorem upd_lt {r c : Nat} (h : r < 4294967296) (hc : c < 4294967296) : upd r c < 4294967296 := stN_lt 8 (Nat.xor_lt_two_pow (n := 32) h hc)
theorem run_lt {r : Nat} (bs : List Nat) (h : r < 4294967296) (hb : ∀ c ∈ bs, c < 256) : run r bs < 4294967296 := by
  induction bs generalizing r with
  | nil => exact h
  | cons c bs ih => exact ih (upd_lt h (by have := hb c (by simp); omega)) (fun x hx => hb x (by simp [hx]))
theorem run_snoc (r : Nat) (bs : List Nat) (c : Nat) : run r (bs ++ [c]) = upd (run r bs) c := by simp [run]
theorem run_append (r : Nat) (bs cs : List Nat) : run r (bs ++ cs) = run (run r bs) cs := by simp [run]
theorem more_append (s : Nat) (bs cs : List Nat) : more (more s bs) cs = more s (bs ++ cs) := by
  unfold more
  rw [run_append, Nat.xor_assoc, Nat.xor_self, Nat.xor_zero]
theorem more_lt {s : Nat} (bs : List Nat) (h : s < 4294967296) (hb : ∀ c ∈ bs, c < 256) : more s bs < 4294967296 :=
  Nat.xor_lt_two_pow (n := 32) (run_lt bs (Nat.xor_lt_two_pow (n := 32) h (by decide)) hb) (by decide)
theorem more_zero : more 0 [0] = 0x527D5351 := by decide
end Go.Proofs.Ytfpofaniicegaaa.Crc

/- Plain law of layer 1: numbers as bytes, what a writer lays and a reader takes. No program in sight. -/
set_option linter.unusedVariables false
set_option linter.unusedSimpArgs false
namespace Go.Proofs.Ytfpofaniicegaaa.Wd
def le : Nat → Nat → List Nat
  | 0, _ => []
  | k + 1, n => n % 256 :: le k (n / 256)
def unle : List Nat → Nat
  | [] => 0
  | b :: r => b + 256 * unle r
theorem le_len (k n : Nat) : (le k n).length = k := by
  induction k generalizing n with
  | zero => rfl
  | succ k ih => simp [le, ih]
theorem le_lt (k n : Nat) : ∀ b ∈ le k n, b < 256 := by
  induction k generalizing n with
  | zero => simp [le]
  | succ k ih =>
    intro b hb
    simp only [le, List.mem_cons] at hb
    rcases hb with rfl | hb
    · omega
    · exact ih _ b hb
theorem unle_le (k n : Nat) : unle (le k n) = n % 256 ^ k := by
  induction k generalizing n with
  | zero => simp [le, unle, Nat.mod_one]
  | succ k ih =>
    simp only [le, unle, ih]
    rw [Nat.pow_succ, Nat.mul_comm (256 ^ k), Nat.mod_mul]
theorem le_unle (bs : List Nat) (h : ∀ b ∈ bs, b < 256) : le bs.length (unle bs) = bs := by
  induction bs with
  | nil => rfl
  | cons b r ih =>
    have hb := h b (by simp)
    simp only [List.length_cons, le, unle]
    rw [show (b + 256 * unle r) % 256 = b by omega, show (b + 256 * unle r) / 256 = unle r by omega, ih (fun x hx => h x (by simp [hx]))]
theorem unle_lt (bs : List Nat) (h : ∀ b ∈ bs, b < 256) : unle bs < 256 ^ bs.length := by
  induction bs with
  | nil => simp [unle]
  | cons b r ih =>
    have hb := h b (by simp)
    have := ih (fun x hx => h x (by simp [hx]))
    simp only [List.length_cons, unle, Nat.pow_succ]
    omega
theorem le_succ (k n : Nat) : le (k + 1) n = le k n ++ [n / 256 ^ k % 256] := by
  induction k generalizing n with
  | zero => simp [le]
  | succ k ih =>
    rw [le, ih (n / 256)]
    simp only [le, List.cons_append, Nat.div_div_eq_div_mul, Nat.pow_succ]
    rw [Nat.mul_comm 256]
theorem unle_append (a b : List Nat) : unle (a ++ b) = unle a + 256 ^ a.length * unle b := by
  induction a with
  | nil => simp [unle]
  | cons x r ih => simp only [List.cons_append, unle, ih, List.length_cons, Nat.pow_succ]; rw [Nat.mul_add, Nat.add_assoc, ← Nat.mul_assoc, Nat.mul_comm (256 ^ r.length) 256]
def gap (at_ align : Nat) : Nat := (align - at_ % align) % align
/-- a writer: what it has, its first refusal -/
structure W where
  b : List Nat
  e : Nat
deriving DecidableEq
def W.lay (s : W) (x : List Nat) : W := if s.e = 0 then ⟨s.b ++ x, 0⟩ else s
def W.text (s : W) (t : List Nat) : W := if s.e = 0 then (if t.length < 65536 then ⟨s.b ++ le 2 t.length ++ t, 0⟩ else ⟨s.b, 3⟩) else s
def W.pad (s : W) (al : Int) : W := if s.e = 0 then (if 1 ≤ al ∧ al ≤ 4096 then ⟨s.b ++ List.replicate (gap s.b.length al.toNat) 0, 0⟩ else ⟨s.b, 1⟩) else s
def W.sealUp (s : W) (fr : Int) : W := if s.e = 0 then (if 0 ≤ fr ∧ fr ≤ s.b.length then ⟨s.b ++ le 4 (Crc.more 0 (s.b.drop fr.toNat)), 0⟩ else ⟨s.b, 1⟩) else s
/-- a reader: its bytes, its place, its first refusal -/
structure R where
  b : List Nat
  at_ : Nat
  e : Nat
deriving DecidableEq
/-- the next n bytes, skip of them left out: there they are, or the reader is refused -/
def R.next (s : R) (skip n : Nat) : R × Option (List Nat) :=
  if s.e ≠ 0 then (s, none) else if s.b.length < s.at_ + skip + n then (⟨s.b, s.at_, 10⟩, none) else (s, some ((s.b.drop (s.at_ + skip)).take n))
def R.take (s : R) (k : Nat) : R × Nat := match s.next 0 k with
  | (s', none) => (s', 0)
  | (s', some x) => (⟨s'.b, s'.at_ + k, s'.e⟩, unle x)
def R.bytes (s : R) (n : Int) : R × List Nat :=
  if s.e ≠ 0 then (s, []) else if n < 0 then (⟨s.b, s.at_, 1⟩, []) else match s.next 0 n.toNat with
  | (s', none) => (s', [])
  | (s', some x) => (⟨s'.b, s'.at_ + n.toNat, s'.e⟩, x)
def R.text (s : R) (most : Int) : R × List Nat := match s.next 0 2 with
  | (s', none) => (s', [])
  | (s', some x) => if most < (unle x : Int) then (⟨s'.b, s'.at_, 3⟩, []) else match s'.next 2 (unle x) with
    | (s'', none) => (s'', [])
    | (s'', some y) => (⟨s''.b, s''.at_ + 2 + unle x, s''.e⟩, y)
def R.pad (s : R) (al : Int) : R :=
  if s.e ≠ 0 then s else if 1 ≤ al ∧ al ≤ 4096 then match s.next 0 (gap s.at_ al.toNat) with
    | (s', none) => s'
    | (s', some x) => if x.all (· == 0) then ⟨s'.b, s'.at_ + x.length, s'.e⟩ else ⟨s'.b, s'.at_, 5⟩
  else ⟨s.b, s.at_, 1⟩
def R.sealUp (s : R) (fr : Int) : R :=
  if s.e ≠ 0 then s else if 0 ≤ fr ∧ fr ≤ s.at_ then match s.next 0 4 with
    | (s', none) => s'
    | (s', some x) => if unle x = Crc.more 0 ((s'.b.take s'.at_).drop fr.toNat) then ⟨s'.b, s'.at_ + 4, s'.e⟩ else ⟨s'.b, s'.at_, 11⟩
  else ⟨s.b, s.at_, 1⟩
def R.end_ (s : R) : Nat := if s.e = 0 ∧ s.at_ < s.b.length then 12 else s.e
end Go.Proofs.Ytfpofaniicegaaa.Wd

/- The walks of word.width and word.Put over numbers of each type: a number's bytes are laid behind the list, in new memory. -/
set_option linter.unusedVariables false
set_option linter.unusedSimpArgs false
namespace Go.Proofs.Ytfpofaniicegaaa
open Go.RowKit

/-- a slice of bytes that the call has made, in a row of its own from block 'base' on -/
def Own (w : World) (base : Nat) (A : Option Addr) (n c : Nat) (bs : List Nat) : Prop := w.ownsRow base 5 1 (.slice A n c) n (bs.map u8) ∧ (∀ b ∈ bs, b < 256) ∧ n ≤ 9223372036854775807
theorem Own.isB {w : World} {base n c : Nat} {A : Option Addr} {bs : List Nat} (h : Own w base A n c bs) : IsB w w.heap.size A n bs := ⟨Reads.of_own h.1, h.2⟩
theorem Own.len {w : World} {base n c : Nat} {A : Option Addr} {bs : List Nat} (h : Own w base A n c bs) : bs.length = n := by have := h.1.1; simpa using this
theorem Own.below {w w' : World} {base n c : Nat} {A : Option Addr} {bs : List Nat} (h : Own w base A n c bs) (hb : Below w.heap.size w w') : Own w' base A n c bs := by
  refine ⟨⟨h.1.1, ?_⟩, h.2⟩
  rcases h.1.2 with h2 | ⟨g, cap, cur, hv, hg, hh, r⟩
  · exact .inl h2
  · refine .inr ⟨g, cap, cur, hv, hg, ?_, r⟩
    have hlt : g < w.heap.size := Blk.lt (cs := cur) hh
    rw [hb.block g hlt]; exact hh
theorem Own.mono {w : World} {base base' n c : Nat} {A : Option Addr} {bs : List Nat} (h : Own w base A n c bs) (hb : base' ≤ base) : Own w base' A n c bs := by
  refine ⟨⟨h.1.1, ?_⟩, h.2⟩
  rcases h.1.2 with h2 | ⟨g, cap, cur, hv, hg, r⟩
  · exact .inl h2
  · exact .inr ⟨g, cap, cur, hv, by omega, r⟩
theorem info5w : (Try.prog.info? 5).map (fun i => (i.zero, i.size, i.bytes)) = some (some (.int .u8 0), 1, 1) := by kernel_rfl
theorem size5w : (Try.prog.info? 5).map (·.size) = some 1 := by kernel_rfl
theorem one_u8w (bs : List Nat) : ∀ v ∈ bs.map u8, v.oneCell' = true := by intro v hv; simp at hv; obtain ⟨b, _, rfl⟩ := hv; rfl
theorem madeCells_onew (z : Value) (n : Nat) : madeCells #[z] n = (List.replicate n z).toArray := by
  unfold madeCells
  apply Array.ext
  · simp
  · intro i h1 h2
    simp [Nat.mod_one]
/-- a made row, filled at its head, is owned -/
theorem own_of_splice {w : World} {g n k : Nat} {Z X : List Value} (h : w.heap[g]? = some (.cells (splice Z 0 X).toArray 5 (0, 0))) (hX : X.length = n) (hZ : Z.length = n + k) (hk : n + k ≤ maxLen) : w.ownsRow g 5 1 (.slice (some ⟨g, 0, none⟩) n (n + k)) n X := by
  refine ⟨by simp [hX], .inr ⟨g, n + k, _, rfl, Nat.le_refl _, h, by omega, hk, ?_, ?_⟩⟩
  · simp [splice, hX, hZ]
  · simp [splice, hX]
/-- make([]T, l, c), one cell an element -/
theorem run_make_rowN' {P : Program} (t e : TypeId) (z : Value) (bytes : Nat) (ht : P.underlying t = some (.slice e)) (hinfo : (P.info? e).map (fun i => (i.zero, i.size, i.bytes)) = some (some z, 1, bytes)) (hz1 : z.cells = #[z])
    (kl kc : IntKind) (n c : Nat) (hnc : n ≤ c) (hbytes : bytes * c ≤ 281474976710656) (h63 : c ≤ 9223372036854775807) (w : World) :
    (Instr.makeSlice t (.int kl (n : Int)) (.int kc (c : Int))).run P w = .ok (.slice (some ⟨w.heap.size, 0, none⟩) n c) (w.alloc (.cells (madeCells #[z] c) e)) := by
  obtain ⟨i, hi, hzz⟩ := Option.map_eq_some_iff.1 hinfo
  simp only [Prod.mk.injEq] at hzz
  obtain ⟨hz, hs, hb⟩ := hzz
  have hb' : (i.bytes : Int) * (c : Int) ≤ 281474976710656 := by
    have h : ((i.bytes * c : Nat) : Int) ≤ 281474976710656 := by rw [hb]; omega
    rwa [Int.natCast_mul] at h
  have hr := run_make (P := P) w t e i z ht hi hz kl kc n c (by omega) (by omega) hb' (by omega)
  simp only [Int.toNat_natCast] at hr
  rw [hz1, hs, Nat.mul_one] at hr
  exact hr
theorem shr_u64 (n i : Nat) : (n >>> i : Nat) = n / 2 ^ i := Nat.shiftRight_eq_div_pow n i

set_option maxRecDepth 100000 in
set_option maxHeartbeats 1000000 in
theorem width_uint64 (w : World) : Calls Try.prog 75 #[] w fun e w' => e = .returned (.int .i64 8) ∧ w = w' := by
  go_enter Try.func75, Try.ntmps75
  go_wp2
  go_loop [1, 2] (fun n x => (x = .int .u64 18446744073709551615 ∧ n = .int .i64 0) ∨ (x = .int .u64 72057594037927935 ∧ n = .int .i64 1) ∨ (x = .int .u64 281474976710655 ∧ n = .int .i64 2) ∨ (x = .int .u64 1099511627775 ∧ n = .int .i64 3) ∨ (x = .int .u64 4294967295 ∧ n = .int .i64 4) ∨ (x = .int .u64 16777215 ∧ n = .int .i64 5) ∨ (x = .int .u64 65535 ∧ n = .int .i64 6) ∨ (x = .int .u64 255 ∧ n = .int .i64 7) ∨ (x = .int .u64 0 ∧ n = .int .i64 8)) (fun n _ => 8 - (intOf n).toNat)
  case atStart => exact .inl ⟨congrArg (Value.int _) (by decide), rfl⟩
  case round =>
    rcases hrel with ⟨rfl, rfl⟩ | ⟨rfl, rfl⟩ | ⟨rfl, rfl⟩ | ⟨rfl, rfl⟩ | ⟨rfl, rfl⟩ | ⟨rfl, rfl⟩ | ⟨rfl, rfl⟩ | ⟨rfl, rfl⟩ | ⟨rfl, rfl⟩
    all_goals
      go_wp2
      first
        | (go_ret; exact ⟨rfl, rfl⟩)
        | (go_round
           case rel => simp
           case measure => simp [intOf])

end Go.Proofs.Ytfpofaniicegaaa

/- The walks of word.More, bulkheadref1.More, word.CRC, bulkheadref1.CRC: the check sum of a list of bytes, of whatever length; nothing that was there is written. -/
set_option linter.unusedVariables false
set_option linter.unusedSimpArgs false
namespace Go.Proofs.Ytfpofaniicegaaa
open Go.RowKit

namespace Crc
def tab (k : Nat) : Array Value := Array.ofFn fun j : Fin 16 => .int .u32 ((if j.val < k then stN 4 j.val else 0 : Nat) : Int)
theorem tab_set (k : Nat) : (tab k).setIfInBounds k (.int .u32 (stN 4 k : Nat)) = tab (k + 1) := by
  apply Array.ext
  · simp [tab]
  · intro i h1 h2
    rw [Array.getElem_setIfInBounds (by simpa using h1)]
    by_cases hik : k = i
    · subst hik; simp [tab]
    · have : (i < k + 1) = (i < k) := by rw [eq_iff_iff]; omega
      rw [if_neg hik]
      simp [tab, this]
theorem tab_get (i : Nat) (h : i < 16) : (tab 16)[i]? = some (.int .u32 (stN 4 i : Nat)) := by
  simp [tab, h]
theorem tab_size (k : Nat) : (tab k).size = 16 := by simp [tab]
theorem tab_zero : #[.int .u32 0, .int .u32 0, .int .u32 0, .int .u32 0, .int .u32 0, .int .u32 0, .int .u32 0, .int .u32 0, .int .u32 0, .int .u32 0, .int .u32 0, .int .u32 0, .int .u32 0, .int .u32 0, .int .u32 0, .int .u32 0] = tab 0 := by
  simp [tab, Array.ofFn_succ]
theorem tab_some (k i : Nat) (h : i < 16) : ∃ v, (tab k)[i]? = some v := by simp [tab, h]
end Crc
attribute [irreducible] Crc.tab

theorem stN_succ (n r : Nat) : Crc.stN (n + 1) r = Crc.st (Crc.stN n r) := Crc.stN_add n 1 r
theorem u32and1 (r : Nat) (h : r < 4294967296) : bits .and .u32 (r : Int) 1 = ((r % 2 : Nat) : Int) := by
  have := u32_and_nat r 1 h (by decide)
  rw [Nat.and_one_is_mod] at this
  exact this
theorem walk_st (r : Nat) (h : r < 4294967296) : bits .xor .u32 ((r : Int) / 2) (bits .and .u32 2197175160 (-bits .and .u32 (r : Int) 1 % 4294967296)) = ((Crc.st r : Nat) : Int) := by
  rw [u32and1 r h]
  rcases Nat.mod_two_eq_zero_or_one r with h2 | h2
  · rw [h2]
    have e : bits .and .u32 2197175160 (-((0 : Nat) : Int) % 4294967296) = ((0 : Nat) : Int) := by decide
    rw [e]
    have := u32_xor_nat (r / 2) 0 (by omega) (by decide)
    rw [show ((r : Int) / 2) = ((r / 2 : Nat) : Int) by omega, this]
    simp [Crc.st, h2, Nat.shiftRight_eq_div_pow]
  · rw [h2]
    have e : bits .and .u32 2197175160 (-((1 : Nat) : Int) % 4294967296) = ((2197175160 : Nat) : Int) := by decide
    rw [e]
    have := u32_xor_nat (r / 2) 2197175160 (by omega) (by decide)
    rw [show ((r : Int) / 2) = ((r / 2 : Nat) : Int) by omega, this]
    simp [Crc.st, Crc.poly, h2, Nat.shiftRight_eq_div_pow]

theorem two_steps (r x : Nat) (hr : r < 4294967296) (hx : x < 256) : ∃ y1 i1 t1 y2 i2 t2 y3 : Nat, (y1 < 4294967296 ∧ y2 < 4294967296 ∧ y3 < 4294967296 ∧ i1 < 16 ∧ i2 < 16) ∧
    bits .xor .u32 (r : Int) (x : Int) = y1 ∧ bits .and .u32 (y1 : Int) 15 = i1 ∧ (Crc.tab 16)[i1]? = some (.int .u32 (t1 : Nat)) ∧ bits .xor .u32 ((y1 : Int) / 16) (t1 : Int) = y2 ∧
    bits .and .u32 (y2 : Int) 15 = i2 ∧ (Crc.tab 16)[i2]? = some (.int .u32 (t2 : Nat)) ∧ bits .xor .u32 ((y2 : Int) / 16) (t2 : Int) = y3 ∧ Hid (y3 = Crc.upd r x) := by
  have h1 : r ^^^ x < 4294967296 := Nat.xor_lt_two_pow (n := 32) hr (by omega)
  have l15 (y : Nat) : y &&& 15 < 16 := by have := Nat.and_le_right (n := y) (m := 15); omega
  have ht (i : Nat) (h : i < 16) : Crc.stN 4 i < 4294967296 := Crc.stN_lt 4 (by omega)
  have h16 (y : Nat) (h : y < 4294967296) : y >>> 4 = y / 16 ∧ y / 16 < 4294967296 := ⟨by rw [Nat.shiftRight_eq_div_pow], by omega⟩
  have h2 : (r ^^^ x) >>> 4 ^^^ Crc.stN 4 ((r ^^^ x) &&& 15) < 4294967296 := by
    refine Nat.xor_lt_two_pow (n := 32) ?_ (ht _ (l15 _))
    rw [(h16 _ h1).1]; exact (h16 _ h1).2
  have h3 : Crc.upd r x < 4294967296 := Crc.upd_lt hr (by omega)
  have step (y : Nat) (h : y < 4294967296) : bits .xor .u32 ((y : Int) / 16) ((Crc.stN 4 (y &&& 15) : Nat) : Int) = ((y >>> 4 ^^^ Crc.stN 4 (y &&& 15) : Nat) : Int) := by
    rw [show ((y : Int) / 16) = ((y / 16 : Nat) : Int) by omega, u32_xor_nat _ _ (h16 y h).2 (ht _ (l15 y)), (h16 y h).1]
  refine ⟨r ^^^ x, (r ^^^ x) &&& 15, Crc.stN 4 ((r ^^^ x) &&& 15), _, _, Crc.stN 4 (((r ^^^ x) >>> 4 ^^^ Crc.stN 4 ((r ^^^ x) &&& 15)) &&& 15), Crc.upd r x, ⟨h1, h2, h3, l15 _, l15 _⟩,
    u32_xor_nat r x hr (by omega), u32_and_nat _ 15 h1 (by decide), Crc.tab_get _ (l15 _), step _ h1, u32_and_nat _ 15 h2 (by decide), Crc.tab_get _ (l15 _), ?_, rfl⟩
  rw [step _ h2, Crc.upd_two]

theorem ret_u32 {a b : Int} (h : a = b) : Ending.returned (.int .u32 a) = .returned (.int .u32 b) := by rw [h]
theorem start_eq (s : Nat) (hs : s < 4294967296) : bits .xor .u32 IntKind.u32.max (s : Int) = ((s ^^^ Crc.ones : Nat) : Int) := by
  have h := u32_xor_nat 4294967295 s (by decide) hs
  have e : IntKind.u32.max = ((4294967295 : Nat) : Int) := by decide
  rw [e, h, Nat.xor_comm]; rfl

theorem start_eq' (s : Nat) (hs : s < 4294967296) : bits .xor .u32 (s : Int) 4294967295 = ((s ^^^ Crc.ones : Nat) : Int) := by
  have h := u32_xor_nat s 4294967295 hs (by decide)
  exact h

theorem walk_ref (r : Nat) (h : r < 4294967296) : ∃ o r1 : Nat, bits .and .u32 (r : Int) 1 = o ∧ o < 2 ∧ r1 < 4294967296 ∧ Hid (r1 = r / 2) ∧ (r : Int) / 2 = r1 ∧ (o = 1 → bits .xor .u32 (r1 : Int) 2197175160 = ((Crc.st r : Nat) : Int)) ∧ (o = 0 → r1 = Crc.st r) := by
  refine ⟨r % 2, r / 2, u32and1 r h, by omega, by omega, rfl, by omega, fun h1 => ?_, fun h0 => ?_⟩
  · refine (u32_xor_nat (r / 2) 2197175160 (by omega) (by decide)).trans ?_
    simp [Crc.st, Crc.poly, h1, Nat.shiftRight_eq_div_pow]
  · simp [Crc.st, h0, Nat.shiftRight_eq_div_pow]

end Go.Proofs.Ytfpofaniicegaaa

/- The walks of word.Get over numbers of each type: the number that the first bytes are. -/
set_option linter.unusedVariables false
set_option linter.unusedSimpArgs false
namespace Go.Proofs.Ytfpofaniicegaaa
open Go.RowKit

theorem or_step (bs : List Nat) (j : Nat) (h8 : j < 8) (hj : j < bs.length) (hb : ∀ b ∈ bs, b < 256) :
    bits .or .u64 (Wd.unle (bs.take j) : Nat) (IntKind.u64.wrap (((bs.getD j 0 : Nat) : Int) * 2 ^ (8 * j))) = (Wd.unle (bs.take (j + 1)) : Nat) := by
  have hl : (bs.take j).length = j := by simp; omega
  have h1 := Wd.unle_lt (bs.take j) (fun b hb' => hb b (List.mem_of_mem_take hb'))
  rw [hl] at h1
  have hx := hb _ (getD_mem bs j hj)
  obtain ⟨x, hxe⟩ : ∃ x, x = bs.getD j 0 := ⟨_, rfl⟩
  rw [take_snoc bs j hj, Wd.unle_append, hl]
  rw [← hxe] at hx ⊢
  obtain ⟨y, hy⟩ : ∃ y, y = Wd.unle (bs.take j) := ⟨_, rfl⟩
  rw [← hy] at h1 ⊢
  have hp : (256 : Nat) ^ j = 2 ^ (8 * j) := by rw [show (256 : Nat) = 2 ^ 8 from rfl, ← Nat.pow_mul]
  have hle : (2 : Nat) ^ (8 * j) ≤ 2 ^ 56 := Nat.pow_le_pow_right (by decide) (by omega)
  have hm : x * 2 ^ (8 * j) < 18446744073709551616 := by
    have h3 : x * 2 ^ (8 * j) ≤ 255 * 2 ^ 56 := Nat.mul_le_mul (by omega) hle
    have h4 : (2 : Nat) ^ 56 = 72057594037927936 := by decide
    omega
  have hc : ((x : Nat) : Int) * 2 ^ (8 * j) = ((x * 2 ^ (8 * j) : Nat) : Int) := by norm_cast
  have hw : IntKind.u64.wrap ((x * 2 ^ (8 * j) : Nat) : Int) = ((x * 2 ^ (8 * j) : Nat) : Int) := by rw [IntKind.wrap_u64]; omega
  have hy2 : y < 2 ^ (8 * j) := by rw [← hp]; exact h1
  have hy3 : y < 18446744073709551616 := by
    have h4 : (2 : Nat) ^ 56 = 72057594037927936 := by decide
    omega
  rw [hc, hw, bits_or_u64_nat y _ hy3 hm]
  have h5 : y ||| x * 2 ^ (8 * j) = y + x * 2 ^ (8 * j) := by
    rw [Nat.or_comm, Nat.mul_comm, ← Nat.two_pow_add_eq_or_of_lt hy2, Nat.add_comm]
  rw [h5, hp]
  simp [Wd.unle, Nat.mul_comm]

set_option maxRecDepth 100000 in
set_option maxHeartbeats 1000000 in
theorem get_uint64 (A : Option Addr) (n c : Nat) (bs : List Nat) (w : World) (ha : IsB w w.heap.size A n bs) (hk : 8 ≤ n) (hc : n ≤ c) :
    Calls Try.prog 58 #[.slice A n c] w fun e w' => e = .returned (.tuple #[.int .u64 (Wd.unle (bs.take 8) : Nat), .bool true]) ∧ w = w' := by
  have hn := ha.2.2
  have hlen := ha.len
  obtain ⟨b, off, HF⟩ := ha.form
  have HBY := Lib.hid ha.2.1
  have hlt := Wd.unle_lt (bs.take 8) (fun b hb' => ha.2.1 b (List.mem_of_mem_take hb'))
  rw [show (bs.take 8).length = 8 by simp; omega] at hlt
  have HLT := Lib.hid hlt
  clear ha hlt
  go_enter Try.func58, Try.ntmps58
  go_wp2_with (first
    | (go_at_call 75; refine (width_uint64 _).mono ?_; rintro e w' ⟨rfl, rfl⟩))
  go_loop [5, 17] (fun x i => ∃ j : Nat, j ≤ 8 ∧ i = .int .i64 j ∧ x = .int .u64 (Wd.unle (bs.take j) : Nat)) (fun _ i => 8 - (intOf i).toNat)
  case atStart => exact ⟨0, by omega, rfl, rfl⟩
  case round =>
    obtain ⟨j, hj, rfl, rfl⟩ := hrel
    by_cases hjn : j < 8
    · obtain ⟨hA, hbB, hcc⟩ := HF.out (by omega)
      subst hA
      have hcj := hcc j (by omega)
      have hcb := HBY.out _ (getD_mem bs j (by omega))
      have HS := Lib.hid (or_step bs j (by omega) (by omega) HBY.out)
      obtain ⟨x, hx⟩ : ∃ x, x = bs.getD j 0 := ⟨_, rfl⟩
      rw [← hx] at hcj hcb HS
      obtain ⟨y, hy⟩ : ∃ y, y = Wd.unle (bs.take j) := ⟨_, rfl⟩
      rw [← hy] at HS ⊢
      have HX := Lib.hid hx; have HY := Lib.hid hy; clear hx hy
      clear hcc
      go_wp2
      go_round
      case rel => exact ⟨j + 1, by omega, by go_num, by rw [HS.out]⟩
      case measure => simp [intOf]; omega
    · have HJ : Hid (j = 8) := Lib.hid (by omega)
      obtain ⟨y, hy⟩ : ∃ y, y = Wd.unle (bs.take j) := ⟨_, rfl⟩
      have hyl : y < 18446744073709551616 := by rw [hy, HJ.out]; exact HLT.out
      rw [← hy]
      have HY := Lib.hid hy
      have ew : IntKind.u64.wrap (y : Int) = (y : Int) := by rw [IntKind.wrap_u64]; omega
      clear hy hyl
      go_wp2
      go_ret2
      exact ⟨by rw [HY.out, HJ.out]; rfl, rfl⟩
set_option maxRecDepth 100000 in
set_option maxHeartbeats 1000000 in
theorem getno_uint64 (A : Option Addr) (n c : Nat) (bs : List Nat) (w : World) (hk : n < 8) :
    Calls Try.prog 58 #[.slice A n c] w fun e w' => e = .returned (.tuple #[.int .u64 0, .bool false]) ∧ w = w' := by
  go_enter Try.func58, Try.ntmps58
  go_wp2_with (first
    | (go_at_call 75; refine (width_uint64 _).mono ?_; rintro e w' ⟨rfl, rfl⟩))
  go_ret2
  exact ⟨rfl, rfl⟩
end Go.Proofs.Ytfpofaniicegaaa
