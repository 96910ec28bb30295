/- The walks of wide, Read, Peek, Load. -/
import Derived.Test.YtmhkmemaneopeaaBuC
set_option linter.unusedVariables false
set_option linter.unusedSimpArgs false
namespace Go.Proofs.Ytmhkmemaneopeaa
open Go.RowKit
open S64
namespace Bu
def wideB (z : Int) : Bool := z == 1 || z == 2 || z == 4 || z == 8
set_option maxRecDepth 100000 in
theorem wide_any (z : Int) (w : World) : Calls Try.prog 46 #[.int .i64 z] w fun e w' => e = .returned (.bool (wideB z)) ∧ w' = w := by
  have H1 := Lib.hid (show wideB z = (z == 1 || z == 2 || z == 4 || z == 8) from rfl)
  obtain ⟨b, hb⟩ : ∃ b, b = wideB z := ⟨_, rfl⟩
  rw [← hb] at H1 ⊢
  clear hb
  cases h1 : (z == 1) with
  | true =>
    go_enter Try.func46, Try.ntmps46
    go_wp2_with fail
    go_ret
    exact ⟨by rw [H1.out, h1]; rfl, rfl⟩
  | false =>
  cases h2 : (z == 2) with
  | true =>
    go_enter Try.func46, Try.ntmps46
    go_wp2_with fail
    go_ret
    exact ⟨by rw [H1.out, h1, h2]; rfl, rfl⟩
  | false =>
  cases h3 : (z == 4) with
  | true =>
    go_enter Try.func46, Try.ntmps46
    go_wp2_with fail
    go_ret
    exact ⟨by rw [H1.out, h1, h2, h3]; rfl, rfl⟩
  | false =>
    go_enter Try.func46, Try.ntmps46
    go_wp2_with fail
    go_ret
    exact ⟨by rw [H1.out, h1, h2, h3]; rfl, rfl⟩
set_option maxRecDepth 100000 in
set_option maxHeartbeats 1000000 in
theorem read_neg (g at_ : Nat) (z : Int) (w : World) (hz : z < 0) :
    Calls Try.prog 41 #[.pointer (some ⟨g, 0, none⟩), .int .u64 (at_ : Nat), .int .i64 z] w fun e w' => e = .returned (.tuple #[.slice none 0 0, .agg #[.int .i64 1, .int .u64 (at_ : Nat)]]) ∧ Below w.heap.size w w' := by
  go_enter Try.func41, Try.ntmps41
  go_upto_region 1 with fail
  have r0 : Row (w.alloc (.cells #[.int .i64 0, .int .u64 0] 42)) w.heap.size 42 [.int .i64 0, .int .u64 0] := Row.new w _ [.int .i64 0, .int .u64 0]
  have hb0 : Below w.heap.size w (w.alloc (.cells #[.int .i64 0, .int .u64 0] 42)) := (Below.refl _ _).alloc (Nat.le_refl _) _
  generalize w.alloc (.cells #[.int .i64 0, .int .u64 0] 42) = w1 at *
  have f0 := r0.cell 0
  have f1 := r0.cell 1
  have fz0 := r0.frozen 0
  have fz1 := r0.frozen 1
  have lf := r0.lt
  simp only [List.getElem?_cons_zero, List.getElem?_cons_succ] at f0 f1
  have HB := Lib.hid hb0; have HR := Lib.hid r0
  clear hb0 r0
  go_wp2_with fail
  have hrz := (HR.out.set_ 0 (.int .i64 1)).set_ 1 (.int .u64 (at_ : Nat))
  have z0 := hrz.cell 0
  have z1 := hrz.cell 1
  simp only [List.set_cons_zero, List.set_cons_succ, List.getElem?_cons_zero, List.getElem?_cons_succ] at z0 z1
  refine bodyPost_ret (v := .tuple #[.slice none 0 0, .agg #[.int .i64 1, .int .u64 (at_ : Nat)]]) (by simp [results, Try.results41, go_sem, z0, z1]) rfl ⟨rfl, (HB.out.setCell (p := ⟨w.heap.size, 0, none⟩) (Nat.le_refl _) _).setCell (p := ⟨w.heap.size, 1, none⟩) (Nat.le_refl _) _⟩
/-- what Read tells -/
def ReadSaid (Z R : Nat → Prop) (w : World) (g : Nat) (M : PM) (A1 A2 Ao : Option Addr) (x1 x2 no co b : Nat) (pm : Nat → Option Nat) (sp : Sp.S) (at_ n : Nat) (e : Ending) (w' : World) : Prop :=
  MachAt Z R w' g (stray M (offAt sp at_ n)) A1 A2 Ao x1 x2 no co b pm sp ∧ ChgP Z w w' ∧
  ((∃ p, offAt sp at_ n = some p ∧ e = .returned (.tuple #[.slice none 0 0, faultV (some p)])) ∨
   (offAt sp at_ n = none ∧ ∃ bb, e = .returned (.tuple #[.slice (some ⟨bb, 0, none⟩) n n, faultV none]) ∧ w.heap.size ≤ bb ∧ Row w' bb 5 (outB M.mem at_ n n)))
set_option maxRecDepth 100000 in
set_option maxHeartbeats 1000000 in
theorem read_any (Z R : Nat → Prop) (M : PM) (A1 A2 Ao : Option Addr) (x1 x2 no co b : Nat) (pm : Nat → Option Nat) (sp : Sp.S) (at_ n g : Nat) (w : World)
    (hm : MachAt Z R w g M A1 A2 Ao x1 x2 no co b pm sp) (hn : n ≤ 9223372036854775807) (ha : at_ ≤ TOP) (hs : M.strays < 9223372036854775807) :
    Calls Try.prog 41 #[.pointer (some ⟨g, 0, none⟩), .int .u64 (at_ : Nat), .int .i64 (n : Nat)] w (ReadSaid Z R w g M A1 A2 Ao x1 x2 no co b pm sp at_ n) := by
  have HM := Lib.hid hm
  have HA := Lib.hid ha
  have HS := Lib.hid hs
  have HN := Lib.hid hn
  clear hm ha hs
  unfold TOP at HA
  go_enter Try.func41, Try.ntmps41
  go_upto_region 1 with fail
  have r0 : Row (w.alloc (.cells #[.int .i64 0, .int .u64 0] 42)) w.heap.size 42 [.int .i64 0, .int .u64 0] := Row.new w _ [.int .i64 0, .int .u64 0]
  have hb0 : Below w.heap.size w (w.alloc (.cells #[.int .i64 0, .int .u64 0] 42)) := (Below.refl _ _).alloc (Nat.le_refl _) _
  generalize w.alloc (.cells #[.int .i64 0, .int .u64 0] 42) = w1 at *
  have HM1 : Hid (MachAt (fun k => Z k ∧ k < w.heap.size) (fun k => R k ∧ k < w.heap.size) w1 g M A1 A2 Ao x1 x2 no co b pm sp) := Lib.hid (HM.out.tight.below hb0)
  have HB0 := Lib.hid hb0; have HR0 := Lib.hid r0
  clear hb0 r0
  go_upto_region 3 with fail
  obtain ⟨F, hF⟩ : ∃ F, F = offAt sp at_ n := ⟨_, rfl⟩
  have HF := Lib.hid hF
  clear hF
  cases F with
  | some p =>
    go_upto_region 4 with (go_at_call 42; refine (access_any _ _ M A1 A2 Ao x1 x2 no co b pm sp at_ n g w1 HM1.out HN.out HA.out HS.out).mono ?_; rw [← HF.out]; rintro e w2 ⟨rfl, hm2, hc2⟩; have HM2 := Lib.hid hm2; have HC2 := Lib.hid hc2; clear hm2 hc2; unfold faultV)
    have hra : Row (w2.alloc (.cells #[.int .i64 30, .int .u64 (p : Nat)] 42)) w.heap.size 42 [.int .i64 0, .int .u64 0] := (HC2.out.row HR0.out (fun h => Nat.lt_irrefl _ h.2)).alloc _
    have hrc : Row (w2.alloc (.cells #[.int .i64 30, .int .u64 (p : Nat)] 42)) w2.heap.size 42 [.int .i64 30, .int .u64 (p : Nat)] := Row.new w2 _ [.int .i64 30, .int .u64 (p : Nat)]
    have hm3 := HM2.out.below (w' := w2.alloc (.cells #[.int .i64 30, .int .u64 (p : Nat)] 42)) ((Below.refl _ _).alloc (Nat.le_refl _) _)
    have hc3 : ChgP (fun k => Z k ∧ k < w.heap.size) w1 (w2.alloc (.cells #[.int .i64 30, .int .u64 (p : Nat)] 42)) := HC2.out.alloc _
    have HNE : Hid (w.heap.size ≠ w2.heap.size) := Lib.hid (by have := HC2.out.size; have := HR0.out.lt; omega)
    have hcs : w.heap.size ≤ w2.heap.size := Nat.le_trans HB0.out.size HC2.out.size
    obtain ⟨c, hc⟩ : ∃ c, c = w2.heap.size := ⟨_, rfl⟩
    rw [← hc] at hrc HNE hcs ⊢
    clear hc
    generalize w2.alloc (.cells #[.int .i64 30, .int .u64 (p : Nat)] 42) = w3 at *
    have HRA := Lib.hid hra; have HRC := Lib.hid hrc; have HM3 := Lib.hid hm3; have HC3 := Lib.hid hc3; have HCS := Lib.hid hcs
    have q0 := hra.cell 0
    have q1 := hra.cell 1
    have t0 := hrc.cell 0
    have t1 := hrc.cell 1
    have la := hra.lt
    have lc := hrc.lt
    simp only [List.getElem?_cons_zero, List.getElem?_cons_succ] at q0 q1 t0 t1
    clear hra hrc hm3 hc3 hcs
    go_upto_region 5 with fail
    have a0 := HRA.out.frozen 0
    have a1 := HRA.out.frozen 1
    go_still_tail 2, (by kernel_rfl)
    change wpList _ _ _ _ _ w3.drew
    have hr5 := (HRA.out.drew.set_ 0 (.int .i64 30)).set_ 1 (.int .u64 (p : Nat))
    have z0 := hr5.cell 0
    have z1 := hr5.cell 1
    simp only [List.set_cons_zero, List.set_cons_succ, List.getElem?_cons_zero, List.getElem?_cons_succ] at z0 z1
    have hr6 := (HRA.out.set_ 0 (.int .i64 30)).set_ 1 (.int .u64 (p : Nat))
    have y0 := hr6.cell 0
    have y1 := hr6.cell 1
    simp only [List.set_cons_zero, List.set_cons_succ, List.getElem?_cons_zero, List.getElem?_cons_succ] at y0 y1
    have HY0 := Lib.hid y0; have HY1 := Lib.hid y1
    have hcq : ChgP (fun k => w.heap.size ≤ k) w3 ((w3.drew.setCell ⟨w.heap.size, 0, none⟩ (.int .i64 30)).setCell ⟨w.heap.size, 1, none⟩ (.int .u64 (p : Nat))) := ((ChgP.refl (fun k => w.heap.size ≤ k) w3).drew.set_ (p := ⟨w.heap.size, 0, none⟩) (.inl (Nat.le_refl _)) _).set_ (p := ⟨w.heap.size, 1, none⟩) (.inl (Nat.le_refl _)) _
    have HM5 := Lib.hid (MachAt.past (Z := Z) (R := R) (N := w.heap.size) HM3.out hcq HM.out.dis)
    have HC5 : Hid (ChgP Z w ((w3.drew.setCell ⟨w.heap.size, 0, none⟩ (.int .i64 30)).setCell ⟨w.heap.size, 1, none⟩ (.int .u64 (p : Nat)))) := Lib.hid ((((ChgP.of_below HB0.out).trans HC3.out (fun x hx => .inl hx.1)).drew.set_ (p := ⟨w.heap.size, 0, none⟩) (.inr (Nat.le_refl _)) _).set_ (p := ⟨w.heap.size, 1, none⟩) (.inr (Nat.le_refl _)) _)
    clear hr5 hcq hr6
    go_wp2_with fail
    refine bodyPost_ret (v := .tuple #[.slice none 0 0, .agg #[.int .i64 30, .int .u64 (p : Nat)]]) (by simp [results, Try.results41, go_sem, HY0.out, HY1.out, z0, z1]) rfl ⟨by rw [← HF.out]; exact HM5.out, HC5.out, .inl ⟨p, HF.out.symm, rfl⟩⟩
  | none =>
    go_upto_region 4 with (go_at_call 42; refine (access_any _ _ M A1 A2 Ao x1 x2 no co b pm sp at_ n g w1 HM1.out HN.out HA.out HS.out).mono ?_; rw [← HF.out]; rintro e w2 ⟨rfl, hm2, hc2⟩; have HM2 := Lib.hid hm2; have HC2 := Lib.hid hc2; clear hm2 hc2; unfold faultV)
    have hra : Row (w2.alloc (.cells #[.int .i64 0, .int .u64 0] 42)) w.heap.size 42 [.int .i64 0, .int .u64 0] := (HC2.out.row HR0.out (fun h => Nat.lt_irrefl _ h.2)).alloc _
    have hrc : Row (w2.alloc (.cells #[.int .i64 0, .int .u64 0] 42)) w2.heap.size 42 [.int .i64 0, .int .u64 0] := Row.new w2 _ [.int .i64 0, .int .u64 0]
    have hm3 := HM2.out.below (w' := w2.alloc (.cells #[.int .i64 0, .int .u64 0] 42)) ((Below.refl _ _).alloc (Nat.le_refl _) _)
    have hc3 : ChgP (fun k => Z k ∧ k < w.heap.size) w1 (w2.alloc (.cells #[.int .i64 0, .int .u64 0] 42)) := HC2.out.alloc _
    have HNE : Hid (w.heap.size ≠ w2.heap.size) := Lib.hid (by have := HC2.out.size; have := HR0.out.lt; omega)
    have hcs : w.heap.size ≤ w2.heap.size := Nat.le_trans HB0.out.size HC2.out.size
    obtain ⟨c, hc⟩ : ∃ c, c = w2.heap.size := ⟨_, rfl⟩
    rw [← hc] at hrc HNE hcs ⊢
    clear hc
    generalize w2.alloc (.cells #[.int .i64 0, .int .u64 0] 42) = w3 at *
    have HRA := Lib.hid hra; have HRC := Lib.hid hrc; have HM3 := Lib.hid hm3; have HC3 := Lib.hid hc3; have HCS := Lib.hid hcs
    have q0 := hra.cell 0
    have q1 := hra.cell 1
    have t0 := hrc.cell 0
    have t1 := hrc.cell 1
    have la := hra.lt
    have lc := hrc.lt
    simp only [List.getElem?_cons_zero, List.getElem?_cons_succ] at q0 q1 t0 t1
    clear hra hrc hm3 hc3 hcs
    go_upto_region 6 with fail
    have H64 := Lib.hid (offAt_none HM.out HA.out HF.out.symm)
    have HNB : Hid (n ≤ 1099511627776) := Lib.hid (by rcases H64.out with h | h <;> omega)
    have HMD : Hid (MachAt (fun k => Z k ∧ k < w.heap.size) (fun k => R k ∧ k < w.heap.size) w3.drew g M A1 A2 Ao x1 x2 no co b pm sp) := Lib.hid (MachAt.below (M := M) HM3.out (Below.refl w3.heap.size w3).drew)
    have KEEP : Hid (∀ (w' : World) (u v : Value), w'.cell? ⟨c, 0, none⟩ = some (.int .i64 0) → w'.cell? ⟨c, 1, none⟩ = some (.int .u64 0) → ((w'.setCell ⟨w.heap.size, 0, none⟩ u).setCell ⟨w.heap.size, 1, none⟩ v).cell? ⟨c, 0, none⟩ = some (.int .i64 0) ∧ ((w'.setCell ⟨w.heap.size, 0, none⟩ u).setCell ⟨w.heap.size, 1, none⟩ v).cell? ⟨c, 1, none⟩ = some (.int .u64 0)) := Lib.hid fun w' u v h1 h2 => ⟨(World.cell?_setCell_other _ _ _ _ (by intro h; injection h with h; exact HNE.out (by first | exact h | exact h.symm))).trans ((World.cell?_setCell_other _ _ _ _ (by intro h; injection h with h; exact HNE.out (by first | exact h | exact h.symm))).trans h1), (World.cell?_setCell_other _ _ _ _ (by intro h; injection h with h; exact HNE.out (by first | exact h | exact h.symm))).trans ((World.cell?_setCell_other _ _ _ _ (by intro h; injection h with h; exact HNE.out (by first | exact h | exact h.symm))).trans h2)⟩
    clear q0 q1
    go_region_held3 (fun w' => w'.cell? ⟨c, 0, none⟩ = some (.int .i64 0) ∧ w'.cell? ⟨c, 1, none⟩ = some (.int .u64 0))
      (first | exact ⟨t0, t1⟩ | exact KO.out | exact KEEP.out _ _ _ KO.out.1 KO.out.2)
      (first
        | (go_at_call 56; refine (bytes_any _ _ M A1 A2 Ao x1 x2 no co b pm sp at_ n g w3.drew HMD.out (by rcases H64.out with h | h <;> omega) HNB.out HA.out).mono ?_; rintro e w4 ⟨bb, rfl, hle, hrb, hb4⟩; have HB4 : Hid (Below w3.heap.size w3 w4) := Lib.hid ((Below.refl w3.heap.size w3).drew.trans (hb4.mono (Below.refl w3.heap.size w3).drew.size)); have HRB := Lib.hid hrb; have HLE := Lib.hid hle; have KO : Hid (w4.cell? ⟨c, 0, none⟩ = some (.int .i64 0) ∧ w4.cell? ⟨c, 1, none⟩ = some (.int .u64 0)) := Lib.hid ⟨(HB4.out.cell (p := ⟨c, 0, none⟩) lc).trans t0, (HB4.out.cell (p := ⟨c, 1, none⟩) lc).trans t1⟩; have hr4 := HRA.out.below HB4.out la; have q0 := hr4.cell 0; have q1 := hr4.cell 1; have qz0 := hr4.frozen 0; have qz1 := hr4.frozen 1; have la4 := hr4.lt; have HR4 := Lib.hid hr4; simp only [List.getElem?_cons_zero, List.getElem?_cons_succ] at q0 q1; clear hb4 hrb hle hr4))
    all_goals
      have hr5 := (HR4.out.set_ 0 (.int .i64 0)).set_ 1 (.int .u64 0)
      have z0 := hr5.cell 0
      have z1 := hr5.cell 1
      simp only [List.set_cons_zero, List.set_cons_succ, List.getElem?_cons_zero, List.getElem?_cons_succ] at z0 z1
      have hcq : ChgP (fun k => w.heap.size ≤ k) w4 ((w4.setCell ⟨w.heap.size, 0, none⟩ (.int .i64 0)).setCell ⟨w.heap.size, 1, none⟩ (.int .u64 0)) := ((ChgP.refl (fun k => w.heap.size ≤ k) w4).set_ (p := ⟨w.heap.size, 0, none⟩) (.inl (Nat.le_refl _)) _).set_ (p := ⟨w.heap.size, 1, none⟩) (.inl (Nat.le_refl _)) _
      have hm5 := (MachAt.below (M := M) HM3.out HB4.out).past hcq HM.out.dis
      have hc5 : ChgP Z w ((w4.setCell ⟨w.heap.size, 0, none⟩ (.int .i64 0)).setCell ⟨w.heap.size, 1, none⟩ (.int .u64 0)) := ((((ChgP.of_below HB0.out).trans HC3.out (fun x hx => .inl hx.1)).trans (ChgP.of_below (Z := fun _ => False) HB4.out) (fun x hx => hx.elim)).set_ (p := ⟨w.heap.size, 0, none⟩) (.inr (Nat.le_refl _)) _).set_ (p := ⟨w.heap.size, 1, none⟩) (.inr (Nat.le_refl _)) _
      have hnb : bb ≠ w.heap.size := Row.ne_t HRB.out HR4.out (by decide)
      have hrb5 := (HRB.out.far (p := ⟨w.heap.size, 0, none⟩) hnb (.int .i64 0)).far (p := ⟨w.heap.size, 1, none⟩) hnb (.int .u64 0)
      have hbb : w.heap.size ≤ bb := by have := HLE.out; have := HC3.out.size; have := HB0.out.size; simp only [World.drew] at *; omega
      have HE1 := Lib.hid z0; have HE2 := Lib.hid z1; have HM5 := Lib.hid hm5; have HC5 := Lib.hid hc5; have HRB5 := Lib.hid hrb5
      clear hr5 hcq hm5 hc5 hrb5 hnb
      go_wp2_with fail
      refine bodyPost_ret (v := .tuple #[.slice (some ⟨bb, 0, none⟩) n n, .agg #[.int .i64 0, .int .u64 0]]) (by simp [results, Try.results41, go_sem, z0, z1]) rfl ⟨by rw [← HF.out]; exact HM5.out, HC5.out, .inr ⟨HF.out.symm, bb, rfl, hbb, HRB5.out⟩⟩
end Bu
end Go.Proofs.Ytmhkmemaneopeaa
