/- Texts of this claim, one behind the other: TpB. -/
import Derived.Test.YtfpofaniicegaaaGreatJWalkForeign39
import Derived.Deep.CutBlock
import Derived.Deep.RegionHeld3
import Derived.Deep.RegionLaw
import Derived.StillTailTactics
/- Walk over the law's tape (printed by tapegen.py). -/
set_option linter.unusedVariables false
set_option linter.unusedSimpArgs false
namespace Go.Proofs.YtfpofaniicegaaaGreat
open Go.RowKit
open S64
namespace Bu
theorem tp_quiet {B g : Nat} {Z R : Nat → Prop} {w w' : World} {M M' : PM} (h : STape B g Z R w M) (hd : DM Z w' B g M') (hc : ChgP Z w w') : QuM (STape B g) Z R w M' w' := ⟨⟨hd, h.2.1, fun k hk => Nat.lt_of_lt_of_le (h.2.2 k hk) hc.size⟩, hc⟩
theorem tape_peek (g n : Nat) (wx : World) : (method (n + 1) 39 (.agg #[.pointer (some ⟨g, 0, none⟩)]) "Peek").run Tryz.prog wx = .ok (119, .agg #[.pointer (some ⟨g, 0, none⟩)]) wx := by kernel_rfl
set_option maxRecDepth 100000 in
set_option maxHeartbeats 2000000 in
theorem ent_tape (B g : Nat) : EntC 39 (tapeV g) (STape B g) := by
  intro Z R w M tab i lv hm hs ht hi hl
  unfold tapeV
  have HM := Lib.hid hm
  have HS := Lib.hid hs
  obtain ⟨a, ha⟩ : ∃ a, a = tab + 8 * i := ⟨_, rfl⟩
  have e1 : (tab : Int) + 8 * (i : Int) = (a : Int) := by omega
  have ha64 : a ≤ 18446744073709551615 := by omega
  have HAE := Lib.hid ha
  obtain ⟨E, hE⟩ : ∃ E, E = entM M tab i lv := ⟨_, rfl⟩
  rw [← hE]
  have HE := Lib.hid hE
  have HPK : Hid (∀ wx, Below w.heap.size w wx → Calls Tryz.prog 119 #[.agg #[.pointer (some ⟨g, 0, none⟩)], .int .u64 (a : Nat), .int .i64 8] wx fun e w' => e = .returned (.tuple #[.int .u64 (peekV M a 8 (offF M a 8) : Nat), faultV (offF M a 8)]) ∧ QuM (STape B g) Z R wx (stray M (offF M a 8)) w') := Lib.hid (fun wx hb => (tpeek_any ((stape_i B g).below hm hb).1 a 8 (by omega) (show a ≤ TOP by unfold TOP; omega)).mono (fun e w' hh => ⟨hh.1, tp_quiet ((stape_i B g).below hm hb) hh.2.1 hh.2.2⟩))
  have HRD := Lib.hid (rdM_off (M := M) (a := a))
  obtain ⟨P, hP⟩ : ∃ P, P = peekV M a 8 (offF M a 8) := ⟨_, rfl⟩
  rw [← hP] at HPK
  have HP := Lib.hid hP
  obtain ⟨F, hF⟩ : ∃ F, F = offF M a 8 := ⟨_, rfl⟩
  rw [← hF, faultV_eq] at HPK
  have HF := Lib.hid hF
  have hmp := tape_peek g
  clear hm hs ha hE hP hF
  go_enter Tryz.func60, Tryz.ntmps60
  go_upto_region 1 with fail
  have hra0 := Row.new w 97 [.int .u64 0, .bool false, .bool false, .bool false, .bool false]
  have hb0 : Below w.heap.size w (w.alloc (.cells #[.int .u64 0, .bool false, .bool false, .bool false, .bool false] 97)) := (Below.refl _ _).alloc (Nat.le_refl _) _
  obtain ⟨c, hc⟩ : ∃ c, c = w.heap.size := ⟨_, rfl⟩
  have HCW : Hid (w.heap.size ≤ c) := Lib.hid (Nat.le_of_eq hc.symm)
  have HPK0 := Lib.hid (HPK.out _ hb0)
  have HB0 := Lib.hid hb0
  have HNC : Hid (¬ Z c) := Lib.hid (fun h => by have := (stape_i B g).z (show STape B g Z R w M from HM.out) c h; omega)
  generalize w.alloc (.cells #[.int .u64 0, .bool false, .bool false, .bool false, .bool false] 97) = w1 at *
  rw [← hc] at hra0 ⊢
  have HRA := Lib.hid hra0
  clear hra0 hb0 hc HPK
  go_upto_region 2 with (go_at_call 119; refine HPK0.out.mono ?_; rintro e w2 ⟨rfl, hm2, hc2⟩; have HM2 := Lib.hid hm2; have HC2 := Lib.hid hc2; have HRA2 := Lib.hid (hc2.row HRA.out HNC.out); clear hm2 hc2 HRA HPK0)
  have HQ2 : Hid (QuS (STape B g) Z R w M (E.2 ≠ 42) w2) := Lib.hid (by
    obtain ⟨s, h1, h0, h2⟩ := stray_sM M F
    have h3 := HM2.out
    rw [h2] at h3
    have hq : E.2 ≠ 42 → F = none := fun h => by
      cases F with
      | none => rfl
      | some q =>
        exfalso
        apply h
        rw [HE.out, entM, ← HAE.out, HRD.out.1.2 ⟨q, HF.out.symm⟩]
    exact ⟨s, h1, fun h => h0 (hq h), h3, (ChgP.of_below (Z := Z) HB0.out).trans HC2.out (fun x hx => .inl hx)⟩)
  have hrf := Row.new w2 57 [.int .i64 (fno F : Nat), .int .u64 (F.getD 0 : Nat)]
  have HQ3 := Lib.hid (HQ2.out.below (stape_i B g) ((Below.refl _ _).alloc (Nat.le_refl _) (.cells #[.int .i64 (fno F : Nat), .int .u64 (F.getD 0 : Nat)] 57)))
  have HRA3 := Lib.hid (HRA2.out.alloc (.cells #[.int .i64 (fno F : Nat), .int .u64 (F.getD 0 : Nat)] 57))
  obtain ⟨cf, hcf⟩ : ∃ cf, cf = w2.heap.size := ⟨_, rfl⟩
  generalize w2.alloc (.cells #[.int .i64 (fno F : Nat), .int .u64 (F.getD 0 : Nat)] 57) = w3 at *
  rw [← hcf] at hrf ⊢
  have f0 := hrf.cell 0
  have lf := hrf.lt
  simp only [List.getElem?_cons_zero, List.getElem?_cons_succ] at f0
  have q0 := HRA3.out.cell 0
  have q1 := HRA3.out.cell 1
  have q2 := HRA3.out.cell 2
  have q3 := HRA3.out.cell 3
  have q4 := HRA3.out.cell 4
  have la := HRA3.out.lt
  have y0 := HRA3.out.frozen 0
  have y1 := HRA3.out.frozen 1
  have y2 := HRA3.out.frozen 2
  have y3 := HRA3.out.frozen 3
  have y4 := HRA3.out.frozen 4
  simp only [List.getElem?_cons_zero, List.getElem?_cons_succ] at q0 q1 q2 q3 q4
  clear hrf hcf HM2 HC2 HRA2 HQ2
  cases F with
  | some q =>
    have hE : E = (Ent.zero, 42) := by
      rw [HE.out, entM, ← HAE.out, HRD.out.1.2 ⟨q, HF.out.symm⟩]
    subst hE
    simp only [fno] at f0
    go_upto_region 3 with fail
    have hrz := ((((HRA3.out.set_ 0 (.int .u64 0)).set_ 1 (.bool false)).set_ 2 (.bool false)).set_ 3 (.bool false)).set_ 4 (.bool false)
    have z0 := hrz.cell 0
    have z1 := hrz.cell 1
    have z2 := hrz.cell 2
    have z3 := hrz.cell 3
    have z4 := hrz.cell 4
    simp only [List.set_cons_zero, List.set_cons_succ, List.getElem?_cons_zero, List.getElem?_cons_succ] at z0 z1 z2 z3 z4
    have HZ0 := Lib.hid z0; have HZ1 := Lib.hid z1; have HZ2 := Lib.hid z2; have HZ3 := Lib.hid z3; have HZ4 := Lib.hid z4
    clear hrz z0 z1 z2 z3 z4
    go_wp2_with fail
    refine bodyPost_ret (v := .tuple #[eVal Ent.zero, .int .i64 42]) (by simp [results, Tryz.results60, go_sem, eVal, Ent.zero, HZ0.out, HZ1.out, HZ2.out, HZ3.out, HZ4.out]) rfl ⟨rfl, (HQ3.out.imp (q' := False) (fun h => h.elim)).chg (stape_i B g) (Y := fun k => k = c) ?_ (show STape B g Z R w M from HM.out) (fun k hk => by rw [show k = c from hk]; exact HCW.out)⟩
    exact (((((ChgP.refl (fun k => k = c) w3).set_ (p := ⟨c, 0, none⟩) (.inl rfl) _).set_ (p := ⟨c, 1, none⟩) (.inl rfl) _).set_ (p := ⟨c, 2, none⟩) (.inl rfl) _).set_ (p := ⟨c, 3, none⟩) (.inl rfl) _).set_ (p := ⟨c, 4, none⟩) (.inl rfl) _
  | none =>
    have hP64 : P < 18446744073709551616 := by
      rw [HP.out, ← HF.out]
      exact numB_lt ((stape_i B g).byte (show STape B g Z R w M from HM.out)) a 8
    have hE : E = Ent.say P lv := by
      have h1 : rdM M a = some P := by
        cases h : rdM M a with
        | none => obtain ⟨q, hq⟩ := HRD.out.1.1 h; rw [← HF.out] at hq; cases hq
        | some e => rw [(HRD.out.2 e h).2, HP.out, ← HF.out]; rfl
      rw [HE.out, entM, ← HAE.out, h1]
    have HPC := Lib.hid (entry_any P lv w3 hP64 hl)
    rw [← hE] at HPC
    obtain ⟨⟨F0, t0, b0, v0, x0⟩, n0⟩ := E
    unfold eVal at HPC
    simp only at HPC
    simp only [fno] at f0
    clear hE hP64 HE HRD
    go_upto_region 4 with fail
    go_wp2_with (go_at_call 80; refine HPC.out.mono ?_; rintro en w4 ⟨rfl, hb4⟩; have HB4 := Lib.hid hb4; have HRA4 := Lib.hid (HRA3.out.below hb4 HRA3.out.lt); clear hb4; have r0 := HRA4.out.cell 0; have r1 := HRA4.out.cell 1; have r2 := HRA4.out.cell 2; have r3 := HRA4.out.cell 3; have r4 := HRA4.out.cell 4; have lb := HRA4.out.lt; have s0 := HRA4.out.frozen 0; have s1 := HRA4.out.frozen 1; have s2 := HRA4.out.frozen 2; have s3 := HRA4.out.frozen 3; have s4 := HRA4.out.frozen 4; simp only [List.getElem?_cons_zero, List.getElem?_cons_succ] at r0 r1 r2 r3 r4)
    have hrz := ((((HRA4.out.set_ 0 (.int .u64 (F0 : Nat))).set_ 1 (.bool t0)).set_ 2 (.bool b0)).set_ 3 (.bool v0)).set_ 4 (.bool x0)
    have z0 := hrz.cell 0
    have z1 := hrz.cell 1
    have z2 := hrz.cell 2
    have z3 := hrz.cell 3
    have z4 := hrz.cell 4
    simp only [List.set_cons_zero, List.set_cons_succ, List.getElem?_cons_zero, List.getElem?_cons_succ] at z0 z1 z2 z3 z4
    refine bodyPost_ret (v := .tuple #[eVal ⟨F0, t0, b0, v0, x0⟩, .int .i64 (n0 : Nat)]) (by simp [results, Tryz.results60, go_sem, eVal, z0, z1, z2, z3, z4]) rfl ⟨rfl, (HQ3.out.below (stape_i B g) HB4.out).chg (stape_i B g) (Y := fun k => k = c) ?_ (show STape B g Z R w M from HM.out) (fun k hk => by rw [show k = c from hk]; exact HCW.out)⟩
    exact (((((ChgP.refl (fun k => k = c) w4).set_ (p := ⟨c, 0, none⟩) (.inl rfl) _).set_ (p := ⟨c, 1, none⟩) (.inl rfl) _).set_ (p := ⟨c, 2, none⟩) (.inl rfl) _).set_ (p := ⟨c, 3, none⟩) (.inl rfl) _).set_ (p := ⟨c, 4, none⟩) (.inl rfl) _
theorem pk1_tape (B g : Nat) : Pk1C 119 (tapeV g) (STape B g) := by
  intro Z R w M a hm hs ha
  refine ⟨peekV M a 1 (offF M a 1), fno (offF M a 1), (offF M a 1).getD 0, fun h => ?_, fun h => ?_, ?_, (tpeek_any hm.1 a 1 (by omega) ha).mono fun e w' hh => ⟨by rw [hh.1, faultV_eq], ?_⟩⟩
  · rw [offF_one, if_pos h]; exact ⟨rfl, numB_one _ _⟩
  · rw [offF_one, if_neg (by rw [h]; decide)]; rfl
  · rw [offF_one]
    split
    · show numB M.mem a 1 ≤ TOP
      rw [numB_one]; have := hm.1.byte a; unfold TOP; omega
    · show 0 ≤ TOP; exact Nat.zero_le _
  · obtain ⟨s, h1, h2, h3⟩ := stray_sM M (offF M a 1)
    obtain ⟨h4, h5⟩ := tp_quiet hm hh.2.1 hh.2.2
    rw [h3] at h4
    exact ⟨s, h1, fun h => h2 (by rw [offF_one, if_pos h]), h4, h5⟩
theorem ld1_tape (B g : Nat) : Ld1C 118 (tapeV g) (STape B g) := by
  intro Z R w M a hm hs hl ha ho
  have hn : offF M a 1 = none := by rw [offF_one, if_pos ho]
  refine (tload_any hm.1 a 1 (by omega) ha).mono fun e w' hh => ⟨?_, ?_⟩
  · rw [hh.1, hn]
    show Ending.returned (.tuple #[.int .u64 (numB M.mem a 1 : Nat), _]) = _
    rw [numB_one]; rfl
  · have h := hh.2
    rw [hn] at h
    exact tp_quiet hm h.1 h.2
theorem st1_tape (B g : Nat) : St1C 120 (tapeV g) (STape B g) := by
  intro Z R w M a v hm hs hst ha hv ho
  have hn : offF M a 1 = none := by rw [offF_one, if_pos ho]
  refine (tstore_any hm.1 a 1 v (by omega) ha hv).mono fun e w' hh => ⟨by rw [hh.1, hn]; rfl, ?_⟩
  obtain ⟨Z', h1, h2, h3⟩ := hh.2
  rw [hn, laid1_st1] at h1
  exact ⟨Z', ⟨h1, hm.2.1, fun k hk => Nat.lt_of_lt_of_le (hm.2.2 k hk) h2.size⟩, h2, h3⟩
theorem tape_load (g n : Nat) (wx : World) : (method (n + 1) 39 (.agg #[.pointer (some ⟨g, 0, none⟩)]) "Load").run Tryz.prog wx = .ok (118, .agg #[.pointer (some ⟨g, 0, none⟩)]) wx := by kernel_rfl
theorem tape_store (g n : Nat) (wx : World) : (method (n + 1) 39 (.agg #[.pointer (some ⟨g, 0, none⟩)]) "Store").run Tryz.prog wx = .ok (120, .agg #[.pointer (some ⟨g, 0, none⟩)]) wx := by kernel_rfl
theorem tape_ahead (g n : Nat) (wx : World) : (nilAhead (n + 1) 39 (.agg #[.pointer (some ⟨g, 0, none⟩)]) "Store").run Tryz.prog wx = .ok (some false) wx := by kernel_rfl
set_option maxRecDepth 100000 in
set_option maxHeartbeats 1000000 in
theorem reach_tape (B g : Nat) (hT : TrC 39 (tapeV g) (STape B g)) (hP : Pk1C 119 (tapeV g) (STape B g)) {Z R : Nat → Prop} {w : World} {M : PM} (root virt n : Nat) (access : Int) (hk : n = 1 ∨ n = 2 ∨ n = 4 ∨ n = 8) (hm : STape B g Z R w M) (hs : True) (hr : root ≤ TOP) (hv : virt ≤ TOP) :
    Calls Tryz.prog 44 #[.iface 39 (tapeV g), .int .u64 (root : Nat), .int .u64 (virt : Nat), .int .i64 (n : Nat), .int .i64 access] w (ReachS (STape B g) Z R w M (atL M root virt access n) (accF M root virt access n)) := by
  have hS := stape_i B g
  have hmp := tape_peek g
  unfold tapeV at *
  have HM := Lib.hid hm; have HS := Lib.hid hs; have HSI := Lib.hid hS; have HT := Lib.hid hT; have HP := Lib.hid hP; have HK := Lib.hid hk
  have HRT := Lib.hid hr; have HVT := Lib.hid hv
  have hn8 : n ≤ 8 := by omega
  have hv64 : virt ≤ 18446744073709551615 := hv
  have hnil : ∀ wx : World, (binOp .eql 69 (.iface 39 (.agg #[.pointer (some ⟨g, 0, none⟩)])) .nilIface).run Tryz.prog wx = .ok (.bool false) wx := fun wx => by rfl
  have hmk := run_make_row' (P := Tryz.prog) 102 31 (.int .u64 0) 8 Tryz.underlying102 infoU64 rfl .i64 .i64 n (by omega) (by omega)
  obtain ⟨p, hp⟩ : ∃ p : Nat → Nat, p = fun i => (trI M root (virt + i) access).1 := ⟨_, rfl⟩
  rw [madeCells_one, ← rowP_zero p n] at hmk
  obtain ⟨Z0, hZ0⟩ : ∃ Z0, Z0 = rowP p n 0 := ⟨_, rfl⟩
  rw [← hZ0] at hmk
  have HZ0 := Lib.hid hZ0
  have HPE := Lib.hid hp
  clear hm hs hS hT hP hk hr hv hZ0 hp
  go_enter Tryz.func44, Tryz.ntmps44
  go_upto_block 0 with fail
  have r0 := Row.new w 57 [.int .i64 0, .int .u64 0]
  have hb0 : Below w.heap.size w (w.alloc (.cells #[.int .i64 0, .int .u64 0] 57)) := (Below.refl _ _).alloc (Nat.le_refl _) _
  obtain ⟨c, hc⟩ : ∃ c, c = w.heap.size := ⟨_, rfl⟩
  generalize w.alloc (.cells #[.int .i64 0, .int .u64 0] 57) = w1 at *
  rw [← hc] at r0 ⊢
  have HC := Lib.hid hc; have HB := Lib.hid hb0; have HR := Lib.hid r0
  clear r0 hb0 hc
  go_cut [] (fun wx => w1 = wx)
  case first =>
    rcases HK.out with rfl | rfl | rfl | rfl
    all_goals
      go_wp2_with fail
      go_meet
      case rel => rfl
  case rest =>
  obtain rfl := hcut
  go_upto_region 10 with fail
  have hrb := Row.new w1 31 Z0
  have hb1 : Below w1.heap.size w1 (w1.alloc (.cells Z0.toArray 31)) := (Below.refl _ _).alloc (Nat.le_refl _) _
  have HRC := Lib.hid (HR.out.alloc (.cells Z0.toArray 31))
  obtain ⟨bb, hbb⟩ : ∃ bb, bb = w1.heap.size := ⟨_, rfl⟩
  generalize w1.alloc (.cells Z0.toArray 31) = w2 at *
  rw [← hbb] at hrb ⊢
  have HI0 : Hid (RI (STape B g) Z R w M c bb p n 0 w2) := Lib.hid ⟨HSI.out.below HM.out (HB.out.trans (hb1.mono HB.out.size)), ChgP.of_below (HB.out.trans (hb1.mono HB.out.size)), by rw [← HZ0.out]; exact hrb, HRC.out, by rw [hbb]; exact HB.out.size, by rw [HC.out]; exact Nat.le_refl _⟩
  clear hrb hb1 hbb HRC HR HB hmk HZ0
  go_wp2_with fail
  go_loopw [36] (fun x wr => ∃ i : Nat, i ≤ n ∧ x = .int .i64 (i : Nat) ∧ Hid (∀ j, j < i → (trI M root (virt + j) access).2 = 0) ∧ Hid (RI (STape B g) Z R w M c bb p n i wr)) (fun x _ => n - (intOf x).toNat)
  case atStart => exact ⟨0, by omega, rfl, Lib.hid (fun j h => absurd h (by omega)), HI0⟩
  case round =>
  clear HI0
  obtain ⟨i, hi, rfl, HOK, HI⟩ := hrel
  by_cases hin : i < n
  · obtain ⟨vi, hvi⟩ : ∃ vi, vi = virt + i := ⟨_, rfl⟩
    have e1 : (virt : Int) + (i : Int) = (vi : Int) := by omega
    have hvt : vi ≤ 18446744073709551615 := by
      rcases Nat.eq_zero_or_pos i with h0 | h0
      · omega
      · have := trI_hole (HOK.out 0 h0); omega
    have HVI := Lib.hid hvi
    have HTC := Lib.hid (HT.out Z R wr M root vi access HI.out.s HS.out HRT.out hvt)
    obtain ⟨⟨q, no⟩, hG⟩ : ∃ G, G = trI M root vi access := ⟨_, rfl⟩
    rw [← hG] at HTC
    have HG := Lib.hid hG
    have hq33 : q < 8589934592 ∧ no ≤ 44 := by have := @trI_lt M root vi access; rw [← hG] at this; exact this
    have HQ33 := Lib.hid hq33
    simp only at HTC
    clear hvi hG hq33
    go_upto_region 13 with fail
    by_cases h0 : no = 0
    · subst h0
      rw [show flt 0 vi = .agg #[.int .i64 0, .int .u64 0] from rfl] at HTC
      go_upto_region 14 with (go_at_call 21; refine HTC.out.mono ?_; rintro e w3 ⟨rfl, hq3⟩; have HI3 := Lib.hid (HI.out.asked hq3 (by decide) HSI.out HM.out); clear hq3)
      have hrf := Row.new w3 57 [.int .i64 0, .int .u64 0]
      have HI4 := Lib.hid (HI3.out.below HSI.out ((Below.refl _ _).alloc (Nat.le_refl _) (.cells #[.int .i64 0, .int .u64 0] 57)) HM.out)
      obtain ⟨cf, hcf⟩ : ∃ cf, cf = w3.heap.size := ⟨_, rfl⟩
      generalize w3.alloc (.cells #[.int .i64 0, .int .u64 0] 57) = w4 at *
      rw [← hcf] at hrf ⊢
      have f0 := hrf.cell 0
      have lf := hrf.lt
      simp only [List.getElem?_cons_zero, List.getElem?_cons_succ] at f0
      have b0 := HI4.out.rb.cell i
      rw [rowP_get _ _ _ _ hin, if_neg (Nat.lt_irrefl i)] at b0
      unfold u64v at b0
      have bz := HI4.out.rb.frozen i
      have lb := HI4.out.rb.lt
      have hpq : p i = q := by rw [HPE.out]; show (trI M root (virt + i) access).1 = q; rw [← HVI.out, ← HG.out]
      have HI5 := Lib.hid (HI4.out.set hin HSI.out HM.out)
      rw [hpq] at HI5
      unfold u64v at HI5
      have HOK' : Hid (∀ j, j < i + 1 → (trI M root (virt + j) access).2 = 0) := Lib.hid (fun j hj => by
        rcases Nat.lt_or_ge j i with h | h
        · exact HOK.out j h
        · obtain rfl : j = i := by omega
          rw [← HVI.out, ← HG.out])
      clear hrf hcf HI4 HI3 HI HTC hpq
      go_wp2_with fail
      go_roundw
      case rel => exact ⟨i + 1, by omega, by go_num, HOK', HI5⟩
      case measure => simp [intOf]; omega
    · have hF : flt no vi = .agg #[.int .i64 (no : Nat), .int .u64 (vi : Nat)] := by unfold flt; rw [if_neg h0]; rfl
      have HFL := Lib.hid hF
      rw [hF] at HTC
      have f1 : ((no : Int) != 0) = true := by simp; omega
      have HN0 := Lib.hid h0
      clear hF h0
      go_upto_region 14 with (go_at_call 21; refine HTC.out.mono ?_; rintro e w3 ⟨rfl, hq3⟩; have HRC3 := Lib.hid ((show ChgP Z wr w3 from hq3.choose_spec.2.2.2).row HI.out.rc (fun h => by have := HSI.out.z HM.out _ h; have := HC.out; omega)); have HQ3 := Lib.hid (hq3.pre HI.out.ch); clear hq3)
      have hrf := Row.new w3 57 [.int .i64 (no : Nat), .int .u64 (vi : Nat)]
      have HQ4 := Lib.hid (HQ3.out.below HSI.out ((Below.refl _ _).alloc (Nat.le_refl _) (.cells #[.int .i64 (no : Nat), .int .u64 (vi : Nat)] 57)))
      have HRC4 := Lib.hid (HRC3.out.alloc (.cells #[.int .i64 (no : Nat), .int .u64 (vi : Nat)] 57))
      obtain ⟨cf, hcf⟩ : ∃ cf, cf = w3.heap.size := ⟨_, rfl⟩
      generalize w3.alloc (.cells #[.int .i64 (no : Nat), .int .u64 (vi : Nat)] 57) = w4 at *
      rw [← hcf] at hrf ⊢
      have f0 := hrf.cell 0
      have f2 := hrf.cell 1
      have lf := hrf.lt
      have q0 := HRC4.out.cell 0
      have q1 := HRC4.out.cell 1
      have la := HRC4.out.lt
      have a0 := HRC4.out.frozen 0
      have a1 := HRC4.out.frozen 1
      simp only [List.getElem?_cons_zero, List.getElem?_cons_succ] at f0 f2 q0 q1
      have HAC : Hid (accF M root virt access n = (no, vi)) := Lib.hid (by
        have h1 := accF_tr (M := M) (root := root) (virt := virt) (access := access) hin (by rw [← HVI.out, ← HG.out]; exact HN0.out) HOK.out
        rw [← HVI.out, ← HG.out] at h1
        exact h1)
      clear hrf hcf HRC3 HQ3 HTC
      go_upto_region 15 with fail
      go_still_tail 2, (by kernel_rfl)
      change wpList _ _ _ _ _ w4.drew
      have HY0 := Lib.hid ((HRC4.out.set_ 0 (.int .i64 (no : Nat))).cell 0)
      have HY1 := Lib.hid (((HRC4.out.set_ 0 (.int .i64 (no : Nat))).set_ 1 (.int .u64 (vi : Nat))).cell 1)
      simp only [List.set_cons_zero, List.set_cons_succ, List.getElem?_cons_zero, List.getElem?_cons_succ] at HY0 HY1
      go_wp2_with fail
      refine bodyPost_ret (v := .tuple #[.slice none 0 0, .agg #[.int .i64 (no : Nat), .int .u64 (vi : Nat)]]) (by simp [results, Tryz.results44, go_sem, HY0.out, HY1.out]) rfl ?_
      rw [HAC.out]
      refine ⟨fun h => absurd h HN0.out, fun _ => by rw [HFL.out], (HQ4.out.imp (fun h => h.1)).chg HSI.out (Y := fun k => k = c) ?_ HM.out (fun k hk => by rw [show k = c from hk, HC.out]; exact Nat.le_refl _)⟩
      exact ((ChgP.refl (fun k => k = c) w4).drew.set_ (p := ⟨c, 0, none⟩) (.inl rfl) _).set_ (p := ⟨c, 1, none⟩) (.inl rfl) _
  · have ei : i = n := by omega
    subst ei
    go_wp2_with fail
    go_loopw [61] (fun x wr => ∃ j : Nat, j ≤ i ∧ x = .int .i64 (j : Nat) ∧ Hid (∀ k, k < j → onM M (p k) = true) ∧ Hid (RI (STape B g) Z R w M c bb p i i wr)) (fun x _ => i - (intOf x).toNat)
    case atStart => exact ⟨0, by omega, rfl, Lib.hid (fun k h => absurd h (by omega)), HI⟩
    case round =>
    clear HI
    obtain ⟨j, hj, rfl, HON, HI⟩ := hrel
    by_cases hji : j < i
    · obtain ⟨a, ha⟩ : ∃ a, a = p j := ⟨_, rfl⟩
      have ha64 : a ≤ 18446744073709551615 := by rw [ha, HPE.out]; have := (@trI_lt M root (virt + j) access).1; show (trI M root (virt + j) access).1 ≤ _; omega
      obtain ⟨x, f0, f1, hx1, hx2, hx3, hpc⟩ := HP.out Z R wr M a HI.out.s HS.out ha64
      have HPC := Lib.hid hpc
      have HX1 := Lib.hid hx1; have HX2 := Lib.hid hx2
      have b0 := HI.out.rb.cell j
      rw [rowP_get _ _ _ _ hji, if_pos hji, ← ha] at b0
      unfold u64v at b0
      have lb := HI.out.rb.lt
      have HA := Lib.hid ha
      clear hpc hx1 hx2 ha
      have HRC0 := Lib.hid HI.out.rc
      go_upto_region 22 with (go_at_call 119; refine HPC.out.mono ?_; rintro e w3 ⟨rfl, hq3⟩; have HQ3 := Lib.hid hq3; clear hq3)
      have HRC3 := Lib.hid ((show ChgP Z wr w3 from HQ3.out.choose_spec.2.2.2).row HRC0.out (fun h => by have := HSI.out.z HM.out _ h; have := HC.out; omega))
      have hrf := Row.new w3 57 [.int .i64 (f0 : Nat), .int .u64 (f1 : Nat)]
      have HB4 : Hid (Below w3.heap.size w3 (w3.alloc (.cells #[.int .i64 (f0 : Nat), .int .u64 (f1 : Nat)] 57))) := Lib.hid ((Below.refl _ _).alloc (Nat.le_refl _) _)
      have HRC4 := Lib.hid (HRC3.out.alloc (.cells #[.int .i64 (f0 : Nat), .int .u64 (f1 : Nat)] 57))
      obtain ⟨cf, hcf⟩ : ∃ cf, cf = w3.heap.size := ⟨_, rfl⟩
      generalize w3.alloc (.cells #[.int .i64 (f0 : Nat), .int .u64 (f1 : Nat)] 57) = w4 at *
      rw [← hcf] at hrf ⊢
      have g0 := hrf.cell 0
      have lf := hrf.lt
      simp only [List.getElem?_cons_zero, List.getElem?_cons_succ] at g0
      clear hrf hcf b0 lb HRC0 HRC3
      cases ho : onM M a with
      | true =>
        have hz := (HX1.out ho).1
        subst hz
        have HI4 := Lib.hid ((HI.out.asked HQ3.out ho HSI.out HM.out).below HSI.out HB4.out HM.out)
        have HON' : Hid (∀ k, k < j + 1 → onM M (p k) = true) := Lib.hid (fun k hk => by
          rcases Nat.lt_or_ge k j with h | h
          · exact HON.out k h
          · obtain rfl : k = j := by omega
            rw [← HA.out]; exact ho)
        clear ho
        go_wp2_with fail
        go_roundw
        case rel => exact ⟨j + 1, by omega, by go_num, HON', HI4⟩
        case measure => simp [intOf]; omega
      | false =>
        have hz := HX2.out ho
        subst hz
        obtain ⟨vj, hvj⟩ : ∃ vj, vj = virt + j := ⟨_, rfl⟩
        have e1 : (virt : Int) + (j : Int) = (vj : Int) := by omega
        have hvt : vj ≤ 18446744073709551615 := by have := trI_hole (HOK.out j hji); omega
        have HAC : Hid (accF M root virt access i = (30, vj)) := Lib.hid (by
          rw [hvj]
          refine accF_bus hji HOK.out ?_ (fun k hk => ?_)
          · have h1 := HA.out; rw [HPE.out] at h1; rw [← show a = (trI M root (virt + j) access).1 from h1]; exact ho
          · have h1 := HON.out k hk; rw [HPE.out] at h1; exact h1)
        have HQ4 := Lib.hid ((HQ3.out.below HSI.out HB4.out).pre HI.out.ch)
        have q0 := HRC4.out.cell 0
        have q1 := HRC4.out.cell 1
        have la := HRC4.out.lt
        have a0 := HRC4.out.frozen 0
        have a1 := HRC4.out.frozen 1
        simp only [List.getElem?_cons_zero, List.getElem?_cons_succ] at q0 q1
        have HY0 := Lib.hid ((HRC4.out.set_ 0 (.int .i64 30)).cell 0)
        have HY1 := Lib.hid (((HRC4.out.set_ 0 (.int .i64 30)).set_ 1 (.int .u64 (vj : Nat))).cell 1)
        simp only [List.set_cons_zero, List.set_cons_succ, List.getElem?_cons_zero, List.getElem?_cons_succ] at HY0 HY1
        have HO := Lib.hid ho
        clear ho hvj
        go_wp2_with fail
        refine bodyPost_ret (v := .tuple #[.slice none 0 0, .agg #[.int .i64 30, .int .u64 (vj : Nat)]]) (by simp [results, Tryz.results44, go_sem, HY0.out, HY1.out]) rfl ?_
        rw [HAC.out]
        refine ⟨fun h => absurd h (by show ¬ (30 : Nat) = 0; decide), fun _ => rfl, (HQ4.out.imp (fun h => absurd rfl h.2)).chg HSI.out (Y := fun k => k = c) ?_ HM.out (fun k hk => by rw [show k = c from hk, HC.out]; exact Nat.le_refl _)⟩
        exact ((ChgP.refl (fun k => k = c) w4).set_ (p := ⟨c, 0, none⟩) (.inl rfl) _).set_ (p := ⟨c, 1, none⟩) (.inl rfl) _
    · have ej : j = i := by omega
      subst ej
      have HAC : Hid (accF M root virt access j = (0, 0)) := Lib.hid (accF_ok HOK.out (fun k hk => by have h1 := HON.out k hk; rw [HPE.out] at h1; exact h1))
      have HRC4 := Lib.hid HI.out.rc
      have q0 := HRC4.out.cell 0
      have q1 := HRC4.out.cell 1
      have la := HRC4.out.lt
      have a0 := HRC4.out.frozen 0
      have a1 := HRC4.out.frozen 1
      simp only [List.getElem?_cons_zero, List.getElem?_cons_succ] at q0 q1
      have HY0 := Lib.hid ((HRC4.out.set_ 0 (.int .i64 0)).cell 0)
      have HY1 := Lib.hid (((HRC4.out.set_ 0 (.int .i64 0)).set_ 1 (.int .u64 0)).cell 1)
      simp only [List.set_cons_zero, List.set_cons_succ, List.getElem?_cons_zero, List.getElem?_cons_succ] at HY0 HY1
      have HLN : Hid ((atL M root virt access j).length = j) := Lib.hid (by simp [atL])
      have HRW : Hid (rowP p j j = (atL M root virt access j).map u64v) := Lib.hid (by rw [rowP_full, HPE.out]; rfl)
      have HNE : Hid (bb ≠ c) := Lib.hid (Row.ne_t HI.out.rb HI.out.rc (by decide))
      go_wp2_with fail
      have hc2 : ChgP (fun k => k = c) wr ((wr.setCell ⟨c, 0, none⟩ (.int .i64 0)).setCell ⟨c, 1, none⟩ (.int .u64 0)) := ((ChgP.refl (fun k => k = c) wr).set_ (p := ⟨c, 0, none⟩) (.inl rfl) _).set_ (p := ⟨c, 1, none⟩) (.inl rfl) _
      refine bodyPost_ret (v := .tuple #[.slice (some ⟨bb, 0, none⟩) j j, .agg #[.int .i64 0, .int .u64 0]]) (by simp [results, Tryz.results44, go_sem, HY0.out, HY1.out]) rfl ?_
      rw [HAC.out]
      refine ⟨fun _ => ⟨bb, by rw [HLN.out]; rfl, HI.out.bw, ?_⟩, fun h => absurd rfl h, ((QuS.refl HI.out.s).pre HI.out.ch).chg HSI.out hc2 HM.out (fun k hk => by rw [show k = c from hk, HC.out]; exact Nat.le_refl _)⟩
      rw [← HRW.out]
      exact hc2.row HI.out.rb HNE.out
set_option maxRecDepth 100000 in
set_option maxHeartbeats 1000000 in
theorem take_tape (B g : Nat) {Z R : Nat → Prop} {w : World} {M : PM} (root virt : Nat) (z access : Int) (at_ : List Nat) (f : Nat × Nat)
    (hR : ∀ wx, STape B g Z R wx M → Calls Tryz.prog 44 #[.iface 39 (tapeV g), .int .u64 (root : Nat), .int .u64 (virt : Nat), .int .i64 z, .int .i64 access] wx (ReachS (STape B g) Z R wx M at_ f))
    (hL : Ld1C 118 (tapeV g) (STape B g)) (hm : STape B g Z R w M) (hs : True) (hl : True) (h8 : at_.length ≤ 8) (hon : f.1 = 0 → ∀ a ∈ at_, onM M a = true ∧ a ≤ TOP) :
    Calls Tryz.prog 35 #[.iface 39 (tapeV g), .int .u64 (root : Nat), .int .u64 (virt : Nat), .int .i64 z, .int .i64 access] w (TakeS (STape B g) Z R w M at_ f) := by
  have hS := stape_i B g
  have hmp := tape_load g
  unfold tapeV at *
  have HM := Lib.hid hm; have HS := Lib.hid hs; have HL := Lib.hid hl; have HSI := Lib.hid hS; have HLC := Lib.hid hL; have HON := Lib.hid hon; have H8 := Lib.hid h8
  have HR := Lib.hid hR
  have HZL : Hid (∀ k, Z k → k < w.heap.size) := Lib.hid (hS.z hm)
  clear hm hs hl hS hL hon h8 hR
  go_enter Tryz.func35, Tryz.ntmps35
  go_upto_region 1 with fail
  have r0 := Row.new w 57 [.int .i64 0, .int .u64 0]
  have hb0 : Below w.heap.size w (w.alloc (.cells #[.int .i64 0, .int .u64 0] 57)) := (Below.refl _ _).alloc (Nat.le_refl _) _
  obtain ⟨c, hc⟩ : ∃ c, c = w.heap.size := ⟨_, rfl⟩
  generalize w.alloc (.cells #[.int .i64 0, .int .u64 0] 57) = w1 at *
  rw [← hc] at r0 ⊢
  have HC := Lib.hid hc; have HB := Lib.hid hb0; have HRC := Lib.hid r0
  have HR1 := Lib.hid (HR.out w1 (HSI.out.below HM.out hb0))
  clear r0 hb0 hc HR
  obtain ⟨F0, hF0⟩ : ∃ F0, F0 = f.1 := ⟨_, rfl⟩
  obtain ⟨F1, hF1⟩ : ∃ F1 : Nat, F1 = if f.1 = 0 then 0 else f.2 := ⟨_, rfl⟩
  have HFL : Hid (flt f.1 f.2 = .agg #[.int .i64 (F0 : Nat), .int .u64 (F1 : Nat)]) := Lib.hid (by rw [flt_agg, hF0, hF1])
  clear hF0 hF1
  go_upto_region 2 with (go_at_call 44; refine HR1.out.mono ?_; intro e w2 hrs; obtain ⟨A, l, bb, rfl, hl, ha, hq⟩ := hrs.open_; rw [HFL.out]; have HLE := Lib.hid hl; have HA := Lib.hid ha; have HQ := Lib.hid hq; clear hl ha hq hrs)
  obtain ⟨s, hs1, hs0, hs2, hs3⟩ := HQ.out
  have HS1 := Lib.hid hs1; have HS0 := Lib.hid hs0
  have HLL : Hid (l.length ≤ 8) := Lib.hid (by rw [HLE.out]; split; exact H8.out; exact Nat.zero_le _)
  have hm8 : l.length ≤ 8 := HLL.out
  have HRC2 := Lib.hid (hs3.row HRC.out (fun h => by have := HZL.out _ h; have := HC.out; omega))
  have HD2 : Hid (STape B g Z R w2 (ldM M s 0)) := Lib.hid hs2
  have HCH2 : Hid (ChgP Z w w2) := Lib.hid ((ChgP.of_below (Z := Z) HB.out).trans hs3 (fun x hx => .inl hx))
  have HA2 : Hid (0 < l.length → A = some ⟨bb, 0, none⟩ ∧ w.heap.size ≤ bb ∧ Row w2 bb 31 (l.map u64v)) := Lib.hid (fun h => ⟨(HA.out h).1, Nat.le_trans HB.out.size (HA.out h).2.1, (HA.out h).2.2⟩)
  clear hs1 hs0 hs2 hs3 HQ HR1 HB HRC HA
  have hr3 := Row.new w2 57 [.int .i64 (F0 : Nat), .int .u64 (F1 : Nat)]
  have hb3 : Below w2.heap.size w2 (w2.alloc (.cells #[.int .i64 (F0 : Nat), .int .u64 (F1 : Nat)] 57)) := (Below.refl _ _).alloc (Nat.le_refl _) _
  obtain ⟨c3, hc3⟩ : ∃ c3, c3 = w2.heap.size := ⟨_, rfl⟩
  generalize w2.alloc (.cells #[.int .i64 (F0 : Nat), .int .u64 (F1 : Nat)] 57) = w3 at *
  rw [← hc3] at hr3 ⊢
  have HR3 := Lib.hid hr3; have HB3 := Lib.hid hb3; have HC3 := Lib.hid hc3
  clear hr3 hb3 hc3
  go_upto_region 3 with fail
  have hr8 := Row.new w3 132 [.int .u8 0, .int .u8 0, .int .u8 0, .int .u8 0, .int .u8 0, .int .u8 0, .int .u8 0, .int .u8 0]
  have hb4 : Below w3.heap.size w3 (w3.alloc (.cells #[.int .u8 0, .int .u8 0, .int .u8 0, .int .u8 0, .int .u8 0, .int .u8 0, .int .u8 0, .int .u8 0] 132)) := (Below.refl _ _).alloc (Nat.le_refl _) _
  have HR34 := Lib.hid (HR3.out.alloc (.cells #[.int .u8 0, .int .u8 0, .int .u8 0, .int .u8 0, .int .u8 0, .int .u8 0, .int .u8 0, .int .u8 0] 132))
  obtain ⟨b8, hb8⟩ : ∃ b8, b8 = w3.heap.size := ⟨_, rfl⟩
  generalize w3.alloc (.cells #[.int .u8 0, .int .u8 0, .int .u8 0, .int .u8 0, .int .u8 0, .int .u8 0, .int .u8 0, .int .u8 0] 132) = w4 at *
  rw [← hb8] at hr8 ⊢
  have hb24 : Below w2.heap.size w2 w4 := HB3.out.trans (hb4.mono HB3.out.size)
  have HI0 : Hid (TI (STape B g) Z R w M s c c3 b8 A bb l F0 F1 0 w4) := Lib.hid ⟨HSI.out.below HD2.out hb24, HCH2.out.trans (ChgP.of_below (Z := Z) hb24) (fun x hx => .inl hx), hr8, fun h => ⟨(HA2.out h).1, (HA2.out h).2.2.below hb24 (HA2.out h).2.2.lt, (HA2.out h).2.1⟩, HRC2.out.below hb24 HRC2.out.lt, HR34.out, by rw [hb8]; exact Nat.le_trans HCH2.out.size HB3.out.size, by rw [HC.out]; exact Nat.le_refl _, by rw [HC3.out]; exact HCH2.out.size⟩
  clear hr8 hb4 hb8 hb24 HR34 HR3 HB3 HA2 HCH2 HD2 HRC2 HC3
  obtain ⟨m, hm⟩ : ∃ m, m = l.length := ⟨_, rfl⟩
  rw [← hm] at hm8 ⊢
  have HML := Lib.hid hm
  clear hm
  go_wp2_with fail
  go_loopw [32] (fun x wr => ∃ i : Nat, i ≤ m ∧ x = .int .i64 (i : Nat) ∧ Hid (TI (STape B g) Z R w M s c c3 b8 A bb l F0 F1 i wr)) (fun x _ => m - (intOf x).toNat)
  case atStart => exact ⟨0, by omega, rfl, HI0⟩
  case round =>
  clear HI0
  obtain ⟨i, hi, rfl, HI⟩ := hrel
  by_cases him : i < m
  · have HF0 : Hid (f.1 = 0 ∧ l = at_) := Lib.hid (by
      by_cases h : f.1 = 0
      · exact ⟨h, by rw [HLE.out, if_pos h]⟩
      · have h1 := HML.out; rw [HLE.out, if_neg h] at h1; simp at h1; omega)
    obtain ⟨a, ha⟩ : ∃ a, l[i]? = some a := ⟨_, List.getElem?_eq_getElem (by have := HML.out; omega)⟩
    have hon := HON.out HF0.out.1 a (by rw [← HF0.out.2]; exact List.mem_of_getElem? ha)
    have HLC1 := Lib.hid (HLC.out Z R wr (ldM M s i) a HI.out.s trivial trivial hon.2 hon.1)
    obtain ⟨hA, hra, hbw⟩ := HI.out.ra (by have := HML.out; omega)
    subst hA
    have b0 := hra.cell i
    rw [List.getElem?_map, ha, Option.map_some] at b0
    unfold u64v at b0
    have lb := hra.lt
    obtain ⟨x, hx⟩ : ∃ x, x = (ldM M s i).mem a := ⟨_, rfl⟩
    rw [← hx] at HLC1
    have hx8 : x < 256 := by rw [hx]; exact (stape_i B g).byte (show STape B g Z R wr _ from HI.out.s) a
    have HXE : Hid ((l.map M.mem).getD i 0 = x) := Lib.hid (by rw [hx, List.getD_eq_getElem?_getD, List.getElem?_map, ha]; rfl)
    have HAL := Lib.hid ha
    have i8 : i < 8 := by omega
    have e8 : (x : Int) % 256 = (x : Int) := by omega
    clear hra ha hx hon
    go_upto_region 6 with fail
    go_upto_region 7 with (go_at_call 118; refine HLC1.out.mono ?_; rintro e w5 ⟨rfl, hs5, hc5⟩; have HT := Lib.hid (HI.out.loaded HSI.out HZL.out hs5 hc5); clear hs5 hc5)
    have hb6 : Below w5.heap.size w5 (w5.alloc (.cells #[.int .i64 0, .int .u64 0] 57)) := (Below.refl _ _).alloc (Nat.le_refl _) _
    generalize w5.alloc (.cells #[.int .i64 0, .int .u64 0] 57) = w6 at *
    obtain ⟨t1, t2, t3, t4, t5, t6⟩ := HT.out
    have HR8 := Lib.hid (t3.below hb6 t3.lt)
    have hc7 : ChgP (fun k => k = b8) w6 (w6.setCell ⟨b8, i, none⟩ (.int .u8 (x : Nat))) := (ChgP.refl (fun k => k = b8) w6).set_ (p := ⟨b8, i, none⟩) (.inl rfl) _
    have HI7 : Hid (TI (STape B g) Z R w M s c c3 b8 (some ⟨bb, 0, none⟩) bb l F0 F1 (i + 1) (w6.setCell ⟨b8, i, none⟩ (.int .u8 (x : Nat)))) := Lib.hid ⟨HSI.out.chg (HSI.out.below t1 hb6) hc7 (fun k hk hy => by
        have e : k = b8 := hy
        have := HI.out.bw
        rcases hk with hk | hk
        · have := HZL.out k hk; omega
        · have := HSI.out.r HM.out k hk; omega), (t2.trans (ChgP.of_below (Z := Z) hb6) (fun x hx => .inl hx)).trans hc7 (fun k hk => .inr (by rw [show k = b8 from hk]; exact HI.out.bw)), by
        have h1 := b8L_set (fun j => (l.map M.mem).getD j 0) i i8
        simp only [HXE.out] at h1
        rw [← h1]
        exact HR8.out.set_ i _, fun h => ⟨rfl, hc7.row ((t4 h).2.1.below hb6 (t4 h).2.1.lt) (Row.ne_t ((t4 h).2.1.below hb6 (t4 h).2.1.lt) HR8.out (by decide)), hbw⟩, hc7.row (t5.below hb6 t5.lt) (Row.ne_t (t5.below hb6 t5.lt) HR8.out (by decide)), hc7.row (t6.below hb6 t6.lt) (Row.ne_t (t6.below hb6 t6.lt) HR8.out (by decide)), HI.out.bw, HI.out.cw, HI.out.c3w⟩
    obtain ⟨y, y0⟩ : ∃ y, w6.cell? ⟨b8, i, none⟩ = some y := ⟨_, by rw [HR8.out.cell, List.getElem?_map, List.getElem?_eq_getElem (by rw [b8L_len]; exact i8)]; rfl⟩
    have yf := HR8.out.frozen i
    have ly := HR8.out.lt
    clear t1 t2 t3 t4 t5 t6 hb6 hc7 hbw b0 lb HT
    go_wp2_with fail
    go_roundw
    case rel => exact ⟨i + 1, by omega, by go_num, HI7⟩
    case measure => simp [intOf]; omega
  · have ei : i = m := by omega
    subst ei
    have HLM : Hid (l.map M.mem = if f.1 = 0 then at_.map M.mem else []) := Lib.hid (by rw [HLE.out]; split <;> rfl)
    have hlen : (l.map M.mem).length = i := by rw [List.length_map, HML.out]
    have HIB : Hid (IsB wr wr.heap.size (some ⟨b8, 0, none⟩) 8 (b8L (fun j => (l.map M.mem).getD j 0) i)) := Lib.hid (IsB.of_row HI.out.rb (by rw [List.drop_zero, List.take_of_length_le (by rw [List.length_map, b8L_len]; omega)]) (b8L_len _ _) (b8L_lt _ (fun b hb => by obtain ⟨a, _, rfl⟩ := List.mem_map.1 hb; exact (stape_i B g).byte (show STape B g Z R wr _ from HI.out.s) a) i (by omega)) HI.out.rb.lt (by omega) (by rw [List.length_map, b8L_len]; omega))
    obtain ⟨V, hV⟩ : ∃ V, V = Wd.unle (l.map M.mem) := ⟨_, rfl⟩
    have HNUM : Hid (Wd.unle ((b8L (fun j => (l.map M.mem).getD j 0) i).take 8) = V) := Lib.hid (by rw [hV]; have := b8L_num (l.map M.mem) (by omega); rw [hlen] at this; exact this)
    have HVE : Hid (V = if f.1 = 0 then Wd.unle (at_.map M.mem) else 0) := Lib.hid (by rw [hV, HLM.out]; split <;> rfl)
    have HMN : Hid (i = if f.1 = 0 then at_.length else 0) := Lib.hid (by rw [HML.out, HLE.out]; split <;> rfl)
    have q0 := HI.out.rc.cell 0
    have q1 := HI.out.rc.cell 1
    have la := HI.out.rc.lt
    have a0 := HI.out.rc.frozen 0
    have a1 := HI.out.rc.frozen 1
    have t0 := HI.out.r3.cell 0
    have t1 := HI.out.r3.cell 1
    have lt := HI.out.r3.lt
    have l8 := HI.out.rb.lt
    simp only [List.getElem?_cons_zero, List.getElem?_cons_succ] at q0 q1 t0 t1
    have HY0 := Lib.hid ((HI.out.rc.set_ 0 (.int .i64 (F0 : Nat))).cell 0)
    have HY1 := Lib.hid (((HI.out.rc.set_ 0 (.int .i64 (F0 : Nat))).set_ 1 (.int .u64 (F1 : Nat))).cell 1)
    simp only [List.set_cons_zero, List.set_cons_succ, List.getElem?_cons_zero, List.getElem?_cons_succ] at HY0 HY1
    clear hlen hV
    go_upto_region 10 with (go_at_call 59; refine (get_uint64 (some ⟨b8, 0, none⟩) 8 8 (b8L (fun j => (l.map M.mem).getD j 0) i) wr HIB.out (by omega) (by omega)).mono ?_; rw [HNUM.out]; rintro e w6 ⟨rfl, rfl⟩)
    go_still_tail 3, (by kernel_rfl)
    change wpList _ _ _ _ _ wr.drew
    go_wp2_with fail
    refine bodyPost_ret (v := .tuple #[.int .u64 (V : Nat), .agg #[.int .i64 (F0 : Nat), .int .u64 (F1 : Nat)]]) (by simp [results, Tryz.results35, go_sem, HY0.out, HY1.out]) rfl ⟨by rw [HFL.out, HVE.out], s, HS1.out, HS0.out, ?_⟩
    have hcq : ChgP (fun k => k = c) wr ((wr.drew.setCell ⟨c, 0, none⟩ (.int .i64 (F0 : Nat))).setCell ⟨c, 1, none⟩ (.int .u64 (F1 : Nat))) := ((ChgP.refl (fun k => k = c) wr).drew.set_ (p := ⟨c, 0, none⟩) (.inl rfl) _).set_ (p := ⟨c, 1, none⟩) (.inl rfl) _
    rw [← HMN.out]
    exact ⟨HSI.out.chg HI.out.s hcq (fun k hk hy => by
      have e : k = c := hy
      have := HC.out
      rcases hk with hk | hk
      · have := HZL.out k hk; omega
      · have := HSI.out.r HM.out k hk; omega), HI.out.ch.trans hcq (fun k hk => .inr (by rw [show k = c from hk, HC.out]; exact Nat.le_refl _))⟩
theorem reach_zt (B g : Nat) (hT : TrC 39 (tapeV g) (STape B g)) {Z R : Nat → Prop} {w : World} {M : PM} (root virt : Nat) (z access : Int) (hm : STape B g Z R w M) (hs : True) (hr : root ≤ TOP) (hv : virt ≤ TOP) :
    Calls Tryz.prog 44 #[.iface 39 (tapeV g), .int .u64 (root : Nat), .int .u64 (virt : Nat), .int .i64 z, .int .i64 access] w (ReachS (STape B g) Z R w M (accZ M root virt access z).1 (accZ M root virt access z).2) := by
  unfold accZ
  cases hz : wideB z with
  | true =>
    rw [if_pos rfl]
    obtain ⟨n, rfl, hn⟩ := wideB_nat hz
    rw [show ((n : Nat) : Int).toNat = n from rfl]
    exact reach_tape B g hT (pk1_tape B g) root virt n access hn hm hs hr hv
  | false =>
    rw [if_neg (by decide)]
    refine (reach_bad (T := 39) (v := tapeV g) w root virt z access hz).mono fun e w' hh => ⟨fun h => absurd h (by show ¬ (31 : Nat) = 0; decide), fun _ => hh.1, ?_⟩
    exact (QuS.refl hm).below (stape_i B g) hh.2
theorem take_zt (B g : Nat) (hT : TrC 39 (tapeV g) (STape B g)) {Z R : Nat → Prop} {w : World} {M : PM} (root virt : Nat) (z access : Int) (hm : STape B g Z R w M) (hs : True) (hl : True) (hr : root ≤ TOP) (hv : virt ≤ TOP) :
    Calls Tryz.prog 35 #[.iface 39 (tapeV g), .int .u64 (root : Nat), .int .u64 (virt : Nat), .int .i64 z, .int .i64 access] w (TakeS (STape B g) Z R w M (accZ M root virt access z).1 (accZ M root virt access z).2) :=
  take_tape B g root virt z access _ _ (fun wx hx => reach_zt B g hT root virt z access hx trivial hr hv) (ld1_tape B g) hm hs hl accZ_len accZ_on
set_option maxRecDepth 100000 in
set_option maxHeartbeats 1000000 in
theorem wload_tape (B g : Nat) (hT : TrC 39 (tapeV g) (STape B g)) {Z R : Nat → Prop} {w : World} {M : PM} (root virt : Nat) (z : Int) (hm : STape B g Z R w M) (hs : True) (hl : True) (hr : root ≤ TOP) (hv : virt ≤ TOP) :
    Calls Tryz.prog 14 #[.iface 39 (tapeV g), .int .u64 (root : Nat), .int .u64 (virt : Nat), .int .i64 z] w (TakeS (STape B g) Z R w M (accZ M root virt 1 z).1 (accZ M root virt 1 z).2) := by
  have HM := Lib.hid hm
  have HZR : Hid (∀ k, Z k → k < w.heap.size) := Lib.hid ((stape_i B g).z hm)
  have HTK : Hid (∀ wx, Below w.heap.size w wx → Calls Tryz.prog 35 #[.iface 39 (tapeV g), .int .u64 (root : Nat), .int .u64 (virt : Nat), .int .i64 z, .int .i64 1] wx (TakeS (STape B g) Z R wx M (accZ M root virt 1 z).1 (accZ M root virt 1 z).2)) := Lib.hid (fun wx hb => take_zt B g hT root virt z 1 ((stape_i B g).below hm hb) hs hl hr hv)
  obtain ⟨G, hG⟩ : ∃ G, G = accZ M root virt 1 z := ⟨_, rfl⟩
  rw [← hG] at HTK ⊢
  obtain ⟨F0, hF0⟩ : ∃ F0, F0 = G.2.1 := ⟨_, rfl⟩
  obtain ⟨F1, hF1⟩ : ∃ F1 : Nat, F1 = if G.2.1 = 0 then 0 else G.2.2 := ⟨_, rfl⟩
  have HFL : Hid (flt G.2.1 G.2.2 = .agg #[.int .i64 (F0 : Nat), .int .u64 (F1 : Nat)]) := Lib.hid (by rw [flt_agg, hF0, hF1])
  clear hm hs hl hr hv hG hF0 hF1
  go_enter Tryz.func14, Tryz.ntmps14
  go_upto_region 1 with fail
  have r0 := Row.new w 57 [.int .i64 0, .int .u64 0]
  have hb0 : Below w.heap.size w (w.alloc (.cells #[.int .i64 0, .int .u64 0] 57)) := (Below.refl _ _).alloc (Nat.le_refl _) _
  obtain ⟨c, hc⟩ : ∃ c, c = w.heap.size := ⟨_, rfl⟩
  generalize w.alloc (.cells #[.int .i64 0, .int .u64 0] 57) = w1 at *
  rw [← hc] at r0 ⊢
  have HC := Lib.hid hc; have HB := Lib.hid hb0; have HRC := Lib.hid r0
  have HR1 := Lib.hid (HTK.out w1 hb0)
  clear r0 hb0 hc HTK
  go_wp2_with fail
  refine HR1.out.mono ?_
  rintro e w2 ht
  have he := ht.1
  rw [HFL.out] at he
  obtain ⟨V, hV⟩ : ∃ V : Nat, V = if G.2.1 = 0 then Wd.unle (G.1.map M.mem) else 0 := ⟨_, rfl⟩
  rw [← hV] at he
  have HV := Lib.hid hV
  subst he
  have HRC2 := Lib.hid ((show ChgP Z w1 w2 from ht.2.choose_spec.2.2.2).row HRC.out (fun h => by have := HZR.out _ h; have := HC.out; omega))
  have HT := Lib.hid ht
  clear ht hV HR1
  have q0 := HRC2.out.cell 0
  have q1 := HRC2.out.cell 1
  have la := HRC2.out.lt
  have a0 := HRC2.out.frozen 0
  have a1 := HRC2.out.frozen 1
  simp only [List.getElem?_cons_zero, List.getElem?_cons_succ] at q0 q1
  have HY0 := Lib.hid ((HRC2.out.set_ 0 (.int .i64 (F0 : Nat))).cell 0)
  have HY1 := Lib.hid (((HRC2.out.set_ 0 (.int .i64 (F0 : Nat))).set_ 1 (.int .u64 (F1 : Nat))).cell 1)
  simp only [List.set_cons_zero, List.set_cons_succ, List.getElem?_cons_zero, List.getElem?_cons_succ] at HY0 HY1
  go_wp2_with fail
  refine bodyPost_ret (v := .tuple #[.int .u64 (V : Nat), .agg #[.int .i64 (F0 : Nat), .int .u64 (F1 : Nat)]]) (by simp [results, Tryz.results14, go_sem, HY0.out, HY1.out]) rfl (HT.out.chg (stape_i B g) HB.out HM.out (Y := fun k => k = c) ?_ (fun k hk => by rw [show k = c from hk, HC.out]; exact Nat.le_refl _))
  exact ((ChgP.refl (fun k => k = c) w2).set_ (p := ⟨c, 0, none⟩) (.inl rfl) _).set_ (p := ⟨c, 1, none⟩) (.inl rfl) _
set_option maxRecDepth 100000 in
set_option maxHeartbeats 1000000 in
theorem wfetch_tape (B g : Nat) (hT : TrC 39 (tapeV g) (STape B g)) {Z R : Nat → Prop} {w : World} {M : PM} (root virt : Nat) (z : Int) (hm : STape B g Z R w M) (hs : True) (hl : True) (hr : root ≤ TOP) (hv : virt ≤ TOP) :
    Calls Tryz.prog 15 #[.iface 39 (tapeV g), .int .u64 (root : Nat), .int .u64 (virt : Nat), .int .i64 z] w (TakeS (STape B g) Z R w M (accZ M root virt 3 z).1 (accZ M root virt 3 z).2) := by
  have HM := Lib.hid hm
  have HZR : Hid (∀ k, Z k → k < w.heap.size) := Lib.hid ((stape_i B g).z hm)
  have HTK : Hid (∀ wx, Below w.heap.size w wx → Calls Tryz.prog 35 #[.iface 39 (tapeV g), .int .u64 (root : Nat), .int .u64 (virt : Nat), .int .i64 z, .int .i64 3] wx (TakeS (STape B g) Z R wx M (accZ M root virt 3 z).1 (accZ M root virt 3 z).2)) := Lib.hid (fun wx hb => take_zt B g hT root virt z 3 ((stape_i B g).below hm hb) hs hl hr hv)
  obtain ⟨G, hG⟩ : ∃ G, G = accZ M root virt 3 z := ⟨_, rfl⟩
  rw [← hG] at HTK ⊢
  obtain ⟨F0, hF0⟩ : ∃ F0, F0 = G.2.1 := ⟨_, rfl⟩
  obtain ⟨F1, hF1⟩ : ∃ F1 : Nat, F1 = if G.2.1 = 0 then 0 else G.2.2 := ⟨_, rfl⟩
  have HFL : Hid (flt G.2.1 G.2.2 = .agg #[.int .i64 (F0 : Nat), .int .u64 (F1 : Nat)]) := Lib.hid (by rw [flt_agg, hF0, hF1])
  clear hm hs hl hr hv hG hF0 hF1
  go_enter Tryz.func15, Tryz.ntmps15
  go_upto_region 1 with fail
  have r0 := Row.new w 57 [.int .i64 0, .int .u64 0]
  have hb0 : Below w.heap.size w (w.alloc (.cells #[.int .i64 0, .int .u64 0] 57)) := (Below.refl _ _).alloc (Nat.le_refl _) _
  obtain ⟨c, hc⟩ : ∃ c, c = w.heap.size := ⟨_, rfl⟩
  generalize w.alloc (.cells #[.int .i64 0, .int .u64 0] 57) = w1 at *
  rw [← hc] at r0 ⊢
  have HC := Lib.hid hc; have HB := Lib.hid hb0; have HRC := Lib.hid r0
  have HR1 := Lib.hid (HTK.out w1 hb0)
  clear r0 hb0 hc HTK
  go_wp2_with fail
  refine HR1.out.mono ?_
  rintro e w2 ht
  have he := ht.1
  rw [HFL.out] at he
  obtain ⟨V, hV⟩ : ∃ V : Nat, V = if G.2.1 = 0 then Wd.unle (G.1.map M.mem) else 0 := ⟨_, rfl⟩
  rw [← hV] at he
  have HV := Lib.hid hV
  subst he
  have HRC2 := Lib.hid ((show ChgP Z w1 w2 from ht.2.choose_spec.2.2.2).row HRC.out (fun h => by have := HZR.out _ h; have := HC.out; omega))
  have HT := Lib.hid ht
  clear ht hV HR1
  have q0 := HRC2.out.cell 0
  have q1 := HRC2.out.cell 1
  have la := HRC2.out.lt
  have a0 := HRC2.out.frozen 0
  have a1 := HRC2.out.frozen 1
  simp only [List.getElem?_cons_zero, List.getElem?_cons_succ] at q0 q1
  have HY0 := Lib.hid ((HRC2.out.set_ 0 (.int .i64 (F0 : Nat))).cell 0)
  have HY1 := Lib.hid (((HRC2.out.set_ 0 (.int .i64 (F0 : Nat))).set_ 1 (.int .u64 (F1 : Nat))).cell 1)
  simp only [List.set_cons_zero, List.set_cons_succ, List.getElem?_cons_zero, List.getElem?_cons_succ] at HY0 HY1
  go_wp2_with fail
  refine bodyPost_ret (v := .tuple #[.int .u64 (V : Nat), .agg #[.int .i64 (F0 : Nat), .int .u64 (F1 : Nat)]]) (by simp [results, Tryz.results15, go_sem, HY0.out, HY1.out]) rfl (HT.out.chg (stape_i B g) HB.out HM.out (Y := fun k => k = c) ?_ (fun k hk => by rw [show k = c from hk, HC.out]; exact Nat.le_refl _))
  exact ((ChgP.refl (fun k => k = c) w2).set_ (p := ⟨c, 0, none⟩) (.inl rfl) _).set_ (p := ⟨c, 1, none⟩) (.inl rfl) _
set_option maxRecDepth 100000 in
set_option maxHeartbeats 1000000 in
theorem wstore_tape (B g : Nat) {Z R : Nat → Prop} {w : World} {M : PM} (root virt v : Nat) (z : Int) (at_ : List Nat) (f : Nat × Nat)
    (hR : ∀ wx, STape B g Z R wx M → Calls Tryz.prog 44 #[.iface 39 (tapeV g), .int .u64 (root : Nat), .int .u64 (virt : Nat), .int .i64 z, .int .i64 2] wx (ReachS (STape B g) Z R wx M at_ f))
    (hL : St1C 120 (tapeV g) (STape B g)) (hm : STape B g Z R w M) (hv : v ≤ TOP) (hs : True) (hl : True) (h8 : at_.length ≤ 8) (hon : f.1 = 0 → ∀ a ∈ at_, onM M a = true ∧ a ≤ TOP) :
    Calls Tryz.prog 25 #[.iface 39 (tapeV g), .int .u64 (root : Nat), .int .u64 (virt : Nat), .int .i64 z, .int .u64 (v : Nat)] w (StoS (STape B g) Z R w M at_ f v) := by
  have hS := stape_i B g
  have hmp := tape_store g
  have hma := tape_ahead g
  unfold tapeV at *
  have HM := Lib.hid hm; have HS := Lib.hid hs; have HL := Lib.hid hl; have HSI := Lib.hid hS; have HLC := Lib.hid hL; have HON := Lib.hid hon; have H8 := Lib.hid h8
  have HR := Lib.hid hR
  have hv64 : v ≤ 18446744073709551615 := hv
  have HZL : Hid (∀ k, Z k → k < w.heap.size) := Lib.hid (hS.z hm)
  clear hm hs hl hS hL hon h8 hR hv
  go_enter Tryz.func25, Tryz.ntmps25
  go_upto_region 1 with fail
  have r0 := Row.new w 57 [.int .i64 0, .int .u64 0]
  have hb0 : Below w.heap.size w (w.alloc (.cells #[.int .i64 0, .int .u64 0] 57)) := (Below.refl _ _).alloc (Nat.le_refl _) _
  obtain ⟨c, hc⟩ : ∃ c, c = w.heap.size := ⟨_, rfl⟩
  generalize w.alloc (.cells #[.int .i64 0, .int .u64 0] 57) = w1 at *
  rw [← hc] at r0 ⊢
  have HC := Lib.hid hc; have HB := Lib.hid hb0; have HRC := Lib.hid r0
  have HR1 := Lib.hid (HR.out w1 (HSI.out.below HM.out hb0))
  clear r0 hb0 hc HR
  obtain ⟨F0, hF0⟩ : ∃ F0, F0 = f.1 := ⟨_, rfl⟩
  obtain ⟨F1, hF1⟩ : ∃ F1 : Nat, F1 = if f.1 = 0 then 0 else f.2 := ⟨_, rfl⟩
  have HFL : Hid (flt f.1 f.2 = .agg #[.int .i64 (F0 : Nat), .int .u64 (F1 : Nat)]) := Lib.hid (by rw [flt_agg, hF0, hF1])
  clear hF0 hF1
  go_upto_region 2 with (go_at_call 44; refine HR1.out.mono ?_; intro e w2 hrs; obtain ⟨A, l, bb, rfl, hl, ha, hq⟩ := hrs.open_; rw [HFL.out]; have HLE := Lib.hid hl; have HA := Lib.hid ha; have HQ := Lib.hid hq; clear hl ha hq hrs)
  obtain ⟨s, hs1, hs0, hs2, hs3⟩ := HQ.out
  have HS1 := Lib.hid hs1; have HS0 := Lib.hid hs0
  have HLL : Hid (l.length ≤ 8) := Lib.hid (by rw [HLE.out]; split; exact H8.out; exact Nat.zero_le _)
  have hm8 : l.length ≤ 8 := HLL.out
  have HRC2 := Lib.hid (hs3.row HRC.out (fun h => by have := HZL.out _ h; have := HC.out; omega))
  have HD2 : Hid (STape B g Z R w2 (sM M s)) := Lib.hid hs2
  have HCH2 : Hid (ChgP Z w w2) := Lib.hid ((ChgP.of_below (Z := Z) HB.out).trans hs3 (fun x hx => .inl hx))
  have HA2 : Hid (0 < l.length → A = some ⟨bb, 0, none⟩ ∧ w.heap.size ≤ bb ∧ Row w2 bb 31 (l.map u64v)) := Lib.hid (fun h => ⟨(HA.out h).1, Nat.le_trans HB.out.size (HA.out h).2.1, (HA.out h).2.2⟩)
  clear hs1 hs0 hs2 hs3 HQ HR1 HB HRC HA
  have hr3 := Row.new w2 57 [.int .i64 (F0 : Nat), .int .u64 (F1 : Nat)]
  have hb3 : Below w2.heap.size w2 (w2.alloc (.cells #[.int .i64 (F0 : Nat), .int .u64 (F1 : Nat)] 57)) := (Below.refl _ _).alloc (Nat.le_refl _) _
  obtain ⟨c3, hc3⟩ : ∃ c3, c3 = w2.heap.size := ⟨_, rfl⟩
  generalize w2.alloc (.cells #[.int .i64 (F0 : Nat), .int .u64 (F1 : Nat)] 57) = w3 at *
  rw [← hc3] at hr3 ⊢
  have HI0 : Hid (SI (STape B g) Z R w M s c c3 A bb l F0 F1 v 0 w3) := Lib.hid ⟨⟨Z, HSI.out.below HD2.out hb3, fun k hk => .inl hk⟩, HCH2.out.trans (ChgP.of_below (Z := Z) hb3) (fun x hx => .inl hx), fun h => ⟨(HA2.out h).1, (HA2.out h).2.2.below hb3 (HA2.out h).2.2.lt, (HA2.out h).2.1⟩, HRC2.out.below hb3 HRC2.out.lt, hr3, by rw [HC.out]; exact Nat.le_refl _, by rw [hc3]; exact HCH2.out.size⟩
  clear hr3 hb3 hc3 HA2 HCH2 HD2 HRC2
  obtain ⟨m, hm⟩ : ∃ m, m = l.length := ⟨_, rfl⟩
  rw [← hm] at hm8 ⊢
  have HML := Lib.hid hm
  clear hm
  go_wp2_with fail
  go_loopw [25] (fun x wr => ∃ i : Nat, i ≤ m ∧ x = .int .i64 (i : Nat) ∧ Hid (SI (STape B g) Z R w M s c c3 A bb l F0 F1 v i wr)) (fun x _ => m - (intOf x).toNat)
  case atStart => exact ⟨0, by omega, rfl, HI0⟩
  case round =>
  clear HI0
  obtain ⟨i, hi, rfl, HI⟩ := hrel
  by_cases him : i < m
  · have HF0 : Hid (f.1 = 0 ∧ l = at_) := Lib.hid (by
      by_cases h : f.1 = 0
      · exact ⟨h, by rw [HLE.out, if_pos h]⟩
      · have h1 := HML.out; rw [HLE.out, if_neg h] at h1; simp at h1; omega)
    obtain ⟨a, ha⟩ : ∃ a, l[i]? = some a := ⟨_, List.getElem?_eq_getElem (by have := HML.out; omega)⟩
    have hon := HON.out HF0.out.1 a (by rw [← HF0.out.2]; exact List.mem_of_getElem? ha)
    obtain ⟨Z1, hz1, hz2⟩ := HI.out.s
    obtain ⟨n1, n2, n3, n4, n5⟩ := stN_meta (sM M s) (fun j => l.getD j 0) v i
    have HON1 : Hid (onM (stN (sM M s) (fun j => l.getD j 0) v i) a = true) := Lib.hid (by unfold onM; rw [n1, n2]; exact hon.1)
    have HLC1 : Hid (∀ wx, Below wr.heap.size wr wx → Calls Tryz.prog 120 #[.agg #[.pointer (some ⟨g, 0, none⟩)], .int .u64 (a : Nat), .int .i64 1, .int .u64 (byteOf v i : Nat)] wx fun e w' => e = .returned (.agg #[.int .i64 0, .int .u64 0]) ∧ ∃ Z', STape B g Z' R w' (st1 (stN (sM M s) (fun j => l.getD j 0) v i) a (byteOf v i)) ∧ ChgP Z1 wx w' ∧ ∀ k, Z' k → Z1 k ∨ wx.heap.size ≤ k) := Lib.hid (fun wx hb => HLC.out Z1 R wx _ a (byteOf v i) (HSI.out.below hz1 hb) trivial trivial hon.2 (by have := byteOf_lt v i; unfold TOP; omega) HON1.out)
    obtain ⟨hA, hra, hbw⟩ := HI.out.ra (by have := HML.out; omega)
    subst hA
    have b0 := hra.cell i
    rw [List.getElem?_map, ha, Option.map_some] at b0
    unfold u64v at b0
    have lb := hra.lt
    have HLI : Hid (l.getD i 0 = a) := Lib.hid (by rw [List.getD_eq_getElem?_getD, ha]; rfl)
    have HZ1 := Lib.hid hz1; have HZ2 := Lib.hid hz2
    obtain ⟨x, hx⟩ : ∃ x, x = v / 2 ^ (8 * i) := ⟨_, rfl⟩
    obtain ⟨y, hy⟩ : ∃ y, y = byteOf v i := ⟨_, rfl⟩
    have e1 : IntKind.i64.wrap (8 * (i : Int)) = 8 * (i : Int) := by rw [IntKind.wrap_i64]; omega
    have e2 : (v : Int) / 2 ^ (8 * i) = (x : Int) := by rw [hx]; norm_cast
    have e4 : (v : Int) / 2 ^ (8 * (i : Int)).toNat = (x : Int) := by rw [show (8 * (i : Int)).toNat = 8 * i by omega]; exact e2
    have hx64 : x < 18446744073709551616 := by rw [hx]; exact Nat.lt_of_le_of_lt (Nat.div_le_self _ _) (by omega)
    have e3 : bits .and .u64 (x : Int) 255 = (y : Int) := by
      rw [show bits .and .u64 (x : Int) 255 = ((x &&& 255 : Nat) : Int) from u64_and_nat x 255 hx64 (by decide), show (255 : Nat) = 2 ^ 8 - 1 from rfl, Nat.and_two_pow_sub_one_eq_mod, hy, hx]; rfl
    rw [← hy] at HLC1
    have HYE := Lib.hid hy
    clear hra ha hon hz1 hz2 hx hy n1 n2 n3 n4 n5 hx64 HON1
    have HLC2 := Lib.hid (HLC1.out wr.drew (Below.refl _ _).drew)
    clear HLC1
    go_upto_region 5 with fail
    go_region_law (first
      | (go_simp; go_at_call 120; refine HLC2.out.mono ?_; rintro e w5 ⟨rfl, h5⟩; have H5 := Lib.hid h5; clear h5))
    all_goals
      have HI5 := Lib.hid (HI.out.drew HSI.out |>.stored HSI.out HZL.out Z1 (HSI.out.below HZ1.out (Below.refl _ _).drew) HZ2.out (by rw [HLI.out, ← HYE.out]; exact H5.out))
      go_wp2_with fail
      go_roundw
      case rel => exact ⟨i + 1, by omega, by go_num, HI5⟩
      case measure => simp [intOf]; omega
  · have ei : i = m := by omega
    subst ei
    obtain ⟨Z1, hz1, hz2⟩ := HI.out.s
    have HZ1 := Lib.hid hz1; have HZ2 := Lib.hid hz2
    clear hz1 hz2
    have HMN : Hid (i = if f.1 = 0 then at_.length else 0) := Lib.hid (by rw [HML.out, HLE.out]; split <;> rfl)
    have HST : Hid (stN (sM M s) (fun j => l.getD j 0) v i = stN (sM M s) (fun j => at_.getD j 0) v (if f.1 = 0 then at_.length else 0)) := Lib.hid (by
      rw [← HMN.out, HLE.out]
      by_cases h : f.1 = 0
      · rw [if_pos h]
      · have : i = 0 := by rw [HMN.out, if_neg h]
        rw [this]; rfl)
    have q0 := HI.out.rc.cell 0
    have q1 := HI.out.rc.cell 1
    have la := HI.out.rc.lt
    have a0 := HI.out.rc.frozen 0
    have a1 := HI.out.rc.frozen 1
    have t0 := HI.out.r3.cell 0
    have t1 := HI.out.r3.cell 1
    have lt := HI.out.r3.lt
    simp only [List.getElem?_cons_zero, List.getElem?_cons_succ] at q0 q1 t0 t1
    have HY0 := Lib.hid ((HI.out.rc.set_ 0 (.int .i64 (F0 : Nat))).cell 0)
    have HY1 := Lib.hid (((HI.out.rc.set_ 0 (.int .i64 (F0 : Nat))).set_ 1 (.int .u64 (F1 : Nat))).cell 1)
    simp only [List.set_cons_zero, List.set_cons_succ, List.getElem?_cons_zero, List.getElem?_cons_succ] at HY0 HY1
    go_wp2_with fail
    refine bodyPost_ret (v := .agg #[.int .i64 (F0 : Nat), .int .u64 (F1 : Nat)]) (by simp [results, Tryz.results25, go_sem, HY0.out, HY1.out]) rfl ⟨by rw [HFL.out], s, Z1, HS1.out, HS0.out, ?_⟩
    have hcq : ChgP (fun k => k = c) wr ((wr.setCell ⟨c, 0, none⟩ (.int .i64 (F0 : Nat))).setCell ⟨c, 1, none⟩ (.int .u64 (F1 : Nat))) := ((ChgP.refl (fun k => k = c) wr).set_ (p := ⟨c, 0, none⟩) (.inl rfl) _).set_ (p := ⟨c, 1, none⟩) (.inl rfl) _
    rw [← HST.out]
    refine ⟨HSI.out.chg HZ1.out hcq (fun k hk hy => ?_), HI.out.ch.trans hcq (fun k hk => .inr (by rw [show k = c from hk, HC.out]; exact Nat.le_refl _)), fun k hk => ?_⟩
    · have e : k = c := hy
      have := HC.out
      rcases hk with hk | hk
      · rcases HZ2.out k hk with h | h
        · have := HZL.out k h; omega
        · exact h.2.1 e
      · have := HSI.out.r HM.out k hk; omega
    · rcases HZ2.out k hk with h | h
      · exact .inl h
      · exact .inr h.1
end Bu
end Go.Proofs.YtfpofaniicegaaaGreat
