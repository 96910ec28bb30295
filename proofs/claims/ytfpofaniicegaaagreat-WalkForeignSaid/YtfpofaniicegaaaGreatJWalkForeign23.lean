/- Texts of this claim, one behind the other: WkB, WkC. -/
import Derived.Test.YtfpofaniicegaaaGreatJWalkForeign22
/- The walks of walk.translate and walk.Translate over any memory whose entries can be read. -/
set_option linter.unusedVariables false
set_option linter.unusedSimpArgs false
namespace Go.Proofs.YtfpofaniicegaaaGreat
open Go.RowKit
open S64
namespace Bu
theorem tr_lt {M : PM} {virt : Nat} {access : Int} : ∀ {k lv tab : Nat}, (trw M virt access k lv tab).1 < 8589934592 ∧ (trw M virt access k lv tab).2 ≤ 44 := by
  intro k
  induction k with
  | zero => intro lv tab; exact ⟨by show (0 : Nat) < _; decide, by show (42 : Nat) ≤ 44; decide⟩
  | succ k ih =>
    intro lv tab
    unfold trw
    have h1 := @entM_no M tab (ixv virt lv) lv
    have h2 := @entM_F M tab (ixv virt lv) lv
    split
    · exact ⟨by show (0 : Nat) < _; decide, by show (entM M tab (ixv virt lv) lv).2 ≤ 44; omega⟩
    split
    · exact ih
    split
    · exact ⟨by show (0 : Nat) < _; decide, by show (43 : Nat) ≤ 44; decide⟩
    split
    · exact ⟨by show (0 : Nat) < _; decide, by show (44 : Nat) ≤ 44; decide⟩
    · refine ⟨?_, by show (0 : Nat) ≤ 44; decide⟩
      have h3 : virt % rch lv < 4294967296 := by
        have h4 : 0 < rch lv ∧ rch lv ≤ 1073741824 := by
          unfold rch
          have : 512 ^ (2 - lv) ≤ 512 ^ 2 := Nat.pow_le_pow_right (by decide) (by omega)
          have h5 : 0 < 512 ^ (2 - lv) := Nat.pow_pos (by decide)
          have h6 : (512 : Nat) ^ 2 = 262144 := by decide
          omega
        have := Nat.mod_lt virt h4.1
        omega
      show _ + _ < _
      omega
theorem trI_lt {M : PM} {root virt : Nat} {access : Int} : (trI M root virt access).1 < 8589934592 ∧ (trI M root virt access).2 ≤ 44 := by
  unfold trI
  split
  · exact ⟨by show (0 : Nat) < _; decide, by show (1 : Nat) ≤ 44; decide⟩
  split
  · exact ⟨by show (0 : Nat) < _; decide, by show (40 : Nat) ≤ 44; decide⟩
  split
  · exact ⟨by show (0 : Nat) < _; decide, by show (42 : Nat) ≤ 44; decide⟩
  · exact tr_lt
set_option maxRecDepth 100000 in
set_option maxHeartbeats 400000 in
theorem translate_any {T : TypeId} {v : Value} {S : MemS} (hS : MemI S) (hC : EntC T v S) (Z R : Nat → Prop) (w : World) (M : PM) (root virt : Nat) (access : Int) (hm : S Z R w M) (hs : True) (hr : root ≤ TOP) (hv : virt ≤ TOP) :
    Calls Tryz.prog 38 #[.iface T v, .int .u64 (root : Nat), .int .u64 (virt : Nat), .int .i64 access] w fun e w' => e = .returned (.tuple #[.int .u64 ((trI M root virt access).1 : Nat), .int .i64 ((trI M root virt access).2 : Nat)]) ∧ QuS S Z R w M ((trI M root virt access).2 ≠ 42) w' := by
  have HM := Lib.hid hm; have HS := Lib.hid hs; have HSI := Lib.hid hS; have HC := Lib.hid hC
  unfold TOP at hr hv
  have hnil : ∀ wx : World, (binOp .eql 69 (.iface T v) .nilIface).run Tryz.prog wx = .ok (.bool false) wx := fun wx => by rfl
  obtain ⟨G, hG⟩ : ∃ G, G = trI M root virt access := ⟨_, rfl⟩
  rw [← hG]
  have HG := Lib.hid hG
  clear hm hs hS hC hG
  go_enter Tryz.func38, Tryz.ntmps38
  by_cases h1 : access < 1 ∨ 3 < access
  · have hE : G = (0, 1) := by rw [HG.out, trI, if_pos h1]
    subst hE
    rcases h1 with h1 | h1
    · go_wp2_with fail
      go_ret2
      exact ⟨rfl, QuS.refl HM.out⟩
    · have h2 : ¬ access < 1 := by omega
      go_wp2_with fail
      go_ret2
      exact ⟨rfl, QuS.refl HM.out⟩
  · have h2 : ¬ access < 1 := fun h => h1 (.inl h)
    have h3 : ¬ 3 < access := fun h => h1 (.inr h)
    by_cases h4 : 549755813888 ≤ virt
    · have hE : G = (0, 40) := by rw [HG.out, trI, if_neg h1, if_pos h4]
      subst hE
      clear h1
      have h5 : (549755813888 : Int) ≤ (virt : Int) := by omega
      go_wp2_with fail
      go_ret2
      exact ⟨rfl, QuS.refl HM.out⟩
    · have h5 : ¬ (549755813888 : Int) ≤ (virt : Int) := by omega
      have hv39 : virt < 549755813888 := by omega
      by_cases h6 : root % 4096 = 0
      · have hG2 : G = trw M virt access 3 0 root := by rw [HG.out, trI, if_neg h1, if_neg h4, if_neg (by omega)]
        have HG2 := Lib.hid hG2
        have f6 : (((root : Int) % 4096) != 0) = false := by simp; omega
        have hrt : root ≤ 18446744073709547520 := by omega
        clear h1 hG2 h4 HG h6
        go_upto_region 8 with fail
        go_wp2_with fail
        go_loopw [10, 11] (fun tb lv wr => ∃ (l t : Nat), l ≤ 3 ∧ t ≤ 18446744073709547520 ∧ tb = .int .u64 (t : Nat) ∧ lv = .int .i64 (l : Nat) ∧ Hid (G = trw M virt access (3 - l) l t) ∧ Hid (S Z R wr M) ∧ Hid (ChgP Z w wr)) (fun _ lv _ => 3 - (intOf lv).toNat)
        case atStart => exact ⟨0, root, by omega, hrt, rfl, rfl, HG2, HM, Lib.hid (ChgP.refl _ _)⟩
        case round =>
        clear HG2 h5
        have HV39 := Lib.hid hv39
        clear hv39
        obtain ⟨l, t, hl, ht, rfl, rfl, HG, HMR, HCR⟩ := hrel
        by_cases hl3 : l < 3
        · have HRC : Hid (∀ wx : World, Calls Tryz.prog 61 #[.int .i64 (l : Nat)] wx fun e w' => e = .returned (.int .u64 (rch l : Nat)) ∧ wx = w') := Lib.hid (fun wx => reach_any l wx hl3)
          obtain ⟨rc, hrc⟩ : ∃ rc, rc = rch l := ⟨_, rfl⟩
          rw [← hrc] at HRC
          have hrc1 : 4096 ≤ rc ∧ rc ≤ 1073741824 := by
            rw [hrc]
            obtain rfl | rfl | rfl : l = 0 ∨ l = 1 ∨ l = 2 := by omega
            · rw [rch0]; omega
            · rw [rch1]; omega
            · rw [rch2]; omega
          have hrz : ((rc : Int) == 0) = false := by simp; omega
          have hrz2 : ¬ rc = 0 := by omega
          obtain ⟨ix, hix⟩ : ∃ ix, ix = ixv virt l := ⟨_, rfl⟩
          obtain ⟨qv, hqv⟩ : ∃ qv, qv = virt / rc := ⟨_, rfl⟩
          have hqv8 : qv ≤ 134217728 := by
            have := HV39.out
            have h1 : virt / rc ≤ virt / 4096 := Nat.div_le_div_left hrc1.1 (by decide)
            omega
          have e0 : IntKind.u64.wrap ((virt : Int) / (rc : Int)) = (qv : Int) := by
            have h1 : (virt : Int) / (rc : Int) = (qv : Int) := by rw [hqv]; norm_cast
            rw [h1, IntKind.wrap_u64]; omega
          have e1 : (qv : Int) % 512 = (ix : Int) := by rw [hix, ixv, ← hrc, ← hqv]; omega
          have hix5 : ix < 512 := by rw [hix, ixv]; exact Nat.mod_lt _ (by decide)
          have HCE := Lib.hid (HC.out Z R wr M t ix l HMR.out HS.out ht hix5 hl3)
          have HTE : Hid (trw M virt access (3 - l) l t = if (entM M t ix l).2 ≠ 0 then (0, (entM M t ix l).2)
              else if (entM M t ix l).1.t = true then trw M virt access (3 - (l + 1)) (l + 1) (entM M t ix l).1.F
              else if access = 2 ∧ (entM M t ix l).1.w = false then (0, 43)
              else if access = 3 ∧ (entM M t ix l).1.x = false then (0, 44)
              else ((entM M t ix l).1.F + virt % rc, 0)) := Lib.hid (by
            rw [show 3 - l = (3 - (l + 1)) + 1 by omega, trw, ← hix, ← hrc])
          have HEF := Lib.hid (@entM_F M t ix l)
          have HEN := Lib.hid (@entM_no M t ix l)
          have HET : Hid ((entM M t ix l).2 = 0 → (entM M t ix l).1.F % 4096 = 0 ∧ ((entM M t ix l).1.t = true → l < 2)) := Lib.hid (fun h0 => by have h := entM_t (M := M) (tab := t) (i := ix) (lv := l) (y := (entM M t ix l).1) (by rw [← h0]); exact ⟨h.2.2.1, h.1⟩)
          obtain ⟨E, hE⟩ : ∃ E, E = entM M t ix l := ⟨_, rfl⟩
          rw [← hE] at HCE HTE HEF HEN HET
          obtain ⟨⟨F0, t0, b0, v0, x0⟩, n0⟩ := E
          unfold eVal at HCE
          simp only at HCE HTE HEF HEN HET
          have HRC1 := Lib.hid hrc1
          clear hE hix hrc hrc1 hqv
          go_upto_region 11 with fail
          go_wp2_with fail
          refine (HRC.out _).mono ?_
          rintro e w' ⟨rfl, hw⟩
          obtain rfl := hw
          go_wp2_with fail
          refine HCE.out.mono ?_
          rintro e w2 ⟨rfl, hq2⟩
          have HQ2 := Lib.hid (hq2.pre HCR.out)
          clear hq2 HCE
          go_upto_region 12 with fail
          have hrx := Row.new w2 97 [.int .u64 (F0 : Nat), .bool t0, .bool b0, .bool v0, .bool x0]
          have HQ3 := Lib.hid (HQ2.out.below HSI.out ((Below.refl _ _).alloc (Nat.le_refl _) (.cells #[.int .u64 (F0 : Nat), .bool t0, .bool b0, .bool v0, .bool x0] 97)))
          obtain ⟨c, hc⟩ : ∃ c, c = w2.heap.size := ⟨_, rfl⟩
          generalize w2.alloc (.cells #[.int .u64 (F0 : Nat), .bool t0, .bool b0, .bool v0, .bool x0] 97) = w3 at *
          rw [← hc] at hrx ⊢
          have q0 := hrx.cell 0
          have q1 := hrx.cell 1
          have q3 := hrx.cell 3
          have q4 := hrx.cell 4
          have lx := hrx.lt
          simp only [List.getElem?_cons_zero, List.getElem?_cons_succ] at q0 q1 q3 q4
          clear hrx hc HQ2
          by_cases g0 : n0 = 0
          · subst g0
            have HST := Lib.hid (HQ3.out.still (by decide))
            cases t0 with
            | true =>
              have HG' : Hid (G = trw M virt access (3 - (l + 1)) (l + 1) F0) := Lib.hid (by rw [HG.out, HTE.out]; simp)
              have HFL : Hid (F0 ≤ 18446744073709547520) := Lib.hid (by have := HEF.out; omega)
              clear q3 q4
              go_wp2_with fail
              go_roundw
              case rel => exact ⟨l + 1, F0, by omega, HFL.out, rfl, by go_num, HG', Lib.hid HST.out.1, Lib.hid HST.out.2⟩
              case measure => simp [intOf]; omega
            | false =>
              obtain ⟨rm, hrm⟩ : ∃ rm, rm = virt % rc := ⟨_, rfl⟩
              obtain ⟨pa, hpa⟩ : ∃ pa, pa = F0 + rm := ⟨_, rfl⟩
              have e5 : (virt : Int) % (rc : Int) = (rm : Int) := by rw [hrm]; norm_cast
              have e6 : (F0 : Int) + (rm : Int) = (pa : Int) := by omega
              have hrm32 : rm < 1073741824 := by rw [hrm]; have := HRC1.out; have := Nat.mod_lt virt (show 0 < rc by omega); omega
              have hpa64 : pa ≤ 8589934592 := by have := HEF.out; omega
              have e7 : (virt : Int).tmod (rc : Int) = (rm : Int) := by rw [Int.tmod_eq_emod_of_nonneg (by omega)]; exact e5
              have e8 : IntKind.u64.wrap (pa : Int) = (pa : Int) := by rw [IntKind.wrap_u64]; omega
              have HPA : Hid (F0 + virt % rc = pa) := Lib.hid (by rw [hpa, hrm])
              clear hrm hpa hrm32
              by_cases hw : access = 2 ∧ v0 = false
              · have HGE : Hid (G = (0, 43)) := Lib.hid (by rw [HG.out, HTE.out]; simp [hw])
                obtain ⟨rfl, rfl⟩ := hw
                have hG := HGE.out
                subst hG
                clear q0 q4
                go_wp2_with fail
                go_ret2
                exact ⟨rfl, QuS.imp (q := ¬ (0 : Nat) = 42) (HQ3.out) (fun _ => by decide)⟩
              · by_cases hx : access = 3 ∧ x0 = false
                · have HGE : Hid (G = (0, 44)) := Lib.hid (by rw [HG.out, HTE.out]; simp [hx])
                  obtain ⟨rfl, rfl⟩ := hx
                  have hG := HGE.out
                  subst hG
                  clear q0 hw
                  go_wp2_with fail
                  go_ret2
                  exact ⟨rfl, QuS.imp (q := ¬ (0 : Nat) = 42) (HQ3.out) (fun _ => by decide)⟩
                · have HGE : Hid (G = (pa, 0)) := Lib.hid (by rw [HG.out, HTE.out]; simp [hw, hx, HPA.out])
                  have hG := HGE.out
                  subst hG
                  by_cases ha2 : access = 2
                  · have hv0 : v0 = true := by cases v0 with | true => rfl | false => exact absurd ⟨ha2, rfl⟩ hw
                    subst hv0 ha2
                    clear hw hx q4
                    go_upto_region 20 with fail
                    go_region_held3 (fun w' => w'.cell? ⟨c, 0, none⟩ = some (.int .u64 (F0 : Nat)))
                      (first | exact q0)
                      (first
                        | (go_at_call 61; refine (HRC.out _).mono ?_; rintro e w' ⟨rfl, hw⟩; obtain rfl := hw))
                    all_goals
                      go_wp2_with fail
                      go_ret2
                      exact ⟨rfl, (HQ3.out.imp (q' := True) (fun _ => by decide)).below HSI.out ((Below.refl _ _).drew)⟩
                  · by_cases ha3 : access = 3
                    · have hx0 : x0 = true := by cases x0 with | true => rfl | false => exact absurd ⟨ha3, rfl⟩ hx
                      subst hx0 ha3
                      clear hw hx q3
                      go_upto_region 20 with fail
                      go_region_held3 (fun w' => w'.cell? ⟨c, 0, none⟩ = some (.int .u64 (F0 : Nat)))
                        (first | exact q0)
                        (first
                          | (go_at_call 61; refine (HRC.out _).mono ?_; rintro e w' ⟨rfl, hw⟩; obtain rfl := hw))
                      all_goals
                        go_wp2_with fail
                        go_ret2
                        exact ⟨rfl, (HQ3.out.imp (q' := True) (fun _ => by decide)).below HSI.out ((Below.refl _ _).drew)⟩
                    · clear hw hx q3 q4
                      go_upto_region 20 with fail
                      go_region_held3 (fun w' => w'.cell? ⟨c, 0, none⟩ = some (.int .u64 (F0 : Nat)))
                        (first | exact q0)
                        (first
                          | (go_at_call 61; refine (HRC.out _).mono ?_; rintro e w' ⟨rfl, hw⟩; obtain rfl := hw))
                      all_goals
                        go_wp2_with fail
                        go_ret2
                        exact ⟨rfl, (HQ3.out.imp (q' := True) (fun _ => by decide)).below HSI.out ((Below.refl _ _).drew)⟩
          · have HGE : Hid (G = (0, n0)) := Lib.hid (by rw [HG.out, HTE.out, if_pos g0])
            have hG := HGE.out
            subst hG
            have g1 : ((n0 : Int) != 0) = true := by simp; omega
            clear g0 q0 q1 q3 q4
            go_wp2_with fail
            go_ret2
            exact ⟨rfl, HQ3.out⟩
        · have el : l = 3 := by omega
          subst el
          have hE : G = (0, 42) := HG.out
          subst hE
          go_wp2_with fail
          go_ret2
          exact ⟨rfl, (QuS.refl HMR.out).pre HCR.out⟩
      · have hE : G = (0, 42) := by rw [HG.out, trI, if_neg h1, if_neg h4, if_pos h6]
        subst hE
        clear h1
        have f6 : (((root : Int) % 4096) != 0) = true := by simp; omega
        go_wp2_with fail
        go_ret2
        exact ⟨rfl, QuS.refl HM.out⟩
end Bu
end Go.Proofs.YtfpofaniicegaaaGreat

/- The walk of walk.Translate. -/
set_option linter.unusedVariables false
set_option linter.unusedSimpArgs false
namespace Go.Proofs.YtfpofaniicegaaaGreat
open Go.RowKit
open S64
namespace Bu
theorem trw_zero {M : PM} {virt : Nat} {access : Int} : ∀ {k lv tab : Nat}, (trw M virt access k lv tab).2 ≠ 0 → (trw M virt access k lv tab).1 = 0 := by
  intro k
  induction k with
  | zero => intro lv tab _; rfl
  | succ k ih =>
    intro lv tab h
    unfold trw at h ⊢
    split
    · rfl
    rename_i h1
    rw [if_neg h1] at h
    split
    · rename_i h2; rw [if_pos h2] at h; exact ih h
    rename_i h2
    rw [if_neg h2] at h
    split
    · rfl
    rename_i h3
    rw [if_neg h3] at h
    split
    · rfl
    rename_i h4
    rw [if_neg h4] at h
    exact absurd rfl h
theorem trI_zero {M : PM} {root virt : Nat} {access : Int} (h : (trI M root virt access).2 ≠ 0) : (trI M root virt access).1 = 0 := by
  unfold trI at h ⊢
  split
  · rfl
  rename_i h1
  rw [if_neg h1] at h
  split
  · rfl
  rename_i h2
  rw [if_neg h2] at h
  split
  · rfl
  rename_i h3
  rw [if_neg h3] at h
  exact trw_zero h
def TrC (T : TypeId) (v : Value) (S : MemS) : Prop := ∀ (Z R : Nat → Prop) (w : World) (M : PM) (root virt : Nat) (access : Int), S Z R w M → True → root ≤ TOP → virt ≤ TOP →
    Calls Tryz.prog 21 #[.iface T v, .int .u64 (root : Nat), .int .u64 (virt : Nat), .int .i64 access] w fun e w' => e = .returned (.tuple #[.int .u64 ((trI M root virt access).1 : Nat), flt (trI M root virt access).2 virt]) ∧ QuS S Z R w M ((trI M root virt access).2 ≠ 42) w'
set_option maxRecDepth 100000 in
set_option maxHeartbeats 1000000 in
theorem translateT_any {T : TypeId} {v : Value} {S : MemS} (hS : MemI S) (hC : EntC T v S) : TrC T v S := by
  intro Z R w M root virt access hm hs hr hv
  have HM := Lib.hid hm; have HSI := Lib.hid hS
  have HTR : Hid (∀ wx, Below w.heap.size w wx → Calls Tryz.prog 38 #[.iface T v, .int .u64 (root : Nat), .int .u64 (virt : Nat), .int .i64 access] wx fun e w' => e = .returned (.tuple #[.int .u64 ((trI M root virt access).1 : Nat), .int .i64 ((trI M root virt access).2 : Nat)]) ∧ QuS S Z R wx M ((trI M root virt access).2 ≠ 42) w') := Lib.hid (fun wx hb => translate_any hS hC Z R wx M root virt access (hS.below hm hb) hs hr hv)
  have HZ := Lib.hid (trI_zero (M := M) (root := root) (virt := virt) (access := access))
  obtain ⟨G, hG⟩ : ∃ G, G = trI M root virt access := ⟨_, rfl⟩
  rw [← hG] at HTR HZ ⊢
  obtain ⟨p, n⟩ := G
  simp only at HTR HZ ⊢
  have HNZ : Hid (∀ k, Z k ∨ R k → k < w.heap.size) := Lib.hid (fun k hk => by rcases hk with hk | hk; exact hS.z hm k hk; exact hS.r hm k hk)
  clear hm hs hS hC hG hr hv
  go_enter Tryz.func21, Tryz.ntmps21
  go_upto_region 1 with fail
  have hra := Row.new w 57 [.int .i64 0, .int .u64 0]
  have hb0 : Below w.heap.size w (w.alloc (.cells #[.int .i64 0, .int .u64 0] 57)) := (Below.refl _ _).alloc (Nat.le_refl _) _
  have HT0 := Lib.hid (HTR.out _ hb0)
  obtain ⟨c, hc⟩ : ∃ c, c = w.heap.size := ⟨_, rfl⟩
  generalize w.alloc (.cells #[.int .i64 0, .int .u64 0] 57) = w1 at *
  rw [← hc] at hra ⊢
  have HC := Lib.hid hc
  have HB0 := Lib.hid hb0
  have HRA := Lib.hid hra
  clear hra hb0 hc HTR
  go_wp2_with fail
  refine HT0.out.mono ?_
  rintro e w2 ⟨rfl, hq⟩
  have HRA2 := Lib.hid ((show ChgP Z w1 w2 from hq.choose_spec.2.2.2).row HRA.out (fun h => by have := HNZ.out c (.inl h); have := HC.out; omega))
  have HQ2 := Lib.hid (hq.pre (ChgP.of_below (Z := Z) HB0.out))
  clear hq HT0
  have q0 := HRA2.out.cell 0
  have q1 := HRA2.out.cell 1
  have la := HRA2.out.lt
  have y0 := HRA2.out.frozen 0
  have y1 := HRA2.out.frozen 1
  simp only [List.getElem?_cons_zero, List.getElem?_cons_succ] at q0 q1
  by_cases hn : n = 0
  · subst hn
    have HY0 := Lib.hid ((HRA2.out.set_ 0 (.int .i64 0)).cell 0)
    have HY1 := Lib.hid (((HRA2.out.set_ 0 (.int .i64 0)).set_ 1 (.int .u64 0)).cell 1)
    simp only [List.set_cons_zero, List.set_cons_succ, List.getElem?_cons_zero, List.getElem?_cons_succ] at HY0 HY1
    go_wp2_with fail
    refine bodyPost_ret (v := .tuple #[.int .u64 (p : Nat), .agg #[.int .i64 0, .int .u64 0]]) (by simp [results, Tryz.results21, go_sem, HY0.out, HY1.out]) rfl ⟨rfl, (HQ2.out.imp (fun _ => by decide)).chg HSI.out (Y := fun k => k = c) ?_ HM.out (fun k hk => by rw [show k = c from hk, HC.out]; exact Nat.le_refl _)⟩
    exact ((ChgP.refl (fun k => k = c) w2).set_ (p := ⟨c, 0, none⟩) (.inl rfl) _).set_ (p := ⟨c, 1, none⟩) (.inl rfl) _
  · have hp : p = 0 := HZ.out hn
    subst hp
    have f1 : ((n : Int) != 0) = true := by simp; omega
    have HF : Hid (flt n virt = .agg #[.int .i64 (n : Nat), .int .u64 (virt : Nat)]) := Lib.hid (by unfold flt; rw [if_neg hn]; rfl)
    have HY0 := Lib.hid ((HRA2.out.set_ 0 (.int .i64 (n : Nat))).cell 0)
    have HY1 := Lib.hid (((HRA2.out.set_ 0 (.int .i64 (n : Nat))).set_ 1 (.int .u64 (virt : Nat))).cell 1)
    simp only [List.set_cons_zero, List.set_cons_succ, List.getElem?_cons_zero, List.getElem?_cons_succ] at HY0 HY1
    clear hn
    go_wp2_with fail
    refine bodyPost_ret (v := .tuple #[.int .u64 0, .agg #[.int .i64 (n : Nat), .int .u64 (virt : Nat)]]) (by simp [results, Tryz.results21, go_sem, HY0.out, HY1.out]) rfl ⟨by rw [HF.out]; rfl, HQ2.out.chg HSI.out (Y := fun k => k = c) ?_ HM.out (fun k hk => by rw [show k = c from hk, HC.out]; exact Nat.le_refl _)⟩
    exact ((ChgP.refl (fun k => k = c) w2).set_ (p := ⟨c, 0, none⟩) (.inl rfl) _).set_ (p := ⟨c, 1, none⟩) (.inl rfl) _
end Bu
end Go.Proofs.YtfpofaniicegaaaGreat
