/- Texts of this claim, one behind the other: PrU, PrV, PrW. -/
import Derived.Test.YtblfagmoilhdnaaJPagesTold29
import Derived.Deep.RegionHeld3
import Derived.Deep.Cut
import Derived.Deep.DeepCutAuto
import Derived.Test.YtblfagmoilhdnaaJPagesTold26
/- The walk of the document's list of tables. -/
set_option linter.unusedVariables false
set_option linter.unusedSimpArgs false
namespace Go.Proofs.Ytblfagmoilhdnaa
open Go.RowKit
theorem hold_one {wq w1 w2 : World} {g o : Nat} {V : Value} (h : w1.cell? ⟨g, o, none⟩ = some V ∧ Below wq.heap.size wq w1) (hb : Below w1.heap.size w1 w2) (hg : g < wq.heap.size) : w2.cell? ⟨g, o, none⟩ = some V ∧ Below wq.heap.size wq w2 :=
  ⟨(hb.cell (p := ⟨g, o, none⟩) (Nat.lt_of_lt_of_le hg h.2.size)).trans h.1, h.2.trans (hb.mono h.2.size)⟩
theorem hold_o {wq w1 : World} {g o : Nat} {V : Value} (h : w1.cell? ⟨g, o, none⟩ = some V ∧ Below wq.heap.size wq w1) : Below wq.heap.size wq w1 := h.2
def mes (E : Nat) (v : Value) : Nat := E + 2097152 - (intOf v).toNat
theorem mes_lt {E V : Nat} (h : V < E) : mes E (.int .u64 ((V : Int) + 2097152)) < mes E (.int .u64 (V : Int)) := by
  have e1 : (intOf (.int .u64 ((V : Int) + 2097152))).toNat = V + 2097152 := by
    show ((V : Int) + 2097152).toNat = _
    omega
  have e2 : (intOf (.int .u64 (V : Int))).toNat = V := by
    show ((V : Int)).toNat = _
    omega
  unfold mes
  rw [e1, e2]
  omega
theorem mes_lt' {E V : Nat} (h : V < E) : mes E (.int .u64 ((V + 2097152 : Nat) : Int)) < mes E (.int .u64 (V : Int)) := by
  rw [Int.natCast_add]
  exact mes_lt h
set_option maxRecDepth 100000 in
set_option maxHeartbeats 4000000 in
theorem tables_any (A : Option Addr) (n c : Nat) (rows : List Pg.Lf) (w : World) (hr : IsL w w.heap.size A n rows) (hok : Pg.right 0 rows = 0) :
    Calls Try.prog 59 #[.slice A n c] w fun e w' => ∃ A' c' ln, e = .returned (.slice A' ln c') ∧ TS w w' A' ln c' (Pg.refT rows) := by
  obtain ⟨b, off, HF⟩ := hr.form
  have HL := Lib.hid hr.2.2.1
  have HIN := Lib.hid hr.2.1
  have HOK := Lib.hid (Pg.right_all hok)
  have hn := hr.2.2.2
  clear hr hok
  obtain ⟨i0, hi0, hz1, hz2, hz3⟩ := info_parts infoR
  obtain ⟨hz, hsz⟩ := zero_of_info infoRZ
  have hbu := builtR
  have hset0 := rz_set0
  have hset := rz_set
  obtain ⟨Z, hZ⟩ : ∃ Z, Z = rz 0 0 := ⟨_, rfl⟩
  rw [← hZ] at hz hz1 hset0
  have hset' : ∀ l v : Int, (Z.set 0 (.int .i64 l)).set 1 (.int .u64 v) = rz l v := by rw [hZ]; exact hset
  have hzl : Z.length = 514 := by rw [hZ, rz_len]
  have hzn : ¬ (Z = []) := fun h => by rw [h] at hzl; cases hzl
  have HBU0 : Hid (∀ wx : World, (Instr.buildSlice 117 1 #[(0, .agg (Z.set 0 (.int .i64 0)).toArray)]).run Try.prog wx = .ok (.slice (some ⟨wx.heap.size, 0, none⟩) 1 1) (wx.alloc (.cells Z.toArray 120))) := Lib.hid fun wx => by rw [hset0, hZ]; exact hbu 0 0 wx
  have HBU : Hid (∀ (l v : Int) (wx : World), (Instr.buildSlice 117 1 #[(0, .agg ((Z.set 0 (.int .i64 l)).set 1 (.int .u64 v)).toArray)]).run Try.prog wx = .ok (.slice (some ⟨wx.heap.size, 0, none⟩) 1 1) (wx.alloc (.cells (rz l v).toArray 120))) := Lib.hid fun l v wx => by rw [hset']; exact hbu l v wx
  have HRD : Hid (∀ (l v : Int) (wx : World), Reads (wx.alloc (.cells (rz l v).toArray 120)) (wx.alloc (.cells (rz l v).toArray 120)).heap.size 514 (some ⟨wx.heap.size, 0, none⟩) 1 (rz l v)) := Lib.hid (by
    intro l v wx
    have h := (Row.new wx 120 (rz l v))
    refine ⟨by rw [rz_len], fun _ => ⟨_, rfl, h.lt, fun j u hu => ?_⟩⟩
    rw [Addr.add_mid, Nat.zero_add, h.cell, hu])
  have HTS0 : Hid (TS w (w.alloc (.cells Z.toArray 120)) (some ⟨w.heap.size, 0, none⟩) 1 1 [(0, 0)]) := Lib.hid (by
    have h := Row.new w 120 Z
    have hc : rcells (zt [(0, 0)]) = Z := by
      rw [hZ]
      show rcell ((0, 0), Pg.zero512) ++ [] = _
      rw [rz_cell, List.append_nil]
      rfl
    refine ⟨⟨by rw [hc, hzl], .inr ⟨w.heap.size, 1, Z.toArray, rfl, Nat.le_refl _, h, Nat.le_refl _, by decide, by simp [hzl], ?_⟩⟩, rfl, (Below.refl _ _).alloc (Nat.le_refl _) _⟩
    rw [hc]
    show List.take (1 * 514) Z = Z
    rw [List.take_of_length_le (by omega)])
  have HI := Lib.hid hi0; have HZ1 := Lib.hid hz1; have HZ2 := Lib.hid hz2; have HZ3 := Lib.hid hz3; have HZL := Lib.hid hzl
  clear hbu hset0 hset hset' hi0 hz1 hz2 hz3 hZ hsz
  go_enter Try.func59, Try.ntmps59
  go_wp2_with (refine wpList_built (V := .agg (Z.set 0 (.int .i64 0)).toArray) (by rfl) 117 (.tmp 7) rfl (by rfl) (HBU0.out _) ?_)
  go_loopw [4, 3] (fun i l wr => ∃ (k : Nat) (A3 : Option Addr) (ln c3 : Nat), k ≤ n ∧ i = .int .i64 k ∧ l = .slice A3 ln c3 ∧ Hid (TS w wr A3 ln c3 (Pg.capF (Pg.stepsOf (rows.take k)) [(0, 0)])) ∧ ln ≤ 1026) (fun i _ _ => n - (intOf i).toNat)
  case atStart => exact ⟨0, _, 1, 1, by omega, rfl, rfl, HTS0, by omega⟩
  case round =>
    clear HTS0
    obtain ⟨k, A3, ln, c3, hk, rfl, rfl, HT, hln⟩ := hrel
    by_cases hkn : k < n
    · obtain ⟨hA, hbB, hc⟩ := HF.out (by omega)
      subst hA
      obtain ⟨r, hrk⟩ : ∃ r, rows[k]? = some r := ⟨_, List.getElem?_eq_getElem (by have := HL.out; omega)⟩
      have hIn := HIN.out r (List.mem_of_getElem? hrk)
      have hOk := HOK.out r (List.mem_of_getElem? hrk)
      have htk : rows.take (k + 1) = rows.take k ++ [r] := by rw [List.take_add_one, hrk]; rfl
      have HBL := HT.out.2.2
      have c0 := (HBL.cell (p := ⟨b, off + k * 6, none⟩) hbB).trans (hc k r hrk 0 _ rfl)
      have c2 := (HBL.cell (p := ⟨b, off + k * 6 + 2, none⟩) hbB).trans (hc k r hrk 2 _ rfl)
      have HC3 : Hid (∀ wx : World, Below w.heap.size w wx → wx.cell? ⟨b, off + k * 6 + 3, none⟩ = some (.bool r.b)) := Lib.hid fun wx hb => (hb.cell (p := ⟨b, off + k * 6 + 3, none⟩) hbB).trans (hc k r hrk 3 _ rfl)
      have hkk : (k : Int) < (n : Int) := by omega
      have hk0 : (0 : Int) ≤ (k : Int) := by omega
      obtain ⟨N, hN⟩ : ∃ N : Nat, r.n = (N : Int) := ⟨r.n.toNat, by have := hOk.n1; omega⟩
      have hNt : r.n.toNat = N := by omega
      have hvl := hOk.vl
      have hn1 := hOk.n1
      rw [hNt] at hvl
      rw [hN] at c2 hn1
      obtain ⟨v, hv⟩ : ∃ v, v = r.v := ⟨_, rfl⟩
      rw [← hv] at c0 hvl
      obtain ⟨E, hE⟩ : ∃ E, E = v + N * 4096 := ⟨_, rfl⟩
      obtain ⟨M0, hM0⟩ : ∃ M0, M0 = v / 2097152 := ⟨_, rfl⟩
      have w1 : IntKind.u64.wrap (N : Int) = (N : Int) := by rw [IntKind.wrap_u64]; omega
      have w2 : IntKind.u64.wrap ((N : Int) * 4096) = (N : Int) * 4096 := by rw [IntKind.wrap_u64]; omega
      have w3 : IntKind.u64.wrap ((v : Int) + (N : Int) * 4096) = (E : Int) := by rw [IntKind.wrap_u64]; omega
      have w4 : bits .andNot .u64 (v : Int) 2097151 = ((M0 * 2097152 : Nat) : Int) := by rw [hM0]; exact andn_b2 v (by omega)
      have w5 : IntKind.u64.wrap 2097151 = 2097151 := by decide
      have w6 : IntKind.u64.wrap 1073741823 = 1073741823 := by decide
      obtain ⟨V0, hV0⟩ : ∃ V0, V0 = M0 * 2097152 := ⟨_, rfl⟩
      rw [← hV0] at w4
      have HST : Hid (r.steps = Pg.stepsR r.b M0 ((E + 2097151) / 2097152 - M0)) := Lib.hid (by unfold Pg.Lf.steps Pg.Lf.win; rw [hM0, hE, hv, hNt])
      obtain ⟨T, hT⟩ : ∃ T, T = (E + 2097151) / 2097152 - M0 := ⟨_, rfl⟩
      rw [← hT] at HST
      obtain ⟨L0, hL0⟩ : ∃ L0, L0 = Pg.capF (Pg.stepsOf (rows.take k)) [(0, 0)] := ⟨_, rfl⟩
      rw [← hL0] at HT
      have HNX : Hid (Pg.capF (Pg.stepsOf (rows.take (k + 1))) [(0, 0)] = Pg.capF (Pg.stepsR r.b M0 T) L0) := Lib.hid (by
        rw [htk]
        unfold Pg.stepsOf
        rw [List.flatMap_append, Pg.capF_app, List.flatMap_cons, List.flatMap_nil, List.append_nil, HST.out, hL0]
        rfl)
      have HTE : Hid (∀ j, j ≤ T → ((M0 + j) * 2097152 < E ↔ j < T)) := Lib.hid fun j hj => by omega
      have HTB : Hid (E ≤ 549755813888 ∧ M0 * 2097152 ≤ E) := Lib.hid ⟨by omega, by omega⟩
      have HV0 := Lib.hid hV0
      obtain ⟨bg, hbg⟩ : ∃ bg, bg = r.b := ⟨_, rfl⟩
      rw [← hbg] at HNX HC3
      clear hrk hIn hOk htk HBL hc hN hNt hvl hn1 hv hE hM0 hT hL0 HST hV0 hbg HF
      go_wp2_with fail
      go_quiet (fail)
      have HT1 := Lib.hid (HT.out.drewN nq)
      obtain ⟨wq, hwq⟩ : ∃ wq, wq = wr.drewN nq := ⟨_, rfl⟩
      have d0 : wq.cell? ⟨b, off + k * 6, none⟩ = some (.int .u64 (v : Nat)) := by rw [hwq]; exact c0
      rw [← hwq] at HT1 ⊢
      clear c0 c2 w1 w2 w3 hwq HT
      go_upto_region 6 with fail
      have hbq : b < wq.heap.size := by have := HT1.out.2.2.size; omega
      first | go_region_held3 (fun w' => w'.cell? ⟨b, off + k * 6, none⟩ = some (.int .u64 (v : Nat)) ∧ Below wq.heap.size wq w')
        (first | exact ⟨d0, (Below.refl _ _).drew⟩ | (refine hold_one (wq := wq) (g := b) (o := off + k * 6) (V := .int .u64 (v : Nat)) ?_ hb' hbq; assumption))
        (first | (go_at_call 60; refine (reach2_any _).mono ?_; rintro e w' ⟨rfl, hb'⟩)) | fail
      have hbz : Below wq.heap.size wq w' := by refine hold_o (g := b) (o := off + k * 6) (V := .int .u64 (v : Nat)) ?_; assumption
      have HT2 := Lib.hid (HT1.out.below hbz)
      clear hbz hb' d0 hbq w4
      go_wp2_with fail
      go_loopw [6, 3] (fun x l wr => ∃ (j : Nat) (V2 : Nat) (A3 : Option Addr) (ln c3 : Nat), x = .int .u64 (V2 : Nat) ∧ l = .slice A3 ln c3 ∧ Hid (V2 = (M0 + j) * 2097152) ∧ Hid (j ≤ T) ∧ Hid (TS w wr A3 ln c3 (Pg.capF (Pg.stepsR bg M0 j) L0)) ∧ ln ≤ 1026) (fun x _ _ => mes E x)
      case atStart => exact ⟨0, V0, A3, ln, c3, rfl, rfl, Lib.hid HV0.out, Lib.hid (Nat.zero_le _), HT2, hln⟩
      case round =>
        clear HT1 HT2 hln
        obtain ⟨j, V2, A3, ln, c3, rfl, rfl, HV2, HJ, HT, hln⟩ := hrel
        have hv2 : V2 ≤ 549755813888 + 2097152 := by
          have h1 := HV2.out
          have h2 := HJ.out
          have h3 := HTB.out
          rcases Nat.eq_zero_or_pos j with h0 | h0
          · rw [h0, Nat.add_zero] at h1; omega
          · have h4 := (HTE.out (j - 1) (by omega)).2 (by omega)
            have h5 : (M0 + j) * 2097152 = (M0 + (j - 1)) * 2097152 + 2097152 := by rw [← Nat.succ_mul]; congr 1; omega
            omega
        by_cases hlt : V2 < E
        · by_cases hmax : ln ≤ 1024
          · have f1 : decide ((V2 : Int) < (E : Int)) = true := decide_eq_true (by omega)
            have f2 : decide ((ln : Int) ≤ 1024) = true := decide_eq_true (by omega)
            have HNJ : Hid (j < T) := Lib.hid ((HTE.out j HJ.out).1 (by rw [← HV2.out]; exact hlt))
            obtain ⟨L, hLd⟩ : ∃ L, L = Pg.capF (Pg.stepsR bg M0 j) L0 := ⟨_, rfl⟩
            rw [← hLd] at HT
            obtain ⟨M, hM⟩ : ∃ M, M = M0 + j := ⟨_, rfl⟩
            rw [← hM] at HV2
            have HLN : Hid (Pg.capF (Pg.stepsR bg M0 (j + 1)) L0 = Pg.tabM L bg M) := Lib.hid (by
              rw [Pg.stepsR_snoc, cap_next (by rw [← hLd, ← HT.out.2.1]; exact hmax), hLd, hM])
            have HM := Lib.hid hM
            obtain ⟨W1, hW1⟩ : ∃ W1, W1 = V2 / 1073741824 * 1073741824 := ⟨_, rfl⟩
            have w7 : bits .andNot .u64 (V2 : Int) 1073741823 = (W1 : Int) := by rw [hW1]; exact andn_b1 V2 (by omega)
            have w8 : IntKind.u64.wrap ((V2 : Int) + 2097152) = ((V2 + 2097152 : Nat) : Int) := by rw [IntKind.wrap_u64]; omega
            have HW1 : Hid (vOf (1, M / 512) = W1) := Lib.hid (by
              show M / 512 * (if 1 = 1 then 1073741824 else _) = W1
              rw [if_pos rfl, hW1, HV2.out]
              omega)
            have HW2 : Hid (vOf (2, M) = V2) := Lib.hid (by
              show M * (if 2 = 1 then _ else if 2 = 2 then 2097152 else _) = V2
              rw [if_neg (by decide), if_pos rfl, HV2.out])
            clear hLd hM hW1
            go_upto_region 9 with fail
            have HLT := Lib.hid hlt
            clear hlt f1 f2
            obtain ⟨B1, hB1⟩ : ∃ B1, B1 = decide ((1, M / 512) ∈ L) := ⟨_, rfl⟩
            have HHAS : Hid (∀ wx, HasR wx A3 L → Calls Try.prog 79 #[.slice A3 ln c3, .int .i64 1, .int .u64 (W1 : Nat)] wx fun e w' => e = .returned (.bool B1) ∧ w' = wx) := Lib.hid fun wx hx => by
              have h := has_any A3 ln c3 L (1, M / 512) wx hx HT.out.2.1 (by omega)
              rw [HW1.out] at h
              rw [hB1]
              exact h
            have HHR := Lib.hid HT.out.has
            have HB1 := Lib.hid hB1
            clear hB1
            go_upto_if 53 with (first | (go_at_call 60; refine (reach1_any _).mono ?_; rintro e wa ⟨rfl, hba⟩; have HBA := Lib.hid hba; clear hba) | (go_at_call 79; refine (HHAS.out _ (HHR.out.below HBA.out)).mono ?_; rintro e wb ⟨rfl, rfl⟩))
            have HTA := Lib.hid (HT.out.below HBA.out)
            clear HT HBA HHAS HHR
            go_cut [3] (fun x wx => ∃ (A4 : Option Addr) (ln4 c4 : Nat), x = .slice A4 ln4 c4 ∧ Hid (TS w wx A4 ln4 c4 (Pg.ens L (1, M / 512))))
            case first =>
              cases hB : B1 with
              | true =>
                have HMM : Hid ((1, M / 512) ∈ L) := Lib.hid (by have := HB1.out; rw [hB] at this; exact of_decide_eq_true this.symm)
                go_wp2_with fail
                go_meet
                case rel => exact ⟨A3, ln, c3, rfl, Lib.hid (HTA.out.same HMM.out)⟩
              | false =>
                have HMM : Hid ((1, M / 512) ∉ L) := Lib.hid (by have := HB1.out; rw [hB] at this; exact of_decide_eq_false this.symm)
                go_wp2_with (first | (go_at_call 60; refine (reach1_any _).mono ?_; rintro e wa ⟨rfl, hba⟩; have HBA2 := Lib.hid hba; clear hba) | (refine wpList_built (V := .agg ((Z.set 0 (.int .i64 1)).set 1 (.int .u64 (W1 : Nat))).toArray) (by rfl) 117 (.tmp 59) rfl (by rfl) (HBU.out _ _ _) ?_) | (at_builtin; refine wpList_append_sl _ (by rfl) (.tmp 54) (.tmp 60) 117 rfl w.heap.size 120 i0 _ 514 4112 Try.underlying117 HI.out HZ1.out HZ2.out HZ3.out (by show Z.toArray.size = 514; simpa using hzl) (by omega) (.slice A3 ln c3) ln (rcells (zt L)) rfl ((HTA.out.below HBA2.out).1.alloc _) _ (some ⟨_, 0, none⟩) 1 1 (rz 1 (W1 : Nat)) rfl (HRD.out _ _ _) (rz_one _ _) (by unfold maxLen; omega) (by omega) (by have := ((HTA.out.below HBA2.out)).2.2.size; simp; omega) ?_; intro A1 c1' w1 hown1 hrd1 hg1 hat1; have HOWN1 := Lib.hid hown1; have HG1 := Lib.hid hg1; clear hown1 hrd1 hg1 hat1))
                go_meet
                case rel => exact ⟨A1, ln + 1, c1', rfl, Lib.hid ((HTA.out.below HBA2.out).app (s := (1, M / 512)) _ HMM.out (by have := HOWN1.out; rw [HW1.out]; exact this) HG1.out)⟩
            case rest =>
              obtain ⟨A4, ln4, c4, rfl, HT4⟩ := hcut
              have HL4 : Hid (L.length ≤ 1024 ∧ (Pg.ens L (1, M / 512)).length ≤ L.length + 1) := Lib.hid ⟨by have := HTA.out.2.1; omega, (Pg.ens_len _ _).2⟩
              obtain ⟨L4, hL4⟩ : ∃ L4, L4 = Pg.ens L (1, M / 512) := ⟨_, rfl⟩
              rw [← hL4] at HT4 HL4
              have hln4 : ln4 ≤ 1025 := by have := HT4.out.2.1; have := HL4.out; omega
              have d3 := HC3.out wc HT4.out.2.2
              clear HTA HB1
              cases hbb : bg with
              | true =>
                rw [hbb] at d3
                have HTM : Hid (Pg.tabM L bg M = L4) := Lib.hid (by rw [hbb, hL4]; rfl)
                clear hL4
                go_wp2_with (first | (go_at_call 60; refine (reach2_any _).mono ?_; rintro e wa ⟨rfl, hba⟩; have HBA5 := Lib.hid hba; clear hba))
                go_roundw
                case rel =>
                  refine ⟨j + 1, V2 + 2097152, A4, ln4, c4, by go_num, rfl, Lib.hid ?_, Lib.hid HNJ.out, Lib.hid ?_, ?_⟩
                  · have h1 := HV2.out; have h2 := HM.out; omega
                  · rw [HLN.out, HTM.out]; exact (HT4.out).below HBA5.out
                  · have := (HT4.out).2.1; have := HL4.out; omega
                case measure => first | exact mes_lt HLT.out | exact mes_lt' HLT.out
              | false =>
                rw [hbb] at d3
                have HTM : Hid (Pg.tabM L bg M = Pg.ens L4 (2, M)) := Lib.hid (by rw [hbb, hL4]; rfl)
                clear hL4
                obtain ⟨B2, hB2⟩ : ∃ B2, B2 = decide ((2, M) ∈ L4) := ⟨_, rfl⟩
                have HHAS : Hid (∀ wx, HasR wx A4 L4 → Calls Try.prog 79 #[.slice A4 ln4 c4, .int .i64 2, .int .u64 (V2 : Nat)] wx fun e w' => e = .returned (.bool B2) ∧ w' = wx) := Lib.hid fun wx hx => by
                  have h := has_any A4 ln4 c4 L4 (2, M) wx hx HT4.out.2.1 (by omega)
                  rw [HW2.out] at h
                  rw [hB2]
                  exact h
                have HHR := Lib.hid HT4.out.has
                have HB2 := Lib.hid hB2
                clear hB2
                go_upto_if 73 with (first | (go_at_call 79; refine (HHAS.out _ HHR.out).mono ?_; rintro e wb ⟨rfl, rfl⟩))
                cases hB : B2 with
                | true =>
                  have HMM : Hid ((2, M) ∈ L4) := Lib.hid (by have := HB2.out; rw [hB] at this; exact of_decide_eq_true this.symm)
                  have HT5 := Lib.hid (HT4.out.same HMM.out)
                  go_wp2_with (first | (go_at_call 60; refine (reach2_any _).mono ?_; rintro e wa ⟨rfl, hba⟩; have HBA5 := Lib.hid hba; clear hba))
                  go_roundw
                  case rel =>
                    refine ⟨j + 1, V2 + 2097152, A4, ln4, c4, by go_num, rfl, Lib.hid ?_, Lib.hid HNJ.out, Lib.hid ?_, ?_⟩
                    · have h1 := HV2.out; have h2 := HM.out; omega
                    · rw [HLN.out, HTM.out]; exact (HT5.out).below HBA5.out
                    · have := (HT5.out).2.1; have := HL4.out; omega
                  case measure => first | exact mes_lt HLT.out | exact mes_lt' HLT.out
                | false =>
                  have HMM : Hid ((2, M) ∉ L4) := Lib.hid (by have := HB2.out; rw [hB] at this; exact of_decide_eq_false this.symm)
                  clear HHAS HHR
                  go_wp2_with (first | (go_at_call 60; refine (reach2_any _).mono ?_; rintro e wa ⟨rfl, hba⟩; have HBA5 := Lib.hid hba; clear hba) | (refine wpList_built (V := .agg ((Z.set 0 (.int .i64 2)).set 1 (.int .u64 (V2 : Nat))).toArray) (by rfl) 117 (.tmp 76) rfl (by rfl) (HBU.out _ _ _) ?_) | (at_builtin; refine wpList_append_sl _ (by rfl) (.tmp 74) (.tmp 77) 117 rfl w.heap.size 120 i0 _ 514 4112 Try.underlying117 HI.out HZ1.out HZ2.out HZ3.out (by show Z.toArray.size = 514; simpa using hzl) (by omega) (.slice A4 ln4 c4) ln4 (rcells (zt L4)) rfl (HT4.out.1.alloc _) _ (some ⟨_, 0, none⟩) 1 1 (rz 2 (V2 : Nat)) rfl (HRD.out _ _ _) (rz_one _ _) (by unfold maxLen; omega) (by omega) (by have := HT4.out.2.2.size; simp; omega) ?_; intro A1 c1' w1 hown1 hrd1 hg1 hat1; have HOWN1 := Lib.hid hown1; have HG1 := Lib.hid hg1; clear hown1 hrd1 hg1 hat1))
                  go_roundw
                  case rel =>
                    have HT5 : TS w w1 A1 (ln4 + 1) c1' (Pg.ens L4 (2, M)) := HT4.out.app (s := (2, M)) _ HMM.out (by have := HOWN1.out; rw [HW2.out]; exact this) HG1.out
                    refine ⟨j + 1, V2 + 2097152, A1, ln4 + 1, c1', by go_num, rfl, Lib.hid ?_, Lib.hid HNJ.out, Lib.hid ?_, by omega⟩
                    · have h1 := HV2.out; have h2 := HM.out; omega
                    · rw [HLN.out, HTM.out]; exact HT5.below HBA5.out
                  case measure => first | exact mes_lt HLT.out | exact mes_lt' HLT.out
          · have f1 : decide ((V2 : Int) < (E : Int)) = true := decide_eq_true (by omega)
            have f2 : decide ((ln : Int) ≤ 1024) = false := decide_eq_false (by omega)
            have HEND : Hid (Pg.capF (Pg.stepsR bg M0 j) L0 = Pg.capF (Pg.stepsOf (rows.take (k + 1))) [(0, 0)]) := Lib.hid (by
              rw [HNX.out, steps_split bg M0 j T HJ.out, cap_end (by rw [← HT.out.2.1]; omega)])
            go_wp2_with fail
            go_roundw
            case rel => exact ⟨k + 1, A3, ln, c3, by omega, by go_num, rfl, Lib.hid (by rw [← HEND.out]; exact HT.out), hln⟩
            case measure => simp [intOf] <;> omega
        · have f1 : decide ((V2 : Int) < (E : Int)) = false := decide_eq_false (by omega)
          have HEND : Hid (Pg.capF (Pg.stepsR bg M0 j) L0 = Pg.capF (Pg.stepsOf (rows.take (k + 1))) [(0, 0)]) := Lib.hid (by
            have h1 := HTE.out j HJ.out
            have h2 := HV2.out
            have h3 := HJ.out
            have : j = T := by omega
            rw [HNX.out, this])
          go_wp2_with fail
          go_roundw
          case rel => exact ⟨k + 1, A3, ln, c3, by omega, by go_num, rfl, Lib.hid (by rw [← HEND.out]; exact HT.out), hln⟩
          case measure => simp [intOf] <;> omega
    · have HK : Hid (k = n) := Lib.hid (by omega)
      have HT9 : Hid (TS w wr A3 ln c3 (Pg.refT rows)) := Lib.hid (by
        have h := HT.out
        rw [HK.out, List.take_of_length_le (Nat.le_of_eq HL.out)] at h
        exact h)
      have f1 : decide ((k : Nat) < n) = false := decide_eq_false hkn
      clear HT
      go_wp2_with fail
      go_ret
      exact ⟨A3, c3, ln, rfl, HT9.out⟩
end Go.Proofs.Ytblfagmoilhdnaa

/- What the document's tables are while they are filled: labels and entries, in memory. -/
set_option linter.unusedVariables false
set_option linter.unusedSimpArgs false
namespace Go.Proofs.Ytblfagmoilhdnaa
open Go.RowKit
theorem zip_set {L : List Pg.Lab} {all : List (List Nat)} {i : Nat} {s : Pg.Lab} (hs : L[i]? = some s) (hi : i < all.length) (e x : Nat) : (L.zip all).set i (s, (all.getD i []).set e x) = L.zip (Pg.setE all i e x) := by
  unfold Pg.setE
  induction L generalizing i all with
  | nil => simp at hs
  | cons a r ih =>
    cases all with
    | nil => simp at hi
    | cons b t =>
      cases i with
      | zero =>
        injection hs with hs
        subst hs
        rfl
      | succ i =>
        have := ih (i := i) (all := t) hs (by simpa using hi)
        simp only [List.zip_cons_cons, List.set_cons_succ, List.getD_cons_succ] at this ⊢
        rw [this]
theorem zip_at {L : List Pg.Lab} {all : List (List Nat)} {i : Nat} {s : Pg.Lab} (hs : L[i]? = some s) (hi : i < all.length) : (L.zip all)[i]? = some (s, all.getD i []) := by
  rw [List.getElem?_zip_eq_some]
  refine ⟨hs, ?_⟩
  rw [List.getElem?_eq_getElem hi, List.getD_eq_getElem?_getD, List.getElem?_eq_getElem hi]
  rfl
theorem zt_zip (L : List Pg.Lab) : zt L = L.zip (List.replicate L.length Pg.zero512) := by
  induction L with
  | nil => rfl
  | cons a r ih =>
    rw [List.length_cons, List.replicate_succ, List.zip_cons_cons, ← ih]
    rfl
/-- the tables as they are filled -/
def RS (w wx : World) (A : Option Addr) (ln c : Nat) (L : List Pg.Lab) (all : List (List Nat)) : Prop := wx.ownsRow w.heap.size 120 514 (.slice A ln c) ln (rcells (L.zip all)) ∧ ln = L.length ∧ all.length = L.length ∧ (∀ a ∈ all, a.length = 512) ∧ Below w.heap.size w wx
theorem RS.tab {w wx : World} {A : Option Addr} {ln c : Nat} {L : List Pg.Lab} {all : List (List Nat)} (h : RS w wx A ln c L all) : RTab (L.zip all) := by
  intro t ht
  obtain ⟨a, b⟩ := t
  exact h.2.2.2.1 _ (List.of_mem_zip ht).2
theorem RS.has {w wx : World} {A : Option Addr} {ln c : Nat} {L : List Pg.Lab} {all : List (List Nat)} (h : RS w wx A ln c L all) : HasR wx A L := by
  have hz : (L.zip all).length = ln := by rw [List.length_zip, h.2.2.1, h.2.1, Nat.min_self]
  have ho : OwnR wx w.heap.size A c (L.zip all) := ⟨by rw [hz]; exact h.1, h.tab⟩
  have := ho.has
  rwa [List.map_fst_zip (by rw [h.2.2.1]; exact Nat.le_refl _)] at this
theorem RS.below {w wx wy : World} {A : Option Addr} {ln c : Nat} {L : List Pg.Lab} {all : List (List Nat)} (h : RS w wx A ln c L all) (hb : Below wx.heap.size wx wy) : RS w wy A ln c L all :=
  ⟨owns_chg h.1 (Chg.of_below (S := []) hb) (by simp), h.2.1, h.2.2.1, h.2.2.2.1, h.2.2.2.2.trans (hb.mono h.2.2.2.2.size)⟩
theorem RS.drewN {w wx : World} {A : Option Addr} {ln c : Nat} {L : List Pg.Lab} {all : List (List Nat)} (h : RS w wx A ln c L all) (m : Nat) : RS w (wx.drewN m) A ln c L all := h.below (below_drewN (Below.refl _ _) m)
theorem RS.of_ts {w wx : World} {A : Option Addr} {ln c : Nat} {L : List Pg.Lab} (h : TS w wx A ln c L) : RS w wx A ln c L (List.replicate L.length Pg.zero512) := by
  have he : zt L = L.zip (List.replicate L.length Pg.zero512) := zt_zip L
  refine ⟨by rw [← he]; exact h.1, h.2.1, List.length_replicate, ?_, h.2.2⟩
  intro a ha
  rw [List.eq_of_mem_replicate ha]
  exact List.length_replicate
/-- where the tables lie, and what one store does -/
theorem RS.form {w wx : World} {A : Option Addr} {ln c : Nat} {L : List Pg.Lab} {all : List (List Nat)} (h : RS w wx A ln c L all) (hn : 0 < ln) : ∃ g, A = some ⟨g, 0, none⟩ ∧ w.heap.size ≤ g ∧ g < wx.heap.size ∧ ln ≤ c ∧ c ≤ 9223372036854775807 := by
  obtain ⟨g, h1, h2, h3, h4, h5⟩ := own_some h.1 hn
  unfold maxLen at h5
  exact ⟨g, h1, h2, h3, h4, h5⟩
theorem RS.old {w wx : World} {g ln c : Nat} {L : List Pg.Lab} {all : List (List Nat)} (h : RS w wx (some ⟨g, 0, none⟩) ln c L all) {i e : Nat} (hi : i < ln) (he : e < 512) : (∃ u, wx.cell? ⟨g, i * 514 + 2 + e, none⟩ = some (u64v u)) ∧ wx.frozen? ⟨g, i * 514 + 2 + e, none⟩ = false := by
  have hl := h.tab.len
  rw [List.length_zip, h.2.2.1, Nat.min_self, ← h.2.1] at hl
  have hiL : i < L.length := by rw [← h.2.1]; exact hi
  have hz := zip_at (all := all) (List.getElem?_eq_getElem hiL) (by rw [h.2.2.1]; exact hiL)
  refine ⟨⟨(all.getD i []).getD e 0, ?_⟩, h.1.frozenAt _⟩
  rw [show i * 514 + 2 + e = 514 * i + (e + 2) by omega, h.1.cellAt (514 * i + (e + 2)) (by omega), rcells_at h.tab hz (e + 2) (by omega)]
  unfold rcell
  simp only [List.getElem?_cons_succ, List.getElem?_map]
  have hm : (all.getD i []).length = 512 := by
    refine h.2.2.2.1 _ ?_
    rw [List.getD_eq_getElem?_getD, List.getElem?_eq_getElem (show i < all.length by rw [h.2.2.1]; exact hiL)]
    exact List.getElem_mem _
  obtain ⟨a, ha⟩ : ∃ a, a = all.getD i [] := ⟨_, rfl⟩
  rw [← ha] at hm ⊢
  rw [List.getD_eq_getElem?_getD, List.getElem?_eq_getElem (show e < a.length by omega)]
  rfl
theorem RS.store {w wx : World} {g ln c : Nat} {L : List Pg.Lab} {all : List (List Nat)} (h : RS w wx (some ⟨g, 0, none⟩) ln c L all) {i e : Nat} (hi : i < ln) (he : e < 512) (x : Nat) : RS w (wx.setCell ⟨g, i * 514 + 2 + e, none⟩ (u64v x)) (some ⟨g, 0, none⟩) ln c L (Pg.setE all i e x) := by
  have hiL : i < L.length := by rw [← h.2.1]; exact hi
  have hia : i < all.length := by rw [h.2.2.1]; exact hiL
  have hz := zip_at (all := all) (List.getElem?_eq_getElem hiL) hia
  have hs := h.1.stored (514 * i + 2 + e) (u64v x)
  rw [rcells_set h.tab hz e x he, zip_set (List.getElem?_eq_getElem hiL) hia, show 514 * i + 2 + e = i * 514 + 2 + e by omega] at hs
  refine ⟨hs.1, h.2.1, by rw [Pg.setE_len, h.2.2.1], ?_, h.2.2.2.2.setCell (p := ⟨g, i * 514 + 2 + e, none⟩) (by show w.heap.size ≤ g; exact (h.1.lt g rfl).1) _⟩
  intro a ha
  unfold Pg.setE at ha
  rcases List.mem_or_eq_of_mem_set ha with ha | rfl
  · exact h.2.2.2.1 a ha
  · rw [List.length_set]
    refine h.2.2.2.1 _ ?_
    rw [List.getD_eq_getElem?_getD, List.getElem?_eq_getElem hia]
    exact List.getElem_mem _
/-- a table's label and its row of entries, read -/
theorem RS.lab {w wx : World} {g ln c : Nat} {L : List Pg.Lab} {all : List (List Nat)} (h : RS w wx (some ⟨g, 0, none⟩) ln c L all) {i : Nat} {t : Pg.Lab} (ht : L[i]? = some t) : wx.cell? ⟨g, i * 514, none⟩ = some (.int .i64 (t.1 : Nat)) ∧ wx.cell? ⟨g, i * 514 + 1, none⟩ = some (.int .u64 (vOf t : Nat)) := by
  obtain ⟨g', hA, _, hc⟩ := h.has (by have := (List.getElem?_eq_some_iff.1 ht).1; omega)
  injection hA with hA
  injection hA with hA
  subst hA
  exact hc i t ht
theorem RS.row {w wx : World} {g ln c : Nat} {L : List Pg.Lab} {all : List (List Nat)} (h : RS w wx (some ⟨g, 0, none⟩) ln c L all) {i : Nat} (hi : i < ln) : wx.rangeAt g (i * 514 + 2) ((all.getD i []).map u64v) := by
  have hl := h.tab.len
  rw [List.length_zip, h.2.2.1, Nat.min_self, ← h.2.1] at hl
  have hiL : i < L.length := by rw [← h.2.1]; exact hi
  have hia : i < all.length := by rw [h.2.2.1]; exact hiL
  have hz := zip_at (all := all) (List.getElem?_eq_getElem hiL) hia
  have hm : (all.getD i []).length = 512 := by
    refine h.2.2.2.1 _ ?_
    rw [List.getD_eq_getElem?_getD, List.getElem?_eq_getElem hia]
    exact List.getElem_mem _
  intro j v hv
  have hj : j < 512 := by have := (List.getElem?_eq_some_iff.1 hv).1; rw [List.length_map] at this; omega
  rw [show i * 514 + 2 + j = 514 * i + (j + 2) by omega, h.1.cellAt (514 * i + (j + 2)) (by omega), rcells_at h.tab hz (j + 2) (by omega)]
  unfold rcell
  simp only [List.getElem?_cons_succ]
  exact hv
end Go.Proofs.Ytblfagmoilhdnaa

/- The walks of the document's Count, and of the parts of its Build. -/
set_option linter.unusedVariables false
set_option linter.unusedSimpArgs false
namespace Go.Proofs.Ytblfagmoilhdnaa
open Go.RowKit
set_option maxRecDepth 100000 in
set_option maxHeartbeats 1000000 in
theorem rcount_any (A : Option Addr) (n c : Nat) (rows : List Pg.Lf) (w : World) (hr : IsL w w.heap.size A n rows) :
    Calls Try.prog 44 #[.slice A n c] w fun e w' => e = .returned (.tuple #[.int .i64 ((Pg.refC rows).1 : Nat), .int .i64 ((Pg.refC rows).2 : Nat)]) ∧ Below w.heap.size w w' := by
  have HRF := Lib.hid (refuses_any A n c rows w hr)
  have HTB : Hid (Pg.right 0 rows = 0 → ∀ w1 : World, Below w.heap.size w w1 → Calls Try.prog 59 #[.slice A n c] w1 fun e w' => ∃ A' c' ln, e = .returned (.slice A' ln c') ∧ TS w1 w' A' ln c' (Pg.refT rows)) := Lib.hid fun h w1 hb => tables_any A n c rows w1 ((hr.below hb).more hb.size) h
  have hC : Pg.refC rows = if Pg.right 0 rows ≠ 0 then (0, Pg.right 0 rows) else if 1024 < (Pg.refT rows).length then (0, 4) else ((Pg.refT rows).length, 0) := rfl
  obtain ⟨f, hf⟩ : ∃ f, f = Pg.right 0 rows := ⟨_, rfl⟩
  obtain ⟨R, hR⟩ : ∃ R, R = Pg.refC rows := ⟨_, rfl⟩
  rw [← hf] at HRF HTB hC
  rw [← hR] at hC ⊢
  have HC := Lib.hid hC
  clear hr hf hR hC
  by_cases h0 : f = 0
  · have g1 : ((f : Int) != 0) = false := by rw [bne_eq_false_iff_eq]; omega
    have HT := Lib.hid (HTB.out h0)
    have H0 := Lib.hid h0
    clear h0 HTB
    go_enter Try.func44, Try.ntmps44
    go_wp2_with fail
    refine HRF.out.mono ?_
    rintro e w1 ⟨rfl, hb1⟩
    have HB1 := Lib.hid hb1
    clear hb1 HRF
    go_wp2_with fail
    refine (HT.out w1 HB1.out).mono ?_
    rintro e w2 ⟨A', c', ln, rfl, hts⟩
    have HL : Hid (ln = (Pg.refT rows).length) := Lib.hid hts.2.1
    have HB2 := Lib.hid (HB1.out.trans (hts.2.2.mono HB1.out.size))
    clear hts HB1 HT
    by_cases hg : 1024 < ln
    · have f1 : decide ((1024 : Int) < (ln : Int)) = true := decide_eq_true (by omega)
      have HG := Lib.hid hg
      clear hg
      go_wp2_with fail
      go_ret2
      exact ⟨by rw [HC.out, if_neg (by simp [H0.out]), if_pos (by rw [← HL.out]; exact HG.out)]; rfl, HB2.out⟩
    · have f1 : decide ((1024 : Int) < (ln : Int)) = false := decide_eq_false (by omega)
      have HG := Lib.hid hg
      clear hg
      go_wp2_with fail
      go_ret2
      exact ⟨by rw [HC.out, if_neg (by simp [H0.out]), if_neg (by rw [← HL.out]; exact HG.out), ← HL.out]; rfl, HB2.out⟩
  · have g1 : ((f : Int) != 0) = true := by rw [bne_iff_ne]; omega
    have H0 := Lib.hid h0
    clear h0 HTB
    go_enter Try.func44, Try.ntmps44
    go_wp2_with fail
    refine HRF.out.mono ?_
    rintro e w1 ⟨rfl, hb1⟩
    have HB1 := Lib.hid hb1
    clear hb1 HRF
    go_wp2_with fail
    go_ret2
    exact ⟨by rw [HC.out, if_pos H0.out]; rfl, HB1.out⟩
end Go.Proofs.Ytblfagmoilhdnaa
