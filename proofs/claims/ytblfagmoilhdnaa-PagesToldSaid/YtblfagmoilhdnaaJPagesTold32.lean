/- Texts of this claim, one behind the other: PrY, PrF, PwA. -/
import Derived.Test.YtblfagmoilhdnaaJPagesTold31
import Derived.Test.YtblfagmoilhdnaaJPagesTold28
import Derived.Test.YtblfagmoilhdnaaJPagesTold26
import Derived.Test.YtblfagmoilhdnaaJPagesTold27
import Derived.Test.YtblfagmoilhdnaaJPagesTold17
/- The walk of the document's Build, of any rows. -/
set_option linter.unusedVariables false
set_option linter.unusedSimpArgs false
namespace Go.Proofs.Ytblfagmoilhdnaa
open Go.RowKit
namespace Pg
theorem entry_lt {base : Nat} {L : List Lab} {qs : List Pge} (hc : Chain qs) (t : Lab) (e : Nat) : entry base L qs t e < 18446744073709551616 := by
  have hp : ∀ b k, pageAt qs b k < 18446744073709551616 := by
    intro b k
    unfold pageAt
    cases hf : qs.find? (fun q => q.b == b && q.v / bu b == k) with
    | none => simp
    | some q => exact num_lt (hc.2 q (List.mem_of_find?_eq_some hf))
  unfold entry
  repeat' split
  all_goals first | exact ptr_lt _ _ | exact hp _ _ | decide
theorem rep_lt {base : Nat} {L : List Lab} {qs : List Pge} {all : List (List Nat)} (h : Rep base L qs all) (hc : Chain qs) (hl : ∀ a ∈ all, a.length = 512) : Tabs all := by
  intro t ht
  refine ⟨hl t ht, fun x hx => ?_⟩
  obtain ⟨i, hi, rfl⟩ := List.getElem_of_mem ht
  obtain ⟨e, he, rfl⟩ := List.getElem_of_mem hx
  have h5 := hl _ ht
  have hiL : i < L.length := by rw [← h.len]; exact hi
  have h1 := h.ent i L[i] (List.getElem?_eq_getElem hiL) e (by omega)
  unfold cell at h1
  rw [List.getD_eq_getElem?_getD (l := all), List.getElem?_eq_getElem hi, Option.getD_some, List.getD_eq_getElem?_getD, List.getElem?_eq_getElem he, Option.getD_some] at h1
  rw [h1]
  exact entry_lt hc _ _
end Pg
set_option maxRecDepth 100000 in
set_option maxHeartbeats 1000000 in
theorem rbuild_any (A : Option Addr) (n c base : Nat) (rows : List Pg.Lf) (w : World) (hr : IsL w w.heap.size A n rows) (hbl : base < 18446744073709551616) :
    Calls Try.prog 34 #[.slice A n c, .int .u64 (base : Nat)] w fun e w' => ∃ A' c', e = .returned (tansV A' c' (Pg.ansB rows base)) ∧ IsT w w' A' c' (Pg.ansB rows base).1 := by
  obtain ⟨B2, hB2⟩ : ∃ B2, B2 = base / 4096 * 4096 % 4294967296 := ⟨_, rfl⟩
  have hC := Pg.refC_ans rows B2
  have hans : Pg.ansB rows base = (if (Pg.ans rows B2).2 ≠ 0 then ([], (Pg.ans rows B2).2) else if base % 4096 ≠ 0 then ([], 33) else if 4294967296 ≤ base ∨ (4294967296 - base) / 4096 < (Pg.ans rows B2).1.length then ([], 34) else (Pg.ans rows B2)) := by
    rw [hB2]; rfl
  by_cases hgood : (Pg.ans rows B2).2 = 0 ∧ base % 4096 = 0 ∧ ¬ (4294967296 ≤ base ∨ (4294967296 - base) / 4096 < (Pg.ans rows B2).1.length)
  · obtain ⟨g1, g2, g3⟩ := hgood
    obtain ⟨hrt, hch, s, hs, hkn, hls⟩ := Pg.ans_known g1
    have hlen := Pg.ans_len rows B2 g1
    have hrl := Pg.refT_len hrt B2
    have hcap : (Pg.refT rows).length ≤ 1024 := by
      rcases Nat.lt_or_ge 1024 (Pg.refT rows).length with h | h
      · rw [hrl.1.1 h] at hs; cases hs
      · exact h
    have hll : (Pg.refT rows).length = (Pg.ans rows B2).1.length := by
      rw [hrl.2 hcap, hls, hkn.rep.len]
    have hbb : B2 = base := by omega
    rw [hbb] at hB2 hans hll g1 hlen g3
    refine (rbuild_ok A n c base rows w hr g2 hrt hcap (by rw [hll]; omega) (by omega)).mono ?_
    rintro e w' ⟨A', c', all, rfl, hrep, hla, hown, h5, hbel⟩
    have ha := Pg.rep_ans hrt hcap hrep
    have hB : Pg.ansB rows base = (all, 0) := by
      rw [hans, if_neg (by simp [g1]), if_neg (by simp [g2]), if_neg g3, ha]
    rw [hB]
    exact ⟨A', c', by unfold tansV; rw [hla]; rfl, hown, Pg.rep_lt hrep hch h5, hbel⟩
  · have HRC := Lib.hid (rcount_any A n c rows w hr)
    have HL := Lib.hid (Pg.ans_len rows B2)
    rw [hC] at HRC
    obtain ⟨a, ha⟩ : ∃ a, a = Pg.ans rows B2 := ⟨_, rfl⟩
    rw [← ha] at HRC hgood hans HL
    obtain ⟨l, f⟩ := a
    simp only at HRC hans hgood HL
    obtain ⟨R, hR⟩ : ∃ R, R = Pg.ansB rows base := ⟨_, rfl⟩
    rw [← hR] at hans ⊢
    obtain ⟨nl, hnl⟩ : ∃ nl, nl = l.length := ⟨_, rfl⟩
    rw [← hnl] at HRC hgood hans HL
    obtain ⟨M, hM⟩ : ∃ M, M = base % 4096 := ⟨_, rfl⟩
    rw [← hM] at hgood hans
    have h4 : (base : Int) % 4096 = (M : Int) := by omega
    have h5 : (base : Int).tmod 4096 = (M : Int) := by rw [Int.tmod_eq_emod_of_nonneg (by omega)]; exact h4
    have HRES := Lib.hid hans
    clear ha hC hans hR hnl hM hB2 hr
    unfold tansV
    by_cases hf : f = 0
    · have q1 : ((f : Int) != 0) = false := by rw [bne_eq_false_iff_eq]; omega
      have hl := HL.out hf
      have hl2 := hl.2
      have HF := Lib.hid hf
      by_cases hm : M = 0
      · have hq : 4294967296 ≤ base ∨ (4294967296 - base) / 4096 < nl := by
          rcases Classical.em (4294967296 ≤ base ∨ (4294967296 - base) / 4096 < nl) with h | h
          · exact h
          · exact absurd ⟨hf, hm, h⟩ hgood
        have q2 : decide ((0 : Int) < (M : Int)) = false := decide_eq_false (by omega)
        have q2' : decide (0 < M) = false := decide_eq_false (by omega)
        have HM := Lib.hid hm
        have HQ := Lib.hid hq
        have e1 : IntKind.u64.wrap (nl : Int) = (nl : Int) := by rw [IntKind.wrap_u64]; omega
        by_cases q6 : 4294967296 ≤ base
        · have f6 : decide ((4294967296 : Int) ≤ (base : Int)) = true := decide_eq_true (by omega)
          clear hf hm hq hgood hl q6
          go_enter Try.func34, Try.ntmps34
          go_wp2_with fail
          refine HRC.out.mono ?_
          rintro e w1 ⟨rfl, hb1⟩
          have HB1 := Lib.hid hb1
          clear hb1 HRC
          go_wp2_with fail
          go_ret2
          rw [HRES.out, if_neg (by simp [HF.out]), if_neg (by simp [HM.out]), if_pos HQ.out]
          exact ⟨none, 0, rfl, IsT.nil HB1.out⟩
        · obtain ⟨D, hD⟩ : ∃ D, D = 4294967296 - base := ⟨_, rfl⟩
          have e2 : IntKind.u64.wrap ((4294967296 : Int) - (base : Int)) = (D : Int) := by rw [IntKind.wrap_u64]; omega
          obtain ⟨Z, hZ⟩ : ∃ Z, Z = D / 4096 := ⟨_, rfl⟩
          have e3 : (D : Int) / 4096 = (Z : Int) := by omega
          have e6 : IntKind.u64.wrap (Z : Int) = (Z : Int) := by rw [IntKind.wrap_u64]; omega
          have e4 : decide (Z < nl) = true := decide_eq_true (by omega)
          have e5 : decide ((4294967296 : Int) ≤ (base : Int)) = false := decide_eq_false (by omega)
          clear hf hm hq hgood hl q6 hD hZ
          go_enter Try.func34, Try.ntmps34
          go_wp2_with fail
          refine HRC.out.mono ?_
          rintro e w1 ⟨rfl, hb1⟩
          have HB1 := Lib.hid hb1
          clear hb1 HRC
          go_wp2_with fail
          go_ret2
          rw [HRES.out, if_neg (by simp [HF.out]), if_neg (by simp [HM.out]), if_pos HQ.out]
          exact ⟨none, 0, rfl, IsT.nil HB1.out⟩
      · have q2 : decide ((0 : Int) < (M : Int)) = true := decide_eq_true (by omega)
        have q2' : decide (0 < M) = true := decide_eq_true (by omega)
        have HM := Lib.hid hm
        clear hf hm hgood hl
        go_enter Try.func34, Try.ntmps34
        go_wp2_with fail
        refine HRC.out.mono ?_
        rintro e w1 ⟨rfl, hb1⟩
        have HB1 := Lib.hid hb1
        clear hb1 HRC
        go_wp2_with fail
        go_ret2
        rw [HRES.out, if_neg (by simp [HF.out]), if_pos HM.out]
        exact ⟨none, 0, rfl, IsT.nil HB1.out⟩
    · have q1 : ((f : Int) != 0) = true := by rw [bne_iff_ne]; omega
      have HF := Lib.hid hf
      clear hf hgood
      go_enter Try.func34, Try.ntmps34
      go_wp2_with fail
      refine HRC.out.mono ?_
      rintro e w1 ⟨rfl, hb1⟩
      have HB1 := Lib.hid hb1
      clear hb1 HRC
      go_wp2_with fail
      go_ret2
      rw [HRES.out, if_pos HF.out]
      exact ⟨none, 0, rfl, IsT.nil HB1.out⟩
end Go.Proofs.Ytblfagmoilhdnaa

/- The walk of the document's Runs. -/
set_option linter.unusedVariables false
set_option linter.unusedSimpArgs false
namespace Go.Proofs.Ytblfagmoilhdnaa
open Go.RowKit
set_option maxRecDepth 100000 in
set_option maxHeartbeats 1000000 in
theorem rruns_any (A : Option Addr) (n c : Nat) (rows : List Pg.Lf) (w : World) (hr : IsL w w.heap.size A n rows) :
    Calls Try.prog 45 #[.slice A n c] w fun e w' => ∃ A' c', e = .returned (.slice A' (Pg.runs rows).length c') ∧ OwnL w' w.heap.size A' c' (Pg.runs rows) ∧ Below w.heap.size w w' := by
  obtain ⟨i0, hi0, hz1, hz2, hz3⟩ := info_parts infoLeaf
  have HI := Lib.hid hi0; have HZ1 := Lib.hid hz1; have HZ2 := Lib.hid hz2; have HZ3 := Lib.hid hz3
  have HRT := Lib.hid (refuses_any A n c rows w hr)
  obtain ⟨b, off, HF⟩ := hr.form
  have HL := Lib.hid hr.2.2.1
  have hn := hr.2.2.2
  have HIN := Lib.hid hr.2.1
  clear hr hi0 hz1 hz2 hz3
  go_enter Try.func45, Try.ntmps45
  go_wp2_with fail
  refine HRT.out.mono ?_
  rintro e w1 ⟨rfl, hb1⟩
  have HB1 := Lib.hid hb1
  clear hb1
  obtain ⟨R, hR⟩ : ∃ R, R = Pg.right 0 rows := ⟨_, rfl⟩
  rw [← hR]
  by_cases h0 : R = 0
  · have HR0 : Hid (Pg.right 0 rows = 0) := Lib.hid (hR ▸ h0)
    have f0 : ((R : Int) != 0) = false := by rw [bne_eq_false_iff_eq]; omega
    clear h0 hR
    go_wp2_with fail
    go_loopw [3, 4] (fun o i wr => ∃ (k c1 m : Nat) (A1 : Option Addr) (out : List Pg.Lf), k ≤ n ∧ m ≤ k ∧ i = .int .i64 k ∧ o = .slice A1 m c1 ∧ Hid (OwnL wr w.heap.size A1 c1 out ∧ out.length = m) ∧ Hid (Pg.joins rows = (rows.drop k).foldl Pg.runs1 out) ∧ Hid (Pg.right 0 out = 0 ∧ Pg.right (Pg.endOf 0 out) (rows.drop k) = 0) ∧ Hid (Below w.heap.size w wr)) (fun _ i _ => n - (intOf i).toNat)
    case atStart => exact ⟨0, 0, 0, none, [], by omega, by omega, rfl, rfl, Lib.hid ⟨own_nil _ _ _ _, rfl⟩, Lib.hid rfl, Lib.hid ⟨rfl, HR0.out⟩, HB1⟩
    case round =>
      obtain ⟨k, c1, m, A1, out, hk, hm, rfl, rfl, HO, HJ, HSR, HB⟩ := hrel
      by_cases hkn : k < n
      · obtain ⟨hA, hbB, hc⟩ := HF.out (by omega)
        subst hA
        obtain ⟨r, hrk⟩ : ∃ r, rows[k]? = some r := ⟨_, List.getElem?_eq_getElem (by have := HL.out; omega)⟩
        have hd : rows.drop k = r :: rows.drop (k + 1) := by
          obtain ⟨hlt, he⟩ := List.getElem?_eq_some_iff.1 hrk
          rw [List.drop_eq_getElem_cons hlt, he]
        have c0 := (HB.out.cell (p := ⟨b, off + k * 6, none⟩) hbB).trans (hc k r hrk 0 _ rfl)
        have c1' := (HB.out.cell (p := ⟨b, off + k * 6 + 1, none⟩) hbB).trans (hc k r hrk 1 _ rfl)
        have c2 := (HB.out.cell (p := ⟨b, off + k * 6 + 2, none⟩) hbB).trans (hc k r hrk 2 _ rfl)
        have c3 := (HB.out.cell (p := ⟨b, off + k * 6 + 3, none⟩) hbB).trans (hc k r hrk 3 _ rfl)
        have c4 := (HB.out.cell (p := ⟨b, off + k * 6 + 4, none⟩) hbB).trans (hc k r hrk 4 _ rfl)
        have c5 := (HB.out.cell (p := ⟨b, off + k * 6 + 5, none⟩) hbB).trans (hc k r hrk 5 _ rfl)
        have hrt := HSR.out
        rw [hd] at hrt
        obtain ⟨hrok, hre, hrr⟩ := Pg.right_cons hrt.2
        have HROK := Lib.hid hrok
        have hjo := HJ.out
        rw [hd, List.foldl_cons] at hjo
        have HJO := Lib.hid hjo
        have hnx := Pg.runs1_right hrt.1 hrok hre
        have HNX : Hid (Pg.right 0 (Pg.runs1 out r) = 0 ∧ Pg.right (Pg.endOf 0 (Pg.runs1 out r)) (rows.drop (k + 1)) = 0) := Lib.hid ⟨hnx.1, by rw [hnx.2.1]; exact hrr⟩
        have hr1 := hrok.n1
        have hr5 := hrok.vl
        have hr6 := hrok.pl
        have HRT0 := Lib.hid hrt.1
        obtain ⟨v, p, nn, bg, wt, ex⟩ := r
        simp only at hr1 hr5 hr6
        obtain ⟨xn, rfl⟩ : ∃ xn : Nat, nn = xn := ⟨nn.toNat, by omega⟩
        simp only [Int.toNat_natCast] at hr1 hr5 hr6
        clear hc hrk hrt hrok hre hrr hjo hnx hd HSR HJ HRT
        go_upto_region 8 with fail
        have hrx := Row.new wr 47 (lcells ⟨v, p, xn, bg, wt, ex⟩)
        have hba := HB.out.alloc HB.out.size (.cells (lcells ⟨v, p, xn, bg, wt, ex⟩).toArray 47)
        have hox : OwnL (wr.alloc (.cells (lcells ⟨v, p, xn, bg, wt, ex⟩).toArray 47)) w.heap.size A1 c1 out := World.ownsRow.alloc HO.out.1 _
        have hom := HO.out.2
        unfold lcells at hrx hba hox
        simp only [] at hrx hba hox
        obtain ⟨gx, hgx⟩ : ∃ g, g = wr.heap.size := ⟨_, rfl⟩
        rw [← hgx] at hrx ⊢
        obtain ⟨w2, hw2⟩ : ∃ w2, w2 = wr.alloc (.cells #[.int .u64 (v : Nat), .int .u64 (p : Nat), .int .i64 (xn : Nat), .bool bg, .bool wt, .bool ex] 47) := ⟨_, rfl⟩
        rw [← hw2] at hrx hba hox ⊢
        have HRX := Lib.hid hrx
        have HBA := Lib.hid hba
        have HOX := Lib.hid hox
        clear c0 c1' c2 c3 c4 c5 HB HO hrx hba hox hgx hw2 HF
        rcases Pg.snoc_cases out with rfl | ⟨a, y, rfl⟩
        · obtain rfl : m = 0 := hom.symm
          clear hom
          have d0 := HRX.out.cell 0
          have d1 := HRX.out.cell 1
          have d2 := HRX.out.cell 2
          have d3 := HRX.out.cell 3
          have d4 := HRX.out.cell 4
          have d5 := HRX.out.cell 5
          simp only [List.getElem?_cons_zero, List.getElem?_cons_succ] at d0 d1 d2 d3 d4 d5
          have hxl := HRX.out.lt
          have HR1 : Hid (Reads (w2.alloc (.cells #[.int .u64 (v : Nat), .int .u64 (p : Nat), .int .i64 (xn : Nat), .bool bg, .bool wt, .bool ex] 47)) (w2.alloc (.cells #[.int .u64 (v : Nat), .int .u64 (p : Nat), .int .i64 (xn : Nat), .bool bg, .bool wt, .bool ex] 47)).heap.size 6 (some ⟨w2.heap.size, 0, none⟩) 1 (lcells ⟨v, p, xn, bg, wt, ex⟩)) := Lib.hid (isL_one w2 ⟨v, p, xn, bg, wt, ex⟩ (by unfold Pg.Lf.In; simp only; omega)).1
          go_upto_region 14 with fail
          go_wp2_with (at_builtin; refine wpList_append_sl _ (by rfl) (.tmp 82) (.tmp 84) 48 rfl w.heap.size 47 i0 _ 6 32 Try.underlying48 HI.out HZ1.out HZ2.out HZ3.out rfl (by omega) (.slice A1 0 c1) 0 (lall []) rfl (HOX.out.alloc _) _ (some ⟨w2.heap.size, 0, none⟩) 1 1 (lcells ⟨v, p, xn, bg, wt, ex⟩) rfl HR1.out (oneCell_leaf _) (by unfold maxLen; omega) (by omega) (by simp; have := HBA.out.size; omega) ?_; intro A3 c3 w3 hown3 hrd3 hg3 hat3)
          go_roundw
          case rel =>
            refine ⟨k + 1, c3, 1, A3, Pg.runs1 [] ⟨v, p, xn, bg, wt, ex⟩, by omega, by omega, by go_num, rfl, Lib.hid ⟨?_, ?_⟩, Lib.hid HJO.out, HNX, Lib.hid ?_⟩
            · exact hown3
            · rfl
            · exact (HBA.out.alloc HBA.out.size _).grown hg3 (by simp; have := HBA.out.size; omega) (fun k hk => (HOX.out.lt k hk).1)
          case measure => simp [intOf]; omega
        · obtain ⟨L, hL⟩ : ∃ L, L = a.length := ⟨_, rfl⟩
          obtain rfl : m = L + 1 := by rw [← hom, hL]; simp
          obtain ⟨ha0, hy0⟩ := Pg.right_append.1 HRT0.out
          have hmlen : L + 1 ≤ 134217728 := by have := Pg.right_len HRT0.out (by omega); rw [List.length_append] at this; simp at this; omega
          obtain ⟨hyok, hya⟩ := Pg.right_one.1 hy0
          have HYOK := Lib.hid hyok
          have HAL := Lib.hid hL
          obtain ⟨g1, rfl, hBg, hg1l, hcc, hcm⟩ := own_some HOX.out (by simp)
          have hcells : ∀ j u, (lcells y)[j]? = some u → w2.cell? ⟨g1, L * 6 + j, none⟩ = some u := fun j u hu => by
            have hj : j < 6 := (List.getElem?_eq_some_iff.1 hu).1
            rw [show L * 6 + j = 6 * L + j by omega, World.ownsRow.cellAt HOX.out (6 * L + j) (by simp; omega), lall_at (k := L) (r := y) (by rw [hL]; simp) j hj, hu]
          have hmt := fun (wx : World) => eqlM wx y ⟨v, p, xn, bg, wt, ex⟩ _ _ rfl rfl
          have hy1 := hyok.n1
          have hy5 := hyok.vl
          have hy6 := hyok.pl
          have hy7 := (Pg.meets_iff (y := y) (x := ⟨v, p, xn, bg, wt, ex⟩)).1
          have hfr := World.ownsRow.frozenAt HOX.out (6 * L + 2)
          obtain ⟨yv, yp, yn', yb, yw, yx⟩ := y
          simp only at hy1 hy5 hy6 hmt hy7
          obtain ⟨yn, rfl⟩ : ∃ yn : Nat, yn' = yn := ⟨yn'.toNat, by omega⟩
          simp only [Int.toNat_natCast] at hy1 hy5 hy6 hmt hy7
          have e0 := hcells 0 _ rfl
          have e1 := hcells 1 _ rfl
          have e2 := hcells 2 _ rfl
          have e3 := hcells 3 _ rfl
          have e4 := hcells 4 _ rfl
          have e5 := hcells 5 _ rfl
          rw [Nat.add_zero] at e0
          rw [show 6 * L + 2 = L * 6 + 2 by omega] at hfr
          obtain ⟨V1, hV1⟩ : ∃ V, V = yv + yn * 4096 := ⟨_, rfl⟩
          obtain ⟨P1, hP1⟩ : ∃ V, V = yp + yn * 4096 := ⟨_, rfl⟩
          rw [← hV1, ← hP1] at hmt
          unfold lfV at hmt
          simp only [] at hmt
          obtain ⟨T, hT⟩ : ∃ T, T = Pg.meets ⟨yv, yp, yn, yb, yw, yx⟩ ⟨v, p, xn, bg, wt, ex⟩ := ⟨_, rfl⟩
          rw [← hT] at hmt hy7
          have q1 : IntKind.u64.wrap (yn : Int) = (yn : Int) := by rw [IntKind.wrap_u64]; omega
          have q2 : ((yn : Int) * 4096) % 18446744073709551616 = (yn : Int) * 4096 := by omega
          have q3 : IntKind.u64.wrap ((yn : Int) * 4096) = (yn : Int) * 4096 := by rw [IntKind.wrap_u64]; omega
          have q4 : ((yv : Int) + (yn : Int) * 4096) % 18446744073709551616 = (V1 : Int) := by omega
          have q5 : IntKind.u64.wrap ((yv : Int) + (yn : Int) * 4096) = (V1 : Int) := by rw [IntKind.wrap_u64]; omega
          have q6 : ((yp : Int) + (yn : Int) * 4096) % 18446744073709551616 = (P1 : Int) := by omega
          have q7 : IntKind.u64.wrap ((yp : Int) + (yn : Int) * 4096) = (P1 : Int) := by rw [IntKind.wrap_u64]; omega
          have q8 : ((yv : Int) + (yn : Int) * 4096) = (V1 : Int) := by omega
          have q9 : ((yp : Int) + (yn : Int) * 4096) = (P1 : Int) := by omega
          have HT := Lib.hid hT
          have HMT := Lib.hid hmt
          have HY7 := Lib.hid hy7
          have hxl := HRX.out.lt
          have d0 := HRX.out.cell 0
          have d1 := HRX.out.cell 1
          have d2 := HRX.out.cell 2
          have d3 := HRX.out.cell 3
          have d4 := HRX.out.cell 4
          have d5 := HRX.out.cell 5
          simp only [List.getElem?_cons_zero, List.getElem?_cons_succ] at d0 d1 d2 d3 d4 d5
          clear hL hom ha0 hy0 hyok hya hcells hmt hT hV1 hP1 hy7
          go_upto_region 12 with fail
          have hrl := Row.new w2 47 (lcells ⟨yv, yp, yn, yb, yw, yx⟩)
          have hb5 : Below w2.heap.size w2 (w2.alloc (.cells #[.int .u64 (yv : Nat), .int .u64 (yp : Nat), .int .i64 (yn : Nat), .bool yb, .bool yw, .bool yx] 47)) := (Below.refl w2.heap.size w2).alloc (Nat.le_refl _) _
          have hbs := HBA.out.size
          obtain ⟨gn, hgl⟩ : ∃ g, g = w2.heap.size := ⟨_, rfl⟩
          have hrn5 : Row (w2.alloc (.cells #[.int .u64 (yv : Nat), .int .u64 (yp : Nat), .int .i64 (yn : Nat), .bool yb, .bool yw, .bool yx] 47)) gn 47 [.int .u64 (yv : Nat), .int .u64 (yp : Nat), .int .i64 (yn : Nat), .bool yb, .bool yw, .bool yx] := by
            unfold lcells at hrl
            simp only [] at hrl
            rw [← hgl] at hrl
            exact hrl
          clear hrl
          rw [← hgl]
          clear hgl e0 e1 e2 e3 e4 e5 d0 d1 d2 d3 d4 d5 hfr
          generalize w2.alloc (.cells #[.int .u64 (yv : Nat), .int .u64 (yp : Nat), .int .i64 (yn : Nat), .bool yb, .bool yw, .bool yx] 47) = w5 at *
          have n0 := hrn5.cell 0
          have n1 := hrn5.cell 1
          have n2 := hrn5.cell 2
          have n3 := hrn5.cell 3
          have n4 := hrn5.cell 4
          have n5 := hrn5.cell 5
          have hnl := hrn5.lt
          have hrx5 := HRX.out.below hb5 hxl
          have d0 := hrx5.cell 0
          have d1 := hrx5.cell 1
          have d2 := hrx5.cell 2
          have d3 := hrx5.cell 3
          have d4 := hrx5.cell 4
          have d5 := hrx5.cell 5
          have hxl5 := hrx5.lt
          simp only [List.getElem?_cons_zero, List.getElem?_cons_succ] at n0 n1 n2 n3 n4 n5 d0 d1 d2 d3 d4 d5
          have HOX5 : Hid (OwnL w5 w.heap.size (some ⟨g1, 0, none⟩) c1 (a ++ [⟨yv, yp, yn, yb, yw, yx⟩])) := Lib.hid (owns_below HOX.out hb5)
          have HBA5 : Hid (Below w.heap.size w w5) := Lib.hid (HBA.out.trans (hb5.mono HBA.out.size))
          have e2 : w5.cell? ⟨g1, L * 6 + 2, none⟩ = some (.int .i64 (yn : Nat)) := by
            rw [show L * 6 + 2 = 6 * L + 2 by omega, World.ownsRow.cellAt HOX5.out (6 * L + 2) (by simp; have := HAL.out; omega), lall_at (k := L) (r := ⟨yv, yp, yn, yb, yw, yx⟩) (by rw [HAL.out]; simp) 2 (by omega)]
            rfl
          have hfr : w5.frozen? ⟨g1, L * 6 + 2, none⟩ = false := World.ownsRow.frozenAt HOX5.out _
          have hg15 : g1 < w5.heap.size := Nat.lt_of_lt_of_le hg1l hb5.size
          have HSV : Hid (V1 = yv + yn * 4096 ∧ P1 = yp + yn * 4096) := Lib.hid ⟨by omega, by omega⟩
          have HT5 : Hid (T = (decide (V1 = v) && decide (P1 = p) && (yb == bg) && (yw == wt) && (yx == ex))) := Lib.hid (by
            rw [HT.out, HSV.out.1, HSV.out.2]
            rfl)
          clear hb5 hrn5 hrx5 HRX HOX HBA HMT
          unfold maxLen at hcm
          go_cut [71] (fun x wx => x = .bool T ∧ wx = w5)
          case first =>
            cases t1 : decide (V1 = v) with
            | false =>
              have u1 : ((V1 : Int) == (v : Int)) = false := by have := of_decide_eq_false t1; simp; omega
              go_wp2_with fail
              go_meet
              case rel => exact ⟨by rw [HT5.out, t1]; rfl, rfl⟩
            | true =>
            have u1 : ((V1 : Int) == (v : Int)) = true := by have := of_decide_eq_true t1; simp; omega
            cases t2 : decide (P1 = p) with
            | false =>
              have u2 : ((P1 : Int) == (p : Int)) = false := by have := of_decide_eq_false t2; simp; omega
              go_wp2_with fail
              go_meet
              case rel => exact ⟨by rw [HT5.out, t1, t2]; rfl, rfl⟩
            | true =>
            have u2 : ((P1 : Int) == (p : Int)) = true := by have := of_decide_eq_true t2; simp; omega
            have HT1 := Lib.hid t1; have HT2 := Lib.hid t2
            clear t1 t2
            cases t3 : yb == bg with
            | false =>
              go_wp2_with fail
              go_meet
              case rel => exact ⟨by rw [HT5.out, HT1.out, HT2.out, t3]; rfl, rfl⟩
            | true =>
            cases t4 : yw == wt with
            | false =>
              go_wp2_with fail
              go_meet
              case rel => exact ⟨by rw [HT5.out, HT1.out, HT2.out, t3, t4]; rfl, rfl⟩
            | true =>
            cases t5 : yx == ex with
            | false =>
              go_wp2_with fail
              go_meet
              case rel => exact ⟨by rw [HT5.out, HT1.out, HT2.out, t3, t4, t5]; rfl, rfl⟩
            | true =>
              go_wp2_with fail
              go_meet
              case rel => exact ⟨by rw [HT5.out, HT1.out, HT2.out, t3, t4, t5]; rfl, rfl⟩
          case rest =>
            obtain ⟨rfl, hwx⟩ := hcut
            rw [hwx]
            clear hwx HT5
            cases hTT : T with
            | true =>
              obtain ⟨m1, m2, _⟩ := HY7.out hTT
              have h9 : yn + xn < 9223372036854775808 := by have := hr5; omega
              have r1 : IntKind.i64.wrap ((yn : Int) + (xn : Int)) = (yn : Int) + (xn : Int) := by rw [IntKind.wrap_i64]; omega
              have HMS : Hid (Pg.runs1 (a ++ [⟨yv, yp, yn, yb, yw, yx⟩]) ⟨v, p, xn, bg, wt, ex⟩ = a ++ [⟨yv, yp, (yn : Int) + (xn : Int), yb, yw, yx⟩]) := Lib.hid (by
                rw [Pg.runs1_snoc, if_pos (by rw [← HT.out, hTT])]; rfl)
              have HOXS : Hid (OwnL (w5.setCell ⟨g1, L * 6 + 2, none⟩ (.int .i64 ((yn : Int) + (xn : Int)))) w.heap.size (some ⟨g1, 0, none⟩) c1 (a ++ [⟨yv, yp, (yn : Int) + (xn : Int), yb, yw, yx⟩])) := Lib.hid (by
                have h := (World.ownsRow.stored HOX5.out (6 * L + 2) (.int .i64 ((yn : Int) + (xn : Int)))).1
                rw [HAL.out, lall_set] at h
                rw [show L * 6 + 2 = 6 * a.length + 2 by rw [← HAL.out]; omega]
                unfold OwnL
                rw [show (a ++ [(⟨yv, yp, (yn : Int) + (xn : Int), yb, yw, yx⟩ : Pg.Lf)]).length = (a ++ [(⟨yv, yp, yn, yb, yw, yx⟩ : Pg.Lf)]).length by simp]
                exact h)
              clear m1 m2
              go_wp2_with fail
              go_roundw
              case rel =>
                refine ⟨k + 1, c1, L + 1, some ⟨g1, 0, none⟩, Pg.runs1 (a ++ [⟨yv, yp, yn, yb, yw, yx⟩]) ⟨v, p, xn, bg, wt, ex⟩, by omega, by omega, by go_num, rfl, Lib.hid ⟨?_, ?_⟩, Lib.hid HJO.out, HNX, Lib.hid ?_⟩
                · rw [HMS.out]; exact HOXS.out
                · rw [HMS.out, HAL.out]; simp
                · exact HBA5.out.setCell (p := ⟨g1, L * 6 + 2, none⟩) hBg _
              case measure => simp [intOf]; omega
            | false =>
              have HMS : Hid (Pg.runs1 (a ++ [⟨yv, yp, yn, yb, yw, yx⟩]) ⟨v, p, xn, bg, wt, ex⟩ = a ++ [⟨yv, yp, yn, yb, yw, yx⟩] ++ [⟨v, p, xn, bg, wt, ex⟩]) := Lib.hid (by
                rw [Pg.runs1_snoc, if_neg (by rw [← HT.out, hTT]; simp)])
              have HR1 : Hid (Reads (w5.alloc (.cells #[.int .u64 (v : Nat), .int .u64 (p : Nat), .int .i64 (xn : Nat), .bool bg, .bool wt, .bool ex] 47)) (w5.alloc (.cells #[.int .u64 (v : Nat), .int .u64 (p : Nat), .int .i64 (xn : Nat), .bool bg, .bool wt, .bool ex] 47)).heap.size 6 (some ⟨w5.heap.size, 0, none⟩) 1 (lcells ⟨v, p, xn, bg, wt, ex⟩)) := Lib.hid (isL_one w5 ⟨v, p, xn, bg, wt, ex⟩ (by unfold Pg.Lf.In; simp only; omega)).1
              have HOX6 : Hid (w5.ownsRow w.heap.size 47 6 (.slice (some ⟨g1, 0, none⟩) (L + 1) c1) (L + 1) (lall (a ++ [⟨yv, yp, yn, yb, yw, yx⟩]))) := Lib.hid (by
                have h := HOX5.out
                unfold OwnL at h
                rw [show (a ++ [(⟨yv, yp, yn, yb, yw, yx⟩ : Pg.Lf)]).length = L + 1 by rw [HAL.out]; simp] at h
                exact h)
              go_upto_region 14 with fail
              clear n0 n1 n2 n3 n4 n5
              go_wp2_with (at_builtin; refine wpList_append_sl _ (by rfl) (.tmp 82) (.tmp 84) 48 rfl w.heap.size 47 i0 _ 6 32 Try.underlying48 HI.out HZ1.out HZ2.out HZ3.out rfl (by omega) (.slice (some ⟨g1, 0, none⟩) (L + 1) c1) (L + 1) (lall (a ++ [⟨yv, yp, yn, yb, yw, yx⟩])) rfl (HOX6.out.alloc _) _ (some ⟨w5.heap.size, 0, none⟩) 1 1 (lcells ⟨v, p, xn, bg, wt, ex⟩) rfl HR1.out (oneCell_leaf _) (by unfold maxLen; omega) (by omega) (by simp; have := HBA5.out.size; omega) ?_; intro A3 c3 w3 hown3 hrd3 hg3 hat3)
              go_roundw
              case rel =>
                refine ⟨k + 1, c3, L + 1 + 1, A3, Pg.runs1 (a ++ [⟨yv, yp, yn, yb, yw, yx⟩]) ⟨v, p, xn, bg, wt, ex⟩, by omega, by omega, by go_num, rfl, Lib.hid ⟨?_, ?_⟩, Lib.hid HJO.out, HNX, Lib.hid ?_⟩
                · rw [HMS.out]
                  unfold OwnL
                  rw [show (a ++ [(⟨yv, yp, yn, yb, yw, yx⟩ : Pg.Lf)] ++ [(⟨v, p, xn, bg, wt, ex⟩ : Pg.Lf)]).length = L + 1 + 1 by rw [HAL.out]; simp, lall_snoc]
                  exact hown3
                · rw [HMS.out, HAL.out]; simp
                · exact (HBA5.out.alloc HBA5.out.size _).grown hg3 (by simp; have := HBA5.out.size; omega) (fun k hk => (HOX6.out.lt k hk).1)
              case measure => simp [intOf]; omega
      · have HK : Hid (k = n) := Lib.hid (by omega)
        have hj := HJ.out
        rw [HK.out, List.drop_of_length_le (Nat.le_of_eq HL.out)] at hj
        have HJ2 : Hid (Pg.runs rows = out) := Lib.hid (by rw [Pg.runs_ok HR0.out, hj]; rfl)
        have HM := Lib.hid HO.out.2
        clear hj HJ HSR
        go_wp2_with fail
        go_ret
        refine ⟨A1, c1, ?_, ?_, HB.out⟩
        · rw [HJ2.out, HM.out]; rfl
        · rw [HJ2.out]; exact HO.out.1
  · have f0 : ((R : Int) != 0) = true := by rw [bne_iff_ne]; omega
    have HR := Lib.hid hR
    have HNZ := Lib.hid h0
    clear hR h0
    go_wp2_with fail
    go_ret
    have ha : Pg.runs rows = [] := by
      unfold Pg.runs
      rw [if_pos (by rw [← HR.out]; exact HNZ.out)]
    rw [ha]
    exact ⟨none, 0, rfl, own_nil _ _ _ _, HB1.out⟩
end Go.Proofs.Ytblfagmoilhdnaa

/- Plain law: walking tables that lie in a machine's memory answers what the pages say. -/
set_option linter.unusedVariables false
set_option linter.unusedSimpArgs false
namespace Go.Proofs.Ytblfagmoilhdnaa
namespace Pg
open Bu
/-- the tables lie in the memory -/
structure LiesM (M : PM) (base : Nat) (all : List (List Nat)) : Prop where
  al : base % 4096 = 0
  hi : base + all.length * 4096 ≤ 4294967296
  bus : ∀ p, base ≤ p → p < base + all.length * 4096 → onM M p = true
  num : ∀ i e, i < all.length → e < 512 → numB M.mem (base + i * 4096 + 8 * e) 8 = cell all i e
theorem LiesM.rd {M : PM} {base : Nat} {all : List (List Nat)} (h : LiesM M base all) {i e : Nat} (hi : i < all.length) (he : e < 512) : rdM M (base + i * 4096 + 8 * e) = some (cell all i e) := by
  unfold rdM
  rw [if_pos, h.num i e hi he]
  rw [List.all_eq_true]
  intro k hk
  have hk := List.mem_range.1 hk
  exact h.bus _ (by omega) (by omega)
theorem LiesM.ent {M : PM} {base : Nat} {all : List (List Nat)} (h : LiesM M base all) {i e : Nat} (hi : i < all.length) (he : e < 512) (lv : Nat) : entM M (base + i * 4096) e lv = Ent.say (cell all i e) lv := by
  unfold entM
  rw [h.rd hi he]
def covers (q : Pge) (virt : Nat) : Prop := q.v ≤ virt ∧ virt < q.v + q.u
theorem cov_idx {q : Pge} {virt : Nat} (hq : q.Ok) (h : covers q virt) : q.v / 1073741824 = virt / 1073741824 ∧ q.v / 2097152 = virt / 2097152 ∧ (q.b = false → q.v / 4096 = virt / 4096) ∧ virt % q.u = virt - q.v := by
  obtain ⟨h1, h2⟩ := h
  have ha := hq.va
  rcases q.u_or with ⟨hu, hb⟩ | ⟨hu, hb⟩
  · rw [hu] at h2 ha ⊢
    refine ⟨by omega, by omega, fun h => (by rw [hb] at h; cases h), by omega⟩
  · rw [hu] at h2 ha ⊢
    refine ⟨by omega, by omega, fun _ => by omega, by omega⟩
theorem idx_cov {q : Pge} {virt : Nat} (hq : q.Ok) (h : q.v / q.u = virt / q.u) : covers q virt := by
  have ha := hq.va
  unfold covers
  rcases q.u_or with ⟨hu, hb⟩ | ⟨hu, hb⟩
  · rw [hu] at h ha ⊢
    omega
  · rw [hu] at h ha ⊢
    omega
theorem chain_cov {qs : List Pge} (hc : Chain qs) {q r : Pge} (hq : q ∈ qs) (hr : r ∈ qs) {virt : Nat} (h1 : covers q virt) (h2 : covers r virt) : q = r := by
  have hp := hc.1
  unfold covers at h1 h2
  by_cases h : q = r
  · exact h
  · rcases List.mem_iff_getElem.1 hq with ⟨i, hi, rfl⟩
    rcases List.mem_iff_getElem.1 hr with ⟨j, hj, rfl⟩
    have hij : i ≠ j := fun e => h (by subst e; rfl)
    rcases Nat.lt_or_gt_of_ne hij with hl | hl
    · have := List.pairwise_iff_getElem.1 hp i j hi hj hl; omega
    · have := List.pairwise_iff_getElem.1 hp j i hj hi hl; omega
theorem say_smallp {q : Pge} (hq : q.Ok) (hb : q.b = false) : Ent.say q.num 2 = (⟨q.p, false, false, q.w, q.x⟩, 0) := by
  have hu : q.u = 4096 := by rcases q.u_or with ⟨_, h⟩ | ⟨h, _⟩; rw [hb] at h; cases h; exact h
  have h1 := hq.pa; have h2 := hq.pl
  rw [hu] at h1 h2
  have h := say_add (F := q.p) (by omega) (by omega) 2 q.b q.w q.x (by unfold Ent.wrong; rw [hb]; simp)
  rw [hb] at h
  unfold Pge.num
  rw [hb]
  simpa using h
theorem say_zero (lv : Nat) : Ent.say 0 lv = (Ent.zero, 41) := by
  unfold Ent.say
  rw [if_pos (by decide)]
theorem pageAt_zero {qs : List Pge} {b : Bool} {k : Nat} (h : pageAt qs b k = 0) : ∀ q ∈ qs, ¬ (q.b = b ∧ q.v / bu b = k) := by
  unfold pageAt at h
  split at h
  · unfold Pge.num at h; omega
  · rename_i hf
    intro q hq hh
    have := List.find?_eq_none.1 hf q hq
    simp [hh.1, hh.2] at this
/-- what the pages say of an address -/
def askQ (q : Option Pge) (virt : Nat) (access : Int) : Nat × Nat := match q with
  | none => (0, 41)
  | some q => if access = 2 ∧ q.w = false then (0, 43) else if access = 3 ∧ q.x = false then (0, 44) else (q.p + (virt - q.v), 0)
theorem trw_step (M : PM) (virt : Nat) (access : Int) (k lv tab : Nat) {i : Nat} {y : Ent.E} {no : Nat} (hi : ixv virt lv = i) (h : entM M tab i lv = (y, no)) : trw M virt access (k + 1) lv tab =
    if no ≠ 0 then (0, no) else if y.t = true then trw M virt access k (lv + 1) y.F else if access = 2 ∧ y.w = false then (0, 43) else if access = 3 ∧ y.x = false then (0, 44) else (y.F + virt % Bu.rch lv, 0) := by
  subst hi
  rw [trw, h]
theorem idx1 (virt : Nat) : virt / 1073741824 * 512 + virt / 2097152 % 512 = virt / 2097152 := by omega
theorem idx2 (virt : Nat) : virt / 2097152 * 512 + virt / 4096 % 512 = virt / 4096 := by omega
theorem walk_pages {M : PM} {base : Nat} {qs : List Pge} {all : List (List Nat)} (hr : Rep base (tabs qs) qs all) (hc : Chain qs) (hl : LiesM M base all) {virt : Nat} (hv : virt < 549755813888) {access : Int} (ha : 1 ≤ access ∧ access ≤ 3) (o : Option Pge)
    (ho : match o with | none => ∀ q ∈ qs, ¬ covers q virt | some q => q ∈ qs ∧ covers q virt) : trI M base virt access = askQ o virt access := by
  have hi := hl.hi
  have hal := hl.al
  have hlen := hr.len
  have h0 : (tabs qs)[0]? = some (0, 0) := (good_tabs qs).root
  have hpos : 0 < all.length := by rw [hlen]; exact (List.getElem?_eq_some_iff.1 h0).1
  unfold trI
  rw [if_neg (by omega), if_neg (by omega), if_neg (by omega)]
  have ei0 : ixv virt 0 = virt / 1073741824 := by unfold ixv; rw [Bu.rch0]; omega
  have ei1 : ixv virt 1 = virt / 2097152 % 512 := by unfold ixv; rw [Bu.rch1]
  have ei2 : ixv virt 2 = virt / 4096 % 512 := by unfold ixv; rw [Bu.rch2]
  have hE0 := hl.ent (i := 0) (e := virt / 1073741824) hpos (by omega) 0
  rw [Nat.zero_mul, Nat.add_zero, hr.ent 0 _ h0 _ (by omega)] at hE0
  have hin : ∀ q ∈ qs, covers q virt → (1, virt / 1073741824) ∈ tabs qs ∧ (q.b = false → (2, virt / 2097152) ∈ tabs qs) := fun q hq hcq => by
    obtain ⟨c1, c2, _, _⟩ := cov_idx (hc.2 q hq) hcq
    exact ⟨mem_tabs.2 (.inr ⟨q, hq, .inl (by rw [c1])⟩), fun hb => mem_tabs.2 (.inr ⟨q, hq, .inr ⟨hb, by rw [c2]⟩⟩)⟩
  have hno : (∀ q ∈ qs, ¬ covers q virt) → o = none := fun h => by
    cases o with
    | none => rfl
    | some q => exact absurd ho.2 (h q ho.1)
  have hyes : ∀ q ∈ qs, covers q virt → o = some q := fun q hq hcq => by
    cases o with
    | none => exact absurd hcq (ho q hq)
    | some r => rw [chain_cov hc hq ho.1 hcq ho.2]
  by_cases hm1 : (1, virt / 1073741824) ∈ tabs qs
  case neg =>
    have he : entry base (tabs qs) qs (0, 0) (virt / 1073741824) = 0 := by unfold entry; rw [if_pos rfl, if_neg hm1]
    rw [he, say_zero] at hE0
    rw [trw_step M virt access 2 0 base ei0 hE0, if_pos (by decide), hno (fun q hq h => hm1 (hin q hq h).1)]
    rfl
  have hx1 := List.idxOf_lt_length_of_mem hm1
  have ha1 := at_idx hm1
  have he0 : entry base (tabs qs) qs (0, 0) (virt / 1073741824) = ptr base ((tabs qs).idxOf (1, virt / 1073741824)) := by unfold entry; rw [if_pos rfl, if_pos hm1]
  rw [he0] at hE0
  clear he0
  generalize (tabs qs).idxOf (1, virt / 1073741824) = i1 at *
  obtain ⟨p1, s1⟩ := say_ptr (base := base) (n := i1) (lv := 0) hal (by omega) (by decide)
  rw [p1, s1] at hE0
  rw [trw_step M virt access 2 0 base ei0 hE0, if_neg (by decide), if_pos rfl]
  have hE1 := hl.ent (i := i1) (e := virt / 2097152 % 512) (by omega) (by omega) 1
  rw [hr.ent i1 _ ha1 _ (by omega)] at hE1
  have hk1 := idx1 virt
  by_cases hm2 : (2, virt / 2097152) ∈ tabs qs
  · have he1 : entry base (tabs qs) qs (1, virt / 1073741824) (virt / 2097152 % 512) = ptr base ((tabs qs).idxOf (2, virt / 2097152)) := by
      unfold entry
      rw [if_neg (show ¬ (1 : Nat) = 0 by decide), if_pos rfl]
      simp only
      rw [hk1, if_pos hm2]
    have hx2 := List.idxOf_lt_length_of_mem hm2
    have ha2 := at_idx hm2
    rw [he1] at hE1
    clear he1
    generalize (tabs qs).idxOf (2, virt / 2097152) = i2 at *
    obtain ⟨p2, s2⟩ := say_ptr (base := base) (n := i2) (lv := 1) hal (by omega) (by decide)
    rw [p2, s2] at hE1
    rw [trw_step M virt access 1 1 _ ei1 hE1, if_neg (by decide), if_pos rfl]
    have hE2 := hl.ent (i := i2) (e := virt / 4096 % 512) (by omega) (by omega) 2
    rw [hr.ent i2 _ ha2 _ (by omega)] at hE2
    have he2 : entry base (tabs qs) qs (2, virt / 2097152) (virt / 4096 % 512) = pageAt qs false (virt / 4096) := by
      unfold entry
      rw [if_neg (show ¬ (2 : Nat) = 0 by decide), if_neg (show ¬ (2 : Nat) = 1 by decide)]
      simp only
      rw [idx2]
    rw [he2] at hE2
    rcases pageAt_some (qs := qs) (b := false) (k := virt / 4096) with hp | ⟨q, hq, hqb, hqk, hqn⟩
    · rw [hp, say_zero] at hE2
      rw [trw_step M virt access 0 2 _ ei2 hE2, if_pos (by decide), hno ?_]
      · rfl
      intro q hq hcq
      obtain ⟨c1, c2, c3, c4⟩ := cov_idx (hc.2 q hq) hcq
      cases hb : q.b with
      | false => exact pageAt_zero hp q hq ⟨hb, by unfold bu; simpa using c3 hb⟩
      | true =>
        rcases mem_tabs.1 hm2 with h | ⟨r, hr', h | ⟨hrb, h⟩⟩
        · injection h with h _; cases h
        · injection h with h _; cases h
        · injection h with _ h
          have hro := hc.2 r hr'
          have hrv := hro.va
          have hqv := (hc.2 q hq).va
          have hru : r.u = 4096 := by rcases r.u_or with ⟨_, h⟩ | ⟨h, _⟩; rw [hrb] at h; cases h; exact h
          have hqu : q.u = 2097152 := by rcases q.u_or with ⟨h, _⟩ | ⟨_, h⟩; exact h; rw [hb] at h; cases h
          rw [hru] at hrv
          rw [hqu] at hqv
          have : q = r := chain_cov hc (virt := r.v) hq hr' (by unfold covers; rw [hqu]; omega) (by unfold covers; rw [hru]; omega)
          rw [this, hrb] at hb
          cases hb
    · have hqo := hc.2 q hq
      have hqu : q.u = 4096 := by rcases q.u_or with ⟨_, h⟩ | ⟨h, _⟩; rw [hqb] at h; cases h; exact h
      have hcq : covers q virt := idx_cov hqo (by rw [hqu]; simpa [bu] using hqk)
      rw [hqn, say_smallp hqo hqb] at hE2
      rw [trw_step M virt access 0 2 _ ei2 hE2, hyes q hq hcq]
      have h4 := (cov_idx hqo hcq).2.2.2
      rw [hqu] at h4
      simp [askQ, Bu.rch2, h4]
  · have he1 : entry base (tabs qs) qs (1, virt / 1073741824) (virt / 2097152 % 512) = pageAt qs true (virt / 2097152) := by
      unfold entry
      rw [if_neg (show ¬ (1 : Nat) = 0 by decide), if_pos rfl]
      simp only
      rw [hk1, if_neg hm2]
    rw [he1] at hE1
    rcases pageAt_some (qs := qs) (b := true) (k := virt / 2097152) with hp | ⟨q, hq, hqb, hqk, hqn⟩
    · rw [hp, say_zero] at hE1
      rw [trw_step M virt access 1 1 _ ei1 hE1, if_pos (by decide), hno ?_]
      · rfl
      intro q hq hcq
      obtain ⟨c1, c2, c3, c4⟩ := cov_idx (hc.2 q hq) hcq
      cases hb : q.b with
      | true => exact pageAt_zero hp q hq ⟨hb, by unfold bu; simpa using c2⟩
      | false => exact hm2 ((hin q hq hcq).2 hb)
    · have hqo := hc.2 q hq
      have hqu : q.u = 2097152 := by rcases q.u_or with ⟨h, _⟩ | ⟨_, h⟩; exact h; rw [hqb] at h; cases h
      have hcq : covers q virt := idx_cov hqo (by rw [hqu]; simpa [bu] using hqk)
      rw [hqn, say_bigp hqo hqb] at hE1
      rw [trw_step M virt access 1 1 _ ei1 hE1, hyes q hq hcq]
      have h4 := (cov_idx hqo hcq).2.2.2
      rw [hqu] at h4
      simp [askQ, Bu.rch1, h4]
end Pg
end Go.Proofs.Ytblfagmoilhdnaa
