/- Texts of this claim, one behind the other: PrF, El, RoL, Tail, Bk, Keep, Be. -/
import Derived.Test.YtblfagmoilhdnaaJPagesBuilds4
import Derived.Test.YtblfagmoilhdnaaJPagesBuilds3
import Derived.Test.YtblfagmoilhdnaaJPagesBuilds1
import Derived.Laws.CopyOwn
import Derived.Deep.MidRow
import Derived.Deep.QuietTactic
import Derived.BigQuiet
import Derived.Test.YtblfagmoilhdnaaJPagesBuilds5
import Derived.Deep.RegionHeld3
import Derived.Deep.Cut
import Derived.Deep.DeepCutAuto
/- The walk of the document's Runs. -/
set_option linter.unusedVariables false
set_option linter.unusedSimpArgs false
namespace Go.Proofs.Ytblfagmoilhdnaa
open Go.RowKit
set_option maxRecDepth 100000 in
set_option maxHeartbeats 1000000 in
theorem rruns_any (A : Option Addr) (n c : Nat) (rows : List Pg.Lf) (w : World) (hr : IsL w w.heap.size A n rows) :
    Calls Try.prog 45 #[.slice A n c] w fun e w' => ∃ A' c', e = .returned (.slice A' (Pg.runs rows).length c') ∧ OwnL w' w.heap.size A' c' (Pg.runs rows) ∧ Below w.heap.size w w' := by
  obtain ⟨i0, hi0, hz1, hz2, hz3⟩ := info_parts infoLeaf
  have HI := Lib.hid hi0; have HZ1 := Lib.hid hz1; have HZ2 := Lib.hid hz2; have HZ3 := Lib.hid hz3
  have HRT := Lib.hid (refuses_any A n c rows w hr)
  obtain ⟨b, off, HF⟩ := hr.form
  have HL := Lib.hid hr.2.2.1
  have hn := hr.2.2.2
  have HIN := Lib.hid hr.2.1
  clear hr hi0 hz1 hz2 hz3
  go_enter Try.func45, Try.ntmps45
  go_wp2_with fail
  refine HRT.out.mono ?_
  rintro e w1 ⟨rfl, hb1⟩
  have HB1 := Lib.hid hb1
  clear hb1
  obtain ⟨R, hR⟩ : ∃ R, R = Pg.right 0 rows := ⟨_, rfl⟩
  rw [← hR]
  by_cases h0 : R = 0
  · have HR0 : Hid (Pg.right 0 rows = 0) := Lib.hid (hR ▸ h0)
    have f0 : ((R : Int) != 0) = false := by rw [bne_eq_false_iff_eq]; omega
    clear h0 hR
    go_wp2_with fail
    go_loopw [3, 4] (fun o i wr => ∃ (k c1 m : Nat) (A1 : Option Addr) (out : List Pg.Lf), k ≤ n ∧ m ≤ k ∧ i = .int .i64 k ∧ o = .slice A1 m c1 ∧ Hid (OwnL wr w.heap.size A1 c1 out ∧ out.length = m) ∧ Hid (Pg.joins rows = (rows.drop k).foldl Pg.runs1 out) ∧ Hid (Pg.right 0 out = 0 ∧ Pg.right (Pg.endOf 0 out) (rows.drop k) = 0) ∧ Hid (Below w.heap.size w wr)) (fun _ i _ => n - (intOf i).toNat)
    case atStart => exact ⟨0, 0, 0, none, [], by omega, by omega, rfl, rfl, Lib.hid ⟨own_nil _ _ _ _, rfl⟩, Lib.hid rfl, Lib.hid ⟨rfl, HR0.out⟩, HB1⟩
    case round =>
      obtain ⟨k, c1, m, A1, out, hk, hm, rfl, rfl, HO, HJ, HSR, HB⟩ := hrel
      by_cases hkn : k < n
      · obtain ⟨hA, hbB, hc⟩ := HF.out (by omega)
        subst hA
        obtain ⟨r, hrk⟩ : ∃ r, rows[k]? = some r := ⟨_, List.getElem?_eq_getElem (by have := HL.out; omega)⟩
        have hd : rows.drop k = r :: rows.drop (k + 1) := by
          obtain ⟨hlt, he⟩ := List.getElem?_eq_some_iff.1 hrk
          rw [List.drop_eq_getElem_cons hlt, he]
        have c0 := (HB.out.cell (p := ⟨b, off + k * 6, none⟩) hbB).trans (hc k r hrk 0 _ rfl)
        have c1' := (HB.out.cell (p := ⟨b, off + k * 6 + 1, none⟩) hbB).trans (hc k r hrk 1 _ rfl)
        have c2 := (HB.out.cell (p := ⟨b, off + k * 6 + 2, none⟩) hbB).trans (hc k r hrk 2 _ rfl)
        have c3 := (HB.out.cell (p := ⟨b, off + k * 6 + 3, none⟩) hbB).trans (hc k r hrk 3 _ rfl)
        have c4 := (HB.out.cell (p := ⟨b, off + k * 6 + 4, none⟩) hbB).trans (hc k r hrk 4 _ rfl)
        have c5 := (HB.out.cell (p := ⟨b, off + k * 6 + 5, none⟩) hbB).trans (hc k r hrk 5 _ rfl)
        have hrt := HSR.out
        rw [hd] at hrt
        obtain ⟨hrok, hre, hrr⟩ := Pg.right_cons hrt.2
        have HROK := Lib.hid hrok
        have hjo := HJ.out
        rw [hd, List.foldl_cons] at hjo
        have HJO := Lib.hid hjo
        have hnx := Pg.runs1_right hrt.1 hrok hre
        have HNX : Hid (Pg.right 0 (Pg.runs1 out r) = 0 ∧ Pg.right (Pg.endOf 0 (Pg.runs1 out r)) (rows.drop (k + 1)) = 0) := Lib.hid ⟨hnx.1, by rw [hnx.2.1]; exact hrr⟩
        have hr1 := hrok.n1
        have hr5 := hrok.vl
        have hr6 := hrok.pl
        have HRT0 := Lib.hid hrt.1
        obtain ⟨v, p, nn, bg, wt, ex⟩ := r
        simp only at hr1 hr5 hr6
        obtain ⟨xn, rfl⟩ : ∃ xn : Nat, nn = xn := ⟨nn.toNat, by omega⟩
        simp only [Int.toNat_natCast] at hr1 hr5 hr6
        clear hc hrk hrt hrok hre hrr hjo hnx hd HSR HJ HRT
        go_upto_region 8 with fail
        have hrx := Row.new wr 47 (lcells ⟨v, p, xn, bg, wt, ex⟩)
        have hba := HB.out.alloc HB.out.size (.cells (lcells ⟨v, p, xn, bg, wt, ex⟩).toArray 47)
        have hox : OwnL (wr.alloc (.cells (lcells ⟨v, p, xn, bg, wt, ex⟩).toArray 47)) w.heap.size A1 c1 out := World.ownsRow.alloc HO.out.1 _
        have hom := HO.out.2
        unfold lcells at hrx hba hox
        simp only [] at hrx hba hox
        obtain ⟨gx, hgx⟩ : ∃ g, g = wr.heap.size := ⟨_, rfl⟩
        rw [← hgx] at hrx ⊢
        obtain ⟨w2, hw2⟩ : ∃ w2, w2 = wr.alloc (.cells #[.int .u64 (v : Nat), .int .u64 (p : Nat), .int .i64 (xn : Nat), .bool bg, .bool wt, .bool ex] 47) := ⟨_, rfl⟩
        rw [← hw2] at hrx hba hox ⊢
        have HRX := Lib.hid hrx
        have HBA := Lib.hid hba
        have HOX := Lib.hid hox
        clear c0 c1' c2 c3 c4 c5 HB HO hrx hba hox hgx hw2 HF
        rcases Pg.snoc_cases out with rfl | ⟨a, y, rfl⟩
        · obtain rfl : m = 0 := hom.symm
          clear hom
          have d0 := HRX.out.cell 0
          have d1 := HRX.out.cell 1
          have d2 := HRX.out.cell 2
          have d3 := HRX.out.cell 3
          have d4 := HRX.out.cell 4
          have d5 := HRX.out.cell 5
          simp only [List.getElem?_cons_zero, List.getElem?_cons_succ] at d0 d1 d2 d3 d4 d5
          have hxl := HRX.out.lt
          have HR1 : Hid (Reads (w2.alloc (.cells #[.int .u64 (v : Nat), .int .u64 (p : Nat), .int .i64 (xn : Nat), .bool bg, .bool wt, .bool ex] 47)) (w2.alloc (.cells #[.int .u64 (v : Nat), .int .u64 (p : Nat), .int .i64 (xn : Nat), .bool bg, .bool wt, .bool ex] 47)).heap.size 6 (some ⟨w2.heap.size, 0, none⟩) 1 (lcells ⟨v, p, xn, bg, wt, ex⟩)) := Lib.hid (isL_one w2 ⟨v, p, xn, bg, wt, ex⟩ (by unfold Pg.Lf.In; simp only; omega)).1
          go_upto_region 14 with fail
          go_wp2_with (at_builtin; refine wpList_append_sl _ (by rfl) (.tmp 82) (.tmp 84) 48 rfl w.heap.size 47 i0 _ 6 32 Try.underlying48 HI.out HZ1.out HZ2.out HZ3.out rfl (by omega) (.slice A1 0 c1) 0 (lall []) rfl (HOX.out.alloc _) _ (some ⟨w2.heap.size, 0, none⟩) 1 1 (lcells ⟨v, p, xn, bg, wt, ex⟩) rfl HR1.out (oneCell_leaf _) (by unfold maxLen; omega) (by omega) (by simp; have := HBA.out.size; omega) ?_; intro A3 c3 w3 hown3 hrd3 hg3 hat3)
          go_roundw
          case rel =>
            refine ⟨k + 1, c3, 1, A3, Pg.runs1 [] ⟨v, p, xn, bg, wt, ex⟩, by omega, by omega, by go_num, rfl, Lib.hid ⟨?_, ?_⟩, Lib.hid HJO.out, HNX, Lib.hid ?_⟩
            · exact hown3
            · rfl
            · exact (HBA.out.alloc HBA.out.size _).grown hg3 (by simp; have := HBA.out.size; omega) (fun k hk => (HOX.out.lt k hk).1)
          case measure => simp [intOf]; omega
        · obtain ⟨L, hL⟩ : ∃ L, L = a.length := ⟨_, rfl⟩
          obtain rfl : m = L + 1 := by rw [← hom, hL]; simp
          obtain ⟨ha0, hy0⟩ := Pg.right_append.1 HRT0.out
          have hmlen : L + 1 ≤ 134217728 := by have := Pg.right_len HRT0.out (by omega); rw [List.length_append] at this; simp at this; omega
          obtain ⟨hyok, hya⟩ := Pg.right_one.1 hy0
          have HYOK := Lib.hid hyok
          have HAL := Lib.hid hL
          obtain ⟨g1, rfl, hBg, hg1l, hcc, hcm⟩ := own_some HOX.out (by simp)
          have hcells : ∀ j u, (lcells y)[j]? = some u → w2.cell? ⟨g1, L * 6 + j, none⟩ = some u := fun j u hu => by
            have hj : j < 6 := (List.getElem?_eq_some_iff.1 hu).1
            rw [show L * 6 + j = 6 * L + j by omega, World.ownsRow.cellAt HOX.out (6 * L + j) (by simp; omega), lall_at (k := L) (r := y) (by rw [hL]; simp) j hj, hu]
          have hmt := fun (wx : World) => eqlM wx y ⟨v, p, xn, bg, wt, ex⟩ _ _ rfl rfl
          have hy1 := hyok.n1
          have hy5 := hyok.vl
          have hy6 := hyok.pl
          have hy7 := (Pg.meets_iff (y := y) (x := ⟨v, p, xn, bg, wt, ex⟩)).1
          have hfr := World.ownsRow.frozenAt HOX.out (6 * L + 2)
          obtain ⟨yv, yp, yn', yb, yw, yx⟩ := y
          simp only at hy1 hy5 hy6 hmt hy7
          obtain ⟨yn, rfl⟩ : ∃ yn : Nat, yn' = yn := ⟨yn'.toNat, by omega⟩
          simp only [Int.toNat_natCast] at hy1 hy5 hy6 hmt hy7
          have e0 := hcells 0 _ rfl
          have e1 := hcells 1 _ rfl
          have e2 := hcells 2 _ rfl
          have e3 := hcells 3 _ rfl
          have e4 := hcells 4 _ rfl
          have e5 := hcells 5 _ rfl
          rw [Nat.add_zero] at e0
          rw [show 6 * L + 2 = L * 6 + 2 by omega] at hfr
          obtain ⟨V1, hV1⟩ : ∃ V, V = yv + yn * 4096 := ⟨_, rfl⟩
          obtain ⟨P1, hP1⟩ : ∃ V, V = yp + yn * 4096 := ⟨_, rfl⟩
          rw [← hV1, ← hP1] at hmt
          unfold lfV at hmt
          simp only [] at hmt
          obtain ⟨T, hT⟩ : ∃ T, T = Pg.meets ⟨yv, yp, yn, yb, yw, yx⟩ ⟨v, p, xn, bg, wt, ex⟩ := ⟨_, rfl⟩
          rw [← hT] at hmt hy7
          have q1 : IntKind.u64.wrap (yn : Int) = (yn : Int) := by rw [IntKind.wrap_u64]; omega
          have q2 : ((yn : Int) * 4096) % 18446744073709551616 = (yn : Int) * 4096 := by omega
          have q3 : IntKind.u64.wrap ((yn : Int) * 4096) = (yn : Int) * 4096 := by rw [IntKind.wrap_u64]; omega
          have q4 : ((yv : Int) + (yn : Int) * 4096) % 18446744073709551616 = (V1 : Int) := by omega
          have q5 : IntKind.u64.wrap ((yv : Int) + (yn : Int) * 4096) = (V1 : Int) := by rw [IntKind.wrap_u64]; omega
          have q6 : ((yp : Int) + (yn : Int) * 4096) % 18446744073709551616 = (P1 : Int) := by omega
          have q7 : IntKind.u64.wrap ((yp : Int) + (yn : Int) * 4096) = (P1 : Int) := by rw [IntKind.wrap_u64]; omega
          have q8 : ((yv : Int) + (yn : Int) * 4096) = (V1 : Int) := by omega
          have q9 : ((yp : Int) + (yn : Int) * 4096) = (P1 : Int) := by omega
          have HT := Lib.hid hT
          have HMT := Lib.hid hmt
          have HY7 := Lib.hid hy7
          have hxl := HRX.out.lt
          have d0 := HRX.out.cell 0
          have d1 := HRX.out.cell 1
          have d2 := HRX.out.cell 2
          have d3 := HRX.out.cell 3
          have d4 := HRX.out.cell 4
          have d5 := HRX.out.cell 5
          simp only [List.getElem?_cons_zero, List.getElem?_cons_succ] at d0 d1 d2 d3 d4 d5
          clear hL hom ha0 hy0 hyok hya hcells hmt hT hV1 hP1 hy7
          go_upto_region 12 with fail
          have hrl := Row.new w2 47 (lcells ⟨yv, yp, yn, yb, yw, yx⟩)
          have hb5 : Below w2.heap.size w2 (w2.alloc (.cells #[.int .u64 (yv : Nat), .int .u64 (yp : Nat), .int .i64 (yn : Nat), .bool yb, .bool yw, .bool yx] 47)) := (Below.refl w2.heap.size w2).alloc (Nat.le_refl _) _
          have hbs := HBA.out.size
          obtain ⟨gn, hgl⟩ : ∃ g, g = w2.heap.size := ⟨_, rfl⟩
          have hrn5 : Row (w2.alloc (.cells #[.int .u64 (yv : Nat), .int .u64 (yp : Nat), .int .i64 (yn : Nat), .bool yb, .bool yw, .bool yx] 47)) gn 47 [.int .u64 (yv : Nat), .int .u64 (yp : Nat), .int .i64 (yn : Nat), .bool yb, .bool yw, .bool yx] := by
            unfold lcells at hrl
            simp only [] at hrl
            rw [← hgl] at hrl
            exact hrl
          clear hrl
          rw [← hgl]
          clear hgl e0 e1 e2 e3 e4 e5 d0 d1 d2 d3 d4 d5 hfr
          generalize w2.alloc (.cells #[.int .u64 (yv : Nat), .int .u64 (yp : Nat), .int .i64 (yn : Nat), .bool yb, .bool yw, .bool yx] 47) = w5 at *
          have n0 := hrn5.cell 0
          have n1 := hrn5.cell 1
          have n2 := hrn5.cell 2
          have n3 := hrn5.cell 3
          have n4 := hrn5.cell 4
          have n5 := hrn5.cell 5
          have hnl := hrn5.lt
          have hrx5 := HRX.out.below hb5 hxl
          have d0 := hrx5.cell 0
          have d1 := hrx5.cell 1
          have d2 := hrx5.cell 2
          have d3 := hrx5.cell 3
          have d4 := hrx5.cell 4
          have d5 := hrx5.cell 5
          have hxl5 := hrx5.lt
          simp only [List.getElem?_cons_zero, List.getElem?_cons_succ] at n0 n1 n2 n3 n4 n5 d0 d1 d2 d3 d4 d5
          have HOX5 : Hid (OwnL w5 w.heap.size (some ⟨g1, 0, none⟩) c1 (a ++ [⟨yv, yp, yn, yb, yw, yx⟩])) := Lib.hid (owns_below HOX.out hb5)
          have HBA5 : Hid (Below w.heap.size w w5) := Lib.hid (HBA.out.trans (hb5.mono HBA.out.size))
          have e2 : w5.cell? ⟨g1, L * 6 + 2, none⟩ = some (.int .i64 (yn : Nat)) := by
            rw [show L * 6 + 2 = 6 * L + 2 by omega, World.ownsRow.cellAt HOX5.out (6 * L + 2) (by simp; have := HAL.out; omega), lall_at (k := L) (r := ⟨yv, yp, yn, yb, yw, yx⟩) (by rw [HAL.out]; simp) 2 (by omega)]
            rfl
          have hfr : w5.frozen? ⟨g1, L * 6 + 2, none⟩ = false := World.ownsRow.frozenAt HOX5.out _
          have hg15 : g1 < w5.heap.size := Nat.lt_of_lt_of_le hg1l hb5.size
          have HSV : Hid (V1 = yv + yn * 4096 ∧ P1 = yp + yn * 4096) := Lib.hid ⟨by omega, by omega⟩
          have HT5 : Hid (T = (decide (V1 = v) && decide (P1 = p) && (yb == bg) && (yw == wt) && (yx == ex))) := Lib.hid (by
            rw [HT.out, HSV.out.1, HSV.out.2]
            rfl)
          clear hb5 hrn5 hrx5 HRX HOX HBA HMT
          unfold maxLen at hcm
          go_cut [71] (fun x wx => x = .bool T ∧ wx = w5)
          case first =>
            cases t1 : decide (V1 = v) with
            | false =>
              have u1 : ((V1 : Int) == (v : Int)) = false := by have := of_decide_eq_false t1; simp; omega
              go_wp2_with fail
              go_meet
              case rel => exact ⟨by rw [HT5.out, t1]; rfl, rfl⟩
            | true =>
            have u1 : ((V1 : Int) == (v : Int)) = true := by have := of_decide_eq_true t1; simp; omega
            cases t2 : decide (P1 = p) with
            | false =>
              have u2 : ((P1 : Int) == (p : Int)) = false := by have := of_decide_eq_false t2; simp; omega
              go_wp2_with fail
              go_meet
              case rel => exact ⟨by rw [HT5.out, t1, t2]; rfl, rfl⟩
            | true =>
            have u2 : ((P1 : Int) == (p : Int)) = true := by have := of_decide_eq_true t2; simp; omega
            have HT1 := Lib.hid t1; have HT2 := Lib.hid t2
            clear t1 t2
            cases t3 : yb == bg with
            | false =>
              go_wp2_with fail
              go_meet
              case rel => exact ⟨by rw [HT5.out, HT1.out, HT2.out, t3]; rfl, rfl⟩
            | true =>
            cases t4 : yw == wt with
            | false =>
              go_wp2_with fail
              go_meet
              case rel => exact ⟨by rw [HT5.out, HT1.out, HT2.out, t3, t4]; rfl, rfl⟩
            | true =>
            cases t5 : yx == ex with
            | false =>
              go_wp2_with fail
              go_meet
              case rel => exact ⟨by rw [HT5.out, HT1.out, HT2.out, t3, t4, t5]; rfl, rfl⟩
            | true =>
              go_wp2_with fail
              go_meet
              case rel => exact ⟨by rw [HT5.out, HT1.out, HT2.out, t3, t4, t5]; rfl, rfl⟩
          case rest =>
            obtain ⟨rfl, hwx⟩ := hcut
            rw [hwx]
            clear hwx HT5
            cases hTT : T with
            | true =>
              obtain ⟨m1, m2, _⟩ := HY7.out hTT
              have h9 : yn + xn < 9223372036854775808 := by have := hr5; omega
              have r1 : IntKind.i64.wrap ((yn : Int) + (xn : Int)) = (yn : Int) + (xn : Int) := by rw [IntKind.wrap_i64]; omega
              have HMS : Hid (Pg.runs1 (a ++ [⟨yv, yp, yn, yb, yw, yx⟩]) ⟨v, p, xn, bg, wt, ex⟩ = a ++ [⟨yv, yp, (yn : Int) + (xn : Int), yb, yw, yx⟩]) := Lib.hid (by
                rw [Pg.runs1_snoc, if_pos (by rw [← HT.out, hTT])]; rfl)
              have HOXS : Hid (OwnL (w5.setCell ⟨g1, L * 6 + 2, none⟩ (.int .i64 ((yn : Int) + (xn : Int)))) w.heap.size (some ⟨g1, 0, none⟩) c1 (a ++ [⟨yv, yp, (yn : Int) + (xn : Int), yb, yw, yx⟩])) := Lib.hid (by
                have h := (World.ownsRow.stored HOX5.out (6 * L + 2) (.int .i64 ((yn : Int) + (xn : Int)))).1
                rw [HAL.out, lall_set] at h
                rw [show L * 6 + 2 = 6 * a.length + 2 by rw [← HAL.out]; omega]
                unfold OwnL
                rw [show (a ++ [(⟨yv, yp, (yn : Int) + (xn : Int), yb, yw, yx⟩ : Pg.Lf)]).length = (a ++ [(⟨yv, yp, yn, yb, yw, yx⟩ : Pg.Lf)]).length by simp]
                exact h)
              clear m1 m2
              go_wp2_with fail
              go_roundw
              case rel =>
                refine ⟨k + 1, c1, L + 1, some ⟨g1, 0, none⟩, Pg.runs1 (a ++ [⟨yv, yp, yn, yb, yw, yx⟩]) ⟨v, p, xn, bg, wt, ex⟩, by omega, by omega, by go_num, rfl, Lib.hid ⟨?_, ?_⟩, Lib.hid HJO.out, HNX, Lib.hid ?_⟩
                · rw [HMS.out]; exact HOXS.out
                · rw [HMS.out, HAL.out]; simp
                · exact HBA5.out.setCell (p := ⟨g1, L * 6 + 2, none⟩) hBg _
              case measure => simp [intOf]; omega
            | false =>
              have HMS : Hid (Pg.runs1 (a ++ [⟨yv, yp, yn, yb, yw, yx⟩]) ⟨v, p, xn, bg, wt, ex⟩ = a ++ [⟨yv, yp, yn, yb, yw, yx⟩] ++ [⟨v, p, xn, bg, wt, ex⟩]) := Lib.hid (by
                rw [Pg.runs1_snoc, if_neg (by rw [← HT.out, hTT]; simp)])
              have HR1 : Hid (Reads (w5.alloc (.cells #[.int .u64 (v : Nat), .int .u64 (p : Nat), .int .i64 (xn : Nat), .bool bg, .bool wt, .bool ex] 47)) (w5.alloc (.cells #[.int .u64 (v : Nat), .int .u64 (p : Nat), .int .i64 (xn : Nat), .bool bg, .bool wt, .bool ex] 47)).heap.size 6 (some ⟨w5.heap.size, 0, none⟩) 1 (lcells ⟨v, p, xn, bg, wt, ex⟩)) := Lib.hid (isL_one w5 ⟨v, p, xn, bg, wt, ex⟩ (by unfold Pg.Lf.In; simp only; omega)).1
              have HOX6 : Hid (w5.ownsRow w.heap.size 47 6 (.slice (some ⟨g1, 0, none⟩) (L + 1) c1) (L + 1) (lall (a ++ [⟨yv, yp, yn, yb, yw, yx⟩]))) := Lib.hid (by
                have h := HOX5.out
                unfold OwnL at h
                rw [show (a ++ [(⟨yv, yp, yn, yb, yw, yx⟩ : Pg.Lf)]).length = L + 1 by rw [HAL.out]; simp] at h
                exact h)
              go_upto_region 14 with fail
              clear n0 n1 n2 n3 n4 n5
              go_wp2_with (at_builtin; refine wpList_append_sl _ (by rfl) (.tmp 82) (.tmp 84) 48 rfl w.heap.size 47 i0 _ 6 32 Try.underlying48 HI.out HZ1.out HZ2.out HZ3.out rfl (by omega) (.slice (some ⟨g1, 0, none⟩) (L + 1) c1) (L + 1) (lall (a ++ [⟨yv, yp, yn, yb, yw, yx⟩])) rfl (HOX6.out.alloc _) _ (some ⟨w5.heap.size, 0, none⟩) 1 1 (lcells ⟨v, p, xn, bg, wt, ex⟩) rfl HR1.out (oneCell_leaf _) (by unfold maxLen; omega) (by omega) (by simp; have := HBA5.out.size; omega) ?_; intro A3 c3 w3 hown3 hrd3 hg3 hat3)
              go_roundw
              case rel =>
                refine ⟨k + 1, c3, L + 1 + 1, A3, Pg.runs1 (a ++ [⟨yv, yp, yn, yb, yw, yx⟩]) ⟨v, p, xn, bg, wt, ex⟩, by omega, by omega, by go_num, rfl, Lib.hid ⟨?_, ?_⟩, Lib.hid HJO.out, HNX, Lib.hid ?_⟩
                · rw [HMS.out]
                  unfold OwnL
                  rw [show (a ++ [(⟨yv, yp, yn, yb, yw, yx⟩ : Pg.Lf)] ++ [(⟨v, p, xn, bg, wt, ex⟩ : Pg.Lf)]).length = L + 1 + 1 by rw [HAL.out]; simp, lall_snoc]
                  exact hown3
                · rw [HMS.out, HAL.out]; simp
                · exact (HBA5.out.alloc HBA5.out.size _).grown hg3 (by simp; have := HBA5.out.size; omega) (fun k hk => (HOX6.out.lt k hk).1)
              case measure => simp [intOf]; omega
      · have HK : Hid (k = n) := Lib.hid (by omega)
        have hj := HJ.out
        rw [HK.out, List.drop_of_length_le (Nat.le_of_eq HL.out)] at hj
        have HJ2 : Hid (Pg.runs rows = out) := Lib.hid (by rw [Pg.runs_ok HR0.out, hj]; rfl)
        have HM := Lib.hid HO.out.2
        clear hj HJ HSR
        go_wp2_with fail
        go_ret
        refine ⟨A1, c1, ?_, ?_, HB.out⟩
        · rw [HJ2.out, HM.out]; rfl
        · rw [HJ2.out]; exact HO.out.1
  · have f0 : ((R : Int) != 0) = true := by rw [bne_iff_ne]; omega
    have HR := Lib.hid hR
    have HNZ := Lib.hid h0
    clear hR h0
    go_wp2_with fail
    go_ret
    have ha : Pg.runs rows = [] := by
      unfold Pg.runs
      rw [if_pos (by rw [← HR.out]; exact HNZ.out)]
    rw [ha]
    exact ⟨none, 0, rfl, own_nil _ _ _ _, HB1.out⟩
end Go.Proofs.Ytblfagmoilhdnaa

/- Elements of several cells: cells that are stored one after the other, a copy of such elements. -/
set_option linter.unusedVariables false
set_option linter.unusedSimpArgs false
namespace Go.Proofs.Ytblfagmoilhdnaa
open Go.RowKit
/-- cells that are stored one after the other -/
def setL : List Value → Nat → List Value → List Value
  | l, _, [] => l
  | l, o, v :: r => setL (l.set o v) (o + 1) r
theorem setL_len : ∀ (vs : List Value) (l : List Value) (o : Nat), (setL l o vs).length = l.length
  | [], l, o => rfl
  | v :: r, l, o => by rw [setL, setL_len r, List.length_set]
theorem setL_at : ∀ (vs : List Value) (l : List Value) (o i : Nat), o + vs.length ≤ l.length → (setL l o vs)[i]? = if o ≤ i ∧ i < o + vs.length then vs[i - o]? else l[i]?
  | [], l, o, i, h => by rw [setL, if_neg (by rintro ⟨h1, h2⟩; rw [List.length_nil] at h2; omega)]
  | v :: r, l, o, i, h => by
    rw [List.length_cons] at h
    rw [setL, setL_at r _ _ _ (by rw [List.length_set]; omega), List.length_cons]
    by_cases h1 : i = o
    · subst h1
      rw [if_neg (by omega), if_pos (by omega), List.getElem?_set_self (by omega), Nat.sub_self]
      rfl
    · by_cases h2 : o + 1 ≤ i ∧ i < o + 1 + r.length
      · rw [if_pos h2, if_pos (by omega), show i - o = (i - (o + 1)) + 1 by omega, List.getElem?_cons_succ]
      · rw [if_neg h2, if_neg (by omega), List.getElem?_set_ne (by omega)]
theorem Row.sets {w : World} {g : Nat} {t : TypeId} : ∀ {l : List Value} (_ : Row w g t l) (vs : List Value) (o : Nat), Row (w.setCells g o vs) g t (setL l o vs) := by
  intro l h vs
  induction vs generalizing w l with
  | nil => intro o; exact h
  | cons v r ih => intro o; exact ih (h.set_ o v) (o + 1)
theorem Row.fars {w : World} {g b : Nat} {t : TypeId} {l : List Value} (h : Row w g t l) (e : g ≠ b) (vs : List Value) (o : Nat) : Row (w.setCells b o vs) g t l := by
  induction vs generalizing w o with
  | nil => exact h
  | cons v r ih => exact ih (h.far (p := ⟨b, o, none⟩) e v) (o + 1)
theorem Chg.sets {S : List Nat} {w w' : World} (h : Chg S w w') {b : Nat} (hb : b ∈ S ∨ w.heap.size ≤ b) (vs : List Value) (o : Nat) : Chg S w (w'.setCells b o vs) := by
  induction vs generalizing w' o with
  | nil => exact h
  | cons v r ih => exact ih (h.set_ (p := ⟨b, o, none⟩) hb v) (o + 1)
theorem Chg.cell_ {w w' : World} (h : Chg [] w w') {g : Nat} (hg : g < w.heap.size) {o : Nat} {s : Option Nat} : w'.cell? ⟨g, o, s⟩ = w.cell? ⟨g, o, s⟩ := by
  have := h.block g hg (by simp)
  unfold World.cell?
  rw [this]
theorem Chg.range {w w' : World} (h : Chg [] w w') {g o : Nat} (hg : g < w.heap.size) {V : List Value} (hr : w.rangeAt g o V) : w'.rangeAt g o V := fun j v hv => (h.cell_ hg).trans (hr j v hv)
theorem Row.there {w : World} {g : Nat} {t : TypeId} {l : List Value} (h : Row w g t l) {o n : Nat} (hl : o + n ≤ l.length) : w.there g o n := by
  intro j hj
  rw [h.cell (o + j), List.getElem?_eq_getElem (by omega)]
  exact ⟨rfl, h.frozen _⟩
theorem setL_flat {s : Nat} {x : List Value} (hx : x.length = s) : ∀ (bs : List (List Value)) (_ : ∀ b ∈ bs, b.length = s) (i : Nat), i < bs.length → setL bs.flatten (s * i) x = (bs.set i x).flatten := by
  intro bs hb i hi
  have hfl : ∀ (l : List (List Value)), (∀ b ∈ l, b.length = s) → l.flatten.length = s * l.length := by
    intro l
    induction l with
    | nil => intro _; simp
    | cons a r ih =>
      intro h
      rw [List.flatten_cons, List.length_append, h a (by simp), ih (fun b hb => h b (by simp [hb])), List.length_cons, Nat.mul_succ]
      omega
  have hat : ∀ (l : List (List Value)) (_ : ∀ b ∈ l, b.length = s) (k : Nat), l.flatten[k]? = if s = 0 then none else (l[k / s]?).bind (fun b => b[k % s]?) := by
    intro l
    induction l with
    | nil => intro _ k; simp
    | cons a r ih =>
      intro h k
      have ha := h a (by simp)
      rw [List.flatten_cons]
      rcases Nat.eq_zero_or_pos s with h0 | h0
      · rw [if_pos h0]
        have hz := hfl (a :: r) h
        rw [h0, Nat.zero_mul, List.flatten_cons] at hz
        rw [List.getElem?_eq_none (by omega)]
      · rw [if_neg (by omega)]
        by_cases hk : k < s
        · rw [List.getElem?_append_left (by omega), Nat.div_eq_of_lt hk, Nat.mod_eq_of_lt hk]
          rfl
        · rw [List.getElem?_append_right (by omega), ha, ih (fun b hb => h b (by simp [hb])), if_neg (by omega)]
          have e1 : k / s = (k - s) / s + 1 := by rw [Nat.div_eq_sub_div h0 (by omega)]
          have e2 : k % s = (k - s) % s := by rw [Nat.mod_eq_sub_mod (by omega)]
          rw [e1, e2, List.getElem?_cons_succ]
  have hset : ∀ b ∈ bs.set i x, b.length = s := by
    intro b h
    rcases List.mem_or_eq_of_mem_set h with h | rfl
    · exact hb b h
    · exact hx
  have hl := hfl bs hb
  have hfit : s * i + s ≤ s * bs.length := by rw [← Nat.mul_succ]; exact Nat.mul_le_mul_left _ hi
  apply List.ext_getElem?
  intro k
  rw [setL_at x bs.flatten (s * i) k (by rw [hx, hl]; exact hfit), hat _ hset, hat _ hb, hx]
  rcases Nat.eq_zero_or_pos s with h0 | h0
  · subst h0
    rw [if_neg (by omega)]
    simp
  · simp only [if_neg (show ¬ s = 0 by omega)]
    by_cases hk : s * i ≤ k ∧ k < s * i + s
    · rw [if_pos hk]
      have e1 : k / s = i := by
        have := Nat.div_add_mod k s
        exact Nat.div_eq_of_lt_le (by rw [Nat.mul_comm]; omega) (by rw [Nat.mul_comm, Nat.mul_succ]; omega)
      have e2 : k % s = k - s * i := by have := Nat.div_add_mod k s; rw [e1] at this; omega
      rw [e1, e2, List.getElem?_set_self hi]
      rfl
    · rw [if_neg hk]
      have e1 : i ≠ k / s := by
        intro e
        apply hk
        have := Nat.div_add_mod k s
        have := Nat.mod_lt k h0
        rw [← e] at *
        omega
      rw [List.getElem?_set_ne e1]
theorem flat_len {s : Nat} : ∀ (l : List (List Value)), (∀ b ∈ l, b.length = s) → l.flatten.length = s * l.length := by
  intro l
  induction l with
  | nil => intro _; simp
  | cons a r ih =>
    intro h
    rw [List.flatten_cons, List.length_append, h a (by simp), ih (fun b hb => h b (by simp [hb])), List.length_cons, Nat.mul_succ]
    omega
theorem flat_cell {s : Nat} : ∀ (l : List (List Value)) (_ : ∀ b ∈ l, b.length = s) (i j : Nat) (b : List Value), l[i]? = some b → j < s → l.flatten[s * i + j]? = b[j]? := by
  intro l
  induction l with
  | nil => intro _ i j b h; simp at h
  | cons a r ih =>
    intro h i j b hb hj
    have ha := h a (by simp)
    rw [List.flatten_cons]
    cases i with
    | zero =>
      injection hb with hb
      subst hb
      rw [Nat.mul_zero, Nat.zero_add, List.getElem?_append_left (by omega)]
    | succ i =>
      rw [List.getElem?_append_right (by rw [ha, Nat.mul_succ]; omega), ha, show s * (i + 1) + j - s = s * i + j by rw [Nat.mul_succ]; omega]
      exact ih (fun b hb => h b (by simp [hb])) i j b hb hj
theorem madeCells_rep (z : List Value) (s n : Nat) (hs : z.length = s) (h0 : 0 < s) : madeCells z.toArray (n * s) = ((List.replicate n z).flatten).toArray := by
  have hz := flat_len (s := s) (List.replicate n z) (fun b h => by rw [List.eq_of_mem_replicate h]; exact hs)
  rw [List.length_replicate] at hz
  apply Array.ext_getElem?
  intro k
  have e0 : ((List.replicate n z).flatten).toArray[k]? = ((List.replicate n z).flatten)[k]? := by simp
  rw [e0]
  by_cases hk : k < n * s
  · have hm : k % s < s := Nat.mod_lt _ h0
    have h1 := flat_cell (s := s) (List.replicate n z) (fun b h => by rw [List.eq_of_mem_replicate h]; exact hs) (k / s) (k % s) z (by rw [List.getElem?_replicate, if_pos ((Nat.div_lt_iff_lt_mul h0).2 hk)]) hm
    rw [Nat.div_add_mod] at h1
    rw [h1]
    unfold madeCells
    rw [Array.getElem?_map, Array.getElem?_range, if_pos hk]
    simp only [Option.map_some, List.size_toArray, hs]
    rw [List.getElem?_eq_getElem (show k % s < z.length by omega)]
    congr 1
    exact getElem!_pos z.toArray (k % s) (by simpa [hs] using hm)
  · rw [List.getElem?_eq_none (by rw [hz, Nat.mul_comm]; omega), Array.getElem?_eq_none (by rw [size_madeCells]; omega)]
theorem below_sets {B : Nat} {w w' : World} (h : Below B w w') {b : Nat} (hb : B ≤ b) (vs : List Value) (o : Nat) : Below B w (w'.setCells b o vs) := by
  induction vs generalizing w' o with
  | nil => exact h
  | cons v r ih => exact ih (h.setCell (p := ⟨b, o, none⟩) hb v) (o + 1)
section
variable {P : Program}
theorem run_copy_sz (w : World) (dT sT ty elem : TypeId) (g o dLen dCap : Nat) (a : Addr) (sLen sCap size : Nat) (cur : Array Value) (t : TypeId) (cs : List Value)
    (hu : P.underlying dT = some (.slice elem)) (hs : (P.info? elem).map (·.size) = some size)
    (hg : w.heap[g]? = some (.cells cur t (0, 0))) (hn : cs.length = Nat.min sLen dLen * size)
    (hsrc : ∀ j v, cs[j]? = some v → w.cell? (a.add j) = some v) (hfit : o + cs.length ≤ cur.size) (h1 : ∀ v ∈ cs, v.oneCell' = true) :
    (Builtin.copy_ #[dT, sT] ty #[.slice (some ⟨g, o, none⟩) dLen dCap, .slice (some a) sLen sCap]).run P w =
      .ok (goInt (Nat.min sLen dLen)) (w.setRow g (cur.toList.take o ++ cs ++ cur.toList.drop (o + cs.length)).toArray) := by
  have hl := run_loadCells_list (P := P) w a cs hsrc
  have hst := run_storeCells_at P g o t cs 0 cur w hg (by simpa using hfit) h1
  cases hq : P.info? elem with
  | none => simp [hq] at hs
  | some i =>
    have hi : i.size = size := by simpa [hq] using hs
    simp [Builtin.copy_, run_underlying hu, Builtin.lenOf, Builtin.firstCells, sizeOf, typeInfo, hq, hi, ← hn, hl, hst]
theorem run_copy_zero (w : World) (dT sT ty elem : TypeId) (d a : Option Addr) (dLen dCap sLen sCap size : Nat) (hu : P.underlying dT = some (.slice elem)) (hs : (P.info? elem).map (·.size) = some size) (hn : Nat.min sLen dLen = 0) :
    (Builtin.copy_ #[dT, sT] ty #[.slice d dLen dCap, .slice a sLen sCap]).run P w = .ok (goInt 0) w := by
  cases hq : P.info? elem with
  | none => simp [hq] at hs
  | some i =>
    have hl : ∀ (x : Addr), (loadCells x 0).run P w = .ok #[] w := fun x => by simpa using run_loadCells_list (P := P) w x [] (by simp)
    cases d <;> cases a <;> simp [Builtin.copy_, run_underlying hu, Builtin.lenOf, Builtin.firstCells, sizeOf, typeInfo, hq, hn, storeCells, hl]
/-- copy of elements of any size into a row that is known whole -/
theorem wpList_copy_sz {w : World} {ops : Array Oper} {rest : List Oper} {o : Oper} {a : Act} {Q : Exit → Act → World → Prop} (hgd : o.guard = none) (d s : Operand) (dT sT : TypeId)
    (ho : o.op = .call { callee := .builtin .copy, args := #[d, s], argTypes := #[dT, sT] }) (elem : TypeId) (size : Nat) (hu : P.underlying dT = some (.slice elem)) (hsz : (P.info? elem).map (·.size) = some size)
    (dp sp : Option Addr) (dLen dCap sLen sCap : Nat) (hd : a.eval d = .slice dp dLen dCap) (hs : a.eval s = .slice sp sLen sCap)
    (g off : Nat) (cur : List Value) (t : TypeId) (hg : w.heap[g]? = some (.cells cur.toArray t (0, 0))) (cs : List Value) (hn : cs.length = Nat.min sLen dLen * size)
    (hpos : 0 < Nat.min sLen dLen → dp = some ⟨g, off, none⟩ ∧ ∃ ad, sp = some ad ∧ ∀ j v, cs[j]? = some v → w.cell? (ad.add j) = some v)
    (hfit : off + cs.length ≤ cur.length) (h1 : ∀ v ∈ cs, v.oneCell' = true) (B : Nat) (w0 : World) (hb : Below B w0 w) (hBg : B ≤ g)
    (h : ∀ w', Hid (w'.heap[g]? = some (.cells (splice cur off cs).toArray t (0, 0))) → Below B w0 w' → wpList P ops Q rest (a.put o.dst (goInt (Nat.min sLen dLen))) w') :
    wpList P ops Q (o :: rest) a w := by
  by_cases h0 : Nat.min sLen dLen = 0
  · obtain rfl : cs = [] := List.eq_nil_of_length_eq_zero (by rw [hn, h0, Nat.zero_mul])
    refine wpList_plain hgd fun K hK => ?_
    have hrun := run_copy_zero (P := P) w dT sT o.type elem dp sp dLen dCap sLen sCap size hu hsz h0
    rw [h0] at h
    have h2 := h w (show _ = _ by simpa [splice] using hg) hb
    unfold Oper.wp
    simp [execOp, ho, resolve, invoke, builtin, hd, hs, hrun, Result.andThen]
    exact hK _ _ h2
  · obtain ⟨rfl, ad, rfl, hsrc⟩ := hpos (by omega)
    refine wpList_plain hgd fun K hK => ?_
    have hrun := run_copy_sz (P := P) w dT sT o.type elem g off dLen dCap ad sLen sCap size cur.toArray t cs hu hsz hg hn hsrc (by simpa using hfit) h1
    have h2 := h _ (show _ = _ by simpa [splice] using setRow_heap w g _ _ t _ hg) (below_setRow hb hBg _)
    unfold Oper.wp
    simp [execOp, ho, resolve, invoke, builtin, hd, hs, hrun, Result.andThen]
    exact hK _ _ h2
theorem el_load {ops : Array Oper} {rest : List Oper} {op : Oper} {a : Act} {w : World} {Q : Exit → Act → World → Prop} (hw : Region.wanted op (yielded ops a.tmps) = true) (ty : TypeId) (x : Operand) (ho : op.op = .load ty x)
    (b o : Nat) (hx : a.eval x = .pointer (some ⟨b, o, none⟩)) (cs : List Value) (d : TypeDesc) (hc : w.rangeAt b o cs)
    (hu : P.underlying ty = some d) (hd : d.isRow = true) (hi : (P.info? ty).map (·.size) = some cs.length)
    (h : wpList P ops Q rest (a.put op.dst (.agg cs.toArray)) w) : wpList P ops Q (op :: rest) a w :=
  wpList_wanted hw fun _ hK => wp_load_mid ty x ho b o hx cs d hc hu hd hi (hK _ _ h)
theorem el_range {w : World} {g : Nat} {t : TypeId} {V : List Value} (h : Row w g t V) : w.rangeAt g 0 V := fun j v hv => by rw [Nat.zero_add, h.cell, hv]
theorem el_at {w : World} {g s : Nat} {t : TypeId} {bs : List (List Value)} (h : Row w g t bs.flatten) (hb : ∀ b ∈ bs, b.length = s) {i : Nat} {V : List Value} (hi : bs[i]? = some V) : w.rangeAt g (i * s) V := fun j v hv => by
  have hV := hb V (List.mem_of_getElem? hi)
  rw [h.cell, Nat.mul_comm, flat_cell (s := s) bs hb i j V hi (by have := (List.getElem?_eq_some_iff.1 hv).1; omega), hv]
theorem el_form {w : World} {B s n : Nat} {A : Option Addr} {bs : List (List Value)} (h : Reads w B s A n bs.flatten) (hb : ∀ b ∈ bs, b.length = s) (hl : bs.length = n) (h0s : 0 < s) : ∃ b o, Hid (0 < n → A = some ⟨b, o, none⟩ ∧ b < B ∧ ∀ i V, bs[i]? = some V → w.rangeAt b (o + i * s) V) := by
  rcases Nat.eq_zero_or_pos n with h0 | h0
  · exact ⟨0, 0, fun h => absurd h (by omega)⟩
  · obtain ⟨⟨b, o, sp⟩, rfl, hB, hc⟩ := h.2 h0
    have hx : ∀ i V, bs[i]? = some V → ∀ j v, V[j]? = some v → bs.flatten[s * i + j]? = some v := fun i V hi j v hv => by
      rw [flat_cell (s := s) bs hb i j V hi (by have := (List.getElem?_eq_some_iff.1 hv).1; have := hb V (List.mem_of_getElem? hi); omega), hv]
    have hs : sp = none := by
      obtain ⟨V, hV⟩ : ∃ V, bs[0]? = some V := ⟨_, List.getElem?_eq_getElem (by omega)⟩
      obtain ⟨v, hv⟩ : ∃ v, V[0]? = some v := ⟨_, List.getElem?_eq_getElem (by have := hb V (List.mem_of_getElem? hV); omega)⟩
      have := World.cell?_spot (hc (s * 0 + 0) _ (hx 0 V hV 0 v hv))
      simpa [Addr.add] using this
    subst hs
    refine ⟨b, o, fun _ => ⟨rfl, hB, fun i V hi j v hv => ?_⟩⟩
    have := hc _ _ (hx i V hi j v hv)
    rw [Addr.add_mid] at this
    rw [show o + i * s + j = o + (s * i + j) by rw [Nat.mul_comm]; omega]
    exact this
theorem el_qwant {ops : Array Oper} {C : World → Prop} {Q : Act → Prop} {a : Act} {o : Oper} {rest : List Oper} (hw : Region.wanted o (yielded ops a.tmps) = true) (h : ∀ K : Act → Prop, (∀ a, wpQuiet P ops C Q rest a → K a) → o.quiet P a C K) : wpQuiet P ops C Q (o :: rest) a :=
  wpQuiet_step fun K hK => by rw [if_pos hw]; exact h K hK
theorem el_qload {o : Oper} {a : Act} {C : World → Prop} {K : Act → Prop} (ty : TypeId) (x : Operand) (ho : o.op = .load ty x) (b k : Nat) (hx : a.eval x = .pointer (some ⟨b, k, none⟩)) (cs : List Value) (d : TypeDesc) (hc : ∀ w, C w → w.rangeAt b k cs)
    (hu : P.underlying ty = some d) (hd : d.isRow = true) (hi : (P.info? ty).map (·.size) = some cs.length) (hk : K (a.put o.dst (.agg cs.toArray))) : o.quiet P a C K :=
  ⟨_, fun w hw => by
    unfold Oper.quietAt execOp
    simp only [ho, hx, Instr.loadAt, Instr.sureAddr, Sem.run_bind, Sem.run_pure, Result.andThen_ok, run_loadVar_mid w b k ty cs d (hc w hw) hu hd hi]
    exact ⟨rfl, rfl⟩, hk⟩
theorem el_qbin {o : Oper} {a : Act} {C : World → Prop} {K : Act → Prop} (b : BinOp) (t : TypeId) (x y : Operand) (s : TypeId) (ho : o.op = .binOp b t x y s) {xs ys : Array Value} {v : Value} (hx : a.eval x = .agg xs) (hy : a.eval y = .agg ys) (hm : P.eqGuardType P.depth t = false)
    (hrun : ∀ w, (binOp b t (.agg xs) (.agg ys)).run P w = .ok v w) (hk : K (a.put o.dst v)) : o.quiet P a C K :=
  ⟨_, fun w hw => by
    unfold Oper.quietAt execOp
    simp only [ho, hx, hy, Sem.run_bind, run_eqGuard_agg (hm := hm), hrun, Result.andThen_ok, Sem.run_pure]
    exact ⟨rfl, rfl⟩, hk⟩
end
end Go.Proofs.Ytblfagmoilhdnaa

/- Roomy and Intact of lists of api.Leaf. -/
set_option linter.unusedVariables false
set_option linter.unusedSimpArgs false
namespace Go.Proofs.Ytblfagmoilhdnaa
open Go.RowKit
namespace BL
theorem infoRoom : (Try.prog.info? 47).map (fun i => (i.zero, i.size, i.bytes)) = some (some (.agg ([.int .u64 0, .int .u64 0, .int .i64 0, .bool false, .bool false, .bool false] : List Value).toArray), 6, 32) := by kernel_rfl
theorem sizeRoom : (Try.prog.info? 47).map (·.size) = some 6 := by kernel_rfl
/-- a list with so many of its spare places marked -/
def fillR (bs : List (List Value)) (V : List Value) (k : Nat) : List (List Value) := bs ++ List.replicate k V ++ List.replicate (80 - k) ([.int .u64 0, .int .u64 0, .int .i64 0, .bool false, .bool false, .bool false] : List Value)
theorem fillR_len (bs : List (List Value)) (V : List Value) {k : Nat} (hk : k ≤ 80) : (fillR bs V k).length = bs.length + 80 := by
  unfold fillR
  rw [List.length_append, List.length_append, List.length_replicate, List.length_replicate]
  omega
theorem fillR_all {bs : List (List Value)} {V : List Value} (hb : ∀ b ∈ bs, b.length = 6) (hV : V.length = 6) (k : Nat) : ∀ b ∈ fillR bs V k, b.length = 6 := by
  intro b h
  unfold fillR at h
  rcases List.mem_append.1 h with h | h
  · rcases List.mem_append.1 h with h | h
    · exact hb b h
    · rw [List.eq_of_mem_replicate h]; exact hV
  · rw [List.eq_of_mem_replicate h]; rfl
theorem fillR_set (bs : List (List Value)) (V : List Value) {k : Nat} (hk : k < 80) : (fillR bs V k).set (bs.length + k) V = fillR bs V (k + 1) := by
  unfold fillR
  rw [List.set_append_right _ _ (by simp), List.length_append, List.length_replicate, show bs.length + k - (bs.length + k) = 0 by omega, show 80 - k = (80 - (k + 1)) + 1 by omega, List.replicate_succ, List.set_cons_zero, List.replicate_succ', ]
  simp
theorem fillR_start (bs : List (List Value)) (V : List Value) {n : Nat} (hb : ∀ b ∈ bs, b.length = 6) (hn : bs.length = n) : splice (List.replicate (n + 80) ([.int .u64 0, .int .u64 0, .int .i64 0, .bool false, .bool false, .bool false] : List Value)).flatten 0 bs.flatten = (fillR bs V 0).flatten := by
  unfold splice fillR
  have hz : ∀ m, (List.replicate m ([.int .u64 0, .int .u64 0, .int .i64 0, .bool false, .bool false, .bool false] : List Value)).flatten.length = 6 * m := by
    intro m
    have h := flat_len (s := 6) (List.replicate m ([.int .u64 0, .int .u64 0, .int .i64 0, .bool false, .bool false, .bool false] : List Value)) (fun b h => by rw [List.eq_of_mem_replicate h]; rfl)
    rw [List.length_replicate] at h
    exact h
  have hl := flat_len (s := 6) bs hb
  rw [List.take_zero, List.nil_append, Nat.zero_add, List.replicate_zero, List.append_nil, List.flatten_append, hl, hn, Nat.sub_zero]
  congr 1
  rw [← List.replicate_append_replicate, List.flatten_append, List.drop_append, hz, Nat.sub_self, List.drop_zero, List.drop_of_length_le (by rw [hz]; exact Nat.le_refl _), List.nil_append]
theorem made_rep (n : Nat) : madeCells ([.int .u64 0, .int .u64 0, .int .i64 0, .bool false, .bool false, .bool false] : List Value).toArray (n * 6) = ((List.replicate n ([.int .u64 0, .int .u64 0, .int .i64 0, .bool false, .bool false, .bool false] : List Value)).flatten).toArray := madeCells_rep ([.int .u64 0, .int .u64 0, .int .i64 0, .bool false, .bool false, .bool false] : List Value) 6 n rfl (by decide)
theorem made_row (n : Nat) (w : World) (h : n ≤ 4294967376) : (Instr.makeSlice 48 (.int .i64 (n : Int)) (.int .i64 (n : Int))).run Try.prog w = .ok (.slice (some ⟨w.heap.size, 0, none⟩) n n) (w.alloc (.cells ((List.replicate n ([.int .u64 0, .int .u64 0, .int .i64 0, .bool false, .bool false, .bool false] : List Value)).flatten).toArray 47)) := by
  obtain ⟨i0, hi0, hz1, hz2, hz3⟩ := info_parts infoRoom
  have := run_make (P := Try.prog) w 48 47 i0 _ Try.underlying48 hi0 hz1 .i64 .i64 (n : Int) (n : Int) (by omega) (by omega) (by rw [hz3]; omega) (by omega)
  rw [Int.toNat_natCast, hz2] at this
  rw [this, ← made_rep]
  rfl
set_option maxRecDepth 100000 in
set_option maxHeartbeats 1000000 in
theorem roomy_any (A : Option Addr) (n c : Nat) (bs : List (List Value)) (V : List Value) (w : World) (hr : Reads w w.heap.size 6 A n bs.flatten) (hb : ∀ b ∈ bs, b.length = 6) (h1 : ∀ v ∈ bs.flatten, v.oneCell' = true) (hV : V.length = 6) (hV1 : ∀ v ∈ V, v.oneCell' = true) (hl : bs.length = n) (hn : n ≤ 4294967296) :
    Calls Try.prog 43 #[.slice A n c, .agg V.toArray] w fun e w' => e = .returned (.slice (some ⟨w.heap.size + 1, 0, none⟩) (n + 80) (n + 80)) ∧ Row w' (w.heap.size + 1) 47 (fillR bs V 80).flatten ∧ Below w.heap.size w w' := by
  have hmk := fun wx => made_row (n + 80) wx (by omega)
  rw [show ((n + 80 : Nat) : Int) = (n : Int) + 80 by omega] at hmk
  obtain ⟨Z, hZ⟩ : ∃ Z : List Value, Z = (List.replicate (n + 80) ([.int .u64 0, .int .u64 0, .int .i64 0, .bool false, .bool false, .bool false] : List Value)).flatten := ⟨_, rfl⟩
  rw [← hZ] at hmk
  obtain ⟨X, hX⟩ : ∃ X, X = bs.flatten := ⟨_, rfl⟩
  have hXl : X.length = n * 6 := by rw [hX]; exact hr.1
  have hZl : Z.length = (n + 80) * 6 := by
    rw [hZ, flat_len (s := 6) _ (fun b h => by rw [List.eq_of_mem_replicate h]; rfl), List.length_replicate, Nat.mul_comm]
  have hst : splice Z 0 X = (fillR bs V 0).flatten := by rw [hZ, hX]; exact fillR_start bs V hb hl
  rw [← hX] at hr h1
  have hm1 : ∀ k, k < 80 → setL (fillR bs V k).flatten (6 * (n + k)) V = (fillR bs V (k + 1)).flatten := by
    intro k hk
    rw [setL_flat hV _ (fillR_all hb hV k) (n + k) (by rw [fillR_len bs V (by omega)]; omega), ← hl, fillR_set bs V hk]
  have hln : ∀ k, k ≤ 80 → (fillR bs V k).flatten.length = 6 * (n + 80) := by
    intro k hk
    rw [flat_len (s := 6) _ (fillR_all hb hV k), fillR_len bs V hk, hl]
  have HXl := Lib.hid hXl; have HZl := Lib.hid hZl; have HST := Lib.hid hst; have HM1 := Lib.hid hm1; have HLN := Lib.hid hln
  have HV := Lib.hid hV; have HV1 := Lib.hid hV1; have H1 := Lib.hid h1; have HR := Lib.hid hr; have HMK := Lib.hid hmk
  clear hXl hZl hst hm1 hln hV hV1 h1 hX hZ hl hb hr
  go_enter Try.func43, Try.ntmps43
  have hrv : Row (w.alloc (.cells V.toArray 47)) w.heap.size 47 V := Row.new w _ V
  have HRV := Lib.hid hrv
  clear hrv
  go_upto_region 2 with fail
  have hr2 := (HR.out.alloc (Nat.le_refl _) (.cells V.toArray 47)).alloc (by simp) (.cells Z.toArray 47)
  have HR2 := Lib.hid hr2
  have hb1 : Below w.heap.size w ((w.alloc (.cells V.toArray 47)).alloc (.cells Z.toArray 47)) := ((Below.refl _ _).alloc (Nat.le_refl _) _).alloc (by simp) _
  have hz1 : Row ((w.alloc (.cells V.toArray 47)).alloc (.cells Z.toArray 47)) (w.heap.size + 1) 47 Z := by
    have h := Row.new (w.alloc (.cells V.toArray 47)) 47 Z
    rw [show (w.alloc (.cells V.toArray 47)).heap.size = w.heap.size + 1 by simp] at h
    exact h
  have hv1 := HRV.out.alloc (.cells Z.toArray 47)
  have HZ1 := Lib.hid hz1
  have hb0 : Below (w.heap.size + 1) ((w.alloc (.cells V.toArray 47)).alloc (.cells Z.toArray 47)) ((w.alloc (.cells V.toArray 47)).alloc (.cells Z.toArray 47)) := Below.refl _ _
  have HB0 := Lib.hid hb0
  clear hr2 hz1 hmk HR HRV hb0
  generalize (w.alloc (.cells V.toArray 47)).alloc (.cells Z.toArray 47) = w1 at *
  have HVR := Lib.hid hv1
  have HB1 := Lib.hid hb1
  clear hv1 hb1
  go_wp2_with (with_reducible refine wpList_copy_sz rfl (.tmp 11) (.tmp 12) 48 48 rfl 47 6 Try.underlying48 sizeRoom _ _ _ _ _ _ rfl rfl (w.heap.size + 1) 0 Z 47 HZ1.out.out X ?hn ?hpos ?hfit H1.out (w.heap.size + 1) w1 HB0.out (Nat.le_refl _) ?_; rotate_right; intro w2 HG hb2)
  case hn => rw [HXl.out]; congr 1; exact (Nat.min_eq_left (by omega)).symm
  case hpos => intro h0; obtain ⟨ad, e, _, hc⟩ := HR2.out.2 (by have : Nat.min n (n + 80) = n := Nat.min_eq_left (by omega); omega); first | exact ⟨rfl, ad, e, hc⟩ | exact ⟨ad, e, hc⟩
  case hfit => have := HXl.out; have := HZl.out; omega
  have hrow : Row w2 (w.heap.size + 1) 47 (fillR bs V 0).flatten := by
    have h := HG.out
    rw [HST.out] at h
    exact h
  have HROW := Lib.hid hrow
  have hbb := HB1.out.trans (hb2.mono (by omega))
  have HBB := Lib.hid hbb
  have hv2 := HVR.out.below hb2 (Nat.lt_succ_self _)
  have HV2 := Lib.hid hv2
  clear HG hrow hbb hv2 hb2 HR2 HZ1 HB0 HVR HB1 HST HXl HZl
  go_wp2_with fail
  go_loopw [6] (fun i wr => ∃ k : Nat, k ≤ 80 ∧ i = .int .i64 ((n + k : Nat) : Int) ∧ Hid (Row wr (w.heap.size + 1) 47 (fillR bs V k).flatten ∧ Row wr w.heap.size 47 V ∧ Below w.heap.size w wr)) (fun i _ => n + 80 - (intOf i).toNat)
  case atStart => exact ⟨0, by omega, rfl, Lib.hid ⟨HROW.out, HV2.out, HBB.out⟩⟩
  case round =>
    clear HROW HBB HV2
    obtain ⟨k, hk, rfl, HT⟩ := hrel
    by_cases hk8 : k < 80
    · have hth : wr.there (w.heap.size + 1) ((n + k) * 6) 6 := HT.out.1.there (by rw [HLN.out k hk]; omega)
      have HTH := Lib.hid hth
      have hki : ((n + k : Nat) : Int) < ((n + 80 : Nat) : Int) := by omega
      have HN9 : Hid (Row (wr.setCells (w.heap.size + 1) ((n + k) * 6) V) (w.heap.size + 1) 47 (fillR bs V (k + 1)).flatten) := Lib.hid (by
        have h := HT.out.1.sets V ((n + k) * 6)
        rw [Nat.mul_comm (n + k) 6, HM1.out k hk8] at h
        rw [Nat.mul_comm (n + k) 6]
        exact h)
      have HVL : Hid (V.toArray.size = 6) := Lib.hid (by rw [List.size_toArray, HV.out])
      clear hth
      go_wp2_with (first | (refine wpList_load_midw (by rfl) _ _ rfl _ _ (by rfl) V _ (row_rangeAt HT.out.2.1) Try.underlying47 rfl (by rw [sizeRoom, HV.out]) ?_) | (refine wpList_store_mid (by rfl) _ _ _ rfl (w.heap.size + 1) ((n + k) * 6) V.toArray (by rfl) (by rfl) (by rw [HVL.out]; exact HTH.out) (by rw [HVL.out]; exact sizeRoom) (all_oneCell_toArray HV1.out) ?_))
      go_roundw
      case rel => exact ⟨k + 1, by omega, by go_num, Lib.hid ⟨HN9.out, HT.out.2.1.fars (by omega) _ _, below_sets HT.out.2.2 (by omega) _ _⟩⟩
      case measure => simp [intOf]; omega
    · have HK : Hid (k = 80) := Lib.hid (by omega)
      go_wp2_with fail
      go_ret
      exact ⟨rfl, by have h := HT.out.1; rwa [HK.out] at h, HT.out.2.2⟩
theorem guardRoom : Try.prog.eqGuardType Try.prog.depth 47 = false := by kernel_rfl
/-- unequal? of an element and itself: no -/
def Neq (V : List Value) : Prop := ∀ w : World, (binOp .neq 47 (.agg V.toArray) (.agg V.toArray)).run Try.prog w = .ok (.bool false) w
set_option maxRecDepth 100000 in
set_option maxHeartbeats 1000000 in
theorem same_yes (A A' : Option Addr) (n c c' : Nat) (bs : List (List Value)) (w : World) (hr : Reads w w.heap.size 6 A n bs.flatten) (hr' : Reads w w.heap.size 6 A' n bs.flatten) (hb : ∀ b ∈ bs, b.length = 6) (hq : ∀ b ∈ bs, Neq b) (hl : bs.length = n) (hn : n ≤ 9223372036854775807) :
    Calls Try.prog 30 #[.slice A n c, .slice A' n c'] w fun e w' => e = .returned (.bool true) ∧ ∃ m, w' = w.drewN m := by
  obtain ⟨b, o, HA⟩ := el_form hr hb hl (by decide)
  obtain ⟨b', o', HA'⟩ := el_form hr' hb hl (by decide)
  have HB := Lib.hid hb; have HQ := Lib.hid hq; have HL := Lib.hid hl
  clear hr hr' hb hq hl
  go_enter Try.func30, Try.ntmps30
  go_wp2
  go_loopw [5] (fun i wr => ∃ j m : Nat, j ≤ n ∧ i = .int .i64 j ∧ wr = w.drewN m) (fun i _ => n - (intOf i).toNat)
  case atStart => exact ⟨0, 0, by omega, rfl, rfl⟩
  case round =>
    obtain ⟨j, m, hj, rfl, rfl⟩ := hrel
    by_cases hjn : j < n
    · obtain ⟨V, hV⟩ : ∃ V, bs[j]? = some V := ⟨_, List.getElem?_eq_getElem (by have := HL.out; omega)⟩
      obtain ⟨rfl, _, h1⟩ := HA.out (by omega)
      obtain ⟨rfl, _, h2⟩ := HA'.out (by omega)
      have HVL : Hid (V.length = 6) := Lib.hid (HB.out V (List.mem_of_getElem? hV))
      have HNE := Lib.hid (HQ.out V (List.mem_of_getElem? hV))
      have H1 : Hid (∀ w' : World, (∃ k, w' = (w.drewN m).drewN k) → w'.rangeAt b (o + j * 6) V) := Lib.hid (by rintro w' ⟨k, rfl⟩; exact h1 j V hV)
      have H2 : Hid (∀ w' : World, (∃ k, w' = (w.drewN m).drewN k) → w'.rangeAt b' (o' + j * 6) V) := Lib.hid (by rintro w' ⟨k, rfl⟩; exact h2 j V hV)
      clear h1 h2 hV HA HA'
      go_wp2_with fail
      refine wp_region_quiet_lit (by kernel_rfl) (by kernel_rfl) ?_
      repeat (first
        | (refine el_qwant (by rfl) (fun K hK => ?_)
           first
             | refine el_qload _ _ rfl _ _ (by rfl) V _ H1.out Try.underlying47 rfl (by rw [sizeRoom, HVL.out]) (hK _ ?_)
             | refine el_qload _ _ rfl _ _ (by rfl) V _ H2.out Try.underlying47 rfl (by rw [sizeRoom, HVL.out]) (hK _ ?_)
             | refine el_qbin .neq 47 _ _ _ rfl (by rfl) (by rfl) guardRoom HNE.out (hK _ ?_))
        | quiet_step (fail))
      refine wpQuiet_nil ?_
      rintro w' ⟨nq, rfl⟩
      go_wp2
      go_roundw
      case rel => exact ⟨j + 1, _, by omega, by go_num, rfl⟩
      case measure => simp [intOf]; omega
    · have HJ : Hid (j = n) := Lib.hid (by omega)
      go_wp2
      go_ret
      exact ⟨rfl, _, rfl⟩
theorem fillR_reads {w : World} {g n B : Nat} {bs : List (List Value)} {V : List Value} (h : Row w g 47 (fillR bs V 80).flatten) (hb : ∀ b ∈ bs, b.length = 6) (hl : bs.length = n) (hB : g < B) : Reads w B 6 (some ⟨g, 0, none⟩) n bs.flatten := by
  have hfl := flat_len (s := 6) bs hb
  refine ⟨by rw [hfl, hl, Nat.mul_comm], fun _ => ⟨_, rfl, hB, fun j u hu => ?_⟩⟩
  rw [Addr.add_mid, Nat.zero_add, h.cell]
  unfold fillR
  rw [List.flatten_append, List.flatten_append, List.append_assoc, List.getElem?_append_left (List.getElem?_eq_some_iff.1 hu).1, hu]
set_option maxRecDepth 100000 in
set_option maxHeartbeats 1000000 in
theorem intact_yes (A : Option Addr) (n c g : Nat) (bs : List (List Value)) (V : List Value) (w : World) (hr : Reads w w.heap.size 6 A n bs.flatten) (hrow : Row w g 47 (fillR bs V 80).flatten) (hb : ∀ b ∈ bs, b.length = 6) (hq : ∀ b ∈ bs, Neq b) (hV : V.length = 6) (hVq : Neq V) (hl : bs.length = n) (hn : n ≤ 4294967296) :
    Calls Try.prog 46 #[.slice (some ⟨g, 0, none⟩) (n + 80) (n + 80), .slice A n c, .agg V.toArray] w fun e w' => e = .returned (.bool true) ∧ Below w.heap.size w w' := by
  have HSM : Hid (∀ w1, Below w.heap.size w w1 → Calls Try.prog 30 #[.slice (some ⟨g, 0, none⟩) n (n + 80), .slice A n c] w1 fun e w' => e = .returned (.bool true) ∧ ∃ m, w' = w1.drewN m) := Lib.hid fun w1 hb1 =>
    same_yes _ _ n _ _ bs w1 (fillR_reads (hrow.below hb1 hrow.lt) hb hl (Nat.lt_of_lt_of_le hrow.lt hb1.size)) ((hr.below hb1).more hb1.size) hb hq hl (by omega)
  have HK : Hid (∀ w1, Below w.heap.size w w1 → ∀ k, k < 80 → w1.rangeAt g ((n + k) * 6) V) := Lib.hid fun w1 hb1 k hk => by
    refine el_at (hrow.below hb1 hrow.lt) (fillR_all hb hV 80) (i := n + k) ?_
    unfold fillR
    rw [List.getElem?_append_left (by simp; omega), List.getElem?_append_right (by omega), List.getElem?_replicate, if_pos (by omega)]
  have HVL := Lib.hid hV; have HNE := Lib.hid hVq
  have hne : (((n : Int) + 80) != ((n : Int) + 80)) = false := by simp
  clear hr hrow hb hq hV hVq hl
  go_enter Try.func46, Try.ntmps46
  go_upto_region 1 with fail
  have hba : Below w.heap.size w (w.alloc (.cells V.toArray 47)) := (Below.refl _ _).alloc (Nat.le_refl _) _
  have hrv : Row (w.alloc (.cells V.toArray 47)) w.heap.size 47 V := Row.new w _ V
  have hsz : w.heap.size < (w.alloc (.cells V.toArray 47)).heap.size := by simp
  generalize w.alloc (.cells V.toArray 47) = w1 at *
  have HBA := Lib.hid hba; have HRV := Lib.hid hrv
  clear hba hrv
  go_wp2_with (go_at_call 30; refine (HSM.out _ HBA.out).mono ?_; rintro e w' ⟨rfl, m1, rfl⟩)
  go_loopw [7] (fun i wr => ∃ k m2 : Nat, k ≤ 80 ∧ i = .int .i64 ((n + k : Nat) : Int) ∧ wr = w1.drewN m2) (fun i _ => n + 80 - (intOf i).toNat)
  case atStart => exact ⟨0, _, by omega, rfl, rfl⟩
  case round =>
    obtain ⟨k, m2, hk, rfl, rfl⟩ := hrel
    by_cases hk8 : k < 80
    · have H1 : Hid (∀ w' : World, (∃ q, w' = (w1.drewN m2).drewN q) → w'.rangeAt g ((n + k) * 6) V) := Lib.hid (by rintro w' ⟨q, rfl⟩; exact HK.out w1 HBA.out k hk8)
      have H2 : Hid (∀ w' : World, (∃ q, w' = (w1.drewN m2).drewN q) → w'.rangeAt w.heap.size 0 V) := Lib.hid (by rintro w' ⟨q, rfl⟩; exact el_range HRV.out)
      have hki : (n : Int) + (k : Int) < (n : Int) + 80 := by omega
      have hk0 : (0 : Int) ≤ (n : Int) + (k : Int) := by omega
      have hkt : ((n : Int) + (k : Int)).toNat = n + k := by omega
      go_wp2_with fail
      refine wp_region_quiet_lit (by kernel_rfl) (by kernel_rfl) ?_
      repeat (first
        | (refine el_qwant (by rfl) (fun K hK => ?_)
           first
             | refine el_qload _ _ rfl _ _ (by rfl) V _ H1.out Try.underlying47 rfl (by rw [sizeRoom, HVL.out]) (hK _ ?_)
             | refine el_qload _ _ rfl _ _ (by rfl) V _ H2.out Try.underlying47 rfl (by rw [sizeRoom, HVL.out]) (hK _ ?_)
             | refine el_qbin .neq 47 _ _ _ rfl (by rfl) (by rfl) guardRoom HNE.out (hK _ ?_))
        | quiet_step (fail))
      refine wpQuiet_nil ?_
      rintro w' ⟨nq, rfl⟩
      go_wp2
      go_roundw
      case rel => exact ⟨k + 1, _, by omega, by go_num, rfl⟩
      case measure => simp [intOf]; omega
    · have HK8 : Hid (k = 80) := Lib.hid (by omega)
      go_wp2
      go_ret
      exact ⟨rfl, below_drewN HBA.out _⟩
end BL
end Go.Proofs.Ytblfagmoilhdnaa

/- A slice at the tail of a row of one's own: append to it, and what is behind its head; append of so many zeros. -/
set_option linter.unusedVariables false
set_option linter.unusedSimpArgs false
namespace Go.Proofs.Ytblfagmoilhdnaa
open Go.RowKit

/-- n elements of one cell each, at the tail of a row of one's own (its block: S), or nil -/
def Tl (w : World) (e : TypeId) (v : Value) (n : Nat) (xs : List Value) (S : List Nat) : Prop :=
  xs.length = n ∧ ((v = .slice none 0 0 ∧ n = 0 ∧ S = []) ∨
    ∃ g off cap cur, v = .slice (some ⟨g, off, none⟩) n cap ∧ S = [g] ∧ w.heap[g]? = some (.cells cur e (0, 0)) ∧ n ≤ cap ∧ cap ≤ maxLen ∧ off + cap = cur.size ∧ (cur.toList.drop off).take n = xs)
section
variable {w w' : World} {e : TypeId} {v : Value} {n : Nat} {xs : List Value} {S : List Nat}
theorem Tl.nil_ (w : World) (e : TypeId) : Tl w e (.slice none 0 0) 0 [] [] := ⟨rfl, .inl ⟨rfl, rfl, rfl⟩⟩
theorem Tl.keep (h : Tl w e v n xs S) (hk : ∀ k ∈ S, w'.heap[k]? = w.heap[k]?) : Tl w' e v n xs S := by
  refine ⟨h.1, ?_⟩
  rcases h.2 with h2 | ⟨g, off, cap, cur, hv, rfl, hg, r⟩
  · exact .inl h2
  · exact .inr ⟨g, off, cap, cur, hv, rfl, (hk g (by simp)).trans hg, r⟩
theorem Tl.lt (h : Tl w e v n xs S) : ∀ k ∈ S, k < w.heap.size := by
  rcases h.2 with ⟨_, _, rfl⟩ | ⟨g, off, cap, cur, hv, rfl, hg, r⟩
  · simp
  · intro k hk
    obtain rfl : k = g := by simpa using hk
    exact Blk.lt (cs := cur) hg
theorem Tl.chg {T : List Nat} (h : Tl w e v n xs S) (hc : Chg T w w') (hd : ∀ k ∈ S, k ∉ T) : Tl w' e v n xs S := h.keep fun k hk => hc.block k (h.lt k hk) (hd k hk)
theorem Tl.form (h : Tl w e v n xs S) : ∃ A c, v = .slice A n c ∧ n ≤ c ∧ (A = none → n = 0 ∧ c = 0) ∧ ∃ g off, Hid (0 < n → A = some ⟨g, off, none⟩ ∧ S = [g] ∧ ∀ k, k < n → w.cell? ⟨g, off + k, none⟩ = xs[k]?) ∧ (0 < n → g < w.heap.size) := by
  rcases h.2 with ⟨rfl, rfl, rfl⟩ | ⟨g, off, cap, cur, rfl, rfl, hg, hnc, hcm, hsz, htk⟩
  · exact ⟨none, 0, rfl, by omega, fun _ => ⟨rfl, rfl⟩, 0, 0, fun h => absurd h (by omega), fun h => absurd h (by omega)⟩
  · refine ⟨_, cap, rfl, hnc, (fun h => by cases h), g, off, fun _ => ⟨rfl, rfl, fun k hk => ?_⟩, fun _ => Blk.lt (cs := cur) hg⟩
    rw [Blk.cell (cs := cur) hg, ← htk, List.getElem?_take, if_pos hk, List.getElem?_drop, Array.getElem?_toList]
theorem Tl.behind {g off cap : Nat} (h : Tl w e (.slice (some ⟨g, off, none⟩) n cap) n xs S) (hn : 1 < n) : Tl w e (.slice (some ⟨g, off + 1, none⟩) (n - 1) (cap - 1)) (n - 1) xs.tail S := by
  refine ⟨by simp [h.1], .inr ?_⟩
  rcases h.2 with ⟨h, _⟩ | ⟨g', off', cap', cur, hv, rfl, hg, hnc, hcm, hsz, htk⟩
  · cases h
  · injection hv with h1 _ h3
    injection h1 with h1
    injection h1 with h1 h2 _
    subst h1 h2 h3
    refine ⟨_, _, _, cur, rfl, rfl, hg, by omega, by omega, by omega, ?_⟩
    rw [← htk, ← List.drop_one, List.drop_take, List.drop_drop]
end
section
variable {P : Program} (w : World)
theorem run_append_room_at (t ty e : TypeId) (i : TypeInfo) (ht : P.underlying t = some (.slice e)) (hi : P.info? e = some i) (hs1 : i.size = 1)
    (g off sLen sCap : Nat) (cur : Array Value) (hg : w.heap[g]? = some (.cells cur e (0, 0)))
    (a : Addr) (m c : Nat) (news : List Value) (hl : news.length = m) (hnews : ∀ j u, news[j]? = some u → w.cell? (a.add j) = some u) (h1 : ∀ u ∈ news, u.oneCell' = true)
    (hroom : sLen + m ≤ sCap) (hfit : off + sLen + news.length ≤ cur.size) :
    (Builtin.append_ #[t, t] ty #[.slice (some ⟨g, off, none⟩) sLen sCap, .slice (some a) m c]).run P w =
      .ok (.slice (some ⟨g, off, none⟩) (sLen + m) sCap) (w.setRow g (cur.toList.take (off + sLen) ++ news ++ cur.toList.drop (off + sLen + news.length)).toArray) := by
  have hf := run_firstCells_some (P := P) w 1 m a m c news (by omega) hnews
  have hst := run_storeCells_at P g (off + sLen) e news 0 cur w hg (by simpa using hfit) h1
  simp only [Nat.add_zero] at hst
  simp [Builtin.append_, run_underlying ht, sizeOf, typeInfo, hi, hs1, Builtin.lenOf, hroom, hf, Addr.add_lit, hst]
theorem run_append_tl (t ty e : TypeId) (i : TypeInfo) (z : Value) (bytes : Nat) (ht : P.underlying t = some (.slice e)) (hi : P.info? e = some i) (hz : i.zero = some z)
    (hsize : i.size = 1) (hby : i.bytes = bytes) (hzs : z.cells.size = 1) {v : Value} {n : Nat} {xs : List Value} {S : List Nat} (h : Tl w e v n xs S)
    (a : Addr) (c : Nat) (u : Value) (hu : w.cell? a = some u) (h1 : u.oneCell' = true) (h63 : n + 1 ≤ maxLen) (hbytes : (n + 1) * bytes ≤ 140737488355328) :
    ∃ A' c' S' w', (Builtin.append_ #[t, t] ty #[v, .slice (some a) 1 c]).run P w = .ok (.slice A' (n + 1) c') w' ∧ Tl w' e (.slice A' (n + 1) c') (n + 1) (xs ++ [u]) S' ∧ Chg S w w' ∧ (S' = S ∨ S' = [w.heap.size]) := by
  subst hby
  have hsmall : n + 1 ≤ 9223372036854775807 := by simp only [maxLen] at h63; omega
  have hnews : ∀ j x, [u][j]? = some x → w.cell? (a.add j) = some x := by
    intro j x hj
    match j, hj with
    | 0, hj => simp at hj; subst hj; simpa [Addr.add] using hu
  have grown : ∀ (old : Nat), old < n + 1 →
      Tl (w.drew.alloc (.cells (xs.toArray ++ [u].toArray ++ Builtin.zeroCells z.cells (grownCap w (n + 1) old e - (n + 1))) e)) e (.slice (some ⟨w.heap.size, 0, none⟩) (n + 1) (grownCap w (n + 1) old e)) (n + 1) (xs ++ [u]) [w.heap.size] ∧
      ∀ T, Chg T w (w.drew.alloc (.cells (xs.toArray ++ [u].toArray ++ Builtin.zeroCells z.cells (grownCap w (n + 1) old e - (n + 1))) e)) := by
    intro old ho
    have hge := grownCap_ge w (n + 1) old e
    have hcm : grownCap w (n + 1) old e ≤ maxLen := grownCap_le_maxLen w (n + 1) old e h63
    refine ⟨⟨by simp [h.1], .inr ⟨w.heap.size, 0, _, _, rfl, rfl, heap_alloc_new w.drew _, hge, hcm, ?_, ?_⟩⟩, fun T => (Chg.refl T w).drew.alloc _⟩
    · have := h.1
      simp only [Array.size_append, List.size_toArray, size_zeroCells, hzs, List.length_singleton]
      omega
    · have := h.1
      simp only [Array.toList_append, List.drop_zero]
      rw [show n + 1 = (xs ++ [u]).length by simp; omega]
      exact List.take_left
  rcases h.2 with ⟨rfl, rfl, rfl⟩ | ⟨g, off, cap, cur, rfl, rfl, hg, hnc, hcm, hcs, htake⟩
  · obtain rfl : xs = [] := List.eq_nil_of_length_eq_zero h.1
    have hr := run_append_nil (P := P) w t ty e i z ht hi hz a 1 c [u] (by simp [hsize]) hnews (by omega) (by omega) (by simp only [Nat.zero_add] at hbytes; omega)
    have hgr := grown 0 (by omega)
    simp only [Nat.zero_add, List.nil_append, Array.empty_append] at hgr ⊢
    exact ⟨_, _, _, _, hr, hgr.1, hgr.2 _, .inr rfl⟩
  · by_cases hroom : n + 1 ≤ cap
    · have hr := run_append_room_at (P := P) w t ty e i ht hi hsize g off n cap cur hg a 1 c [u] rfl hnews (by simpa using h1) hroom (by simp; omega)
      refine ⟨_, _, _, _, hr, ⟨by simp [h.1], .inr ⟨g, off, cap, _, rfl, rfl, setRow_heap w g cur _ e _ hg, hroom, hcm, ?_, ?_⟩⟩, ⟨rfl, rfl, rfl, by simp, fun k _ hk => setRow_other w g k _ (by simpa using hk)⟩, .inl rfl⟩
      · have : cur.toList.length = cur.size := by simp
        simp only [List.size_toArray, List.length_append, List.length_take, List.length_drop, List.length_singleton]
        omega
      · have hlen : cur.toList.length = cur.size := by simp
        rw [List.toList_toArray, List.append_assoc, List.drop_append_of_le_length (by rw [List.length_take]; omega), List.drop_take, show off + n - off = n by omega, htake, ← List.append_assoc]
        rw [show n + 1 = (xs ++ [u]).length by simp [h.1]]
        exact List.take_left
    · have holds : ∀ j u, xs[j]? = some u → w.cell? ((⟨g, off, none⟩ : Addr).add j) = some u := by
        intro j x hj
        have hadd : (⟨g, off, none⟩ : Addr).add j = ⟨g, off + j, none⟩ := by unfold Addr.add; split <;> simp_all
        rw [hadd, Blk.cell (cs := cur) hg]
        rw [← htake, List.getElem?_take] at hj
        split at hj
        · rw [List.getElem?_drop, Array.getElem?_toList] at hj; exact hj
        · cases hj
      have hr := run_append_grow (P := P) w t ty e i z ht hi hz ⟨g, off, none⟩ n cap xs (by simp [hsize, h.1]) holds a 1 c [u] (by simp [hsize]) hnews (by omega) (by omega) (growslice_fits (by omega) hbytes)
      have hgr := grown cap (by omega)
      exact ⟨_, _, _, _, hr, hgr.1, hgr.2 _, .inr rfl⟩
theorem wp_append_tl {o : Oper} {a : Act} {K : Act → World → Prop} {Q : Exit → Act → World → Prop} (s x : Operand) (t : TypeId) (ho : o.op = .call { callee := .builtin .append, args := #[s, x], argTypes := #[t, t] })
    (e : TypeId) (i : TypeInfo) (z : Value) (bytes : Nat) (ht : P.underlying t = some (.slice e)) (hi : P.info? e = some i) (hz : i.zero = some z)
    (hsize : i.size = 1) (hby : i.bytes = bytes) (hzs : z.cells.size = 1) (v : Value) (n : Nat) (xs : List Value) (S : List Nat) (hs : a.eval s = v) (h : Tl w e v n xs S)
    (ad : Addr) (c : Nat) (u : Value) (hx : a.eval x = .slice (some ad) 1 c) (hu : w.cell? ad = some u) (h1 : u.oneCell' = true) (h63 : n + 1 ≤ maxLen) (hbytes : (n + 1) * bytes ≤ 140737488355328)
    (hK : ∀ A' c' S' w', Hid (Tl w' e (.slice A' (n + 1) c') (n + 1) (xs ++ [u]) S') → Hid (Chg S w w') → Hid (S' = S ∨ S' = [w.heap.size]) → K (a.put o.dst (.slice A' (n + 1) c')) w') : o.wp P a w K Q := by
  obtain ⟨A', c', S', w', hrun, h2, h3, h4⟩ := run_append_tl (P := P) w t o.type e i z bytes ht hi hz hsize hby hzs h ad c u hu h1 h63 hbytes
  unfold Oper.wp execOp
  simp only [ho, resolve, invoke, builtin, Sem.run_bind, Sem.run_pure, Result.andThen_ok, List.map_toArray, List.map_cons, List.map_nil, hs, hx, hrun]
  exact hK A' c' S' w' h2 h3 h4
theorem wpList_append_tl {ops : Array Oper} {rest : List Oper} {o : Oper} {a : Act} {Q : Exit → Act → World → Prop} (hgd : Region.wanted o (yielded ops a.tmps) = true) (s x : Operand) (t : TypeId) (ho : o.op = .call { callee := .builtin .append, args := #[s, x], argTypes := #[t, t] })
    (e : TypeId) (i : TypeInfo) (z : Value) (bytes : Nat) (ht : P.underlying t = some (.slice e)) (hi : P.info? e = some i) (hz : i.zero = some z)
    (hsize : i.size = 1) (hby : i.bytes = bytes) (hzs : z.cells.size = 1) (v : Value) (n : Nat) (xs : List Value) (S : List Nat) (hs : a.eval s = v) (h : Tl w e v n xs S)
    (ad : Addr) (c : Nat) (u : Value) (hx : a.eval x = .slice (some ad) 1 c) (hu : w.cell? ad = some u) (h1 : u.oneCell' = true) (h63 : n + 1 ≤ maxLen) (hbytes : (n + 1) * bytes ≤ 140737488355328)
    (hK : ∀ A' c' S' w', Hid (Tl w' e (.slice A' (n + 1) c') (n + 1) (xs ++ [u]) S') → Hid (Chg S w w') → Hid (S' = S ∨ S' = [w.heap.size]) → wpList P ops Q rest (a.put o.dst (.slice A' (n + 1) c')) w') : wpList P ops Q (o :: rest) a w :=
  wpList_wanted hgd fun _ hK' => wp_append_tl w s x t ho e i z bytes ht hi hz hsize hby hzs v n xs S hs h ad c u hx hu h1 h63 hbytes fun A' c' S' w' h2 h3 h4 => hK' _ _ (hK A' c' S' w' h2 h3 h4)
theorem step_append_tl {ops : Array Oper} {o : Oper} {a : Act} {K : Act → World → Prop} {Q : Exit → Act → World → Prop} {E : Prop} (hgd : o.guard = none) (s x : Operand) (t : TypeId) (ho : o.op = .call { callee := .builtin .append, args := #[s, x], argTypes := #[t, t] })
    (e : TypeId) (i : TypeInfo) (z : Value) (bytes : Nat) (ht : P.underlying t = some (.slice e)) (hi : P.info? e = some i) (hz : i.zero = some z)
    (hsize : i.size = 1) (hby : i.bytes = bytes) (hzs : z.cells.size = 1) (v : Value) (n : Nat) (xs : List Value) (S : List Nat) (hs : a.eval s = v) (h : Tl w e v n xs S)
    (ad : Addr) (c : Nat) (u : Value) (hx : a.eval x = .slice (some ad) 1 c) (hu : w.cell? ad = some u) (h1 : u.oneCell' = true) (h63 : n + 1 ≤ maxLen) (hbytes : (n + 1) * bytes ≤ 140737488355328)
    (hK : ∀ A' c' S' w', Hid (Tl w' e (.slice A' (n + 1) c') (n + 1) (xs ++ [u]) S') → Hid (Chg S w w') → Hid (S' = S ∨ S' = [w.heap.size]) → K (a.put o.dst (.slice A' (n + 1) c')) w') :
    if Region.wanted o (yielded ops a.tmps) = true then Oper.wp P o a w K Q else E := by
  have hw : Region.wanted o (yielded ops a.tmps) = true := by simp [Region.wanted, hgd]
  rw [if_pos hw]
  exact wp_append_tl w s x t ho e i z bytes ht hi hz hsize hby hzs v n xs S hs h ad c u hx hu h1 h63 hbytes hK
end
end Go.Proofs.Ytblfagmoilhdnaa

/- A book of lists of bytes in memory: what it holds, and what keeps it. -/
set_option linter.unusedVariables false
set_option linter.unusedSimpArgs false
namespace Go.Proofs.Ytblfagmoilhdnaa
open Go.RowKit

/-- a list that was kept, and its copy -/
structure Itm where
  A : Option Addr
  n : Nat
  c : Nat
  bs : List Nat
  B : Option Addr
  d : Nat
def Itm.v (x : Itm) : Value := .slice x.A x.n x.c
def Itm.u (x : Itm) : Value := .slice x.B x.n x.d
/-- it lies there, in blocks of S -/
structure Itm.In (w : World) (S : List Nat) (x : Itm) : Prop where
  own : Own w 0 x.A x.n x.c x.bs
  copy : Own w 0 x.B x.n x.d x.bs
  vs : ∀ k, x.v.ownBlock = some k → k ∈ S
  us : ∀ k, x.u.ownBlock = some k → k ∈ S
theorem own_chg {T : List Nat} {w w' : World} {base n c : Nat} {A : Option Addr} {bs : List Nat} (h : Own w base A n c bs) (hc : Chg T w w') (hr : ∀ k, (Value.slice A n c).ownBlock = some k → k ∉ T) : Own w' base A n c bs := ⟨owns_chg h.1 hc hr, h.2⟩
theorem Itm.In.chg {T S : List Nat} {w w' : World} {x : Itm} (h : x.In w S) (hc : Chg T w w') (hd : ∀ k ∈ S, k ∉ T) : x.In w' S :=
  ⟨own_chg h.own hc fun k hk => hd k (h.vs k hk), own_chg h.copy hc fun k hk => hd k (h.us k hk), h.vs, h.us⟩
theorem Itm.In.more {S S' : List Nat} {w : World} {x : Itm} (h : x.In w S) (hs : ∀ k ∈ S, k ∈ S') : x.In w S' := ⟨h.own, h.copy, fun k hk => hs k (h.vs k hk), fun k hk => hs k (h.us k hk)⟩
/-- the lists of the book, apart from one another, each beside its copy -/
structure Kept (w : World) (L M : Value) (xs : List Itm) (SL SM S : List Nat) : Prop where
  lists : Tl w 25 L xs.length (xs.map Itm.v) SL
  was : Tl w 25 M xs.length (xs.map Itm.u) SM
  lm : ∀ k ∈ SL, k ∉ SM
  sl : ∀ k ∈ SL, k ∈ S
  sm : ∀ k ∈ SM, k ∈ S
  it : ∀ x ∈ xs, x.In w S
  ap : xs.Pairwise fun x y => ∀ k, x.v.ownBlock = some k → y.v.ownBlock ≠ some k
  lt : ∀ k ∈ S, k < w.heap.size
theorem Kept.chg {T S SL SM : List Nat} {w w' : World} {L M : Value} {xs : List Itm} (h : Kept w L M xs SL SM S) (hc : Chg T w w') (hd : ∀ k ∈ S, k ∉ T) : Kept w' L M xs SL SM S :=
  ⟨h.lists.chg hc fun k hk => hd k (h.sl k hk), h.was.chg hc fun k hk => hd k (h.sm k hk), h.lm, h.sl, h.sm, fun x hx => (h.it x hx).chg hc hd, h.ap, fun k hk => Nat.lt_of_lt_of_le (h.lt k hk) hc.size⟩
/-- a book in memory: at a place in a row -/
structure Bk (w : World) (gb off : Nat) (t : TypeId) (cs : List Value) (S : List Nat) : Prop where
  row : Row w gb t cs
  ht : t ≠ 25 ∧ t ≠ 5
  notin : gb ∉ S
  rest : ∃ xs L M held SL SM, cs[off]? = some L ∧ cs[off + 1]? = some M ∧ cs[off + 2]? = some (.int .i64 held) ∧ cs[off + 3]? = some (.bool false) ∧ xs.length ≤ 4000 ∧ Kept w L M xs SL SM S
theorem Bk.chg {T S : List Nat} {w w' : World} {gb off : Nat} {t : TypeId} {cs : List Value} (h : Bk w gb off t cs S) (hc : Chg T w w') (hd : ∀ k ∈ S, k ∉ T) (hg : gb ∉ T) : Bk w' gb off t cs S := by
  obtain ⟨xs, L, M, held, SL, SM, h0, h1, h2, h3, h4, h5⟩ := h.rest
  exact ⟨hc.row h.row hg, h.ht, h.notin, xs, L, M, held, SL, SM, h0, h1, h2, h3, h4, h5.chg hc hd⟩
theorem info22 : (Try.prog.info? 25).map (fun i => (i.zero, i.size, i.bytes)) = some (some (.slice none 0 0), 1, 24) := by kernel_rfl
/-- a list and its copy are put behind the others -/
theorem Kept.snoc {w : World} {L M : Value} {xs : List Itm} {x : Itm} {SL SM S S' : List Nat} (h : ∀ y ∈ xs, y.In w S) (ha : xs.Pairwise fun x y => ∀ k, x.v.ownBlock = some k → y.v.ownBlock ≠ some k)
    (hl : Tl w 25 L (xs.length + 1) (xs.map Itm.v ++ [x.v]) SL) (hm : Tl w 25 M (xs.length + 1) (xs.map Itm.u ++ [x.u]) SM) (hlm : ∀ k ∈ SL, k ∉ SM)
    (hs : ∀ k ∈ S, k ∈ S') (hsl : ∀ k ∈ SL, k ∈ S') (hsm : ∀ k ∈ SM, k ∈ S') (hx : x.In w S') (hf : ∀ y ∈ xs, ∀ k, y.v.ownBlock = some k → x.v.ownBlock ≠ some k) (hlt : ∀ k ∈ S', k < w.heap.size) :
    Kept w L M (xs ++ [x]) SL SM S' := by
  refine ⟨by simpa using hl, by simpa using hm, hlm, hsl, hsm, fun y hy => ?_, ?_, hlt⟩
  · rcases List.mem_append.1 hy with h1 | h1
    · exact (h y h1).more hs
    · obtain rfl : y = x := by simpa using h1
      exact hx
  · rw [List.pairwise_append]
    refine ⟨ha, by simp, fun y hy z hz => ?_⟩
    obtain rfl : z = x := by simpa using hz
    exact hf y hy
/-- the first is let go -/
theorem Kept.tail {w : World} {g off cap g' off' cap' : Nat} {xs : List Itm} {SL SM S : List Nat} {n : Nat} (h : Kept w (.slice (some ⟨g, off, none⟩) n cap) (.slice (some ⟨g', off', none⟩) n cap') xs SL SM S) (hn : 1 < n) :
    Kept w (.slice (some ⟨g, off + 1, none⟩) (n - 1) (cap - 1)) (.slice (some ⟨g', off' + 1, none⟩) (n - 1) (cap' - 1)) xs.tail SL SM S := by
  have hl := h.lists
  have hm := h.was
  have hxn : xs.length = n := by
    rcases hl.2 with ⟨h, _⟩ | ⟨_, _, _, _, h, _⟩
    · cases h
    · injection h with _ h2; exact h2.symm
  rw [hxn] at hl hm
  have hl2 := hl.behind hn
  have hm2 := hm.behind hn
  have et : xs.tail.length = n - 1 := by simp [hxn]
  refine ⟨?_, ?_, h.lm, h.sl, h.sm, fun x hx => h.it x (List.mem_of_mem_tail hx), h.ap.tail, h.lt⟩
  · rw [et, List.map_tail]; exact hl2
  · rw [et, List.map_tail]; exact hm2
theorem Chg.wide {S T : List Nat} {w w' : World} (h : Chg S w w') (hs : ∀ k ∈ S, k ∈ T) : Chg T w w' := ⟨h.os, h.tape, h.output, h.size, fun k hk hn => h.block k hk fun hm => hn (hs k hm)⟩
theorem own_ne' {w : World} {base n size : Nat} {e : TypeId} {v : Value} {xs : List Value} (h : w.ownsRow base e size v n xs) : ∀ k, v.ownBlock = some k → ∃ cur, Blk w k e cur := by
  intro k hk
  rcases h.2 with ⟨rfl, _⟩ | ⟨g, cap, cur, rfl, _, hh, _⟩
  · cases hk
  · simp [Value.ownBlock] at hk
    subst hk
    exact ⟨cur, hh⟩
theorem Tl.blk {w : World} {e : TypeId} {v : Value} {n : Nat} {xs : List Value} {S : List Nat} (h : Tl w e v n xs S) : ∀ k ∈ S, ∃ cur, Blk w k e cur := by
  rcases h.2 with ⟨_, _, rfl⟩ | ⟨g, off, cap, cur, hv, rfl, hg, r⟩
  · simp
  · intro k hk
    obtain rfl : k = g := by simpa using hk
    exact ⟨cur, hg⟩
theorem own_other {w w' : World} {T : List Nat} {base n c : Nat} {A : Option Addr} {bs : List Nat} (h : Own w base A n c bs) (hc : Chg T w w') (hT : ∀ k ∈ T, ∃ e cur, (5 : TypeId) ≠ e ∧ Blk w k e cur) : Own w' base A n c bs :=
  own_chg h hc fun k hk hm => by
    obtain ⟨e, cur, he, hb⟩ := hT k hm
    obtain ⟨cur', hb'⟩ := own_ne' h.1 k hk
    exact Blk.ne_ hb' hb he rfl
theorem Itm.In.other {T S : List Nat} {w w' : World} {x : Itm} (h : x.In w S) (hc : Chg T w w') (hT : ∀ k ∈ T, ∃ e cur, (5 : TypeId) ≠ e ∧ Blk w k e cur) : x.In w' S :=
  ⟨own_other h.own hc hT, own_other h.copy hc hT, h.vs, h.us⟩
/-- what Keep keeps true -/
structure KS (w : World) (gb off : Nat) (t : TypeId) (cs : List Value) (S : List Nat) (ob : Option Nat) (wx : World) (L M : Value) (held : Int) (xs : List Itm) (SL SM : List Nat) (cs' : List Value) (S' : List Nat) : Prop where
  row : Row wx gb t cs'
  e0 : cs'[off]? = some L
  e1 : cs'[off + 1]? = some M
  e2 : cs'[off + 2]? = some (.int .i64 held)
  e3 : cs'[off + 3]? = some (.bool false)
  oth : ∀ i, (i < off ∨ off + 4 ≤ i) → cs'[i]? = cs[i]?
  kept : Kept wx L M xs SL SM S'
  chg : Chg (gb :: S) w wx
  news : ∀ k ∈ S', k ∈ S ∨ w.heap.size ≤ k ∨ ob = some k
  notin : gb ∉ S'
def KeepInv (w : World) (gb off : Nat) (t : TypeId) (cs : List Value) (S : List Nat) (ob : Option Nat) (N : Nat) (wx : World) : Prop :=
  ∃ xs L M held SL SM cs' S', KS w gb off t cs S ob wx L M held xs SL SM cs' S' ∧ xs.length ≤ N
section
variable {w : World} {gb off : Nat} {t : TypeId} {cs : List Value} {S : List Nat} {ob : Option Nat} {wx : World} {L M : Value} {held : Int} {xs : List Itm} {SL SM : List Nat} {cs' : List Value} {S' : List Nat}
theorem KS.drewN (h : KS w gb off t cs S ob wx L M held xs SL SM cs' S') (m : Nat) : KS w gb off t cs S ob (wx.drewN m) L M held xs SL SM cs' S' :=
  ⟨h.row, h.e0, h.e1, h.e2, h.e3, h.oth, h.kept.chg ((Chg.refl [] wx).drewN m) (by simp), h.chg.drewN m, h.news, h.notin⟩
theorem KS.drew (h : KS w gb off t cs S ob wx L M held xs SL SM cs' S') : KS w gb off t cs S ob wx.drew L M held xs SL SM cs' S' := h.drewN 1
theorem KS.set_ (h : KS w gb off t cs S ob wx L M held xs SL SM cs' S') (i : Nat) (u : Value) :
    Row (wx.setCell ⟨gb, i, none⟩ u) gb t (cs'.set i u) ∧ Kept (wx.setCell ⟨gb, i, none⟩ u) L M xs SL SM S' ∧ Chg (gb :: S) w (wx.setCell ⟨gb, i, none⟩ u) :=
  ⟨h.row.set_ i u, h.kept.chg ((Chg.refl [gb] wx).set_ (p := ⟨gb, i, none⟩) (.inl (by simp)) u) (fun k hk hm => h.notin (by
      obtain rfl : k = gb := by simpa using hm
      exact hk)), h.chg.set_ (p := ⟨gb, i, none⟩) (.inl (by simp)) u⟩
theorem KS.holds (h : KS w gb off t cs S ob wx L M held xs SL SM cs' S') (x : Int) : KS w gb off t cs S ob (wx.setCell ⟨gb, off + 2, none⟩ (.int .i64 x)) L M x xs SL SM (cs'.set (off + 2) (.int .i64 x)) S' := by
  obtain ⟨h1, h2, h3⟩ := h.set_ (off + 2) (.int .i64 x)
  refine ⟨h1, ?_, ?_, ?_, ?_, fun i hi => ?_, h2, h3, h.news, h.notin⟩
  · rw [List.getElem?_set_ne (by omega)]; exact h.e0
  · rw [List.getElem?_set_ne (by omega)]; exact h.e1
  · rw [List.getElem?_set_self (List.getElem?_eq_some_iff.1 h.e2).1]
  · rw [List.getElem?_set_ne (by omega)]; exact h.e3
  · rw [List.getElem?_set_ne (by omega)]; exact h.oth i hi
theorem KS.bad (h : KS w gb off t cs S ob wx L M held xs SL SM cs' S') : KS w gb off t cs S ob (wx.setCell ⟨gb, off + 3, none⟩ (.bool false)) L M held xs SL SM (cs'.set (off + 3) (.bool false)) S' := by
  obtain ⟨h1, h2, h3⟩ := h.set_ (off + 3) (.bool false)
  refine ⟨h1, ?_, ?_, ?_, ?_, fun i hi => ?_, h2, h3, h.news, h.notin⟩
  · rw [List.getElem?_set_ne (by omega)]; exact h.e0
  · rw [List.getElem?_set_ne (by omega)]; exact h.e1
  · rw [List.getElem?_set_ne (by omega)]; exact h.e2
  · rw [List.getElem?_set_self (List.getElem?_eq_some_iff.1 h.e3).1]
  · rw [List.getElem?_set_ne (by omega)]; exact h.oth i hi
theorem KS.tail {g o cap g' o' cap' n : Nat} (h : KS w gb off t cs S ob wx (.slice (some ⟨g, o, none⟩) n cap) (.slice (some ⟨g', o', none⟩) n cap') held xs SL SM cs' S') (hn : 1 < n) :
    KS w gb off t cs S ob ((wx.setCell ⟨gb, off, none⟩ (.slice (some ⟨g, o + 1, none⟩) (n - 1) (cap - 1))).setCell ⟨gb, off + 1, none⟩ (.slice (some ⟨g', o' + 1, none⟩) (n - 1) (cap' - 1))) (.slice (some ⟨g, o + 1, none⟩) (n - 1) (cap - 1)) (.slice (some ⟨g', o' + 1, none⟩) (n - 1) (cap' - 1)) held xs.tail SL SM ((cs'.set off (.slice (some ⟨g, o + 1, none⟩) (n - 1) (cap - 1))).set (off + 1) (.slice (some ⟨g', o' + 1, none⟩) (n - 1) (cap' - 1))) S' := by
  have hc : Chg [gb] wx ((wx.setCell ⟨gb, off, none⟩ (.slice (some ⟨g, o + 1, none⟩) (n - 1) (cap - 1))).setCell ⟨gb, off + 1, none⟩ (.slice (some ⟨g', o' + 1, none⟩) (n - 1) (cap' - 1))) := ((Chg.refl [gb] wx).set_ (p := ⟨gb, off, none⟩) (.inl (by simp)) _).set_ (p := ⟨gb, off + 1, none⟩) (.inl (by simp)) _
  have hl : off < cs'.length := (List.getElem?_eq_some_iff.1 h.e0).1
  have hl1 : off + 1 < cs'.length := (List.getElem?_eq_some_iff.1 h.e1).1
  refine ⟨(h.row.set_ off _).set_ (off + 1) _, ?_, ?_, ?_, ?_, fun i hi => ?_, (h.kept.tail hn).chg hc fun k hk hm => h.notin (by
      obtain rfl : k = gb := by simpa using hm
      exact hk), h.chg.trans (hc.wide (T := gb :: S) (by simp)) (fun x hx => .inl hx), h.news, h.notin⟩
  · rw [List.getElem?_set_ne (by omega), List.getElem?_set_self hl]
  · rw [List.getElem?_set_self (by simpa using hl1)]
  · rw [List.getElem?_set_ne (by omega), List.getElem?_set_ne (by omega)]; exact h.e2
  · rw [List.getElem?_set_ne (by omega), List.getElem?_set_ne (by omega)]; exact h.e3
  · rw [List.getElem?_set_ne (by omega), List.getElem?_set_ne (by omega)]; exact h.oth i hi
theorem KS.book (h : KS w gb off t cs S ob wx L M held xs SL SM cs' S') (ht : t ≠ 25 ∧ t ≠ 5) (hN : xs.length ≤ 4000) : Bk wx gb off t cs' S' := ⟨h.row, ht, h.notin, xs, L, M, held, SL, SM, h.e0, h.e1, h.e2, h.e3, hN, h.kept⟩
/-- how the lists lie -/
theorem Kept.slices (h : Kept w L M xs SL SM S) : ∃ A c A' c', L = .slice A xs.length c ∧ M = .slice A' xs.length c' := by
  obtain ⟨A, c, e, _⟩ := h.lists.form
  obtain ⟨A', c', e', _⟩ := h.was.form
  exact ⟨A, c, A', c', e, e'⟩
theorem Kept.slots (h : Kept w L M xs SL SM S) (h0 : 0 < xs.length) : ∃ g o c g' o' c', L = .slice (some ⟨g, o, none⟩) xs.length c ∧ M = .slice (some ⟨g', o', none⟩) xs.length c' ∧ xs.length ≤ c ∧ xs.length ≤ c' ∧ c ≤ 9223372036854775807 ∧ c' ≤ 9223372036854775807 ∧ g ∈ SL ∧ g' ∈ SM ∧ g < w.heap.size ∧ g' < w.heap.size ∧ (∀ k, k < xs.length → w.cell? ⟨g, o + k, none⟩ = (xs.map Itm.v)[k]?) ∧ (∀ k, k < xs.length → w.cell? ⟨g', o' + k, none⟩ = (xs.map Itm.u)[k]?) := by
  have hl := h.lists
  have hm := h.was
  obtain ⟨A, c, e, hc, hA, g, o, hf, hg⟩ := hl.form
  obtain ⟨A', c', e', hc', hA', g', o', hf', hg'⟩ := hm.form
  obtain ⟨rfl, hsl, hcell⟩ := hf.out h0
  obtain ⟨rfl, hsm, hcell'⟩ := hf'.out h0
  have cm : c ≤ 9223372036854775807 := by
    rcases hl.2 with ⟨hv, _⟩ | ⟨_, _, _, _, hv, _, _, _, hcm, _⟩
    · rw [e] at hv; cases hv
    · rw [e] at hv; injection hv with _ _ h3; rw [h3]; unfold maxLen at hcm; exact hcm
  have cm' : c' ≤ 9223372036854775807 := by
    rcases hm.2 with ⟨hv, _⟩ | ⟨_, _, _, _, hv, _, _, _, hcm, _⟩
    · rw [e'] at hv; cases hv
    · rw [e'] at hv; injection hv with _ _ h3; rw [h3]; unfold maxLen at hcm; exact hcm
  exact ⟨g, o, c, g', o', c', e, e', hc, hc', cm, cm', by rw [hsl]; simp, by rw [hsm]; simp, hg h0, hg' h0, hcell, hcell'⟩
end
/-- behind the first append -/
structure Mid1 (w w2 : World) (gb : Nat) (t : TypeId) (cs1 : List Value) (L1 M : Value) (xs : List Itm) (SL S1 SM S : List Nat) (A : Option Addr) (n c : Nat) (bs : List Nat) : Prop where
  row : Row w2 gb t cs1
  lists : Tl w2 25 L1 (xs.length + 1) (xs.map Itm.v ++ [.slice A n c]) S1
  was : Tl w2 25 M xs.length (xs.map Itm.u) SM
  it : ∀ y ∈ xs, y.In w2 S
  own : Own w2 0 A n c bs
  chg : Chg (gb :: S) w w2
  s1 : S1 = SL ∨ ∀ k ∈ S1, w.heap.size ≤ k
theorem keep1 {w w1 : World} {gb off n c : Nat} {t : TypeId} {cs : List Value} {L M L1 : Value} {xs : List Itm} {SL SM S1 S : List Nat} {A : Option Addr} {bs : List Nat} (hk : Kept w L M xs SL SM S) (hrow : Row w gb t cs) (ht1 : t ≠ 25) (ht2 : t ≠ 5) (hnot : gb ∉ S) (ho : Own w 0 A n c bs) (o : Obj)
    (hl : Tl w1 25 L1 (xs.length + 1) (xs.map Itm.v ++ [.slice A n c]) S1) (hc : Chg SL (w.alloc o) w1) (hs : S1 = SL ∨ S1 = [(w.alloc o).heap.size]) :
    Row w1 gb t cs ∧ Mid1 w (w1.setCell ⟨gb, off, none⟩ L1) gb t (cs.set off L1) L1 M xs SL S1 SM S A n c bs := by
  have ca : Chg SL w (w.alloc o) := (Chg.refl _ _).alloc o
  have c1 : Chg SL w w1 := ca.trans hc (fun x hx => .inl hx)
  have hr1 : Row w1 gb t cs := c1.row hrow (fun h => hnot (hk.sl _ h))
  have c2 : Chg (gb :: S) w (w1.setCell ⟨gb, off, none⟩ L1) := (c1.wide (fun k h => by simp; exact .inr (hk.sl k h))).set_ (p := ⟨gb, off, none⟩) (.inl (by simp)) L1
  have c3 : Chg (gb :: SL) w (w1.setCell ⟨gb, off, none⟩ L1) := (c1.wide (fun k h => by simp; exact .inr h)).set_ (p := ⟨gb, off, none⟩) (.inl (by simp)) L1
  have hT : ∀ k ∈ gb :: SL, ∃ e cur, (5 : TypeId) ≠ e ∧ Blk w k e cur := by
    intro k h
    rcases List.mem_cons.1 h with rfl | h
    · exact ⟨t, _, fun h => ht2 h.symm, hrow⟩
    · obtain ⟨cur, hb⟩ := hk.lists.blk k h
      exact ⟨_, cur, by decide, hb⟩
  have hgs1 : gb ∉ S1 := by
    rcases hs with rfl | rfl
    · exact fun h => hnot (hk.sl _ h)
    · have := hrow.lt
      simp only [List.mem_singleton]
      intro h
      rw [h] at this
      simp at this
      omega
  refine ⟨hr1, hr1.set_ off L1, ?_, ?_, fun y hy => (hk.it y hy).other c3 hT, own_other ho c3 hT, c2, ?_⟩
  · exact hl.keep fun k hk' => Below.heap_setCell w1 _ L1 k (fun e => hgs1 (by have e : k = gb := e; rw [← e]; exact hk'))
  · exact hk.was.chg c3 fun k h hm => by
      rcases List.mem_cons.1 hm with rfl | hm
      · exact hnot (hk.sm _ h)
      · exact hk.lm k hm h
  · rcases hs with rfl | rfl
    · exact .inl rfl
    · refine .inr fun k hk' => ?_
      obtain rfl : k = (w.alloc o).heap.size := by simpa using hk'
      simp
theorem keep2 {w w2 w3 w4 : World} {gb off n c c2 : Nat} {t : TypeId} {cs : List Value} {L M L1 M1 : Value} {held : Int} {xs : List Itm} {SL SM S1 S4 S : List Nat} {A A2 : Option Addr} {bs : List Nat} (hk : Kept w L M xs SL SM S) (hrow : Row w gb t cs) (ht1 : t ≠ 25) (ht2 : t ≠ 5) (hnot : gb ∉ S)
    (hf : ∀ k, (Value.slice A n c).ownBlock = some k → k ∉ S ∧ k ≠ gb) (h0 : cs[off]? = some L) (h1 : cs[off + 1]? = some M) (hh : cs[off + 2]? = some (.int .i64 held)) (hbad : cs[off + 3]? = some (.bool false)) (m : Mid1 w w2 gb t (cs.set off L1) L1 M xs SL S1 SM S A n c bs)
    (ho3 : w3.ownsRow 0 5 1 (.slice A2 n c2) n (bs.map u8)) (hg3 : w2.drew.grownBy w3 none) (hat : (Value.slice A2 n c2).ownBlock = none ∨ (Value.slice A2 n c2).ownBlock = some w2.drew.heap.size) (o : Obj)
    (hl4 : Tl w4 25 M1 (xs.length + 1) (xs.map Itm.u ++ [.slice A2 n c2]) S4) (hc4 : Chg SM (w3.alloc o) w4) (hs4 : S4 = SM ∨ S4 = [(w3.alloc o).heap.size]) (N : Nat) (hN : xs.length + 1 ≤ N) :
    Row w4 gb t (cs.set off L1) ∧ KeepInv w gb off t cs S (Value.slice A n c).ownBlock N (w4.setCell ⟨gb, off + 1, none⟩ M1) := by
  have c23 : Chg [] w2 w3 := ⟨hg3.os, hg3.tape, hg3.output, hg3.size, fun k hk _ => hg3.block k hk (by simp)⟩
  have c24 : Chg SM w2 w4 := ((c23.alloc o).wide (fun k h => by cases h)).trans hc4 (fun x hx => .inl hx)
  have hr4 : Row w4 gb t (cs.set off L1) := c24.row m.row (fun h => hnot (hk.sm _ h))
  have c25 : Chg (gb :: SM) w2 (w4.setCell ⟨gb, off + 1, none⟩ M1) := (c24.wide (fun k h => by simp; exact .inr h)).set_ (p := ⟨gb, off + 1, none⟩) (.inl (by simp)) M1
  have ca : Chg (gb :: S) w (w4.setCell ⟨gb, off + 1, none⟩ M1) := m.chg.trans (c25.wide (fun k h => by
    simp at h ⊢
    rcases h with h | h
    · exact .inl h
    · exact .inr (hk.sm k h))) (fun x hx => .inl hx)
  have hT : ∀ k ∈ gb :: SM, ∃ e cur, (5 : TypeId) ≠ e ∧ Blk w2 k e cur := by
    intro k h
    rcases List.mem_cons.1 h with rfl | h
    · exact ⟨t, _, fun h => ht2 h.symm, m.row⟩
    · obtain ⟨cur, hb⟩ := m.was.blk k h
      exact ⟨_, cur, by decide, hb⟩
  have hsz : w.heap.size ≤ w2.heap.size := m.chg.size
  have hglt := hrow.lt
  have hs1lt : ∀ k ∈ S1, k < w2.heap.size := m.lists.lt
  have hs4lt : ∀ k ∈ S4, k < w4.heap.size := hl4.lt
  have h24 : w2.heap.size ≤ w4.heap.size := c24.size
  have hw3 : w2.heap.size ≤ w3.heap.size := c23.size
  have hs1n : ∀ k ∈ S1, k ∈ SL ∨ w.heap.size ≤ k := by
    intro k h
    rcases m.s1 with e | e
    · exact .inl (by rw [← e]; exact h)
    · exact .inr (e k h)
  have hs4n : ∀ k ∈ S4, k ∈ SM ∨ w3.heap.size < k := by
    intro k h
    rcases hs4 with e | e
    · exact .inl (by rw [← e]; exact h)
    · rw [e] at h
      obtain rfl : k = (w3.alloc o).heap.size := by simpa using h
      exact .inr (by simp)
  have hgs4 : gb ∉ S4 := by
    intro h
    rcases hs4n _ h with h | h
    · exact hnot (hk.sm _ h)
    · omega
  have hgs1 : gb ∉ S1 := by
    intro h
    rcases hs1n _ h with h | h
    · exact hnot (hk.sl _ h)
    · omega
  have hatk : ∀ k, (Value.slice A2 n c2).ownBlock = some k → k = w2.heap.size := by
    intro k h
    rcases hat with e | e
    · rw [e] at h; cases h
    · rw [e] at h
      injection h with h
      rw [← h]; rfl
  have hown4 : Own (w4.setCell ⟨gb, off + 1, none⟩ M1) 0 A2 n c2 bs := by
    have h3 : Own w3 0 A2 n c2 bs := ⟨ho3, m.own.2⟩
    have c35 : Chg (gb :: SM) w3 (w4.setCell ⟨gb, off + 1, none⟩ M1) := ((((Chg.refl SM w3).alloc o).trans hc4 (fun x hx => .inl hx)).wide (fun k h => by simp; exact .inr h)).set_ (p := ⟨gb, off + 1, none⟩) (.inl (by simp)) M1
    refine own_chg h3 c35 fun k hk' hm => ?_
    have := hatk k hk'
    rcases List.mem_cons.1 hm with h | h
    · omega
    · have := hk.lt k (hk.sm k h)
      omega
  have ho5 : (cs.set off L1).length = cs.length := by simp
  have hlen : off + 3 < cs.length := (List.getElem?_eq_some_iff.1 hbad).1
  refine ⟨hr4, xs ++ [⟨A, n, c, bs, A2, c2⟩], L1, M1, held, S1, S4, _, S1 ++ S4 ++ S ++ (Value.slice A n c).ownBlock.toList ++ (Value.slice A2 n c2).ownBlock.toList, ⟨hr4.set_ (off + 1) M1, ?_, ?_, ?_, ?_, ?_, ?_, ca, ?_, ?_⟩, ?_⟩
  · rw [List.getElem?_set_ne (by omega), List.getElem?_set_self (by omega)]
  · rw [List.getElem?_set_self (by rw [ho5]; omega)]
  · rw [List.getElem?_set_ne (by omega), List.getElem?_set_ne (by omega)]; exact hh
  · rw [List.getElem?_set_ne (by omega), List.getElem?_set_ne (by omega)]; exact hbad
  · intro i hi
    rw [List.getElem?_set_ne (by omega), List.getElem?_set_ne (by omega)]
  · have hgA : ∀ k, (Value.slice A n c).ownBlock = some k → k ≠ gb := fun k h => (hf k h).2
    have hgA2 : ∀ k, (Value.slice A2 n c2).ownBlock = some k → k ≠ gb := fun k h e => by have := hatk k h; omega
    refine Kept.snoc (S := S) (fun y hy => (m.it y hy).other c25 hT) hk.ap ?_ ?_ ?_ ?_ ?_ ?_ ⟨?_, hown4, ?_, ?_⟩ ?_ ?_
    · exact m.lists.chg c25 fun k h hm => by
        rcases List.mem_cons.1 hm with rfl | hm
        · exact hgs1 h
        · rcases hs1n k h with h2 | h2
          · exact hk.lm k h2 hm
          · have := hk.lt k (hk.sm k hm); omega
    · exact hl4.keep fun k hk' => Below.heap_setCell w4 _ M1 k (fun e => hgs4 (by have e : k = gb := e; rw [← e]; exact hk'))
    · intro k h h'
      rcases hs1n k h with h2 | h2 <;> rcases hs4n k h' with h3 | h3
      · exact hk.lm k h2 h3
      · have := hk.lt k (hk.sl k h2); omega
      · have := hk.lt k (hk.sm k h3); omega
      · have := hs1lt k h; omega
    · intro k h
      simp [h]
    · intro k h
      simp [h]
    · intro k h
      simp [h]
    · exact own_other m.own c25 hT
    · intro k h
      have h : (Value.slice A n c).ownBlock = some k := h
      simp [h]
    · intro k h
      have h : (Value.slice A2 n c2).ownBlock = some k := h
      simp [h]
    · intro y hy k h h'
      exact (hf k h').1 ((hk.it y hy).vs k h)
    · intro k h
      have e5 : (w4.setCell ⟨gb, off + 1, none⟩ M1).heap.size = w4.heap.size := by simp [World.setCell]
      rw [e5]
      simp only [List.mem_append, Option.mem_toList] at h
      rcases h with (((h | h) | h) | h) | h
      · have := hs1lt k h; omega
      · exact hs4lt k h
      · have := hk.lt k h; omega
      · obtain ⟨cur, hb⟩ := own_ne' m.own.1 k h
        have := Blk.lt (cs := cur) hb
        omega
      · have := hatk k h
        obtain ⟨cur, hb⟩ := own_ne' hown4.1 k h
        have := Blk.lt (cs := cur) hb
        rw [e5] at this
        exact this
  · intro k h
    simp only [List.mem_append, Option.mem_toList] at h
    rcases h with (((h | h) | h) | h) | h
    · rcases hs1n k h with h | h
      · exact .inl (hk.sl k h)
      · exact .inr (.inl h)
    · rcases hs4n k h with h | h
      · exact .inl (hk.sm k h)
      · exact .inr (.inl (by omega))
    · exact .inl h
    · exact .inr (.inr h)
    · have := hatk k h
      exact .inr (.inl (by omega))
  · intro h
    simp only [List.mem_append, Option.mem_toList] at h
    rcases h with (((h | h) | h) | h) | h
    · exact hgs1 h
    · exact hgs4 h
    · exact hnot h
    · exact (hf _ h).2 rfl
    · have := hatk _ h; omega
  · simpa using hN
end Go.Proofs.Ytblfagmoilhdnaa

/- The walk of the book's Keep. -/
set_option linter.unusedVariables false
set_option linter.unusedSimpArgs false
namespace Go.Proofs.Ytblfagmoilhdnaa
open Go.RowKit

theorem grown_chg0 {w w' : World} (hg : w.drew.grownBy w' none) : Chg [] w w' := ⟨hg.os, hg.tape, hg.output, hg.size, fun k hk _ => hg.block k hk (by simp)⟩
set_option maxRecDepth 100000 in
set_option maxHeartbeats 2000000 in
theorem keep_any (gb off : Nat) (t : TypeId) (cs : List Value) (S : List Nat) (A : Option Addr) (n c : Nat) (bs : List Nat) (w : World) (hb : Bk w gb off t cs S) (ho : Own w 0 A n c bs) (hn : n ≤ 70368744177664)
    (hf : ∀ k, (Value.slice A n c).ownBlock = some k → k ∉ S ∧ k ≠ gb) :
    Calls Try.prog 12 #[.pointer (some ⟨gb, off, none⟩), .slice A n c] w fun e w' => e = .returned (.tuple #[]) ∧
      ∃ cs' S', Bk w' gb off t cs' S' ∧ Chg (gb :: S) w w' ∧ (∀ k ∈ S', k ∈ S ∨ w.heap.size ≤ k ∨ (Value.slice A n c).ownBlock = some k) ∧ ∀ i, (i < off ∨ off + 4 ≤ i) → cs'[i]? = cs[i]? := by
  obtain ⟨i0, hi0, hz1, hz2, hz3⟩ := info_parts info5w
  have HI := Lib.hid hi0; have HZ1 := Lib.hid hz1; have HZ2 := Lib.hid hz2; have HZ3 := Lib.hid hz3
  obtain ⟨i1, hi1, hy1, hy2, hy3⟩ := info_parts info22
  have HJ := Lib.hid hi1; have HY1 := Lib.hid hy1; have HY2 := Lib.hid hy2; have HY3 := Lib.hid hy3
  obtain ⟨hrow, ⟨ht1, ht2⟩, hnot, xs, L, M, held, SL, SM, e0, e1, e2, e3, hfew, hk⟩ := hb
  have c0 := (hrow.cell off).trans e0
  have c1 := (hrow.cell (off + 1)).trans e1
  have c2 := (hrow.cell (off + 2)).trans e2
  have c3 := (hrow.cell (off + 3)).trans e3
  have f0 := hrow.frozen off
  have f1 := hrow.frozen (off + 1)
  have f2 := hrow.frozen (off + 2)
  have f3 := hrow.frozen (off + 3)
  have hlt := hrow.lt
  have HROW := Lib.hid hrow; have HK := Lib.hid hk; have HO := Lib.hid ho; have HF := Lib.hid hf; have HNOT := Lib.hid hnot; have HT1 := Lib.hid ht1; have HT2 := Lib.hid ht2
  have E0 := Lib.hid e0; have E1 := Lib.hid e1; have E2 := Lib.hid e2; have E3 := Lib.hid e3
  clear hi0 hz1 hz2 hz3 hi1 hy1 hy2 hy3 hrow hk ho hf hnot ht1 ht2 e0 e1 e2 e3
  go_enter Try.func12, Try.ntmps12
  go_upto_region 1 with (at_builtin; refine wpList_append_tl _ (by rfl) (.tmp 8) (.tmp 10) 28 rfl 25 i1 _ 24 Try.underlying28 HJ.out HY1.out HY2.out HY3.out rfl L xs.length (xs.map Itm.v) SL rfl (HK.out.lists.chg ((Chg.refl [] w).alloc _) (by simp)) ⟨w.heap.size, 0, none⟩ 1 (.slice A n c) rfl ((Row.new w 25 [.slice A n c]).cell 0) rfl (by unfold maxLen; omega) (by omega) ?_; intro A1 c1' S1 w1 HL1 HC1 HS1; have hk1 := keep1 (off := off) HK.out HROW.out HT1.out HT2.out HNOT.out HO.out _ HL1.out HC1.out HS1.out; have d0 := (hk1.1.cell off).trans E0.out; have d1 := hk1.1.frozen off; have HK1 := Lib.hid hk1.2; clear hk1)
  obtain ⟨w2, hw2⟩ : ∃ w2, w2 = w1.setCell ⟨gb, off, none⟩ (.slice A1 (xs.length + 1) c1') := ⟨_, rfl⟩
  rw [← hw2] at HK1 ⊢
  have hrow2 := HK1.out.row
  have g1 : w2.cell? ⟨gb, off + 1, none⟩ = some M := by rw [hrow2.cell, List.getElem?_set_ne (by omega)]; exact E1.out
  have hlt2 := hrow2.lt
  have HROW2 := Lib.hid hrow2
  have HOWN2 := Lib.hid HK1.out.own
  clear hw2 d0 d1 hrow2 c0 c1 c2 c3 f0 f1 f2 f3
  go_cut [] (fun wx => Hid (KeepInv w gb off t cs S (Value.slice A n c).ownBlock 4001 wx))
  case first =>
    first | go_region_law (first
      | (refine step_append_sl _ (by rfl) (.const (.slice none 0 0)) (.tmp 19) 25 (by rfl) 0 5 i0 _ 1 1 Try.underlying25 HI.out HZ1.out HZ2.out HZ3.out rfl (by omega) (.slice none 0 0) 0 [] (by simp [Act.eval, Act.put]) (World.ownsRow_nil _ _ _ _) w2.heap.size A n c (bs.map u8) (by simp [Act.eval, Act.put]) (Reads.drew (Reads.of_own HOWN2.out.1)) (one_u8w bs) (by unfold maxLen; omega) (by omega) (Nat.zero_le _) ?_; intro A2 c2' w3 hown3 hg3 hat3; simp only [Nat.zero_add, List.nil_append] at hown3 hat3; have HO3 := Lib.hid hown3; have HG3 := Lib.hid hg3; have HAT3 := Lib.hid hat3; have hr3 := row_grown HROW2.out.drew hg3 (by simp [Value.ownBlock]); have HR3 := Lib.hid hr3; have j1 : w3.cell? ⟨gb, off + 1, none⟩ = some M := (by rw [hr3.cell, List.getElem?_set_ne (by omega)]; exact E1.out); have hl3 := hr3.lt; clear hown3 hg3 hat3 hr3)
      | (refine step_append_tl _ (by rfl) (.tmp 18) (.tmp 21) 28 (by rfl) 25 i1 _ 24 Try.underlying28 HJ.out HY1.out HY2.out HY3.out rfl M xs.length (xs.map Itm.u) SM (by simp [Act.eval, Act.put]) ((HK1.out.was.chg (grown_chg0 HG3.out) (by simp)).chg ((Chg.refl [] w3).alloc _) (by simp)) ⟨w3.heap.size, 0, none⟩ 1 (.slice A2 n c2') (by simp [Act.eval, Act.put]) ((Row.new w3 25 [.slice A2 n c2']).cell 0) rfl (by unfold maxLen; omega) (by omega) ?_; intro A3 c3' S4 w4 HL4 HC4 HS4; have hk2 := keep2 (N := 4001) HK.out HROW.out HT1.out HT2.out HNOT.out HF.out E0.out E1.out E2.out E3.out HK1.out HO3.out HG3.out HAT3.out _ HL4.out HC4.out HS4.out (by omega); have HK2 := Lib.hid hk2.2; have hr4 := hk2.1; have d0 : w4.cell? ⟨gb, off + 1, none⟩ = some M := (by rw [hr4.cell, List.getElem?_set_ne (by omega)]; exact E1.out); have d1 := hr4.frozen (off + 1); clear hk2 hr4)) | fail
    all_goals
      go_wp2_with fail
      go_meet
      case rel => exact HK2
  case rest =>
    clear HK HL1 HC1 HS1 HK1 g1 hlt2 HROW2 HOWN2 E0 E1 E2 E3 HROW
    obtain ⟨ys, L2, M2, held2, SL2, SM2, cs2, S2, hks, hys⟩ := hcut.out
    have c0 := (hks.row.cell off).trans hks.e0
    have c2 := (hks.row.cell (off + 2)).trans hks.e2
    have f2 := hks.row.frozen (off + 2)
    have hltc := hks.row.lt
    have HKS := Lib.hid hks
    clear hks hcut
    go_wp2_with fail
    have HI0 : Hid (KeepInv w gb off t cs S (Value.slice A n c).ownBlock 4001 (wc.setCell ⟨gb, off + 2, none⟩ (.int .i64 (wrap64 (wrap64 (held2 + (c : Int)) + 1))))) := Lib.hid ⟨ys, L2, M2, _, SL2, SM2, _, S2, HKS.out.holds _, hys⟩
    clear HKS c0 c2 f2 hltc
    go_loopg [] 4001 (fun k wr => Hid (KeepInv w gb off t cs S (Value.slice A n c).ownBlock k wr))
    case atStart => exact HI0
    case round =>
      clear HI0
      obtain ⟨zs, L3, M3, held3, SL3, SM3, cs3, S3, hks, hz⟩ := hrel.out
      obtain ⟨m, hm⟩ : ∃ m, m = zs.length := ⟨_, rfl⟩
      have c0 := (hks.row.cell off).trans hks.e0
      have c1 := (hks.row.cell (off + 1)).trans hks.e1
      have c2 := (hks.row.cell (off + 2)).trans hks.e2
      have c3 := (hks.row.cell (off + 3)).trans hks.e3
      have f0 := hks.row.frozen off
      have f1 := hks.row.frozen (off + 1)
      have f2 := hks.row.frozen (off + 2)
      have f3 := hks.row.frozen (off + 3)
      have hltc := hks.row.lt
      by_cases hgo : 1 < m ∧ (1000000 < held3 ∨ 4000 < m)
      · obtain ⟨hm1, hor⟩ := hgo
        obtain ⟨g, o, d, g', o', d', rfl, rfl, hd1, hd2, hd3, hd4, hgs, hgs', hg, hg', hcl, hcl'⟩ := hks.kept.slots (by omega)
        obtain ⟨z, hz0⟩ : ∃ z, zs[0]? = some z := ⟨_, List.getElem?_eq_getElem (show 0 < zs.length by omega)⟩
        have hin := hks.kept.it z (List.mem_of_getElem? hz0)
        have l0 := hcl 0 (by omega)
        have l0' := hcl' 0 (by omega)
        rw [List.getElem?_map, hz0] at l0 l0'
        simp only [Nat.add_zero, Option.map_some, Itm.v, Itm.u] at l0 l0'
        rw [← hm] at c0 c1 hks hd1 hd2 hz
        have hgb : ¬ (g = gb) := fun h => hks.notin (by rw [← h]; exact hks.kept.sl _ hgs)
        have hgb' : ¬ (g' = gb) := fun h => hks.notin (by rw [← h]; exact hks.kept.sm _ hgs')
        clear hgs hgs'
        have HKS := Lib.hid hks
        have HIN := Lib.hid hin
        have HM := Lib.hid hm
        have HZ0 := Lib.hid hz0
        clear hks hin hcl hcl' hz0 hrel hm
        have e1 : decide ((1 : Int) < (m : Int)) = true := decide_eq_true (by omega)
        have key : decide ((1000000 : Int) < held3) = true ∨ (decide ((1000000 : Int) < held3) = false ∧ decide ((4000 : Int) < (m : Int)) = true) := by
          by_cases h : 1000000 < held3
          · exact .inl (by simpa using h)
          · exact .inr ⟨by simpa using h, decide_eq_true (by omega)⟩
        clear hor
        have KEEP : ∀ w' : World, (w'.cell? ⟨gb, off + 3, none⟩ = some (.bool false) ∧ w'.cell? ⟨gb, off, none⟩ = some (.slice (some ⟨g, o, none⟩) m d) ∧ w'.cell? ⟨gb, off + 1, none⟩ = some (.slice (some ⟨g', o', none⟩) m d') ∧ w'.cell? ⟨g, o, none⟩ = some (.slice z.A z.n z.c) ∧ w'.cell? ⟨g', o', none⟩ = some (.slice z.B z.n z.d)) →
            ((w'.setCell ⟨gb, off + 3, none⟩ (.bool false)).cell? ⟨gb, off + 3, none⟩ = some (.bool false) ∧ (w'.setCell ⟨gb, off + 3, none⟩ (.bool false)).cell? ⟨gb, off, none⟩ = some (.slice (some ⟨g, o, none⟩) m d) ∧ (w'.setCell ⟨gb, off + 3, none⟩ (.bool false)).cell? ⟨gb, off + 1, none⟩ = some (.slice (some ⟨g', o', none⟩) m d') ∧ (w'.setCell ⟨gb, off + 3, none⟩ (.bool false)).cell? ⟨g, o, none⟩ = some (.slice z.A z.n z.c) ∧ (w'.setCell ⟨gb, off + 3, none⟩ (.bool false)).cell? ⟨g', o', none⟩ = some (.slice z.B z.n z.d)) := by
          rintro w' ⟨a0, a1, a2, a3, a4⟩
          exact ⟨World.cell?_setCell_same' _ _ _ (by rw [a0]; rfl), (World.cell?_setCell_other _ _ _ _ (by simp)).trans a1, (World.cell?_setCell_other _ _ _ _ (by simp)).trans a2, (World.cell?_setCell_other _ _ _ _ (by simp [hgb, Ne.symm hgb])).trans a3, (World.cell?_setCell_other _ _ _ _ (by simp [hgb', Ne.symm hgb'])).trans a4⟩
        have KEEP := Lib.hid KEEP
        have h0i : (0 : Int) < (m : Int) := by omega
        have h0n : 0 < m := by omega
        go_upto_region 3 with fail
        go_cut [56] (fun v wx => v = .bool true ∧ wr = wx)
        case first =>
          rcases key with k1 | ⟨k1, k2⟩
          all_goals
            go_wp2_with fail
            go_meet
            case rel => exact ⟨rfl, rfl⟩
        case rest =>
          obtain ⟨rfl, rfl⟩ := hcut
          clear key e1
          go_upto_region 4 with fail
          go_cut [] (fun wx => Hid (∃ cs4, KS w gb off t cs S (Value.slice A n c).ownBlock wx (.slice (some ⟨g, o, none⟩) m d) (.slice (some ⟨g', o', none⟩) m d') held3 zs SL3 SM3 cs4 S3))
          case first =>
            go_region_held3 (fun w' => w'.cell? ⟨gb, off + 3, none⟩ = some (.bool false) ∧ w'.cell? ⟨gb, off, none⟩ = some (.slice (some ⟨g, o, none⟩) m d) ∧ w'.cell? ⟨gb, off + 1, none⟩ = some (.slice (some ⟨g', o', none⟩) m d') ∧ w'.cell? ⟨g, o, none⟩ = some (.slice z.A z.n z.c) ∧ w'.cell? ⟨g', o', none⟩ = some (.slice z.B z.n z.d))
              (first | exact ⟨c3, c0, c1, l0, l0'⟩ | exact KEEP.out _ (by assumption))
              (first | (go_at_call 11; refine (same_yes z.A z.B z.n z.c z.d z.bs wr.drew (HIN.out.own.isB.below (Below.refl _ _).drew) (HIN.out.copy.isB.below (Below.refl _ _).drew)).mono ?_; rintro e w' ⟨rfl, mm, rfl⟩))
            all_goals
              go_wp2_with fail
              go_meet
              case rel => exact Lib.hid ⟨_, (HKS.out.drewN _).bad⟩
          case rest =>
            clear KEEP c0 c1 c2 c3 f0 f1 f2 f3 l0 l0' hltc HKS HIN
            obtain ⟨cs4, hks⟩ := hcut.out
            have c0 := (hks.row.cell off).trans hks.e0
            have c1 := (hks.row.cell (off + 1)).trans hks.e1
            have c2 := (hks.row.cell (off + 2)).trans hks.e2
            have f0 := hks.row.frozen off
            have f1 := hks.row.frozen (off + 1)
            have f2 := hks.row.frozen (off + 2)
            have hltc := hks.row.lt
            obtain ⟨g2, o2, d2, g2', o2', d2', q1, q2, _, _, _, _, _, _, _, _, hcl, _⟩ := hks.kept.slots (by have := HM.out; omega)
            injection q1 with q1 qm q1'
            injection q1 with q1
            injection q1 with q1 q1''
            clear qm
            subst q1 q1' q1''
            have l0 := hcl 0 (by have := HM.out; omega)
            rw [List.getElem?_map, HZ0.out] at l0
            simp only [Nat.add_zero, Option.map_some, Itm.v] at l0
            have HKS := Lib.hid hks
            clear hks hcl q2
            go_upto_region 5 with fail
            go_cut [] (fun wx => Hid (∃ x cs5, KS w gb off t cs S (Value.slice A n c).ownBlock wx (.slice (some ⟨g, o, none⟩) m d) (.slice (some ⟨g', o', none⟩) m d') x zs SL3 SM3 cs5 S3))
            case first =>
              first | go_region_law (fail) | fail
              all_goals
                go_wp2_with fail
                go_meet
                case rel => first | exact Lib.hid ⟨_, _, (HKS.out.holds _).drew⟩ | exact Lib.hid ⟨_, _, HKS.out.drew.holds _⟩
            case rest =>
              clear c0 c1 c2 f0 f1 f2 l0 hltc HKS
              obtain ⟨x, cs5, hks⟩ := hcut.out
              clear hcut
              have c0 := (hks.row.cell off).trans hks.e0
              have c1 := (hks.row.cell (off + 1)).trans hks.e1
              have f0 := hks.row.frozen off
              have f1 := hks.row.frozen (off + 1)
              have hltc := hks.row.lt
              have HKS := Lib.hid hks
              have hd1' : ¬ (d = 1) := by omega
              have hd2' : ¬ (d' = 1) := by omega
              clear hks
              go_wp2_with fail
              go_roundg (gk - 1)
              case measure => omega
              case rel => exact Lib.hid ⟨_, _, _, _, _, _, _, _, HKS.out.tail hm1, by have := HM.out; simp; omega⟩
      · have HHM : Hid (zs.length ≤ 4000) := Lib.hid (by omega)
        obtain ⟨A9, d9, A9', d9', rfl, rfl⟩ := hks.kept.slices
        rw [← hm] at c0 c1 hks
        have HKS := Lib.hid hks
        clear hks hrel hz hm
        by_cases hm1 : 1 < m
        · have e1 : decide ((1 : Int) < (m : Int)) = true := decide_eq_true (by omega)
          have e2 : decide ((1000000 : Int) < held3) = false := decide_eq_false (fun h => hgo ⟨hm1, .inl h⟩)
          have e3 : decide ((4000 : Int) < (m : Int)) = false := decide_eq_false (fun h => hgo ⟨hm1, .inr (by omega)⟩)
          clear hgo
          go_wp2_with fail
          go_end0
          refine ⟨rfl, _, _, HKS.out.book ⟨HT1.out, HT2.out⟩ HHM.out, HKS.out.chg, HKS.out.news, HKS.out.oth⟩
        · have e1 : decide ((1 : Int) < (m : Int)) = false := decide_eq_false (by omega)
          clear hgo
          go_wp2_with fail
          go_end0
          refine ⟨rfl, _, _, HKS.out.book ⟨HT1.out, HT2.out⟩ HHM.out, HKS.out.chg, HKS.out.news, HKS.out.oth⟩
end Go.Proofs.Ytblfagmoilhdnaa

/- What the books of rows and of tables lean on. -/
set_option linter.unusedVariables false
set_option linter.unusedSimpArgs false
namespace Go.Proofs.Ytblfagmoilhdnaa
open Go.RowKit
namespace BL
def Own (w : World) (base : Nat) (A : Option Addr) (n c : Nat) (bs : List Pg.Lf) : Prop := w.ownsRow base 47 6 (.slice A n c) n (lall bs) ∧ (∀ b ∈ bs, b.In) ∧ n ≤ 9223372036854775807
def IsE (w : World) (A : Option Addr) (n : Nat) (bs : List Pg.Lf) : Prop := IsL w w.heap.size A n bs
theorem Own.len {w : World} {base n c : Nat} {A : Option Addr} {bs : List Pg.Lf} (h : Own w base A n c bs) : bs.length = n := by
  have := h.1.1
  rw [lall_len] at this
  omega
theorem Own.isB {w : World} {base n c : Nat} {A : Option Addr} {bs : List Pg.Lf} (h : Own w base A n c bs) : IsE w A n bs := ⟨Reads.of_own h.1, h.2.1, h.len, h.2.2⟩
theorem IsE.drew1 {w : World} {A : Option Addr} {n : Nat} {bs : List Pg.Lf} (h : IsE w A n bs) : IsE w.drew A n bs := IsL.below h (Below.refl _ _).drew
theorem sameE_yes (A A' : Option Addr) (n c c' : Nat) (xs : List Pg.Lf) (w : World) (ha : IsE w A n xs) (hb : IsE w A' n xs) :
    Calls Try.prog 30 #[.slice A n c, .slice A' n c'] w fun e w' => e = .returned (.bool true) ∧ ∃ m, w' = w.drewN m := sameL_yes A A' n c c' xs w ha hb
theorem infoE : (Try.prog.info? 47).map (fun i => (i.zero, i.size, i.bytes)) = some (some (.agg #[.int .u64 0, .int .u64 0, .int .i64 0, .bool false, .bool false, .bool false]), 6, 32) := by kernel_rfl
theorem oneE (bs : List Pg.Lf) : ∀ v ∈ lall bs, v.oneCell' = true := by
  intro v hv
  obtain ⟨r, _, h⟩ := List.mem_flatMap.1 hv
  exact oneCell_leaf r v h
end BL

namespace BT
def Own (w : World) (base : Nat) (A : Option Addr) (n c : Nat) (bs : List (List Nat)) : Prop := w.ownsRow base 24 512 (.slice A n c) n (tcells bs) ∧ Tabs bs ∧ n ≤ 9223372036854775807
def IsE (w : World) (A : Option Addr) (n : Nat) (bs : List (List Nat)) : Prop := n = bs.length ∧ HasT w A bs
theorem Own.len {w : World} {base n c : Nat} {A : Option Addr} {bs : List (List Nat)} (h : Own w base A n c bs) : bs.length = n := by
  have := h.1.1
  rw [h.2.1.len] at this
  omega
theorem Own.isB {w : World} {base n c : Nat} {A : Option Addr} {bs : List (List Nat)} (h : Own w base A n c bs) : IsE w A n bs := by
  have hl := h.len
  refine ⟨hl.symm, h.2.1, by have := h.2.2; omega, fun h0 => ?_⟩
  obtain ⟨g, rfl, h1, h2, h3, h4⟩ := own_some h.1 (by omega)
  refine ⟨g, rfl, h2, fun t ht j v hv => ?_⟩
  have hm : bs.getD t [] ∈ bs := by simp [List.getD_eq_getElem?_getD, ht]
  have hlen := (h.2.1 _ hm).1
  have hj : j < 512 := by have := (List.getElem?_eq_some_iff.1 hv).1; rw [List.length_map, hlen] at this; exact this
  rw [show t * 512 + j = 512 * t + j by omega, h.1.cellAt (512 * t + j) (by rw [← hl]; omega), tcells_at h.2.1 ht hj, ← hv, List.getElem?_map, List.getD_eq_getElem?_getD (l := bs.getD t []), List.getElem?_eq_getElem (by rw [hlen]; exact hj)]
  rfl
theorem IsE.drew1 {w : World} {A : Option Addr} {n : Nat} {bs : List (List Nat)} (h : IsE w A n bs) : IsE w.drew A n bs := ⟨h.1, h.2.below (Below.refl _ _).drew⟩
theorem sameE_yes (A A' : Option Addr) (n c c' : Nat) (xs : List (List Nat)) (w : World) (ha : IsE w A n xs) (hb : IsE w A' n xs) :
    Calls Try.prog 29 #[.slice A n c, .slice A' n c'] w fun e w' => e = .returned (.bool true) ∧ ∃ m, w' = w.drewN m := sameT_yes A A' n c c' xs w ha.1 ha.2 hb.2
theorem infoE : (Try.prog.info? 24).map (fun i => (i.zero, i.size, i.bytes)) = some (some (.agg (zeros 512).toArray), 512, 4096) := infoTabA
theorem oneE (bs : List (List Nat)) : ∀ v ∈ tcells bs, v.oneCell' = true := by
  intro v hv
  obtain ⟨t, _, h⟩ := List.mem_flatMap.1 hv
  obtain ⟨x, _, rfl⟩ := List.mem_map.1 h
  rfl
end BT
end Go.Proofs.Ytblfagmoilhdnaa
