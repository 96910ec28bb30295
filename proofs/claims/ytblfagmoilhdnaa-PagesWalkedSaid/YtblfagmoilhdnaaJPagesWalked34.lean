/- Texts of this claim, one behind the other: PwG. -/
import Derived.Test.YtblfagmoilhdnaaJPagesWalked33
import Derived.Test.YtblfagmoilhdnaaJPagesWalked32
import Derived.Test.YtblfagmoilhdnaaJPagesWalked23
import Derived.Test.YtblfagmoilhdnaaJPagesWalked27
import Derived.Deep.Cut
import Derived.Deep.DeepCutAuto
/- The walk of PagesWalked. -/
set_option linter.unusedVariables false
set_option linter.unusedSimpArgs false
namespace Go.Proofs.Ytblfagmoilhdnaa
open Go.RowKit
open S64
open Bu
theorem Pg.ansB_le (rows : List Pg.Lf) (base : Nat) : (Pg.ansB rows base).1.length ≤ 1024 := by
  unfold Pg.ansB
  simp only
  split
  · simp
  · split
    · simp
    · split
      · simp
      · rename_i h _ _
        exact (Pg.ans_len rows _ (by simpa using h)).2
theorem one_four : ((Pg.ansB [oneRow] 4096).2, (Pg.ansB [oneRow] 4096).1.length) = (0, 3) := by kernel_rfl
set_option maxRecDepth 100000 in
set_option maxHeartbeats 4000000 in
theorem pageswalked_walk (A : Option Addr) (n c base : Nat) (A2 : Option Addr) (n2 c2 : Nat) (rows : List Pg.Lf) (asks : List Nat) (w : World) (hr : IsL w w.heap.size A n rows) (hbl : base < 18446744073709551616) (hu : IsU w w.heap.size A2 n2 asks) :
    Calls Try.prog 7 #[.slice A n c, .int .u64 (base : Nat), .slice A2 n2 c2] w fun e w' => e = .returned (.bool true) ∧ Below w.heap.size w w' := by
  have HR := Lib.hid hr
  have HU := Lib.hid hu
  have hn63 := hr.2.2.2
  have hn263 := hu.2.2
  have HL := Lib.hid hr.2.2.1
  have HL2 := Lib.hid hu.len
  obtain ⟨b, off, HF⟩ := hr.form
  obtain ⟨b2, off2, HF2⟩ := hu.form
  clear hr hu
  have hin : oneRow.In := by unfold Pg.Lf.In oneRow; decide
  have hb1 : Below w.heap.size w (w.alloc (.cells (lcells oneRow).toArray 47)) := (Below.refl _ _).alloc (Nat.le_refl _) _
  have hi1 := isL_one w oneRow hin
  have hw1 : (w.alloc (.cells #[.int .u64 12288, .int .u64 32768, .int .i64 1, .bool false, .bool true, .bool false] 47)) = w.alloc (.cells (lcells oneRow).toArray 47) := rfl
  go_enter Try.func7, Try.ntmps7
  go_wp2_with fail
  clear hw1
  generalize w.alloc (.cells (lcells oneRow).toArray 47) = w1 at *
  have HB1 := Lib.hid hb1; have HI1 := Lib.hid hi1
  clear hi1 hb1
  refine (Build_any (some ⟨w.heap.size, 0, none⟩) 1 1 4096 [oneRow] w1 HI1.out (by decide)).mono ?_
  rintro e w2 ⟨A1, c1, rfl, hit⟩
  obtain ⟨a1, ha1⟩ : ∃ a, a = Pg.ansB [oneRow] 4096 := ⟨_, rfl⟩
  have q1 := one_four
  rw [← ha1] at hit q1 ⊢
  have HA1 := Lib.hid ha1
  clear ha1
  obtain ⟨l1, f1⟩ := a1
  simp only [Prod.mk.injEq] at q1
  obtain ⟨rfl, hl1⟩ := q1
  have HT1 := Lib.hid (hit.has (by simp only; omega))
  have hsz12 : w.heap.size < w1.heap.size := by
    obtain ⟨ad, e, h, _⟩ := HI1.out.1.2 (by omega)
    injection e with e
    rw [← e] at h
    exact h
  have HB2 := Lib.hid (HB1.out.trans (hit.2.2.mono HB1.out.size))
  have HI2 := Lib.hid (HI1.out.below hit.2.2)
  have HS2 := Lib.hid hit.2.2.size
  unfold tansV
  simp only [hl1]
  clear hit HB1
  have HOK := Lib.hid (Pg.ansB_ok (rows := [oneRow]) (base := 4096) (by rw [← HA1.out]))
  have HLA : Hid (l1 = (Pg.ans [oneRow] 4096).1) := Lib.hid (by rw [← HOK.out.2.1, ← HA1.out])
  have HLL := Lib.hid hl1
  clear hl1
  go_wp2_with fail
  refine (laid_any A1 3 c1 4096 l1 w2 HT1.out HLL.out.symm (by decide) (by omega) (by omega) (by omega)).mono ?_
  rintro e w3 ⟨g, rfl, hl3, hb3⟩
  obtain ⟨Z, R, M, hm, hL, hz⟩ := hl3
  have HLZ3 : Hid (LaidZ Z R g 4096 l1 w3) := Lib.hid ⟨M, hm, hL⟩
  have HZ := Lib.hid hz
  have HB3 := Lib.hid (HB2.out.trans (hb3.mono HB2.out.size))
  have HI3 := Lib.hid (HI2.out.below (hb3.mono HS2.out))
  have HS3 := Lib.hid hb3.size
  clear hb3 hm hL hz HT1 HB2 HI2
  have HSY : Hid (∀ (virt : Nat) (wx : World), virt < 18446744073709551616 → LaidZ Z R g 4096 l1 wx → IsL wx w1.heap.size (some ⟨w.heap.size, 0, none⟩) 1 [oneRow] → w2.heap.size ≤ wx.heap.size → Calls Try.prog 33 #[.pointer (some ⟨g, 0, none⟩), .int .u64 4096, .slice (some ⟨w.heap.size, 0, none⟩) 1 1, .int .u64 (virt : Nat)] wx fun e w' => e = .returned (.bool true) ∧ LaidZ Z R g 4096 l1 w' ∧ Below w2.heap.size wx w') := Lib.hid (fun virt wx hv hlz hi hs => by
    have h := says_any Z R w2.heap.size g 4096 virt 1 1 (some ⟨w.heap.size, 0, none⟩) [oneRow] wx HOK.out.1 (by rw [← HLA.out]; exact hlz) HZ.out hs (hi.more (Nat.le_trans HS2.out hs)) hv (by decide)
    rw [← HLA.out] at h
    exact h)
  have HY0 : Hid (Calls Try.prog 33 #[.pointer (some ⟨g, 0, none⟩), .int .u64 4096, .slice (some ⟨w.heap.size, 0, none⟩) 1 1, .int .u64 12304] w3 fun e w' => e = .returned (.bool true) ∧ LaidZ Z R g 4096 l1 w' ∧ Below w2.heap.size w3 w') := Lib.hid (HSY.out 12304 w3 (by decide) HLZ3.out HI3.out HS3.out)
  clear HLZ3
  go_wp2_with fail
  refine HY0.out.mono ?_
  rintro e w4 ⟨rfl, hl4, hb4⟩
  have HB4 := Lib.hid (HB3.out.trans (hb4.mono (Nat.le_trans (Nat.le_of_lt hsz12) HS2.out)))
  have HY1 : Hid (Calls Try.prog 33 #[.pointer (some ⟨g, 0, none⟩), .int .u64 4096, .slice (some ⟨w.heap.size, 0, none⟩) 1 1, .int .u64 16384] w4 fun e w' => e = .returned (.bool true) ∧ LaidZ Z R g 4096 l1 w' ∧ Below w2.heap.size w4 w') := Lib.hid (HSY.out 16384 w4 (by decide) hl4 (HI3.out.below (hb4.mono HS2.out)) (Nat.le_trans HS3.out hb4.size))
  clear hl4 hb4 HY0 HB3 HSY HI3
  go_wp2_with fail
  refine HY1.out.mono ?_
  rintro e w5 ⟨rfl, hl5, hb5⟩
  have HB5 := Lib.hid (HB4.out.trans (hb5.mono (Nat.le_trans (Nat.le_of_lt hsz12) HS2.out)))
  clear hl5 hb5 HY1 HB4 HZ HLA HOK HLL HA1 HS2 HS3 HI1 hsz12 hin
  go_upto_region 6 with fail
  have HRW := Lib.hid ((HR.out.below HB5.out).more HB5.out.size)
  go_cut [50] (fun x wx => ∃ b : Bool, x = .bool b ∧ Hid (Below w5.heap.size w5 wx))
  case first =>
    go_wp2_with fail
    refine (refuses_any A n c rows w5 HRW.out).mono ?_
    rintro e w6 ⟨rfl, hb6⟩
    have HB6 := Lib.hid hb6
    clear hb6
    obtain ⟨RR, hRR⟩ : ∃ RR, RR = Pg.right 0 rows := ⟨_, rfl⟩
    rw [← hRR]
    by_cases h0 : RR = 0
    · have g1 : ((RR : Int) == 0) = true := by simp; omega
      have HR0 : Hid (Pg.right 0 rows = 0) := Lib.hid (by rw [← hRR]; exact h0)
      clear h0 hRR
      go_wp2_with fail
      refine (few_some A n c rows w6 ((HRW.out.below HB6.out).more HB6.out.size) HR0.out).mono ?_
      rintro e w7 ⟨⟨b, rfl⟩, rfl⟩
      cases b
      · go_wp2_with fail
        go_meet
        case rel => exact ⟨true, rfl, HB6⟩
      · go_wp2_with fail
        go_meet
        case rel => exact ⟨false, rfl, HB6⟩
    · have g1 : ((RR : Int) == 0) = false := by simp; omega
      clear h0 hRR
      go_wp2_with fail
      go_meet
      case rel => exact ⟨false, rfl, HB6⟩
  case rest =>
    obtain ⟨bb, rfl, HC⟩ := hcut
    have HB6 := Lib.hid (HB5.out.trans (HC.out.mono HB5.out.size))
    clear HC HRW HB5
    cases bb with
    | true =>
      go_wp2_with fail
      go_ret
      exact ⟨rfl, HB6.out⟩
    | false =>
      go_wp2_with fail
      refine (Build_any A n c base rows wc ((HR.out.below HB6.out).more HB6.out.size) hbl).mono ?_
      rintro e w7 ⟨A7, c7, rfl, hi7⟩
      obtain ⟨a, ha⟩ : ∃ a, a = Pg.ansB rows base := ⟨_, rfl⟩
      have hlen := Pg.ansB_le rows base
      rw [← ha] at hi7 hlen ⊢
      have HA := Lib.hid ha
      clear ha
      obtain ⟨l, f⟩ := a
      simp only at hlen
      have HT7 := Lib.hid (hi7.has (by simp only; omega))
      have HB7 := Lib.hid (HB6.out.trans (hi7.2.2.mono HB6.out.size))
      clear hi7 HB6
      unfold tansV
      go_wp2_with fail
      refine (rbuild_any A n c base rows w7 ((HR.out.below HB7.out).more HB7.out.size) hbl).mono ?_
      rintro e w8 ⟨A8, c8, rfl, hi8⟩
      rw [← HA.out] at hi8 ⊢
      have HT8 := Lib.hid (HT7.out.below hi8.2.2)
      have HB8 := Lib.hid (HB7.out.trans (hi8.2.2.mono HB7.out.size))
      clear hi8 HT7 HB7
      unfold tansV
      have HLN := Lib.hid hlen
      clear hlen
      by_cases hf : f = 0
      · subst hf
        have HOK := Lib.hid (Pg.ansB_ok (rows := rows) (base := base) (by rw [← HA.out]))
        have HLA : Hid (l = (Pg.ans rows base).1) := Lib.hid (by rw [← HOK.out.2.1, ← HA.out])
        have HL1 : Hid (1 ≤ l.length ∧ l.length ≤ 1024) := Lib.hid (by rw [HLA.out]; exact Pg.ans_len rows base HOK.out.1)
        have HRG : Hid (∀ r ∈ rows, r.Ok) := Lib.hid (Pg.right_ok rows 0 (Pg.ans_known HOK.out.1).1)
        go_wp2_with fail
        refine (laid_any A7 l.length c7 base l w8 HT8.out rfl HOK.out.2.2.1 HL1.out.1 HL1.out.2 (by have := HOK.out.2.2.2; rw [← HLA.out] at this; exact this)).mono ?_
        rintro e w9 ⟨g2, rfl, hl9, hb9⟩
        obtain ⟨Z2, R2, M2, hm2, hL2, hz2⟩ := hl9
        have HE9 : Hid (LaidZ Z2 R2 g2 base l w9 ∧ Below w.heap.size w w9 ∧ w8.heap.size ≤ w9.heap.size) := Lib.hid ⟨⟨M2, hm2, hL2⟩, HB8.out.trans (hb9.mono HB8.out.size), hb9.size⟩
        have HZ2 := Lib.hid hz2
        have HS8 := Lib.hid HB8.out.size
        have HSY : Hid (∀ (virt : Nat) (wx : World), virt < 18446744073709551616 → LaidZ Z2 R2 g2 base l wx ∧ Below w.heap.size w wx ∧ w8.heap.size ≤ wx.heap.size → Calls Try.prog 33 #[.pointer (some ⟨g2, 0, none⟩), .int .u64 (base : Nat), .slice A n c, .int .u64 (virt : Nat)] wx fun e w' => e = .returned (.bool true) ∧ (LaidZ Z2 R2 g2 base l w' ∧ Below w.heap.size w w' ∧ w8.heap.size ≤ w'.heap.size)) := Lib.hid (fun virt wx hv hx => by
          have h := says_any Z2 R2 w8.heap.size g2 base virt n c A rows wx HOK.out.1 (by rw [← HLA.out]; exact hx.1) HZ2.out hx.2.2 ((HR.out.below hx.2.1).more hx.2.1.size) hv hbl
          rw [← HLA.out] at h
          refine h.mono ?_
          rintro e w' ⟨he, h1, h2⟩
          exact ⟨he, h1, hx.2.1.trans (h2.mono HS8.out), Nat.le_trans hx.2.2 h2.size⟩)
        clear hm2 hL2 hz2 hb9 HT8 HB8 HOK HLA HL1 HZ2 HA HLN
        go_wp2_with fail
        go_loopw [13] (fun x wr => ∃ i : Nat, i ≤ n ∧ x = .int .i64 (i : Nat) ∧ Hid (LaidZ Z2 R2 g2 base l wr ∧ Below w.heap.size w wr ∧ w8.heap.size ≤ wr.heap.size)) (fun x _ => n - (intOf x).toNat)
        case atStart => exact ⟨0, by omega, rfl, HE9⟩
        case round =>
        clear HE9
        obtain ⟨i, hi, rfl, HE⟩ := hrel
        by_cases hin : i < n
        · obtain ⟨rfl, hbB, hcf⟩ := HF.out (by omega)
          obtain ⟨r, hrk⟩ : ∃ r, rows[i]? = some r := ⟨_, List.getElem?_eq_getElem (by have := HL.out; omega)⟩
          have hro := HRG.out r (List.mem_of_getElem? hrk)
          have C0 := Lib.hid (hcf i r hrk 0 _ rfl)
          have C2 := Lib.hid (hcf i r hrk 2 _ rfl)
          have e1 := hro.n1; have e2 := hro.vl
          obtain ⟨m, hm⟩ : ∃ m : Nat, r.n = (m : Int) := ⟨r.n.toNat, by omega⟩
          rw [hm] at C2 e1 e2
          simp only [Int.toNat_natCast] at e2
          obtain ⟨v, hv0⟩ : ∃ v, v = r.v := ⟨_, rfl⟩
          rw [← hv0] at C0 e2
          obtain ⟨s, hs⟩ : ∃ s, s = m * 4096 := ⟨_, rfl⟩
          obtain ⟨en, hen⟩ : ∃ en, en = v + s := ⟨_, rfl⟩
          obtain ⟨ed, hed⟩ : ∃ ed, ed = en - 1 := ⟨_, rfl⟩
          obtain ⟨vm, hvm⟩ : ∃ vm, vm = (v + 18446744073709551615) % 18446744073709551616 := ⟨_, rfl⟩
          have ew1 : IntKind.u64.wrap (m : Int) = (m : Int) := by rw [IntKind.wrap_u64]; omega
          have ew2 : IntKind.u64.wrap ((m : Int) * 4096) = (s : Int) := by rw [IntKind.wrap_u64]; omega
          have ew3 : IntKind.u64.wrap ((v : Int) + (s : Int)) = (en : Int) := by rw [IntKind.wrap_u64]; omega
          have ew4 : IntKind.u64.wrap ((v : Int) - 1) = (vm : Int) := by rw [IntKind.wrap_u64]; omega
          have ew5 : IntKind.u64.wrap ((en : Int) - 1) = (ed : Int) := by rw [IntKind.wrap_u64]; omega
          have hvL : v < 18446744073709551616 := by omega
          have hvmL : vm < 18446744073709551616 := by omega
          have hedL : ed < 18446744073709551616 := by omega
          have henL : en < 18446744073709551616 := by omega
          clear hcf hrk hro hm hv0 e1 e2 hs hen hvm hed
          have hbl1 : b < wr.heap.size := Nat.lt_of_lt_of_le hbB HE.out.2.1.size
          have c0 := (HE.out.2.1.cell (p := ⟨b, off + i * 6, none⟩) hbB).trans C0.out
          have c2 := (HE.out.2.1.cell (p := ⟨b, off + i * 6 + 2, none⟩) hbB).trans C2.out
          go_upto_region 20 with fail
          go_quiet (fail)
          go_wp2_with fail
          have HE1 : Hid (LaidZ Z2 R2 g2 base l (wr.drewN nq) ∧ Below w.heap.size w (wr.drewN nq) ∧ w8.heap.size ≤ (wr.drewN nq).heap.size) := Lib.hid ⟨HE.out.1.below (below_drewN (Below.refl _ _) nq), below_drewN HE.out.2.1 nq, HE.out.2.2⟩
          clear HE c0 c2 hbl1
          generalize wr.drewN nq = wa at *
          refine (HSY.out vm wa hvmL HE1.out).mono ?_
          rintro e wb ⟨rfl, hE2⟩
          have HE2 := Lib.hid hE2
          have c0 := (HE2.out.2.1.cell (p := ⟨b, off + i * 6, none⟩) hbB).trans C0.out
          have hbl2 : b < wb.heap.size := Nat.lt_of_lt_of_le hbB HE2.out.2.1.size
          clear HE1 hE2
          go_wp2_with fail
          refine (HSY.out v wb hvL HE2.out).mono ?_
          rintro e wd ⟨rfl, hE3⟩
          have HE3 := Lib.hid hE3
          clear HE2 hE3 c0 hbl2
          go_wp2_with fail
          refine (HSY.out ed wd hedL HE3.out).mono ?_
          rintro e we ⟨rfl, hE4⟩
          have HE4 := Lib.hid hE4
          clear HE3 hE4
          go_wp2_with fail
          refine (HSY.out en we henL HE4.out).mono ?_
          rintro e wf ⟨rfl, hE5⟩
          have HE5 := Lib.hid hE5
          clear HE4 hE5
          go_wp2_with fail
          go_roundw
          case rel => exact ⟨i + 1, by omega, by go_num, HE5⟩
          case measure => simp [intOf]; omega
        · have ei : i = n := by omega
          subst ei
          go_wp2_with fail
          go_loopw [15] (fun x wr => ∃ i : Nat, i ≤ n2 ∧ x = .int .i64 (i : Nat) ∧ Hid (LaidZ Z2 R2 g2 base l wr ∧ Below w.heap.size w wr ∧ w8.heap.size ≤ wr.heap.size)) (fun x _ => n2 - (intOf x).toNat)
          case atStart => exact ⟨0, by omega, rfl, HE⟩
          case round =>
          clear HE
          obtain ⟨k, hk, rfl, HK⟩ := hrel
          by_cases hkn : k < n2
          · obtain ⟨rfl, hbB, hcf⟩ := HF2.out (by omega)
            obtain ⟨u, huk⟩ : ∃ u, asks[k]? = some u := ⟨_, List.getElem?_eq_getElem (by have := HL2.out; omega)⟩
            obtain ⟨huL, hcu⟩ := hcf k u huk
            have hbl2 : b2 < wr.heap.size := Nat.lt_of_lt_of_le hbB HK.out.2.1.size
            have c0 := (HK.out.2.1.cell (p := ⟨b2, off2 + k, none⟩) hbB).trans hcu
            clear hcf huk hcu
            go_wp2_with fail
            refine (HSY.out u wr huL HK.out).mono ?_
            rintro e wf ⟨rfl, hE5⟩
            have HE5 := Lib.hid hE5
            clear HK hE5 c0 hbl2
            go_wp2_with fail
            go_roundw
            case rel => exact ⟨k + 1, by omega, by go_num, HE5⟩
            case measure => simp [intOf]; omega
          · have ek : k = n2 := by omega
            subst ek
            go_wp2_with fail
            go_ret
            exact ⟨rfl, HK.out.2.1⟩
      · have f1 : ((f : Int) != 0) = true := by simp; omega
        clear hf
        go_wp2_with fail
        go_ret
        exact ⟨rfl, HB8.out⟩
end Go.Proofs.Ytblfagmoilhdnaa
