/- The walk of PagesAlike. -/
import Derived.Test.YtblfagmoilhdnaaPgX
import Derived.Test.YtblfagmoilhdnaaKeep
import Derived.Deep.Cut
import Derived.Deep.DeepCutAuto
set_option linter.unusedVariables false
set_option linter.unusedSimpArgs false
namespace Go.Proofs.Ytblfagmoilhdnaa
open Go.RowKit

theorem Pg.ansB_small (rows : List Pg.Lf) (base : Nat) : (Pg.ansB rows base).2 < 121 := by
  unfold Pg.ansB
  simp only
  split
  · exact Pg.ans_small _ _
  · split
    · simp
    · split
      · simp
      · exact Pg.ans_small _ _
theorem Pg.each_take {rows : List Pg.Lf} {k : Nat} {r : Pg.Lf} (h : rows[k]? = some r) : Pg.each (rows.take (k + 1)) = Pg.each (rows.take k) ++ r.singles := by
  obtain ⟨hlt, he⟩ := List.getElem?_eq_some_iff.1 h
  rw [List.take_succ_eq_append_getElem hlt, he]
  unfold Pg.each
  rw [List.flatMap_append]
  simp
theorem Pg.singles_take {r : Pg.Lf} {t : Nat} (h : t < r.cnt) : r.singles.take (t + 1) = r.singles.take t ++ [r.single t] := by
  have hl : t < r.singles.length := by simp [Pg.Lf.singles, h]
  rw [List.take_succ_eq_append_getElem hl]
  simp [Pg.Lf.singles]
set_option maxRecDepth 100000 in
set_option maxHeartbeats 2000000 in
theorem pagesalike_walk (A : Option Addr) (n c base : Nat) (rows : List Pg.Lf) (w : World) (hr : IsL w w.heap.size A n rows) (hcap : n ≤ c) (hbl : base < 18446744073709551616) :
    Calls Try.prog 6 #[.slice A n c, .int .u64 (base : Nat)] w fun e w' => e = .returned (.bool true) ∧ Below w.heap.size w w' := by
  obtain ⟨i0, hi0, hz1, hz2, hz3⟩ := info_parts infoLeaf
  have HI := Lib.hid hi0; have HZ1 := Lib.hid hz1; have HZ2 := Lib.hid hz2; have HZ3 := Lib.hid hz3
  clear hi0 hz1 hz2 hz3
  obtain ⟨B1, hB1⟩ : ∃ B1, B1 = base / 4096 * 4096 := ⟨_, rfl⟩
  obtain ⟨B2, hB2⟩ : ∃ B2, B2 = B1 % 2147483648 := ⟨_, rfl⟩
  have h1 : bits .andNot .u64 (base : Int) 4095 = (B1 : Int) := by rw [hB1, ← Pg.and_page base hbl]; exact u64_andNot_nat base 4095 hbl (by decide)
  have h2 : (B1 : Int).tmod 2147483648 = (B2 : Int) := by rw [Int.tmod_eq_emod_of_nonneg (by omega)]; omega
  have h3 : (B1 : Int) % 2147483648 = (B2 : Int) := by omega
  have hfar := Pg.ansB_far B2 (by omega) (by omega)
  have HF : Hid (∀ w1 : World, Calls Try.prog 18 #[.slice (some ⟨w1.heap.size, 0, none⟩) 1 1, .int .u64 (B2 : Nat)] (w1.alloc (.cells #[.int .u64 1073741824, .int .u64 0, .int .i64 1, .bool false, .bool false, .bool false] 47)) fun e w' => ∃ A' c', e = .returned (.tuple #[.slice A' 3 c', .int .i64 0]) ∧ Below (w1.heap.size + 1) (w1.alloc (.cells #[.int .u64 1073741824, .int .u64 0, .int .i64 1, .bool false, .bool false, .bool false] 47)) w') := Lib.hid fun w1 => by
    have h := Build_any (some ⟨w1.heap.size, 0, none⟩) 1 1 B2 [Pg.farRow] _ (isL_one w1 Pg.farRow (by unfold Pg.Lf.In Pg.farRow; decide)) (by omega)
    unfold tansV at h
    rw [hfar.1, hfar.2] at h
    refine h.mono fun e w' ⟨A', c', he, hi⟩ => ⟨A', c', he, ?_⟩
    have h2 := hi.2.2
    rw [show (w1.alloc (.cells (lcells Pg.farRow).toArray 47)).heap.size = w1.heap.size + 1 by simp] at h2
    exact h2
  have HR := Lib.hid hr
  have hn63 := hr.2.2.2
  obtain ⟨a, ha⟩ : ∃ a, a = Pg.ansB rows base := ⟨_, rfl⟩
  obtain ⟨l, f⟩ := a
  have HA := Lib.hid ha
  have hsm : f < 121 := by
    have h := Pg.ansB_small rows base
    rw [← ha] at h
    exact h
  clear hB1 hB2 hfar hr ha
  go_enter Try.func6, Try.ntmps6
  go_wp2_with fail
  refine (HF.out w).mono ?_
  rintro e w2 ⟨A1, c1, rfl, hb2⟩
  have HB2 : Hid (Below w.heap.size w w2) := Lib.hid (((Below.refl _ _).alloc (Nat.le_refl _) _).trans (hb2.mono (by omega)))
  clear hb2 HF h1 h2 h3
  go_wp2_with fail
  refine (Build_any A n c base rows w2 ((HR.out.below HB2.out).more HB2.out.size) hbl).mono ?_
  rintro e w3 ⟨Al, cl, rfl, hi3⟩
  rw [← HA.out] at hi3 ⊢
  unfold tansV
  have HI3 := Lib.hid hi3
  have HB3 : Hid (Below w.heap.size w w3) := Lib.hid (HB2.out.trans (hi3.2.2.mono HB2.out.size))
  clear hi3 HB2
  by_cases hf : f = 0
  · have hf1 : ((f : Int) != 0) = false := by rw [bne_eq_false_iff_eq]; omega
    have hA2 : (Pg.ansB rows base).2 = 0 := by rw [← HA.out]; exact hf
    obtain ⟨k1, k2, k3, k4⟩ := Pg.ansB_ok hA2
    obtain ⟨hrt, hch, s, hs, hkn, hls⟩ := Pg.ans_known k1
    have hl : l = s.all := by
      have h := HA.out
      rw [k2] at h
      rw [← hls, ← h]
    have hll := Pg.ans_len rows base k1
    rw [hls, ← hl] at k4 hll
    have hrep := hkn.rep
    rw [← hl] at hrep
    have HRT := Lib.hid hrt; have HCH := Lib.hid hch; have HREP := Lib.hid hrep
    have hll1 := hll.1; have hll2 := hll.2
    have HK3 := Lib.hid k3
    have hRR := Pg.runs_right hrt
    have hRid := Pg.runs_runs hrt
    have hRb : Pg.ansB (Pg.runs rows) base = (l, f) := by rw [Pg.ansB_same hRR.1 hrt hRR.2, HA.out]
    have hRc : (Pg.ans (Pg.runs rows) 0).2 = 0 ∧ (Pg.ans (Pg.runs rows) 0).1.length = l.length := by
      rw [Pg.ans_same hRR.1 hrt hRR.2]
      have := Pg.ans_base 0 k1
      rw [hls, ← hl] at this
      exact this
    have hEr := Pg.each_right rows 0 hrt
    have hEb : Pg.ansB (Pg.each rows) base = (l, f) := by rw [Pg.ansB_same hEr hrt (Pg.each_pages rows), HA.out]
    have hEu := Pg.runs_each hrt
    obtain ⟨R, hR⟩ : ∃ R, R = Pg.runs rows := ⟨_, rfl⟩
    obtain ⟨E, hE⟩ : ∃ E, E = Pg.each rows := ⟨_, rfl⟩
    rw [← hR] at hRR hRid hRb hRc hEu
    rw [← hE] at hEr hEb hEu
    have HRE := Lib.hid hR; have HEE := Lib.hid hE; have HRR := Lib.hid hRR.1; have HRID := Lib.hid hRid; have HRB := Lib.hid hRb; have HRC := Lib.hid hRc; have HER := Lib.hid hEr; have HEB := Lib.hid hEb; have HEU := Lib.hid hEu
    have HRIN : Hid (∀ r ∈ R, r.In) := Lib.hid fun r h => Pg.In_of (Pg.right_all HRR.out r h)
    have HRLEN : Hid (R.length ≤ 134217728) := Lib.hid (by have := Pg.right_len HRR.out (by omega); omega)
    have hgd : HasT w3 Al l := HI3.out.has (show l.length ≤ _ by omega)
    have HGD := Lib.hid hgd
    have HFF := Lib.hid hf
    clear hf hA2 k1 k2 k3 hrt hch hs hkn hls hl hll hrep hRR hRid hRb hRc hEr hEb hEu hR hE hgd
    go_wp2_with fail
    refine (few_some A n c rows w3 ((HR.out.below HB3.out).more HB3.out.size) HRT.out).mono ?_
    rintro e w3' ⟨⟨b, rfl⟩, rfl⟩
    cases b with
    | false =>
      go_wp2_with fail
      go_ret
      exact ⟨rfl, HB3.out⟩
    | true =>
      go_wp2_with fail
      refine (Runs_any A n c rows w3' ((HR.out.below HB3.out).more HB3.out.size)).mono ?_
      rintro e w4 ⟨Ar, cr, rfl, hor, hb4⟩
      rw [← HRE.out] at hor ⊢
      have HOR := Lib.hid (hor.isL HRIN.out (by have := HRLEN.out; omega))
      have HB4 := Lib.hid (HB3.out.trans (hb4.mono HB3.out.size))
      have HL4 := Lib.hid (HGD.out.below hb4)
      obtain ⟨nr, hnr⟩ : ∃ nr, nr = R.length := ⟨_, rfl⟩
      rw [← hnr] at HOR HRLEN ⊢
      have HNR := Lib.hid hnr
      have hnr1 := HRLEN.out
      clear hor hb4 hnr HGD HI3 HB3
      go_wp2_with fail
      refine (Build_any Ar nr cr base R w4 HOR.out hbl).mono ?_
      rintro e w5 ⟨Ak, ck, rfl, hi5⟩
      rw [HRB.out] at hi5 ⊢
      unfold tansV
      have HI5 := Lib.hid (hi5.has (by show l.length ≤ _; omega))
      have HB5 := Lib.hid (HB4.out.trans (hi5.2.2.mono HB4.out.size))
      have HL5 := Lib.hid (HL4.out.below hi5.2.2)
      have HO5 := Lib.hid ((HOR.out.below hi5.2.2).more hi5.2.2.size)
      clear hi5 HB4 HL4 HOR
      go_wp2_with fail
      refine (count_any Ar nr cr R w5 HO5.out).mono ?_
      rintro e w6 ⟨rfl, hb6⟩
      rw [HRC.out.1, HRC.out.2]
      have HI6 := Lib.hid (HI5.out.below hb6)
      have HB6 := Lib.hid (HB5.out.trans (hb6.mono HB5.out.size))
      have HL6 := Lib.hid (HL5.out.below hb6)
      have HO6 := Lib.hid ((HO5.out.below hb6).more hb6.size)
      clear hb6 HI5 HB5 HL5 HO5
      go_wp2_with fail
      refine (sameT_yes Ak Al l.length ck cl l w6 rfl HI6.out HL6.out).mono ?_
      rintro e w7 ⟨rfl, m7, rfl⟩
      have hd7 := below_drewN (Below.refl w6.heap.size w6) m7
      have HB7 := Lib.hid (HB6.out.trans (hd7.mono HB6.out.size))
      have HL7 := Lib.hid (HL6.out.below hd7)
      have HO7 := Lib.hid ((HO6.out.below hd7).more hd7.size)
      clear hd7 HI6 HB6 HL6 HO6
      obtain ⟨w7, hw7⟩ : ∃ w7, w7 = w6.drewN m7 := ⟨_, rfl⟩
      rw [← hw7] at HB7 HL7 HO7 ⊢
      clear hw7
      go_wp2_with fail
      refine (Runs_any Ar nr cr R w7 HO7.out).mono ?_
      rintro e w8 ⟨As, cs, rfl, hos, hb8⟩
      rw [HRID.out] at hos ⊢
      rw [← HNR.out]
      have HOS : Hid (IsL w8 w8.heap.size As nr R) := Lib.hid (by
        have h := hos.isL HRIN.out (by rw [← HNR.out]; omega)
        rw [← HNR.out] at h
        exact h)
      have HB8 := Lib.hid (HB7.out.trans (hb8.mono HB7.out.size))
      have HL8 := Lib.hid (HL7.out.below hb8)
      have HO8 := Lib.hid ((HO7.out.below hb8).more hb8.size)
      clear hos hb8 HB7 HL7 HO7
      go_wp2_with fail
      refine (sameL_yes As Ar nr cs cr R w8 HOS.out HO8.out).mono ?_
      rintro e w9 ⟨rfl, m9, rfl⟩
      have hd9 := below_drewN (Below.refl w8.heap.size w8) m9
      have HB9 := Lib.hid (HB8.out.trans (hd9.mono HB8.out.size))
      have HL9 := Lib.hid (HL8.out.below hd9)
      have HO9 := Lib.hid ((HO8.out.below hd9).more hd9.size)
      clear hd9 HB8 HL8 HO8 HOS
      obtain ⟨w9, hw9⟩ : ∃ w9, w9 = w8.drewN m9 := ⟨_, rfl⟩
      rw [← hw9] at HB9 HL9 HO9 ⊢
      clear hw9
      obtain ⟨B, hB⟩ : ∃ B, B = w9.heap.size := ⟨_, rfl⟩
      have HBB := Lib.hid hB
      have HB0 : Hid (Below B w9 w9) := Lib.hid (Below.refl _ _)
      obtain ⟨b, off, HFM⟩ := HR.out.form
      have HLN := Lib.hid HR.out.2.2.1
      clear hB
      go_wp2_with fail
      go_loopw [13, 14] (fun o i wr => ∃ (k cE m : Nat) (AE : Option Addr) (X : List Pg.Lf), k ≤ n ∧ m ≤ 3000 ∧ i = .int .i64 k ∧ o = .slice AE m cE ∧ Hid (wr.ownsRow B 47 6 (.slice AE m cE) m (lall X) ∧ X.length = m) ∧ Hid (m < 3000 → X = Pg.each (rows.take k)) ∧ Hid (Below B w9 wr)) (fun _ i _ => n - (intOf i).toNat)
      case atStart => exact ⟨0, 0, 0, none, [], by omega, by omega, rfl, rfl, Lib.hid ⟨own_nil _ _ _ _, rfl⟩, Lib.hid (fun _ => rfl), HB0⟩
      case round =>
        clear HB0
        obtain ⟨k, cE, m, AE, X, hk, hm, rfl, rfl, HX, HXE, HB⟩ := hrel
        by_cases hkn : k < n
        · obtain ⟨hA, hbB, hc⟩ := HFM.out (by omega)
          subst hA
          obtain ⟨r, hrk⟩ : ∃ r, rows[k]? = some r := ⟨_, List.getElem?_eq_getElem (by have := HLN.out; omega)⟩
          have hok := Pg.right_all HRT.out r (List.mem_of_getElem? hrk)
          have HBW0 : Hid (Below w.heap.size w wr) := Lib.hid (HB9.out.trans (HB.out.mono (by have := HB9.out.size; have := HBB.out; omega)))
          have HCELL : Hid (∀ w' : World, Below w.heap.size w w' → ∀ j u, (lcells r)[j]? = some u → w'.cell? ⟨b, off + k * 6 + j, none⟩ = some u) := Lib.hid fun w' h j u hu => (h.cell (p := ⟨b, off + k * 6 + j, none⟩) hbB).trans (hc k r hrk j u hu)
          have HTK := Lib.hid (Pg.each_take hrk)
          have hcu := hok.cnt_u
          have h1 := hok.n1
          have h5 := hok.vl
          have h6 := hok.pl
          have hst : r.u = (if r.b then 512 else 1) * 4096 := by unfold Pg.Lf.u; cases r.b <;> rfl
          have hsg : ∀ t, r.single t = ⟨r.v + t * (if r.b then 512 else 1) * 4096, r.p + t * (if r.b then 512 else 1) * 4096, ((if r.b then 512 else 1 : Nat) : Int), r.b, r.w, r.x⟩ := fun t => by
            unfold Pg.Lf.single
            rw [hst, Nat.mul_div_cancel _ (by decide), Nat.mul_assoc]
          have HRK := Lib.hid hrk
          obtain ⟨v, p, xn, bg, wt, ex⟩ := r
          simp only at h1 h5 h6 hcu hst hsg
          obtain ⟨nm, rfl⟩ : ∃ nm : Nat, xn = nm := ⟨xn.toNat, by omega⟩
          simp only [Int.toNat_natCast] at h1 h5 h6 hcu
          obtain ⟨C, hC⟩ : ∃ C, C = Pg.Lf.cnt ⟨v, p, nm, bg, wt, ex⟩ := ⟨_, rfl⟩
          obtain ⟨st, hstt⟩ : ∃ st : Nat, st = (if bg then 512 else 1) := ⟨_, rfl⟩
          rw [← hstt] at hst hsg
          rw [← hC, hst] at hcu
          have hcs : C * st = nm := by
            rw [← Nat.mul_assoc] at hcu
            exact Nat.eq_of_mul_eq_mul_right (by decide) hcu
          have hst1 : 1 ≤ st := by rw [hstt]; cases bg <;> decide
          have hst2 : st ≤ 512 := by rw [hstt]; cases bg <;> decide
          have HC := Lib.hid hC; have HCS := Lib.hid hcs; have HSG := Lib.hid hsg; have HST := Lib.hid hstt
          have c2 := HCELL.out wr HBW0.out 2 _ rfl
          have c3 := HCELL.out wr HBW0.out 3 _ rfl
          simp only at c2 c3
          have hbr : b < wr.heap.size := Nat.lt_of_lt_of_le hbB HBW0.out.size
          clear hc hok hcu hst hsg hC hstt hcs hrk
          go_upto_if 95 with fail
          go_cut [15] (fun x wx => x = .int .i64 (st : Nat) ∧ wx = wr)
          case first =>
            cases bg with
            | true =>
              obtain rfl : st = 512 := HST.out
              go_wp2_with fail
              go_meet
              case rel => exact ⟨rfl, rfl⟩
            | false =>
              obtain rfl : st = 1 := HST.out
              go_wp2_with fail
              go_meet
              case rel => exact ⟨rfl, rfl⟩
          case rest =>
            obtain ⟨rfl, hwx⟩ := hcut
            rw [hwx]
            clear hwx
            go_wp2_with fail
            go_loopw [13, 16] (fun o i wx => ∃ (t J cE m : Nat) (AE : Option Addr) (X : List Pg.Lf), t ≤ C ∧ m ≤ 3000 ∧ J ≤ nm ∧ Hid (J = t * st) ∧ i = .int .i64 J ∧ o = .slice AE m cE ∧ Hid (wx.ownsRow B 47 6 (.slice AE m cE) m (lall X) ∧ X.length = m) ∧ Hid (m < 3000 → X = Pg.each (rows.take k) ++ (Pg.Lf.singles ⟨v, p, nm, bg, wt, ex⟩).take t) ∧ Hid (Below B w9 wx)) (fun _ i _ => nm - (intOf i).toNat)
            case atStart => exact ⟨0, 0, cE, m, AE, X, by omega, hm, by omega, Lib.hid (by simp), rfl, rfl, HX, Lib.hid (fun h => by rw [List.take_zero, List.append_nil]; exact HXE.out h), HB⟩
            case round =>
              clear HX HXE HB HBW0 c2 c3 hbr hm
              obtain ⟨t, J, cE, m, AE, X, ht, hm, hJn, HJ, rfl, rfl, HX, HXE, HB⟩ := hrel
              have HBW : Hid (Below w.heap.size w wr) := Lib.hid (HB9.out.trans (HB.out.mono (by have := HB9.out.size; have := HBB.out; omega)))
              have c0 := HCELL.out wr HBW.out 0 _ rfl
              have c1' := HCELL.out wr HBW.out 1 _ rfl
              have c2 := HCELL.out wr HBW.out 2 _ rfl
              have c3 := HCELL.out wr HBW.out 3 _ rfl
              have c4 := HCELL.out wr HBW.out 4 _ rfl
              have c5 := HCELL.out wr HBW.out 5 _ rfl
              simp only [Nat.add_zero] at c0 c1' c2 c3 c4 c5
              have hbr : b < wr.heap.size := Nat.lt_of_lt_of_le hbB HBW.out.size
              by_cases hgo : J < nm ∧ m < 3000
              · obtain ⟨hjn, hm3⟩ := hgo
                have htC : t < C := by
                  rcases Nat.lt_or_ge t C with h | h
                  · exact h
                  · obtain rfl : t = C := by omega
                    rw [HJ.out, HCS.out] at hjn; omega
                have hJs : J + st ≤ nm := by
                  rw [HJ.out, ← HCS.out, ← Nat.succ_mul]
                  exact Nat.mul_le_mul_right _ htC
                obtain ⟨V, hV⟩ : ∃ V, V = v + J * 4096 := ⟨_, rfl⟩
                obtain ⟨P, hP⟩ : ∃ P, P = p + J * 4096 := ⟨_, rfl⟩
                have hsg : Pg.Lf.single ⟨v, p, nm, bg, wt, ex⟩ t = ⟨V, P, (st : Nat), bg, wt, ex⟩ := by rw [HSG.out t, hV, hP, HJ.out]
                have hXn : X ++ [⟨V, P, (st : Nat), bg, wt, ex⟩] = Pg.each (rows.take k) ++ (Pg.Lf.singles ⟨v, p, nm, bg, wt, ex⟩).take (t + 1) := by
                  rw [HXE.out hm3, Pg.singles_take (by rw [← HC.out]; exact htC), hsg, List.append_assoc]
                have HXN := Lib.hid hXn
                have HTC := Lib.hid htC
                have e1 : IntKind.u64.wrap (J : Int) = (J : Int) := by rw [IntKind.wrap_u64]; omega
                have e2 : (J : Int) * 4096 % 18446744073709551616 = (J : Int) * 4096 := by omega
                have e3 : IntKind.u64.wrap ((J : Int) * 4096) = (J : Int) * 4096 := by rw [IntKind.wrap_u64]; omega
                have e4 : ((v : Int) + (J : Int) * 4096) % 18446744073709551616 = (V : Int) := by omega
                have e5 : IntKind.u64.wrap ((v : Int) + (J : Int) * 4096) = (V : Int) := by rw [IntKind.wrap_u64]; omega
                have e6 : ((v : Int) + (J : Int) * 4096) = (V : Int) := by omega
                have e7 : ((p : Int) + (J : Int) * 4096) % 18446744073709551616 = (P : Int) := by omega
                have e8 : IntKind.u64.wrap ((p : Int) + (J : Int) * 4096) = (P : Int) := by rw [IntKind.wrap_u64]; omega
                have e9 : ((p : Int) + (J : Int) * 4096) = (P : Int) := by omega
                have hV64 : V < 18446744073709551616 := by omega
                have hP64 : P < 18446744073709551616 := by omega
                clear hV hP hsg hXn htC HXE
                go_upto_region 23 with fail
                have hrow := Row.new wr 47 (lcells ⟨v, p, nm, bg, wt, ex⟩)
                unfold lcells at hrow
                simp only [] at hrow
                have hb13 : Below wr.heap.size wr (wr.alloc (.cells #[.int .u64 (v : Nat), .int .u64 (p : Nat), .int .i64 (nm : Nat), .bool bg, .bool wt, .bool ex] 47)) := (Below.refl _ _).alloc (Nat.le_refl _) _
                obtain ⟨gx, hgx⟩ : ∃ g, g = wr.heap.size := ⟨_, rfl⟩
                obtain ⟨w12, hw12⟩ : ∃ w12, w12 = wr.alloc (.cells #[.int .u64 (v : Nat), .int .u64 (p : Nat), .int .i64 (nm : Nat), .bool bg, .bool wt, .bool ex] 47) := ⟨_, rfl⟩
                rw [← hgx, ← hw12] at hrow hb13
                rw [← hgx, ← hw12]
                have HROW := Lib.hid hrow
                have HB13 : Hid (Below gx wr w12) := Lib.hid (by rw [hgx]; rw [← hgx]; exact hb13)
                have d0 := hrow.cell 0
                have d1 := hrow.cell 1
                have d2 := hrow.cell 2
                have d3 := hrow.cell 3
                have d4 := hrow.cell 4
                have d5 := hrow.cell 5
                have z0 := hrow.frozen 0
                have z1 := hrow.frozen 1
                have z2 := hrow.frozen 2
                have hxl := hrow.lt
                simp only [List.getElem?_cons_zero, List.getElem?_cons_succ] at d0 d1 d2 d3 d4 d5
                have HGX : Hid (gx = wr.heap.size) := Lib.hid hgx
                clear hgx hw12 hrow hb13 c0 c1' c2 c3 c4 c5 hbr
                go_upto_region 26 with fail
                have hr13 : Row (((w12.setCell ⟨gx, 0, none⟩ (.int .u64 (V : Nat))).setCell ⟨gx, 1, none⟩ (.int .u64 (P : Nat))).setCell ⟨gx, 2, none⟩ (.int .i64 (st : Nat))) gx 47 [.int .u64 (V : Nat), .int .u64 (P : Nat), .int .i64 (st : Nat), .bool bg, .bool wt, .bool ex] := ((HROW.out.set_ 0 _).set_ 1 _).set_ 2 _
                have hb14 : Below wr.heap.size wr (((w12.setCell ⟨gx, 0, none⟩ (.int .u64 (V : Nat))).setCell ⟨gx, 1, none⟩ (.int .u64 (P : Nat))).setCell ⟨gx, 2, none⟩ (.int .i64 (st : Nat))) := by
                  rw [← HGX.out]
                  exact ((HB13.out.setCell (p := ⟨gx, 0, none⟩) (Nat.le_refl _) _).setCell (p := ⟨gx, 1, none⟩) (Nat.le_refl _) _).setCell (p := ⟨gx, 2, none⟩) (Nat.le_refl _) _
                generalize ((w12.setCell ⟨gx, 0, none⟩ (.int .u64 (V : Nat))).setCell ⟨gx, 1, none⟩ (.int .u64 (P : Nat))).setCell ⟨gx, 2, none⟩ (.int .i64 (st : Nat)) = w13 at *
                clear d0 d1 d2 d3 d4 d5 z0 z1 z2 HROW HB13 HGX hxl e1 e2 e3 e4 e5 e6 e7 e8 e9
                have d0 := hr13.cell 0
                have d1 := hr13.cell 1
                have d2 := hr13.cell 2
                have d3 := hr13.cell 3
                have d4 := hr13.cell 4
                have d5 := hr13.cell 5
                have hxl := hr13.lt
                simp only [List.getElem?_cons_zero, List.getElem?_cons_succ] at d0 d1 d2 d3 d4 d5
                have HOW : Hid (w13.ownsRow B 47 6 (.slice AE m cE) m (lall X)) := Lib.hid (owns_below HX.out.1 hb14)
                have HXL := Lib.hid HX.out.2
                have HBX : Hid (Below B w9 w13) := Lib.hid (HB.out.trans (hb14.mono (by have := HB.out.size; have := HBB.out; omega)))
                have hbw : B ≤ w13.heap.size := by have := HBX.out.size; have := HBB.out; omega
                have HR1 : Hid (Reads (w13.alloc (.cells #[.int .u64 (V : Nat), .int .u64 (P : Nat), .int .i64 (st : Nat), .bool bg, .bool wt, .bool ex] 47)) (w13.alloc (.cells #[.int .u64 (V : Nat), .int .u64 (P : Nat), .int .i64 (st : Nat), .bool bg, .bool wt, .bool ex] 47)).heap.size 6 (some ⟨w13.heap.size, 0, none⟩) 1 (lcells ⟨V, P, (st : Nat), bg, wt, ex⟩)) := Lib.hid (isL_one w13 ⟨V, P, (st : Nat), bg, wt, ex⟩ (by unfold Pg.Lf.In; simp only; omega)).1
                clear hr13 hb14 HX HB HBW
                go_wp2_with (at_builtin; refine wpList_append_sl _ (by rfl) (.tmp 131) (.tmp 133) 48 rfl B 47 i0 _ 6 32 Try.underlying48 HI.out HZ1.out HZ2.out HZ3.out rfl (by omega) (.slice AE m cE) m (lall X) rfl (HOW.out.alloc _) _ (some ⟨w13.heap.size, 0, none⟩) 1 1 (lcells ⟨V, P, (st : Nat), bg, wt, ex⟩) rfl HR1.out (oneCell_leaf _) (by unfold maxLen; omega) (by omega) (by simp; omega) ?_; intro A3 c3 w14 hown3 hrd3 hg3 hat3)
                go_roundw
                case rel =>
                  refine ⟨t + 1, J + st, c3, m + 1, A3, X ++ [⟨V, P, (st : Nat), bg, wt, ex⟩], HTC.out, by omega, hJs, Lib.hid (by rw [HJ.out, Nat.succ_mul]), by go_num, rfl, Lib.hid ⟨?_, ?_⟩, Lib.hid (fun _ => HXN.out), Lib.hid ?_⟩
                  · rw [lall_snoc]; exact hown3
                  · rw [List.length_append, HXL.out]; rfl
                  · exact (HBX.out.alloc hbw _).grown hg3 (by simp; omega) (fun k hk => (HOW.out.lt k hk).1)
                case measure => simp [intOf]; omega
              · have HXD : Hid (m < 3000 → X = Pg.each (rows.take (k + 1))) := Lib.hid fun h3 => by
                  have hJe : J = nm := by omega
                  have htC : t = C := by
                    have h1 := HJ.out
                    rw [hJe, ← HCS.out] at h1
                    exact (Nat.eq_of_mul_eq_mul_right (by omega) h1).symm
                  rw [HXE.out h3, HTK.out, htC, HC.out]
                  exact congrArg _ (List.take_of_length_le (by simp [Pg.Lf.singles]))
                clear HXE
                go_wp2_with fail
                all_goals
                  go_roundw
                  case rel => exact ⟨k + 1, cE, m, AE, X, by omega, hm, by go_num, rfl, HX, HXD, HB⟩
                  case measure => simp [intOf]; omega
        · have HK : Hid (k = n) := Lib.hid (by omega)
          have HBW : Hid (Below w.heap.size w wr) := Lib.hid (HB9.out.trans (HB.out.mono (by have := HB9.out.size; have := HBB.out; omega)))
          have HLW : Hid (HasT wr Al l) := Lib.hid (HL9.out.below (by rw [← HBB.out]; exact HB.out))
          have HOW : Hid (IsL wr wr.heap.size Ar nr R) := Lib.hid ((HO9.out.below (by rw [← HBB.out]; exact HB.out)).more (by have := HB.out.size; omega))
          by_cases h3 : m < 3000
          · have hXE : X = E := by
              rw [HXE.out h3, HK.out, HEE.out, List.take_of_length_le (Nat.le_of_eq HLN.out)]
            have hel : IsL wr wr.heap.size AE m E := by
              refine ⟨by rw [← hXE]; exact Reads.of_own HX.out.1, fun r h => Pg.In_of (Pg.right_all HER.out r h), by rw [← hXE]; exact HX.out.2, by omega⟩
            have HEL := Lib.hid hel
            clear hXE hel HXE HX HB
            go_wp2_with fail
            refine (Build_any AE m cE base E wr HEL.out hbl).mono ?_
            rintro e w15 ⟨Ak2, ck2, rfl, hi⟩
            rw [HEB.out] at hi ⊢
            unfold tansV
            have HI5 := Lib.hid (hi.has (by show l.length ≤ _; omega))
            have HB5 := Lib.hid (HBW.out.trans (hi.2.2.mono HBW.out.size))
            have HL5 := Lib.hid (HLW.out.below hi.2.2)
            have HO5 := Lib.hid ((HOW.out.below hi.2.2).more hi.2.2.size)
            have HE5 := Lib.hid ((HEL.out.below hi.2.2).more hi.2.2.size)
            clear hi HBW HLW HOW HEL
            go_wp2_with fail
            refine (sameT_yes Ak2 Al l.length ck2 cl l w15 rfl HI5.out HL5.out).mono ?_
            rintro e w16' ⟨rfl, m7, rfl⟩
            have hd7 := below_drewN (Below.refl w15.heap.size w15) m7
            have HB7 := Lib.hid (HB5.out.trans (hd7.mono HB5.out.size))
            have HL7 := Lib.hid (HL5.out.below hd7)
            have HO7 := Lib.hid ((HO5.out.below hd7).more hd7.size)
            have HE7 := Lib.hid ((HE5.out.below hd7).more hd7.size)
            clear hd7 HI5 HB5 HL5 HO5 HE5
            obtain ⟨w16, hw16⟩ : ∃ w16, w16 = w15.drewN m7 := ⟨_, rfl⟩
            rw [← hw16] at HB7 HL7 HO7 HE7 ⊢
            clear hw16
            go_wp2_with fail
            refine (Runs_any AE m cE E w16 HE7.out).mono ?_
            rintro e w17 ⟨As2, cs2, rfl, hos, hb8⟩
            rw [HEU.out] at hos ⊢
            rw [← HNR.out]
            have HOS : Hid (IsL w17 w17.heap.size As2 nr R) := Lib.hid (by
              have h := hos.isL HRIN.out (by rw [← HNR.out]; omega)
              rw [← HNR.out] at h
              exact h)
            have HB8 := Lib.hid (HB7.out.trans (hb8.mono HB7.out.size))
            have HL8 := Lib.hid (HL7.out.below hb8)
            have HO8 := Lib.hid ((HO7.out.below hb8).more hb8.size)
            clear hos hb8 HB7 HL7 HO7 HE7
            go_wp2_with fail
            refine (sameL_yes As2 Ar nr cs2 cr R w17 HOS.out HO8.out).mono ?_
            rintro e w18' ⟨rfl, m9, rfl⟩
            have hd9 := below_drewN (Below.refl w17.heap.size w17) m9
            have HB9' := Lib.hid (HB8.out.trans (hd9.mono HB8.out.size))
            have HL9' := Lib.hid (HL8.out.below hd9)
            obtain ⟨w18, hw18⟩ : ∃ w18, w18 = w17.drewN m9 := ⟨_, rfl⟩
            rw [← hw18] at HB9' HL9' ⊢
            clear hd9 HB8 HL8 HO8 HOS hw18
            go_wp2_with fail
            refine (tree_yes Al l.length cl base l (Pg.pagesOf rows) w18 HL9'.out rfl HCH.out HREP.out HK3.out k4).mono ?_
            rintro e wz ⟨rfl, hbz⟩
            go_wp2_with fail
            go_ret
            exact ⟨rfl, HB9'.out.trans (hbz.mono HB9'.out.size)⟩
          · clear HXE HX HB
            go_wp2_with fail
            refine (tree_yes Al l.length cl base l (Pg.pagesOf rows) wr HLW.out rfl HCH.out HREP.out HK3.out k4).mono ?_
            rintro e wz ⟨rfl, hbz⟩
            go_wp2_with fail
            go_ret
            exact ⟨rfl, HBW.out.trans (hbz.mono HBW.out.size)⟩
  · have hf1 : ((f : Int) != 0) = true := by rw [bne_iff_ne]; omega
    have HFF := Lib.hid hf
    clear hf
    go_wp2_with fail
    go_ret
    exact ⟨rfl, HB3.out⟩
end Go.Proofs.Ytblfagmoilhdnaa
