/- The walks of the document's reader: Pad, Seal. -/
import Derived.Test.YtajkiglogfahfaaRefR3
set_option linter.unusedVariables false
set_option linter.unusedSimpArgs false
namespace Go.Proofs.Ytajkiglogfahfaa
open Go.RowKit

namespace Wd
theorem padr_eq (s : R) (al : Nat) (he : s.e = 0) (h1 : 1 ≤ al) (h2 : al ≤ 4096) :
    s.pad (al : Int) = R.dback (if (s.dtake (gap s.at_ al)).2.all (· == 0) then (s.dtake (gap s.at_ al)).1 else ⟨s.b, (s.dtake (gap s.at_ al)).1.at_, 5⟩) s.at_ := by
  have h3 : (1 : Int) ≤ (al : Int) ∧ (al : Int) ≤ 4096 := by omega
  unfold R.pad R.next R.dtake R.dback
  simp only [Int.toNat_natCast, Nat.add_zero]
  by_cases hl : s.b.length < s.at_ + gap s.at_ al
  · simp [he, h3, hl]
  · have hlen : ((s.b.drop s.at_).take (gap s.at_ al)).length = gap s.at_ al := by simp; omega
    obtain ⟨x, hx⟩ : ∃ x, x = (s.b.drop s.at_).take (gap s.at_ al) := ⟨_, rfl⟩
    rw [← hx] at hlen
    simp only [he, h3, hl, ← hx, if_true, if_false, and_self, not_true_eq_false, ne_eq]
    by_cases ha : x.all (· == 0) = true
    · simp [ha, hlen]
    · simp [ha]
theorem padr_bad (s : R) (al : Int) (he : s.e = 0) (h : ¬ (1 ≤ al ∧ al ≤ 4096)) : s.pad al = ⟨s.b, s.at_, 1⟩ := by
  unfold R.pad
  rw [if_neg (by omega), if_neg h]
theorem padr_not (s : R) (al : Int) (he : s.e ≠ 0) : s.pad al = s := by unfold R.pad; rw [if_pos he]
theorem sealr_eq (s : R) (fr : Nat) (he : s.e = 0) (h2 : fr ≤ s.at_) :
    s.sealUp (fr : Int) = R.dback (if (s.take 4).1.e = 0 ∧ (s.take 4).2 ≠ Crc.more 0 ((s.b.drop fr).take (s.at_ - fr)) then ⟨s.b, (s.take 4).1.at_, 11⟩ else (s.take 4).1) s.at_ := by
  have h3 : (0 : Int) ≤ (fr : Int) ∧ (fr : Int) ≤ (s.at_ : Int) := by omega
  by_cases hl : s.b.length < s.at_ + 4
  · rw [take_short s 4 he hl]
    unfold R.sealUp R.next R.dback
    simp [he, h3, hl, h2]
  · rw [take_ok s 4 he hl]
    unfold R.sealUp R.next R.dback
    obtain ⟨v, hv⟩ : ∃ v, v = unle ((s.b.drop s.at_).take 4) := ⟨_, rfl⟩
    have hd : (s.b.take s.at_).drop fr = (s.b.drop fr).take (s.at_ - fr) := by rw [List.drop_take]
    by_cases hq : v = Crc.more 0 ((s.b.drop fr).take (s.at_ - fr))
    · simp [he, h3, hl, h2, ← hv, hd, hq]
    · simp [he, h3, hl, h2, ← hv, hd, hq]
theorem sealr_bad (s : R) (fr : Int) (he : s.e = 0) (h : ¬ (0 ≤ fr ∧ fr ≤ s.at_)) : s.sealUp fr = ⟨s.b, s.at_, 1⟩ := by
  unfold R.sealUp
  rw [if_neg (by omega), if_neg h]
theorem sealr_not (s : R) (fr : Int) (he : s.e ≠ 0) : s.sealUp fr = s := by unfold R.sealUp; rw [if_pos he]
theorem all_take (x : List Nat) (j : Nat) (h : j < x.length) : (x.take (j + 1)).all (· == 0) = ((x.take j).all (· == 0) && (x.getD j 0 == 0)) := by
  have e : x.take (j + 1) = x.take j ++ [x[j]] := List.take_succ_eq_append_getElem h
  have g : x.getD j 0 = x[j] := by simp [List.getD_eq_getElem?_getD, h]
  rw [e, List.all_append, g]
  simp only [List.all_cons, List.all_nil, Bool.and_true]
end Wd
set_option maxRecDepth 100000 in
set_option maxHeartbeats 1000000 in
theorem drpad_ok (B g c al : Nat) (A : Option Addr) (s : Wd.R) (w : World) (hw : Ry w B g A c s) (hB : B ≤ w.heap.size) (he : s.e = 0) (h1 : 1 ≤ al) (h2 : al ≤ 4096) (hl : s.b.length ≤ 70368744177664) :
    Calls Try.prog 118 #[.pointer (some ⟨g, 0, none⟩), .int .i64 (al : Nat)] w fun e w' => e = .returned (.tuple #[]) ∧ Ry w' B g A c (s.pad (al : Int)) ∧ Chg [g] w w' := by
  have c1 := hw.1.cell 1; have c2 := hw.1.cell 2
  simp only [List.getElem?_cons_zero, List.getElem?_cons_succ] at c1 c2
  have hlt := hw.1.lt
  rw [he] at c2
  have hat := hw.2.2.2.1
  have HE := Lib.hid (Wd.padr_eq s al he h1 h2)
  have HG := Lib.hid (dgap_any s.at_ al w (by omega) h1 h2)
  have hgl : Wd.gap s.at_ al < al := Nat.mod_lt _ h1
  obtain ⟨k, hk⟩ : ∃ k, k = Wd.gap s.at_ al := ⟨_, rfl⟩
  rw [← hk] at HE HG hgl
  have HT := Lib.hid (dtake_any B g c k A s w hw hB (by omega))
  obtain ⟨⟨xb, xa, xe⟩, x, ht⟩ : ∃ s1 v, s.dtake k = (s1, v) := ⟨_, _, rfl⟩
  have hxb := Wd.dtake_b s k
  rw [ht] at HE HT hxb
  simp only at HE HT hxb
  have HXB := Lib.hid hxb
  have hBg := hw.2.2.2.2.1
  have HAT := Lib.hid hat
  clear hw he hk ht hxb hat
  go_enter Try.func118, Try.ntmps118
  go_wp2_with fail
  refine HG.out.mono ?_
  rintro e w1 ⟨rfl, rfl⟩
  go_wp2_with fail
  refine HT.out.mono ?_
  rintro e w1 ⟨⟨A', m, c', rfl, hm, hb⟩, hr, hc⟩
  have hs1 := hc.size
  have HML := Lib.hid hb.len
  have HI0 : Hid (Ry w1 B g A c ⟨xb, xa, if (x.take 0).all (· == 0) then xe else 5⟩) := Lib.hid (by simpa using hr)
  have HC0 : Hid (Chg [g] w w1) := Lib.hid hc
  have HIB := Lib.hid hb
  have hmm := hb.2.2
  clear hr hc c1 c2 hb
  go_wp2_with fail
  go_loopw [6] (fun i wr => ∃ j : Nat, j ≤ m ∧ i = .int .i64 j ∧ Hid (Ry wr B g A c ⟨xb, xa, if (x.take j).all (· == 0) then xe else 5⟩) ∧ Hid (Chg [g] w wr) ∧ Hid (IsB wr B A' m x)) (fun i _ => m - (intOf i).toNat)
  case atStart => exact ⟨0, by omega, rfl, HI0, HC0, HIB⟩
  case round =>
    clear HI0 HC0 HIB
    obtain ⟨j, hj, rfl, HI, HC, HIB⟩ := hrel
    by_cases hjm : j < m
    · obtain ⟨b, off, HF⟩ := HIB.out.form
      obtain ⟨hA, hbB, hcl⟩ := HF.out (by omega)
      subst hA
      have hcj := hcl j hjm
      have hal := Wd.all_take x j (by have := HML.out; omega)
      obtain ⟨y, hy⟩ : ∃ y, y = x.getD j 0 := ⟨_, rfl⟩
      rw [← hy] at hcj hal
      have hjj : (j : Int) < (m : Int) := by omega
      have f2 := HI.out.1.frozen 2
      have d2 := HI.out.1.cell 2
      simp only [List.getElem?_cons_zero, List.getElem?_cons_succ] at d2
      have hlt1 := HI.out.1.lt
      have hsr := HC.out.size
      have HAL := Lib.hid hal
      clear hcl hy hal
      by_cases hy0 : y = 0
      · have h3 : ((y : Int) != 0) = false := by simp [hy0]
        have HY : Hid ((y == 0) = true) := Lib.hid (by simp [hy0])
        clear hy0
        go_wp2_with fail
        go_roundw
        case rel => exact ⟨j + 1, by omega, by go_num, Lib.hid (by rw [HAL.out, HY.out, Bool.and_true]; exact HI.out), HC, HIB⟩
        case measure => simp [intOf]; omega
      · have h3 : ((y : Int) != 0) = true := by rw [bne_iff_ne]; omega
        have HY : Hid ((y == 0) = false) := Lib.hid (by simp [hy0])
        have hc2 : Chg [g] wr (wr.setCell ⟨g, 2, none⟩ (.int .i64 5)) := (Chg.refl [g] wr).set_ (p := ⟨g, 2, none⟩) (.inl (by simp)) _
        have hr2 : Ry (wr.setCell ⟨g, 2, none⟩ (.int .i64 5)) B g A c ⟨xb, xa, 5⟩ := HI.out.turn hc2 (by omega) (a := xa) (e := 5) (HI.out.1.set_ 2 _) HI.out.2.2.2.1
        have HR2 := Lib.hid hr2; have HC2 := Lib.hid hc2
        have HIB2 : Hid (IsB (wr.setCell ⟨g, 2, none⟩ (.int .i64 5)) B (some ⟨b, off, none⟩) m x) := Lib.hid (HIB.out.below (hc2.below (by omega) (by simpa using hBg)))
        clear hr2 hc2 hy0
        go_wp2_with fail
        go_roundw
        case rel => exact ⟨j + 1, by omega, by go_num, Lib.hid (by rw [HAL.out, HY.out, Bool.and_false]; exact HR2.out), Lib.hid (HC.out.trans HC2.out (fun x hx => .inl hx)), HIB2⟩
        case measure => simp [intOf]; omega
    · have hsr := HC.out.size
      have HX : Hid (s.pad (al : Int) = Wd.R.dback ⟨xb, xa, if (x.take j).all (· == 0) then xe else 5⟩ s.at_) := Lib.hid (by
        rw [HE.out, List.take_of_length_le (by have := HML.out; omega)]
        by_cases ha : x.all (· == 0) = true
        · simp [ha]
        · simp [ha, HXB.out])
      have HBK := Lib.hid (drback_any B g c s.at_ A _ wr HI.out (by omega) (by simp only; rw [HXB.out]; exact HAT.out))
      go_wp2_with fail
      refine HBK.out.mono ?_
      rintro e w4 ⟨rfl, hr4, hc4⟩
      have HR4 := Lib.hid hr4; have HC4 := Lib.hid hc4
      clear hr4 hc4
      go_wp2_with fail
      go_end0
      rw [HX.out]
      exact ⟨rfl, HR4.out, HC.out.trans HC4.out (fun x hx => .inl hx)⟩
set_option maxRecDepth 100000 in
set_option maxHeartbeats 1000000 in
theorem drpad_any (B g c : Nat) (al : Int) (A : Option Addr) (s : Wd.R) (w : World) (hw : Ry w B g A c s) (hB : B ≤ w.heap.size) (hl : s.b.length ≤ 70368744177664) :
    Calls Try.prog 118 #[.pointer (some ⟨g, 0, none⟩), .int .i64 al] w fun e w' => e = .returned (.tuple #[]) ∧ Ry w' B g A c (s.pad al) ∧ Chg [g] w w' := by
  by_cases he : s.e = 0
  · by_cases ha : 1 ≤ al ∧ al ≤ 4096
    · obtain ⟨a, rfl⟩ : ∃ a : Nat, al = a := ⟨al.toNat, by omega⟩
      exact drpad_ok B g c a A s w hw hB he (by omega) (by omega) hl
    · have HE := Lib.hid (Wd.padr_bad s al he ha)
      have c1 := hw.1.cell 1; have c2 := hw.1.cell 2
      have f2 := hw.1.frozen 2
      simp only [List.getElem?_cons_zero, List.getElem?_cons_succ] at c1 c2
      rw [he] at c2
      have hlt := hw.1.lt
      have hc : Chg [g] w (w.setCell ⟨g, 2, none⟩ (.int .i64 1)) := (Chg.refl [g] w).set_ (p := ⟨g, 2, none⟩) (.inl (by simp)) _
      have HR : Hid (Ry (w.setCell ⟨g, 2, none⟩ (.int .i64 1)) B g A c ⟨s.b, s.at_, 1⟩) := Lib.hid (hw.turn hc hB (a := s.at_) (e := 1) (hw.1.set_ 2 _) hw.2.2.2.1)
      have HC := Lib.hid hc
      have HF := Lib.hid ha
      clear hw he ha hc
      by_cases h0 : al < 1
      all_goals
        have h1 : al < 1 ∨ 4096 < al := by have := HF.out; omega
        have HF1 := Lib.hid h1
        clear h1
        first
          | (have h2 : 4096 < al := by have := HF1.out; omega)
          | skip
        go_enter Try.func118, Try.ntmps118
        go_wp2_with fail
        refine bodyPost_ret (results_none rfl _ _ _) rfl ?_
        rw [HE.out]
        exact ⟨rfl, HR.out, HC.out⟩
  · have c1 := hw.1.cell 1; have c2 := hw.1.cell 2
    simp only [List.getElem?_cons_zero, List.getElem?_cons_succ] at c1 c2
    have hlt := hw.1.lt
    have he2 : ((s.e : Int) != 0) = true := by rw [bne_iff_ne]; omega
    have HE := Lib.hid (Wd.padr_not s al he)
    have HW := Lib.hid hw
    clear hw he
    go_enter Try.func118, Try.ntmps118
    go_wp2_with fail
    refine bodyPost_ret (results_none rfl _ _ _) rfl ?_
    rw [HE.out]
    exact ⟨rfl, HW.out, Chg.refl _ _⟩
set_option maxRecDepth 100000 in
set_option maxHeartbeats 1000000 in
theorem drseal_ok (B g c f : Nat) (A : Option Addr) (s : Wd.R) (w : World) (hw : Ry w B g A c s) (hB : B ≤ w.heap.size) (he : s.e = 0) (hf : f ≤ s.at_) (hl : s.b.length ≤ 70368744177664) :
    Calls Try.prog 119 #[.pointer (some ⟨g, 0, none⟩), .int .i64 (f : Nat)] w fun e w' => e = .returned (.tuple #[]) ∧ Ry w' B g A c (s.sealUp (f : Int)) ∧ Chg [g] w w' := by
  have c1 := hw.1.cell 1; have c2 := hw.1.cell 2
  simp only [List.getElem?_cons_zero, List.getElem?_cons_succ] at c1 c2
  have hlt := hw.1.lt
  rw [he] at c2
  have hat := hw.2.2.2.1
  have hcn := hw.2.2.1
  have hBg := hw.2.2.2.2.1
  have HE := Lib.hid (Wd.sealr_eq s f he hf)
  have HN := Lib.hid (drnum_any B g c 4 A s w hw hB (by omega) (by omega))
  have htl := Wd.take_lt s 4 hw.2.1.2.1
  have hta := Wd.take_at s 4 hw.2.2.2.1
  obtain ⟨⟨xb, xa, xe⟩, v, ht⟩ : ∃ s1 v, s.take 4 = (s1, v) := ⟨_, _, rfl⟩
  rw [ht] at HE HN hta htl
  simp only at HE HN hta htl
  obtain ⟨hxb, hxa⟩ := hta
  obtain ⟨q, hq⟩ : ∃ q, q = Crc.more 0 ((s.b.drop f).take (s.at_ - f)) := ⟨_, rfl⟩
  have hql : q < 4294967296 := by rw [hq]; exact Crc.more_lt _ (by decide) (fun b hb => hw.2.1.2.1 b (List.mem_of_mem_drop (List.mem_of_mem_take hb)))
  rw [← hq] at HE
  have HQ := Lib.hid hq
  have HXB := Lib.hid hxb
  have HAT := Lib.hid hat
  have hvl : v < 4294967296 := by simpa using htl
  obtain ⟨xs, at_, e0⟩ := s
  simp only at c1 hf hat hcn hl HE HAT hxb HQ
  obtain ⟨m, hm⟩ : ∃ m, m = xs.length := ⟨_, rfl⟩
  rw [← hm] at hat hcn hl
  have HM := Lib.hid hm
  clear hw he ht htl hxa hq hm
  go_enter Try.func119, Try.ntmps119
  go_wp2_with fail
  refine HN.out.mono ?_
  rintro e w1 ⟨rfl, hr, hc⟩
  have d0 := hr.1.cell 0
  have d2 := hr.1.cell 2
  have f2 := hr.1.frozen 2
  simp only [List.getElem?_cons_zero, List.getElem?_cons_succ] at d0 d2
  rw [hxb, ← HM.out] at d0
  have hlt1 := hr.1.lt
  have hs1 := hc.size
  have hib : IsB w1 B A xs.length xs := by have := hr.2.1; simp only at this; rw [hxb] at this; exact this
  have hpart := part_isB (f := f) (k := at_ - f) (c := c) hib (by have := HM.out; omega) (by have := HM.out; omega)
  have HP1 := Lib.hid (fun h : c = f => by rw [if_pos h] at hpart; exact hpart)
  have HP2 := Lib.hid (fun h : ¬ c = f => by rw [if_neg h] at hpart; exact hpart)
  have HR1 := Lib.hid hr; have HC1 := Lib.hid hc
  have hBw : B ≤ w1.heap.size := by omega
  clear hr hc c1 c2 hib hpart hxb
  have hsub : ((at_ : Int) - (f : Int)) = ((at_ - f : Nat) : Int) := by omega
  by_cases hx0 : xe = 0
  · rw [hx0] at d2
    by_cases hvq : v = q
    · have h3 : ((v : Int) != (q : Int)) = false := by simp [hvq]
      have HX : Hid (Wd.R.sealUp ⟨xs, at_, e0⟩ (f : Int) = Wd.R.dback ⟨xb, xa, xe⟩ at_) := Lib.hid (by rw [HE.out, if_neg (by simp [hvq])])
      have HX0 := Lib.hid hx0; have HVQ := Lib.hid hvq
      clear hx0 hvq
      go_wp2_with fail
      all_goals
        rename_i h
        first
          | refine (rcrc_any _ _ _ _ w1 ((HP1.out h).more hBw)).mono ?_
          | refine (rcrc_any _ _ _ _ w1 ((HP2.out h).more hBw)).mono ?_
        rw [← HQ.out]
        rintro e w2 ⟨rfl, rfl⟩
        have HBK := Lib.hid (drback_any B g c at_ A _ w1 HR1.out hBw (by simp only; rw [HXB.out]; exact HAT.out))
        go_wp2_with fail
        refine HBK.out.mono ?_
        rintro e w4 ⟨rfl, hr4, hc4⟩
        have HR4 := Lib.hid hr4; have HC4 := Lib.hid hc4
        clear hr4 hc4
        go_wp2_with fail
        go_end0
        rw [HX.out]
        exact ⟨rfl, HR4.out, HC1.out.trans HC4.out (fun x hx => .inl hx)⟩
    · have h3 : ((v : Int) != (q : Int)) = true := by rw [bne_iff_ne]; omega
      have HX : Hid (Wd.R.sealUp ⟨xs, at_, e0⟩ (f : Int) = Wd.R.dback ⟨xb, xa, 11⟩ at_) := Lib.hid (by rw [HE.out, if_pos ⟨hx0, hvq⟩, ← HXB.out])
      have hc2 : Chg [g] w1 (w1.setCell ⟨g, 2, none⟩ (.int .i64 11)) := (Chg.refl [g] w1).set_ (p := ⟨g, 2, none⟩) (.inl (by simp)) _
      have hr2 : Ry (w1.setCell ⟨g, 2, none⟩ (.int .i64 11)) B g A c ⟨xb, xa, 11⟩ := HR1.out.turn hc2 hBw (a := xa) (e := 11) (HR1.out.1.set_ 2 _) HR1.out.2.2.2.1
      have HBK := Lib.hid (drback_any B g c at_ A _ _ hr2 (by simpa [World.setCell] using hBw) (by simp only; rw [HXB.out]; exact HAT.out))
      have HC2 := Lib.hid hc2
      clear hx0 hvq hr2 hc2
      go_wp2_with fail
      all_goals
        rename_i h
        first
          | refine (rcrc_any _ _ _ _ w1 ((HP1.out h).more hBw)).mono ?_
          | refine (rcrc_any _ _ _ _ w1 ((HP2.out h).more hBw)).mono ?_
        rw [← HQ.out]
        rintro e w2 ⟨rfl, rfl⟩
        go_wp2_with fail
        refine HBK.out.mono ?_
        rintro e w4 ⟨rfl, hr4, hc4⟩
        have HR4 := Lib.hid hr4; have HC4 := Lib.hid hc4
        clear hr4 hc4
        go_wp2_with fail
        go_end0
        rw [HX.out]
        exact ⟨rfl, HR4.out, (HC1.out.trans HC2.out (fun x hx => .inl hx)).trans HC4.out (fun x hx => .inl hx)⟩
  · have h3 : ((xe : Int) == 0) = false := beq_eq_false_iff_ne.2 (by omega)
    have HX : Hid (Wd.R.sealUp ⟨xs, at_, e0⟩ (f : Int) = Wd.R.dback ⟨xb, xa, xe⟩ at_) := Lib.hid (by rw [HE.out, if_neg (by simp [hx0])])
    have HBK := Lib.hid (drback_any B g c at_ A _ w1 HR1.out hBw (by simp only; rw [HXB.out]; exact HAT.out))
    clear hx0
    go_wp2_with fail
    refine HBK.out.mono ?_
    rintro e w4 ⟨rfl, hr4, hc4⟩
    have HR4 := Lib.hid hr4; have HC4 := Lib.hid hc4
    clear hr4 hc4
    go_wp2_with fail
    go_end0
    rw [HX.out]
    exact ⟨rfl, HR4.out, HC1.out.trans HC4.out (fun x hx => .inl hx)⟩
set_option maxRecDepth 100000 in
set_option maxHeartbeats 1000000 in
theorem drseal_any (B g c : Nat) (fr : Int) (A : Option Addr) (s : Wd.R) (w : World) (hw : Ry w B g A c s) (hB : B ≤ w.heap.size) (hl : s.b.length ≤ 70368744177664) :
    Calls Try.prog 119 #[.pointer (some ⟨g, 0, none⟩), .int .i64 fr] w fun e w' => e = .returned (.tuple #[]) ∧ Ry w' B g A c (s.sealUp fr) ∧ Chg [g] w w' := by
  by_cases he : s.e = 0
  · by_cases ha : 0 ≤ fr ∧ fr ≤ s.at_
    · obtain ⟨a, rfl⟩ : ∃ a : Nat, fr = a := ⟨fr.toNat, by omega⟩
      exact drseal_ok B g c a A s w hw hB he (by omega) hl
    · have HE := Lib.hid (Wd.sealr_bad s fr he ha)
      have c1 := hw.1.cell 1; have c2 := hw.1.cell 2
      have f2 := hw.1.frozen 2
      simp only [List.getElem?_cons_zero, List.getElem?_cons_succ] at c1 c2
      rw [he] at c2
      have hlt := hw.1.lt
      have hc : Chg [g] w (w.setCell ⟨g, 2, none⟩ (.int .i64 1)) := (Chg.refl [g] w).set_ (p := ⟨g, 2, none⟩) (.inl (by simp)) _
      have HR : Hid (Ry (w.setCell ⟨g, 2, none⟩ (.int .i64 1)) B g A c ⟨s.b, s.at_, 1⟩) := Lib.hid (hw.turn hc hB (a := s.at_) (e := 1) (hw.1.set_ 2 _) hw.2.2.2.1)
      have HC := Lib.hid hc
      have HF := Lib.hid ha
      clear hw he ha hc
      by_cases h0 : fr < 0
      all_goals
        have h1 : fr < 0 ∨ (s.at_ : Int) < fr := by have := HF.out; omega
        have HF1 := Lib.hid h1
        clear h1
        first
          | (have h2 : (s.at_ : Int) < fr := by have := HF1.out; omega)
          | skip
        go_enter Try.func119, Try.ntmps119
        go_wp2_with fail
        refine bodyPost_ret (results_none rfl _ _ _) rfl ?_
        rw [HE.out]
        exact ⟨rfl, HR.out, HC.out⟩
  · have c1 := hw.1.cell 1; have c2 := hw.1.cell 2
    simp only [List.getElem?_cons_zero, List.getElem?_cons_succ] at c1 c2
    have hlt := hw.1.lt
    have he2 : ((s.e : Int) != 0) = true := by rw [bne_iff_ne]; omega
    have HE := Lib.hid (Wd.sealr_not s fr he)
    have HW := Lib.hid hw
    clear hw he
    go_enter Try.func119, Try.ntmps119
    go_wp2_with fail
    refine bodyPost_ret (results_none rfl _ _ _) rfl ?_
    rw [HE.out]
    exact ⟨rfl, HW.out, Chg.refl _ _⟩
end Go.Proofs.Ytajkiglogfahfaa
