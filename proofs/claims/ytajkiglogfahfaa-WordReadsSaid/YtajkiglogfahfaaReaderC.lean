/- The walk of the reader's Seal. -/
import Derived.Test.YtajkiglogfahfaaReaderB
import Derived.StillTailTactics
set_option linter.unusedVariables false
set_option linter.unusedSimpArgs false
namespace Go.Proofs.Ytajkiglogfahfaa
open Go.RowKit

theorem seal_refused (s : Wd.R) (fr : Int) (he : s.e ≠ 0) : s.sealUp fr = s := by unfold Wd.R.sealUp; rw [if_pos he]
theorem seal_arg (s : Wd.R) (fr : Int) (he : s.e = 0) (h : ¬ (0 ≤ fr ∧ fr ≤ s.at_)) : s.sealUp fr = ⟨s.b, s.at_, 1⟩ := by unfold Wd.R.sealUp; rw [if_neg (by omega), if_neg h]
theorem seal_short (s : Wd.R) (fr : Int) (he : s.e = 0) (h : 0 ≤ fr ∧ fr ≤ s.at_) (hs : s.b.length < s.at_ + 4) : s.sealUp fr = ⟨s.b, s.at_, 10⟩ := by
  unfold Wd.R.sealUp Wd.R.next; rw [if_neg (by omega), if_pos h, if_neg (by omega), if_pos (by omega)]
theorem seal_read (s : Wd.R) (fr : Int) (he : s.e = 0) (h : 0 ≤ fr ∧ fr ≤ s.at_) (hs : s.at_ + 4 ≤ s.b.length) :
    s.sealUp fr = if Wd.unle ((s.b.drop (s.at_ + 0)).take 4) = Crc.more 0 ((s.b.take s.at_).drop fr.toNat) then ⟨s.b, s.at_ + 4, s.e⟩ else ⟨s.b, s.at_, 11⟩ := by
  unfold Wd.R.sealUp Wd.R.next; rw [if_neg (by omega), if_pos h, if_neg (by omega), if_neg (by omega)]
set_option maxRecDepth 100000 in
set_option maxHeartbeats 400000 in
theorem rseal_refused (g : Nat) (r : Option Nat) (s : Wd.R) (fr : Int) (w : World) (hw : Rd w g r s) (he : s.e ≠ 0) :
    Calls Try.prog 39 #[.pointer (some ⟨g, 0, none⟩), .int .i64 fr] w fun e w' => e = .returned (.tuple #[]) ∧ Rd w' g r (s.sealUp fr) ∧ Chg [g] w w' := by
  obtain ⟨A, c, c0, c1, c2, f0, f1, f2, hlt, hat, hcn, HB, HD, HROW, HOWN⟩ := hw.open_
  have HT := Lib.hid (seal_refused s fr he)
  have he1 : ((s.e : Int) == 0) = false := beq_eq_false_iff_ne.2 (by omega)
  have HN := Lib.hid (next_refused g r s 0 4 w hw he)
  clear hw he
  go_enter Try.func39, Try.ntmps39
  go_wp2_with fail
  refine HN.out.mono ?_
  rintro e w1 ⟨rfl, hr1, hch1⟩
  have HR := Lib.hid hr1; have HCH := Lib.hid hch1
  clear hr1 hch1
  go_wp2_with fail
  refine bodyPost_ret (results_none rfl _ _ _) rfl ?_
  rw [HT.out]
  exact ⟨rfl, HR.out, ((Chg.refl _ _).trans HCH.out (by simp))⟩
set_option maxRecDepth 100000 in
set_option maxHeartbeats 400000 in
theorem rseal_arg (g : Nat) (r : Option Nat) (s : Wd.R) (fr : Int) (w : World) (hw : Rd w g r s) (he : s.e = 0) (hf : ¬ (0 ≤ fr ∧ fr ≤ s.at_)) :
    Calls Try.prog 39 #[.pointer (some ⟨g, 0, none⟩), .int .i64 fr] w fun e w' => e = .returned (.tuple #[]) ∧ Rd w' g r (s.sealUp fr) ∧ Chg [g] w w' := by
  obtain ⟨A, c, c0, c1, c2, f0, f1, f2, hlt, hat, hcn, HB, HD, HROW, HOWN⟩ := hw.open_
  have c2' : w.cell? ⟨g, 2, none⟩ = some (.int .i64 0) := by rw [he] at c2; exact c2
  have HT := Lib.hid (seal_arg s fr he hf)
  have h := rd_set2 1 HROW.out HOWN.out
  have hr2 := HD.out _ _ _ hat h.1 h.2.1
  have HN := Lib.hid (next_refused g r _ 0 4 _ hr2 (by simp))
  have HCH2 := Lib.hid h.2.2
  clear hw he c2 h hr2
  by_cases h0 : fr < 0
  · clear hf
    go_enter Try.func39, Try.ntmps39
    go_wp2_with fail
    refine HN.out.mono ?_
    rintro e w1 ⟨rfl, hr1, hch1⟩
    have HR := Lib.hid hr1; have HCH := Lib.hid hch1
    clear hr1 hch1
    go_wp2_with fail
    refine bodyPost_ret (results_none rfl _ _ _) rfl ?_
    rw [HT.out]
    exact ⟨rfl, HR.out, HCH2.out.trans HCH.out (by simp)⟩
  · have h1 : (s.at_ : Int) < fr := by omega
    clear hf
    go_enter Try.func39, Try.ntmps39
    go_wp2_with fail
    refine HN.out.mono ?_
    rintro e w1 ⟨rfl, hr1, hch1⟩
    have HR := Lib.hid hr1; have HCH := Lib.hid hch1
    clear hr1 hch1
    go_wp2_with fail
    refine bodyPost_ret (results_none rfl _ _ _) rfl ?_
    rw [HT.out]
    exact ⟨rfl, HR.out, HCH2.out.trans HCH.out (by simp)⟩
set_option maxRecDepth 100000 in
set_option maxHeartbeats 400000 in
theorem rseal_short (g : Nat) (r : Option Nat) (s : Wd.R) (f : Nat) (w : World) (hw : Rd w g r s) (he : s.e = 0) (hf : f ≤ s.at_) (hs : s.b.length < s.at_ + 4) :
    Calls Try.prog 39 #[.pointer (some ⟨g, 0, none⟩), .int .i64 f] w fun e w' => e = .returned (.tuple #[]) ∧ Rd w' g r (s.sealUp f) ∧ Chg [g] w w' := by
  obtain ⟨A, c, c0, c1, c2, f0, f1, f2, hlt, hat, hcn, HB, HD, HROW, HOWN⟩ := hw.open_
  have c2' : w.cell? ⟨g, 2, none⟩ = some (.int .i64 0) := by rw [he] at c2; exact c2
  have HT := Lib.hid (seal_short s f he (by omega) hs)
  have HN := Lib.hid (next_short g r s 0 4 w hw he (by omega) (by omega) (by omega))
  clear hw he c2
  go_enter Try.func39, Try.ntmps39
  go_wp2_with fail
  refine HN.out.mono ?_
  rintro e w1 ⟨rfl, hr1, hch1⟩
  have HR := Lib.hid hr1; have HCH := Lib.hid hch1
  clear hr1 hch1
  go_wp2_with fail
  refine bodyPost_ret (results_none rfl _ _ _) rfl ?_
  rw [HT.out]
  exact ⟨rfl, HR.out, HCH.out⟩
set_option maxRecDepth 100000 in
set_option maxHeartbeats 400000 in
theorem rseal_read (g : Nat) (r : Option Nat) (s : Wd.R) (f : Nat) (w : World) (hw : Rd w g r s) (hl : s.b.length ≤ 70368744177664) (he : s.e = 0) (hf : f ≤ s.at_) (hs : s.at_ + 4 ≤ s.b.length) :
    Calls Try.prog 39 #[.pointer (some ⟨g, 0, none⟩), .int .i64 f] w fun e w' => e = .returned (.tuple #[]) ∧ Rd w' g r (s.sealUp f) ∧ Chg [g] w w' := by
  obtain ⟨A, c, c0, c1, c2, f0, f1, f2, hlt, hat, hcn, HB, HD, HROW, HOWN⟩ := hw.open_
  have c2' : w.cell? ⟨g, 2, none⟩ = some (.int .i64 0) := by rw [he] at c2; exact c2
  have HT := Lib.hid (seal_read s f he (by omega) hs)
  have HN := Lib.hid (next_ok g r s 0 4 w hw he hs)
  obtain ⟨X, hX⟩ : ∃ X, X = (s.b.drop (s.at_ + 0)).take 4 := ⟨_, rfl⟩
  rw [← hX] at HN HT
  have hX4 : X.length = 4 := by rw [hX]; exact len_of_next hs
  have HX := Lib.hid hX4
  clear hw he c2 hX hX4
  go_enter Try.func39, Try.ntmps39
  go_wp2_with fail
  refine HN.out.mono ?_
  rintro e w1 ⟨⟨A1, c1', rfl, hc1, hB1⟩, hr1, hch1⟩
  clear c0 c1 c2' f0 f1 f2 hlt hat hcn HB HD HROW HOWN
  have HG := Lib.hid (get_uint32 A1 4 c1' X w1 hB1.b.1 (Nat.le_refl _) hc1)
  have HR := Lib.hid hr1; have HCH := Lib.hid hch1
  clear hB1 hr1 hch1
  go_wp2_with fail
  refine HG.out.mono ?_
  rintro e w2 ⟨rfl, rfl⟩
  rw [List.take_of_length_le (by have := HX.out; omega)]
  obtain ⟨y, hy⟩ : ∃ y, y = Wd.unle X := ⟨_, rfl⟩
  rw [← hy] at HT ⊢
  obtain ⟨x, hx⟩ : ∃ x, x = Crc.more 0 ((s.b.take s.at_).drop f) := ⟨_, rfl⟩
  have ex : Crc.more 0 ((s.b.take s.at_).drop ((f : Nat) : Int).toNat) = x := by rw [hx, Int.toNat_natCast]
  rw [ex] at HT
  obtain ⟨A, c, c0, c1, c2, f0, f1, f2, hlt, hat, hcn, HB, HD, HROW, HOWN⟩ := HR.out.open_
  have hmx := HB.out.b.1.2.2
  have hat4 : f + (s.at_ - f) ≤ s.b.length := by omega
  have hP := next_part (f := f) (k := s.at_ - f) HB.out.b.1 hcn hat4
  have eX : (s.b.drop f).take (s.at_ - f) = (s.b.take s.at_).drop f := by rw [List.drop_take]
  rw [eX] at hP
  have HP1 := Lib.hid (fun h : c = f => by rw [if_pos h] at hP; exact hP)
  have HP2 := Lib.hid (fun h : ¬ c = f => by rw [if_neg h] at hP; exact hP)
  have HXX := Lib.hid hx
  clear hy hx ex hP eX hat4
  go_wp2_with fail
  have hq1 : s.at_ ≤ c := by omega
  by_cases hcf : c = f
  · have hq2 : s.at_ ≤ f := by omega
    have HC := Lib.hid (crc_any A 0 0 ((s.b.take s.at_).drop f) w1.drew (by have h5 := HP1.out hcf; rw [show s.at_ - f = 0 by omega] at h5; exact h5))
    rw [← HXX.out] at HC
    by_cases hyx : y = x
    · have e1 : ((y : Int) != (x : Int)) = false := by rw [bne_eq_false_iff_eq]; omega
      rw [if_pos hyx] at HT
      clear hyx
      go_region_law (first
        | (go_simp; go_at_call 14; refine HC.out.mono ?_; rintro e w2 ⟨rfl, hb2⟩))
      all_goals
        have h3 := (HR.out.chg (S := []) (Chg.of_below (⟨hb2.os, hb2.tape, hb2.output, hb2.size, hb2.block⟩ : Below w1.heap.size w1 w2)) (by simp) (by simp)).open_
        have HB2 := Lib.hid hb2
        clear c0 c1 c2 f0 f1 f2 hlt hat hcn HB HD HROW HOWN hb2
        obtain ⟨A3, c3, c0, c1, c2, f0, f1, f2, hlt, hat, hcn, HB, HD, HROW, HOWN⟩ := h3
        go_wp2_with fail
        go_end0
        rw [HT.out]
        obtain ⟨h1, h2, h3⟩ := rd_set1 (s.at_ + 4) HROW.out HOWN.out
        have HB3 : Below w1.heap.size w1 w2 := ⟨HB2.out.os, HB2.out.tape, HB2.out.output, HB2.out.size, HB2.out.block⟩
        exact ⟨rfl, HD.out _ _ _ hs h1 h2, (((Chg.refl [g] w).trans HCH.out (by simp)).trans (Chg.of_below (S := []) HB3) (by simp)).trans h3 (fun x hx => .inl hx)⟩
    · have e1 : ((y : Int) != (x : Int)) = true := by rw [bne_iff_ne]; omega
      rw [if_neg hyx] at HT
      clear hyx
      go_region_law (first
        | (go_simp; go_at_call 14; refine HC.out.mono ?_; rintro e w2 ⟨rfl, hb2⟩))
      all_goals
        have h3 := (HR.out.chg (S := []) (Chg.of_below (⟨hb2.os, hb2.tape, hb2.output, hb2.size, hb2.block⟩ : Below w1.heap.size w1 w2)) (by simp) (by simp)).open_
        have HB2 := Lib.hid hb2
        clear c0 c1 c2 f0 f1 f2 hlt hat hcn HB HD HROW HOWN hb2
        obtain ⟨A3, c3, c0, c1, c2, f0, f1, f2, hlt, hat, hcn, HB, HD, HROW, HOWN⟩ := h3
        go_wp2_with fail
        refine bodyPost_ret (results_none rfl _ _ _) rfl ?_
        rw [HT.out]
        obtain ⟨h1, h2, h3⟩ := rd_set2 11 HROW.out HOWN.out
        have HB3 : Below w1.heap.size w1 w2 := ⟨HB2.out.os, HB2.out.tape, HB2.out.output, HB2.out.size, HB2.out.block⟩
        exact ⟨rfl, HD.out _ _ _ hat h1 h2, (((Chg.refl [g] w).trans HCH.out (by simp)).trans (Chg.of_below (S := []) HB3) (by simp)).trans h3 (fun x hx => .inl hx)⟩
  · skip
    have HC := Lib.hid (crc_any (A.map (·.add f)) (s.at_ - f) (c - f) ((s.b.take s.at_).drop f) w1.drew (HP2.out hcf))
    rw [← HXX.out] at HC
    by_cases hyx : y = x
    · have e1 : ((y : Int) != (x : Int)) = false := by rw [bne_eq_false_iff_eq]; omega
      rw [if_pos hyx] at HT
      clear hyx
      go_region_law (first
        | (go_simp; go_at_call 14; refine HC.out.mono ?_; rintro e w2 ⟨rfl, hb2⟩))
      all_goals
        have h3 := (HR.out.chg (S := []) (Chg.of_below (⟨hb2.os, hb2.tape, hb2.output, hb2.size, hb2.block⟩ : Below w1.heap.size w1 w2)) (by simp) (by simp)).open_
        have HB2 := Lib.hid hb2
        clear c0 c1 c2 f0 f1 f2 hlt hat hcn HB HD HROW HOWN hb2
        obtain ⟨A3, c3, c0, c1, c2, f0, f1, f2, hlt, hat, hcn, HB, HD, HROW, HOWN⟩ := h3
        go_wp2_with fail
        go_end0
        rw [HT.out]
        obtain ⟨h1, h2, h3⟩ := rd_set1 (s.at_ + 4) HROW.out HOWN.out
        have HB3 : Below w1.heap.size w1 w2 := ⟨HB2.out.os, HB2.out.tape, HB2.out.output, HB2.out.size, HB2.out.block⟩
        exact ⟨rfl, HD.out _ _ _ hs h1 h2, (((Chg.refl [g] w).trans HCH.out (by simp)).trans (Chg.of_below (S := []) HB3) (by simp)).trans h3 (fun x hx => .inl hx)⟩
    · have e1 : ((y : Int) != (x : Int)) = true := by rw [bne_iff_ne]; omega
      rw [if_neg hyx] at HT
      clear hyx
      go_region_law (first
        | (go_simp; go_at_call 14; refine HC.out.mono ?_; rintro e w2 ⟨rfl, hb2⟩))
      all_goals
        have h3 := (HR.out.chg (S := []) (Chg.of_below (⟨hb2.os, hb2.tape, hb2.output, hb2.size, hb2.block⟩ : Below w1.heap.size w1 w2)) (by simp) (by simp)).open_
        have HB2 := Lib.hid hb2
        clear c0 c1 c2 f0 f1 f2 hlt hat hcn HB HD HROW HOWN hb2
        obtain ⟨A3, c3, c0, c1, c2, f0, f1, f2, hlt, hat, hcn, HB, HD, HROW, HOWN⟩ := h3
        go_wp2_with fail
        refine bodyPost_ret (results_none rfl _ _ _) rfl ?_
        rw [HT.out]
        obtain ⟨h1, h2, h3⟩ := rd_set2 11 HROW.out HOWN.out
        have HB3 : Below w1.heap.size w1 w2 := ⟨HB2.out.os, HB2.out.tape, HB2.out.output, HB2.out.size, HB2.out.block⟩
        exact ⟨rfl, HD.out _ _ _ hat h1 h2, (((Chg.refl [g] w).trans HCH.out (by simp)).trans (Chg.of_below (S := []) HB3) (by simp)).trans h3 (fun x hx => .inl hx)⟩
theorem rseal_any (g : Nat) (r : Option Nat) (s : Wd.R) (fr : Int) (w : World) (hw : Rd w g r s) (hl : s.b.length ≤ 70368744177664) :
    Calls Try.prog 39 #[.pointer (some ⟨g, 0, none⟩), .int .i64 fr] w fun e w' => e = .returned (.tuple #[]) ∧ Rd w' g r (s.sealUp fr) ∧ Chg [g] w w' := by
  by_cases he : s.e = 0
  · by_cases h0 : 0 ≤ fr ∧ fr ≤ s.at_
    · obtain ⟨k, rfl⟩ : ∃ k : Nat, fr = k := ⟨fr.toNat, by omega⟩
      by_cases hs : s.at_ + 4 ≤ s.b.length
      · exact rseal_read g r s k w hw hl he (by omega) hs
      · exact rseal_short g r s k w hw he (by omega) (by omega)
    · exact rseal_arg g r s fr w hw he h0
  · exact rseal_refused g r s fr w hw he
end Go.Proofs.Ytajkiglogfahfaa
