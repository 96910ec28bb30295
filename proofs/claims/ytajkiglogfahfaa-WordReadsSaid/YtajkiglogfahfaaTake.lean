/- The walks of the reader's take over numbers of each size, and of Byte, Half, Word, Long. -/
import Derived.Test.YtajkiglogfahfaaReader
set_option linter.unusedVariables false
set_option linter.unusedSimpArgs false
namespace Go.Proofs.Ytajkiglogfahfaa
open Go.RowKit

theorem take_refused (s : Wd.R) (k : Nat) (he : s.e ≠ 0) : s.take k = (s, 0) := by unfold Wd.R.take Wd.R.next; rw [if_pos he]
theorem take_short (s : Wd.R) (k : Nat) (he : s.e = 0) (h : s.b.length < s.at_ + k) : s.take k = (⟨s.b, s.at_, 10⟩, 0) := by unfold Wd.R.take Wd.R.next; rw [if_neg (by omega), if_pos (by omega)]
theorem take_ok (s : Wd.R) (k : Nat) (he : s.e = 0) (h : s.at_ + k ≤ s.b.length) : s.take k = (⟨s.b, s.at_ + k, s.e⟩, Wd.unle ((s.b.drop s.at_).take k)) := by
  unfold Wd.R.take Wd.R.next; rw [if_neg (by omega), if_neg (by omega)]; simp
theorem len_of_next {s : Wd.R} {k : Nat} (h : s.at_ + 0 + k ≤ s.b.length) : ((s.b.drop (s.at_ + 0)).take k).length = k := by simp; omega

set_option maxRecDepth 100000 in
set_option maxHeartbeats 400000 in
theorem take_uint8 (g : Nat) (r : Option Nat) (s : Wd.R) (w : World) (hw : Rd w g r s) (hl : s.b.length ≤ 70368744177664) :
    Calls Try.prog 123 #[.pointer (some ⟨g, 0, none⟩)] w fun e w' => e = .returned (.int .u8 ((s.take 1).2 : Nat)) ∧ Rd w' g r (s.take 1).1 ∧ Chg [g] w w' := by
  have hlt : g < w.heap.size := by obtain ⟨_, _, _, _, _, _, _, _, h, _⟩ := hw.open_; exact h
  by_cases he : s.e = 0
  · by_cases hs : s.at_ + 1 ≤ s.b.length
    · have HT := Lib.hid (take_ok s 1 he hs)
      have HN := Lib.hid (next_ok g r s 0 1 w hw he hs)
      have hln := len_of_next (s := s) (k := 1) hs
      obtain ⟨X, hX⟩ : ∃ X, X = (s.b.drop (s.at_ + 0)).take 1 := ⟨_, rfl⟩
      rw [← hX] at HN hln
      have HX := Lib.hid hX
      have HL := Lib.hid hln
      clear hw he hX hln
      go_enter Try.func123, Try.ntmps123
      go_wp2_with (first
        | (go_at_call 135; refine (width_uint8 _).mono ?_; rintro e w' ⟨rfl, rfl⟩)
        | fail)
      refine HN.out.mono ?_
      rintro e w1 ⟨⟨A1, c1, rfl, hc1, hB1⟩, hr1, hch1⟩
      obtain ⟨A, c, d0, d1, d2, f0, f1, f2, hlt1, hat, hcn, HB, HD, HROW, HOWN⟩ := hr1.open_
      have HG := Lib.hid (get_uint8 A1 1 c1 X w1 hB1.b.1 (Nat.le_refl _) hc1)
      have HCH := Lib.hid hch1
      clear hr1 hB1 hch1
      go_wp2_with fail
      refine HG.out.mono ?_
      rintro e w2 ⟨rfl, rfl⟩
      go_wp2_with fail
      go_ret
      rw [HT.out]
      obtain ⟨h1, h2, h3⟩ := rd_set1 (s.at_ + 1) HROW.out HOWN.out
      refine ⟨?_, HD.out _ _ _ hs h1 h2, ((Chg.refl [g] _).trans HCH.out (by simp)).trans h3 (fun x hx => .inl hx)⟩
      rw [List.take_of_length_le (by have := HL.out; omega), HX.out]
      rfl
    · have HT := Lib.hid (take_short s 1 he (by omega))
      have HN := Lib.hid (next_short g r s 0 1 w hw he (by omega) (by omega) (by omega))
      clear hw he
      go_enter Try.func123, Try.ntmps123
      go_wp2_with (first
        | (go_at_call 135; refine (width_uint8 _).mono ?_; rintro e w' ⟨rfl, rfl⟩)
        | fail)
      refine HN.out.mono ?_
      rintro e w1 ⟨rfl, hr1, hch1⟩
      have HR := Lib.hid hr1; have HCH := Lib.hid hch1
      clear hr1 hch1
      go_wp2_with fail
      go_ret
      rw [HT.out]
      exact ⟨rfl, HR.out, HCH.out⟩
  · have HT := Lib.hid (take_refused s 1 he)
    have HN := Lib.hid (next_refused g r s 0 1 w hw he)
    clear hw he
    go_enter Try.func123, Try.ntmps123
    go_wp2_with (first
      | (go_at_call 135; refine (width_uint8 _).mono ?_; rintro e w' ⟨rfl, rfl⟩)
      | fail)
    refine HN.out.mono ?_
    rintro e w1 ⟨rfl, hr1, hch1⟩
    have HR := Lib.hid hr1; have HCH := Lib.hid hch1
    clear hr1 hch1
    go_wp2_with fail
    go_ret
    rw [HT.out]
    exact ⟨rfl, HR.out, ((Chg.refl _ _).trans HCH.out (by simp))⟩
set_option maxHeartbeats 400000 in
theorem ruint8_any (g : Nat) (r : Option Nat) (s : Wd.R) (w : World) (hw : Rd w g r s) (hl : s.b.length ≤ 70368744177664) :
    Calls Try.prog 100 #[.pointer (some ⟨g, 0, none⟩)] w fun e w' => e = .returned (.int .u8 ((s.take 1).2 : Nat)) ∧ Rd w' g r (s.take 1).1 ∧ Chg [g] w w' := by
  have HT := Lib.hid (take_uint8 g r s w hw hl)
  clear hw
  go_enter Try.func100, Try.ntmps100
  go_wp2_with fail
  refine HT.out.mono ?_
  rintro e w1 ⟨rfl, hr1, hch1⟩
  have HR := Lib.hid hr1; have HCH := Lib.hid hch1
  clear hr1 hch1
  go_wp2_with fail
  go_ret
  exact ⟨rfl, HR.out, HCH.out⟩

set_option maxRecDepth 100000 in
set_option maxHeartbeats 400000 in
theorem take_uint16 (g : Nat) (r : Option Nat) (s : Wd.R) (w : World) (hw : Rd w g r s) (hl : s.b.length ≤ 70368744177664) :
    Calls Try.prog 124 #[.pointer (some ⟨g, 0, none⟩)] w fun e w' => e = .returned (.int .u16 ((s.take 2).2 : Nat)) ∧ Rd w' g r (s.take 2).1 ∧ Chg [g] w w' := by
  have hlt : g < w.heap.size := by obtain ⟨_, _, _, _, _, _, _, _, h, _⟩ := hw.open_; exact h
  by_cases he : s.e = 0
  · by_cases hs : s.at_ + 2 ≤ s.b.length
    · have HT := Lib.hid (take_ok s 2 he hs)
      have HN := Lib.hid (next_ok g r s 0 2 w hw he hs)
      have hln := len_of_next (s := s) (k := 2) hs
      obtain ⟨X, hX⟩ : ∃ X, X = (s.b.drop (s.at_ + 0)).take 2 := ⟨_, rfl⟩
      rw [← hX] at HN hln
      have HX := Lib.hid hX
      have HL := Lib.hid hln
      clear hw he hX hln
      go_enter Try.func124, Try.ntmps124
      go_wp2_with (first
        | (go_at_call 137; refine (width_uint16 _).mono ?_; rintro e w' ⟨rfl, rfl⟩)
        | fail)
      refine HN.out.mono ?_
      rintro e w1 ⟨⟨A1, c1, rfl, hc1, hB1⟩, hr1, hch1⟩
      obtain ⟨A, c, d0, d1, d2, f0, f1, f2, hlt1, hat, hcn, HB, HD, HROW, HOWN⟩ := hr1.open_
      have HG := Lib.hid (get_uint16 A1 2 c1 X w1 hB1.b.1 (Nat.le_refl _) hc1)
      have HCH := Lib.hid hch1
      clear hr1 hB1 hch1
      go_wp2_with fail
      refine HG.out.mono ?_
      rintro e w2 ⟨rfl, rfl⟩
      go_wp2_with fail
      go_ret
      rw [HT.out]
      obtain ⟨h1, h2, h3⟩ := rd_set1 (s.at_ + 2) HROW.out HOWN.out
      refine ⟨?_, HD.out _ _ _ hs h1 h2, ((Chg.refl [g] _).trans HCH.out (by simp)).trans h3 (fun x hx => .inl hx)⟩
      rw [List.take_of_length_le (by have := HL.out; omega), HX.out]
      rfl
    · have HT := Lib.hid (take_short s 2 he (by omega))
      have HN := Lib.hid (next_short g r s 0 2 w hw he (by omega) (by omega) (by omega))
      clear hw he
      go_enter Try.func124, Try.ntmps124
      go_wp2_with (first
        | (go_at_call 137; refine (width_uint16 _).mono ?_; rintro e w' ⟨rfl, rfl⟩)
        | fail)
      refine HN.out.mono ?_
      rintro e w1 ⟨rfl, hr1, hch1⟩
      have HR := Lib.hid hr1; have HCH := Lib.hid hch1
      clear hr1 hch1
      go_wp2_with fail
      go_ret
      rw [HT.out]
      exact ⟨rfl, HR.out, HCH.out⟩
  · have HT := Lib.hid (take_refused s 2 he)
    have HN := Lib.hid (next_refused g r s 0 2 w hw he)
    clear hw he
    go_enter Try.func124, Try.ntmps124
    go_wp2_with (first
      | (go_at_call 137; refine (width_uint16 _).mono ?_; rintro e w' ⟨rfl, rfl⟩)
      | fail)
    refine HN.out.mono ?_
    rintro e w1 ⟨rfl, hr1, hch1⟩
    have HR := Lib.hid hr1; have HCH := Lib.hid hch1
    clear hr1 hch1
    go_wp2_with fail
    go_ret
    rw [HT.out]
    exact ⟨rfl, HR.out, ((Chg.refl _ _).trans HCH.out (by simp))⟩
set_option maxHeartbeats 400000 in
theorem ruint16_any (g : Nat) (r : Option Nat) (s : Wd.R) (w : World) (hw : Rd w g r s) (hl : s.b.length ≤ 70368744177664) :
    Calls Try.prog 101 #[.pointer (some ⟨g, 0, none⟩)] w fun e w' => e = .returned (.int .u16 ((s.take 2).2 : Nat)) ∧ Rd w' g r (s.take 2).1 ∧ Chg [g] w w' := by
  have HT := Lib.hid (take_uint16 g r s w hw hl)
  clear hw
  go_enter Try.func101, Try.ntmps101
  go_wp2_with fail
  refine HT.out.mono ?_
  rintro e w1 ⟨rfl, hr1, hch1⟩
  have HR := Lib.hid hr1; have HCH := Lib.hid hch1
  clear hr1 hch1
  go_wp2_with fail
  go_ret
  exact ⟨rfl, HR.out, HCH.out⟩

set_option maxRecDepth 100000 in
set_option maxHeartbeats 400000 in
theorem take_uint32 (g : Nat) (r : Option Nat) (s : Wd.R) (w : World) (hw : Rd w g r s) (hl : s.b.length ≤ 70368744177664) :
    Calls Try.prog 94 #[.pointer (some ⟨g, 0, none⟩)] w fun e w' => e = .returned (.int .u32 ((s.take 4).2 : Nat)) ∧ Rd w' g r (s.take 4).1 ∧ Chg [g] w w' := by
  have hlt : g < w.heap.size := by obtain ⟨_, _, _, _, _, _, _, _, h, _⟩ := hw.open_; exact h
  by_cases he : s.e = 0
  · by_cases hs : s.at_ + 4 ≤ s.b.length
    · have HT := Lib.hid (take_ok s 4 he hs)
      have HN := Lib.hid (next_ok g r s 0 4 w hw he hs)
      have hln := len_of_next (s := s) (k := 4) hs
      obtain ⟨X, hX⟩ : ∃ X, X = (s.b.drop (s.at_ + 0)).take 4 := ⟨_, rfl⟩
      rw [← hX] at HN hln
      have HX := Lib.hid hX
      have HL := Lib.hid hln
      clear hw he hX hln
      go_enter Try.func94, Try.ntmps94
      go_wp2_with (first
        | (go_at_call 114; refine (width_uint32 _).mono ?_; rintro e w' ⟨rfl, rfl⟩)
        | fail)
      refine HN.out.mono ?_
      rintro e w1 ⟨⟨A1, c1, rfl, hc1, hB1⟩, hr1, hch1⟩
      obtain ⟨A, c, d0, d1, d2, f0, f1, f2, hlt1, hat, hcn, HB, HD, HROW, HOWN⟩ := hr1.open_
      have HG := Lib.hid (get_uint32 A1 4 c1 X w1 hB1.b.1 (Nat.le_refl _) hc1)
      have HCH := Lib.hid hch1
      clear hr1 hB1 hch1
      go_wp2_with fail
      refine HG.out.mono ?_
      rintro e w2 ⟨rfl, rfl⟩
      go_wp2_with fail
      go_ret
      rw [HT.out]
      obtain ⟨h1, h2, h3⟩ := rd_set1 (s.at_ + 4) HROW.out HOWN.out
      refine ⟨?_, HD.out _ _ _ hs h1 h2, ((Chg.refl [g] _).trans HCH.out (by simp)).trans h3 (fun x hx => .inl hx)⟩
      rw [List.take_of_length_le (by have := HL.out; omega), HX.out]
      rfl
    · have HT := Lib.hid (take_short s 4 he (by omega))
      have HN := Lib.hid (next_short g r s 0 4 w hw he (by omega) (by omega) (by omega))
      clear hw he
      go_enter Try.func94, Try.ntmps94
      go_wp2_with (first
        | (go_at_call 114; refine (width_uint32 _).mono ?_; rintro e w' ⟨rfl, rfl⟩)
        | fail)
      refine HN.out.mono ?_
      rintro e w1 ⟨rfl, hr1, hch1⟩
      have HR := Lib.hid hr1; have HCH := Lib.hid hch1
      clear hr1 hch1
      go_wp2_with fail
      go_ret
      rw [HT.out]
      exact ⟨rfl, HR.out, HCH.out⟩
  · have HT := Lib.hid (take_refused s 4 he)
    have HN := Lib.hid (next_refused g r s 0 4 w hw he)
    clear hw he
    go_enter Try.func94, Try.ntmps94
    go_wp2_with (first
      | (go_at_call 114; refine (width_uint32 _).mono ?_; rintro e w' ⟨rfl, rfl⟩)
      | fail)
    refine HN.out.mono ?_
    rintro e w1 ⟨rfl, hr1, hch1⟩
    have HR := Lib.hid hr1; have HCH := Lib.hid hch1
    clear hr1 hch1
    go_wp2_with fail
    go_ret
    rw [HT.out]
    exact ⟨rfl, HR.out, ((Chg.refl _ _).trans HCH.out (by simp))⟩
set_option maxHeartbeats 400000 in
theorem ruint32_any (g : Nat) (r : Option Nat) (s : Wd.R) (w : World) (hw : Rd w g r s) (hl : s.b.length ≤ 70368744177664) :
    Calls Try.prog 51 #[.pointer (some ⟨g, 0, none⟩)] w fun e w' => e = .returned (.int .u32 ((s.take 4).2 : Nat)) ∧ Rd w' g r (s.take 4).1 ∧ Chg [g] w w' := by
  have HT := Lib.hid (take_uint32 g r s w hw hl)
  clear hw
  go_enter Try.func51, Try.ntmps51
  go_wp2_with fail
  refine HT.out.mono ?_
  rintro e w1 ⟨rfl, hr1, hch1⟩
  have HR := Lib.hid hr1; have HCH := Lib.hid hch1
  clear hr1 hch1
  go_wp2_with fail
  go_ret
  exact ⟨rfl, HR.out, HCH.out⟩

set_option maxRecDepth 100000 in
set_option maxHeartbeats 400000 in
theorem take_uint64 (g : Nat) (r : Option Nat) (s : Wd.R) (w : World) (hw : Rd w g r s) (hl : s.b.length ≤ 70368744177664) :
    Calls Try.prog 125 #[.pointer (some ⟨g, 0, none⟩)] w fun e w' => e = .returned (.int .u64 ((s.take 8).2 : Nat)) ∧ Rd w' g r (s.take 8).1 ∧ Chg [g] w w' := by
  have hlt : g < w.heap.size := by obtain ⟨_, _, _, _, _, _, _, _, h, _⟩ := hw.open_; exact h
  by_cases he : s.e = 0
  · by_cases hs : s.at_ + 8 ≤ s.b.length
    · have HT := Lib.hid (take_ok s 8 he hs)
      have HN := Lib.hid (next_ok g r s 0 8 w hw he hs)
      have hln := len_of_next (s := s) (k := 8) hs
      obtain ⟨X, hX⟩ : ∃ X, X = (s.b.drop (s.at_ + 0)).take 8 := ⟨_, rfl⟩
      rw [← hX] at HN hln
      have HX := Lib.hid hX
      have HL := Lib.hid hln
      clear hw he hX hln
      go_enter Try.func125, Try.ntmps125
      go_wp2_with (first
        | (go_at_call 138; refine (width_uint64 _).mono ?_; rintro e w' ⟨rfl, rfl⟩)
        | fail)
      refine HN.out.mono ?_
      rintro e w1 ⟨⟨A1, c1, rfl, hc1, hB1⟩, hr1, hch1⟩
      obtain ⟨A, c, d0, d1, d2, f0, f1, f2, hlt1, hat, hcn, HB, HD, HROW, HOWN⟩ := hr1.open_
      have HG := Lib.hid (get_uint64 A1 8 c1 X w1 hB1.b.1 (Nat.le_refl _) hc1)
      have HCH := Lib.hid hch1
      clear hr1 hB1 hch1
      go_wp2_with fail
      refine HG.out.mono ?_
      rintro e w2 ⟨rfl, rfl⟩
      go_wp2_with fail
      go_ret
      rw [HT.out]
      obtain ⟨h1, h2, h3⟩ := rd_set1 (s.at_ + 8) HROW.out HOWN.out
      refine ⟨?_, HD.out _ _ _ hs h1 h2, ((Chg.refl [g] _).trans HCH.out (by simp)).trans h3 (fun x hx => .inl hx)⟩
      rw [List.take_of_length_le (by have := HL.out; omega), HX.out]
      rfl
    · have HT := Lib.hid (take_short s 8 he (by omega))
      have HN := Lib.hid (next_short g r s 0 8 w hw he (by omega) (by omega) (by omega))
      clear hw he
      go_enter Try.func125, Try.ntmps125
      go_wp2_with (first
        | (go_at_call 138; refine (width_uint64 _).mono ?_; rintro e w' ⟨rfl, rfl⟩)
        | fail)
      refine HN.out.mono ?_
      rintro e w1 ⟨rfl, hr1, hch1⟩
      have HR := Lib.hid hr1; have HCH := Lib.hid hch1
      clear hr1 hch1
      go_wp2_with fail
      go_ret
      rw [HT.out]
      exact ⟨rfl, HR.out, HCH.out⟩
  · have HT := Lib.hid (take_refused s 8 he)
    have HN := Lib.hid (next_refused g r s 0 8 w hw he)
    clear hw he
    go_enter Try.func125, Try.ntmps125
    go_wp2_with (first
      | (go_at_call 138; refine (width_uint64 _).mono ?_; rintro e w' ⟨rfl, rfl⟩)
      | fail)
    refine HN.out.mono ?_
    rintro e w1 ⟨rfl, hr1, hch1⟩
    have HR := Lib.hid hr1; have HCH := Lib.hid hch1
    clear hr1 hch1
    go_wp2_with fail
    go_ret
    rw [HT.out]
    exact ⟨rfl, HR.out, ((Chg.refl _ _).trans HCH.out (by simp))⟩
set_option maxHeartbeats 400000 in
theorem ruint64_any (g : Nat) (r : Option Nat) (s : Wd.R) (w : World) (hw : Rd w g r s) (hl : s.b.length ≤ 70368744177664) :
    Calls Try.prog 102 #[.pointer (some ⟨g, 0, none⟩)] w fun e w' => e = .returned (.int .u64 ((s.take 8).2 : Nat)) ∧ Rd w' g r (s.take 8).1 ∧ Chg [g] w w' := by
  have HT := Lib.hid (take_uint64 g r s w hw hl)
  clear hw
  go_enter Try.func102, Try.ntmps102
  go_wp2_with fail
  refine HT.out.mono ?_
  rintro e w1 ⟨rfl, hr1, hch1⟩
  have HR := Lib.hid hr1; have HCH := Lib.hid hch1
  clear hr1 hch1
  go_wp2_with fail
  go_ret
  exact ⟨rfl, HR.out, HCH.out⟩
end Go.Proofs.Ytajkiglogfahfaa
