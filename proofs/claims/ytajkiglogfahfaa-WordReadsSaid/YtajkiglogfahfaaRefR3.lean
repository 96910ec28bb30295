/- The walks of the document's reader: Text, Pad, Seal. -/
import Derived.Test.YtajkiglogfahfaaRefR2
set_option linter.unusedVariables false
set_option linter.unusedSimpArgs false
namespace Go.Proofs.Ytajkiglogfahfaa
open Go.RowKit

namespace Wd
theorem take_short (s : R) (k : Nat) (he : s.e = 0) (hl : s.b.length < s.at_ + k) : s.take k = (⟨s.b, s.at_, 10⟩, 0) := by
  unfold R.take R.next
  simp [he, hl]
theorem take_ok (s : R) (k : Nat) (he : s.e = 0) (hl : ¬ s.b.length < s.at_ + k) : s.take k = (⟨s.b, s.at_ + k, 0⟩, unle ((s.b.drop s.at_).take k)) := by
  unfold R.take R.next
  simp [he, hl]
theorem text_eq (s : R) (most : Int) (he : s.e = 0) :
    s.text most = if (s.take 2).1.e = 0 ∧ most < ((s.take 2).2 : Int) then (⟨s.b, s.at_, 3⟩, []) else (((s.take 2).1.bytes ((s.take 2).2 : Int)).1.dback s.at_, ((s.take 2).1.bytes ((s.take 2).2 : Int)).2) := by
  by_cases hl : s.b.length < s.at_ + 2
  · rw [take_short s 2 he hl]
    unfold R.text R.next R.bytes R.dback
    simp [he, hl]
  · rw [take_ok s 2 he hl]
    unfold R.text R.next R.bytes R.dback
    obtain ⟨v, hv⟩ : ∃ v, v = unle ((s.b.drop s.at_).take 2) := ⟨_, rfl⟩
    by_cases hm : most < (v : Int)
    · simp [he, hl, ← hv, hm]
    · have h0 : ¬ ((v : Int) < 0) := by omega
      by_cases hl2 : s.b.length < s.at_ + 2 + v
      · simp [he, hl, ← hv, hm, h0, hl2, R.next]
      · simp [he, hl, ← hv, hm, h0, hl2, R.next]
theorem text_not' (s : R) (most : Int) (he : s.e ≠ 0) : s.text most = (s, []) := by
  unfold R.text R.next
  simp [he]
theorem take_at (s : R) (k : Nat) (hat : s.at_ ≤ s.b.length) : (s.take k).1.b = s.b ∧ (s.take k).1.at_ ≤ s.b.length := by
  by_cases he : s.e = 0
  · by_cases hl : s.b.length < s.at_ + k
    · rw [take_short s k he hl]; exact ⟨rfl, hat⟩
    · rw [take_ok s k he hl]; exact ⟨rfl, by simp only; omega⟩
  · have : s.take k = (s, 0) := by unfold R.take R.next; simp [he]
    rw [this]; exact ⟨rfl, hat⟩
theorem take_lt (s : R) (k : Nat) (hb : ∀ b ∈ s.b, b < 256) : (s.take k).2 < 256 ^ k := by
  by_cases he : s.e = 0
  · by_cases hl : s.b.length < s.at_ + k
    · rw [take_short s k he hl]; exact Nat.pow_pos (by decide)
    · rw [take_ok s k he hl]
      have h := unle_lt ((s.b.drop s.at_).take k) (fun b h => hb b (List.mem_of_mem_drop (List.mem_of_mem_take h)))
      refine Nat.lt_of_lt_of_le h (Nat.pow_le_pow_right (by decide) (by simp; omega))
  · have : s.take k = (s, 0) := by unfold R.take R.next; simp [he]
    rw [this]; exact Nat.pow_pos (by decide)
end Wd
theorem bytes_b (s : Wd.R) (n : Int) : (s.bytes n).1.b = s.b := by
  by_cases he : s.e = 0
  · by_cases h0 : n < 0
    · rw [dbytes_neg s n he h0]
    · obtain ⟨m, rfl⟩ : ∃ m : Nat, n = m := ⟨n.toNat, by omega⟩
      rw [dbytes_eq s m he]
      exact Wd.dtake_b s m
  · rw [dbytes_not s n he]
set_option maxRecDepth 100000 in
set_option maxHeartbeats 1000000 in
theorem drtext_not (B g c : Nat) (most : Int) (A : Option Addr) (s : Wd.R) (w : World) (hw : Ry w B g A c s) (hB : B ≤ w.heap.size) (he : s.e ≠ 0) :
    Calls Try.prog 117 #[.pointer (some ⟨g, 0, none⟩), .int .i64 most] w fun e w' => e = .returned (.string (bs2s (s.text most).2)) ∧ Ry w' B g A c (s.text most).1 ∧ Chg [g] w w' := by
  have c1 := hw.1.cell 1; have c2 := hw.1.cell 2
  simp only [List.getElem?_cons_zero, List.getElem?_cons_succ] at c1 c2
  have hlt := hw.1.lt
  have he2 : ((s.e : Int) != 0) = true := by rw [bne_iff_ne]; omega
  have HE := Lib.hid (Wd.text_not' s most he)
  have HW := Lib.hid hw
  clear hw he
  go_enter Try.func117, Try.ntmps117
  go_wp2_with fail
  go_ret
  rw [HE.out]
  exact ⟨rfl, HW.out, Chg.refl _ _⟩
set_option maxRecDepth 100000 in
set_option maxHeartbeats 1000000 in
theorem drtext_ok (B g c : Nat) (most : Int) (A : Option Addr) (s : Wd.R) (w : World) (hw : Ry w B g A c s) (hB : B ≤ w.heap.size) (he : s.e = 0) (hmx : most ≤ 9223372036854775807) (hl : s.b.length ≤ 70368744177664) :
    Calls Try.prog 117 #[.pointer (some ⟨g, 0, none⟩), .int .i64 most] w fun e w' => e = .returned (.string (bs2s (s.text most).2)) ∧ Ry w' B g A c (s.text most).1 ∧ Chg [g] w w' := by
  have c1 := hw.1.cell 1; have c2 := hw.1.cell 2
  simp only [List.getElem?_cons_zero, List.getElem?_cons_succ] at c1 c2
  have hlt := hw.1.lt
  rw [he] at c2
  have HE := Lib.hid (Wd.text_eq s most he)
  have HN := Lib.hid (drnum_any B g c 2 A s w hw hB (by omega) (by omega))
  have hta := Wd.take_at s 2 hw.2.2.2.1
  have htl := Wd.take_lt s 2 hw.2.1.2.1
  have hat := hw.2.2.2.1
  obtain ⟨⟨xb, xa, xe⟩, v, ht⟩ : ∃ s1 v, s.take 2 = (s1, v) := ⟨_, _, rfl⟩
  rw [ht] at HE HN hta htl
  simp only at HE HN hta htl
  obtain ⟨hxb, hxa⟩ := hta
  have HXB := Lib.hid hxb
  have HAT := Lib.hid hat
  have HL := Lib.hid hl
  have hvl : v < 65536 := by simpa using htl
  clear hw he ht htl hxb hxa hat
  go_enter Try.func117, Try.ntmps117
  go_wp2_with fail
  refine HN.out.mono ?_
  rintro e w1 ⟨rfl, hr, hc⟩
  have d2 := hr.1.cell 2
  have f2 := hr.1.frozen 2
  simp only [List.getElem?_cons_zero, List.getElem?_cons_succ] at d2
  have hlt1 := hr.1.lt
  have hs1 := hc.size
  have HR1 := Lib.hid hr; have HC1 := Lib.hid hc
  clear hr hc c1 c2
  by_cases hbad : xe = 0 ∧ most < (v : Int)
  · obtain ⟨hx0, hmv⟩ := hbad
    have h1 : decide (most < (v : Int)) = true := decide_eq_true hmv
    have HX : Hid (s.text most = (⟨s.b, s.at_, 3⟩, [])) := Lib.hid (by rw [HE.out, if_pos ⟨hx0, hmv⟩])
    rw [hx0] at d2
    have hc2 : Chg [g] w1 (w1.setCell ⟨g, 2, none⟩ (.int .i64 3)) := (Chg.refl [g] w1).set_ (p := ⟨g, 2, none⟩) (.inl (by simp)) _
    have hr2 : Ry (w1.setCell ⟨g, 2, none⟩ (.int .i64 3)) B g A c ⟨xb, xa, 3⟩ := HR1.out.turn hc2 (by omega) (a := xa) (e := 3) (HR1.out.1.set_ 2 _) HR1.out.2.2.2.1
    have HBY := Lib.hid (drbytes_not B g c (v : Int) A ⟨xb, xa, 3⟩ _ hr2 (by simpa [World.setCell] using (by omega : B ≤ w1.heap.size)) (by simp))
    have HC2 := Lib.hid hc2
    clear hr2 hc2 hx0
    go_wp2_with fail
    refine HBY.out.mono ?_
    rintro e w3 ⟨rfl, hr3, hc3⟩
    have hcv := run_string_of 22 9 none 0 0 0 [] w3 Try.underlying22 Try.underlying9 (isB_nil _ _)
    have HBK := Lib.hid (drback_any B g c s.at_ A ⟨xb, xa, 3⟩ w3 hr3 (by have := hc3.size; have e5 : (w1.setCell ⟨g, 2, none⟩ (.int .i64 3)).heap.size = w1.heap.size := (by simp [World.setCell]); omega) (by simp only; rw [HXB.out]; exact HAT.out))
    have HC3 := Lib.hid hc3
    clear hr3 hc3
    go_wp2_with fail
    refine HBK.out.mono ?_
    rintro e w4 ⟨rfl, hr4, hc4⟩
    have HR4 := Lib.hid hr4; have HC4 := Lib.hid hc4
    clear hr4 hc4 hcv
    go_wp2_with fail
    go_ret
    rw [HX.out]
    refine ⟨rfl, ?_, ((HC1.out.trans HC2.out (fun x hx => .inl hx)).trans HC3.out (fun x hx => .inl hx)).trans HC4.out (fun x hx => .inl hx)⟩
    have h := HR4.out
    unfold Wd.R.dback at h
    rw [if_pos (by simp)] at h
    simp only at h
    rw [HXB.out] at h
    exact h
  · have HX : Hid (s.text most = ((Wd.R.bytes ⟨xb, xa, xe⟩ (v : Int)).1.dback s.at_, (Wd.R.bytes ⟨xb, xa, xe⟩ (v : Int)).2)) := Lib.hid (by rw [HE.out, if_neg hbad])
    have HBY := Lib.hid (drbytes_any B g c (v : Int) A ⟨xb, xa, xe⟩ w1 HR1.out (by omega) (by omega) (by simp only; rw [HXB.out]; exact HL.out))
    have key : (¬ xe = 0 ∧ ((xe : Int) == 0) = false) ∨ (xe = 0 ∧ decide (most < (v : Int)) = false) := by
      by_cases hx : xe = 0
      · exact .inr ⟨hx, decide_eq_false fun h => hbad ⟨hx, h⟩⟩
      · exact .inl ⟨hx, beq_eq_false_iff_ne.2 (by omega)⟩
    clear hbad
    rcases key with ⟨k0, k1⟩ | ⟨k0, k1⟩
    all_goals
      first | (rw [k0] at d2) | skip
      clear k0
      go_wp2_with fail
      refine HBY.out.mono ?_
      rintro e w3 ⟨⟨A3, m3, c3, rfl, hb3⟩, hr3, hc3⟩
      have hcv := run_string_of 22 9 A3 m3 c3 w3.heap.size _ w3 Try.underlying22 Try.underlying9 hb3
      have HBK := Lib.hid (drback_any B g c s.at_ A _ w3 hr3 (by have := hc3.size; omega) (by rw [bytes_b]; simp only; rw [HXB.out]; exact HAT.out))
      have HC3 := Lib.hid hc3
      clear hr3 hc3 hb3
      go_wp2_with fail
      refine HBK.out.mono ?_
      rintro e w4 ⟨rfl, hr4, hc4⟩
      have HR4 := Lib.hid hr4; have HC4 := Lib.hid hc4
      clear hr4 hc4 hcv
      go_wp2_with fail
      go_ret
      rw [HX.out]
      exact ⟨rfl, HR4.out, (HC1.out.trans HC3.out (fun x hx => .inl hx)).trans HC4.out (fun x hx => .inl hx)⟩
theorem drtext_any (B g c : Nat) (most : Int) (A : Option Addr) (s : Wd.R) (w : World) (hw : Ry w B g A c s) (hB : B ≤ w.heap.size) (hmx : most ≤ 9223372036854775807) (hl : s.b.length ≤ 70368744177664) :
    Calls Try.prog 117 #[.pointer (some ⟨g, 0, none⟩), .int .i64 most] w fun e w' => e = .returned (.string (bs2s (s.text most).2)) ∧ Ry w' B g A c (s.text most).1 ∧ Chg [g] w w' := by
  by_cases he : s.e = 0
  · exact drtext_ok B g c most A s w hw hB he hmx hl
  · exact drtext_not B g c most A s w hw hB he
end Go.Proofs.Ytajkiglogfahfaa
