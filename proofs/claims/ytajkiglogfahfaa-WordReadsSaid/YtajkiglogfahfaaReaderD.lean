/- The walks of the reader's Text and Pad. -/
import Derived.Test.YtajkiglogfahfaaReaderC
import Derived.Test.YtajkiglogfahfaaWriterD
set_option linter.unusedVariables false
set_option linter.unusedSimpArgs false
namespace Go.Proofs.Ytajkiglogfahfaa
open Go.RowKit

theorem rtext_refused (s : Wd.R) (most : Int) (he : s.e ≠ 0) : s.text most = (s, []) := by unfold Wd.R.text Wd.R.next; rw [if_pos he]
theorem rtext_short (s : Wd.R) (most : Int) (he : s.e = 0) (h : s.b.length < s.at_ + 2) : s.text most = (⟨s.b, s.at_, 10⟩, []) := by unfold Wd.R.text Wd.R.next; rw [if_neg (by omega), if_pos (by omega)]
theorem rtext_long (s : Wd.R) (most : Int) (m : Nat) (he : s.e = 0) (h : s.at_ + 2 ≤ s.b.length) (hm : m = Wd.unle ((s.b.drop (s.at_ + 0)).take 2)) (hl : most < (m : Int)) : s.text most = (⟨s.b, s.at_, 3⟩, []) := by
  unfold Wd.R.text Wd.R.next; rw [if_neg (by omega), if_neg (by omega)]; simp only [← hm]; rw [if_pos hl]
theorem rtext_less (s : Wd.R) (most : Int) (m : Nat) (he : s.e = 0) (h : s.at_ + 2 ≤ s.b.length) (hm : m = Wd.unle ((s.b.drop (s.at_ + 0)).take 2)) (hl : ¬ most < (m : Int)) (h2 : s.b.length < s.at_ + 2 + m) : s.text most = (⟨s.b, s.at_, 10⟩, []) := by
  unfold Wd.R.text Wd.R.next; rw [if_neg (by omega), if_neg (by omega)]; simp only [← hm]; rw [if_neg hl, if_neg (by omega), if_pos h2]
theorem rtext_ok (s : Wd.R) (most : Int) (m : Nat) (he : s.e = 0) (h : s.at_ + 2 ≤ s.b.length) (hm : m = Wd.unle ((s.b.drop (s.at_ + 0)).take 2)) (hl : ¬ most < (m : Int)) (h2 : s.at_ + 2 + m ≤ s.b.length) :
    s.text most = (⟨s.b, s.at_ + 2 + m, s.e⟩, (s.b.drop (s.at_ + 2)).take m) := by
  unfold Wd.R.text Wd.R.next; rw [if_neg (by omega), if_neg (by omega)]; simp only [← hm]; rw [if_neg hl, if_neg (by omega), if_neg (by omega)]
theorem ret_str {a b : ByteArray} (h : a = b) : Ending.returned (.string a) = .returned (.string b) := by rw [h]

set_option maxRecDepth 100000 in
set_option maxHeartbeats 400000 in
theorem rtext_a (g : Nat) (r : Option Nat) (s : Wd.R) (most : Int) (w : World) (hw : Rd w g r s) (he : s.e ≠ 0) :
    Calls Try.prog 103 #[.pointer (some ⟨g, 0, none⟩), .int .i64 most] w fun e w' => e = .returned (.string (bs2s (s.text most).2)) ∧ Rd w' g r (s.text most).1 ∧ Chg [g] w w' := by
  have HT := Lib.hid (rtext_refused s most he)
  have HN := Lib.hid (next_refused g r s 0 2 w hw he)
  clear hw he
  go_enter Try.func103, Try.ntmps103
  go_wp2_with fail
  refine HN.out.mono ?_
  rintro e w1 ⟨rfl, hr1, hch1⟩
  have HR := Lib.hid hr1; have HCH := Lib.hid hch1
  clear hr1 hch1
  go_wp2_with fail
  go_ret
  rw [HT.out]
  exact ⟨rfl, HR.out, (Chg.refl _ _).trans HCH.out (by simp)⟩
set_option maxRecDepth 100000 in
set_option maxHeartbeats 400000 in
theorem rtext_b (g : Nat) (r : Option Nat) (s : Wd.R) (most : Int) (w : World) (hw : Rd w g r s) (he : s.e = 0) (h : s.b.length < s.at_ + 2) :
    Calls Try.prog 103 #[.pointer (some ⟨g, 0, none⟩), .int .i64 most] w fun e w' => e = .returned (.string (bs2s (s.text most).2)) ∧ Rd w' g r (s.text most).1 ∧ Chg [g] w w' := by
  have HT := Lib.hid (rtext_short s most he h)
  have HN := Lib.hid (next_short g r s 0 2 w hw he (by omega) (by omega) (by omega))
  clear hw he
  go_enter Try.func103, Try.ntmps103
  go_wp2_with fail
  refine HN.out.mono ?_
  rintro e w1 ⟨rfl, hr1, hch1⟩
  have HR := Lib.hid hr1; have HCH := Lib.hid hch1
  clear hr1 hch1
  go_wp2_with fail
  go_ret
  rw [HT.out]
  exact ⟨rfl, HR.out, HCH.out⟩
set_option maxRecDepth 100000 in
set_option maxHeartbeats 1000000 in
theorem rtext_c (g : Nat) (r : Option Nat) (s : Wd.R) (most : Int) (w : World) (hw : Rd w g r s) (he : s.e = 0) (h : s.at_ + 2 ≤ s.b.length) (hmx : most ≤ 9223372036854775807) (hl : s.b.length ≤ 70368744177664) :
    Calls Try.prog 103 #[.pointer (some ⟨g, 0, none⟩), .int .i64 most] w fun e w' => e = .returned (.string (bs2s (s.text most).2)) ∧ Rd w' g r (s.text most).1 ∧ Chg [g] w w' := by
  have HN := Lib.hid (next_ok g r s 0 2 w hw he h)
  obtain ⟨X, hX⟩ : ∃ X, X = (s.b.drop (s.at_ + 0)).take 2 := ⟨_, rfl⟩
  obtain ⟨m, hm⟩ : ∃ m, m = Wd.unle X := ⟨_, rfl⟩
  have hX2 : X.length = 2 := by rw [hX]; exact len_of_next h
  have hml : m < 65536 := by
    have hb : ∀ b ∈ X, b < 256 := by
      obtain ⟨_, _, _, _, _, hbs, _⟩ := hw
      rw [hX]
      exact fun b hb => hbs b (List.mem_of_mem_drop (List.mem_of_mem_take hb))
    have := Wd.unle_lt X hb
    rw [hX2] at this
    omega
  have hmX : m = Wd.unle ((s.b.drop (s.at_ + 0)).take 2) := by rw [hm, hX]
  have HM := Lib.hid hmX
  have HU := Lib.hid hm
  have HX2 := Lib.hid hX2
  have HE := Lib.hid he
  rw [← hX] at HN
  clear hw he hX hm hX2 hmX
  by_cases hmost : most < (m : Int)
  · have HT := Lib.hid (rtext_long s most m HE.out h HM.out hmost)
    go_enter Try.func103, Try.ntmps103
    go_wp2_with fail
    refine HN.out.mono ?_
    rintro e w1 ⟨⟨A1, c1', rfl, hc1, hB1⟩, hr1, hch1⟩
    have HG := Lib.hid (get_uint16 A1 2 c1' X w1 hB1.b.1 (Nat.le_refl _) hc1)
    obtain ⟨A, c, c0, c1, c2, f0, f1, f2, hlt, hat, hcn, HB, HD, HROW, HOWN⟩ := hr1.open_
    have HR := Lib.hid hr1; have HCH := Lib.hid hch1
    rw [List.take_of_length_le (by have := HX2.out; omega), ← HU.out] at HG
    clear hB1 hr1 hch1
    go_wp2_with fail
    refine HG.out.mono ?_
    rintro e w2 ⟨rfl, rfl⟩
    go_wp2_with fail
    go_ret
    rw [HT.out]
    obtain ⟨h1, h2, h3⟩ := rd_set2 3 HROW.out HOWN.out
    exact ⟨rfl, HD.out _ _ _ hat h1 h2, ((Chg.refl [g] w).trans HCH.out (by simp)).trans h3 (fun x hx => .inl hx)⟩
  · by_cases h2 : s.b.length < s.at_ + 2 + m
    · have HT := Lib.hid (rtext_less s most m HE.out h HM.out hmost h2)
      go_enter Try.func103, Try.ntmps103
      go_wp2_with fail
      refine HN.out.mono ?_
      rintro e w1 ⟨⟨A1, c1', rfl, hc1, hB1⟩, hr1, hch1⟩
      have HG := Lib.hid (get_uint16 A1 2 c1' X w1 hB1.b.1 (Nat.le_refl _) hc1)
      have HN2 := Lib.hid (next_short g r s 2 m w1 hr1 HE.out (by omega) (by omega) h2)
      have HCH := Lib.hid hch1
      rw [List.take_of_length_le (by have := HX2.out; omega), ← HU.out] at HG
      clear hB1 hr1 hch1
      go_wp2_with fail
      refine HG.out.mono ?_
      rintro e w2 ⟨rfl, rfl⟩
      go_wp2_with fail
      refine HN2.out.mono ?_
      rintro e w3 ⟨rfl, hr1, hch1⟩
      have HR := Lib.hid hr1; have HCH1 := Lib.hid hch1
      clear hr1 hch1
      go_wp2_with fail
      go_ret
      rw [HT.out]
      exact ⟨rfl, HR.out, ((Chg.refl [g] w).trans HCH.out (by simp)).trans HCH1.out (fun x hx => .inl hx)⟩
    · have h3 : s.at_ + 2 + m ≤ s.b.length := by omega
      have HT := Lib.hid (rtext_ok s most m HE.out h HM.out hmost h3)
      obtain ⟨Y, hY⟩ : ∃ Y, Y = (s.b.drop (s.at_ + 2)).take m := ⟨_, rfl⟩
      rw [← hY] at HT
      have HY := Lib.hid hY
      clear hY
      go_enter Try.func103, Try.ntmps103
      go_wp2_with fail
      refine HN.out.mono ?_
      rintro e w1 ⟨⟨A1, c1', rfl, hc1, hB1⟩, hr1, hch1⟩
      have HG := Lib.hid (get_uint16 A1 2 c1' X w1 hB1.b.1 (Nat.le_refl _) hc1)
      have HN2 := Lib.hid (next_ok g r s 2 m w1 hr1 HE.out h3)
      have HCH := Lib.hid hch1
      rw [List.take_of_length_le (by have := HX2.out; omega), ← HU.out] at HG
      clear hB1 hr1 hch1
      go_wp2_with fail
      refine HG.out.mono ?_
      rintro e w2 ⟨rfl, rfl⟩
      go_wp2_with fail
      refine HN2.out.mono ?_
      rw [← HY.out]
      rintro e w3 ⟨⟨A3, c3', rfl, hc3, hB3⟩, hr1, hch1⟩
      obtain ⟨A, c, c0, c1, c2, f0, f1, f2, hlt, hat, hcn, HB, HD, HROW, HOWN⟩ := hr1.open_
      obtain ⟨q1, q2, q3⟩ := rd_set1 (s.at_ + 2 + m) HROW.out HOWN.out
      have hcs : ∀ (x : World), (∀ k, r = some k → x.heap[k]? = w3.heap[k]?) → w3.heap.size ≤ x.heap.size → (convert 22 9 (.slice A3 m c3')).run Try.prog x = .ok (.string (bs2s Y)) x := fun x h1 h2 =>
        run_string_of 22 9 A3 m c3' x.heap.size Y x Try.underlying22 Try.underlying9 (hB3 x h1 h2).1
      have hne : ∀ k, r = some k → k ≠ g := by
        intro k hk
        obtain ⟨A', c', hrow', hown', hob', _⟩ := hr1
        rintro rfl
        exact own_blk_ne (cs := #[.slice A' s.b.length c', .int .i64 (s.at_ : Nat), .int .i64 (s.e : Nat)]) hown' hrow' (by decide) (hob'.trans hk)
      have hconv := hcs (w3.setCell ⟨g, 1, none⟩ (.int .i64 ((s.at_ + 2 + m : Nat) : Int))) (fun k hk => Below.heap_setCell _ _ _ _ (hne k hk)) (by simp [World.setCell])
      have ecast : (((s.at_ + 2 + m : Nat) : Int)) = (s.at_ : Int) + (2 + (m : Int)) := by omega
      rw [ecast] at hconv q1 q2 q3
      have HQ1 := Lib.hid q1; have HQ2 := Lib.hid q2; have HQ3 := Lib.hid q3
      have HEC := Lib.hid ecast
      have HCH1 := Lib.hid hch1
      clear hB3 hr1 hch1 hcs hne q1 q2 q3 ecast
      go_wp2_with fail
      go_ret
      rw [HT.out]
      refine ⟨rfl, HD.out _ _ _ h3 ?_ HQ2.out, (((Chg.refl [g] w).trans HCH.out (by simp)).trans HCH1.out (by simp)).trans HQ3.out (fun x hx => .inl hx)⟩
      rw [HEC.out]
      exact HQ1.out
theorem rtext_any (g : Nat) (r : Option Nat) (s : Wd.R) (most : Int) (w : World) (hw : Rd w g r s) (hmx : most ≤ 9223372036854775807) (hl : s.b.length ≤ 70368744177664) :
    Calls Try.prog 103 #[.pointer (some ⟨g, 0, none⟩), .int .i64 most] w fun e w' => e = .returned (.string (bs2s (s.text most).2)) ∧ Rd w' g r (s.text most).1 ∧ Chg [g] w w' := by
  by_cases he : s.e = 0
  · by_cases h : s.at_ + 2 ≤ s.b.length
    · exact rtext_c g r s most w hw he h hmx hl
    · exact rtext_b g r s most w hw he (by omega)
  · exact rtext_a g r s most w hw he

theorem rpad_refused (s : Wd.R) (al : Int) (he : s.e ≠ 0) : s.pad al = s := by unfold Wd.R.pad; rw [if_pos he]
theorem rpad_arg (s : Wd.R) (al : Int) (he : s.e = 0) (h : ¬ (1 ≤ al ∧ al ≤ 4096)) : s.pad al = ⟨s.b, s.at_, 1⟩ := by unfold Wd.R.pad; rw [if_neg (by omega), if_neg h]
theorem rpad_short (s : Wd.R) (al : Nat) (k : Nat) (he : s.e = 0) (h : 1 ≤ al ∧ al ≤ 4096) (hk : k = Wd.gap s.at_ al) (hs : s.b.length < s.at_ + k) : s.pad al = ⟨s.b, s.at_, 10⟩ := by
  unfold Wd.R.pad Wd.R.next; rw [if_neg (by omega), if_pos (by omega), if_neg (by omega)]; simp only [Int.toNat_natCast, ← hk]; rw [if_pos (by omega)]
theorem rpad_read (s : Wd.R) (al : Nat) (k : Nat) (he : s.e = 0) (h : 1 ≤ al ∧ al ≤ 4096) (hk : k = Wd.gap s.at_ al) (hs : s.at_ + k ≤ s.b.length) :
    s.pad al = if ((s.b.drop (s.at_ + 0)).take k).all (· == 0) then ⟨s.b, s.at_ + k, s.e⟩ else ⟨s.b, s.at_, 5⟩ := by
  have hl : ((s.b.drop (s.at_ + 0)).take k).length = k := by simp; omega
  unfold Wd.R.pad Wd.R.next; rw [if_neg (by omega), if_pos (by omega), if_neg (by omega)]; simp only [Int.toNat_natCast, ← hk]; rw [if_neg (by omega)]; simp only [hl]
set_option maxRecDepth 100000 in
set_option maxHeartbeats 400000 in
theorem rpad_a (g : Nat) (r : Option Nat) (s : Wd.R) (al : Int) (w : World) (hw : Rd w g r s) (he : s.e ≠ 0) :
    Calls Try.prog 52 #[.pointer (some ⟨g, 0, none⟩), .int .i64 al] w fun e w' => e = .returned (.tuple #[]) ∧ Rd w' g r (s.pad al) ∧ Chg [g] w w' := by
  obtain ⟨A, c, c0, c1, c2, f0, f1, f2, hlt, hat, hcn, HB, HD, HROW, HOWN⟩ := hw.open_
  have HT := Lib.hid (rpad_refused s al he)
  have he1 : ((s.e : Int) == 0) = false := beq_eq_false_iff_ne.2 (by omega)
  have he2 : ((s.e : Int) != 0) = true := by rw [bne_iff_ne]; omega
  have HW := Lib.hid hw
  clear hw he
  go_enter Try.func52, Try.ntmps52
  go_wp2_with fail
  refine bodyPost_ret (results_none rfl _ _ _) rfl ?_
  rw [HT.out]
  exact ⟨rfl, HW.out, Chg.refl _ _⟩
set_option maxRecDepth 100000 in
set_option maxHeartbeats 400000 in
theorem rpad_b (g : Nat) (r : Option Nat) (s : Wd.R) (al : Int) (w : World) (hw : Rd w g r s) (he : s.e = 0) (h : ¬ (1 ≤ al ∧ al ≤ 4096)) :
    Calls Try.prog 52 #[.pointer (some ⟨g, 0, none⟩), .int .i64 al] w fun e w' => e = .returned (.tuple #[]) ∧ Rd w' g r (s.pad al) ∧ Chg [g] w w' := by
  obtain ⟨A, c, c0, c1, c2, f0, f1, f2, hlt, hat, hcn, HB, HD, HROW, HOWN⟩ := hw.open_
  have c2' : w.cell? ⟨g, 2, none⟩ = some (.int .i64 0) := by rw [he] at c2; exact c2
  have HT := Lib.hid (rpad_arg s al he h)
  obtain ⟨q1, q2, q3⟩ := rd_set2 1 HROW.out HOWN.out
  have HQ1 := Lib.hid q1; have HQ2 := Lib.hid q2; have HQ3 := Lib.hid q3
  have HF := Lib.hid h
  clear hw he c2 q1 q2 q3 h
  by_cases h0 : al < 1
  all_goals
    first
      | (have h2 : 4096 < al := by have := HF.out; omega)
      | skip
    go_enter Try.func52, Try.ntmps52
    go_wp2_with fail
    refine bodyPost_ret (results_none rfl _ _ _) rfl ?_
    rw [HT.out]
    exact ⟨rfl, HD.out _ _ _ hat HQ1.out HQ2.out, HQ3.out⟩
set_option maxRecDepth 100000 in
set_option maxHeartbeats 1000000 in
theorem rpad_c (g : Nat) (r : Option Nat) (s : Wd.R) (al : Nat) (w : World) (hw : Rd w g r s) (he : s.e = 0) (h1 : 1 ≤ al) (h2 : al ≤ 4096) (hl : s.b.length ≤ 70368744177664) :
    Calls Try.prog 52 #[.pointer (some ⟨g, 0, none⟩), .int .i64 (al : Nat)] w fun e w' => e = .returned (.tuple #[]) ∧ Rd w' g r (s.pad al) ∧ Chg [g] w w' := by
  obtain ⟨A, c, c0, c1, c2, f0, f1, f2, hlt, hat, hcn, HB, HD, HROW, HOWN⟩ := hw.open_
  have c2' : w.cell? ⟨g, 2, none⟩ = some (.int .i64 0) := by rw [he] at c2; exact c2
  obtain ⟨k, hk⟩ : ∃ k, k = Wd.gap s.at_ al := ⟨_, rfl⟩
  have hkl : k < al := by rw [hk]; exact Nat.mod_lt _ h1
  have HGAP := Lib.hid (gap_any s.at_ al w (by omega) h1 h2)
  rw [← hk] at HGAP
  by_cases hs : s.b.length < s.at_ + k
  · have HT := Lib.hid (rpad_short s al k he ⟨h1, h2⟩ hk hs)
    have HN := Lib.hid (next_short g r s 0 k w hw he (by omega) (by omega) (by omega))
    clear hw he c2 hk
    go_enter Try.func52, Try.ntmps52
    go_wp2_with fail
    refine HGAP.out.mono ?_
    rintro e w1 ⟨rfl, rfl⟩
    go_wp2_with fail
    refine HN.out.mono ?_
    rintro e w1 ⟨rfl, hr1, hch1⟩
    have HR := Lib.hid hr1; have HCH := Lib.hid hch1
    clear hr1 hch1
    go_wp2_with fail
    refine bodyPost_ret (results_none rfl _ _ _) rfl ?_
    rw [HT.out]
    exact ⟨rfl, HR.out, HCH.out⟩
  · have hs2 : s.at_ + k ≤ s.b.length := by omega
    have HT := Lib.hid (rpad_read s al k he ⟨h1, h2⟩ hk hs2)
    have HN := Lib.hid (next_ok g r s 0 k w hw he hs2)
    obtain ⟨X, hX⟩ : ∃ X, X = (s.b.drop (s.at_ + 0)).take k := ⟨_, rfl⟩
    have hXl : X.length = k := by rw [hX]; exact len_of_next hs2
    rw [← hX] at HT HN
    have HXL := Lib.hid hXl
    clear hw he c2 hk hX hXl hs
    go_enter Try.func52, Try.ntmps52
    go_wp2_with fail
    refine HGAP.out.mono ?_
    rintro e w1 ⟨rfl, rfl⟩
    go_wp2_with fail
    refine HN.out.mono ?_
    rintro e w1 ⟨⟨A1, c1', rfl, hc1, hB1⟩, hr1, hch1⟩
    clear c0 c1 c2' f0 f1 f2 hlt hat hcn HB HD HROW HOWN
    obtain ⟨A, c, c0, c1, c2, f0, f1, f2, hlt, hat, hcn, HB, HD, HROW, HOWN⟩ := hr1.open_
    obtain ⟨b, off, HF⟩ := hB1.b.1.form
    have HCH := Lib.hid hch1
    clear hB1 hr1 hch1 HGAP HN
    go_wp2_with fail
    go_loop [44] (fun i => ∃ j : Nat, j ≤ k ∧ i = .int .i64 j ∧ Hid ((X.take j).all (· == 0) = true)) (fun i => k - (intOf i).toNat)
    case atStart => exact ⟨0, by omega, rfl, Lib.hid (by simp)⟩
    case round =>
      obtain ⟨j, hj, rfl, HZ⟩ := hrel
      by_cases hjk : j < k
      · obtain ⟨hA, hbB, hcj⟩ := HF.out (by omega)
        subst hA
        have hc := hcj j hjk
        have ht := take_snoc X j (by have := HXL.out; omega)
        obtain ⟨x, hx⟩ : ∃ x, x = X.getD j 0 := ⟨_, rfl⟩
        rw [← hx] at hc ht
        have HTK := Lib.hid ht
        have HXX := Lib.hid hx
        clear hcj ht hx
        by_cases h0 : x = 0
        · subst h0
          go_wp2
          go_round
          case rel => exact ⟨j + 1, by omega, by go_num, Lib.hid (by rw [HTK.out, List.all_append, HZ.out]; rfl)⟩
          case measure => simp [intOf]; omega
        · have hq : ((x : Int) != 0) = true := by rw [bne_iff_ne]; omega
          have H0 := Lib.hid h0
          clear h0
          obtain ⟨q1, q2, q3⟩ := rd_set2 5 HROW.out HOWN.out
          have HQ1 := Lib.hid q1; have HQ2 := Lib.hid q2; have HQ3 := Lib.hid q3
          clear q1 q2 q3
          go_wp2
          refine bodyPost_ret (results_none rfl _ _ _) rfl ?_
          rw [HT.out, if_neg]
          · exact ⟨rfl, HD.out _ _ _ hat HQ1.out HQ2.out, ((Chg.refl [g] w).trans HCH.out (by simp)).trans HQ3.out (fun x hx => .inl hx)⟩
          · intro hall
            have := List.all_eq_true.1 hall x (by rw [HXX.out]; exact getD_mem X j (by have := HXL.out; omega))
            exact H0.out (by simpa using this)
      · have HJ : Hid (j = k) := Lib.hid (by omega)
        obtain ⟨q1, q2, q3⟩ := rd_set1 (s.at_ + k) HROW.out HOWN.out
        have HQ1 := Lib.hid q1; have HQ2 := Lib.hid q2; have HQ3 := Lib.hid q3
        clear q1 q2 q3
        go_wp2
        go_end0
        rw [HT.out, if_pos]
        · exact ⟨rfl, HD.out _ _ _ hs2 HQ1.out HQ2.out, ((Chg.refl [g] w).trans HCH.out (by simp)).trans HQ3.out (fun x hx => .inl hx)⟩
        · have := HZ.out
          rwa [HJ.out, List.take_of_length_le (by have := HXL.out; omega)] at this
theorem rpad_any (g : Nat) (r : Option Nat) (s : Wd.R) (al : Int) (w : World) (hw : Rd w g r s) (hl : s.b.length ≤ 70368744177664) :
    Calls Try.prog 52 #[.pointer (some ⟨g, 0, none⟩), .int .i64 al] w fun e w' => e = .returned (.tuple #[]) ∧ Rd w' g r (s.pad al) ∧ Chg [g] w w' := by
  by_cases he : s.e = 0
  · by_cases h : 1 ≤ al ∧ al ≤ 4096
    · obtain ⟨a, rfl⟩ : ∃ a : Nat, al = a := ⟨al.toNat, by omega⟩
      exact rpad_c g r s a w hw he (by omega) (by omega) hl
    · exact rpad_b g r s al w hw he h
  · exact rpad_a g r s al w hw he
end Go.Proofs.Ytajkiglogfahfaa
