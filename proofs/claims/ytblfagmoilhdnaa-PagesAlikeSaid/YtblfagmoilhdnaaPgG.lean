/- The walks of pages.Build and pages.Count. -/
import Derived.Test.YtblfagmoilhdnaaPgF
set_option linter.unusedVariables false
set_option linter.unusedSimpArgs false
namespace Go.Proofs.Ytblfagmoilhdnaa
open Go.RowKit

namespace Pg
/-- what Build tells -/
def ansB (rows : List Lf) (base : Nat) : List (List Nat) × Nat :=
  let a := ans rows (base / 4096 * 4096 % 4294967296)
  if a.2 ≠ 0 then ([], a.2) else if base % 4096 ≠ 0 then ([], 33)
  else if 4294967296 ≤ base ∨ (4294967296 - base) / 4096 < a.1.length then ([], 34) else a
theorem ans_len (rows : List Lf) (base : Nat) (h : (ans rows base).2 = 0) : 0 < (ans rows base).1.length ∧ (ans rows base).1.length ≤ 1024 := by
  have aux : ∀ (qs : List Pge) (s s' : St), 0 < s.all.length → s.all.length ≤ 1024 → runP base s qs = some s' → 0 < s'.all.length ∧ s'.all.length ≤ 1024 := by
    intro qs
    induction qs with
    | nil => intro s s' h1 h2 h; cases h; exact ⟨h1, h2⟩
    | cons q r ih =>
      intro s s' h1 h2 h
      rw [runP_cons] at h
      split at h
      · cases h
      · have := step_len base s q
        exact ih _ _ (by omega) (by omega) h
  unfold ans at h ⊢
  split
  · rename_i h0; rw [if_pos h0] at h; exact absurd h h0
  · rename_i h0
    rw [if_neg h0] at h
    cases hr : runP base init (pagesOf rows) with
    | none => rw [hr] at h; cases h
    | some s => exact aux _ _ _ (by decide) (by decide) hr
theorem ans_nil (rows : List Lf) (base : Nat) (h : (ans rows base).2 ≠ 0) : (ans rows base).1 = [] := by
  unfold ans at h ⊢
  split
  · rfl
  · rename_i h0
    rw [if_neg h0] at h
    cases hr : runP base init (pagesOf rows) with
    | none => rfl
    | some s => rw [hr] at h; exact absurd rfl h
theorem ans_small (rows : List Lf) (base : Nat) : (ans rows base).2 < 121 := by
  have aux : ∀ (rows : List Lf) (bh : Nat), right bh rows < 121 := by
    intro rows
    induction rows with
    | nil => intro bh; exact Nat.zero_lt_succ _
    | cons r rs ih =>
      intro bh
      unfold right
      repeat' split
      all_goals first | decide | exact ih _
  unfold ans
  split
  · exact aux _ _
  · cases runP base init (pagesOf rows)
    · decide
    · exact Nat.zero_lt_succ _
theorem and_page (a : Nat) (h : a < 18446744073709551616) : a &&& (18446744073709551615 - 4095) = a / 4096 * 4096 := by
  apply Nat.eq_of_testBit_eq
  intro i
  rw [Nat.testBit_and, show (18446744073709551615 - 4095 : Nat) = 2 ^ 12 * (2 ^ 52 - 1) by decide, show a / 4096 * 4096 = 2 ^ 12 * (a / 2 ^ 12) by omega, Nat.testBit_two_pow_mul, Nat.testBit_two_pow_mul, Nat.testBit_two_pow_sub_one, Nat.testBit_div_two_pow]
  by_cases h1 : 12 ≤ i
  · rw [show i - 12 + 12 = i by omega]
    by_cases h2 : i - 12 < 52
    · simp [h1, h2]
    · rw [Nat.testBit_lt_two_pow (x := a) (i := i) (Nat.lt_of_lt_of_le h (by rw [show (18446744073709551616 : Nat) = 2 ^ 64 by decide]; exact Nat.pow_le_pow_right (by omega) (by omega)))]
      simp
  · simp [h1]
end Pg
set_option maxRecDepth 100000 in
theorem count_any (A : Option Addr) (n c : Nat) (rows : List Pg.Lf) (w : World) (hr : IsL w w.heap.size A n rows) :
    Calls Try.prog 19 #[.slice A n c] w fun e w' => e = .returned (.tuple #[.int .i64 ((Pg.ans rows 0).1.length : Nat), .int .i64 ((Pg.ans rows 0).2 : Nat)]) ∧ Below w.heap.size w w' := by
  have HB := Lib.hid (build_any A n c 0 rows w hr (by decide) (by decide))
  clear hr
  obtain ⟨a, ha⟩ : ∃ a, a = Pg.ans rows 0 := ⟨_, rfl⟩
  rw [← ha] at HB ⊢
  obtain ⟨l, f⟩ := a
  clear ha
  go_enter Try.func19, Try.ntmps19
  go_wp2_with fail
  refine HB.out.mono ?_
  rintro e w1 ⟨A', c', rfl, hi⟩
  have HI := Lib.hid hi
  clear hi HB
  unfold tansV
  go_wp2_with fail
  go_ret2
  exact ⟨rfl, HI.out.2.2⟩
set_option maxRecDepth 100000 in
theorem Build_any (A : Option Addr) (n c base : Nat) (rows : List Pg.Lf) (w : World) (hr : IsL w w.heap.size A n rows) (hbl : base < 18446744073709551616) :
    Calls Try.prog 18 #[.slice A n c, .int .u64 (base : Nat)] w fun e w' => ∃ A' c', e = .returned (tansV A' c' (Pg.ansB rows base)) ∧ IsT w w' A' c' (Pg.ansB rows base).1 := by
  obtain ⟨B, hB⟩ : ∃ B, B = base / 4096 * 4096 := ⟨_, rfl⟩
  obtain ⟨B2, hB2⟩ : ∃ B2, B2 = B % 4294967296 := ⟨_, rfl⟩
  have HB := Lib.hid (build_any A n c B2 rows w hr (by omega) (by omega))
  have h1 : bits .andNot .u64 (base : Int) 4095 = (B : Int) := by rw [hB]; rw [← Pg.and_page base hbl]; exact u64_andNot_nat base 4095 hbl (by decide)
  have h2 : (B : Int).tmod 4294967296 = (B2 : Int) := by rw [Int.tmod_eq_emod_of_nonneg (by omega)]; omega
  have h3 : (B : Int) % 4294967296 = (B2 : Int) := by omega
  have h4 : (base : Int) % 4096 = ((base % 4096 : Nat) : Int) := by omega
  obtain ⟨M, hM⟩ : ∃ M, M = base % 4096 := ⟨_, rfl⟩
  rw [← hM] at h4
  have h5 : (base : Int).tmod 4096 = (M : Int) := by rw [Int.tmod_eq_emod_of_nonneg (by omega)]; exact h4
  have HL := Lib.hid (Pg.ans_len rows B2)
  have hans : Pg.ansB rows base = (if (Pg.ans rows B2).2 ≠ 0 then ([], (Pg.ans rows B2).2) else if M ≠ 0 then ([], 33) else if 4294967296 ≤ base ∨ (4294967296 - base) / 4096 < (Pg.ans rows B2).1.length then ([], 34) else (Pg.ans rows B2)) := by
    rw [hM, hB2, hB]; rfl
  obtain ⟨a, ha⟩ : ∃ a, a = Pg.ans rows B2 := ⟨_, rfl⟩
  rw [← ha] at HB HL hans
  obtain ⟨l, f⟩ := a
  simp only at hans
  obtain ⟨res, hres⟩ : ∃ r, r = Pg.ansB rows base := ⟨_, rfl⟩
  rw [← hres] at hans ⊢
  have HRES := Lib.hid hans
  clear ha hans hres hM hB hB2 hr
  go_enter Try.func18, Try.ntmps18
  go_wp2_with fail
  refine HB.out.mono ?_
  rintro e w1 ⟨A', c', rfl, hi⟩
  have HI := Lib.hid hi
  clear hi HB
  unfold tansV
  by_cases hf : f = 0
  · have g1 : ((f : Int) != 0) = false := by rw [bne_eq_false_iff_eq]; omega
    have hl := HL.out hf
    have hl1 := hl.1
    have hl2 := hl.2
    have HF := Lib.hid hf
    clear hf hl
    by_cases hm : M = 0
    · have g2 : ((M : Int) != 0) = false := by rw [bne_eq_false_iff_eq]; omega
      have HM := Lib.hid hm
      clear hm
      by_cases he : 4294967296 ≤ base ∨ (4294967296 - base) / 4096 < l.length
      · have HE := Lib.hid (ends_no base l.length 4294967296 w1 he (by omega) hbl (by omega))
        have HQ := Lib.hid he
        clear he
        go_wp2_with fail
        refine HE.out.mono ?_
        rintro e w2 ⟨rfl, rfl⟩
        go_wp2_with fail
        go_ret2
        rw [HRES.out, if_neg (by simp [HF.out]), if_neg (by simp [HM.out]), if_pos HQ.out]
        exact ⟨none, 0, rfl, IsT.nil HI.out.2.2⟩
      · have HE := Lib.hid (ends_ok base l.length 4294967296 w1 (by omega) (by omega) (by omega))
        have HQ := Lib.hid he
        clear he
        go_wp2_with fail
        refine HE.out.mono ?_
        rintro e w2 ⟨rfl, rfl⟩
        go_wp2_with fail
        go_ret2
        rw [HRES.out, if_neg (by simp [HF.out]), if_neg (by simp [HM.out]), if_neg HQ.out]
        have hff := HF.out
        subst hff
        exact ⟨A', c', rfl, HI.out⟩
    · have g2 : ((M : Int) != 0) = true := by rw [bne_iff_ne]; omega
      have HM := Lib.hid hm
      clear hm
      go_wp2_with fail
      go_ret2
      rw [HRES.out, if_neg (by simp [HF.out]), if_pos HM.out]
      exact ⟨none, 0, rfl, IsT.nil HI.out.2.2⟩
  · have g1 : ((f : Int) != 0) = true := by rw [bne_iff_ne]; omega
    have HF := Lib.hid hf
    clear hf
    go_wp2_with fail
    go_ret2
    rw [HRES.out, if_pos HF.out]
    exact ⟨none, 0, rfl, IsT.nil HI.out.2.2⟩
end Go.Proofs.Ytblfagmoilhdnaa
