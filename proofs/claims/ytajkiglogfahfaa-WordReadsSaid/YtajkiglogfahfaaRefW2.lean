/- The walks of the document's writer: Pad, Text, Seal. -/
import Derived.Test.YtajkiglogfahfaaRefW
set_option linter.unusedVariables false
set_option linter.unusedSimpArgs false
namespace Go.Proofs.Ytajkiglogfahfaa
open Go.RowKit

set_option maxHeartbeats 400000 in
theorem dgap_any (a al : Nat) (w : World) (ha : a ≤ 140737488355328) (h1 : 1 ≤ al) (h2 : al ≤ 4096) :
    Calls Try.prog 128 #[.int .i64 (a : Nat), .int .i64 (al : Nat)] w fun e w' => e = .returned (.int .i64 (Wd.gap a al : Nat)) ∧ w = w' := by
  obtain ⟨m, hm⟩ : ∃ m, m = a % al := ⟨_, rfl⟩
  have h3 : m < al := by rw [hm]; exact Nat.mod_lt _ h1
  have e0 : (a : Int) % (al : Int) = (m : Int) := by omega
  have e1 : (a : Int).tmod (al : Int) = (m : Int) := by rw [Int.tmod_eq_emod_of_nonneg (by omega)]; omega
  have hne : ((al : Int) == 0) = false := beq_eq_false_iff_ne.2 (by omega)
  have hne2 : ¬ ((al : Int) = 0) := by omega
  by_cases h0 : m = 0
  · have HG : Hid (Wd.gap a al = 0) := Lib.hid (by unfold Wd.gap; rw [← hm, h0]; simp)
    have h0' : ¬ (0 < m) := by omega
    have HM := Lib.hid h0
    clear hm h0
    go_enter Try.func128, Try.ntmps128
    go_wp2_with fail
    go_ret
    exact ⟨by rw [HG.out, ← HM.out]; rfl, rfl⟩
  · have HG : Hid (Wd.gap a al = al - m) := Lib.hid (by unfold Wd.gap; rw [← hm]; exact Nat.mod_eq_of_lt (by omega))
    have h0' : 0 < m := by omega
    clear hm h0
    go_enter Try.func128, Try.ntmps128
    go_wp2_with fail
    go_ret
    rw [HG.out]
    exact ⟨by go_num, rfl⟩
theorem zeros_isB (w : World) (k : Nat) (hk : k ≤ 9223372036854775807) : IsB (w.alloc (.cells (List.replicate k (.int .u8 0)).toArray 5)) (w.heap.size + 1) (some ⟨w.heap.size, 0, none⟩) k (List.replicate k 0) := by
  have := IsB.of_row (Row.new w 5 (List.replicate k (.int .u8 0))) (off := 0) (n := k) (bs := List.replicate k 0) (B := w.heap.size + 1) (by simp [u8]) (by simp) (by intro b hb; rw [(List.mem_replicate.1 hb).2]; omega) (by omega) (by omega)
  exact this (by simp)
set_option maxRecDepth 100000 in
set_option maxHeartbeats 1000000 in
theorem dpad_any (g : Nat) (r : Option Nat) (s : Wd.W) (al : Int) (w : World) (hw : Rw w g r s) (hl : s.b.length ≤ 70368744177664) :
    Calls Try.prog 111 #[.pointer (some ⟨g, 0, none⟩), .int .i64 al] w fun e w' => e = .returned (.tuple #[]) ∧ ∃ r', Rw w' g r' (s.pad al) ∧ Chg (g :: r.toList) w w' ∧ Moved w r r' := by
  obtain ⟨A, c, d0, d1, f0, f1, hlt, hB, HROW, HOWN, HOB, HGR, _⟩ := hw.open_
  by_cases he : s.e = 0
  · obtain ⟨xs, e⟩ := s
    simp only at he hl d0 d1 hB
    subst he
    have HBX := Lib.hid hB
    by_cases ha : 1 ≤ al ∧ al ≤ 4096
    · obtain ⟨a, rfl⟩ : ∃ a : Nat, al = a := ⟨al.toNat, by omega⟩
      have ha1 : 1 ≤ a := by omega
      have ha2 : a ≤ 4096 := by omega
      have HE := Lib.hid (pad_near ⟨xs, 0⟩ a rfl ha1 ha2)
      have hgl : Wd.gap xs.length a < a := Nat.mod_lt _ ha1
      have hgl2 : Wd.gap xs.length a ≤ 4096 := by omega
      clear hB ha
      simp only at HE
      obtain ⟨k, hk⟩ : ∃ k, k = Wd.gap xs.length a := ⟨_, rfl⟩
      have HG := Lib.hid (dgap_any xs.length a w (by omega) ha1 ha2)
      rw [← hk] at HE hgl hgl2 HG
      have hmk := run_make_row' (P := Try.prog) 22 5 (.int .u8 0) 1 Try.underlying22 info5w rfl .i64 .i64 k (by omega) (by omega)
      rw [madeCells_onew] at hmk
      have hzb := zeros_isB w k (by omega)
      have hw1 := hw.below ((Below.refl _ _).alloc (Nat.le_refl _) (.cells (List.replicate k (.int .u8 0)).toArray 5))
      have HC := Lib.hid (dbytes_any g r ⟨xs, 0⟩ (some ⟨w.heap.size, 0, none⟩) k k (List.replicate k 0) _ hw1 (by simpa using hzb) (by simp only; omega))
      have HS : Hid ((Wd.W.lay ⟨xs, 0⟩ (List.replicate k 0)) = ⟨xs ++ List.replicate k 0, 0⟩) := Lib.hid (by unfold Wd.W.lay; simp)
      clear hk hzb hw1
      clear hw
      go_enter Try.func111, Try.ntmps111
      go_wp2_with fail
      refine HG.out.mono ?_
      rintro e w1 ⟨rfl, rfl⟩
      go_wp2_with fail
      refine HC.out.mono ?_
      rintro e w2 ⟨rfl, r1, q1, q2, q3⟩
      have HQ1 := Lib.hid q1; have HQ2 := Lib.hid q2; have HQ3 := Lib.hid q3
      clear q1 q2 q3 hmk
      go_wp2_with fail
      go_end0
      refine ⟨rfl, r1, ?_, ?_, ?_⟩
      · rw [HE.out, ← HS.out]; exact HQ1.out
      · exact (Chg.of_below ((Below.refl _ _).alloc (Nat.le_refl _) _)).trans HQ2.out (fun x hx => .inl hx)
      · exact HQ3.out.below (by simp)
    · have HE := Lib.hid (pad_far ⟨xs, 0⟩ al rfl ha)
      have HF := Lib.hid ha
      clear hB hw ha
      by_cases h0 : al < 1
      all_goals
        have h1 : al < 1 ∨ 4096 < al := by have := HF.out; omega
        have HF1 := Lib.hid h1
        clear h1
        first
          | (have h2 : 4096 < al := by have := HF1.out; omega)
          | skip
        go_enter Try.func111, Try.ntmps111
        go_wp2_with fail
        refine bodyPost_ret (results_none rfl _ _ _) rfl ?_
        exact ⟨rfl, by rw [HE.out]; exact derr_done HROW.out HOWN.out HOB.out HBX.out.1.2.1⟩
  · have he' : ((s.e : Int) != 0) = true := by rw [bne_iff_ne]; omega
    have HE := Lib.hid (pad_not s al he)
    have HW := Lib.hid hw
    clear hw he hB
    go_enter Try.func111, Try.ntmps111
    go_wp2_with fail
    refine bodyPost_ret (results_none rfl _ _ _) rfl ?_
    exact ⟨rfl, r, by rw [HE.out]; exact HW.out, Chg.refl _ _, Moved.refl _ _⟩
end Go.Proofs.Ytajkiglogfahfaa
