/- The walks of the document's writer: Text, Seal. -/
import Derived.Test.YtajkiglogfahfaaRefW
set_option linter.unusedVariables false
set_option linter.unusedSimpArgs false
namespace Go.Proofs.Ytajkiglogfahfaa
open Go.RowKit

/-- the last call of Text -/
theorem dtext_tail (g : Nat) (s : Wd.W) (t : ByteArray) (w1 : World) (r1 : Option Nat) (hw : Rw w1 g r1 s) (hl : s.b.length + t.size ≤ 140737488351232) :
    ∃ gg c W, (convert 9 22 (.string t)).run Try.prog w1 = .ok (.slice (some ⟨gg, 0, none⟩) t.size c) W ∧ Below w1.heap.size w1 W ∧ Hid (Calls Try.prog 109 #[.pointer (some ⟨g, 0, none⟩), .slice (some ⟨gg, 0, none⟩) t.size c] W fun e w' => e = .returned (.tuple #[]) ∧ ∃ r', Rw w' g r' (s.lay (sb t)) ∧ Chg (g :: r1.toList) w1 w' ∧ Moved w1 r1 r') := by
  obtain ⟨gg, c, W, hrun, hB, hbl, _⟩ := run_bytes_of 9 22 t w1 Try.underlying9 Try.underlying22 (by omega)
  refine ⟨gg, c, W, hrun, hbl, ?_⟩
  refine (dbytes_any g r1 s (some ⟨gg, 0, none⟩) t.size c (sb t) W (hw.below hbl) hB (by omega)).mono ?_
  rintro e w' ⟨he, r', q1, q2, q3⟩
  exact ⟨he, r', q1, (Chg.of_below hbl).trans q2 (fun x hx => .inl hx), q3.below hbl.size⟩
set_option maxRecDepth 100000 in
set_option maxHeartbeats 1000000 in
theorem dtext_near (g : Nat) (r : Option Nat) (xs : List Nat) (t : ByteArray) (w : World) (hw : Rw w g r ⟨xs, 0⟩) (hl : xs.length + t.size ≤ 70368744177664) (ht : t.size < 65536) :
    Calls Try.prog 110 #[.pointer (some ⟨g, 0, none⟩), .string t] w fun e w' => e = .returned (.tuple #[]) ∧ ∃ r', Rw w' g r' (Wd.W.text ⟨xs, 0⟩ (sb t)) ∧ Chg (g :: r.toList) w w' ∧ Moved w r r' := by
  obtain ⟨A, c, d0, d1, f0, f1, hlt, hB, HROW, HOWN, HOB, HGR, _⟩ := hw.open_
  have HE := Lib.hid (text_near ⟨xs, 0⟩ (sb t) rfl (by rw [sb_len]; exact ht))
  have HL := Lib.hid (dnumber_any g r ⟨xs, 0⟩ t.size 2 w hw (by omega) (by omega) (by simp only; omega))
  rw [sb_len] at HE
  have hq : decide ((65535 : Int) < (t.size : Int)) = false := decide_eq_false (by omega)
  simp only at d0 d1
  clear hw hB
  go_enter Try.func110, Try.ntmps110
  go_wp2_with fail
  refine HL.out.mono ?_
  rintro e w1 ⟨rfl, r1, hwr, hch, hmv⟩
  obtain ⟨gg, c2, W, hrun, hbl, HC⟩ := dtext_tail g _ t w1 r1 hwr (by have := lay_len ⟨xs, 0⟩ (Wd.le 2 t.size); rw [Wd.le_len] at this; simp only at this; omega)
  have HCH := Lib.hid hch; have HMV := Lib.hid hmv
  clear hwr hch hmv
  go_wp2_with fail
  refine HC.out.mono ?_
  rintro e w2 ⟨rfl, h⟩
  have HH := Lib.hid h
  clear h hrun
  go_wp2_with fail
  go_end0
  refine ⟨rfl, ?_⟩
  rw [HE.out]
  obtain ⟨r2, q1, q2, q3⟩ := HH.out
  exact ⟨r2, q1, chg_moved HCH.out HMV.out q2, moved_trans HCH.out.size HMV.out q3⟩
set_option maxRecDepth 100000 in
set_option maxHeartbeats 1000000 in
theorem dtext_far (g : Nat) (r : Option Nat) (xs : List Nat) (t : ByteArray) (w : World) (hw : Rw w g r ⟨xs, 0⟩) (hl : xs.length + t.size ≤ 70368744177664) (ht : 65536 ≤ t.size) :
    Calls Try.prog 110 #[.pointer (some ⟨g, 0, none⟩), .string t] w fun e w' => e = .returned (.tuple #[]) ∧ ∃ r', Rw w' g r' (Wd.W.text ⟨xs, 0⟩ (sb t)) ∧ Chg (g :: r.toList) w w' ∧ Moved w r r' := by
  obtain ⟨A, c, d0, d1, f0, f1, hlt, hB, HROW, HOWN, HOB, HGR, _⟩ := hw.open_
  have HE := Lib.hid (text_far ⟨xs, 0⟩ (sb t) rfl (by rw [sb_len]; exact ht))
  have hq : decide ((65535 : Int) < (t.size : Int)) = true := decide_eq_true (by omega)
  simp only at d0 d1 hB HROW HOWN HOB
  obtain ⟨r0, q1, q2, q3⟩ := derr_done (k := 3) HROW.out HOWN.out HOB.out hB.1.2.1
  have HL := Lib.hid (dnumber_any g r0 ⟨xs, 3⟩ t.size 2 _ q1 (by omega) (by omega) (by simp only; omega))
  rw [lay_not _ _ (by simp)] at HL
  have HQ2 := Lib.hid q2; have HQ3 := Lib.hid q3
  clear hw hB q1 q2 q3
  go_enter Try.func110, Try.ntmps110
  go_wp2_with fail
  refine HL.out.mono ?_
  rintro e w1 ⟨rfl, r1, hwr, hch, hmv⟩
  obtain ⟨gg, c2, W, hrun, hbl, HC⟩ := dtext_tail g _ t w1 r1 hwr (by simp only; omega)
  rw [lay_not _ _ (by simp)] at HC
  have HCH := Lib.hid hch; have HMV := Lib.hid hmv
  clear hwr hch hmv
  go_wp2_with fail
  refine HC.out.mono ?_
  rintro e w2 ⟨rfl, h⟩
  have HH := Lib.hid h
  clear h hrun
  go_wp2_with fail
  go_end0
  refine ⟨rfl, ?_⟩
  rw [HE.out]
  obtain ⟨r2, q1, q2, q3⟩ := HH.out
  have h5 := chg_moved HQ2.out HQ3.out HCH.out
  have h6 := moved_trans HQ2.out.size HQ3.out HMV.out
  exact ⟨r2, q1, chg_moved h5 h6 q2, moved_trans h5.size h6 q3⟩
set_option maxRecDepth 100000 in
set_option maxHeartbeats 1000000 in
theorem dtext_not (g : Nat) (r : Option Nat) (s : Wd.W) (t : ByteArray) (w : World) (hw : Rw w g r s) (hl : s.b.length + t.size ≤ 70368744177664) (he : s.e ≠ 0) :
    Calls Try.prog 110 #[.pointer (some ⟨g, 0, none⟩), .string t] w fun e w' => e = .returned (.tuple #[]) ∧ ∃ r', Rw w' g r' (s.text (sb t)) ∧ Chg (g :: r.toList) w w' ∧ Moved w r r' := by
  obtain ⟨A, c, d0, d1, f0, f1, hlt, hB, HROW, HOWN, HOB, HGR, _⟩ := hw.open_
  have HE := Lib.hid (text_not s (sb t) he)
  have hq : ((s.e : Int) == 0) = false := beq_eq_false_iff_ne.2 (by omega)
  have HL := Lib.hid (dnumber_any g r s t.size 2 w hw (by omega) (by omega) (by omega))
  rw [lay_not _ _ he] at HL
  have HN := Lib.hid he
  clear hw hB he
  go_enter Try.func110, Try.ntmps110
  go_wp2_with fail
  refine HL.out.mono ?_
  rintro e w1 ⟨rfl, r1, hwr, hch, hmv⟩
  obtain ⟨gg, c2, W, hrun, hbl, HC⟩ := dtext_tail g _ t w1 r1 hwr (by omega)
  rw [lay_not _ _ HN.out] at HC
  have HCH := Lib.hid hch; have HMV := Lib.hid hmv
  clear hwr hch hmv
  go_wp2_with fail
  refine HC.out.mono ?_
  rintro e w2 ⟨rfl, h⟩
  have HH := Lib.hid h
  clear h hrun
  go_wp2_with fail
  go_end0
  refine ⟨rfl, ?_⟩
  rw [HE.out]
  obtain ⟨r2, q1, q2, q3⟩ := HH.out
  exact ⟨r2, q1, chg_moved HCH.out HMV.out q2, moved_trans HCH.out.size HMV.out q3⟩
theorem dtext_any (g : Nat) (r : Option Nat) (s : Wd.W) (t : ByteArray) (w : World) (hw : Rw w g r s) (hl : s.b.length + t.size ≤ 70368744177664) :
    Calls Try.prog 110 #[.pointer (some ⟨g, 0, none⟩), .string t] w fun e w' => e = .returned (.tuple #[]) ∧ ∃ r', Rw w' g r' (s.text (sb t)) ∧ Chg (g :: r.toList) w w' ∧ Moved w r r' := by
  by_cases he : s.e = 0
  · obtain ⟨xs, e⟩ := s
    simp only at he hl
    subst he
    by_cases ht : t.size < 65536
    · exact dtext_near g r xs t w hw hl ht
    · exact dtext_far g r xs t w hw hl (by omega)
  · exact dtext_not g r s t w hw hl he
set_option maxRecDepth 100000 in
set_option maxHeartbeats 400000 in
theorem dseal_in (g c f : Nat) (r : Option Nat) (A : Option Addr) (xs : List Nat) (w : World) (hw : Hid (Rw w g r ⟨xs, 0⟩)) (hl : xs.length ≤ 70368744177664) (hfl : f ≤ xs.length) (hcn : xs.length ≤ c)
    (d0 : w.cell? ⟨g, 0, none⟩ = some (.slice A xs.length c)) (d1 : w.cell? ⟨g, 1, none⟩ = some (.int .i64 0)) (f0 : w.frozen? ⟨g, 0, none⟩ = false) (f1 : w.frozen? ⟨g, 1, none⟩ = false) (hlt : g < w.heap.size)
    (HIS1 : Hid (c = f → IsB w w.heap.size A (xs.length - f) (xs.drop f))) (HIS2 : Hid (¬ c = f → IsB w w.heap.size (A.map (·.add f)) (xs.length - f) (xs.drop f))) (HB : Hid (∀ b ∈ xs.drop f, b < 256)) :
    Calls Try.prog 112 #[.pointer (some ⟨g, 0, none⟩), .int .i64 f] w fun e w' => e = .returned (.tuple #[]) ∧ ∃ r', Rw w' g r' (Wd.W.lay ⟨xs, 0⟩ (Wd.le 4 (Crc.more 0 (xs.drop f)))) ∧ Chg (g :: r.toList) w w' ∧ Moved w r r' := by
  obtain ⟨x, hx⟩ : ∃ x, x = Crc.more 0 (xs.drop f) := ⟨_, rfl⟩
  have hxl : x < 4294967296 := by rw [hx]; exact Crc.more_lt _ (by decide) HB.out
  have HX := Lib.hid hx
  clear hx
  go_enter Try.func112, Try.ntmps112
  go_wp2_with fail
  all_goals
   rename_i h
   first
    | refine (rcrc_any _ _ _ (xs.drop f) w (HIS1.out h)).mono ?_
    | refine (rcrc_any _ _ _ (xs.drop f) w (HIS2.out h)).mono ?_
   rw [← HX.out]
   rintro e w1 ⟨rfl, rfl⟩
   go_wp2_with fail
   refine (dnumber_any g r ⟨xs, 0⟩ x 4 w hw.out (by omega) (by omega) hl).mono ?_
   rintro e w2 ⟨rfl, h⟩
   have HH := Lib.hid h
   clear h
   go_wp2_with fail
   go_end0
   refine ⟨rfl, ?_⟩
   rw [← HX.out]
   exact HH.out
set_option maxRecDepth 100000 in
set_option maxHeartbeats 400000 in
theorem dseal_any (g : Nat) (r : Option Nat) (s : Wd.W) (fr : Int) (w : World) (hw : Rw w g r s) (hl : s.b.length ≤ 70368744177664) :
    Calls Try.prog 112 #[.pointer (some ⟨g, 0, none⟩), .int .i64 fr] w fun e w' => e = .returned (.tuple #[]) ∧ ∃ r', Rw w' g r' (s.sealUp fr) ∧ Chg (g :: r.toList) w w' ∧ Moved w r r' := by
  obtain ⟨A, c, d0, d1, f0, f1, hlt, hB, HROW, HOWN, HOB, HGR, hcn⟩ := hw.open_
  by_cases he : s.e = 0
  · obtain ⟨xs, e⟩ := s
    simp only at he hl d0 d1 hB hcn
    subst he
    have HBX := Lib.hid hB
    have HW := Lib.hid hw
    by_cases hfr : 0 ≤ fr ∧ fr ≤ xs.length
    · have HE := Lib.hid (seal_near ⟨xs, 0⟩ fr rfl hfr)
      obtain ⟨f, hf⟩ : ∃ f : Nat, fr = f := ⟨fr.toNat, by omega⟩
      subst hf
      have hfl : f ≤ xs.length := by omega
      have hIs := seal_part hB hcn hfl
      have h4 := dseal_in g c f r A xs w HW hl hfl hcn d0 d1 f0 f1 hlt (Lib.hid fun h => by rw [if_pos h] at hIs; exact hIs) (Lib.hid fun h => by rw [if_neg h] at hIs; exact hIs) (Lib.hid fun b hb => HBX.out.1.2.1 b (List.mem_of_mem_drop hb))
      refine h4.mono ?_
      rintro e w' ⟨rfl, h⟩
      rw [HE.out]
      exact ⟨rfl, h⟩
    · have HE := Lib.hid (seal_far ⟨xs, 0⟩ fr rfl hfr)
      have HF := Lib.hid hfr
      clear hB hw
      by_cases h0 : fr < 0
      all_goals
        have h1 : fr < 0 ∨ (xs.length : Int) < fr := by have := HF.out; omega
        have HF1 := Lib.hid h1
        clear h1
        first
          | (have h2 : (xs.length : Int) < fr := by have := HF1.out; omega)
          | skip
        go_enter Try.func112, Try.ntmps112
        go_wp2_with fail
        refine bodyPost_ret (results_none rfl _ _ _) rfl ?_
        exact ⟨rfl, by rw [HE.out]; exact derr_done HROW.out HOWN.out HOB.out HBX.out.1.2.1⟩
  · have he' : ((s.e : Int) != 0) = true := by rw [bne_iff_ne]; omega
    have HE := Lib.hid (seal_not s fr he)
    have HW := Lib.hid hw
    clear hw he hB
    go_enter Try.func112, Try.ntmps112
    go_wp2_with fail
    refine bodyPost_ret (results_none rfl _ _ _) rfl ?_
    exact ⟨rfl, r, by rw [HE.out]; exact HW.out, Chg.refl _ _, Moved.refl _ _⟩
end Go.Proofs.Ytajkiglogfahfaa
