/- The walk of the writer's Seal. -/
import Derived.Test.YtajkiglogfahfaaWriterB
set_option linter.unusedVariables false
set_option linter.unusedSimpArgs false
namespace Go.Proofs.Ytajkiglogfahfaa
open Go.RowKit

theorem seal_far (s : Wd.W) (fr : Int) (he : s.e = 0) (h : ¬ (0 ≤ fr ∧ fr ≤ s.b.length)) : s.sealUp fr = ⟨s.b, 1⟩ := by unfold Wd.W.sealUp; rw [if_pos he, if_neg h]
theorem seal_near (s : Wd.W) (fr : Int) (he : s.e = 0) (h : 0 ≤ fr ∧ fr ≤ s.b.length) : s.sealUp fr = s.lay (Wd.le 4 (Crc.more 0 (s.b.drop fr.toNat))) := by unfold Wd.W.sealUp Wd.W.lay; rw [if_pos he, if_pos h, if_pos he]
theorem seal_not (s : Wd.W) (fr : Int) (he : s.e ≠ 0) : s.sealUp fr = s := by unfold Wd.W.sealUp; rw [if_neg he]
theorem seal_part {w : World} {A : Option Addr} {xs : List Nat} {c f : Nat} (hB : IsB' w A xs.length c xs) (hcn : xs.length ≤ c) (hfl : f ≤ xs.length) :
    IsB w w.heap.size (if c = f then A else A.map (·.add f)) (xs.length - f) (xs.drop f) := by
  have hr : Reads w w.heap.size 1 (if c = f then A else A.map (·.add (f * 1))) (xs.length - f) ((xs.map u8).drop (f * 1)) := hB.1.1.cut hfl hcn
  have := hB.1.2.2
  exact ⟨by simpa [List.map_drop] using hr, fun b hb => hB.1.2.1 b (List.mem_of_mem_drop hb), by omega⟩
set_option maxRecDepth 100000 in
set_option maxHeartbeats 400000 in
theorem seal_in (g c f : Nat) (r : Option Nat) (A : Option Addr) (xs : List Nat) (w : World) (hw : Hid (Wr w g r ⟨xs, 0⟩)) (hl : xs.length ≤ 70368744177664) (hfl : f ≤ xs.length) (hcn : xs.length ≤ c)
    (d0 : w.cell? ⟨g, 0, none⟩ = some (.slice A xs.length c)) (d1 : w.cell? ⟨g, 1, none⟩ = some (.int .i64 0)) (f0 : w.frozen? ⟨g, 0, none⟩ = false) (f1 : w.frozen? ⟨g, 1, none⟩ = false) (hlt : g < w.heap.size)
    (HIS1 : Hid (c = f → IsB w w.heap.size A (xs.length - f) (xs.drop f))) (HIS2 : Hid (¬ c = f → IsB w w.heap.size (A.map (·.add f)) (xs.length - f) (xs.drop f))) (HB : Hid (∀ b ∈ xs.drop f, b < 256)) :
    Calls Try.prog 33 #[.pointer (some ⟨g, 0, none⟩), .int .i64 f] w fun e w' => e = .returned (.tuple #[]) ∧ ∃ r', Wr w' g r' (Wd.W.lay ⟨xs, 0⟩ (Wd.le 4 (Crc.more 0 (xs.drop f)))) ∧ Chg (g :: r.toList) w w' ∧ Moved w r r' := by
  obtain ⟨x, hx⟩ : ∃ x, x = Crc.more 0 (xs.drop f) := ⟨_, rfl⟩
  have hxl : x < 4294967296 := by rw [hx]; exact Crc.more_lt _ (by decide) HB.out
  have HX := Lib.hid hx
  clear hx
  go_enter Try.func33, Try.ntmps33
  go_wp2_with fail
  all_goals
   rename_i h
   first
    | refine (crc_any _ _ _ (xs.drop f) w (HIS1.out h)).mono ?_
    | refine (crc_any _ _ _ (xs.drop f) w (HIS2.out h)).mono ?_
   rw [← HX.out]
   rintro e w1 ⟨rfl, hb1⟩
   have HB1 := Lib.hid hb1
   clear hb1
   go_wp2_with fail
   refine (lay_uint32 g r ⟨xs, 0⟩ x w1 (hw.out.below HB1.out) hxl hl).mono ?_
   rintro e w2 ⟨rfl, h⟩
   have HH := Lib.hid h
   clear h
   go_wp2_with fail
   go_end0
   refine ⟨rfl, ?_⟩
   obtain ⟨r', q1, q2, q3⟩ := HH.out
   rw [← HX.out]
   exact ⟨r', q1, (Chg.of_below HB1.out).trans q2 (fun x hx => .inl hx), q3.imp id (fun ⟨k, h1, h2⟩ => ⟨k, h1, Nat.le_trans HB1.out.size h2⟩)⟩
set_option maxRecDepth 100000 in
set_option maxHeartbeats 400000 in
theorem wseal_any (g : Nat) (r : Option Nat) (s : Wd.W) (fr : Int) (w : World) (hw : Wr w g r s) (hl : s.b.length ≤ 70368744177664) :
    Calls Try.prog 33 #[.pointer (some ⟨g, 0, none⟩), .int .i64 fr] w fun e w' => e = .returned (.tuple #[]) ∧ ∃ r', Wr w' g r' (s.sealUp fr) ∧ Chg (g :: r.toList) w w' ∧ Moved w r r' := by
  obtain ⟨A, c, d0, d1, f0, f1, hlt, hB, HROW, HOWN, HOB, HGR⟩ := hw.open_
  by_cases he : s.e = 0
  · obtain ⟨xs, e⟩ := s
    simp only at he hl d0 d1 hB
    subst he
    have HBX := Lib.hid hB
    have HW := Lib.hid hw
    by_cases hfr : 0 ≤ fr ∧ fr ≤ xs.length
    · have HE := Lib.hid (seal_near ⟨xs, 0⟩ fr rfl hfr)
      obtain ⟨f, hf⟩ : ∃ f : Nat, fr = f := ⟨fr.toNat, by omega⟩
      subst hf
      have hfl : f ≤ xs.length := by omega
      have hcn : xs.length ≤ c := by
        have h1 := HOWN.out.2
        simp only at h1
        rcases h1 with ⟨h, h0⟩ | ⟨g', cap, cur, hv, _, _, hnc, _⟩
        · omega
        · injection hv with _ _ hc; omega
      have hIs := seal_part hB hcn hfl
      have h4 := seal_in g c f r A xs w HW hl hfl hcn d0 d1 f0 f1 hlt (Lib.hid fun h => by rw [if_pos h] at hIs; exact hIs) (Lib.hid fun h => by rw [if_neg h] at hIs; exact hIs) (Lib.hid fun b hb => HBX.out.1.2.1 b (List.mem_of_mem_drop hb))
      refine h4.mono ?_
      rintro e w' ⟨rfl, h⟩
      rw [HE.out]
      exact ⟨rfl, h⟩
    · have HE := Lib.hid (seal_far ⟨xs, 0⟩ fr rfl hfr)
      have HF := Lib.hid hfr
      clear hB hw
      by_cases h0 : fr < 0
      all_goals
        have h1 : fr < 0 ∨ (xs.length : Int) < fr := by have := HF.out; omega
        have HF1 := Lib.hid h1
        clear h1
        first
          | (have h2 : (xs.length : Int) < fr := by have := HF1.out; omega)
          | skip
        go_enter Try.func33, Try.ntmps33
        go_wp2_with fail
        go_end0
        exact ⟨rfl, by rw [HE.out]; exact err_done HROW.out HOWN.out HOB.out HBX.out.1.2.1⟩
  · have he' : ((s.e : Int) != 0) = true := by rw [bne_iff_ne]; omega
    have HE := Lib.hid (seal_not s fr he)
    have HW := Lib.hid hw
    clear hw he hB
    go_enter Try.func33, Try.ntmps33
    go_wp2_with fail
    go_end0
    exact ⟨rfl, r, by rw [HE.out]; exact HW.out, Chg.refl _ _, Moved.refl _ _⟩
end Go.Proofs.Ytajkiglogfahfaa
