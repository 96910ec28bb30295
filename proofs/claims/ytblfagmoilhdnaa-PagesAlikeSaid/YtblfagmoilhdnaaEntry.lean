/- walk.Entry and bulkheadref4.Entry at every level: both tell what the plain law's 'say' tells. -/
import Derived.Test.YtblfagmoilhdnaaEntryA
import Derived.Test.YtblfagmoilhdnaaEntryB
set_option linter.unusedVariables false
set_option linter.unusedSimpArgs false
namespace Go.Proofs.Ytblfagmoilhdnaa
open Go.RowKit
open Ent (E)
theorem out_say (e lv : Nat) (hp : e % 2 = 1) (hr : e = Ent.frame e + e % 16) (mis : Bool) (hm : mis = decide (Ent.frame e % 2097152 ≠ 0)) : out (Ent.frame e) lv (Ent.bit e 2) (Ent.bit e 4) (Ent.bit e 8) mis = Ent.say e lv := by
  subst hm
  unfold Ent.say out Ent.wrong
  rw [if_neg (show ¬ e % 2 = 0 by omega), if_neg (show ¬ e ≠ Ent.frame e + e % 16 from not_not_intro hr)]
theorem say_absent (e lv : Nat) (hp : e % 2 = 0) : Ent.say e lv = (Ent.zero, 41) := by unfold Ent.say; rw [if_pos hp]
theorem say_bad (e lv : Nat) (hp : e % 2 = 1) (hr : e ≠ Ent.frame e + e % 16) : Ent.say e lv = (Ent.zero, 42) := by unfold Ent.say; rw [if_neg (by omega), if_pos hr]
/-- walk.Entry, at a level that is there -/
theorem entry_any (e lv : Nat) (W : World) (he : e < 18446744073709551616) (hl : lv < 3) :
    Calls Try.prog 54 #[.int .u64 (e : Nat), .int .i64 (lv : Nat)] W fun en w' => en = .returned (.tuple #[eVal (Ent.say e lv).1, .int .i64 ((Ent.say e lv).2 : Nat)]) ∧ Below W.heap.size W w' := by
  obtain ⟨r, hf, hr, h1⟩ := facts e he
  rcases Nat.mod_two_eq_zero_or_one e with hp | hp
  · rw [say_absent e lv hp]
    exact entabsent e lv W (by rw [h1, hp]; rfl) (by omega) (by omega)
  · rw [hp] at h1
    by_cases hr0 : r = 0
    · have ho := out_say e lv hp (hr.1 hr0) ((Ent.frame e : Int) % 2097152 != 0) (by rw [Bool.eq_iff_iff]; simp; omega)
      match lv, hl with
      | 0, _ => exact ent_0 e _ r _ _ _ _ W hf h1 hr0 rfl _ _ (Lib.hid (by rw [ho]))
      | 1, _ => exact ent_1 e _ r _ _ _ _ W hf h1 hr0 rfl _ _ (Lib.hid (by rw [ho]))
      | 2, _ => exact ent_2 e _ r _ _ _ _ W hf h1 hr0 rfl _ _ (Lib.hid (by rw [ho]))
    · rw [say_bad e lv hp (fun h => hr0 (hr.2 h))]
      have hr1 : ((r : Int) != 0) = true := by rw [bne_iff_ne]; omega
      match lv, hl with
      | 0, _ => exact entbad_0 e _ r _ _ _ W hf h1 hr1
      | 1, _ => exact entbad_1 e _ r _ _ _ W hf h1 hr1
      | 2, _ => exact entbad_2 e _ r _ _ _ W hf h1 hr1
end Go.Proofs.Ytblfagmoilhdnaa
