/- The walk of bulkheadref4.Entry, by the entry's bits and the level. -/
import Derived.Test.YtblfagmoilhdnaaEntryA
set_option linter.unusedVariables false
set_option linter.unusedSimpArgs false
namespace Go.Proofs.Ytblfagmoilhdnaa
open Go.RowKit
open Ent (E)

structure FactsR (e F : Nat) (w x b bad : Bool) : Prop where
  hF : (e : Int) / 4096 % 1048576 * 4096 = (F : Int)
  hw : ((e : Int) / 2 % 2 == 1) = w
  hx : ((e : Int) / 4 % 2 == 1) = x
  hb : ((e : Int) / 8 % 2 == 1) = b
  hr : ((e : Int) != (F : Int) + (e : Int) % 16) = bad
  lt : F < 4294967296
  le : e < 18446744073709551616
theorem factsR (e : Nat) (h : e < 18446744073709551616) : FactsR e (Ent.frame e) (Ent.bit e 2) (Ent.bit e 4) (Ent.bit e 8) (decide (e ≠ Ent.frame e + e % 16)) := by
  refine ⟨by unfold Ent.frame; omega, ?_, ?_, ?_, ?_, Ent.frame_lt e, h⟩
  · unfold Ent.bit; rw [Bool.eq_iff_iff]; simp; omega
  · unfold Ent.bit; rw [Bool.eq_iff_iff]; simp; omega
  · unfold Ent.bit; rw [Bool.eq_iff_iff]; simp; omega
  · rw [Bool.eq_iff_iff]; simp; omega

end Go.Proofs.Ytblfagmoilhdnaa
