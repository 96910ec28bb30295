/- The walks of With and Touches. -/
import Derived.Test.YtchajbegjajlkaaSpZ64
set_option linter.unusedVariables false
set_option linter.unusedSimpArgs false
namespace Go.Proofs.Ytchajbegjajlkaa
open Go.RowKit
namespace S64
/-- does a point of a span lie in a set? -/
def touch (s : Sp.S) (a b : Nat) : Bool := (Sp.next s a).2 && decide ((Sp.next s a).1 ≤ b) && !decide (b < a)
theorem touch_iff {s : Sp.S} {a b : Nat} (hn : Sp.Nrm TOP s) : touch s a b = true ↔ ∃ p, a ≤ p ∧ p ≤ b ∧ Sp.has s p = true := by
  unfold touch
  cases hx : Sp.next s a with
  | mk m o =>
    cases o with
    | false =>
      have := (Sp.next_none hn (show (Sp.next s a).2 = false by rw [hx])).2
      simp only [Bool.false_and, Bool.false_eq_true, false_iff]
      rintro ⟨p, h1, _, h3⟩
      rw [this p h1] at h3
      cases h3
    | true =>
      obtain ⟨h1, h2, h3⟩ := Sp.next_some hn hx
      simp only [Bool.true_and, Bool.and_eq_true, decide_eq_true_eq, Bool.not_eq_true', decide_eq_false_iff_not]
      constructor
      · rintro ⟨h4, h5⟩
        exact ⟨m, h1, h4, h2⟩
      · rintro ⟨p, h4, h5, h6⟩
        refine ⟨?_, by omega⟩
        rcases Nat.lt_or_ge p m with h | h
        · rw [h3 p h4 h] at h6; cases h6
        · omega
/-- with one span more -/
def MadeW (w : World) (s : Sp.S) (a b : Nat) (e : Ending) (w' : World) : Prop := ∃ A n c out, e = .returned (setV A n c) ∧ OwnS w' w.heap.size A n c out ∧ Sp.Mk TOP (fun a b => a || b) s (one a b) out ∧ Below w.heap.size w w'
theorem one_len (a b : Nat) : (one a b).length ≤ 1 := by unfold one; split <;> simp
theorem one_nrm {a b : Nat} (hb : b ≤ TOP) : Sp.Nrm TOP (one a b) := (one_of hb).nrm
end S64
end Go.Proofs.Ytchajbegjajlkaa
