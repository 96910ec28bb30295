/- Plain laws on sums, differences, products and multiples of numbers below a bound. -/
import Derived.Test.YtajkiglogfahfaaNum
set_option linter.unusedVariables false
set_option linter.unusedSimpArgs false
namespace Go.Proofs.Ytajkiglogfahfaa
theorem k_add {M a b s : Nat} {A : Bool} (h : Num.add M a b = (s, A)) (hA : A = true := by rfl) : a ≤ s ∧ Num.sub s b = (a, true) := by
  unfold Num.add at h
  split at h
  · simp at h
    obtain ⟨rfl, rfl⟩ := h
    refine ⟨by omega, ?_⟩
    unfold Num.sub
    rw [if_pos (by omega)]
    simp
  · simp at h; rw [hA] at h; simp at h
theorem k_add_lt {M a b s : Nat} {A : Bool} (ha : a < M) (hb : b < M) (h : Num.add M a b = (s, A)) : s < M := by
  unfold Num.add at h
  split at h
  · simp at h; omega
  · simp at h; omega
theorem k_sub {a b d : Nat} {D : Bool} (h : Num.sub a b = (d, D)) : D = decide (b ≤ a) ∧ (D = true → d + b = a) := by
  unfold Num.sub at h
  split at h
  · rename_i hl; simp at h; obtain ⟨rfl, rfl⟩ := h; exact ⟨by simp [hl], fun _ => by omega⟩
  · rename_i hl; simp at h; obtain ⟨rfl, rfl⟩ := h; exact ⟨by simp [hl], fun h => by cases h⟩
theorem k_mul {M a b m : Nat} (hb : 0 < b) (h : Num.mul M a b = (m, true)) : m / b = a ∧ m % b = 0 := by
  unfold Num.mul at h
  split at h
  · simp at h; subst h; exact ⟨Nat.mul_div_cancel _ hb, Nat.mul_mod_left _ _⟩
  · simp at h
theorem k_up {M a b u : Nat} (h : Num.up M a b = (u, true)) : 0 < b ∧ a ≤ u ∧ u - a < b ∧ u % b = 0 := by
  unfold Num.up at h
  split at h
  · simp at h
  · rename_i hb
    split at h
    · rename_i h0
      simp at h
      subst h
      exact ⟨by omega, by omega, by omega, h0⟩
    · rename_i h0
      unfold Num.add at h
      split at h
      · simp at h
        have hlt := Nat.mod_lt a (show b > 0 by omega)
        have hle := Nat.mod_le a b
        subst h
        refine ⟨by omega, by omega, by omega, ?_⟩
        have e : a - a % b = b * (a / b) := by have := Nat.div_add_mod a b; omega
        rw [e, Nat.add_mod_right, Nat.mul_mod_right]
      · simp at h
theorem k_up_lt {M a b u : Nat} {U : Bool} (ha : a < M) (h : Num.up M a b = (u, U)) : u < M := by
  unfold Num.up at h
  split at h
  · simp at h; omega
  · split at h
    · simp at h; omega
    · unfold Num.add at h
      split at h
      · simp at h; omega
      · simp at h; omega
theorem k_sub_lt {M a b d : Nat} {D : Bool} (ha : a < M) (h : Num.sub a b = (d, D)) : d < M := by
  unfold Num.sub at h
  split at h
  · simp at h; omega
  · simp at h; omega
theorem k_addback {M a b d : Nat} (ha : a < M) (h : d + b = a) : Num.add M d b = (a, true) := by
  unfold Num.add
  rw [h, if_pos ha]
theorem k_up0 (M a : Nat) : Num.up M a 0 = (0, false) := by simp [Num.up]
theorem k_up1 (M a : Nat) : Num.up M a 1 = (a, true) := by simp [Num.up, Nat.mod_one]
theorem k_mul_lt {M a b m : Nat} {A : Bool} (hM : 0 < M) (h : Num.mul M a b = (m, A)) : m < M := by
  unfold Num.mul at h
  split at h
  · simp at h; omega
  · simp at h; omega
end Go.Proofs.Ytajkiglogfahfaa
