/- Plain law: a burst of at most 32 bits, wherever it lies in bytes and their seal, is seen. No program in sight. -/
import Derived.Test.YtajkiglogfahfaaWd
set_option linter.unusedVariables false
set_option linter.unusedSimpArgs false
namespace Go.Proofs.Ytajkiglogfahfaa.Burst
open Crc Wd

theorem add_xor (a b k : Nat) (ha : a < 2 ^ k) : a + 2 ^ k * b = a ^^^ 2 ^ k * b := by
  rw [Nat.add_comm]
  apply Nat.eq_of_testBit_eq
  intro i
  rw [Nat.testBit_two_pow_mul_add _ ha, Nat.testBit_xor, Nat.testBit_two_pow_mul]
  by_cases hi : i < k
  · simp [hi, show ¬ k ≤ i by omega]
  · have h2 : a.testBit i = false := Nat.testBit_lt_two_pow (Nat.lt_of_lt_of_le ha (Nat.pow_le_pow_right (by decide) (by omega)))
    simp [hi, h2, show k ≤ i by omega]
theorem stN_mul (n x : Nat) : stN n (2 ^ n * x) = x := by
  have := stN_even n x
  rw [Nat.shiftLeft_eq, Nat.mul_comm] at this
  exact this
theorem mul_xor (k a b : Nat) : 2 ^ k * (a ^^^ b) = 2 ^ k * a ^^^ 2 ^ k * b := by
  have := Nat.shiftLeft_xor_distrib (a := a) (b := b) (i := k)
  simp only [Nat.shiftLeft_eq] at this
  rw [Nat.mul_comm, this, Nat.mul_comm a, Nat.mul_comm b]
theorem run_num (bs : List Nat) (r : Nat) (hb : ∀ b ∈ bs, b < 256) : run r bs = stN (8 * bs.length) (r ^^^ unle bs) := by
  induction bs generalizing r with
  | nil => simp [run, unle, stN]
  | cons b bs ih =>
    have h1 := hb b (by simp)
    rw [show run r (b :: bs) = run (upd r b) bs from rfl, ih _ (fun x hx => hb x (by simp [hx]))]
    rw [show 8 * (b :: bs).length = 8 + 8 * bs.length by simp; omega, stN_add]
    congr 1
    rw [unle, show (256 : Nat) = 2 ^ 8 from rfl, add_xor b _ 8 (by omega), ← Nat.xor_assoc, stN_xor 8 (r ^^^ b), stN_mul]
    rfl
theorem unle_flip (L : List Nat) (j m : Nat) (hj : j < L.length) (hm : m < 8) (hb : ∀ b ∈ L, b < 256) : unle (L.set j (L.getD j 0 ^^^ 2 ^ m)) = unle L ^^^ 2 ^ (8 * j + m) := by
  induction L generalizing j with
  | nil => simp at hj
  | cons b r ih =>
    have h1 := hb b (by simp)
    have hp : (2 : Nat) ^ m < 2 ^ 8 := Nat.pow_lt_pow_right (by decide) hm
    cases j with
    | zero =>
      simp only [List.set_cons_zero, List.getD_cons_zero, unle, Nat.mul_zero, Nat.zero_add]
      rw [show (256 : Nat) = 2 ^ 8 from rfl, add_xor _ _ 8 (Nat.xor_lt_two_pow (by omega) hp), add_xor b _ 8 (by omega), Nat.xor_assoc, Nat.xor_comm (2 ^ m), Nat.xor_assoc]
    | succ j =>
      simp only [List.set_cons_succ, List.getD_cons_succ, unle]
      rw [ih j (by simpa using hj) (fun x hx => hb x (by simp [hx])), show (256 : Nat) = 2 ^ 8 from rfl, add_xor b _ 8 (by omega), add_xor b _ 8 (by omega), mul_xor, Nat.xor_assoc, ← Nat.pow_add, show 8 + (8 * j + m) = 8 * (j + 1) + m by omega]
theorem st_ne {g : Nat} (h0 : g ≠ 0) (h : g < 4294967296) : st g ≠ 0 := by
  unfold st
  intro hc
  rw [Nat.shiftRight_eq_div_pow] at hc
  split at hc
  · have h2 : (g / 2 ^ 1 ^^^ poly) ^^^ poly = 0 ^^^ poly := by rw [hc]
    rw [Nat.xor_assoc, Nat.xor_self, Nat.xor_zero, Nat.zero_xor] at h2
    unfold poly at h2
    omega
  · rw [Nat.xor_zero] at hc
    omega
theorem stN_ne (n : Nat) {g : Nat} (h0 : g ≠ 0) (h : g < 4294967296) : stN n g ≠ 0 := by
  induction n generalizing g with
  | zero => exact h0
  | succ n ih => exact ih (st_ne h0 h) (st_lt h)
theorem residue (Z : List Nat) (n : Nat) (hl : Z.length = n + 4) (hb : ∀ b ∈ Z, b < 256) (h : unle (Z.drop n) = more 0 (Z.take n)) : stN (8 * (n + 4)) (ones ^^^ unle Z) = stN 32 ones := by
  rw [← hl, ← run_num Z ones hb]
  conv => lhs; rw [← List.take_append_drop n Z]
  rw [run_append, run_num (Z.drop n) _ (fun x hx => hb x (List.mem_of_mem_drop hx)), h]
  unfold more
  rw [Nat.zero_xor, ← Nat.xor_assoc, Nat.xor_self, Nat.zero_xor, show 8 * (Z.drop n).length = 32 by simp; omega]
theorem caught (p Y : List Nat) (n g bit : Nat) (hp : p.length = n) (hpb : ∀ b ∈ p, b < 256) (hY : Y.length = n + 4) (hYb : ∀ b ∈ Y, b < 256) (hg0 : g ≠ 0) (hg : g < 4294967296) (hbit : bit ≤ 8 * (n + 4))
    (h : unle Y = unle (p ++ le 4 (more 0 p)) ^^^ 2 ^ bit * g) : unle (Y.drop n) ≠ more 0 (Y.take n) := by
  intro hc
  have hm : more 0 p < 4294967296 := more_lt p (by decide) hpb
  have h1 := residue Y n hY hYb hc
  have hBl : (p ++ le 4 (more 0 p)).length = n + 4 := by rw [List.length_append, le_len, hp]
  have hBb : ∀ b ∈ p ++ le 4 (more 0 p), b < 256 := fun b hb => by
    rcases List.mem_append.1 hb with h | h
    · exact hpb b h
    · exact le_lt _ _ b h
  have h2 := residue (p ++ le 4 (more 0 p)) n hBl hBb (by rw [List.drop_append_of_le_length (by omega), List.take_append_of_le_length (by omega), List.take_of_length_le (by omega), List.drop_of_length_le (by omega), List.nil_append, unle_le]; omega)
  rw [h, ← Nat.xor_assoc, stN_xor, h2] at h1
  have h3 : stN (8 * (n + 4)) (2 ^ bit * g) = 0 := by
    have h4 : stN 32 ones ^^^ (stN 32 ones ^^^ stN (8 * (n + 4)) (2 ^ bit * g)) = stN 32 ones ^^^ stN 32 ones := by rw [h1]
    rw [← Nat.xor_assoc, Nat.xor_self, Nat.zero_xor] at h4
    exact h4
  rw [show 8 * (n + 4) = bit + (8 * (n + 4) - bit) by omega, stN_add, stN_mul] at h3
  exact stN_ne _ hg0 hg h3
end Go.Proofs.Ytajkiglogfahfaa.Burst
