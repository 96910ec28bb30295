/- Plain law: the check sum, one bit at a time and four bits at a time. No program in sight. -/
set_option linter.unusedVariables false
set_option linter.unusedSimpArgs false
namespace Go.Proofs.Ytmhkmemaneopeaa.Crc
def poly : Nat := 2197175160
/-- one bit of the register -/
def st (r : Nat) : Nat := (r >>> 1) ^^^ (if r % 2 = 1 then poly else 0)
def stN : Nat → Nat → Nat
  | 0, r => r
  | n + 1, r => stN n (st r)
def upd (r c : Nat) : Nat := stN 8 (r ^^^ c)
def run (r : Nat) (bs : List Nat) : Nat := bs.foldl upd r
def ones : Nat := 4294967295
def more (sum : Nat) (bs : List Nat) : Nat := run (sum ^^^ ones) bs ^^^ ones

theorem st_xor (a b : Nat) : st (a ^^^ b) = st a ^^^ st b := by
  unfold st
  have h : (a ^^^ b) % 2 = (a % 2 + b % 2) % 2 := by
    have := Nat.xor_mod_two_pow (a := a) (b := b) (n := 1)
    simp at this
    rw [this]
    rcases Nat.mod_two_eq_zero_or_one a with ha | ha <;> rcases Nat.mod_two_eq_zero_or_one b with hb | hb <;> simp [ha, hb]
  rw [Nat.shiftRight_xor_distrib, h]
  rcases Nat.mod_two_eq_zero_or_one a with ha | ha <;> rcases Nat.mod_two_eq_zero_or_one b with hb | hb <;> simp only [ha, hb]
  · simp
  · simp; rw [Nat.xor_assoc]
  · simp; rw [Nat.xor_assoc, Nat.xor_assoc, Nat.xor_comm poly]
  · simp
    rw [Nat.xor_assoc, ← Nat.xor_assoc poly, Nat.xor_comm poly (b >>> 1), Nat.xor_assoc (b >>> 1), Nat.xor_self, Nat.xor_zero]
theorem stN_xor (n a b : Nat) : stN n (a ^^^ b) = stN n a ^^^ stN n b := by
  induction n generalizing a b with
  | zero => rfl
  | succ n ih => simp only [stN]; rw [st_xor, ih]
theorem stN_add (m n r : Nat) : stN (m + n) r = stN n (stN m r) := by
  induction m generalizing r with
  | zero => simp [stN]
  | succ m ih => rw [Nat.succ_add]; simp only [stN]; exact ih _
theorem st_lt {r : Nat} (h : r < 4294967296) : st r < 4294967296 := by
  unfold st
  refine Nat.xor_lt_two_pow (n := 32) ?_ ?_
  · rw [Nat.shiftRight_eq_div_pow]; omega
  · split <;> simp [poly]
theorem stN_lt {r : Nat} (n : Nat) (h : r < 4294967296) : stN n r < 4294967296 := by
  induction n generalizing r with
  | zero => exact h
  | succ n ih => exact ih (st_lt h)
theorem stN_even (n x : Nat) : stN n (x <<< n) = x := by
  induction n with
  | zero => simp [stN]
  | succ n ih =>
    simp only [stN]
    have : st (x <<< (n + 1)) = x <<< n := by
      unfold st
      have h2 : x <<< (n + 1) = 2 * (x <<< n) := by rw [Nat.shiftLeft_succ]
      rw [h2]
      have : ¬ (2 * (x <<< n)) % 2 = 1 := by omega
      rw [if_neg this, Nat.shiftRight_eq_div_pow]
      simp
    rw [this, ih]
/-- four bits at a time -/
theorem st4 (r : Nat) : stN 4 r = (r >>> 4) ^^^ stN 4 (r &&& 15) := by
  have h : r = ((r >>> 4) <<< 4) ^^^ (r &&& 15) := by
    apply Nat.eq_of_testBit_eq
    intro i
    have h15 : (15 : Nat) = 2 ^ 4 - 1 := rfl
    rw [Nat.testBit_xor, Nat.testBit_shiftLeft, Nat.testBit_and, h15, Nat.testBit_two_pow_sub_one, Nat.testBit_shiftRight]
    by_cases hi : i < 4
    · have : ¬ 4 ≤ i := by omega
      simp [hi, this]
    · have : 4 ≤ i := by omega
      simp [hi, this, show 4 + (i - 4) = i by omega]
  conv => lhs; rw [h]
  rw [stN_xor, stN_even]
theorem upd_two (r c : Nat) : upd r c = (let a := r ^^^ c; let b := (a >>> 4) ^^^ stN 4 (a &&& 15); (b >>> 4) ^^^ stN 4 (b &&& 15)) := by
  unfold upd
  rw [show (8 : Nat) = 4 + 4 from rfl, stN_add, st4, st4 (r ^^^ c)]
theorem upd_lt {r c : Nat} (h : r < 4294967296) (hc : c < 4294967296) : upd r c < 4294967296 := stN_lt 8 (Nat.xor_lt_two_pow (n := 32) h hc)
theorem run_lt {r : Nat} (bs : List Nat) (h : r < 4294967296) (hb : ∀ c ∈ bs, c < 256) : run r bs < 4294967296 := by
  induction bs generalizing r with
  | nil => exact h
  | cons c bs ih => exact ih (upd_lt h (by have := hb c (by simp); omega)) (fun x hx => hb x (by simp [hx]))
theorem run_snoc (r : Nat) (bs : List Nat) (c : Nat) : run r (bs ++ [c]) = upd (run r bs) c := by simp [run]
theorem run_append (r : Nat) (bs cs : List Nat) : run r (bs ++ cs) = run (run r bs) cs := by simp [run]
theorem more_append (s : Nat) (bs cs : List Nat) : more (more s bs) cs = more s (bs ++ cs) := by
  unfold more
  rw [run_append, Nat.xor_assoc, Nat.xor_self, Nat.xor_zero]
theorem more_lt {s : Nat} (bs : List Nat) (h : s < 4294967296) (hb : ∀ c ∈ bs, c < 256) : more s bs < 4294967296 :=
  Nat.xor_lt_two_pow (n := 32) (run_lt bs (Nat.xor_lt_two_pow (n := 32) h (by decide)) hb) (by decide)
theorem more_zero : more 0 [0] = 0x527D5351 := by decide
end Go.Proofs.Ytmhkmemaneopeaa.Crc
