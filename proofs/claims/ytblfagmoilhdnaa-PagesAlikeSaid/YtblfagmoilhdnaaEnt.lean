/- Plain law: what an entry says at a level, the entry that says it, and that each is the other's inverse. No program in sight. -/
set_option linter.unusedVariables false
set_option linter.unusedSimpArgs false
namespace Go.Proofs.Ytblfagmoilhdnaa.Ent
/-- an entry's parts: frame, table, big, write, exec -/
structure E where
  F : Nat
  t : Bool
  b : Bool
  w : Bool
  x : Bool
deriving DecidableEq
def zero : E := ⟨0, false, false, false, false⟩
def frame (e : Nat) : Nat := e / 4096 % 1048576 * 4096
def bit (e k : Nat) : Bool := decide (e / k % 2 = 1)
/-- the parts are there, but do they fit the level? -/
def wrong (F : Nat) (lv : Nat) (b w x : Bool) : Bool := (b && (decide (lv ≠ 1) || decide (F % 2097152 ≠ 0))) || (decide (lv < 2) && !b && (w || x))
def say (e lv : Nat) : E × Nat :=
  if e % 2 = 0 then (zero, 41) else
  if e ≠ frame e + e % 16 then (zero, 42) else
  if wrong (frame e) lv (bit e 8) (bit e 2) (bit e 4) then (zero, 42) else (⟨frame e, decide (lv < 2) && !bit e 8, bit e 8, bit e 2, bit e 4⟩, 0)
def num (y : E) : Nat := (((y.F ||| 1) ||| (if y.w then 2 else 0)) ||| (if y.x then 4 else 0)) ||| (if y.b then 8 else 0)
def make (y : E) (lv : Nat) : Nat × Nat := if say (num y) lv = (y, 0) then (num y, 0) else (0, 42)

theorem frame_lt (e : Nat) : frame e < 4294967296 := by unfold frame; omega
theorem frame_of (e : Nat) : frame e = (e / 4096 % 1048576) <<< 12 := by unfold frame; rw [Nat.shiftLeft_eq]
theorem tb_frame (e i : Nat) : (frame e).testBit i = (decide (12 ≤ i) && decide (i < 32) && e.testBit i) := by
  rw [frame_of, Nat.testBit_shiftLeft]
  rw [show (1048576 : Nat) = 2 ^ 20 from rfl, Nat.testBit_mod_two_pow, show (4096 : Nat) = 2 ^ 12 from rfl, Nat.testBit_div_two_pow]
  by_cases h : 12 ≤ i
  · rw [show i - 12 + 12 = i by omega]
    by_cases h2 : i < 32
    · simp [h, h2, show i - 12 < 20 by omega]
    · simp [h, h2, show ¬ i - 12 < 20 by omega]
  · simp [h]
theorem and_frame (e : Nat) : e &&& 4294963200 = frame e := by
  apply Nat.eq_of_testBit_eq
  intro i
  rw [Nat.testBit_and, tb_frame]
  have h : (4294963200 : Nat) = (2 ^ 20 - 1) <<< 12 := rfl
  rw [h, Nat.testBit_shiftLeft, Nat.testBit_two_pow_sub_one]
  by_cases h1 : 12 ≤ i <;> by_cases h2 : i < 32
  · simp [h1, h2, show i - 12 < 20 by omega]
  · simp [h1, h2, show ¬ i - 12 < 20 by omega]
  · simp [h1]
  · simp [h1]
theorem and_pow (e k : Nat) : e &&& 2 ^ k = e / 2 ^ k % 2 * 2 ^ k := by
  apply Nat.eq_of_testBit_eq
  intro i
  rw [← Nat.shiftLeft_eq, Nat.testBit_and, Nat.testBit_two_pow, Nat.testBit_shiftLeft, show e / 2 ^ k % 2 = e / 2 ^ k % 2 ^ 1 from rfl, Nat.testBit_mod_two_pow, Nat.testBit_div_two_pow]
  by_cases h : k = i
  · subst h; simp
  · by_cases h2 : k ≤ i
    · simp [h, show ¬ i - k < 1 by omega]
    · simp [h, h2]
theorem and2 (e : Nat) : e &&& 2 = e / 2 % 2 * 2 := and_pow e 1
theorem and4 (e : Nat) : e &&& 4 = e / 4 % 2 * 4 := and_pow e 2
theorem and8 (e : Nat) : e &&& 8 = e / 8 % 2 * 8 := and_pow e 3
theorem and_mask (e : Nat) : e &&& 4294963215 = frame e + e % 16 := by
  have h1 : frame e + e % 16 = 2 ^ 12 * (e / 4096 % 1048576) + e % 16 := by unfold frame; omega
  rw [h1]
  apply Nat.eq_of_testBit_eq
  intro i
  rw [Nat.testBit_two_pow_mul_add _ (by omega), Nat.testBit_and]
  have h : (4294963215 : Nat) = 2 ^ 12 * (2 ^ 20 - 1) + (2 ^ 4 - 1) := rfl
  rw [h, Nat.testBit_two_pow_mul_add _ (by decide), Nat.testBit_two_pow_sub_one, Nat.testBit_two_pow_sub_one]
  by_cases h1 : i < 12
  · rw [if_pos h1, if_pos h1, show (16 : Nat) = 2 ^ 4 from rfl, Nat.testBit_mod_two_pow, Bool.and_comm]
  · rw [if_neg h1, if_neg h1, show (1048576 : Nat) = 2 ^ 20 from rfl, Nat.testBit_mod_two_pow, show (4096 : Nat) = 2 ^ 12 from rfl, Nat.testBit_div_two_pow, show i - 12 + 12 = i by omega, Bool.and_comm]
/-- the bits that say nothing -/
theorem rest_zero (e : Nat) (h : e < 18446744073709551616) : (e &&& (18446744073709551615 - 4294963215) = 0) ↔ e = frame e + e % 16 := by
  rw [← and_mask]
  have key : ∀ i, (e &&& (18446744073709551615 - 4294963215)).testBit i = (e.testBit i && !(4294963215 : Nat).testBit i) := by
    intro i
    rw [Nat.testBit_and]
    by_cases hi : i < 64
    · congr 1
      have : ∀ j : Fin 64, ((18446744073709551615 - 4294963215 : Nat)).testBit j.val = !(4294963215 : Nat).testBit j.val := by decide
      exact this ⟨i, hi⟩
    · rw [Nat.testBit_lt_two_pow (x := e) (Nat.lt_of_lt_of_le h (Nat.pow_le_pow_right (n := 2) (by decide) (show 64 ≤ i by omega)))]
      simp
  constructor
  · intro h0
    apply Nat.eq_of_testBit_eq
    intro i
    have := key i
    rw [h0, Nat.zero_testBit] at this
    rw [Nat.testBit_and]
    cases he : e.testBit i
    · simp
    · rw [he] at this; simp at this; rw [this]; rfl
  · intro h1
    apply Nat.eq_of_testBit_eq
    intro i
    rw [key, Nat.zero_testBit]
    have := congrArg (Nat.testBit · i) h1
    simp only [Nat.testBit_and] at this
    cases he : e.testBit i
    · simp
    · rw [he] at this; simp at this; rw [this]; simp
theorem num_tb (y : E) (i : Nat) : (num y).testBit i = (y.F.testBit i || decide (i = 0) || (y.w && decide (i = 1)) || (y.x && decide (i = 2)) || (y.b && decide (i = 3))) := by
  unfold num
  rw [Nat.testBit_or, Nat.testBit_or, Nat.testBit_or, Nat.testBit_or]
  have h1 : (1 : Nat).testBit i = decide (i = 0) := by
    have := Nat.testBit_two_pow (n := 0) (m := i); rw [show (1 : Nat) = 2 ^ 0 from rfl, this]; simp [eq_comm]
  have h2 : (if y.w = true then 2 else 0 : Nat).testBit i = (y.w && decide (i = 1)) := by
    cases y.w
    · simp
    · have := Nat.testBit_two_pow (n := 1) (m := i); rw [if_pos rfl, show (2 : Nat) = 2 ^ 1 from rfl, this]; simp [eq_comm]
  have h3 : (if y.x = true then 4 else 0 : Nat).testBit i = (y.x && decide (i = 2)) := by
    cases y.x
    · simp
    · have := Nat.testBit_two_pow (n := 2) (m := i); rw [if_pos rfl, show (4 : Nat) = 2 ^ 2 from rfl, this]; simp [eq_comm]
  have h4 : (if y.b = true then 8 else 0 : Nat).testBit i = (y.b && decide (i = 3)) := by
    cases y.b
    · simp
    · have := Nat.testBit_two_pow (n := 3) (m := i); rw [if_pos rfl, show (8 : Nat) = 2 ^ 3 from rfl, this]; simp [eq_comm]
  rw [h1, h2, h3, h4]
theorem bit_tb (e k : Nat) : bit e (2 ^ k) = e.testBit k := by
  unfold bit; rw [Nat.testBit_eq_decide_div_mod_eq]
/-- what an entry says is made into that entry again -/
theorem back {e lv : Nat} {y : E} (h : e < 18446744073709551616) (hs : say e lv = (y, 0)) : num y = e := by
  unfold say at hs
  split at hs
  · simp at hs
  · rename_i h2
    split at hs
    · simp at hs
    · rename_i h3
      split at hs
      · simp at hs
      · simp at hs
        subst hs
        have h3 : e &&& 4294963215 = e := by rw [and_mask]; omega
        apply Nat.eq_of_testBit_eq
        intro i
        rw [num_tb]
        simp only
        rw [tb_frame, show (8 : Nat) = 2 ^ 3 from rfl, show (2 : Nat) = 2 ^ 1 from rfl, show (4 : Nat) = 2 ^ 2 from rfl, bit_tb, bit_tb, bit_tb]
        have hi := congrArg (Nat.testBit · i) h3
        simp only [Nat.testBit_and] at hi
        have hm : (4294963215 : Nat).testBit i = (decide (i < 4) || (decide (12 ≤ i) && decide (i < 32))) := by
          have h : (4294963215 : Nat) = 2 ^ 12 * (2 ^ 20 - 1) + (2 ^ 4 - 1) := rfl
          rw [h, Nat.testBit_two_pow_mul_add _ (by decide), Nat.testBit_two_pow_sub_one, Nat.testBit_two_pow_sub_one]
          by_cases h1 : i < 12
          · rw [if_pos h1]; simp [show ¬ 12 ≤ i by omega]
          · rw [if_neg h1]; simp [show ¬ i < 4 by omega, show 12 ≤ i by omega]; omega
        rw [hm] at hi
        have h0 : e.testBit 0 = true := by rw [Nat.testBit_zero]; simp; omega
        by_cases i0 : i = 0
        · subst i0; simp [h0]
        by_cases i1 : i = 1
        · subst i1; simp
        by_cases i2 : i = 2
        · subst i2; simp
        by_cases i3 : i = 3
        · subst i3; simp
        simp [i0, i1, i2, i3]
        simp [show ¬ i < 4 by omega] at hi
        by_cases ha : 12 ≤ i <;> by_cases hb : i < 32
        · simp [ha, hb]
        · simp [hb] at hi; simp [hb, hi]
        · simp [ha] at hi; simp [ha, hi]
        · simp [ha] at hi; simp [ha, hi]
theorem make_back {e lv : Nat} {y : E} (h : e < 18446744073709551616) (hs : say e lv = (y, 0)) : make y lv = (e, 0) := by
  unfold make
  rw [back h hs, if_pos hs]
theorem say_lt {e lv : Nat} {y : E} (hs : say e lv = (y, 0)) : y.F < 4294967296 := by
  unfold say at hs
  split at hs
  · simp at hs
  · split at hs
    · simp at hs
    · split at hs
      · simp at hs
      · simp at hs; subst hs; exact frame_lt e
theorem make_one : make ⟨4194304, false, true, false, true⟩ 1 = (4194317, 0) := by decide
theorem say_one : say 20483 2 = (⟨20480, false, false, true, false⟩, 0) := by decide
theorem num_lt {y : E} (h : y.F < 18446744073709551616) : num y < 18446744073709551616 := by
  unfold num
  refine Nat.or_lt_two_pow (n := 64) (Nat.or_lt_two_pow (n := 64) (Nat.or_lt_two_pow (n := 64) (Nat.or_lt_two_pow (n := 64) h (by decide)) ?_) ?_) ?_ <;> split <;> decide
end Go.Proofs.Ytblfagmoilhdnaa.Ent
