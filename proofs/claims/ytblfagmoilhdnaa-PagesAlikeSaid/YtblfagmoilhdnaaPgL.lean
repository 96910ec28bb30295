/- Plain law: the entries that a builder makes. -/
import Derived.Test.YtblfagmoilhdnaaPgM
import Derived.Test.YtblfagmoilhdnaaEnt
set_option linter.unusedVariables false
set_option linter.unusedSimpArgs false
namespace Go.Proofs.Ytblfagmoilhdnaa
namespace Pg
theorem or_add {F k : Nat} (h : F % 4096 = 0) (hk : k < 4096) : F ||| k = F + k := by
  have e : F = 2 ^ 12 * (F / 4096) := by omega
  rw [e]
  exact (Nat.two_pow_add_eq_or_of_lt (i := 12) (by simpa using hk) (F / 4096)).symm
theorem num_add {F : Nat} (h : F % 4096 = 0) (t b w x : Bool) : Ent.num ⟨F, t, b, w, x⟩ = F + (1 + (if w then 2 else 0) + (if x then 4 else 0) + (if b then 8 else 0)) := by
  unfold Ent.num
  cases w <;> cases x <;> cases b <;> simp only [Bool.false_eq_true, if_true, if_false, Nat.or_zero, Nat.or_assoc]
  all_goals
    first
    | exact or_add h (by decide)
    | (rw [show (1 ||| (2 ||| (4 ||| 8)) : Nat) = 15 from rfl]; exact or_add h (by decide))
    | (rw [show (1 ||| (2 ||| 4) : Nat) = 7 from rfl]; exact or_add h (by decide))
    | (rw [show (1 ||| (2 ||| 8) : Nat) = 11 from rfl]; exact or_add h (by decide))
    | (rw [show (1 ||| (4 ||| 8) : Nat) = 13 from rfl]; exact or_add h (by decide))
    | (rw [show (1 ||| 2 : Nat) = 3 from rfl]; exact or_add h (by decide))
    | (rw [show (1 ||| 4 : Nat) = 5 from rfl]; exact or_add h (by decide))
    | (rw [show (1 ||| 8 : Nat) = 9 from rfl]; exact or_add h (by decide))
theorem say_add {F : Nat} (h : F % 4096 = 0) (hl : F < 4294967296) (lv : Nat) (b w x : Bool) (hw : Ent.wrong F lv b w x = false) :
    Ent.say (F + (1 + (if w then 2 else 0) + (if x then 4 else 0) + (if b then 8 else 0))) lv = (⟨F, decide (lv < 2) && !b, b, w, x⟩, 0) := by
  obtain ⟨k, hk⟩ : ∃ k, k = 1 + (if w then 2 else 0) + (if x then 4 else 0) + (if b then 8 else 0) := ⟨_, rfl⟩
  rw [← hk]
  have hk16 : k < 16 ∧ k % 2 = 1 := by rw [hk]; cases w <;> cases x <;> cases b <;> decide
  have hb : (k / 8 % 2 = 1) ↔ b = true := by rw [hk]; cases w <;> cases x <;> cases b <;> decide
  have hw2 : (k / 2 % 2 = 1) ↔ w = true := by rw [hk]; cases w <;> cases x <;> cases b <;> decide
  have hx : (k / 4 % 2 = 1) ↔ x = true := by rw [hk]; cases w <;> cases x <;> cases b <;> decide
  have ef : Ent.frame (F + k) = F := by unfold Ent.frame; omega
  have e8 : Ent.bit (F + k) 8 = b := by
    unfold Ent.bit
    rw [Bool.eq_iff_iff, decide_eq_true_iff, ← hb]
    omega
  have e2 : Ent.bit (F + k) 2 = w := by
    unfold Ent.bit
    rw [Bool.eq_iff_iff, decide_eq_true_iff, ← hw2]
    omega
  have e4 : Ent.bit (F + k) 4 = x := by
    unfold Ent.bit
    rw [Bool.eq_iff_iff, decide_eq_true_iff, ← hx]
    omega
  unfold Ent.say
  rw [if_neg (by omega), ef, if_neg (by omega), e8, e2, e4, if_neg (by rw [hw]; simp)]
theorem make_of {F : Nat} (h : F % 4096 = 0) (hl : F < 4294967296) (lv : Nat) (t b w x : Bool) (ht : t = (decide (lv < 2) && !b)) (hw : Ent.wrong F lv b w x = false) :
    Ent.make ⟨F, t, b, w, x⟩ lv = (F + (1 + (if w then 2 else 0) + (if x then 4 else 0) + (if b then 8 else 0)), 0) := by
  unfold Ent.make
  rw [num_add h, say_add h hl lv b w x hw, if_pos (by rw [ht])]
theorem make_table {F : Nat} (h : F % 4096 = 0) (hl : F < 4294967296) : Ent.make ⟨F, true, false, false, false⟩ 0 = (F + 1, 0) := make_of h hl 0 true false false false rfl rfl
theorem make_small {q : Pge} (hq : q.Ok) (hb : q.b = false) : Ent.make ⟨q.p, false, q.b, q.w, q.x⟩ 2 = (q.num, 0) := by
  have hu : q.u = 4096 := by rcases q.u_or with ⟨_, h⟩ | ⟨h, _⟩; rw [hb] at h; cases h; exact h
  have h1 := hq.pa; have h2 := hq.pl
  rw [hu] at h1 h2
  exact make_of h1 (by omega) 2 false q.b q.w q.x (by simp) (by unfold Ent.wrong; rw [hb]; simp)
theorem make_big {q : Pge} (hq : q.Ok) (hb : q.b = true) : Ent.make ⟨q.p, false, q.b, q.w, q.x⟩ 1 = (q.num, 0) := by
  have hu : q.u = 2097152 := by rcases q.u_or with ⟨h, _⟩ | ⟨_, h⟩; exact h; rw [hb] at h; cases h
  have h1 := hq.pa; have h2 := hq.pl
  rw [hu] at h1 h2
  exact make_of (by omega) (by omega) 1 false q.b q.w q.x (by simp [hb]) (by unfold Ent.wrong; rw [hb]; simp; omega)
/-- numbers of an entry -/
theorem num_lt {q : Pge} (hq : q.Ok) : q.num < 18446744073709551616 := by
  have h2 := hq.pl
  unfold Pge.num
  cases q.w <;> cases q.x <;> cases q.b <;> simp <;> omega
theorem ptr_lt (base n : Nat) : ptr base n < 18446744073709551616 := by unfold ptr; omega
theorem setE_len (a : List (List Nat)) (t e x : Nat) : (setE a t e x).length = a.length := by simp [setE]
theorem childE_len (base : Nat) (a : List (List Nat)) (t e : Nat) : (childE base a t e).length = a.length + 1 := by simp [childE, setE_len]
end Pg
end Go.Proofs.Ytblfagmoilhdnaa
