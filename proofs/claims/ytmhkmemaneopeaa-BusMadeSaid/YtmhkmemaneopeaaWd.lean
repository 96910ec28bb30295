/- Plain law of layer 1: numbers as bytes, what a writer lays and a reader takes. No program in sight. -/
import Derived.Test.YtmhkmemaneopeaaCrc
set_option linter.unusedVariables false
set_option linter.unusedSimpArgs false
namespace Go.Proofs.Ytmhkmemaneopeaa.Wd
def le : Nat → Nat → List Nat
  | 0, _ => []
  | k + 1, n => n % 256 :: le k (n / 256)
def unle : List Nat → Nat
  | [] => 0
  | b :: r => b + 256 * unle r
theorem le_len (k n : Nat) : (le k n).length = k := by
  induction k generalizing n with
  | zero => rfl
  | succ k ih => simp [le, ih]
theorem le_lt (k n : Nat) : ∀ b ∈ le k n, b < 256 := by
  induction k generalizing n with
  | zero => simp [le]
  | succ k ih =>
    intro b hb
    simp only [le, List.mem_cons] at hb
    rcases hb with rfl | hb
    · omega
    · exact ih _ b hb
theorem unle_le (k n : Nat) : unle (le k n) = n % 256 ^ k := by
  induction k generalizing n with
  | zero => simp [le, unle, Nat.mod_one]
  | succ k ih =>
    simp only [le, unle, ih]
    rw [Nat.pow_succ, Nat.mul_comm (256 ^ k), Nat.mod_mul]
theorem le_unle (bs : List Nat) (h : ∀ b ∈ bs, b < 256) : le bs.length (unle bs) = bs := by
  induction bs with
  | nil => rfl
  | cons b r ih =>
    have hb := h b (by simp)
    simp only [List.length_cons, le, unle]
    rw [show (b + 256 * unle r) % 256 = b by omega, show (b + 256 * unle r) / 256 = unle r by omega, ih (fun x hx => h x (by simp [hx]))]
theorem unle_lt (bs : List Nat) (h : ∀ b ∈ bs, b < 256) : unle bs < 256 ^ bs.length := by
  induction bs with
  | nil => simp [unle]
  | cons b r ih =>
    have hb := h b (by simp)
    have := ih (fun x hx => h x (by simp [hx]))
    simp only [List.length_cons, unle, Nat.pow_succ]
    omega
theorem le_succ (k n : Nat) : le (k + 1) n = le k n ++ [n / 256 ^ k % 256] := by
  induction k generalizing n with
  | zero => simp [le]
  | succ k ih =>
    rw [le, ih (n / 256)]
    simp only [le, List.cons_append, Nat.div_div_eq_div_mul, Nat.pow_succ]
    rw [Nat.mul_comm 256]
theorem unle_append (a b : List Nat) : unle (a ++ b) = unle a + 256 ^ a.length * unle b := by
  induction a with
  | nil => simp [unle]
  | cons x r ih => simp only [List.cons_append, unle, ih, List.length_cons, Nat.pow_succ]; rw [Nat.mul_add, Nat.add_assoc, ← Nat.mul_assoc, Nat.mul_comm (256 ^ r.length) 256]
def gap (at_ align : Nat) : Nat := (align - at_ % align) % align
/-- a writer: what it has, its first refusal -/
structure W where
  b : List Nat
  e : Nat
deriving DecidableEq
def W.lay (s : W) (x : List Nat) : W := if s.e = 0 then ⟨s.b ++ x, 0⟩ else s
def W.text (s : W) (t : List Nat) : W := if s.e = 0 then (if t.length < 65536 then ⟨s.b ++ le 2 t.length ++ t, 0⟩ else ⟨s.b, 3⟩) else s
def W.pad (s : W) (al : Int) : W := if s.e = 0 then (if 1 ≤ al ∧ al ≤ 4096 then ⟨s.b ++ List.replicate (gap s.b.length al.toNat) 0, 0⟩ else ⟨s.b, 1⟩) else s
def W.sealUp (s : W) (fr : Int) : W := if s.e = 0 then (if 0 ≤ fr ∧ fr ≤ s.b.length then ⟨s.b ++ le 4 (Crc.more 0 (s.b.drop fr.toNat)), 0⟩ else ⟨s.b, 1⟩) else s
/-- a reader: its bytes, its place, its first refusal -/
structure R where
  b : List Nat
  at_ : Nat
  e : Nat
deriving DecidableEq
/-- the next n bytes, skip of them left out: there they are, or the reader is refused -/
def R.next (s : R) (skip n : Nat) : R × Option (List Nat) :=
  if s.e ≠ 0 then (s, none) else if s.b.length < s.at_ + skip + n then (⟨s.b, s.at_, 10⟩, none) else (s, some ((s.b.drop (s.at_ + skip)).take n))
def R.take (s : R) (k : Nat) : R × Nat := match s.next 0 k with
  | (s', none) => (s', 0)
  | (s', some x) => (⟨s'.b, s'.at_ + k, s'.e⟩, unle x)
def R.bytes (s : R) (n : Int) : R × List Nat :=
  if s.e ≠ 0 then (s, []) else if n < 0 then (⟨s.b, s.at_, 1⟩, []) else match s.next 0 n.toNat with
  | (s', none) => (s', [])
  | (s', some x) => (⟨s'.b, s'.at_ + n.toNat, s'.e⟩, x)
def R.text (s : R) (most : Int) : R × List Nat := match s.next 0 2 with
  | (s', none) => (s', [])
  | (s', some x) => if most < (unle x : Int) then (⟨s'.b, s'.at_, 3⟩, []) else match s'.next 2 (unle x) with
    | (s'', none) => (s'', [])
    | (s'', some y) => (⟨s''.b, s''.at_ + 2 + unle x, s''.e⟩, y)
def R.pad (s : R) (al : Int) : R :=
  if s.e ≠ 0 then s else if 1 ≤ al ∧ al ≤ 4096 then match s.next 0 (gap s.at_ al.toNat) with
    | (s', none) => s'
    | (s', some x) => if x.all (· == 0) then ⟨s'.b, s'.at_ + x.length, s'.e⟩ else ⟨s'.b, s'.at_, 5⟩
  else ⟨s.b, s.at_, 1⟩
def R.sealUp (s : R) (fr : Int) : R :=
  if s.e ≠ 0 then s else if 0 ≤ fr ∧ fr ≤ s.at_ then match s.next 0 4 with
    | (s', none) => s'
    | (s', some x) => if unle x = Crc.more 0 ((s'.b.take s'.at_).drop fr.toNat) then ⟨s'.b, s'.at_ + 4, s'.e⟩ else ⟨s'.b, s'.at_, 11⟩
  else ⟨s.b, s.at_, 1⟩
def R.end_ (s : R) : Nat := if s.e = 0 ∧ s.at_ < s.b.length then 12 else s.e
end Go.Proofs.Ytmhkmemaneopeaa.Wd
