/- Texts of this claim, one behind the other: EntryA, EntryB, Entry, WkM. -/
import Derived.Test.YtfpofaniicegaaaJWalkNames16
import Derived.Test.YtfpofaniicegaaaJWalkNames1
import Derived.BigGuardPart
/- The walks of walk.Entry and bulkheadref4.Entry: both tell what the plain law's 'say' tells, whatever the entry and the level. -/
set_option linter.unusedVariables false
set_option linter.unusedSimpArgs false
namespace Go.Proofs.Ytfpofaniicegaaa
open Go.RowKit
open Ent (E)

def eVal (y : E) : Value := .agg #[.int .u64 (y.F : Nat), .bool y.t, .bool y.b, .bool y.w, .bool y.x]
/-- what the walk's tests are told of an entry: its bits, its frame, whether anything else stands in it -/
structure Facts (e F r : Nat) (w x b : Bool) : Prop where
  hF : bits .and .u64 (e : Int) 4294963200 = (F : Int)
  hw : (bits .and .u64 (e : Int) 2 != 0) = w
  hx : (bits .and .u64 (e : Int) 4 != 0) = x
  hb : (bits .and .u64 (e : Int) 8 != 0) = b
  hr : bits .andNot .u64 (e : Int) 4294963215 = (r : Int)
  lt : F < 4294967296
theorem facts (e : Nat) (h : e < 18446744073709551616) : ∃ r, Facts e (Ent.frame e) r (Ent.bit e 2) (Ent.bit e 4) (Ent.bit e 8) ∧ (r = 0 ↔ e = Ent.frame e + e % 16) ∧ bits .and .u64 (e : Int) 1 = ((e % 2 : Nat) : Int) := by
  have b2 : ∀ k : Nat, k < 18446744073709551616 → bits .and .u64 (e : Int) (k : Int) = ((e &&& k : Nat) : Int) := fun k hk => u64_and_nat e k h hk
  refine ⟨e &&& (18446744073709551615 - 4294963215), ⟨?_, ?_, ?_, ?_, ?_, Ent.frame_lt e⟩, Ent.rest_zero e h, ?_⟩
  · rw [← Ent.and_frame]; exact b2 4294963200 (by decide)
  · rw [show bits .and .u64 (e : Int) 2 = ((e &&& 2 : Nat) : Int) from b2 2 (by decide), Ent.and2]
    unfold Ent.bit
    rcases Nat.mod_two_eq_zero_or_one (e / 2) with h | h <;> simp [h]
  · rw [show bits .and .u64 (e : Int) 4 = ((e &&& 4 : Nat) : Int) from b2 4 (by decide), Ent.and4]
    unfold Ent.bit
    rcases Nat.mod_two_eq_zero_or_one (e / 4) with h | h <;> simp [h]
  · rw [show bits .and .u64 (e : Int) 8 = ((e &&& 8 : Nat) : Int) from b2 8 (by decide), Ent.and8]
    unfold Ent.bit
    rcases Nat.mod_two_eq_zero_or_one (e / 8) with h | h <;> simp [h]
  · exact u64_andNot_nat e 4294963215 h (by decide)
  · have := b2 1 (by decide)
    rw [Nat.and_one_is_mod] at this
    exact this

/-- what is told of an entry whose bits are these, at a level that is there; mis: the frame is no great page's -/
def out (F lv : Nat) (w x b mis : Bool) : E × Nat := if (b && (decide (lv ≠ 1) || mis)) || (decide (lv < 2) && !b && (w || x)) then (Ent.zero, 42) else (⟨F, decide (lv < 2) && !b, b, w, x⟩, 0)

set_option maxRecDepth 100000 in
set_option maxHeartbeats 4000000 in
theorem ent_0 (e F r : Nat) (w x b mis : Bool) (W : World) (hf : Facts e F r w x b) (h1 : bits .and .u64 (e : Int) 1 = 1) (hr0 : r = 0) (hm : ((F : Int) % 2097152 != 0) = mis) (y : E) (n : Nat) (ho : Hid (out F 0 w x b mis = (y, n))) :
    Calls Try.prog 8 #[.int .u64 (e : Nat), .int .i64 0] W fun en w' => en = .returned (.tuple #[eVal y, .int .i64 (n : Nat)]) ∧ Below W.heap.size W w' := by
  obtain ⟨hF, hw, hx, hb, hr, hlt⟩ := hf
  subst hr0
  cases b
  · cases w
    · cases x
      all_goals
        have h := ho.out
        simp [out] at h
        obtain ⟨rfl, rfl⟩ := h
        clear ho
        go_enter Try.func8, Try.ntmps8
        go_wp2
        exact bodyPost_ret (v := .tuple #[eVal _, .int .i64 _]) (by simp [results, Try.results8, go_sem]; rfl) rfl ⟨rfl, ((Below.refl _ _).alloc (Nat.le_refl _) _).alloc (by simp) _⟩
    · skip
      have h := ho.out
      simp [out] at h
      obtain ⟨rfl, rfl⟩ := h
      clear ho
      go_enter Try.func8, Try.ntmps8
      go_wp2
      exact bodyPost_ret (v := .tuple #[eVal _, .int .i64 _]) (by simp [results, Try.results8, go_sem]; rfl) rfl ⟨rfl, ((Below.refl _ _).alloc (Nat.le_refl _) _).alloc (by simp) _⟩
  · skip
    have h := ho.out
    simp [out] at h
    obtain ⟨rfl, rfl⟩ := h
    clear ho
    go_enter Try.func8, Try.ntmps8
    go_wp2
    exact bodyPost_ret (v := .tuple #[eVal _, .int .i64 _]) (by simp [results, Try.results8, go_sem]; rfl) rfl ⟨rfl, ((Below.refl _ _).alloc (Nat.le_refl _) _).alloc (by simp) _⟩

set_option maxRecDepth 100000 in
set_option maxHeartbeats 4000000 in
theorem ent_1 (e F r : Nat) (w x b mis : Bool) (W : World) (hf : Facts e F r w x b) (h1 : bits .and .u64 (e : Int) 1 = 1) (hr0 : r = 0) (hm : ((F : Int) % 2097152 != 0) = mis) (y : E) (n : Nat) (ho : Hid (out F 1 w x b mis = (y, n))) :
    Calls Try.prog 8 #[.int .u64 (e : Nat), .int .i64 1] W fun en w' => en = .returned (.tuple #[eVal y, .int .i64 (n : Nat)]) ∧ Below W.heap.size W w' := by
  obtain ⟨hF, hw, hx, hb, hr, hlt⟩ := hf
  subst hr0
  cases b
  · cases w
    · cases x
      all_goals
        have h := ho.out
        simp [out] at h
        obtain ⟨rfl, rfl⟩ := h
        clear ho
        go_enter Try.func8, Try.ntmps8
        go_wp2
        exact bodyPost_ret (v := .tuple #[eVal _, .int .i64 _]) (by simp [results, Try.results8, go_sem]; rfl) rfl ⟨rfl, ((Below.refl _ _).alloc (Nat.le_refl _) _).alloc (by simp) _⟩
    · skip
      have h := ho.out
      simp [out] at h
      obtain ⟨rfl, rfl⟩ := h
      clear ho
      go_enter Try.func8, Try.ntmps8
      go_wp2
      exact bodyPost_ret (v := .tuple #[eVal _, .int .i64 _]) (by simp [results, Try.results8, go_sem]; rfl) rfl ⟨rfl, ((Below.refl _ _).alloc (Nat.le_refl _) _).alloc (by simp) _⟩
  · cases mis
    all_goals
      have h := ho.out
      simp [out] at h
      obtain ⟨rfl, rfl⟩ := h
      clear ho
      go_enter Try.func8, Try.ntmps8
      go_wp2
      exact bodyPost_ret (v := .tuple #[eVal _, .int .i64 _]) (by simp [results, Try.results8, go_sem]; rfl) rfl ⟨rfl, ((Below.refl _ _).alloc (Nat.le_refl _) _).alloc (by simp) _⟩

set_option maxRecDepth 100000 in
set_option maxHeartbeats 4000000 in
theorem ent_2 (e F r : Nat) (w x b mis : Bool) (W : World) (hf : Facts e F r w x b) (h1 : bits .and .u64 (e : Int) 1 = 1) (hr0 : r = 0) (hm : ((F : Int) % 2097152 != 0) = mis) (y : E) (n : Nat) (ho : Hid (out F 2 w x b mis = (y, n))) :
    Calls Try.prog 8 #[.int .u64 (e : Nat), .int .i64 2] W fun en w' => en = .returned (.tuple #[eVal y, .int .i64 (n : Nat)]) ∧ Below W.heap.size W w' := by
  obtain ⟨hF, hw, hx, hb, hr, hlt⟩ := hf
  subst hr0
  cases b
  · skip
    have h := ho.out
    simp [out] at h
    obtain ⟨rfl, rfl⟩ := h
    clear ho
    go_enter Try.func8, Try.ntmps8
    go_wp2
    exact bodyPost_ret (v := .tuple #[eVal _, .int .i64 _]) (by simp [results, Try.results8, go_sem]; rfl) rfl ⟨rfl, ((Below.refl _ _).alloc (Nat.le_refl _) _).alloc (by simp) _⟩
  · skip
    have h := ho.out
    simp [out] at h
    obtain ⟨rfl, rfl⟩ := h
    clear ho
    go_enter Try.func8, Try.ntmps8
    go_wp2
    exact bodyPost_ret (v := .tuple #[eVal _, .int .i64 _]) (by simp [results, Try.results8, go_sem]; rfl) rfl ⟨rfl, ((Below.refl _ _).alloc (Nat.le_refl _) _).alloc (by simp) _⟩

set_option maxRecDepth 100000 in
set_option maxHeartbeats 1000000 in
theorem entbad_0 (e F r : Nat) (w x b : Bool) (W : World) (hf : Facts e F r w x b) (h1 : bits .and .u64 (e : Int) 1 = 1) (hr0 : ((r : Int) != 0) = true) :
    Calls Try.prog 8 #[.int .u64 (e : Nat), .int .i64 0] W fun en w' => en = .returned (.tuple #[eVal Ent.zero, .int .i64 42]) ∧ Below W.heap.size W w' := by
  obtain ⟨hF, hw, hx, hb, hr, hlt⟩ := hf
  go_enter Try.func8, Try.ntmps8
  go_wp2
  exact bodyPost_ret (v := .tuple #[eVal _, .int .i64 _]) (by simp [results, Try.results8, go_sem]; rfl) rfl ⟨rfl, ((Below.refl _ _).alloc (Nat.le_refl _) _).alloc (by simp) _⟩

set_option maxRecDepth 100000 in
set_option maxHeartbeats 1000000 in
theorem entbad_1 (e F r : Nat) (w x b : Bool) (W : World) (hf : Facts e F r w x b) (h1 : bits .and .u64 (e : Int) 1 = 1) (hr0 : ((r : Int) != 0) = true) :
    Calls Try.prog 8 #[.int .u64 (e : Nat), .int .i64 1] W fun en w' => en = .returned (.tuple #[eVal Ent.zero, .int .i64 42]) ∧ Below W.heap.size W w' := by
  obtain ⟨hF, hw, hx, hb, hr, hlt⟩ := hf
  go_enter Try.func8, Try.ntmps8
  go_wp2
  exact bodyPost_ret (v := .tuple #[eVal _, .int .i64 _]) (by simp [results, Try.results8, go_sem]; rfl) rfl ⟨rfl, ((Below.refl _ _).alloc (Nat.le_refl _) _).alloc (by simp) _⟩

set_option maxRecDepth 100000 in
set_option maxHeartbeats 1000000 in
theorem entbad_2 (e F r : Nat) (w x b : Bool) (W : World) (hf : Facts e F r w x b) (h1 : bits .and .u64 (e : Int) 1 = 1) (hr0 : ((r : Int) != 0) = true) :
    Calls Try.prog 8 #[.int .u64 (e : Nat), .int .i64 2] W fun en w' => en = .returned (.tuple #[eVal Ent.zero, .int .i64 42]) ∧ Below W.heap.size W w' := by
  obtain ⟨hF, hw, hx, hb, hr, hlt⟩ := hf
  go_enter Try.func8, Try.ntmps8
  go_wp2
  exact bodyPost_ret (v := .tuple #[eVal _, .int .i64 _]) (by simp [results, Try.results8, go_sem]; rfl) rfl ⟨rfl, ((Below.refl _ _).alloc (Nat.le_refl _) _).alloc (by simp) _⟩

set_option maxRecDepth 100000 in
set_option maxHeartbeats 1000000 in
theorem entabsent (e : Nat) (lv : Int) (W : World) (h1 : bits .and .u64 (e : Int) 1 = 0) (hl : 0 ≤ lv) (hl2 : lv < 3) :
    Calls Try.prog 8 #[.int .u64 (e : Nat), .int .i64 lv] W fun en w' => en = .returned (.tuple #[eVal Ent.zero, .int .i64 41]) ∧ Below W.heap.size W w' := by
  go_enter Try.func8, Try.ntmps8
  go_wp2
  exact bodyPost_ret (v := .tuple #[eVal _, .int .i64 _]) (by simp [results, Try.results8, go_sem]; rfl) rfl ⟨rfl, ((Below.refl _ _).alloc (Nat.le_refl _) _)⟩
set_option maxRecDepth 100000 in
set_option maxHeartbeats 1000000 in
theorem entnone (e : Nat) (lv : Int) (W : World) (hl : lv < 0 ∨ 2 < lv) :
    Calls Try.prog 8 #[.int .u64 (e : Nat), .int .i64 lv] W fun en w' => en = .returned (.tuple #[eVal Ent.zero, .int .i64 1]) ∧ Below W.heap.size W w' := by
  rcases hl with hl | hl
  · go_enter Try.func8, Try.ntmps8
    go_wp2
    exact bodyPost_ret (v := .tuple #[eVal _, .int .i64 _]) (by simp [results, Try.results8, go_sem]; rfl) rfl ⟨rfl, ((Below.refl _ _).alloc (Nat.le_refl _) _)⟩
  · have hl' : ¬ lv < 0 := by omega
    go_enter Try.func8, Try.ntmps8
    go_wp2
    exact bodyPost_ret (v := .tuple #[eVal _, .int .i64 _]) (by simp [results, Try.results8, go_sem]; rfl) rfl ⟨rfl, ((Below.refl _ _).alloc (Nat.le_refl _) _)⟩

end Go.Proofs.Ytfpofaniicegaaa

/- The walk of bulkheadref4.Entry, by the entry's bits and the level. -/
set_option linter.unusedVariables false
set_option linter.unusedSimpArgs false
namespace Go.Proofs.Ytfpofaniicegaaa
open Go.RowKit
open Ent (E)

structure FactsR (e F : Nat) (w x b bad : Bool) : Prop where
  hF : (e : Int) / 4096 % 1048576 * 4096 = (F : Int)
  hw : ((e : Int) / 2 % 2 == 1) = w
  hx : ((e : Int) / 4 % 2 == 1) = x
  hb : ((e : Int) / 8 % 2 == 1) = b
  hr : ((e : Int) != (F : Int) + (e : Int) % 16) = bad
  lt : F < 4294967296
  le : e < 18446744073709551616
theorem factsR (e : Nat) (h : e < 18446744073709551616) : FactsR e (Ent.frame e) (Ent.bit e 2) (Ent.bit e 4) (Ent.bit e 8) (decide (e ≠ Ent.frame e + e % 16)) := by
  refine ⟨by unfold Ent.frame; omega, ?_, ?_, ?_, ?_, Ent.frame_lt e, h⟩
  · unfold Ent.bit; rw [Bool.eq_iff_iff]; simp; omega
  · unfold Ent.bit; rw [Bool.eq_iff_iff]; simp; omega
  · unfold Ent.bit; rw [Bool.eq_iff_iff]; simp; omega
  · rw [Bool.eq_iff_iff]; simp; omega

set_option maxRecDepth 100000 in
set_option maxHeartbeats 4000000 in
theorem rent_0 (e F : Nat) (w x b mis : Bool) (W : World) (hf : FactsR e F w x b false) (h1 : e % 2 = 1) (hm : decide ((0 : Int) < (F : Int) % 2097152) = mis) (y : E) (n : Nat) (ho : Hid (out F 0 w x b mis = (y, n))) :
    Calls Try.prog 9 #[.int .u64 (e : Nat), .int .i64 0] W fun en w' => en = .returned (.tuple #[eVal y, .int .i64 (n : Nat)]) ∧ Below W.heap.size W w' := by
  obtain ⟨hF, hw, hx, hb, hr, hlt, hle⟩ := hf
  have h1' : ((e : Int) % 2 == 0) = false := beq_eq_false_iff_ne.2 (by omega)
  cases w
  · cases x
    · cases b
      all_goals
        have h := ho.out
        simp [out] at h
        obtain ⟨rfl, rfl⟩ := h
        clear ho
        go_enter Try.func9, Try.ntmps9
        go_wp2
        exact bodyPost_ret (v := .tuple #[eVal _, .int .i64 _]) (by simp [results, Try.results9, go_sem]; rfl) rfl ⟨rfl, ((Below.refl _ _).alloc (Nat.le_refl _) _).alloc (by simp) _⟩
    · cases b
      all_goals
        have h := ho.out
        simp [out] at h
        obtain ⟨rfl, rfl⟩ := h
        clear ho
        go_enter Try.func9, Try.ntmps9
        go_wp2
        exact bodyPost_ret (v := .tuple #[eVal _, .int .i64 _]) (by simp [results, Try.results9, go_sem]; rfl) rfl ⟨rfl, ((Below.refl _ _).alloc (Nat.le_refl _) _).alloc (by simp) _⟩
  · cases b
    all_goals
      have h := ho.out
      simp [out] at h
      obtain ⟨rfl, rfl⟩ := h
      clear ho
      go_enter Try.func9, Try.ntmps9
      go_wp2
      exact bodyPost_ret (v := .tuple #[eVal _, .int .i64 _]) (by simp [results, Try.results9, go_sem]; rfl) rfl ⟨rfl, ((Below.refl _ _).alloc (Nat.le_refl _) _).alloc (by simp) _⟩

set_option maxRecDepth 100000 in
set_option maxHeartbeats 4000000 in
theorem rent_1 (e F : Nat) (w x b mis : Bool) (W : World) (hf : FactsR e F w x b false) (h1 : e % 2 = 1) (hm : decide ((0 : Int) < (F : Int) % 2097152) = mis) (y : E) (n : Nat) (ho : Hid (out F 1 w x b mis = (y, n))) :
    Calls Try.prog 9 #[.int .u64 (e : Nat), .int .i64 1] W fun en w' => en = .returned (.tuple #[eVal y, .int .i64 (n : Nat)]) ∧ Below W.heap.size W w' := by
  obtain ⟨hF, hw, hx, hb, hr, hlt, hle⟩ := hf
  have h1' : ((e : Int) % 2 == 0) = false := beq_eq_false_iff_ne.2 (by omega)
  cases b
  · cases w
    · cases x
      all_goals
        have h := ho.out
        simp [out] at h
        obtain ⟨rfl, rfl⟩ := h
        clear ho
        go_enter Try.func9, Try.ntmps9
        go_wp2
        exact bodyPost_ret (v := .tuple #[eVal _, .int .i64 _]) (by simp [results, Try.results9, go_sem]; rfl) rfl ⟨rfl, ((Below.refl _ _).alloc (Nat.le_refl _) _).alloc (by simp) _⟩
    · skip
      have h := ho.out
      simp [out] at h
      obtain ⟨rfl, rfl⟩ := h
      clear ho
      go_enter Try.func9, Try.ntmps9
      go_wp2
      exact bodyPost_ret (v := .tuple #[eVal _, .int .i64 _]) (by simp [results, Try.results9, go_sem]; rfl) rfl ⟨rfl, ((Below.refl _ _).alloc (Nat.le_refl _) _).alloc (by simp) _⟩
  · cases mis
    all_goals
      have h := ho.out
      simp [out] at h
      obtain ⟨rfl, rfl⟩ := h
      clear ho
      go_enter Try.func9, Try.ntmps9
      go_wp2
      exact bodyPost_ret (v := .tuple #[eVal _, .int .i64 _]) (by simp [results, Try.results9, go_sem]; rfl) rfl ⟨rfl, ((Below.refl _ _).alloc (Nat.le_refl _) _).alloc (by simp) _⟩

set_option maxRecDepth 100000 in
set_option maxHeartbeats 4000000 in
theorem rent_2 (e F : Nat) (w x b mis : Bool) (W : World) (hf : FactsR e F w x b false) (h1 : e % 2 = 1) (hm : decide ((0 : Int) < (F : Int) % 2097152) = mis) (y : E) (n : Nat) (ho : Hid (out F 2 w x b mis = (y, n))) :
    Calls Try.prog 9 #[.int .u64 (e : Nat), .int .i64 2] W fun en w' => en = .returned (.tuple #[eVal y, .int .i64 (n : Nat)]) ∧ Below W.heap.size W w' := by
  obtain ⟨hF, hw, hx, hb, hr, hlt, hle⟩ := hf
  have h1' : ((e : Int) % 2 == 0) = false := beq_eq_false_iff_ne.2 (by omega)
  cases b
  all_goals
    have h := ho.out
    simp [out] at h
    obtain ⟨rfl, rfl⟩ := h
    clear ho
    go_enter Try.func9, Try.ntmps9
    go_wp2
    exact bodyPost_ret (v := .tuple #[eVal _, .int .i64 _]) (by simp [results, Try.results9, go_sem]; rfl) rfl ⟨rfl, ((Below.refl _ _).alloc (Nat.le_refl _) _).alloc (by simp) _⟩

set_option maxRecDepth 100000 in
set_option maxHeartbeats 1000000 in
theorem rentbad_0 (e F : Nat) (w x b : Bool) (W : World) (hf : FactsR e F w x b true) (h1 : e % 2 = 1) :
    Calls Try.prog 9 #[.int .u64 (e : Nat), .int .i64 0] W fun en w' => en = .returned (.tuple #[eVal Ent.zero, .int .i64 42]) ∧ Below W.heap.size W w' := by
  obtain ⟨hF, hw, hx, hb, hr, hlt, hle⟩ := hf
  have h1' : ((e : Int) % 2 == 0) = false := beq_eq_false_iff_ne.2 (by omega)
  go_enter Try.func9, Try.ntmps9
  go_wp2
  exact bodyPost_ret (v := .tuple #[eVal _, .int .i64 _]) (by simp [results, Try.results9, go_sem]; rfl) rfl ⟨rfl, ((Below.refl _ _).alloc (Nat.le_refl _) _).alloc (by simp) _⟩

set_option maxRecDepth 100000 in
set_option maxHeartbeats 1000000 in
theorem rentbad_1 (e F : Nat) (w x b : Bool) (W : World) (hf : FactsR e F w x b true) (h1 : e % 2 = 1) :
    Calls Try.prog 9 #[.int .u64 (e : Nat), .int .i64 1] W fun en w' => en = .returned (.tuple #[eVal Ent.zero, .int .i64 42]) ∧ Below W.heap.size W w' := by
  obtain ⟨hF, hw, hx, hb, hr, hlt, hle⟩ := hf
  have h1' : ((e : Int) % 2 == 0) = false := beq_eq_false_iff_ne.2 (by omega)
  go_enter Try.func9, Try.ntmps9
  go_wp2
  exact bodyPost_ret (v := .tuple #[eVal _, .int .i64 _]) (by simp [results, Try.results9, go_sem]; rfl) rfl ⟨rfl, ((Below.refl _ _).alloc (Nat.le_refl _) _).alloc (by simp) _⟩

set_option maxRecDepth 100000 in
set_option maxHeartbeats 1000000 in
theorem rentbad_2 (e F : Nat) (w x b : Bool) (W : World) (hf : FactsR e F w x b true) (h1 : e % 2 = 1) :
    Calls Try.prog 9 #[.int .u64 (e : Nat), .int .i64 2] W fun en w' => en = .returned (.tuple #[eVal Ent.zero, .int .i64 42]) ∧ Below W.heap.size W w' := by
  obtain ⟨hF, hw, hx, hb, hr, hlt, hle⟩ := hf
  have h1' : ((e : Int) % 2 == 0) = false := beq_eq_false_iff_ne.2 (by omega)
  go_enter Try.func9, Try.ntmps9
  go_wp2
  exact bodyPost_ret (v := .tuple #[eVal _, .int .i64 _]) (by simp [results, Try.results9, go_sem]; rfl) rfl ⟨rfl, ((Below.refl _ _).alloc (Nat.le_refl _) _).alloc (by simp) _⟩

set_option maxRecDepth 100000 in
set_option maxHeartbeats 1000000 in
theorem rentabsent (e : Nat) (lv : Int) (W : World) (he : e < 18446744073709551616) (h1 : e % 2 = 0) (hl : 0 ≤ lv) (hl2 : lv < 3) :
    Calls Try.prog 9 #[.int .u64 (e : Nat), .int .i64 lv] W fun en w' => en = .returned (.tuple #[eVal Ent.zero, .int .i64 41]) ∧ Below W.heap.size W w' := by
  have h1' : ((e : Int) % 2 == 0) = true := beq_iff_eq.2 (by omega)
  go_enter Try.func9, Try.ntmps9
  go_wp2
  exact bodyPost_ret (v := .tuple #[eVal _, .int .i64 _]) (by simp [results, Try.results9, go_sem]; rfl) rfl ⟨rfl, ((Below.refl _ _).alloc (Nat.le_refl _) _)⟩
set_option maxRecDepth 100000 in
set_option maxHeartbeats 1000000 in
theorem rentnone (e : Nat) (lv : Int) (W : World) (hl : lv < 0 ∨ 2 < lv) :
    Calls Try.prog 9 #[.int .u64 (e : Nat), .int .i64 lv] W fun en w' => en = .returned (.tuple #[eVal Ent.zero, .int .i64 1]) ∧ Below W.heap.size W w' := by
  rcases hl with hl | hl
  · go_enter Try.func9, Try.ntmps9
    go_wp2
    exact bodyPost_ret (v := .tuple #[eVal _, .int .i64 _]) (by simp [results, Try.results9, go_sem]; rfl) rfl ⟨rfl, ((Below.refl _ _).alloc (Nat.le_refl _) _)⟩
  · have hl' : ¬ lv < 0 := by omega
    go_enter Try.func9, Try.ntmps9
    go_wp2
    exact bodyPost_ret (v := .tuple #[eVal _, .int .i64 _]) (by simp [results, Try.results9, go_sem]; rfl) rfl ⟨rfl, ((Below.refl _ _).alloc (Nat.le_refl _) _)⟩


end Go.Proofs.Ytfpofaniicegaaa

/- walk.Entry and bulkheadref4.Entry at every level: both tell what the plain law's 'say' tells. -/
set_option linter.unusedVariables false
set_option linter.unusedSimpArgs false
namespace Go.Proofs.Ytfpofaniicegaaa
open Go.RowKit
open Ent (E)
theorem out_say (e lv : Nat) (hp : e % 2 = 1) (hr : e = Ent.frame e + e % 16) (mis : Bool) (hm : mis = decide (Ent.frame e % 2097152 ≠ 0)) : out (Ent.frame e) lv (Ent.bit e 2) (Ent.bit e 4) (Ent.bit e 8) mis = Ent.say e lv := by
  subst hm
  unfold Ent.say out Ent.wrong
  rw [if_neg (show ¬ e % 2 = 0 by omega), if_neg (show ¬ e ≠ Ent.frame e + e % 16 from not_not_intro hr)]
theorem say_absent (e lv : Nat) (hp : e % 2 = 0) : Ent.say e lv = (Ent.zero, 41) := by unfold Ent.say; rw [if_pos hp]
theorem say_bad (e lv : Nat) (hp : e % 2 = 1) (hr : e ≠ Ent.frame e + e % 16) : Ent.say e lv = (Ent.zero, 42) := by unfold Ent.say; rw [if_neg (by omega), if_pos hr]
/-- walk.Entry, at a level that is there -/
theorem entry_any (e lv : Nat) (W : World) (he : e < 18446744073709551616) (hl : lv < 3) :
    Calls Try.prog 8 #[.int .u64 (e : Nat), .int .i64 (lv : Nat)] W fun en w' => en = .returned (.tuple #[eVal (Ent.say e lv).1, .int .i64 ((Ent.say e lv).2 : Nat)]) ∧ Below W.heap.size W w' := by
  obtain ⟨r, hf, hr, h1⟩ := facts e he
  rcases Nat.mod_two_eq_zero_or_one e with hp | hp
  · rw [say_absent e lv hp]
    exact entabsent e lv W (by rw [h1, hp]; rfl) (by omega) (by omega)
  · rw [hp] at h1
    by_cases hr0 : r = 0
    · have ho := out_say e lv hp (hr.1 hr0) ((Ent.frame e : Int) % 2097152 != 0) (by rw [Bool.eq_iff_iff]; simp; omega)
      match lv, hl with
      | 0, _ => exact ent_0 e _ r _ _ _ _ W hf h1 hr0 rfl _ _ (Lib.hid (by rw [ho]))
      | 1, _ => exact ent_1 e _ r _ _ _ _ W hf h1 hr0 rfl _ _ (Lib.hid (by rw [ho]))
      | 2, _ => exact ent_2 e _ r _ _ _ _ W hf h1 hr0 rfl _ _ (Lib.hid (by rw [ho]))
    · rw [say_bad e lv hp (fun h => hr0 (hr.2 h))]
      have hr1 : ((r : Int) != 0) = true := by rw [bne_iff_ne]; omega
      match lv, hl with
      | 0, _ => exact entbad_0 e _ r _ _ _ W hf h1 hr1
      | 1, _ => exact entbad_1 e _ r _ _ _ W hf h1 hr1
      | 2, _ => exact entbad_2 e _ r _ _ _ W hf h1 hr1
/-- bulkheadref4.Entry, at a level that is there -/
theorem rentry_any (e lv : Nat) (W : World) (he : e < 18446744073709551616) (hl : lv < 3) :
    Calls Try.prog 9 #[.int .u64 (e : Nat), .int .i64 (lv : Nat)] W fun en w' => en = .returned (.tuple #[eVal (Ent.say e lv).1, .int .i64 ((Ent.say e lv).2 : Nat)]) ∧ Below W.heap.size W w' := by
  have hf := factsR e he
  rcases Nat.mod_two_eq_zero_or_one e with hp | hp
  · rw [say_absent e lv hp]
    exact rentabsent e lv W he hp (by omega) (by omega)
  · by_cases hr : e = Ent.frame e + e % 16
    · have ho := out_say e lv hp hr (decide ((0 : Int) < (Ent.frame e : Int) % 2097152)) (by rw [Bool.eq_iff_iff]; simp; omega)
      rw [decide_eq_false (not_not_intro hr)] at hf
      match lv, hl with
      | 0, _ => exact rent_0 e _ _ _ _ _ W hf hp rfl _ _ (Lib.hid (by rw [ho]))
      | 1, _ => exact rent_1 e _ _ _ _ _ W hf hp rfl _ _ (Lib.hid (by rw [ho]))
      | 2, _ => exact rent_2 e _ _ _ _ _ W hf hp rfl _ _ (Lib.hid (by rw [ho]))
    · rw [say_bad e lv hp hr]
      rw [decide_eq_true hr] at hf
      match lv, hl with
      | 0, _ => exact rentbad_0 e _ _ _ _ W hf hp
      | 1, _ => exact rentbad_1 e _ _ _ _ W hf hp
      | 2, _ => exact rentbad_2 e _ _ _ _ W hf hp
end Go.Proofs.Ytfpofaniicegaaa

/- Plain law: what walking a machine's tables answers. -/
set_option linter.unusedVariables false
set_option linter.unusedSimpArgs false
namespace Go.Proofs.Ytfpofaniicegaaa
open Go.RowKit
open S64
namespace Bu
/-- the machine with another count of strays -/
def sM (M : PM) (s : Int) : PM := { M with strays := s }
/-- on the bus? -/
def onM (M : PM) (p : Nat) : Bool := on (M.rams ++ M.devs) p
/-- the entry at an address; none: it is not on the bus -/
def rdM (M : PM) (a : Nat) : Option Nat := if (List.range 8).all (fun i => onM M (a + i)) = true then some (numB M.mem a 8) else none
/-- how many bytes an entry of a level stands for -/
def rch (lv : Nat) : Nat := 4096 * 512 ^ (2 - lv)
def ixv (virt lv : Nat) : Nat := virt / rch lv % 512
/-- what the i-th entry of a table says -/
def entM (M : PM) (tab i lv : Nat) : Ent.E × Nat := match rdM M (tab + 8 * i) with
  | none => (Ent.zero, 42)
  | some e => Ent.say e lv
/-- from a table of a level on: the address, or why there is none -/
def trw (M : PM) (virt : Nat) (access : Int) : Nat → Nat → Nat → Nat × Nat
  | 0, _, _ => (0, 42)
  | k + 1, lv, tab =>
    if (entM M tab (ixv virt lv) lv).2 ≠ 0 then (0, (entM M tab (ixv virt lv) lv).2)
    else if (entM M tab (ixv virt lv) lv).1.t = true then trw M virt access k (lv + 1) (entM M tab (ixv virt lv) lv).1.F
    else if access = 2 ∧ (entM M tab (ixv virt lv) lv).1.w = false then (0, 43)
    else if access = 3 ∧ (entM M tab (ixv virt lv) lv).1.x = false then (0, 44)
    else ((entM M tab (ixv virt lv) lv).1.F + virt % rch lv, 0)
def trI (M : PM) (root virt : Nat) (access : Int) : Nat × Nat :=
  if access < 1 ∨ 3 < access then (0, 1) else if 549755813888 ≤ virt then (0, 40) else if root % 4096 ≠ 0 then (0, 42) else trw M virt access 3 0 root
/-- a fault as a value -/
def fltV (no at_ : Nat) : Value := .agg #[.int .i64 (no : Nat), .int .u64 (at_ : Nat)]
/-- the fault of a number at an address -/
def flt (no at_ : Nat) : Value := if no = 0 then fltV 0 0 else fltV no at_
theorem sM_tr (M : PM) (s : Int) (root virt : Nat) (access : Int) : trI (sM M s) root virt access = trI M root virt access := by
  have h : ∀ k lv tab, trw (sM M s) virt access k lv tab = trw M virt access k lv tab := by
    intro k
    induction k with
    | zero => intro lv tab; rfl
    | succ k ih =>
      intro lv tab
      unfold trw
      rw [ih]
      rfl
  unfold trI
  rw [h]
theorem say_t {e lv : Nat} {y : Ent.E} (h : Ent.say e lv = (y, 0)) : (y.t = true → lv < 2) ∧ y.F < 4294967296 ∧ y.F % 4096 = 0 ∧ (y.b = true → lv = 1 ∧ y.F % 2097152 = 0) ∧ y.t = (decide (lv < 2) && !y.b) ∧ (y.t = true → y.w = false ∧ y.x = false) := by
  unfold Ent.say at h
  split at h
  · injection h with _ h; cases h
  split at h
  · injection h with _ h; cases h
  split at h
  · injection h with _ h; cases h
  · rename_i h1
    injection h with h _
    subst h
    have h1 : Ent.wrong (Ent.frame e) lv (Ent.bit e 8) (Ent.bit e 2) (Ent.bit e 4) = false := by simpa using h1
    unfold Ent.wrong at h1
    refine ⟨fun h => by simp at h; exact h.1, Ent.frame_lt e, by show Ent.frame e % 4096 = 0; unfold Ent.frame; omega, fun h => ?_, rfl, fun h => ?_⟩
    · simp only at h
      rw [h] at h1
      simp at h1
      refine ⟨h1.1, ?_⟩
      show Ent.frame e % 2097152 = 0
      have := h1.2
      omega
    · simp only [Bool.and_eq_true, decide_eq_true_eq, Bool.not_eq_true'] at h
      rw [h.2] at h1
      simp [h.1] at h1
      exact h1
theorem entM_t {M : PM} {tab i lv : Nat} {y : Ent.E} (h : entM M tab i lv = (y, 0)) : (y.t = true → lv < 2) ∧ y.F < 4294967296 ∧ y.F % 4096 = 0 ∧ (y.b = true → lv = 1 ∧ y.F % 2097152 = 0) ∧ y.t = (decide (lv < 2) && !y.b) ∧ (y.t = true → y.w = false ∧ y.x = false) := by
  unfold entM at h
  split at h
  · injection h with _ h; cases h
  · exact say_t h
theorem entM_F {M : PM} {tab i lv : Nat} : (entM M tab i lv).1.F < 4294967296 := by
  by_cases h : (entM M tab i lv).2 = 0
  · exact (entM_t (y := (entM M tab i lv).1) (by rw [← h])).2.1
  · unfold entM at h ⊢
    split
    · show (0 : Nat) < _; decide
    · rename_i e _
      unfold Ent.say
      split
      · show (0 : Nat) < _; decide
      split
      · show (0 : Nat) < _; decide
      split
      · show (0 : Nat) < _; decide
      · exact Ent.frame_lt e
theorem entM_no {M : PM} {tab i lv : Nat} : (entM M tab i lv).2 ≤ 42 := by
  unfold entM
  split
  · show 42 ≤ 42; decide
  · unfold Ent.say
    split
    · show 41 ≤ 42; decide
    split
    · show 42 ≤ 42; decide
    split
    · show 42 ≤ 42; decide
    · show 0 ≤ 42; decide
theorem rch0 : rch 0 = 1073741824 := rfl
theorem rch1 : rch 1 = 2097152 := rfl
theorem rch2 : rch 2 = 4096 := rfl
/-- the bus lies below 2^32 -/
def Lim (M : PM) : Prop := ∀ p, onM M p = true → p < 4294967296
/-- the first of n bytes off the bus -/
def offF (M : PM) (a n : Nat) : Option Nat := ((List.range n).map (a + ·)).find? fun p => !onM M p
theorem offF_is {M : PM} (hl : Lim M) {a n : Nat} (ha : a ≤ TOP) : OffIs (M.rams ++ M.devs) a n (offF M a n) := by
  unfold offF
  cases h : ((List.range n).map (a + ·)).find? fun p => !onM M p with
  | none =>
    intro p h1 h2
    have := List.find?_eq_none.1 h p (List.mem_map.2 ⟨p - a, List.mem_range.2 (by omega), by omega⟩)
    simpa [onM] using this
  | some q =>
    obtain ⟨hq, la, lb, he, hb⟩ := List.find?_eq_some_iff_append.1 h
    have hm : q ∈ (List.range n).map (a + ·) := by rw [he]; simp
    obtain ⟨i, hi, rfl⟩ := List.mem_map.1 hm
    have hi := List.mem_range.1 hi
    have hbef : ∀ p, a ≤ p → p < a + i → onM M p = true := by
      intro p h1 h2
      have hlen : la.length = i := by
        have h3 : ((List.range n).map (a + ·))[la.length]? = some (a + i) := by rw [he]; simp
        rw [List.getElem?_map] at h3
        by_cases hl : la.length < n
        · rw [List.getElem?_range hl] at h3
          simp at h3
          omega
        · rw [List.getElem?_eq_none (by rw [List.length_range]; omega)] at h3
          cases h3
      have h4 : p ∈ la := by
        have h3 : ((List.range n).map (a + ·))[p - a]? = some p := by
          rw [List.getElem?_map, List.getElem?_range (by omega)]
          simp; omega
        rw [he, List.getElem?_append_left (by omega)] at h3
        exact List.mem_of_getElem? h3
      have := hb p h4
      simpa using this
    refine ⟨by omega, by omega, by simpa [onM] using hq, ?_, hbef⟩
    rcases Nat.eq_zero_or_pos i with h0 | h0
    · unfold TOP at *; omega
    · have := hl (a + i - 1) (hbef _ (by omega) (by omega))
      unfold TOP; omega
theorem rdM_off {M : PM} {a : Nat} : (rdM M a = none ↔ ∃ q, offF M a 8 = some q) ∧ (∀ e, rdM M a = some e → offF M a 8 = none ∧ e = numB M.mem a 8) := by
  have key : ((List.range 8).all (fun i => onM M (a + i)) = true) ↔ offF M a 8 = none := by
    unfold offF
    rw [List.find?_eq_none, List.all_eq_true]
    constructor
    · rintro h p hp
      obtain ⟨i, hi, rfl⟩ := List.mem_map.1 hp
      simp [h i hi]
    · intro h i hi
      have := h (a + i) (List.mem_map.2 ⟨i, hi, rfl⟩)
      simpa using this
  unfold rdM
  split
  · rename_i h
    refine ⟨⟨fun h => (by cases h), fun ⟨q, hq⟩ => ?_⟩, fun e he => ?_⟩
    · rw [key.1 h] at hq; cases hq
    · injection he with he
      exact ⟨key.1 h, he.symm⟩
  · rename_i h
    refine ⟨⟨fun _ => ?_, fun _ => rfl⟩, fun e he => (by cases he)⟩
    cases ho : offF M a 8 with
    | none => exact absurd (key.2 ho) h
    | some q => exact ⟨q, rfl⟩
end Bu
end Go.Proofs.Ytfpofaniicegaaa
