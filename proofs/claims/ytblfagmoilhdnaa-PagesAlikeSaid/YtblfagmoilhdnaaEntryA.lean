/- The walks of walk.Entry and bulkheadref4.Entry: both tell what the plain law's 'say' tells, whatever the entry and the level. -/
import Derived.Test.YtblfagmoilhdnaaEnt
import Derived.Test.YtblfagmoilhdnaaBytes
import Derived.BigGuardPart
set_option linter.unusedVariables false
set_option linter.unusedSimpArgs false
namespace Go.Proofs.Ytblfagmoilhdnaa
open Go.RowKit
open Ent (E)

def eVal (y : E) : Value := .agg #[.int .u64 (y.F : Nat), .bool y.t, .bool y.b, .bool y.w, .bool y.x]
/-- what the walk's tests are told of an entry: its bits, its frame, whether anything else stands in it -/
structure Facts (e F r : Nat) (w x b : Bool) : Prop where
  hF : bits .and .u64 (e : Int) 4294963200 = (F : Int)
  hw : (bits .and .u64 (e : Int) 2 != 0) = w
  hx : (bits .and .u64 (e : Int) 4 != 0) = x
  hb : (bits .and .u64 (e : Int) 8 != 0) = b
  hr : bits .andNot .u64 (e : Int) 4294963215 = (r : Int)
  lt : F < 4294967296
theorem facts (e : Nat) (h : e < 18446744073709551616) : ∃ r, Facts e (Ent.frame e) r (Ent.bit e 2) (Ent.bit e 4) (Ent.bit e 8) ∧ (r = 0 ↔ e = Ent.frame e + e % 16) ∧ bits .and .u64 (e : Int) 1 = ((e % 2 : Nat) : Int) := by
  have b2 : ∀ k : Nat, k < 18446744073709551616 → bits .and .u64 (e : Int) (k : Int) = ((e &&& k : Nat) : Int) := fun k hk => u64_and_nat e k h hk
  refine ⟨e &&& (18446744073709551615 - 4294963215), ⟨?_, ?_, ?_, ?_, ?_, Ent.frame_lt e⟩, Ent.rest_zero e h, ?_⟩
  · rw [← Ent.and_frame]; exact b2 4294963200 (by decide)
  · rw [show bits .and .u64 (e : Int) 2 = ((e &&& 2 : Nat) : Int) from b2 2 (by decide), Ent.and2]
    unfold Ent.bit
    rcases Nat.mod_two_eq_zero_or_one (e / 2) with h | h <;> simp [h]
  · rw [show bits .and .u64 (e : Int) 4 = ((e &&& 4 : Nat) : Int) from b2 4 (by decide), Ent.and4]
    unfold Ent.bit
    rcases Nat.mod_two_eq_zero_or_one (e / 4) with h | h <;> simp [h]
  · rw [show bits .and .u64 (e : Int) 8 = ((e &&& 8 : Nat) : Int) from b2 8 (by decide), Ent.and8]
    unfold Ent.bit
    rcases Nat.mod_two_eq_zero_or_one (e / 8) with h | h <;> simp [h]
  · exact u64_andNot_nat e 4294963215 h (by decide)
  · have := b2 1 (by decide)
    rw [Nat.and_one_is_mod] at this
    exact this

/-- what is told of an entry whose bits are these, at a level that is there; mis: the frame is no great page's -/
def out (F lv : Nat) (w x b mis : Bool) : E × Nat := if (b && (decide (lv ≠ 1) || mis)) || (decide (lv < 2) && !b && (w || x)) then (Ent.zero, 42) else (⟨F, decide (lv < 2) && !b, b, w, x⟩, 0)

set_option maxRecDepth 100000 in
set_option maxHeartbeats 4000000 in
theorem ent_0 (e F r : Nat) (w x b mis : Bool) (W : World) (hf : Facts e F r w x b) (h1 : bits .and .u64 (e : Int) 1 = 1) (hr0 : r = 0) (hm : ((F : Int) % 2097152 != 0) = mis) (y : E) (n : Nat) (ho : Hid (out F 0 w x b mis = (y, n))) :
    Calls Try.prog 54 #[.int .u64 (e : Nat), .int .i64 0] W fun en w' => en = .returned (.tuple #[eVal y, .int .i64 (n : Nat)]) ∧ Below W.heap.size W w' := by
  obtain ⟨hF, hw, hx, hb, hr, hlt⟩ := hf
  subst hr0
  cases b
  · cases w
    · cases x
      all_goals
        have h := ho.out
        simp [out] at h
        obtain ⟨rfl, rfl⟩ := h
        clear ho
        go_enter Try.func54, Try.ntmps54
        go_wp2
        exact bodyPost_ret (v := .tuple #[eVal _, .int .i64 _]) (by simp [results, Try.results54, go_sem]; rfl) rfl ⟨rfl, ((Below.refl _ _).alloc (Nat.le_refl _) _).alloc (by simp) _⟩
    · skip
      have h := ho.out
      simp [out] at h
      obtain ⟨rfl, rfl⟩ := h
      clear ho
      go_enter Try.func54, Try.ntmps54
      go_wp2
      exact bodyPost_ret (v := .tuple #[eVal _, .int .i64 _]) (by simp [results, Try.results54, go_sem]; rfl) rfl ⟨rfl, ((Below.refl _ _).alloc (Nat.le_refl _) _).alloc (by simp) _⟩
  · skip
    have h := ho.out
    simp [out] at h
    obtain ⟨rfl, rfl⟩ := h
    clear ho
    go_enter Try.func54, Try.ntmps54
    go_wp2
    exact bodyPost_ret (v := .tuple #[eVal _, .int .i64 _]) (by simp [results, Try.results54, go_sem]; rfl) rfl ⟨rfl, ((Below.refl _ _).alloc (Nat.le_refl _) _).alloc (by simp) _⟩

set_option maxRecDepth 100000 in
set_option maxHeartbeats 4000000 in
theorem ent_1 (e F r : Nat) (w x b mis : Bool) (W : World) (hf : Facts e F r w x b) (h1 : bits .and .u64 (e : Int) 1 = 1) (hr0 : r = 0) (hm : ((F : Int) % 2097152 != 0) = mis) (y : E) (n : Nat) (ho : Hid (out F 1 w x b mis = (y, n))) :
    Calls Try.prog 54 #[.int .u64 (e : Nat), .int .i64 1] W fun en w' => en = .returned (.tuple #[eVal y, .int .i64 (n : Nat)]) ∧ Below W.heap.size W w' := by
  obtain ⟨hF, hw, hx, hb, hr, hlt⟩ := hf
  subst hr0
  cases b
  · cases w
    · cases x
      all_goals
        have h := ho.out
        simp [out] at h
        obtain ⟨rfl, rfl⟩ := h
        clear ho
        go_enter Try.func54, Try.ntmps54
        go_wp2
        exact bodyPost_ret (v := .tuple #[eVal _, .int .i64 _]) (by simp [results, Try.results54, go_sem]; rfl) rfl ⟨rfl, ((Below.refl _ _).alloc (Nat.le_refl _) _).alloc (by simp) _⟩
    · skip
      have h := ho.out
      simp [out] at h
      obtain ⟨rfl, rfl⟩ := h
      clear ho
      go_enter Try.func54, Try.ntmps54
      go_wp2
      exact bodyPost_ret (v := .tuple #[eVal _, .int .i64 _]) (by simp [results, Try.results54, go_sem]; rfl) rfl ⟨rfl, ((Below.refl _ _).alloc (Nat.le_refl _) _).alloc (by simp) _⟩
  · cases mis
    all_goals
      have h := ho.out
      simp [out] at h
      obtain ⟨rfl, rfl⟩ := h
      clear ho
      go_enter Try.func54, Try.ntmps54
      go_wp2
      exact bodyPost_ret (v := .tuple #[eVal _, .int .i64 _]) (by simp [results, Try.results54, go_sem]; rfl) rfl ⟨rfl, ((Below.refl _ _).alloc (Nat.le_refl _) _).alloc (by simp) _⟩

set_option maxRecDepth 100000 in
set_option maxHeartbeats 4000000 in
theorem ent_2 (e F r : Nat) (w x b mis : Bool) (W : World) (hf : Facts e F r w x b) (h1 : bits .and .u64 (e : Int) 1 = 1) (hr0 : r = 0) (hm : ((F : Int) % 2097152 != 0) = mis) (y : E) (n : Nat) (ho : Hid (out F 2 w x b mis = (y, n))) :
    Calls Try.prog 54 #[.int .u64 (e : Nat), .int .i64 2] W fun en w' => en = .returned (.tuple #[eVal y, .int .i64 (n : Nat)]) ∧ Below W.heap.size W w' := by
  obtain ⟨hF, hw, hx, hb, hr, hlt⟩ := hf
  subst hr0
  cases b
  · skip
    have h := ho.out
    simp [out] at h
    obtain ⟨rfl, rfl⟩ := h
    clear ho
    go_enter Try.func54, Try.ntmps54
    go_wp2
    exact bodyPost_ret (v := .tuple #[eVal _, .int .i64 _]) (by simp [results, Try.results54, go_sem]; rfl) rfl ⟨rfl, ((Below.refl _ _).alloc (Nat.le_refl _) _).alloc (by simp) _⟩
  · skip
    have h := ho.out
    simp [out] at h
    obtain ⟨rfl, rfl⟩ := h
    clear ho
    go_enter Try.func54, Try.ntmps54
    go_wp2
    exact bodyPost_ret (v := .tuple #[eVal _, .int .i64 _]) (by simp [results, Try.results54, go_sem]; rfl) rfl ⟨rfl, ((Below.refl _ _).alloc (Nat.le_refl _) _).alloc (by simp) _⟩

set_option maxRecDepth 100000 in
set_option maxHeartbeats 1000000 in
theorem entbad_0 (e F r : Nat) (w x b : Bool) (W : World) (hf : Facts e F r w x b) (h1 : bits .and .u64 (e : Int) 1 = 1) (hr0 : ((r : Int) != 0) = true) :
    Calls Try.prog 54 #[.int .u64 (e : Nat), .int .i64 0] W fun en w' => en = .returned (.tuple #[eVal Ent.zero, .int .i64 42]) ∧ Below W.heap.size W w' := by
  obtain ⟨hF, hw, hx, hb, hr, hlt⟩ := hf
  go_enter Try.func54, Try.ntmps54
  go_wp2
  exact bodyPost_ret (v := .tuple #[eVal _, .int .i64 _]) (by simp [results, Try.results54, go_sem]; rfl) rfl ⟨rfl, ((Below.refl _ _).alloc (Nat.le_refl _) _).alloc (by simp) _⟩

set_option maxRecDepth 100000 in
set_option maxHeartbeats 1000000 in
theorem entbad_1 (e F r : Nat) (w x b : Bool) (W : World) (hf : Facts e F r w x b) (h1 : bits .and .u64 (e : Int) 1 = 1) (hr0 : ((r : Int) != 0) = true) :
    Calls Try.prog 54 #[.int .u64 (e : Nat), .int .i64 1] W fun en w' => en = .returned (.tuple #[eVal Ent.zero, .int .i64 42]) ∧ Below W.heap.size W w' := by
  obtain ⟨hF, hw, hx, hb, hr, hlt⟩ := hf
  go_enter Try.func54, Try.ntmps54
  go_wp2
  exact bodyPost_ret (v := .tuple #[eVal _, .int .i64 _]) (by simp [results, Try.results54, go_sem]; rfl) rfl ⟨rfl, ((Below.refl _ _).alloc (Nat.le_refl _) _).alloc (by simp) _⟩

set_option maxRecDepth 100000 in
set_option maxHeartbeats 1000000 in
theorem entbad_2 (e F r : Nat) (w x b : Bool) (W : World) (hf : Facts e F r w x b) (h1 : bits .and .u64 (e : Int) 1 = 1) (hr0 : ((r : Int) != 0) = true) :
    Calls Try.prog 54 #[.int .u64 (e : Nat), .int .i64 2] W fun en w' => en = .returned (.tuple #[eVal Ent.zero, .int .i64 42]) ∧ Below W.heap.size W w' := by
  obtain ⟨hF, hw, hx, hb, hr, hlt⟩ := hf
  go_enter Try.func54, Try.ntmps54
  go_wp2
  exact bodyPost_ret (v := .tuple #[eVal _, .int .i64 _]) (by simp [results, Try.results54, go_sem]; rfl) rfl ⟨rfl, ((Below.refl _ _).alloc (Nat.le_refl _) _).alloc (by simp) _⟩

set_option maxRecDepth 100000 in
set_option maxHeartbeats 1000000 in
theorem entabsent (e : Nat) (lv : Int) (W : World) (h1 : bits .and .u64 (e : Int) 1 = 0) (hl : 0 ≤ lv) (hl2 : lv < 3) :
    Calls Try.prog 54 #[.int .u64 (e : Nat), .int .i64 lv] W fun en w' => en = .returned (.tuple #[eVal Ent.zero, .int .i64 41]) ∧ Below W.heap.size W w' := by
  go_enter Try.func54, Try.ntmps54
  go_wp2
  exact bodyPost_ret (v := .tuple #[eVal _, .int .i64 _]) (by simp [results, Try.results54, go_sem]; rfl) rfl ⟨rfl, ((Below.refl _ _).alloc (Nat.le_refl _) _)⟩
set_option maxRecDepth 100000 in
set_option maxHeartbeats 1000000 in
theorem entnone (e : Nat) (lv : Int) (W : World) (hl : lv < 0 ∨ 2 < lv) :
    Calls Try.prog 54 #[.int .u64 (e : Nat), .int .i64 lv] W fun en w' => en = .returned (.tuple #[eVal Ent.zero, .int .i64 1]) ∧ Below W.heap.size W w' := by
  rcases hl with hl | hl
  · go_enter Try.func54, Try.ntmps54
    go_wp2
    exact bodyPost_ret (v := .tuple #[eVal _, .int .i64 _]) (by simp [results, Try.results54, go_sem]; rfl) rfl ⟨rfl, ((Below.refl _ _).alloc (Nat.le_refl _) _)⟩
  · have hl' : ¬ lv < 0 := by omega
    go_enter Try.func54, Try.ntmps54
    go_wp2
    exact bodyPost_ret (v := .tuple #[eVal _, .int .i64 _]) (by simp [results, Try.results54, go_sem]; rfl) rfl ⟨rfl, ((Below.refl _ _).alloc (Nat.le_refl _) _)⟩

end Go.Proofs.Ytblfagmoilhdnaa
