/- Texts of this claim, one behind the other: EntryB, Entry, WkM, WkA. -/
import Derived.Test.YtfpofaniicegaaaGreatJWalkForeign21
import Derived.Test.YtfpofaniicegaaaGreatJWalkForeign16
/- The walk of bulkheadref4.Entry, by the entry's bits and the level. -/
set_option linter.unusedVariables false
set_option linter.unusedSimpArgs false
namespace Go.Proofs.YtfpofaniicegaaaGreat
open Go.RowKit
open Ent (E)

structure FactsR (e F : Nat) (w x b bad : Bool) : Prop where
  hF : (e : Int) / 4096 % 1048576 * 4096 = (F : Int)
  hw : ((e : Int) / 2 % 2 == 1) = w
  hx : ((e : Int) / 4 % 2 == 1) = x
  hb : ((e : Int) / 8 % 2 == 1) = b
  hr : ((e : Int) != (F : Int) + (e : Int) % 16) = bad
  lt : F < 4294967296
  le : e < 18446744073709551616
theorem factsR (e : Nat) (h : e < 18446744073709551616) : FactsR e (Ent.frame e) (Ent.bit e 2) (Ent.bit e 4) (Ent.bit e 8) (decide (e ≠ Ent.frame e + e % 16)) := by
  refine ⟨by unfold Ent.frame; omega, ?_, ?_, ?_, ?_, Ent.frame_lt e, h⟩
  · unfold Ent.bit; rw [Bool.eq_iff_iff]; simp; omega
  · unfold Ent.bit; rw [Bool.eq_iff_iff]; simp; omega
  · unfold Ent.bit; rw [Bool.eq_iff_iff]; simp; omega
  · rw [Bool.eq_iff_iff]; simp; omega

set_option maxRecDepth 100000 in
set_option maxHeartbeats 4000000 in
theorem rent_0 (e F : Nat) (w x b mis : Bool) (W : World) (hf : FactsR e F w x b false) (h1 : e % 2 = 1) (hm : decide ((0 : Int) < (F : Int) % 2097152) = mis) (y : E) (n : Nat) (ho : Hid (out F 0 w x b mis = (y, n))) :
    Calls Tryz.prog 41 #[.int .u64 (e : Nat), .int .i64 0] W fun en w' => en = .returned (.tuple #[eVal y, .int .i64 (n : Nat)]) ∧ Below W.heap.size W w' := by
  obtain ⟨hF, hw, hx, hb, hr, hlt, hle⟩ := hf
  have h1' : ((e : Int) % 2 == 0) = false := beq_eq_false_iff_ne.2 (by omega)
  cases w
  · cases x
    · cases b
      all_goals
        have h := ho.out
        simp [out] at h
        obtain ⟨rfl, rfl⟩ := h
        clear ho
        go_enter Tryz.func41, Tryz.ntmps41
        go_wp2
        exact bodyPost_ret (v := .tuple #[eVal _, .int .i64 _]) (by simp [results, Tryz.results41, go_sem]; rfl) rfl ⟨rfl, ((Below.refl _ _).alloc (Nat.le_refl _) _).alloc (by simp) _⟩
    · cases b
      all_goals
        have h := ho.out
        simp [out] at h
        obtain ⟨rfl, rfl⟩ := h
        clear ho
        go_enter Tryz.func41, Tryz.ntmps41
        go_wp2
        exact bodyPost_ret (v := .tuple #[eVal _, .int .i64 _]) (by simp [results, Tryz.results41, go_sem]; rfl) rfl ⟨rfl, ((Below.refl _ _).alloc (Nat.le_refl _) _).alloc (by simp) _⟩
  · cases b
    all_goals
      have h := ho.out
      simp [out] at h
      obtain ⟨rfl, rfl⟩ := h
      clear ho
      go_enter Tryz.func41, Tryz.ntmps41
      go_wp2
      exact bodyPost_ret (v := .tuple #[eVal _, .int .i64 _]) (by simp [results, Tryz.results41, go_sem]; rfl) rfl ⟨rfl, ((Below.refl _ _).alloc (Nat.le_refl _) _).alloc (by simp) _⟩

set_option maxRecDepth 100000 in
set_option maxHeartbeats 4000000 in
theorem rent_1 (e F : Nat) (w x b mis : Bool) (W : World) (hf : FactsR e F w x b false) (h1 : e % 2 = 1) (hm : decide ((0 : Int) < (F : Int) % 2097152) = mis) (y : E) (n : Nat) (ho : Hid (out F 1 w x b mis = (y, n))) :
    Calls Tryz.prog 41 #[.int .u64 (e : Nat), .int .i64 1] W fun en w' => en = .returned (.tuple #[eVal y, .int .i64 (n : Nat)]) ∧ Below W.heap.size W w' := by
  obtain ⟨hF, hw, hx, hb, hr, hlt, hle⟩ := hf
  have h1' : ((e : Int) % 2 == 0) = false := beq_eq_false_iff_ne.2 (by omega)
  cases b
  · cases w
    · cases x
      all_goals
        have h := ho.out
        simp [out] at h
        obtain ⟨rfl, rfl⟩ := h
        clear ho
        go_enter Tryz.func41, Tryz.ntmps41
        go_wp2
        exact bodyPost_ret (v := .tuple #[eVal _, .int .i64 _]) (by simp [results, Tryz.results41, go_sem]; rfl) rfl ⟨rfl, ((Below.refl _ _).alloc (Nat.le_refl _) _).alloc (by simp) _⟩
    · skip
      have h := ho.out
      simp [out] at h
      obtain ⟨rfl, rfl⟩ := h
      clear ho
      go_enter Tryz.func41, Tryz.ntmps41
      go_wp2
      exact bodyPost_ret (v := .tuple #[eVal _, .int .i64 _]) (by simp [results, Tryz.results41, go_sem]; rfl) rfl ⟨rfl, ((Below.refl _ _).alloc (Nat.le_refl _) _).alloc (by simp) _⟩
  · cases mis
    all_goals
      have h := ho.out
      simp [out] at h
      obtain ⟨rfl, rfl⟩ := h
      clear ho
      go_enter Tryz.func41, Tryz.ntmps41
      go_wp2
      exact bodyPost_ret (v := .tuple #[eVal _, .int .i64 _]) (by simp [results, Tryz.results41, go_sem]; rfl) rfl ⟨rfl, ((Below.refl _ _).alloc (Nat.le_refl _) _).alloc (by simp) _⟩

set_option maxRecDepth 100000 in
set_option maxHeartbeats 4000000 in
theorem rent_2 (e F : Nat) (w x b mis : Bool) (W : World) (hf : FactsR e F w x b false) (h1 : e % 2 = 1) (hm : decide ((0 : Int) < (F : Int) % 2097152) = mis) (y : E) (n : Nat) (ho : Hid (out F 2 w x b mis = (y, n))) :
    Calls Tryz.prog 41 #[.int .u64 (e : Nat), .int .i64 2] W fun en w' => en = .returned (.tuple #[eVal y, .int .i64 (n : Nat)]) ∧ Below W.heap.size W w' := by
  obtain ⟨hF, hw, hx, hb, hr, hlt, hle⟩ := hf
  have h1' : ((e : Int) % 2 == 0) = false := beq_eq_false_iff_ne.2 (by omega)
  cases b
  all_goals
    have h := ho.out
    simp [out] at h
    obtain ⟨rfl, rfl⟩ := h
    clear ho
    go_enter Tryz.func41, Tryz.ntmps41
    go_wp2
    exact bodyPost_ret (v := .tuple #[eVal _, .int .i64 _]) (by simp [results, Tryz.results41, go_sem]; rfl) rfl ⟨rfl, ((Below.refl _ _).alloc (Nat.le_refl _) _).alloc (by simp) _⟩

set_option maxRecDepth 100000 in
set_option maxHeartbeats 1000000 in
theorem rentbad_0 (e F : Nat) (w x b : Bool) (W : World) (hf : FactsR e F w x b true) (h1 : e % 2 = 1) :
    Calls Tryz.prog 41 #[.int .u64 (e : Nat), .int .i64 0] W fun en w' => en = .returned (.tuple #[eVal Ent.zero, .int .i64 42]) ∧ Below W.heap.size W w' := by
  obtain ⟨hF, hw, hx, hb, hr, hlt, hle⟩ := hf
  have h1' : ((e : Int) % 2 == 0) = false := beq_eq_false_iff_ne.2 (by omega)
  go_enter Tryz.func41, Tryz.ntmps41
  go_wp2
  exact bodyPost_ret (v := .tuple #[eVal _, .int .i64 _]) (by simp [results, Tryz.results41, go_sem]; rfl) rfl ⟨rfl, ((Below.refl _ _).alloc (Nat.le_refl _) _).alloc (by simp) _⟩

set_option maxRecDepth 100000 in
set_option maxHeartbeats 1000000 in
theorem rentbad_1 (e F : Nat) (w x b : Bool) (W : World) (hf : FactsR e F w x b true) (h1 : e % 2 = 1) :
    Calls Tryz.prog 41 #[.int .u64 (e : Nat), .int .i64 1] W fun en w' => en = .returned (.tuple #[eVal Ent.zero, .int .i64 42]) ∧ Below W.heap.size W w' := by
  obtain ⟨hF, hw, hx, hb, hr, hlt, hle⟩ := hf
  have h1' : ((e : Int) % 2 == 0) = false := beq_eq_false_iff_ne.2 (by omega)
  go_enter Tryz.func41, Tryz.ntmps41
  go_wp2
  exact bodyPost_ret (v := .tuple #[eVal _, .int .i64 _]) (by simp [results, Tryz.results41, go_sem]; rfl) rfl ⟨rfl, ((Below.refl _ _).alloc (Nat.le_refl _) _).alloc (by simp) _⟩

set_option maxRecDepth 100000 in
set_option maxHeartbeats 1000000 in
theorem rentbad_2 (e F : Nat) (w x b : Bool) (W : World) (hf : FactsR e F w x b true) (h1 : e % 2 = 1) :
    Calls Tryz.prog 41 #[.int .u64 (e : Nat), .int .i64 2] W fun en w' => en = .returned (.tuple #[eVal Ent.zero, .int .i64 42]) ∧ Below W.heap.size W w' := by
  obtain ⟨hF, hw, hx, hb, hr, hlt, hle⟩ := hf
  have h1' : ((e : Int) % 2 == 0) = false := beq_eq_false_iff_ne.2 (by omega)
  go_enter Tryz.func41, Tryz.ntmps41
  go_wp2
  exact bodyPost_ret (v := .tuple #[eVal _, .int .i64 _]) (by simp [results, Tryz.results41, go_sem]; rfl) rfl ⟨rfl, ((Below.refl _ _).alloc (Nat.le_refl _) _).alloc (by simp) _⟩

set_option maxRecDepth 100000 in
set_option maxHeartbeats 1000000 in
theorem rentabsent (e : Nat) (lv : Int) (W : World) (he : e < 18446744073709551616) (h1 : e % 2 = 0) (hl : 0 ≤ lv) (hl2 : lv < 3) :
    Calls Tryz.prog 41 #[.int .u64 (e : Nat), .int .i64 lv] W fun en w' => en = .returned (.tuple #[eVal Ent.zero, .int .i64 41]) ∧ Below W.heap.size W w' := by
  have h1' : ((e : Int) % 2 == 0) = true := beq_iff_eq.2 (by omega)
  go_enter Tryz.func41, Tryz.ntmps41
  go_wp2
  exact bodyPost_ret (v := .tuple #[eVal _, .int .i64 _]) (by simp [results, Tryz.results41, go_sem]; rfl) rfl ⟨rfl, ((Below.refl _ _).alloc (Nat.le_refl _) _)⟩
set_option maxRecDepth 100000 in
set_option maxHeartbeats 1000000 in
theorem rentnone (e : Nat) (lv : Int) (W : World) (hl : lv < 0 ∨ 2 < lv) :
    Calls Tryz.prog 41 #[.int .u64 (e : Nat), .int .i64 lv] W fun en w' => en = .returned (.tuple #[eVal Ent.zero, .int .i64 1]) ∧ Below W.heap.size W w' := by
  rcases hl with hl | hl
  · go_enter Tryz.func41, Tryz.ntmps41
    go_wp2
    exact bodyPost_ret (v := .tuple #[eVal _, .int .i64 _]) (by simp [results, Tryz.results41, go_sem]; rfl) rfl ⟨rfl, ((Below.refl _ _).alloc (Nat.le_refl _) _)⟩
  · have hl' : ¬ lv < 0 := by omega
    go_enter Tryz.func41, Tryz.ntmps41
    go_wp2
    exact bodyPost_ret (v := .tuple #[eVal _, .int .i64 _]) (by simp [results, Tryz.results41, go_sem]; rfl) rfl ⟨rfl, ((Below.refl _ _).alloc (Nat.le_refl _) _)⟩


end Go.Proofs.YtfpofaniicegaaaGreat

/- walk.Entry and bulkheadref4.Entry at every level: both tell what the plain law's 'say' tells. -/
set_option linter.unusedVariables false
set_option linter.unusedSimpArgs false
namespace Go.Proofs.YtfpofaniicegaaaGreat
open Go.RowKit
open Ent (E)
theorem out_say (e lv : Nat) (hp : e % 2 = 1) (hr : e = Ent.frame e + e % 16) (mis : Bool) (hm : mis = decide (Ent.frame e % 2097152 ≠ 0)) : out (Ent.frame e) lv (Ent.bit e 2) (Ent.bit e 4) (Ent.bit e 8) mis = Ent.say e lv := by
  subst hm
  unfold Ent.say out Ent.wrong
  rw [if_neg (show ¬ e % 2 = 0 by omega), if_neg (show ¬ e ≠ Ent.frame e + e % 16 from not_not_intro hr)]
theorem say_absent (e lv : Nat) (hp : e % 2 = 0) : Ent.say e lv = (Ent.zero, 41) := by unfold Ent.say; rw [if_pos hp]
theorem say_bad (e lv : Nat) (hp : e % 2 = 1) (hr : e ≠ Ent.frame e + e % 16) : Ent.say e lv = (Ent.zero, 42) := by unfold Ent.say; rw [if_neg (by omega), if_pos hr]
/-- walk.Entry, at a level that is there -/
theorem entry_any (e lv : Nat) (W : World) (he : e < 18446744073709551616) (hl : lv < 3) :
    Calls Tryz.prog 80 #[.int .u64 (e : Nat), .int .i64 (lv : Nat)] W fun en w' => en = .returned (.tuple #[eVal (Ent.say e lv).1, .int .i64 ((Ent.say e lv).2 : Nat)]) ∧ Below W.heap.size W w' := by
  obtain ⟨r, hf, hr, h1⟩ := facts e he
  rcases Nat.mod_two_eq_zero_or_one e with hp | hp
  · rw [say_absent e lv hp]
    exact entabsent e lv W (by rw [h1, hp]; rfl) (by omega) (by omega)
  · rw [hp] at h1
    by_cases hr0 : r = 0
    · have ho := out_say e lv hp (hr.1 hr0) ((Ent.frame e : Int) % 2097152 != 0) (by rw [Bool.eq_iff_iff]; simp; omega)
      match lv, hl with
      | 0, _ => exact ent_0 e _ r _ _ _ _ W hf h1 hr0 rfl _ _ (Lib.hid (by rw [ho]))
      | 1, _ => exact ent_1 e _ r _ _ _ _ W hf h1 hr0 rfl _ _ (Lib.hid (by rw [ho]))
      | 2, _ => exact ent_2 e _ r _ _ _ _ W hf h1 hr0 rfl _ _ (Lib.hid (by rw [ho]))
    · rw [say_bad e lv hp (fun h => hr0 (hr.2 h))]
      have hr1 : ((r : Int) != 0) = true := by rw [bne_iff_ne]; omega
      match lv, hl with
      | 0, _ => exact entbad_0 e _ r _ _ _ W hf h1 hr1
      | 1, _ => exact entbad_1 e _ r _ _ _ W hf h1 hr1
      | 2, _ => exact entbad_2 e _ r _ _ _ W hf h1 hr1
/-- bulkheadref4.Entry, at a level that is there -/
theorem rentry_any (e lv : Nat) (W : World) (he : e < 18446744073709551616) (hl : lv < 3) :
    Calls Tryz.prog 41 #[.int .u64 (e : Nat), .int .i64 (lv : Nat)] W fun en w' => en = .returned (.tuple #[eVal (Ent.say e lv).1, .int .i64 ((Ent.say e lv).2 : Nat)]) ∧ Below W.heap.size W w' := by
  have hf := factsR e he
  rcases Nat.mod_two_eq_zero_or_one e with hp | hp
  · rw [say_absent e lv hp]
    exact rentabsent e lv W he hp (by omega) (by omega)
  · by_cases hr : e = Ent.frame e + e % 16
    · have ho := out_say e lv hp hr (decide ((0 : Int) < (Ent.frame e : Int) % 2097152)) (by rw [Bool.eq_iff_iff]; simp; omega)
      rw [decide_eq_false (not_not_intro hr)] at hf
      match lv, hl with
      | 0, _ => exact rent_0 e _ _ _ _ _ W hf hp rfl _ _ (Lib.hid (by rw [ho]))
      | 1, _ => exact rent_1 e _ _ _ _ _ W hf hp rfl _ _ (Lib.hid (by rw [ho]))
      | 2, _ => exact rent_2 e _ _ _ _ _ W hf hp rfl _ _ (Lib.hid (by rw [ho]))
    · rw [say_bad e lv hp hr]
      rw [decide_eq_true hr] at hf
      match lv, hl with
      | 0, _ => exact rentbad_0 e _ _ _ _ W hf hp
      | 1, _ => exact rentbad_1 e _ _ _ _ W hf hp
      | 2, _ => exact rentbad_2 e _ _ _ _ W hf hp
end Go.Proofs.YtfpofaniicegaaaGreat

/- Plain law: what walking a machine's tables answers. -/
set_option linter.unusedVariables false
set_option linter.unusedSimpArgs false
namespace Go.Proofs.YtfpofaniicegaaaGreat
open Go.RowKit
open S64
namespace Bu
/-- the machine with another count of strays -/
def sM (M : PM) (s : Int) : PM := { M with strays := s }
/-- on the bus? -/
def onM (M : PM) (p : Nat) : Bool := on (M.rams ++ M.devs) p
/-- the entry at an address; none: it is not on the bus -/
def rdM (M : PM) (a : Nat) : Option Nat := if (List.range 8).all (fun i => onM M (a + i)) = true then some (numB M.mem a 8) else none
/-- how many bytes an entry of a level stands for -/
def rch (lv : Nat) : Nat := 4096 * 512 ^ (2 - lv)
def ixv (virt lv : Nat) : Nat := virt / rch lv % 512
/-- what the i-th entry of a table says -/
def entM (M : PM) (tab i lv : Nat) : Ent.E × Nat := match rdM M (tab + 8 * i) with
  | none => (Ent.zero, 42)
  | some e => Ent.say e lv
/-- from a table of a level on: the address, or why there is none -/
def trw (M : PM) (virt : Nat) (access : Int) : Nat → Nat → Nat → Nat × Nat
  | 0, _, _ => (0, 42)
  | k + 1, lv, tab =>
    if (entM M tab (ixv virt lv) lv).2 ≠ 0 then (0, (entM M tab (ixv virt lv) lv).2)
    else if (entM M tab (ixv virt lv) lv).1.t = true then trw M virt access k (lv + 1) (entM M tab (ixv virt lv) lv).1.F
    else if access = 2 ∧ (entM M tab (ixv virt lv) lv).1.w = false then (0, 43)
    else if access = 3 ∧ (entM M tab (ixv virt lv) lv).1.x = false then (0, 44)
    else ((entM M tab (ixv virt lv) lv).1.F + virt % rch lv, 0)
def trI (M : PM) (root virt : Nat) (access : Int) : Nat × Nat :=
  if access < 1 ∨ 3 < access then (0, 1) else if 549755813888 ≤ virt then (0, 40) else if root % 4096 ≠ 0 then (0, 42) else trw M virt access 3 0 root
/-- a fault as a value -/
def fltV (no at_ : Nat) : Value := .agg #[.int .i64 (no : Nat), .int .u64 (at_ : Nat)]
/-- the fault of a number at an address -/
def flt (no at_ : Nat) : Value := if no = 0 then fltV 0 0 else fltV no at_
theorem sM_tr (M : PM) (s : Int) (root virt : Nat) (access : Int) : trI (sM M s) root virt access = trI M root virt access := by
  have h : ∀ k lv tab, trw (sM M s) virt access k lv tab = trw M virt access k lv tab := by
    intro k
    induction k with
    | zero => intro lv tab; rfl
    | succ k ih =>
      intro lv tab
      unfold trw
      rw [ih]
      rfl
  unfold trI
  rw [h]
theorem say_t {e lv : Nat} {y : Ent.E} (h : Ent.say e lv = (y, 0)) : (y.t = true → lv < 2) ∧ y.F < 4294967296 ∧ y.F % 4096 = 0 ∧ (y.b = true → lv = 1 ∧ y.F % 2097152 = 0) ∧ y.t = (decide (lv < 2) && !y.b) ∧ (y.t = true → y.w = false ∧ y.x = false) := by
  unfold Ent.say at h
  split at h
  · injection h with _ h; cases h
  split at h
  · injection h with _ h; cases h
  split at h
  · injection h with _ h; cases h
  · rename_i h1
    injection h with h _
    subst h
    have h1 : Ent.wrong (Ent.frame e) lv (Ent.bit e 8) (Ent.bit e 2) (Ent.bit e 4) = false := by simpa using h1
    unfold Ent.wrong at h1
    refine ⟨fun h => by simp at h; exact h.1, Ent.frame_lt e, by show Ent.frame e % 4096 = 0; unfold Ent.frame; omega, fun h => ?_, rfl, fun h => ?_⟩
    · simp only at h
      rw [h] at h1
      simp at h1
      refine ⟨h1.1, ?_⟩
      show Ent.frame e % 2097152 = 0
      have := h1.2
      omega
    · simp only [Bool.and_eq_true, decide_eq_true_eq, Bool.not_eq_true'] at h
      rw [h.2] at h1
      simp [h.1] at h1
      exact h1
theorem entM_t {M : PM} {tab i lv : Nat} {y : Ent.E} (h : entM M tab i lv = (y, 0)) : (y.t = true → lv < 2) ∧ y.F < 4294967296 ∧ y.F % 4096 = 0 ∧ (y.b = true → lv = 1 ∧ y.F % 2097152 = 0) ∧ y.t = (decide (lv < 2) && !y.b) ∧ (y.t = true → y.w = false ∧ y.x = false) := by
  unfold entM at h
  split at h
  · injection h with _ h; cases h
  · exact say_t h
theorem entM_F {M : PM} {tab i lv : Nat} : (entM M tab i lv).1.F < 4294967296 := by
  by_cases h : (entM M tab i lv).2 = 0
  · exact (entM_t (y := (entM M tab i lv).1) (by rw [← h])).2.1
  · unfold entM at h ⊢
    split
    · show (0 : Nat) < _; decide
    · rename_i e _
      unfold Ent.say
      split
      · show (0 : Nat) < _; decide
      split
      · show (0 : Nat) < _; decide
      split
      · show (0 : Nat) < _; decide
      · exact Ent.frame_lt e
theorem entM_no {M : PM} {tab i lv : Nat} : (entM M tab i lv).2 ≤ 42 := by
  unfold entM
  split
  · show 42 ≤ 42; decide
  · unfold Ent.say
    split
    · show 41 ≤ 42; decide
    split
    · show 42 ≤ 42; decide
    split
    · show 42 ≤ 42; decide
    · show 0 ≤ 42; decide
theorem rch0 : rch 0 = 1073741824 := rfl
theorem rch1 : rch 1 = 2097152 := rfl
theorem rch2 : rch 2 = 4096 := rfl
/-- the bus lies below 2^32 -/
def Lim (M : PM) : Prop := ∀ p, onM M p = true → p < 4294967296
/-- the first of n bytes off the bus -/
def offF (M : PM) (a n : Nat) : Option Nat := ((List.range n).map (a + ·)).find? fun p => !onM M p
theorem offF_is {M : PM} (hl : Lim M) {a n : Nat} (ha : a ≤ TOP) : OffIs (M.rams ++ M.devs) a n (offF M a n) := by
  unfold offF
  cases h : ((List.range n).map (a + ·)).find? fun p => !onM M p with
  | none =>
    intro p h1 h2
    have := List.find?_eq_none.1 h p (List.mem_map.2 ⟨p - a, List.mem_range.2 (by omega), by omega⟩)
    simpa [onM] using this
  | some q =>
    obtain ⟨hq, la, lb, he, hb⟩ := List.find?_eq_some_iff_append.1 h
    have hm : q ∈ (List.range n).map (a + ·) := by rw [he]; simp
    obtain ⟨i, hi, rfl⟩ := List.mem_map.1 hm
    have hi := List.mem_range.1 hi
    have hbef : ∀ p, a ≤ p → p < a + i → onM M p = true := by
      intro p h1 h2
      have hlen : la.length = i := by
        have h3 : ((List.range n).map (a + ·))[la.length]? = some (a + i) := by rw [he]; simp
        rw [List.getElem?_map] at h3
        by_cases hl : la.length < n
        · rw [List.getElem?_range hl] at h3
          simp at h3
          omega
        · rw [List.getElem?_eq_none (by rw [List.length_range]; omega)] at h3
          cases h3
      have h4 : p ∈ la := by
        have h3 : ((List.range n).map (a + ·))[p - a]? = some p := by
          rw [List.getElem?_map, List.getElem?_range (by omega)]
          simp; omega
        rw [he, List.getElem?_append_left (by omega)] at h3
        exact List.mem_of_getElem? h3
      have := hb p h4
      simpa using this
    refine ⟨by omega, by omega, by simpa [onM] using hq, ?_, hbef⟩
    rcases Nat.eq_zero_or_pos i with h0 | h0
    · unfold TOP at *; omega
    · have := hl (a + i - 1) (hbef _ (by omega) (by omega))
      unfold TOP; omega
theorem rdM_off {M : PM} {a : Nat} : (rdM M a = none ↔ ∃ q, offF M a 8 = some q) ∧ (∀ e, rdM M a = some e → offF M a 8 = none ∧ e = numB M.mem a 8) := by
  have key : ((List.range 8).all (fun i => onM M (a + i)) = true) ↔ offF M a 8 = none := by
    unfold offF
    rw [List.find?_eq_none, List.all_eq_true]
    constructor
    · rintro h p hp
      obtain ⟨i, hi, rfl⟩ := List.mem_map.1 hp
      simp [h i hi]
    · intro h i hi
      have := h (a + i) (List.mem_map.2 ⟨i, hi, rfl⟩)
      simpa using this
  unfold rdM
  split
  · rename_i h
    refine ⟨⟨fun h => (by cases h), fun ⟨q, hq⟩ => ?_⟩, fun e he => ?_⟩
    · rw [key.1 h] at hq; cases hq
    · injection he with he
      exact ⟨key.1 h, he.symm⟩
  · rename_i h
    refine ⟨⟨fun _ => ?_, fun _ => rfl⟩, fun e he => (by cases he)⟩
    cases ho : offF M a 8 with
    | none => exact absurd (key.2 ho) h
    | some q => exact ⟨q, rfl⟩
end Bu
end Go.Proofs.YtfpofaniicegaaaGreat

/- The walks of walk.reach and of walk.entry over a machine. -/
set_option linter.unusedVariables false
set_option linter.unusedSimpArgs false
namespace Go.Proofs.YtfpofaniicegaaaGreat
open Go.RowKit
open S64
namespace Bu
/-- A MEMORY: what may turn with it (Z), what must stay (R), and what it holds -/
abbrev MemS := (Nat → Prop) → (Nat → Prop) → World → PM → Prop
structure MemI (S : MemS) : Prop where
  lim : ∀ {Z R w M}, S Z R w M → Lim M
  byte : ∀ {Z R w M}, S Z R w M → ∀ p, M.mem p < 256
  z : ∀ {Z R w M}, S Z R w M → ∀ k, Z k → k < w.heap.size
  r : ∀ {Z R w M}, S Z R w M → ∀ k, R k → k < w.heap.size
  chg : ∀ {Z R Y : Nat → Prop} {w w' : World} {M}, S Z R w M → ChgP Y w w' → (∀ k, Z k ∨ R k → ¬ Y k) → S Z R w' M
theorem MemI.below {S : MemS} (hS : MemI S) {Z R : Nat → Prop} {w w' : World} {M : PM} (h : S Z R w M) (hb : Below w.heap.size w w') : S Z R w' M := hS.chg h (Y := fun _ => False) (ChgP.of_below hb) (fun _ _ h => h)
/-- what a call that lays nothing leaves -/
def QuM (S : MemS) (Z R : Nat → Prop) (w : World) (M' : PM) (w' : World) : Prop := S Z R w' M' ∧ ChgP Z w w'
/-- what a call leaves that may have strayed once; q: it has not -/
def QuS (S : MemS) (Z R : Nat → Prop) (w : World) (M : PM) (q : Prop) (w' : World) : Prop := ∃ s : Int, True ∧ (q → s = M.strays) ∧ S Z R w' (sM M s) ∧ ChgP Z w w'
theorem QuS.below {S : MemS} (hS : MemI S) {Z R : Nat → Prop} {w w' w'' : World} {M : PM} {q : Prop} (h : QuS S Z R w M q w') (hb : Below w'.heap.size w' w'') : QuS S Z R w M q w'' := by
  obtain ⟨s, h1, h0, h2, h3⟩ := h
  exact ⟨s, h1, h0, hS.below h2 hb, h3.trans (ChgP.of_below (Z := Z) hb) (fun x hx => .inl hx)⟩
theorem QuS.refl {S : MemS} {Z R : Nat → Prop} {w : World} {M : PM} {q : Prop} (h : S Z R w M) : QuS S Z R w M q w := ⟨M.strays, trivial, fun _ => rfl, h, ChgP.refl _ _⟩
theorem QuS.imp {S : MemS} {Z R : Nat → Prop} {w w' : World} {M : PM} {q q' : Prop} (h : QuS S Z R w M q w') (hq : q' → q) : QuS S Z R w M q' w' := by
  obtain ⟨s, h1, h0, h2, h3⟩ := h
  exact ⟨s, h1, fun h => h0 (hq h), h2, h3⟩
/-- it has not strayed -/
theorem QuS.still {S : MemS} {Z R : Nat → Prop} {w w' : World} {M : PM} {q : Prop} (h : QuS S Z R w M q w') (hq : q) : S Z R w' M ∧ ChgP Z w w' := by
  obtain ⟨s, h1, h0, h2, h3⟩ := h
  rw [h0 hq] at h2
  exact ⟨h2, h3⟩
/-- new blocks before it -/
theorem QuS.pre {S : MemS} {Z R : Nat → Prop} {w w0 w' : World} {M : PM} {q : Prop} (h : QuS S Z R w0 M q w') (hc : ChgP Z w w0) : QuS S Z R w M q w' := by
  obtain ⟨s, h1, h0, h2, h3⟩ := h
  exact ⟨s, h1, h0, h2, hc.trans h3 (fun x hx => .inl hx)⟩
/-- what has turned beside the memory and is new -/
theorem QuS.chg {S : MemS} (hS : MemI S) {Z R Y : Nat → Prop} {w w' w'' : World} {M : PM} {q : Prop} (h : QuS S Z R w M q w') (hc : ChgP Y w' w'') (hZ : S Z R w M) (hY : ∀ k, Y k → w.heap.size ≤ k) : QuS S Z R w M q w'' := by
  obtain ⟨s, h1, h0, h2, h3⟩ := h
  refine ⟨s, h1, h0, hS.chg h2 hc (fun k hk hy => ?_), h3.trans hc (fun x hx => .inr (hY x hx))⟩
  have h4 := hY k hy
  rcases hk with hk | hk
  · have := hS.z hZ k hk; omega
  · have := hS.r hZ k hk; omega
def EntC (T : TypeId) (v : Value) (S : MemS) : Prop := ∀ (Z R : Nat → Prop) (w : World) (M : PM) (tab i lv : Nat), S Z R w M → True → tab ≤ 18446744073709547520 → i < 512 → lv < 3 →
  Calls Tryz.prog 60 #[.iface T v, .int .u64 (tab : Nat), .int .i64 (i : Nat), .int .i64 (lv : Nat)] w fun e w' => e = .returned (.tuple #[eVal (entM M tab i lv).1, .int .i64 ((entM M tab i lv).2 : Nat)]) ∧ QuS S Z R w M ((entM M tab i lv).2 ≠ 42) w'
theorem reach_any (lv : Nat) (w : World) (hl : lv < 3) : Calls Tryz.prog 61 #[.int .i64 (lv : Nat)] w fun e w' => e = .returned (.int .u64 (rch lv : Nat)) ∧ w = w' := by
  obtain rfl | rfl | rfl : lv = 0 ∨ lv = 1 ∨ lv = 2 := by omega
  all_goals
    go_enter Tryz.func61, Tryz.ntmps61
    go_wp2_with fail
    go_ret
    exact ⟨rfl, rfl⟩
/-- a machine as a memory -/
def SMach (g : Nat) : MemS := fun Z R w M => MZ Z R w g M
theorem MZ.limM {Z R : Nat → Prop} {w : World} {g : Nat} {M : PM} (h : MZ Z R w g M) : Lim M := by
  obtain ⟨_, _, _, _, _, _, _, _, _, _, h⟩ := h.m
  exact h.lim
theorem MZ.byteM {Z R : Nat → Prop} {w : World} {g : Nat} {M : PM} (h : MZ Z R w g M) : ∀ p, M.mem p < 256 := by
  obtain ⟨_, _, _, _, _, _, _, _, _, _, h⟩ := h.m
  exact h.byte
theorem smach_i (g : Nat) : MemI (SMach g) := ⟨fun h => MZ.limM h, fun h => MZ.byteM h, fun h => h.z, fun h => h.r, fun h hc hY => MZ.chg h hc hY⟩
def machV (g : Nat) : Value := .pointer (some ⟨g, 0, none⟩)
def fno : Option Nat → Nat
  | none => 0
  | some _ => 30
theorem faultV_eq (F : Option Nat) : faultV F = .agg #[.int .i64 (fno F : Nat), .int .u64 (F.getD 0 : Nat)] := by cases F <;> rfl
theorem stray_sM (M : PM) (F : Option Nat) : ∃ s : Int, True ∧ (F = none → s = M.strays) ∧ stray M F = sM M s := by
  cases F with
  | none => exact ⟨M.strays, trivial, fun _ => rfl, rfl⟩
  | some q => exact ⟨cInc M.strays, trivial, fun h => (by cases h), rfl⟩
theorem mach_peek (g n : Nat) (wx : World) : (method (n + 1) 50 (.pointer (some ⟨g, 0, none⟩)) "Peek").run Tryz.prog wx = .ok (123, .pointer (some ⟨g, 0, none⟩)) wx := by kernel_rfl
set_option maxRecDepth 100000 in
set_option maxHeartbeats 2000000 in
theorem ent_mach (g : Nat) : EntC 50 (machV g) (SMach g) := by
  intro Z R w M tab i lv hm hs ht hi hl
  unfold machV
  have HM := Lib.hid hm
  have HS := Lib.hid hs
  obtain ⟨a, ha⟩ : ∃ a, a = tab + 8 * i := ⟨_, rfl⟩
  have e1 : (tab : Int) + 8 * (i : Int) = (a : Int) := by omega
  have ha64 : a ≤ 18446744073709551615 := by omega
  have HAE := Lib.hid ha
  obtain ⟨E, hE⟩ : ∃ E, E = entM M tab i lv := ⟨_, rfl⟩
  rw [← hE]
  have HE := Lib.hid hE
  have HPK : Hid (∀ wx, Below w.heap.size w wx → Calls Tryz.prog 123 #[.pointer (some ⟨g, 0, none⟩), .int .u64 (a : Nat), .int .i64 8] wx fun e w' => e = .returned (.tuple #[.int .u64 (peekV M a 8 (offF M a 8) : Nat), faultV (offF M a 8)]) ∧ Quiet1 Z R wx g (stray M (offF M a 8)) w') := Lib.hid (fun wx hb => peek_m (n := 8) ((show MZ Z R w g M from hm).below hb) (by omega) (show a ≤ TOP by unfold TOP; omega) hs (offF_is (MZ.limM hm) (show a ≤ TOP by unfold TOP; omega)))
  have HRD := Lib.hid (rdM_off (M := M) (a := a))
  obtain ⟨P, hP⟩ : ∃ P, P = peekV M a 8 (offF M a 8) := ⟨_, rfl⟩
  rw [← hP] at HPK
  have HP := Lib.hid hP
  obtain ⟨F, hF⟩ : ∃ F, F = offF M a 8 := ⟨_, rfl⟩
  rw [← hF, faultV_eq] at HPK
  have HF := Lib.hid hF
  have hmp := mach_peek g
  clear hm hs ha hE hP hF
  go_enter Tryz.func60, Tryz.ntmps60
  go_upto_region 1 with fail
  have hra0 := Row.new w 97 [.int .u64 0, .bool false, .bool false, .bool false, .bool false]
  have hb0 : Below w.heap.size w (w.alloc (.cells #[.int .u64 0, .bool false, .bool false, .bool false, .bool false] 97)) := (Below.refl _ _).alloc (Nat.le_refl _) _
  obtain ⟨c, hc⟩ : ∃ c, c = w.heap.size := ⟨_, rfl⟩
  have HCW : Hid (w.heap.size ≤ c) := Lib.hid (Nat.le_of_eq hc.symm)
  have HPK0 := Lib.hid (HPK.out _ hb0)
  have HB0 := Lib.hid hb0
  have HNC : Hid (¬ Z c) := Lib.hid (fun h => by have := MZ.z (show MZ Z R w g M from HM.out) c h; omega)
  generalize w.alloc (.cells #[.int .u64 0, .bool false, .bool false, .bool false, .bool false] 97) = w1 at *
  rw [← hc] at hra0 ⊢
  have HRA := Lib.hid hra0
  clear hra0 hb0 hc HPK
  go_upto_region 2 with (go_at_call 123; refine HPK0.out.mono ?_; rintro e w2 ⟨rfl, hm2, hc2⟩; have HM2 := Lib.hid hm2; have HC2 := Lib.hid hc2; have HRA2 := Lib.hid (hc2.row HRA.out HNC.out); clear hm2 hc2 HRA HPK0)
  have HQ2 : Hid (QuS (SMach g) Z R w M (E.2 ≠ 42) w2) := Lib.hid (by
    obtain ⟨s, h1, h0, h2⟩ := stray_sM M F
    have h3 := HM2.out
    rw [h2] at h3
    have hq : E.2 ≠ 42 → F = none := fun h => by
      cases F with
      | none => rfl
      | some q =>
        exfalso
        apply h
        rw [HE.out, entM, ← HAE.out, HRD.out.1.2 ⟨q, HF.out.symm⟩]
    exact ⟨s, h1, fun h => h0 (hq h), h3, (ChgP.of_below (Z := Z) HB0.out).trans HC2.out (fun x hx => .inl hx)⟩)
  have hrf := Row.new w2 57 [.int .i64 (fno F : Nat), .int .u64 (F.getD 0 : Nat)]
  have HQ3 := Lib.hid (HQ2.out.below (smach_i g) ((Below.refl _ _).alloc (Nat.le_refl _) (.cells #[.int .i64 (fno F : Nat), .int .u64 (F.getD 0 : Nat)] 57)))
  have HRA3 := Lib.hid (HRA2.out.alloc (.cells #[.int .i64 (fno F : Nat), .int .u64 (F.getD 0 : Nat)] 57))
  obtain ⟨cf, hcf⟩ : ∃ cf, cf = w2.heap.size := ⟨_, rfl⟩
  generalize w2.alloc (.cells #[.int .i64 (fno F : Nat), .int .u64 (F.getD 0 : Nat)] 57) = w3 at *
  rw [← hcf] at hrf ⊢
  have f0 := hrf.cell 0
  have lf := hrf.lt
  simp only [List.getElem?_cons_zero, List.getElem?_cons_succ] at f0
  have q0 := HRA3.out.cell 0
  have q1 := HRA3.out.cell 1
  have q2 := HRA3.out.cell 2
  have q3 := HRA3.out.cell 3
  have q4 := HRA3.out.cell 4
  have la := HRA3.out.lt
  have y0 := HRA3.out.frozen 0
  have y1 := HRA3.out.frozen 1
  have y2 := HRA3.out.frozen 2
  have y3 := HRA3.out.frozen 3
  have y4 := HRA3.out.frozen 4
  simp only [List.getElem?_cons_zero, List.getElem?_cons_succ] at q0 q1 q2 q3 q4
  clear hrf hcf HM2 HC2 HRA2 HQ2
  cases F with
  | some q =>
    have hE : E = (Ent.zero, 42) := by
      rw [HE.out, entM, ← HAE.out, HRD.out.1.2 ⟨q, HF.out.symm⟩]
    subst hE
    simp only [fno] at f0
    go_upto_region 3 with fail
    have hrz := ((((HRA3.out.set_ 0 (.int .u64 0)).set_ 1 (.bool false)).set_ 2 (.bool false)).set_ 3 (.bool false)).set_ 4 (.bool false)
    have z0 := hrz.cell 0
    have z1 := hrz.cell 1
    have z2 := hrz.cell 2
    have z3 := hrz.cell 3
    have z4 := hrz.cell 4
    simp only [List.set_cons_zero, List.set_cons_succ, List.getElem?_cons_zero, List.getElem?_cons_succ] at z0 z1 z2 z3 z4
    have HZ0 := Lib.hid z0; have HZ1 := Lib.hid z1; have HZ2 := Lib.hid z2; have HZ3 := Lib.hid z3; have HZ4 := Lib.hid z4
    clear hrz z0 z1 z2 z3 z4
    go_wp2_with fail
    refine bodyPost_ret (v := .tuple #[eVal Ent.zero, .int .i64 42]) (by simp [results, Tryz.results60, go_sem, eVal, Ent.zero, HZ0.out, HZ1.out, HZ2.out, HZ3.out, HZ4.out]) rfl ⟨rfl, (HQ3.out.imp (q' := False) (fun h => h.elim)).chg (smach_i g) (Y := fun k => k = c) ?_ (show MZ Z R w g M from HM.out) (fun k hk => by rw [show k = c from hk]; exact HCW.out)⟩
    exact (((((ChgP.refl (fun k => k = c) w3).set_ (p := ⟨c, 0, none⟩) (.inl rfl) _).set_ (p := ⟨c, 1, none⟩) (.inl rfl) _).set_ (p := ⟨c, 2, none⟩) (.inl rfl) _).set_ (p := ⟨c, 3, none⟩) (.inl rfl) _).set_ (p := ⟨c, 4, none⟩) (.inl rfl) _
  | none =>
    have hP64 : P < 18446744073709551616 := by
      rw [HP.out, ← HF.out]
      exact numB_lt (MZ.byteM (show MZ Z R w g M from HM.out)) a 8
    have hE : E = Ent.say P lv := by
      have h1 : rdM M a = some P := by
        cases h : rdM M a with
        | none => obtain ⟨q, hq⟩ := HRD.out.1.1 h; rw [← HF.out] at hq; cases hq
        | some e => rw [(HRD.out.2 e h).2, HP.out, ← HF.out]; rfl
      rw [HE.out, entM, ← HAE.out, h1]
    have HPC := Lib.hid (entry_any P lv w3 hP64 hl)
    rw [← hE] at HPC
    obtain ⟨⟨F0, t0, b0, v0, x0⟩, n0⟩ := E
    unfold eVal at HPC
    simp only at HPC
    simp only [fno] at f0
    clear hE hP64 HE HRD
    go_upto_region 4 with fail
    go_wp2_with (go_at_call 80; refine HPC.out.mono ?_; rintro en w4 ⟨rfl, hb4⟩; have HB4 := Lib.hid hb4; have HRA4 := Lib.hid (HRA3.out.below hb4 HRA3.out.lt); clear hb4; have r0 := HRA4.out.cell 0; have r1 := HRA4.out.cell 1; have r2 := HRA4.out.cell 2; have r3 := HRA4.out.cell 3; have r4 := HRA4.out.cell 4; have lb := HRA4.out.lt; have s0 := HRA4.out.frozen 0; have s1 := HRA4.out.frozen 1; have s2 := HRA4.out.frozen 2; have s3 := HRA4.out.frozen 3; have s4 := HRA4.out.frozen 4; simp only [List.getElem?_cons_zero, List.getElem?_cons_succ] at r0 r1 r2 r3 r4)
    have hrz := ((((HRA4.out.set_ 0 (.int .u64 (F0 : Nat))).set_ 1 (.bool t0)).set_ 2 (.bool b0)).set_ 3 (.bool v0)).set_ 4 (.bool x0)
    have z0 := hrz.cell 0
    have z1 := hrz.cell 1
    have z2 := hrz.cell 2
    have z3 := hrz.cell 3
    have z4 := hrz.cell 4
    simp only [List.set_cons_zero, List.set_cons_succ, List.getElem?_cons_zero, List.getElem?_cons_succ] at z0 z1 z2 z3 z4
    refine bodyPost_ret (v := .tuple #[eVal ⟨F0, t0, b0, v0, x0⟩, .int .i64 (n0 : Nat)]) (by simp [results, Tryz.results60, go_sem, eVal, z0, z1, z2, z3, z4]) rfl ⟨rfl, (HQ3.out.below (smach_i g) HB4.out).chg (smach_i g) (Y := fun k => k = c) ?_ (show MZ Z R w g M from HM.out) (fun k hk => by rw [show k = c from hk]; exact HCW.out)⟩
    exact (((((ChgP.refl (fun k => k = c) w4).set_ (p := ⟨c, 0, none⟩) (.inl rfl) _).set_ (p := ⟨c, 1, none⟩) (.inl rfl) _).set_ (p := ⟨c, 2, none⟩) (.inl rfl) _).set_ (p := ⟨c, 3, none⟩) (.inl rfl) _).set_ (p := ⟨c, 4, none⟩) (.inl rfl) _
end Bu
end Go.Proofs.YtfpofaniicegaaaGreat
