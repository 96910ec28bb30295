/- Texts of this claim, one behind the other: EntryA, EntryB, Entry, Mapx, Make. -/
import Derived.Test.YtblfagmoilhdnaaJPagesTold15
import Derived.Test.YtblfagmoilhdnaaJPagesTold1
import Derived.BigGuardPart
import Derived.WalkKit
import Derived.Laws.IdiomRangeMap
import Derived.Deep.Draws
import Derived.Deep.LoopGhost
/- The walks of walk.Entry and bulkheadref4.Entry: both tell what the plain law's 'say' tells, whatever the entry and the level. -/
set_option linter.unusedVariables false
set_option linter.unusedSimpArgs false
namespace Go.Proofs.Ytblfagmoilhdnaa
open Go.RowKit
open Ent (E)

def eVal (y : E) : Value := .agg #[.int .u64 (y.F : Nat), .bool y.t, .bool y.b, .bool y.w, .bool y.x]
/-- what the walk's tests are told of an entry: its bits, its frame, whether anything else stands in it -/
structure Facts (e F r : Nat) (w x b : Bool) : Prop where
  hF : bits .and .u64 (e : Int) 4294963200 = (F : Int)
  hw : (bits .and .u64 (e : Int) 2 != 0) = w
  hx : (bits .and .u64 (e : Int) 4 != 0) = x
  hb : (bits .and .u64 (e : Int) 8 != 0) = b
  hr : bits .andNot .u64 (e : Int) 4294963215 = (r : Int)
  lt : F < 4294967296
theorem facts (e : Nat) (h : e < 18446744073709551616) : ∃ r, Facts e (Ent.frame e) r (Ent.bit e 2) (Ent.bit e 4) (Ent.bit e 8) ∧ (r = 0 ↔ e = Ent.frame e + e % 16) ∧ bits .and .u64 (e : Int) 1 = ((e % 2 : Nat) : Int) := by
  have b2 : ∀ k : Nat, k < 18446744073709551616 → bits .and .u64 (e : Int) (k : Int) = ((e &&& k : Nat) : Int) := fun k hk => u64_and_nat e k h hk
  refine ⟨e &&& (18446744073709551615 - 4294963215), ⟨?_, ?_, ?_, ?_, ?_, Ent.frame_lt e⟩, Ent.rest_zero e h, ?_⟩
  · rw [← Ent.and_frame]; exact b2 4294963200 (by decide)
  · rw [show bits .and .u64 (e : Int) 2 = ((e &&& 2 : Nat) : Int) from b2 2 (by decide), Ent.and2]
    unfold Ent.bit
    rcases Nat.mod_two_eq_zero_or_one (e / 2) with h | h <;> simp [h]
  · rw [show bits .and .u64 (e : Int) 4 = ((e &&& 4 : Nat) : Int) from b2 4 (by decide), Ent.and4]
    unfold Ent.bit
    rcases Nat.mod_two_eq_zero_or_one (e / 4) with h | h <;> simp [h]
  · rw [show bits .and .u64 (e : Int) 8 = ((e &&& 8 : Nat) : Int) from b2 8 (by decide), Ent.and8]
    unfold Ent.bit
    rcases Nat.mod_two_eq_zero_or_one (e / 8) with h | h <;> simp [h]
  · exact u64_andNot_nat e 4294963215 h (by decide)
  · have := b2 1 (by decide)
    rw [Nat.and_one_is_mod] at this
    exact this

/-- what is told of an entry whose bits are these, at a level that is there; mis: the frame is no great page's -/
def out (F lv : Nat) (w x b mis : Bool) : E × Nat := if (b && (decide (lv ≠ 1) || mis)) || (decide (lv < 2) && !b && (w || x)) then (Ent.zero, 42) else (⟨F, decide (lv < 2) && !b, b, w, x⟩, 0)

set_option maxRecDepth 100000 in
set_option maxHeartbeats 4000000 in
theorem ent_0 (e F r : Nat) (w x b mis : Bool) (W : World) (hf : Facts e F r w x b) (h1 : bits .and .u64 (e : Int) 1 = 1) (hr0 : r = 0) (hm : ((F : Int) % 2097152 != 0) = mis) (y : E) (n : Nat) (ho : Hid (out F 0 w x b mis = (y, n))) :
    Calls Try.prog 54 #[.int .u64 (e : Nat), .int .i64 0] W fun en w' => en = .returned (.tuple #[eVal y, .int .i64 (n : Nat)]) ∧ Below W.heap.size W w' := by
  obtain ⟨hF, hw, hx, hb, hr, hlt⟩ := hf
  subst hr0
  cases b
  · cases w
    · cases x
      all_goals
        have h := ho.out
        simp [out] at h
        obtain ⟨rfl, rfl⟩ := h
        clear ho
        go_enter Try.func54, Try.ntmps54
        go_wp2
        exact bodyPost_ret (v := .tuple #[eVal _, .int .i64 _]) (by simp [results, Try.results54, go_sem]; rfl) rfl ⟨rfl, ((Below.refl _ _).alloc (Nat.le_refl _) _).alloc (by simp) _⟩
    · skip
      have h := ho.out
      simp [out] at h
      obtain ⟨rfl, rfl⟩ := h
      clear ho
      go_enter Try.func54, Try.ntmps54
      go_wp2
      exact bodyPost_ret (v := .tuple #[eVal _, .int .i64 _]) (by simp [results, Try.results54, go_sem]; rfl) rfl ⟨rfl, ((Below.refl _ _).alloc (Nat.le_refl _) _).alloc (by simp) _⟩
  · skip
    have h := ho.out
    simp [out] at h
    obtain ⟨rfl, rfl⟩ := h
    clear ho
    go_enter Try.func54, Try.ntmps54
    go_wp2
    exact bodyPost_ret (v := .tuple #[eVal _, .int .i64 _]) (by simp [results, Try.results54, go_sem]; rfl) rfl ⟨rfl, ((Below.refl _ _).alloc (Nat.le_refl _) _).alloc (by simp) _⟩

set_option maxRecDepth 100000 in
set_option maxHeartbeats 4000000 in
theorem ent_1 (e F r : Nat) (w x b mis : Bool) (W : World) (hf : Facts e F r w x b) (h1 : bits .and .u64 (e : Int) 1 = 1) (hr0 : r = 0) (hm : ((F : Int) % 2097152 != 0) = mis) (y : E) (n : Nat) (ho : Hid (out F 1 w x b mis = (y, n))) :
    Calls Try.prog 54 #[.int .u64 (e : Nat), .int .i64 1] W fun en w' => en = .returned (.tuple #[eVal y, .int .i64 (n : Nat)]) ∧ Below W.heap.size W w' := by
  obtain ⟨hF, hw, hx, hb, hr, hlt⟩ := hf
  subst hr0
  cases b
  · cases w
    · cases x
      all_goals
        have h := ho.out
        simp [out] at h
        obtain ⟨rfl, rfl⟩ := h
        clear ho
        go_enter Try.func54, Try.ntmps54
        go_wp2
        exact bodyPost_ret (v := .tuple #[eVal _, .int .i64 _]) (by simp [results, Try.results54, go_sem]; rfl) rfl ⟨rfl, ((Below.refl _ _).alloc (Nat.le_refl _) _).alloc (by simp) _⟩
    · skip
      have h := ho.out
      simp [out] at h
      obtain ⟨rfl, rfl⟩ := h
      clear ho
      go_enter Try.func54, Try.ntmps54
      go_wp2
      exact bodyPost_ret (v := .tuple #[eVal _, .int .i64 _]) (by simp [results, Try.results54, go_sem]; rfl) rfl ⟨rfl, ((Below.refl _ _).alloc (Nat.le_refl _) _).alloc (by simp) _⟩
  · cases mis
    all_goals
      have h := ho.out
      simp [out] at h
      obtain ⟨rfl, rfl⟩ := h
      clear ho
      go_enter Try.func54, Try.ntmps54
      go_wp2
      exact bodyPost_ret (v := .tuple #[eVal _, .int .i64 _]) (by simp [results, Try.results54, go_sem]; rfl) rfl ⟨rfl, ((Below.refl _ _).alloc (Nat.le_refl _) _).alloc (by simp) _⟩

set_option maxRecDepth 100000 in
set_option maxHeartbeats 4000000 in
theorem ent_2 (e F r : Nat) (w x b mis : Bool) (W : World) (hf : Facts e F r w x b) (h1 : bits .and .u64 (e : Int) 1 = 1) (hr0 : r = 0) (hm : ((F : Int) % 2097152 != 0) = mis) (y : E) (n : Nat) (ho : Hid (out F 2 w x b mis = (y, n))) :
    Calls Try.prog 54 #[.int .u64 (e : Nat), .int .i64 2] W fun en w' => en = .returned (.tuple #[eVal y, .int .i64 (n : Nat)]) ∧ Below W.heap.size W w' := by
  obtain ⟨hF, hw, hx, hb, hr, hlt⟩ := hf
  subst hr0
  cases b
  · skip
    have h := ho.out
    simp [out] at h
    obtain ⟨rfl, rfl⟩ := h
    clear ho
    go_enter Try.func54, Try.ntmps54
    go_wp2
    exact bodyPost_ret (v := .tuple #[eVal _, .int .i64 _]) (by simp [results, Try.results54, go_sem]; rfl) rfl ⟨rfl, ((Below.refl _ _).alloc (Nat.le_refl _) _).alloc (by simp) _⟩
  · skip
    have h := ho.out
    simp [out] at h
    obtain ⟨rfl, rfl⟩ := h
    clear ho
    go_enter Try.func54, Try.ntmps54
    go_wp2
    exact bodyPost_ret (v := .tuple #[eVal _, .int .i64 _]) (by simp [results, Try.results54, go_sem]; rfl) rfl ⟨rfl, ((Below.refl _ _).alloc (Nat.le_refl _) _).alloc (by simp) _⟩

set_option maxRecDepth 100000 in
set_option maxHeartbeats 1000000 in
theorem entbad_0 (e F r : Nat) (w x b : Bool) (W : World) (hf : Facts e F r w x b) (h1 : bits .and .u64 (e : Int) 1 = 1) (hr0 : ((r : Int) != 0) = true) :
    Calls Try.prog 54 #[.int .u64 (e : Nat), .int .i64 0] W fun en w' => en = .returned (.tuple #[eVal Ent.zero, .int .i64 42]) ∧ Below W.heap.size W w' := by
  obtain ⟨hF, hw, hx, hb, hr, hlt⟩ := hf
  go_enter Try.func54, Try.ntmps54
  go_wp2
  exact bodyPost_ret (v := .tuple #[eVal _, .int .i64 _]) (by simp [results, Try.results54, go_sem]; rfl) rfl ⟨rfl, ((Below.refl _ _).alloc (Nat.le_refl _) _).alloc (by simp) _⟩

set_option maxRecDepth 100000 in
set_option maxHeartbeats 1000000 in
theorem entbad_1 (e F r : Nat) (w x b : Bool) (W : World) (hf : Facts e F r w x b) (h1 : bits .and .u64 (e : Int) 1 = 1) (hr0 : ((r : Int) != 0) = true) :
    Calls Try.prog 54 #[.int .u64 (e : Nat), .int .i64 1] W fun en w' => en = .returned (.tuple #[eVal Ent.zero, .int .i64 42]) ∧ Below W.heap.size W w' := by
  obtain ⟨hF, hw, hx, hb, hr, hlt⟩ := hf
  go_enter Try.func54, Try.ntmps54
  go_wp2
  exact bodyPost_ret (v := .tuple #[eVal _, .int .i64 _]) (by simp [results, Try.results54, go_sem]; rfl) rfl ⟨rfl, ((Below.refl _ _).alloc (Nat.le_refl _) _).alloc (by simp) _⟩

set_option maxRecDepth 100000 in
set_option maxHeartbeats 1000000 in
theorem entbad_2 (e F r : Nat) (w x b : Bool) (W : World) (hf : Facts e F r w x b) (h1 : bits .and .u64 (e : Int) 1 = 1) (hr0 : ((r : Int) != 0) = true) :
    Calls Try.prog 54 #[.int .u64 (e : Nat), .int .i64 2] W fun en w' => en = .returned (.tuple #[eVal Ent.zero, .int .i64 42]) ∧ Below W.heap.size W w' := by
  obtain ⟨hF, hw, hx, hb, hr, hlt⟩ := hf
  go_enter Try.func54, Try.ntmps54
  go_wp2
  exact bodyPost_ret (v := .tuple #[eVal _, .int .i64 _]) (by simp [results, Try.results54, go_sem]; rfl) rfl ⟨rfl, ((Below.refl _ _).alloc (Nat.le_refl _) _).alloc (by simp) _⟩

set_option maxRecDepth 100000 in
set_option maxHeartbeats 1000000 in
theorem entabsent (e : Nat) (lv : Int) (W : World) (h1 : bits .and .u64 (e : Int) 1 = 0) (hl : 0 ≤ lv) (hl2 : lv < 3) :
    Calls Try.prog 54 #[.int .u64 (e : Nat), .int .i64 lv] W fun en w' => en = .returned (.tuple #[eVal Ent.zero, .int .i64 41]) ∧ Below W.heap.size W w' := by
  go_enter Try.func54, Try.ntmps54
  go_wp2
  exact bodyPost_ret (v := .tuple #[eVal _, .int .i64 _]) (by simp [results, Try.results54, go_sem]; rfl) rfl ⟨rfl, ((Below.refl _ _).alloc (Nat.le_refl _) _)⟩
set_option maxRecDepth 100000 in
set_option maxHeartbeats 1000000 in
theorem entnone (e : Nat) (lv : Int) (W : World) (hl : lv < 0 ∨ 2 < lv) :
    Calls Try.prog 54 #[.int .u64 (e : Nat), .int .i64 lv] W fun en w' => en = .returned (.tuple #[eVal Ent.zero, .int .i64 1]) ∧ Below W.heap.size W w' := by
  rcases hl with hl | hl
  · go_enter Try.func54, Try.ntmps54
    go_wp2
    exact bodyPost_ret (v := .tuple #[eVal _, .int .i64 _]) (by simp [results, Try.results54, go_sem]; rfl) rfl ⟨rfl, ((Below.refl _ _).alloc (Nat.le_refl _) _)⟩
  · have hl' : ¬ lv < 0 := by omega
    go_enter Try.func54, Try.ntmps54
    go_wp2
    exact bodyPost_ret (v := .tuple #[eVal _, .int .i64 _]) (by simp [results, Try.results54, go_sem]; rfl) rfl ⟨rfl, ((Below.refl _ _).alloc (Nat.le_refl _) _)⟩

end Go.Proofs.Ytblfagmoilhdnaa

/- The walk of bulkheadref4.Entry, by the entry's bits and the level. -/
set_option linter.unusedVariables false
set_option linter.unusedSimpArgs false
namespace Go.Proofs.Ytblfagmoilhdnaa
open Go.RowKit
open Ent (E)

structure FactsR (e F : Nat) (w x b bad : Bool) : Prop where
  hF : (e : Int) / 4096 % 1048576 * 4096 = (F : Int)
  hw : ((e : Int) / 2 % 2 == 1) = w
  hx : ((e : Int) / 4 % 2 == 1) = x
  hb : ((e : Int) / 8 % 2 == 1) = b
  hr : ((e : Int) != (F : Int) + (e : Int) % 16) = bad
  lt : F < 4294967296
  le : e < 18446744073709551616
theorem factsR (e : Nat) (h : e < 18446744073709551616) : FactsR e (Ent.frame e) (Ent.bit e 2) (Ent.bit e 4) (Ent.bit e 8) (decide (e ≠ Ent.frame e + e % 16)) := by
  refine ⟨by unfold Ent.frame; omega, ?_, ?_, ?_, ?_, Ent.frame_lt e, h⟩
  · unfold Ent.bit; rw [Bool.eq_iff_iff]; simp; omega
  · unfold Ent.bit; rw [Bool.eq_iff_iff]; simp; omega
  · unfold Ent.bit; rw [Bool.eq_iff_iff]; simp; omega
  · rw [Bool.eq_iff_iff]; simp; omega

end Go.Proofs.Ytblfagmoilhdnaa

/- walk.Entry and bulkheadref4.Entry at every level: both tell what the plain law's 'say' tells. -/
set_option linter.unusedVariables false
set_option linter.unusedSimpArgs false
namespace Go.Proofs.Ytblfagmoilhdnaa
open Go.RowKit
open Ent (E)
theorem out_say (e lv : Nat) (hp : e % 2 = 1) (hr : e = Ent.frame e + e % 16) (mis : Bool) (hm : mis = decide (Ent.frame e % 2097152 ≠ 0)) : out (Ent.frame e) lv (Ent.bit e 2) (Ent.bit e 4) (Ent.bit e 8) mis = Ent.say e lv := by
  subst hm
  unfold Ent.say out Ent.wrong
  rw [if_neg (show ¬ e % 2 = 0 by omega), if_neg (show ¬ e ≠ Ent.frame e + e % 16 from not_not_intro hr)]
theorem say_absent (e lv : Nat) (hp : e % 2 = 0) : Ent.say e lv = (Ent.zero, 41) := by unfold Ent.say; rw [if_pos hp]
theorem say_bad (e lv : Nat) (hp : e % 2 = 1) (hr : e ≠ Ent.frame e + e % 16) : Ent.say e lv = (Ent.zero, 42) := by unfold Ent.say; rw [if_neg (by omega), if_pos hr]
/-- walk.Entry, at a level that is there -/
theorem entry_any (e lv : Nat) (W : World) (he : e < 18446744073709551616) (hl : lv < 3) :
    Calls Try.prog 54 #[.int .u64 (e : Nat), .int .i64 (lv : Nat)] W fun en w' => en = .returned (.tuple #[eVal (Ent.say e lv).1, .int .i64 ((Ent.say e lv).2 : Nat)]) ∧ Below W.heap.size W w' := by
  obtain ⟨r, hf, hr, h1⟩ := facts e he
  rcases Nat.mod_two_eq_zero_or_one e with hp | hp
  · rw [say_absent e lv hp]
    exact entabsent e lv W (by rw [h1, hp]; rfl) (by omega) (by omega)
  · rw [hp] at h1
    by_cases hr0 : r = 0
    · have ho := out_say e lv hp (hr.1 hr0) ((Ent.frame e : Int) % 2097152 != 0) (by rw [Bool.eq_iff_iff]; simp; omega)
      match lv, hl with
      | 0, _ => exact ent_0 e _ r _ _ _ _ W hf h1 hr0 rfl _ _ (Lib.hid (by rw [ho]))
      | 1, _ => exact ent_1 e _ r _ _ _ _ W hf h1 hr0 rfl _ _ (Lib.hid (by rw [ho]))
      | 2, _ => exact ent_2 e _ r _ _ _ _ W hf h1 hr0 rfl _ _ (Lib.hid (by rw [ho]))
    · rw [say_bad e lv hp (fun h => hr0 (hr.2 h))]
      have hr1 : ((r : Int) != 0) = true := by rw [bne_iff_ne]; omega
      match lv, hl with
      | 0, _ => exact entbad_0 e _ r _ _ _ W hf h1 hr1
      | 1, _ => exact entbad_1 e _ r _ _ _ W hf h1 hr1
      | 2, _ => exact entbad_2 e _ r _ _ _ W hf h1 hr1
end Go.Proofs.Ytblfagmoilhdnaa

/- Small laws on a map that the call itself makes out of a few integer keys, and on ranging over it in whatever order: the world behind a step is written out, draws and all. -/
set_option linter.unusedVariables false
set_option linter.unusedSimpArgs false
namespace Go.Proofs.Ytblfagmoilhdnaa
open Go.RowKit

/-- a store of a new integer key into the map that is the last block -/
theorem run_insert_new {P : Program} (w : World) (mt k e : TypeId) (kd : IntKind) (n : Int) (v : Value) (es : Array MapEntry) (c b : Nat) (hmt : P.underlying mt = some (.map k e)) (hk : P.underlying k = some (.int kd))
    (hn : ∀ x ∈ es.toList, ∃ m : Int, x.key = .int kd m ∧ m ≠ n) (hb : b = w.heap.size) :
    (Instr.mapUpdate mt (.map (some b)) (.int kd n) v).run P (w.alloc (.map es c)) = .ok () (w.alloc (.map (es.push { key := .int kd n, val := v, born := c }) (c + 1))) := by
  subst hb
  have hf : ∀ (l : List MapEntry) (i : Nat), (∀ x ∈ l, ∃ m : Int, x.key = .int kd m ∧ m ≠ n) → Instr.findNow (.int kd) (.int kd n) l i = some none := by
    intro l
    induction l with
    | nil => intro i _; rfl
    | cons x l ih =>
      intro i h
      obtain ⟨m, hm, hne⟩ := h x (by simp)
      simp only [Instr.findNow, hm]
      have : Instr.sameNow (.int kd) (.int kd n) (.int kd m) = some false := by
        simp [Instr.sameNow]
        omega
      rw [this]
      exact ih (i + 1) (fun y hy => h y (by simp [hy]))
  have hset : ∀ o' : Obj, (setObj w.heap.size o').run P (w.alloc (.map es c)) = .ok () (w.alloc o') := fun o' => by
    simp only [setObj, Sem.run]
    rw [heap_alloc_new]
    show Result.ok () ({ w.alloc (.map es c) with heap := (w.heap.push (.map es c)).setIfInBounds w.heap.size o' } : World) = _
    have : (w.heap.push (.map es c)).setIfInBounds w.heap.size o' = w.heap.push o' := by
      apply Array.toList_inj.1; simp
    rw [this]; rfl
  simp only [Instr.mapUpdate, Sem.run_bind, run_underlying hmt, Result.andThen, getObj, Sem.run, heap_alloc_new]
  have hck : (Instr.checkKey false 10000 k (.int kd n)).run P (w.alloc (.map es c)) = .ok () (w.alloc (.map es c)) := by
    exact MapKept.run_checkKey hk (by trivial) false 9999
  have hfk : (Instr.findKey k (.int kd n) es.toList).run P (w.alloc (.map es c)) = .ok none (w.alloc (.map es c)) := by
    exact MapKept.run_findKey hk (hf es.toList 0 hn)
  rw [hck]
  simp only [Result.andThen, hfk, hset]

/-- 'next' over a map that stands as it did: nothing is left, or one entry that is left, whichever, comes out; the world may have been drawn from, once -/
theorem run_next_drew {P : Program} (w : World) (ty : TypeId) (bm since c0 r : Nat) (seen : Array Nat) (es : Array MapEntry) (clock : Nat) (hr : r = w.heap.size) (hb : w.heap[bm]? = some (.map es clock)) (hold : ∀ x ∈ es.toList, x.born < since) (hsc : since ≤ c0) :
    ((leftOf es seen).size = 0 ∧ (Instr.next (.pointer (some ⟨r, 0, none⟩)) false ty).run P (w.alloc (.mapIter (some bm) since seen c0)) = .ok (.tuple #[.bool false]) (w.alloc (.mapIter (some bm) since seen c0))) ∨
    ∃ e ∈ (leftOf es seen).toList, ∃ n : Nat, (Instr.next (.pointer (some ⟨r, 0, none⟩)) false ty).run P (w.alloc (.mapIter (some bm) since seen c0)) = .ok (.tuple #[.bool true, e.key, e.val]) ((w.drewN n).alloc (.mapIter (some bm) since (seen.push e.born) clock)) := by
  subst hr
  have hlt : bm < w.heap.size := by
    rcases Nat.lt_or_ge bm w.heap.size with h | h
    · exact h
    · simp [Array.getElem?_eq_none h] at hb
  have hb' : (w.alloc (.mapIter (some bm) since seen c0)).heap[bm]? = some (.map es clock) := by rw [heap_alloc_old w _ hlt, hb]
  simp only [Instr.next, getObj, Sem.run_bind, Sem.run, heap_alloc_new, hb', Result.andThen, next_test_false seen es since c0 hold hsc, Bool.false_eq_true, if_false]
  unfold leftOf
  have hmem : ∀ x ∈ (Array.filter (fun e => !seen.contains e.born) es).toList, x.born < since := fun x hx => hold x (by simp at hx ⊢; exact hx.1)
  generalize Array.filter (fun e => !seen.contains e.born) es = L at hmem ⊢
  have e1 : L.filter (fun x => decide (x.born < since)) = L := Array.filter_eq_self.2 (fun x hx => by simpa using hmem x (by simpa using hx))
  have e2 : L.filter (fun x => decide (x.born ≥ since)) = #[] := by
    rw [Array.filter_eq_empty_iff]
    intro x hx
    have := hmem x (by simpa using hx)
    simp
    omega
  simp only [e1, e2, Array.append_empty]
  by_cases h0 : L.size = 0
  · left
    obtain rfl : L = #[] := Array.eq_empty_of_size_eq_zero h0
    refine ⟨rfl, ?_⟩
    simp [choose, Sem.run, Question.forced]
  · right
    have hne : L.isEmpty = false := by simp [Array.isEmpty, h0]
    simp only [hne, Bool.false_eq_true, if_false, Array.empty_append, Array.size_map]
    have hch : ∃ (j : Nat) (n : Nat), j < L.size ∧ (choose (Question.mapNext L.size)).run P (w.alloc (.mapIter (some bm) since seen c0)) = .ok j ((w.drewN n).alloc (.mapIter (some bm) since seen c0)) := by
      by_cases hf : L.size ≤ 1
      · exact ⟨0, 0, by omega, by simp [choose, Sem.run, Question.forced, hf]; rfl⟩
      · exact ⟨_, 1, Nat.mod_lt _ (by omega), by
          simp only [choose, Sem.run, Question.forced, decide_eq_true_eq, hf, if_false, Question.cut]
          rfl⟩
    obtain ⟨j, n, hj, hrun⟩ := hch
    refine ⟨L[j], by simp, n, ?_⟩
    have hp : ∀ (h : Array Obj) (x y : Obj), (h.push x).setIfInBounds h.size y = h.push y := by
      intro h x y
      apply Array.toList_inj.1
      simp
    have hset : ∀ (a : Option Nat) (b : Nat) (c : Array Nat) (d : Nat) (o' : Obj), (setObj w.heap.size o').run P ((w.drewN n).alloc (.mapIter a b c d)) = .ok () ((w.drewN n).alloc o') := fun a b c d o' => by
      simp only [setObj, Sem.run]
      have h1 : ((w.drewN n).alloc (.mapIter a b c d)).heap[w.heap.size]? = some (.mapIter a b c d) := heap_alloc_new (w.drewN n) _
      rw [h1]
      show Result.ok () ({ (w.drewN n).alloc (.mapIter a b c d) with heap := ((w.drewN n).heap.push (.mapIter a b c d)).setIfInBounds (w.drewN n).heap.size o' } : World) = _
      rw [hp]
      rfl
    simp only [hrun, Array.getElem?_map, Array.getElem?_eq_getElem hj, Option.map_some, Sem.run_bind, hset, Result.andThen]
    rfl
end Go.Proofs.Ytblfagmoilhdnaa

/- The walks of walk.Make and bulkheadref4.Make: both tell what the plain law's 'make' tells. -/
set_option linter.unusedVariables false
set_option linter.unusedSimpArgs false
namespace Go.Proofs.Ytblfagmoilhdnaa
open Go.RowKit
open Ent (E)

def ent3 (w x b : Bool) : Array MapEntry := #[{ key := .int .u64 2, val := .bool w, born := 0 }, { key := .int .u64 4, val := .bool x, born := 1 }, { key := .int .u64 8, val := .bool b, born := 2 }]
/-- what has been put together when the entries with these stamps have come -/
def acc (F : Nat) (w x b s0 s1 s2 : Bool) : Nat := (((F ||| 1) ||| (if s0 && w then 2 else 0)) ||| (if s1 && x then 4 else 0)) ||| (if s2 && b then 8 else 0)
theorem acc_all (y : E) : acc y.F y.w y.x y.b true true true = Ent.num y := by simp [acc, Ent.num]

theorem neqE (w : World) (z y : E) (c : Bool) (hc : decide (z ≠ y) = c) : (binOp .neq 100 (eVal z) (eVal y)).run Try.prog w = .ok (.bool c) w := by
  subst hc
  obtain ⟨F, t, b, v, x⟩ := z
  obtain ⟨F', t', b', v', x'⟩ := y
  unfold eVal
  go_simp
  by_cases h : F = F'
  · subst h
    cases t <;> cases t' <;> cases b <;> cases b' <;> cases v <;> cases v' <;> cases x <;> cases x' <;> simp
  · have h2 : ¬ (F : Int) = (F' : Int) := by omega
    rw [if_neg h2]; simp [h]
theorem eqlE (w : World) (z y : E) (c : Bool) (hc : decide (z = y) = c) : (binOp .eql 100 (eVal z) (eVal y)).run Try.prog w = .ok (.bool c) w := by
  subst hc
  obtain ⟨F, t, b, v, x⟩ := z
  obtain ⟨F', t', b', v', x'⟩ := y
  unfold eVal
  go_simp
  by_cases h : F = F'
  · subst h
    cases t <;> cases t' <;> cases b <;> cases b' <;> cases v <;> cases v' <;> cases x <;> cases x' <;> simp
  · have h2 : ¬ (F : Int) = (F' : Int) := by omega
    rw [if_neg h2]; simp [h]
theorem or_move (A p X Y : Nat) : ((A ||| p) ||| X) ||| Y = (((A ||| 0) ||| X) ||| Y) ||| p := by
  apply Nat.eq_of_testBit_eq
  intro i
  simp only [Nat.testBit_or, Nat.zero_testBit]
  cases A.testBit i <;> cases p.testBit i <;> cases X.testBit i <;> cases Y.testBit i <;> rfl
theorem or_move2 (A p Y : Nat) : (A ||| p) ||| Y = ((A ||| 0) ||| Y) ||| p := by
  apply Nat.eq_of_testBit_eq
  intro i
  simp only [Nat.testBit_or, Nat.zero_testBit]
  cases A.testBit i <;> cases p.testBit i <;> cases Y.testBit i <;> rfl
theorem acc_step0 (F : Nat) (w x b s1 s2 : Bool) : acc F w x b true s1 s2 = acc F w x b false s1 s2 ||| (if w then 2 else 0) := by
  cases w
  · simp [acc]
  · exact or_move (F ||| 1) 2 _ _
theorem acc_step1 (F : Nat) (w x b s0 s2 : Bool) : acc F w x b s0 true s2 = acc F w x b s0 false s2 ||| (if x then 4 else 0) := by
  cases x
  · simp [acc]
  · exact or_move2 ((F ||| 1) ||| _) 4 _
theorem acc_step2 (F : Nat) (w x b s0 s1 : Bool) : acc F w x b s0 s1 true = acc F w x b s0 s1 false ||| (if b then 8 else 0) := by
  cases b <;> simp [acc]
theorem acc_lt {F : Nat} (h : F < 18446744073709551616) (w x b s0 s1 s2 : Bool) : acc F w x b s0 s1 s2 < 18446744073709551616 := by
  unfold acc
  refine Nat.or_lt_two_pow (n := 64) (Nat.or_lt_two_pow (n := 64) (Nat.or_lt_two_pow (n := 64) (Nat.or_lt_two_pow (n := 64) h (by decide)) ?_) ?_) ?_ <;> split <;> decide
def accS (F : Nat) (w x b : Bool) (seen : Array Nat) : Nat := acc F w x b (seen.contains 0) (seen.contains 1) (seen.contains 2)
/-- what a round does, whichever entry has come -/
theorem acc_round {F : Nat} (h : F < 18446744073709551616) {w x b : Bool} {seen : Array Nat} {e : MapEntry} (he : e ∈ (leftOf (ent3 w x b) seen).toList) :
    ∃ (k : Nat) (on : Bool), e.key = .int .u64 (k : Int) ∧ e.val = .bool on ∧
      (on = true → bits .or .u64 ((accS F w x b seen : Nat) : Int) (k : Int) = ((accS F w x b (seen.push e.born) : Nat) : Int)) ∧
      (on = false → accS F w x b seen = accS F w x b (seen.push e.born)) := by
  unfold accS
  obtain ⟨hm, hs⟩ := mem_left he
  have hb (k : Nat) (hk : k < 18446744073709551616) := u64_or_nat (acc F w x b (seen.contains 0) (seen.contains 1) (seen.contains 2)) k (acc_lt h _ _ _ _ _ _) hk
  simp only [ent3, List.mem_cons, List.not_mem_nil, or_false] at hm
  rcases hm with rfl | rfl | rfl
  · refine ⟨2, w, rfl, rfl, fun hw => ?_, fun hw => ?_⟩
    · refine (hb 2 (by decide)).trans ?_
      have hs0 : seen.contains 0 = false := hs
      simp only [contains_push, hs0]
      subst hw
      have := acc_step0 F true x b (seen.contains 1) (seen.contains 2)
      simp at this ⊢
      rw [this]
    · have hs0 : seen.contains 0 = false := hs
      simp only [contains_push, hs0]
      subst hw
      simp [acc]
  · refine ⟨4, x, rfl, rfl, fun hw => ?_, fun hw => ?_⟩
    · refine (hb 4 (by decide)).trans ?_
      have hs0 : seen.contains 1 = false := hs
      simp only [contains_push, hs0]
      subst hw
      have := acc_step1 F w true b (seen.contains 0) (seen.contains 2)
      simp at this ⊢
      rw [this]
    · have hs0 : seen.contains 1 = false := hs
      simp only [contains_push, hs0]
      subst hw
      simp [acc]
  · refine ⟨8, b, rfl, rfl, fun hw => ?_, fun hw => ?_⟩
    · refine (hb 8 (by decide)).trans ?_
      have hs0 : seen.contains 2 = false := hs
      simp only [contains_push, hs0]
      subst hw
      have := acc_step2 F w x true (seen.contains 0) (seen.contains 1)
      simp at this ⊢
      rw [this]
    · have hs0 : seen.contains 2 = false := hs
      simp only [contains_push, hs0]
      subst hw
      simp [acc]
theorem acc_end {F : Nat} {w x b : Bool} {seen : Array Nat} (h : (leftOf (ent3 w x b) seen).size = 0) (t : Bool) : accS F w x b seen = Ent.num ⟨F, t, b, w, x⟩ := by
  unfold accS
  have ha := all_seen _ _ h
  have h0 := ha _ (show ({ key := .int .u64 2, val := .bool w, born := 0 } : MapEntry) ∈ (ent3 w x b).toList by simp [ent3])
  have h1 := ha _ (show ({ key := .int .u64 4, val := .bool x, born := 1 } : MapEntry) ∈ (ent3 w x b).toList by simp [ent3])
  have h2 := ha _ (show ({ key := .int .u64 8, val := .bool b, born := 2 } : MapEntry) ∈ (ent3 w x b).toList by simp [ent3])
  rw [h0, h1, h2]
  exact acc_all ⟨F, t, b, w, x⟩
theorem ent3_old (w x b : Bool) : ∀ e ∈ (ent3 w x b).toList, e.born < 3 := by
  intro e he
  simp only [ent3, List.mem_cons, List.not_mem_nil, or_false] at he
  rcases he with rfl | rfl | rfl
  · exact (show (0 : Nat) < 3 by decide)
  · exact (show (1 : Nat) < 3 by decide)
  · exact (show (2 : Nat) < 3 by decide)
theorem ent3_nodup (w x b : Bool) : ((ent3 w x b).toList.map (·.born)).Nodup := (show [0, 1, 2].Nodup by decide)
theorem ret2_of {a b : Nat} {p : Nat × Nat} (h : p = (a, b)) : Ending.returned (.tuple #[.int .u64 (a : Int), .int .i64 (b : Int)]) = .returned (.tuple #[.int .u64 (p.1 : Nat), .int .i64 (p.2 : Nat)]) := by subst h; rfl
abbrev boxE (y : E) : Obj := .cells #[.int .u64 (y.F : Nat), .bool y.t, .bool y.b, .bool y.w, .bool y.x] 100
theorem ins1 (W1 : World) (w : Bool) (n : Nat) (hn : n = W1.heap.size) : (Instr.mapUpdate 181 (.map (some n)) (.int .u64 2) (.bool w)).run Try.prog (W1.alloc (.map #[] 0)) = .ok () (W1.alloc (.map #[{ key := .int .u64 2, val := .bool w, born := 0 }] 1)) :=
  run_insert_new W1 _ 22 4 .u64 2 (.bool w) #[] 0 n Try.underlying181 Try.underlying22 (by simp) hn
theorem ins2 (W1 : World) (w x : Bool) (n : Nat) (hn : n = W1.heap.size) : (Instr.mapUpdate 181 (.map (some n)) (.int .u64 4) (.bool x)).run Try.prog (W1.alloc (.map #[{ key := .int .u64 2, val := .bool w, born := 0 }] 1)) = .ok () (W1.alloc (.map #[{ key := .int .u64 2, val := .bool w, born := 0 }, { key := .int .u64 4, val := .bool x, born := 1 }] 2)) :=
  run_insert_new W1 _ 22 4 .u64 4 (.bool x) _ 1 n Try.underlying181 Try.underlying22 (by simp) hn
theorem ins3 (W1 : World) (w x b : Bool) (n : Nat) (hn : n = W1.heap.size) : (Instr.mapUpdate 181 (.map (some n)) (.int .u64 8) (.bool b)).run Try.prog (W1.alloc (.map #[{ key := .int .u64 2, val := .bool w, born := 0 }, { key := .int .u64 4, val := .bool x, born := 1 }] 2)) = .ok () (W1.alloc (.map (ent3 w x b) 3)) :=
  run_insert_new W1 _ 22 4 .u64 8 (.bool b) _ 2 n Try.underlying181 Try.underlying22 (by simp) hn

set_option maxRecDepth 100000 in
set_option maxHeartbeats 1000000 in
theorem make_walk (y : E) (lv : Nat) (W : World) (hy : y.F < 18446744073709551616) (hl : lv < 3) :
    Calls Try.prog 86 #[eVal y, .int .i64 (lv : Nat)] W fun en w' => en = .returned (.tuple #[.int .u64 ((Ent.make y lv).1 : Nat), .int .i64 ((Ent.make y lv).2 : Nat)]) ∧ Below W.heap.size W w' := by
  obtain ⟨F, t, b, w, x⟩ := y
  unfold eVal
  have hmm := @run_makeMap Try.prog
  have hu1 := ins1 (W.alloc (boxE ⟨F, t, b, w, x⟩)) w (W.heap.size + 1) (by simp)
  have hu2 := ins2 (W.alloc (boxE ⟨F, t, b, w, x⟩)) w x (W.heap.size + 1) (by simp)
  have hu3 := ins3 (W.alloc (boxE ⟨F, t, b, w, x⟩)) w x b (W.heap.size + 1) (by simp)
  obtain ⟨es, hes⟩ : ∃ es, es = ent3 w x b := ⟨_, rfl⟩
  rw [← hes] at hu3
  have HES := Lib.hid hes; clear hes
  have hrg := run_range_map (P := Try.prog) ((W.alloc (boxE ⟨F, t, b, w, x⟩)).alloc (.map es 3)) 181 22 4 (W.heap.size + 1) es 3 Try.underlying181 (by have := heap_alloc_new (W.alloc (boxE ⟨F, t, b, w, x⟩)) (.map es 3); simpa using this)
  go_enter Try.func86, Try.ntmps86
  go_wp2_with fail
  clear hmm hu1 hu2 hu3 hrg
  go_loopg [6] 4 (fun k p wr => ∃ (m : Nat) (seen : Array Nat), (leftOf es seen).size < k ∧ wr = (((W.alloc (boxE ⟨F, t, b, w, x⟩)).alloc (.map es 3)).alloc (.mapIter (some (W.heap.size + 1)) 3 seen 3)).drewN m ∧ p = .int .u64 ((accS F w x b seen : Nat) : Int))
  case atStart => exact ⟨0, #[], by rw [HES.out]; simp [leftOf, ent3], rfl, by have := u64_or_nat F 1 hy (by decide); simp [accS, acc]; exact this⟩
  case round =>
    obtain ⟨m, seen, hlt, rfl, rfl⟩ := hrel
    have hbm : (((W.alloc (boxE ⟨F, t, b, w, x⟩)).alloc (.map es 3)).drewN m).heap[W.heap.size + 1]? = some (.map es 3) := by
      have := heap_alloc_new (W.alloc (boxE ⟨F, t, b, w, x⟩)) (.map es 3)
      simpa using this
    have law := run_next_drew (P := Try.prog) (((W.alloc (boxE ⟨F, t, b, w, x⟩)).alloc (.map es 3)).drewN m) 0 (W.heap.size + 1) 3 3 (W.heap.size + 1 + 1) seen es 3 (by simp) hbm (by rw [HES.out]; exact ent3_old w x b) (Nat.le_refl _)
    rcases law with ⟨h0, hrun⟩ | ⟨e, he, n, hrun⟩
    · have hnx : ∀ ty, (Instr.next (.pointer (some ⟨W.heap.size + 1 + 1, 0, none⟩)) false ty).run Try.prog ((((W.alloc (boxE ⟨F, t, b, w, x⟩)).alloc (.map es 3)).alloc (.mapIter (some (W.heap.size + 1)) 3 seen 3)).drewN m) = .ok (.tuple #[.bool false]) ((((W.alloc (boxE ⟨F, t, b, w, x⟩)).alloc (.map es 3)).alloc (.mapIter (some (W.heap.size + 1)) 3 seen 3)).drewN m) := fun _ => hrun
      rw [HES.out] at h0
      have hend := acc_end (F := F) h0 t
      rw [hend]
      have HEND := Lib.hid hend
      clear hrun hbm h0 hend
      go_wp2_with fail
      refine (entry_any _ lv _ (Ent.num_lt hy) hl).mono ?_
      rintro e w1 ⟨rfl, hb1⟩
      obtain ⟨⟨⟨F1, t1, b1, v1, x1⟩, n1⟩, hz⟩ : ∃ z, z = Ent.say (Ent.num ⟨F, t, b, w, x⟩) lv := ⟨_, rfl⟩
      rw [← hz]
      have HZ := Lib.hid hz
      have hrow : Row (((((W.alloc (boxE ⟨F, t, b, w, x⟩)).alloc (.map es 3)).alloc (.mapIter (some (W.heap.size + 1)) 3 seen 3)).drewN m)) W.heap.size 100 [.int .u64 (F : Nat), .bool t, .bool b, .bool w, .bool x] :=
        (((Row.new W 100 [.int .u64 (F : Nat), .bool t, .bool b, .bool w, .bool x]).alloc _).alloc _).drewN m
      have hrow1 := hrow.below hb1 hrow.lt
      have c0 := hrow1.cell 0
      have c1 := hrow1.cell 1
      have c2 := hrow1.cell 2
      have c3 := hrow1.cell 3
      have c4 := hrow1.cell 4
      have hsz1 := hrow1.lt
      simp only [List.getElem?_cons_zero, List.getElem?_cons_succ] at c0 c1 c2 c3 c4
      have hbase : Below W.heap.size W ((((W.alloc (boxE ⟨F, t, b, w, x⟩)).alloc (.map es 3)).alloc (.mapIter (some (W.heap.size + 1)) 3 seen 3)).drewN m) :=
        ⟨rfl, rfl, rfl, by simp; omega, fun k hk => by
          rw [show ((((W.alloc (boxE ⟨F, t, b, w, x⟩)).alloc (.map es 3)).alloc (.mapIter (some (W.heap.size + 1)) 3 seen 3)).drewN m).heap[k]? = (((W.alloc (boxE ⟨F, t, b, w, x⟩)).alloc (.map es 3)).alloc (.mapIter (some (W.heap.size + 1)) 3 seen 3)).heap[k]? from rfl, Below.heap_alloc _ _ _ (by simp; omega), Below.heap_alloc _ _ _ (by simp; omega), Below.heap_alloc _ _ _ (by omega)]⟩
      have HB1 := Lib.hid (hbase.trans (hb1.mono (hbase.size)))
      clear hrow hrow1 hb1 hz hbase
      unfold eVal
      have hfin : Ent.make ⟨F, t, b, w, x⟩ lv = if (⟨F1, t1, b1, v1, x1⟩, n1) = ((⟨F, t, b, w, x⟩ : E), 0) then (Ent.num ⟨F, t, b, w, x⟩, 0) else (0, 42) := by
        unfold Ent.make; rw [← HZ.out]
      have HFIN := Lib.hid hfin
      clear hfin
      by_cases hn : n1 = 0
      · have hn' : ((n1 : Int) != 0) = false := by simp [hn]
        by_cases he : (⟨F1, t1, b1, v1, x1⟩ : E) = ⟨F, t, b, w, x⟩
        · have hne := fun wx => neqE wx ⟨F1, t1, b1, v1, x1⟩ ⟨F, t, b, w, x⟩ false (by simp [he])
          unfold eVal at hne
          rw [if_pos (by rw [he, hn])] at HFIN
          clear hn he
          go_wp2_with fail
          go_ret2
          exact ⟨ret2_of HFIN.out, (HB1.out.alloc (by omega) _)⟩
        · have hne := fun wx => neqE wx ⟨F1, t1, b1, v1, x1⟩ ⟨F, t, b, w, x⟩ true (by simp [he])
          unfold eVal at hne
          rw [if_neg (fun h => he (Prod.mk.inj h).1)] at HFIN
          clear hn he
          go_wp2_with fail
          go_ret2
          exact ⟨ret2_of HFIN.out, (HB1.out.alloc (by omega) _)⟩
      · have hn' : ((n1 : Int) != 0) = true := by rw [bne_iff_ne]; omega
        rw [if_neg (fun h => hn (Prod.mk.inj h).2)] at HFIN
        clear hn
        go_wp2_with fail
        go_ret2
        exact ⟨ret2_of HFIN.out, HB1.out.alloc (by omega) _⟩
    · obtain ⟨k, on, hk, hv, hon, hoff⟩ := acc_round (w := w) (x := x) (b := b) hy (seen := seen) (e := e) (by rw [← HES.out]; exact he)
      have hnx : ∀ ty, (Instr.next (.pointer (some ⟨W.heap.size + 1 + 1, 0, none⟩)) false ty).run Try.prog ((((W.alloc (boxE ⟨F, t, b, w, x⟩)).alloc (.map es 3)).alloc (.mapIter (some (W.heap.size + 1)) 3 seen 3)).drewN m) = .ok (.tuple #[.bool true, .int .u64 (k : Int), .bool on]) ((((W.alloc (boxE ⟨F, t, b, w, x⟩)).alloc (.map es 3)).alloc (.mapIter (some (W.heap.size + 1)) 3 (seen.push e.born) 3)).drewN (m + n)) := fun _ => by
        rw [← hk, ← hv]; refine hrun.trans ?_; rw [World.drewN_drewN]; rfl
      have hen : (Instr.entry (.pointer (some ⟨W.heap.size + 1 + 1, 0, none⟩))).run Try.prog ((((W.alloc (boxE ⟨F, t, b, w, x⟩)).alloc (.map es 3)).alloc (.mapIter (some (W.heap.size + 1)) 3 (seen.push e.born) 3)).drewN (m + n)) = .ok (.tuple #[.int .u64 (k : Int), .bool on]) ((((W.alloc (boxE ⟨F, t, b, w, x⟩)).alloc (.map es 3)).alloc (.mapIter (some (W.heap.size + 1)) 3 (seen.push e.born) 3)).drewN (m + n)) := by
        have := run_entry_map (P := Try.prog) (((W.alloc (boxE ⟨F, t, b, w, x⟩)).alloc (.map es 3)).drewN (m + n)) (W.heap.size + 1) 3 seen es 3 e hbm (by rw [HES.out] at he ⊢; exact (mem_left he).1) (by rw [HES.out]; exact ent3_nodup w x b)
        rw [hk, hv, show (((W.alloc (boxE ⟨F, t, b, w, x⟩)).alloc (.map es 3)).drewN (m + n)).heap.size = W.heap.size + 1 + 1 by simp] at this
        exact this
      have hsh := left_shrinks es seen e he
      have HSH := Lib.hid (show (leftOf es (seen.push e.born)).size < gk - 1 by omega)
      clear hrun hbm hsh he hk hv
      obtain ⟨s', hs'⟩ : ∃ s', s' = seen.push e.born := ⟨_, rfl⟩
      rw [← hs'] at hnx hen HSH hon hoff
      clear hs'
      have HON := Lib.hid hon
      have HOFF := Lib.hid hoff
      clear hon hoff
      cases on
      · have HO := Lib.hid (HOFF.out rfl)
        clear HON HOFF
        go_wp2_with fail
        go_roundg (gk - 1)
        case measure => have := HSH.out; omega
        case rel => exact ⟨_, s', HSH.out, rfl, by rw [HO.out]⟩
      · have HO := Lib.hid (HON.out rfl)
        clear HON HOFF
        go_wp2_with fail
        go_roundg (gk - 1)
        case measure => have := HSH.out; omega
        case rel => exact ⟨_, s', HSH.out, rfl, by rw [HO.out]⟩

set_option maxRecDepth 100000 in
set_option maxHeartbeats 1000000 in
theorem make_none (y : E) (lv : Int) (W : World) (hl : lv < 0 ∨ 2 < lv) :
    Calls Try.prog 86 #[eVal y, .int .i64 lv] W fun en w' => en = .returned (.tuple #[.int .u64 0, .int .i64 1]) ∧ Below W.heap.size W w' := by
  obtain ⟨F, t, b, w, x⟩ := y
  unfold eVal
  rcases hl with hl | hl
  · go_enter Try.func86, Try.ntmps86
    go_wp2_with fail
    go_ret2
    exact ⟨rfl, (Below.refl _ _).alloc (Nat.le_refl _) _⟩
  · have hl' : ¬ lv < 0 := by omega
    go_enter Try.func86, Try.ntmps86
    go_wp2_with fail
    go_ret2
    exact ⟨rfl, (Below.refl _ _).alloc (Nat.le_refl _) _⟩
end Go.Proofs.Ytblfagmoilhdnaa
