/- Small laws on a map that the call itself makes out of a few integer keys, and on ranging over it in whatever order: the world behind a step is written out, draws and all. -/
import Derived.WalkKit
import Derived.Laws.IdiomRangeMap
import Derived.Deep.Draws
set_option linter.unusedVariables false
set_option linter.unusedSimpArgs false
namespace Go.Proofs.Ytblfagmoilhdnaa
open Go.RowKit

/-- a store of a new integer key into the map that is the last block -/
theorem run_insert_new {P : Program} (w : World) (mt k e : TypeId) (kd : IntKind) (n : Int) (v : Value) (es : Array MapEntry) (c b : Nat) (hmt : P.underlying mt = some (.map k e)) (hk : P.underlying k = some (.int kd))
    (hn : ∀ x ∈ es.toList, ∃ m : Int, x.key = .int kd m ∧ m ≠ n) (hb : b = w.heap.size) :
    (Instr.mapUpdate mt (.map (some b)) (.int kd n) v).run P (w.alloc (.map es c)) = .ok () (w.alloc (.map (es.push { key := .int kd n, val := v, born := c }) (c + 1))) := by
  subst hb
  have hf : ∀ (l : List MapEntry) (i : Nat), (∀ x ∈ l, ∃ m : Int, x.key = .int kd m ∧ m ≠ n) → Instr.findNow (.int kd) (.int kd n) l i = some none := by
    intro l
    induction l with
    | nil => intro i _; rfl
    | cons x l ih =>
      intro i h
      obtain ⟨m, hm, hne⟩ := h x (by simp)
      simp only [Instr.findNow, hm]
      have : Instr.sameNow (.int kd) (.int kd n) (.int kd m) = some false := by
        simp [Instr.sameNow]
        omega
      rw [this]
      exact ih (i + 1) (fun y hy => h y (by simp [hy]))
  have hset : ∀ o' : Obj, (setObj w.heap.size o').run P (w.alloc (.map es c)) = .ok () (w.alloc o') := fun o' => by
    simp only [setObj, Sem.run]
    rw [heap_alloc_new]
    show Result.ok () ({ w.alloc (.map es c) with heap := (w.heap.push (.map es c)).setIfInBounds w.heap.size o' } : World) = _
    have : (w.heap.push (.map es c)).setIfInBounds w.heap.size o' = w.heap.push o' := by
      apply Array.toList_inj.1; simp
    rw [this]; rfl
  simp only [Instr.mapUpdate, Sem.run_bind, run_underlying hmt, Result.andThen, getObj, Sem.run, heap_alloc_new]
  have hck : (Instr.checkKey false 10000 k (.int kd n)).run P (w.alloc (.map es c)) = .ok () (w.alloc (.map es c)) := by
    exact MapKept.run_checkKey hk (by trivial) false 9999
  have hfk : (Instr.findKey k (.int kd n) es.toList).run P (w.alloc (.map es c)) = .ok none (w.alloc (.map es c)) := by
    exact MapKept.run_findKey hk (hf es.toList 0 hn)
  rw [hck]
  simp only [Result.andThen, hfk, hset]

/-- 'next' over a map that stands as it did: nothing is left, or one entry that is left, whichever, comes out; the world may have been drawn from, once -/
theorem run_next_drew {P : Program} (w : World) (ty : TypeId) (bm since c0 r : Nat) (seen : Array Nat) (es : Array MapEntry) (clock : Nat) (hr : r = w.heap.size) (hb : w.heap[bm]? = some (.map es clock)) (hold : ∀ x ∈ es.toList, x.born < since) (hsc : since ≤ c0) :
    ((leftOf es seen).size = 0 ∧ (Instr.next (.pointer (some ⟨r, 0, none⟩)) false ty).run P (w.alloc (.mapIter (some bm) since seen c0)) = .ok (.tuple #[.bool false]) (w.alloc (.mapIter (some bm) since seen c0))) ∨
    ∃ e ∈ (leftOf es seen).toList, ∃ n : Nat, (Instr.next (.pointer (some ⟨r, 0, none⟩)) false ty).run P (w.alloc (.mapIter (some bm) since seen c0)) = .ok (.tuple #[.bool true, e.key, e.val]) ((w.drewN n).alloc (.mapIter (some bm) since (seen.push e.born) clock)) := by
  subst hr
  have hlt : bm < w.heap.size := by
    rcases Nat.lt_or_ge bm w.heap.size with h | h
    · exact h
    · simp [Array.getElem?_eq_none h] at hb
  have hb' : (w.alloc (.mapIter (some bm) since seen c0)).heap[bm]? = some (.map es clock) := by rw [heap_alloc_old w _ hlt, hb]
  simp only [Instr.next, getObj, Sem.run_bind, Sem.run, heap_alloc_new, hb', Result.andThen, next_test_false seen es since c0 hold hsc, Bool.false_eq_true, if_false]
  unfold leftOf
  have hmem : ∀ x ∈ (Array.filter (fun e => !seen.contains e.born) es).toList, x.born < since := fun x hx => hold x (by simp at hx ⊢; exact hx.1)
  generalize Array.filter (fun e => !seen.contains e.born) es = L at hmem ⊢
  have e1 : L.filter (fun x => decide (x.born < since)) = L := Array.filter_eq_self.2 (fun x hx => by simpa using hmem x (by simpa using hx))
  have e2 : L.filter (fun x => decide (x.born ≥ since)) = #[] := by
    rw [Array.filter_eq_empty_iff]
    intro x hx
    have := hmem x (by simpa using hx)
    simp
    omega
  simp only [e1, e2, Array.append_empty]
  by_cases h0 : L.size = 0
  · left
    obtain rfl : L = #[] := Array.eq_empty_of_size_eq_zero h0
    refine ⟨rfl, ?_⟩
    simp [choose, Sem.run, Question.forced]
  · right
    have hne : L.isEmpty = false := by simp [Array.isEmpty, h0]
    simp only [hne, Bool.false_eq_true, if_false, Array.empty_append, Array.size_map]
    have hch : ∃ (j : Nat) (n : Nat), j < L.size ∧ (choose (Question.mapNext L.size)).run P (w.alloc (.mapIter (some bm) since seen c0)) = .ok j ((w.drewN n).alloc (.mapIter (some bm) since seen c0)) := by
      by_cases hf : L.size ≤ 1
      · exact ⟨0, 0, by omega, by simp [choose, Sem.run, Question.forced, hf]; rfl⟩
      · exact ⟨_, 1, Nat.mod_lt _ (by omega), by
          simp only [choose, Sem.run, Question.forced, decide_eq_true_eq, hf, if_false, Question.cut]
          rfl⟩
    obtain ⟨j, n, hj, hrun⟩ := hch
    refine ⟨L[j], by simp, n, ?_⟩
    have hp : ∀ (h : Array Obj) (x y : Obj), (h.push x).setIfInBounds h.size y = h.push y := by
      intro h x y
      apply Array.toList_inj.1
      simp
    have hset : ∀ (a : Option Nat) (b : Nat) (c : Array Nat) (d : Nat) (o' : Obj), (setObj w.heap.size o').run P ((w.drewN n).alloc (.mapIter a b c d)) = .ok () ((w.drewN n).alloc o') := fun a b c d o' => by
      simp only [setObj, Sem.run]
      have h1 : ((w.drewN n).alloc (.mapIter a b c d)).heap[w.heap.size]? = some (.mapIter a b c d) := heap_alloc_new (w.drewN n) _
      rw [h1]
      show Result.ok () ({ (w.drewN n).alloc (.mapIter a b c d) with heap := ((w.drewN n).heap.push (.mapIter a b c d)).setIfInBounds (w.drewN n).heap.size o' } : World) = _
      rw [hp]
      rfl
    simp only [hrun, Array.getElem?_map, Array.getElem?_eq_getElem hj, Option.map_some, Sem.run_bind, hset, Result.andThen]
    rfl
end Go.Proofs.Ytblfagmoilhdnaa
