/- The walks of walk.Make and bulkheadref4.Make: both tell what the plain law's 'make' tells. -/
import Derived.Test.YtblfagmoilhdnaaEntry
import Derived.Test.YtblfagmoilhdnaaMapx
import Derived.Deep.LoopGhost
set_option linter.unusedVariables false
set_option linter.unusedSimpArgs false
namespace Go.Proofs.Ytblfagmoilhdnaa
open Go.RowKit
open Ent (E)

def ent3 (w x b : Bool) : Array MapEntry := #[{ key := .int .u64 2, val := .bool w, born := 0 }, { key := .int .u64 4, val := .bool x, born := 1 }, { key := .int .u64 8, val := .bool b, born := 2 }]
/-- what has been put together when the entries with these stamps have come -/
def acc (F : Nat) (w x b s0 s1 s2 : Bool) : Nat := (((F ||| 1) ||| (if s0 && w then 2 else 0)) ||| (if s1 && x then 4 else 0)) ||| (if s2 && b then 8 else 0)
theorem acc_all (y : E) : acc y.F y.w y.x y.b true true true = Ent.num y := by simp [acc, Ent.num]

theorem neqE (w : World) (z y : E) (c : Bool) (hc : decide (z ≠ y) = c) : (binOp .neq 100 (eVal z) (eVal y)).run Try.prog w = .ok (.bool c) w := by
  subst hc
  obtain ⟨F, t, b, v, x⟩ := z
  obtain ⟨F', t', b', v', x'⟩ := y
  unfold eVal
  go_simp
  by_cases h : F = F'
  · subst h
    cases t <;> cases t' <;> cases b <;> cases b' <;> cases v <;> cases v' <;> cases x <;> cases x' <;> simp
  · have h2 : ¬ (F : Int) = (F' : Int) := by omega
    rw [if_neg h2]; simp [h]
theorem eqlE (w : World) (z y : E) (c : Bool) (hc : decide (z = y) = c) : (binOp .eql 100 (eVal z) (eVal y)).run Try.prog w = .ok (.bool c) w := by
  subst hc
  obtain ⟨F, t, b, v, x⟩ := z
  obtain ⟨F', t', b', v', x'⟩ := y
  unfold eVal
  go_simp
  by_cases h : F = F'
  · subst h
    cases t <;> cases t' <;> cases b <;> cases b' <;> cases v <;> cases v' <;> cases x <;> cases x' <;> simp
  · have h2 : ¬ (F : Int) = (F' : Int) := by omega
    rw [if_neg h2]; simp [h]
theorem or_move (A p X Y : Nat) : ((A ||| p) ||| X) ||| Y = (((A ||| 0) ||| X) ||| Y) ||| p := by
  apply Nat.eq_of_testBit_eq
  intro i
  simp only [Nat.testBit_or, Nat.zero_testBit]
  cases A.testBit i <;> cases p.testBit i <;> cases X.testBit i <;> cases Y.testBit i <;> rfl
theorem or_move2 (A p Y : Nat) : (A ||| p) ||| Y = ((A ||| 0) ||| Y) ||| p := by
  apply Nat.eq_of_testBit_eq
  intro i
  simp only [Nat.testBit_or, Nat.zero_testBit]
  cases A.testBit i <;> cases p.testBit i <;> cases Y.testBit i <;> rfl
theorem acc_step0 (F : Nat) (w x b s1 s2 : Bool) : acc F w x b true s1 s2 = acc F w x b false s1 s2 ||| (if w then 2 else 0) := by
  cases w
  · simp [acc]
  · exact or_move (F ||| 1) 2 _ _
theorem acc_step1 (F : Nat) (w x b s0 s2 : Bool) : acc F w x b s0 true s2 = acc F w x b s0 false s2 ||| (if x then 4 else 0) := by
  cases x
  · simp [acc]
  · exact or_move2 ((F ||| 1) ||| _) 4 _
theorem acc_step2 (F : Nat) (w x b s0 s1 : Bool) : acc F w x b s0 s1 true = acc F w x b s0 s1 false ||| (if b then 8 else 0) := by
  cases b <;> simp [acc]
theorem acc_lt {F : Nat} (h : F < 18446744073709551616) (w x b s0 s1 s2 : Bool) : acc F w x b s0 s1 s2 < 18446744073709551616 := by
  unfold acc
  refine Nat.or_lt_two_pow (n := 64) (Nat.or_lt_two_pow (n := 64) (Nat.or_lt_two_pow (n := 64) (Nat.or_lt_two_pow (n := 64) h (by decide)) ?_) ?_) ?_ <;> split <;> decide
def accS (F : Nat) (w x b : Bool) (seen : Array Nat) : Nat := acc F w x b (seen.contains 0) (seen.contains 1) (seen.contains 2)
/-- what a round does, whichever entry has come -/
theorem acc_round {F : Nat} (h : F < 18446744073709551616) {w x b : Bool} {seen : Array Nat} {e : MapEntry} (he : e ∈ (leftOf (ent3 w x b) seen).toList) :
    ∃ (k : Nat) (on : Bool), e.key = .int .u64 (k : Int) ∧ e.val = .bool on ∧
      (on = true → bits .or .u64 ((accS F w x b seen : Nat) : Int) (k : Int) = ((accS F w x b (seen.push e.born) : Nat) : Int)) ∧
      (on = false → accS F w x b seen = accS F w x b (seen.push e.born)) := by
  unfold accS
  obtain ⟨hm, hs⟩ := mem_left he
  have hb (k : Nat) (hk : k < 18446744073709551616) := u64_or_nat (acc F w x b (seen.contains 0) (seen.contains 1) (seen.contains 2)) k (acc_lt h _ _ _ _ _ _) hk
  simp only [ent3, List.mem_cons, List.not_mem_nil, or_false] at hm
  rcases hm with rfl | rfl | rfl
  · refine ⟨2, w, rfl, rfl, fun hw => ?_, fun hw => ?_⟩
    · refine (hb 2 (by decide)).trans ?_
      have hs0 : seen.contains 0 = false := hs
      simp only [contains_push, hs0]
      subst hw
      have := acc_step0 F true x b (seen.contains 1) (seen.contains 2)
      simp at this ⊢
      rw [this]
    · have hs0 : seen.contains 0 = false := hs
      simp only [contains_push, hs0]
      subst hw
      simp [acc]
  · refine ⟨4, x, rfl, rfl, fun hw => ?_, fun hw => ?_⟩
    · refine (hb 4 (by decide)).trans ?_
      have hs0 : seen.contains 1 = false := hs
      simp only [contains_push, hs0]
      subst hw
      have := acc_step1 F w true b (seen.contains 0) (seen.contains 2)
      simp at this ⊢
      rw [this]
    · have hs0 : seen.contains 1 = false := hs
      simp only [contains_push, hs0]
      subst hw
      simp [acc]
  · refine ⟨8, b, rfl, rfl, fun hw => ?_, fun hw => ?_⟩
    · refine (hb 8 (by decide)).trans ?_
      have hs0 : seen.contains 2 = false := hs
      simp only [contains_push, hs0]
      subst hw
      have := acc_step2 F w x true (seen.contains 0) (seen.contains 1)
      simp at this ⊢
      rw [this]
    · have hs0 : seen.contains 2 = false := hs
      simp only [contains_push, hs0]
      subst hw
      simp [acc]
theorem acc_end {F : Nat} {w x b : Bool} {seen : Array Nat} (h : (leftOf (ent3 w x b) seen).size = 0) (t : Bool) : accS F w x b seen = Ent.num ⟨F, t, b, w, x⟩ := by
  unfold accS
  have ha := all_seen _ _ h
  have h0 := ha _ (show ({ key := .int .u64 2, val := .bool w, born := 0 } : MapEntry) ∈ (ent3 w x b).toList by simp [ent3])
  have h1 := ha _ (show ({ key := .int .u64 4, val := .bool x, born := 1 } : MapEntry) ∈ (ent3 w x b).toList by simp [ent3])
  have h2 := ha _ (show ({ key := .int .u64 8, val := .bool b, born := 2 } : MapEntry) ∈ (ent3 w x b).toList by simp [ent3])
  rw [h0, h1, h2]
  exact acc_all ⟨F, t, b, w, x⟩
theorem ent3_old (w x b : Bool) : ∀ e ∈ (ent3 w x b).toList, e.born < 3 := by
  intro e he
  simp only [ent3, List.mem_cons, List.not_mem_nil, or_false] at he
  rcases he with rfl | rfl | rfl
  · exact (show (0 : Nat) < 3 by decide)
  · exact (show (1 : Nat) < 3 by decide)
  · exact (show (2 : Nat) < 3 by decide)
theorem ent3_nodup (w x b : Bool) : ((ent3 w x b).toList.map (·.born)).Nodup := (show [0, 1, 2].Nodup by decide)
theorem ret2_of {a b : Nat} {p : Nat × Nat} (h : p = (a, b)) : Ending.returned (.tuple #[.int .u64 (a : Int), .int .i64 (b : Int)]) = .returned (.tuple #[.int .u64 (p.1 : Nat), .int .i64 (p.2 : Nat)]) := by subst h; rfl
abbrev boxE (y : E) : Obj := .cells #[.int .u64 (y.F : Nat), .bool y.t, .bool y.b, .bool y.w, .bool y.x] 100
theorem ins1 (W1 : World) (w : Bool) (n : Nat) (hn : n = W1.heap.size) : (Instr.mapUpdate 181 (.map (some n)) (.int .u64 2) (.bool w)).run Try.prog (W1.alloc (.map #[] 0)) = .ok () (W1.alloc (.map #[{ key := .int .u64 2, val := .bool w, born := 0 }] 1)) :=
  run_insert_new W1 _ 22 4 .u64 2 (.bool w) #[] 0 n Try.underlying181 Try.underlying22 (by simp) hn
theorem ins2 (W1 : World) (w x : Bool) (n : Nat) (hn : n = W1.heap.size) : (Instr.mapUpdate 181 (.map (some n)) (.int .u64 4) (.bool x)).run Try.prog (W1.alloc (.map #[{ key := .int .u64 2, val := .bool w, born := 0 }] 1)) = .ok () (W1.alloc (.map #[{ key := .int .u64 2, val := .bool w, born := 0 }, { key := .int .u64 4, val := .bool x, born := 1 }] 2)) :=
  run_insert_new W1 _ 22 4 .u64 4 (.bool x) _ 1 n Try.underlying181 Try.underlying22 (by simp) hn
theorem ins3 (W1 : World) (w x b : Bool) (n : Nat) (hn : n = W1.heap.size) : (Instr.mapUpdate 181 (.map (some n)) (.int .u64 8) (.bool b)).run Try.prog (W1.alloc (.map #[{ key := .int .u64 2, val := .bool w, born := 0 }, { key := .int .u64 4, val := .bool x, born := 1 }] 2)) = .ok () (W1.alloc (.map (ent3 w x b) 3)) :=
  run_insert_new W1 _ 22 4 .u64 8 (.bool b) _ 2 n Try.underlying181 Try.underlying22 (by simp) hn

set_option maxRecDepth 100000 in
set_option maxHeartbeats 1000000 in
theorem make_walk (y : E) (lv : Nat) (W : World) (hy : y.F < 18446744073709551616) (hl : lv < 3) :
    Calls Try.prog 86 #[eVal y, .int .i64 (lv : Nat)] W fun en w' => en = .returned (.tuple #[.int .u64 ((Ent.make y lv).1 : Nat), .int .i64 ((Ent.make y lv).2 : Nat)]) ∧ Below W.heap.size W w' := by
  obtain ⟨F, t, b, w, x⟩ := y
  unfold eVal
  have hmm := @run_makeMap Try.prog
  have hu1 := ins1 (W.alloc (boxE ⟨F, t, b, w, x⟩)) w (W.heap.size + 1) (by simp)
  have hu2 := ins2 (W.alloc (boxE ⟨F, t, b, w, x⟩)) w x (W.heap.size + 1) (by simp)
  have hu3 := ins3 (W.alloc (boxE ⟨F, t, b, w, x⟩)) w x b (W.heap.size + 1) (by simp)
  obtain ⟨es, hes⟩ : ∃ es, es = ent3 w x b := ⟨_, rfl⟩
  rw [← hes] at hu3
  have HES := Lib.hid hes; clear hes
  have hrg := run_range_map (P := Try.prog) ((W.alloc (boxE ⟨F, t, b, w, x⟩)).alloc (.map es 3)) 181 22 4 (W.heap.size + 1) es 3 Try.underlying181 (by have := heap_alloc_new (W.alloc (boxE ⟨F, t, b, w, x⟩)) (.map es 3); simpa using this)
  go_enter Try.func86, Try.ntmps86
  go_wp2_with fail
  clear hmm hu1 hu2 hu3 hrg
  go_loopg [6] 4 (fun k p wr => ∃ (m : Nat) (seen : Array Nat), (leftOf es seen).size < k ∧ wr = (((W.alloc (boxE ⟨F, t, b, w, x⟩)).alloc (.map es 3)).alloc (.mapIter (some (W.heap.size + 1)) 3 seen 3)).drewN m ∧ p = .int .u64 ((accS F w x b seen : Nat) : Int))
  case atStart => exact ⟨0, #[], by rw [HES.out]; simp [leftOf, ent3], rfl, by have := u64_or_nat F 1 hy (by decide); simp [accS, acc]; exact this⟩
  case round =>
    obtain ⟨m, seen, hlt, rfl, rfl⟩ := hrel
    have hbm : (((W.alloc (boxE ⟨F, t, b, w, x⟩)).alloc (.map es 3)).drewN m).heap[W.heap.size + 1]? = some (.map es 3) := by
      have := heap_alloc_new (W.alloc (boxE ⟨F, t, b, w, x⟩)) (.map es 3)
      simpa using this
    have law := run_next_drew (P := Try.prog) (((W.alloc (boxE ⟨F, t, b, w, x⟩)).alloc (.map es 3)).drewN m) 0 (W.heap.size + 1) 3 3 (W.heap.size + 1 + 1) seen es 3 (by simp) hbm (by rw [HES.out]; exact ent3_old w x b) (Nat.le_refl _)
    rcases law with ⟨h0, hrun⟩ | ⟨e, he, n, hrun⟩
    · have hnx : ∀ ty, (Instr.next (.pointer (some ⟨W.heap.size + 1 + 1, 0, none⟩)) false ty).run Try.prog ((((W.alloc (boxE ⟨F, t, b, w, x⟩)).alloc (.map es 3)).alloc (.mapIter (some (W.heap.size + 1)) 3 seen 3)).drewN m) = .ok (.tuple #[.bool false]) ((((W.alloc (boxE ⟨F, t, b, w, x⟩)).alloc (.map es 3)).alloc (.mapIter (some (W.heap.size + 1)) 3 seen 3)).drewN m) := fun _ => hrun
      rw [HES.out] at h0
      have hend := acc_end (F := F) h0 t
      rw [hend]
      have HEND := Lib.hid hend
      clear hrun hbm h0 hend
      go_wp2_with fail
      refine (entry_any _ lv _ (Ent.num_lt hy) hl).mono ?_
      rintro e w1 ⟨rfl, hb1⟩
      obtain ⟨⟨⟨F1, t1, b1, v1, x1⟩, n1⟩, hz⟩ : ∃ z, z = Ent.say (Ent.num ⟨F, t, b, w, x⟩) lv := ⟨_, rfl⟩
      rw [← hz]
      have HZ := Lib.hid hz
      have hrow : Row (((((W.alloc (boxE ⟨F, t, b, w, x⟩)).alloc (.map es 3)).alloc (.mapIter (some (W.heap.size + 1)) 3 seen 3)).drewN m)) W.heap.size 100 [.int .u64 (F : Nat), .bool t, .bool b, .bool w, .bool x] :=
        (((Row.new W 100 [.int .u64 (F : Nat), .bool t, .bool b, .bool w, .bool x]).alloc _).alloc _).drewN m
      have hrow1 := hrow.below hb1 hrow.lt
      have c0 := hrow1.cell 0
      have c1 := hrow1.cell 1
      have c2 := hrow1.cell 2
      have c3 := hrow1.cell 3
      have c4 := hrow1.cell 4
      have hsz1 := hrow1.lt
      simp only [List.getElem?_cons_zero, List.getElem?_cons_succ] at c0 c1 c2 c3 c4
      have hbase : Below W.heap.size W ((((W.alloc (boxE ⟨F, t, b, w, x⟩)).alloc (.map es 3)).alloc (.mapIter (some (W.heap.size + 1)) 3 seen 3)).drewN m) :=
        ⟨rfl, rfl, rfl, by simp; omega, fun k hk => by
          rw [show ((((W.alloc (boxE ⟨F, t, b, w, x⟩)).alloc (.map es 3)).alloc (.mapIter (some (W.heap.size + 1)) 3 seen 3)).drewN m).heap[k]? = (((W.alloc (boxE ⟨F, t, b, w, x⟩)).alloc (.map es 3)).alloc (.mapIter (some (W.heap.size + 1)) 3 seen 3)).heap[k]? from rfl, Below.heap_alloc _ _ _ (by simp; omega), Below.heap_alloc _ _ _ (by simp; omega), Below.heap_alloc _ _ _ (by omega)]⟩
      have HB1 := Lib.hid (hbase.trans (hb1.mono (hbase.size)))
      clear hrow hrow1 hb1 hz hbase
      unfold eVal
      have hfin : Ent.make ⟨F, t, b, w, x⟩ lv = if (⟨F1, t1, b1, v1, x1⟩, n1) = ((⟨F, t, b, w, x⟩ : E), 0) then (Ent.num ⟨F, t, b, w, x⟩, 0) else (0, 42) := by
        unfold Ent.make; rw [← HZ.out]
      have HFIN := Lib.hid hfin
      clear hfin
      by_cases hn : n1 = 0
      · have hn' : ((n1 : Int) != 0) = false := by simp [hn]
        by_cases he : (⟨F1, t1, b1, v1, x1⟩ : E) = ⟨F, t, b, w, x⟩
        · have hne := fun wx => neqE wx ⟨F1, t1, b1, v1, x1⟩ ⟨F, t, b, w, x⟩ false (by simp [he])
          unfold eVal at hne
          rw [if_pos (by rw [he, hn])] at HFIN
          clear hn he
          go_wp2_with fail
          go_ret2
          exact ⟨ret2_of HFIN.out, (HB1.out.alloc (by omega) _)⟩
        · have hne := fun wx => neqE wx ⟨F1, t1, b1, v1, x1⟩ ⟨F, t, b, w, x⟩ true (by simp [he])
          unfold eVal at hne
          rw [if_neg (fun h => he (Prod.mk.inj h).1)] at HFIN
          clear hn he
          go_wp2_with fail
          go_ret2
          exact ⟨ret2_of HFIN.out, (HB1.out.alloc (by omega) _)⟩
      · have hn' : ((n1 : Int) != 0) = true := by rw [bne_iff_ne]; omega
        rw [if_neg (fun h => hn (Prod.mk.inj h).2)] at HFIN
        clear hn
        go_wp2_with fail
        go_ret2
        exact ⟨ret2_of HFIN.out, HB1.out.alloc (by omega) _⟩
    · obtain ⟨k, on, hk, hv, hon, hoff⟩ := acc_round (w := w) (x := x) (b := b) hy (seen := seen) (e := e) (by rw [← HES.out]; exact he)
      have hnx : ∀ ty, (Instr.next (.pointer (some ⟨W.heap.size + 1 + 1, 0, none⟩)) false ty).run Try.prog ((((W.alloc (boxE ⟨F, t, b, w, x⟩)).alloc (.map es 3)).alloc (.mapIter (some (W.heap.size + 1)) 3 seen 3)).drewN m) = .ok (.tuple #[.bool true, .int .u64 (k : Int), .bool on]) ((((W.alloc (boxE ⟨F, t, b, w, x⟩)).alloc (.map es 3)).alloc (.mapIter (some (W.heap.size + 1)) 3 (seen.push e.born) 3)).drewN (m + n)) := fun _ => by
        rw [← hk, ← hv]; refine hrun.trans ?_; rw [World.drewN_drewN]; rfl
      have hen : (Instr.entry (.pointer (some ⟨W.heap.size + 1 + 1, 0, none⟩))).run Try.prog ((((W.alloc (boxE ⟨F, t, b, w, x⟩)).alloc (.map es 3)).alloc (.mapIter (some (W.heap.size + 1)) 3 (seen.push e.born) 3)).drewN (m + n)) = .ok (.tuple #[.int .u64 (k : Int), .bool on]) ((((W.alloc (boxE ⟨F, t, b, w, x⟩)).alloc (.map es 3)).alloc (.mapIter (some (W.heap.size + 1)) 3 (seen.push e.born) 3)).drewN (m + n)) := by
        have := run_entry_map (P := Try.prog) (((W.alloc (boxE ⟨F, t, b, w, x⟩)).alloc (.map es 3)).drewN (m + n)) (W.heap.size + 1) 3 seen es 3 e hbm (by rw [HES.out] at he ⊢; exact (mem_left he).1) (by rw [HES.out]; exact ent3_nodup w x b)
        rw [hk, hv, show (((W.alloc (boxE ⟨F, t, b, w, x⟩)).alloc (.map es 3)).drewN (m + n)).heap.size = W.heap.size + 1 + 1 by simp] at this
        exact this
      have hsh := left_shrinks es seen e he
      have HSH := Lib.hid (show (leftOf es (seen.push e.born)).size < gk - 1 by omega)
      clear hrun hbm hsh he hk hv
      obtain ⟨s', hs'⟩ : ∃ s', s' = seen.push e.born := ⟨_, rfl⟩
      rw [← hs'] at hnx hen HSH hon hoff
      clear hs'
      have HON := Lib.hid hon
      have HOFF := Lib.hid hoff
      clear hon hoff
      cases on
      · have HO := Lib.hid (HOFF.out rfl)
        clear HON HOFF
        go_wp2_with fail
        go_roundg (gk - 1)
        case measure => have := HSH.out; omega
        case rel => exact ⟨_, s', HSH.out, rfl, by rw [HO.out]⟩
      · have HO := Lib.hid (HON.out rfl)
        clear HON HOFF
        go_wp2_with fail
        go_roundg (gk - 1)
        case measure => have := HSH.out; omega
        case rel => exact ⟨_, s', HSH.out, rfl, by rw [HO.out]⟩

set_option maxRecDepth 100000 in
set_option maxHeartbeats 1000000 in
theorem make_none (y : E) (lv : Int) (W : World) (hl : lv < 0 ∨ 2 < lv) :
    Calls Try.prog 86 #[eVal y, .int .i64 lv] W fun en w' => en = .returned (.tuple #[.int .u64 0, .int .i64 1]) ∧ Below W.heap.size W w' := by
  obtain ⟨F, t, b, w, x⟩ := y
  unfold eVal
  rcases hl with hl | hl
  · go_enter Try.func86, Try.ntmps86
    go_wp2_with fail
    go_ret2
    exact ⟨rfl, (Below.refl _ _).alloc (Nat.le_refl _) _⟩
  · have hl' : ¬ lv < 0 := by omega
    go_enter Try.func86, Try.ntmps86
    go_wp2_with fail
    go_ret2
    exact ⟨rfl, (Below.refl _ _).alloc (Nat.le_refl _) _⟩
end Go.Proofs.Ytblfagmoilhdnaa
