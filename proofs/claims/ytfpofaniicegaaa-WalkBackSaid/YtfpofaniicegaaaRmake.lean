/- The walk of bulkheadref4.Make: it tells what the plain law's 'make' tells. -/
import Derived.Test.YtfpofaniicegaaaMake
set_option linter.unusedVariables false
set_option linter.unusedSimpArgs false
namespace Go.Proofs.Ytfpofaniicegaaa
open Go.RowKit
open Ent (E)

theorem or_step (a k : Nat) (K : Int) (hK : K = (k : Int)) (on : Bool) (ha : a < 18446744073709551616) (hk : k < 18446744073709551616) : ∃ a' : Nat, a' < 18446744073709551616 ∧ (on = true → bits .or .u64 (a : Int) K = (a' : Int)) ∧ (on = false → a' = a) ∧ Hid (a' = a ||| if on then k else 0) := by
  subst hK
  refine ⟨a ||| if on then k else 0, ?_, fun h => ?_, fun h => ?_, rfl⟩
  · refine Nat.or_lt_two_pow (n := 64) ha ?_; split
    · exact hk
    · decide
  · subst h; exact u64_or_nat a k ha hk
  · subst h; simp
theorem make_great {y : E} {lv : Nat} (h : ¬ y.F < 4294967296) : Ent.make y lv = (0, 42) := by
  unfold Ent.make
  rw [if_neg]
  intro hs
  exact h (Ent.say_lt hs)

set_option maxRecDepth 100000 in
set_option maxHeartbeats 2000000 in
theorem rmake_walk (y : E) (lv : Nat) (W : World) (hy : y.F < 18446744073709551616) (hl : lv < 3) :
    Calls Try.prog 11 #[eVal y, .int .i64 (lv : Nat)] W fun en w' => en = .returned (.tuple #[.int .u64 ((Ent.make y lv).1 : Nat), .int .i64 ((Ent.make y lv).2 : Nat)]) ∧ Below W.heap.size W w' := by
  obtain ⟨F, t, b, w, x⟩ := y
  by_cases hF : F < 4294967296
  · obtain ⟨a1, h1, r1, _, q1⟩ := or_step F 1 1 rfl true (by omega) (by decide)
    obtain ⟨a2, h2, r2, z2, q2⟩ := or_step a1 2 2 rfl w h1 (by decide)
    obtain ⟨a3, h3, r3, z3, q3⟩ := or_step a2 4 4 rfl x h2 (by decide)
    obtain ⟨a4, h4, r4, z4, q4⟩ := or_step a3 8 8 rfl b h3 (by decide)
    have HN : Hid (a4 = Ent.num ⟨F, t, b, w, x⟩) := Lib.hid (by rw [q4.out, q3.out, q2.out, q1.out]; rfl)
    have r1' := r1 rfl
    have hd : decide ((4294967296 : Int) ≤ (F : Int)) = false := decide_eq_false (by omega)
    clear hF
    clear q1 q2 q3 q4 r1
    obtain ⟨⟨⟨F1, t1, b1, v1, x1⟩, n1⟩, hz⟩ : ∃ z, z = Ent.say a4 lv := ⟨_, rfl⟩
    have hfin : Ent.make ⟨F, t, b, w, x⟩ lv = if (⟨F1, t1, b1, v1, x1⟩, n1) = ((⟨F, t, b, w, x⟩ : E), 0) then (a4, 0) else (0, 42) := by
      unfold Ent.make; rw [← HN.out, ← hz]
    have HZ := Lib.hid hz
    have HFIN := Lib.hid hfin
    clear hz hfin HN
    cases w <;> cases x <;> cases b
    · have z2' := z2 rfl; subst z2'; clear r2 z2
      have z3' := z3 rfl; subst z3'; clear r3 z3
      have z4' := z4 rfl; subst z4'; clear r4 z4
      unfold eVal
      go_enter Try.func11, Try.ntmps11
      go_wp2_with fail
      refine (rentry_any _ lv _ h4 hl).mono ?_
      rintro e w1 ⟨rfl, hb1⟩
      rw [← HZ.out]
      have hrow : Row (W.alloc (boxE ⟨F, t, false, false, false⟩)) W.heap.size 24 _ := Row.new W 24 [.int .u64 (F : Nat), .bool t, .bool false, .bool false, .bool false]
      have hrow1 := hrow.below hb1 hrow.lt
      have c0 := hrow1.cell 0
      have c1 := hrow1.cell 1
      have c2 := hrow1.cell 2
      have c3 := hrow1.cell 3
      have c4 := hrow1.cell 4
      have hsz1 := hrow1.lt
      simp only [List.getElem?_cons_zero, List.getElem?_cons_succ] at c0 c1 c2 c3 c4
      have HB1 := Lib.hid ((((Below.refl W.heap.size W).alloc (Nat.le_refl _) _)).trans (hb1.mono (by simp)))
      clear hrow hrow1 hb1
      unfold eVal
      by_cases hn : n1 = 0
      · have hn' : ((n1 : Int) != 0) = false := by simp [hn]
        by_cases he : (⟨F1, t1, b1, v1, x1⟩ : E) = ⟨F, t, false, false, false⟩
        · have hne := fun wx => neqE wx ⟨F1, t1, b1, v1, x1⟩ ⟨F, t, false, false, false⟩ false (by simp [he])
          unfold eVal at hne
          rw [if_pos (by rw [he, hn])] at HFIN
          clear hn he
          go_wp2_with fail
          go_ret2
          exact ⟨ret2_of HFIN.out, (HB1.out.alloc (by omega) _)⟩
        · have hne := fun wx => neqE wx ⟨F1, t1, b1, v1, x1⟩ ⟨F, t, false, false, false⟩ true (by simp [he])
          unfold eVal at hne
          rw [if_neg (fun h => he (Prod.mk.inj h).1)] at HFIN
          clear hn he
          go_wp2_with fail
          go_ret2
          exact ⟨ret2_of HFIN.out, (HB1.out.alloc (by omega) _)⟩
      · have hn' : ((n1 : Int) != 0) = true := by rw [bne_iff_ne]; omega
        rw [if_neg (fun h => hn (Prod.mk.inj h).2)] at HFIN
        clear hn
        go_wp2_with fail
        go_ret2
        exact ⟨ret2_of HFIN.out, HB1.out.alloc (by omega) _⟩
    · have z2' := z2 rfl; subst z2'; clear r2 z2
      have z3' := z3 rfl; subst z3'; clear r3 z3
      have r4' := r4 rfl; clear r4 z4
      unfold eVal
      go_enter Try.func11, Try.ntmps11
      go_wp2_with fail
      refine (rentry_any _ lv _ h4 hl).mono ?_
      rintro e w1 ⟨rfl, hb1⟩
      rw [← HZ.out]
      have hrow : Row (W.alloc (boxE ⟨F, t, true, false, false⟩)) W.heap.size 24 _ := Row.new W 24 [.int .u64 (F : Nat), .bool t, .bool true, .bool false, .bool false]
      have hrow1 := hrow.below hb1 hrow.lt
      have c0 := hrow1.cell 0
      have c1 := hrow1.cell 1
      have c2 := hrow1.cell 2
      have c3 := hrow1.cell 3
      have c4 := hrow1.cell 4
      have hsz1 := hrow1.lt
      simp only [List.getElem?_cons_zero, List.getElem?_cons_succ] at c0 c1 c2 c3 c4
      have HB1 := Lib.hid ((((Below.refl W.heap.size W).alloc (Nat.le_refl _) _)).trans (hb1.mono (by simp)))
      clear hrow hrow1 hb1
      unfold eVal
      by_cases hn : n1 = 0
      · have hn' : ((n1 : Int) != 0) = false := by simp [hn]
        by_cases he : (⟨F1, t1, b1, v1, x1⟩ : E) = ⟨F, t, true, false, false⟩
        · have hne := fun wx => neqE wx ⟨F1, t1, b1, v1, x1⟩ ⟨F, t, true, false, false⟩ false (by simp [he])
          unfold eVal at hne
          rw [if_pos (by rw [he, hn])] at HFIN
          clear hn he
          go_wp2_with fail
          go_ret2
          exact ⟨ret2_of HFIN.out, (HB1.out.alloc (by omega) _)⟩
        · have hne := fun wx => neqE wx ⟨F1, t1, b1, v1, x1⟩ ⟨F, t, true, false, false⟩ true (by simp [he])
          unfold eVal at hne
          rw [if_neg (fun h => he (Prod.mk.inj h).1)] at HFIN
          clear hn he
          go_wp2_with fail
          go_ret2
          exact ⟨ret2_of HFIN.out, (HB1.out.alloc (by omega) _)⟩
      · have hn' : ((n1 : Int) != 0) = true := by rw [bne_iff_ne]; omega
        rw [if_neg (fun h => hn (Prod.mk.inj h).2)] at HFIN
        clear hn
        go_wp2_with fail
        go_ret2
        exact ⟨ret2_of HFIN.out, HB1.out.alloc (by omega) _⟩
    · have z2' := z2 rfl; subst z2'; clear r2 z2
      have r3' := r3 rfl; clear r3 z3
      have z4' := z4 rfl; subst z4'; clear r4 z4
      unfold eVal
      go_enter Try.func11, Try.ntmps11
      go_wp2_with fail
      refine (rentry_any _ lv _ h4 hl).mono ?_
      rintro e w1 ⟨rfl, hb1⟩
      rw [← HZ.out]
      have hrow : Row (W.alloc (boxE ⟨F, t, false, false, true⟩)) W.heap.size 24 _ := Row.new W 24 [.int .u64 (F : Nat), .bool t, .bool false, .bool false, .bool true]
      have hrow1 := hrow.below hb1 hrow.lt
      have c0 := hrow1.cell 0
      have c1 := hrow1.cell 1
      have c2 := hrow1.cell 2
      have c3 := hrow1.cell 3
      have c4 := hrow1.cell 4
      have hsz1 := hrow1.lt
      simp only [List.getElem?_cons_zero, List.getElem?_cons_succ] at c0 c1 c2 c3 c4
      have HB1 := Lib.hid ((((Below.refl W.heap.size W).alloc (Nat.le_refl _) _)).trans (hb1.mono (by simp)))
      clear hrow hrow1 hb1
      unfold eVal
      by_cases hn : n1 = 0
      · have hn' : ((n1 : Int) != 0) = false := by simp [hn]
        by_cases he : (⟨F1, t1, b1, v1, x1⟩ : E) = ⟨F, t, false, false, true⟩
        · have hne := fun wx => neqE wx ⟨F1, t1, b1, v1, x1⟩ ⟨F, t, false, false, true⟩ false (by simp [he])
          unfold eVal at hne
          rw [if_pos (by rw [he, hn])] at HFIN
          clear hn he
          go_wp2_with fail
          go_ret2
          exact ⟨ret2_of HFIN.out, (HB1.out.alloc (by omega) _)⟩
        · have hne := fun wx => neqE wx ⟨F1, t1, b1, v1, x1⟩ ⟨F, t, false, false, true⟩ true (by simp [he])
          unfold eVal at hne
          rw [if_neg (fun h => he (Prod.mk.inj h).1)] at HFIN
          clear hn he
          go_wp2_with fail
          go_ret2
          exact ⟨ret2_of HFIN.out, (HB1.out.alloc (by omega) _)⟩
      · have hn' : ((n1 : Int) != 0) = true := by rw [bne_iff_ne]; omega
        rw [if_neg (fun h => hn (Prod.mk.inj h).2)] at HFIN
        clear hn
        go_wp2_with fail
        go_ret2
        exact ⟨ret2_of HFIN.out, HB1.out.alloc (by omega) _⟩
    · have z2' := z2 rfl; subst z2'; clear r2 z2
      have r3' := r3 rfl; clear r3 z3
      have r4' := r4 rfl; clear r4 z4
      unfold eVal
      go_enter Try.func11, Try.ntmps11
      go_wp2_with fail
      refine (rentry_any _ lv _ h4 hl).mono ?_
      rintro e w1 ⟨rfl, hb1⟩
      rw [← HZ.out]
      have hrow : Row (W.alloc (boxE ⟨F, t, true, false, true⟩)) W.heap.size 24 _ := Row.new W 24 [.int .u64 (F : Nat), .bool t, .bool true, .bool false, .bool true]
      have hrow1 := hrow.below hb1 hrow.lt
      have c0 := hrow1.cell 0
      have c1 := hrow1.cell 1
      have c2 := hrow1.cell 2
      have c3 := hrow1.cell 3
      have c4 := hrow1.cell 4
      have hsz1 := hrow1.lt
      simp only [List.getElem?_cons_zero, List.getElem?_cons_succ] at c0 c1 c2 c3 c4
      have HB1 := Lib.hid ((((Below.refl W.heap.size W).alloc (Nat.le_refl _) _)).trans (hb1.mono (by simp)))
      clear hrow hrow1 hb1
      unfold eVal
      by_cases hn : n1 = 0
      · have hn' : ((n1 : Int) != 0) = false := by simp [hn]
        by_cases he : (⟨F1, t1, b1, v1, x1⟩ : E) = ⟨F, t, true, false, true⟩
        · have hne := fun wx => neqE wx ⟨F1, t1, b1, v1, x1⟩ ⟨F, t, true, false, true⟩ false (by simp [he])
          unfold eVal at hne
          rw [if_pos (by rw [he, hn])] at HFIN
          clear hn he
          go_wp2_with fail
          go_ret2
          exact ⟨ret2_of HFIN.out, (HB1.out.alloc (by omega) _)⟩
        · have hne := fun wx => neqE wx ⟨F1, t1, b1, v1, x1⟩ ⟨F, t, true, false, true⟩ true (by simp [he])
          unfold eVal at hne
          rw [if_neg (fun h => he (Prod.mk.inj h).1)] at HFIN
          clear hn he
          go_wp2_with fail
          go_ret2
          exact ⟨ret2_of HFIN.out, (HB1.out.alloc (by omega) _)⟩
      · have hn' : ((n1 : Int) != 0) = true := by rw [bne_iff_ne]; omega
        rw [if_neg (fun h => hn (Prod.mk.inj h).2)] at HFIN
        clear hn
        go_wp2_with fail
        go_ret2
        exact ⟨ret2_of HFIN.out, HB1.out.alloc (by omega) _⟩
    · have r2' := r2 rfl; clear r2 z2
      have z3' := z3 rfl; subst z3'; clear r3 z3
      have z4' := z4 rfl; subst z4'; clear r4 z4
      unfold eVal
      go_enter Try.func11, Try.ntmps11
      go_wp2_with fail
      refine (rentry_any _ lv _ h4 hl).mono ?_
      rintro e w1 ⟨rfl, hb1⟩
      rw [← HZ.out]
      have hrow : Row (W.alloc (boxE ⟨F, t, false, true, false⟩)) W.heap.size 24 _ := Row.new W 24 [.int .u64 (F : Nat), .bool t, .bool false, .bool true, .bool false]
      have hrow1 := hrow.below hb1 hrow.lt
      have c0 := hrow1.cell 0
      have c1 := hrow1.cell 1
      have c2 := hrow1.cell 2
      have c3 := hrow1.cell 3
      have c4 := hrow1.cell 4
      have hsz1 := hrow1.lt
      simp only [List.getElem?_cons_zero, List.getElem?_cons_succ] at c0 c1 c2 c3 c4
      have HB1 := Lib.hid ((((Below.refl W.heap.size W).alloc (Nat.le_refl _) _)).trans (hb1.mono (by simp)))
      clear hrow hrow1 hb1
      unfold eVal
      by_cases hn : n1 = 0
      · have hn' : ((n1 : Int) != 0) = false := by simp [hn]
        by_cases he : (⟨F1, t1, b1, v1, x1⟩ : E) = ⟨F, t, false, true, false⟩
        · have hne := fun wx => neqE wx ⟨F1, t1, b1, v1, x1⟩ ⟨F, t, false, true, false⟩ false (by simp [he])
          unfold eVal at hne
          rw [if_pos (by rw [he, hn])] at HFIN
          clear hn he
          go_wp2_with fail
          go_ret2
          exact ⟨ret2_of HFIN.out, (HB1.out.alloc (by omega) _)⟩
        · have hne := fun wx => neqE wx ⟨F1, t1, b1, v1, x1⟩ ⟨F, t, false, true, false⟩ true (by simp [he])
          unfold eVal at hne
          rw [if_neg (fun h => he (Prod.mk.inj h).1)] at HFIN
          clear hn he
          go_wp2_with fail
          go_ret2
          exact ⟨ret2_of HFIN.out, (HB1.out.alloc (by omega) _)⟩
      · have hn' : ((n1 : Int) != 0) = true := by rw [bne_iff_ne]; omega
        rw [if_neg (fun h => hn (Prod.mk.inj h).2)] at HFIN
        clear hn
        go_wp2_with fail
        go_ret2
        exact ⟨ret2_of HFIN.out, HB1.out.alloc (by omega) _⟩
    · have r2' := r2 rfl; clear r2 z2
      have z3' := z3 rfl; subst z3'; clear r3 z3
      have r4' := r4 rfl; clear r4 z4
      unfold eVal
      go_enter Try.func11, Try.ntmps11
      go_wp2_with fail
      refine (rentry_any _ lv _ h4 hl).mono ?_
      rintro e w1 ⟨rfl, hb1⟩
      rw [← HZ.out]
      have hrow : Row (W.alloc (boxE ⟨F, t, true, true, false⟩)) W.heap.size 24 _ := Row.new W 24 [.int .u64 (F : Nat), .bool t, .bool true, .bool true, .bool false]
      have hrow1 := hrow.below hb1 hrow.lt
      have c0 := hrow1.cell 0
      have c1 := hrow1.cell 1
      have c2 := hrow1.cell 2
      have c3 := hrow1.cell 3
      have c4 := hrow1.cell 4
      have hsz1 := hrow1.lt
      simp only [List.getElem?_cons_zero, List.getElem?_cons_succ] at c0 c1 c2 c3 c4
      have HB1 := Lib.hid ((((Below.refl W.heap.size W).alloc (Nat.le_refl _) _)).trans (hb1.mono (by simp)))
      clear hrow hrow1 hb1
      unfold eVal
      by_cases hn : n1 = 0
      · have hn' : ((n1 : Int) != 0) = false := by simp [hn]
        by_cases he : (⟨F1, t1, b1, v1, x1⟩ : E) = ⟨F, t, true, true, false⟩
        · have hne := fun wx => neqE wx ⟨F1, t1, b1, v1, x1⟩ ⟨F, t, true, true, false⟩ false (by simp [he])
          unfold eVal at hne
          rw [if_pos (by rw [he, hn])] at HFIN
          clear hn he
          go_wp2_with fail
          go_ret2
          exact ⟨ret2_of HFIN.out, (HB1.out.alloc (by omega) _)⟩
        · have hne := fun wx => neqE wx ⟨F1, t1, b1, v1, x1⟩ ⟨F, t, true, true, false⟩ true (by simp [he])
          unfold eVal at hne
          rw [if_neg (fun h => he (Prod.mk.inj h).1)] at HFIN
          clear hn he
          go_wp2_with fail
          go_ret2
          exact ⟨ret2_of HFIN.out, (HB1.out.alloc (by omega) _)⟩
      · have hn' : ((n1 : Int) != 0) = true := by rw [bne_iff_ne]; omega
        rw [if_neg (fun h => hn (Prod.mk.inj h).2)] at HFIN
        clear hn
        go_wp2_with fail
        go_ret2
        exact ⟨ret2_of HFIN.out, HB1.out.alloc (by omega) _⟩
    · have r2' := r2 rfl; clear r2 z2
      have r3' := r3 rfl; clear r3 z3
      have z4' := z4 rfl; subst z4'; clear r4 z4
      unfold eVal
      go_enter Try.func11, Try.ntmps11
      go_wp2_with fail
      refine (rentry_any _ lv _ h4 hl).mono ?_
      rintro e w1 ⟨rfl, hb1⟩
      rw [← HZ.out]
      have hrow : Row (W.alloc (boxE ⟨F, t, false, true, true⟩)) W.heap.size 24 _ := Row.new W 24 [.int .u64 (F : Nat), .bool t, .bool false, .bool true, .bool true]
      have hrow1 := hrow.below hb1 hrow.lt
      have c0 := hrow1.cell 0
      have c1 := hrow1.cell 1
      have c2 := hrow1.cell 2
      have c3 := hrow1.cell 3
      have c4 := hrow1.cell 4
      have hsz1 := hrow1.lt
      simp only [List.getElem?_cons_zero, List.getElem?_cons_succ] at c0 c1 c2 c3 c4
      have HB1 := Lib.hid ((((Below.refl W.heap.size W).alloc (Nat.le_refl _) _)).trans (hb1.mono (by simp)))
      clear hrow hrow1 hb1
      unfold eVal
      by_cases hn : n1 = 0
      · have hn' : ((n1 : Int) != 0) = false := by simp [hn]
        by_cases he : (⟨F1, t1, b1, v1, x1⟩ : E) = ⟨F, t, false, true, true⟩
        · have hne := fun wx => neqE wx ⟨F1, t1, b1, v1, x1⟩ ⟨F, t, false, true, true⟩ false (by simp [he])
          unfold eVal at hne
          rw [if_pos (by rw [he, hn])] at HFIN
          clear hn he
          go_wp2_with fail
          go_ret2
          exact ⟨ret2_of HFIN.out, (HB1.out.alloc (by omega) _)⟩
        · have hne := fun wx => neqE wx ⟨F1, t1, b1, v1, x1⟩ ⟨F, t, false, true, true⟩ true (by simp [he])
          unfold eVal at hne
          rw [if_neg (fun h => he (Prod.mk.inj h).1)] at HFIN
          clear hn he
          go_wp2_with fail
          go_ret2
          exact ⟨ret2_of HFIN.out, (HB1.out.alloc (by omega) _)⟩
      · have hn' : ((n1 : Int) != 0) = true := by rw [bne_iff_ne]; omega
        rw [if_neg (fun h => hn (Prod.mk.inj h).2)] at HFIN
        clear hn
        go_wp2_with fail
        go_ret2
        exact ⟨ret2_of HFIN.out, HB1.out.alloc (by omega) _⟩
    · have r2' := r2 rfl; clear r2 z2
      have r3' := r3 rfl; clear r3 z3
      have r4' := r4 rfl; clear r4 z4
      unfold eVal
      go_enter Try.func11, Try.ntmps11
      go_wp2_with fail
      refine (rentry_any _ lv _ h4 hl).mono ?_
      rintro e w1 ⟨rfl, hb1⟩
      rw [← HZ.out]
      have hrow : Row (W.alloc (boxE ⟨F, t, true, true, true⟩)) W.heap.size 24 _ := Row.new W 24 [.int .u64 (F : Nat), .bool t, .bool true, .bool true, .bool true]
      have hrow1 := hrow.below hb1 hrow.lt
      have c0 := hrow1.cell 0
      have c1 := hrow1.cell 1
      have c2 := hrow1.cell 2
      have c3 := hrow1.cell 3
      have c4 := hrow1.cell 4
      have hsz1 := hrow1.lt
      simp only [List.getElem?_cons_zero, List.getElem?_cons_succ] at c0 c1 c2 c3 c4
      have HB1 := Lib.hid ((((Below.refl W.heap.size W).alloc (Nat.le_refl _) _)).trans (hb1.mono (by simp)))
      clear hrow hrow1 hb1
      unfold eVal
      by_cases hn : n1 = 0
      · have hn' : ((n1 : Int) != 0) = false := by simp [hn]
        by_cases he : (⟨F1, t1, b1, v1, x1⟩ : E) = ⟨F, t, true, true, true⟩
        · have hne := fun wx => neqE wx ⟨F1, t1, b1, v1, x1⟩ ⟨F, t, true, true, true⟩ false (by simp [he])
          unfold eVal at hne
          rw [if_pos (by rw [he, hn])] at HFIN
          clear hn he
          go_wp2_with fail
          go_ret2
          exact ⟨ret2_of HFIN.out, (HB1.out.alloc (by omega) _)⟩
        · have hne := fun wx => neqE wx ⟨F1, t1, b1, v1, x1⟩ ⟨F, t, true, true, true⟩ true (by simp [he])
          unfold eVal at hne
          rw [if_neg (fun h => he (Prod.mk.inj h).1)] at HFIN
          clear hn he
          go_wp2_with fail
          go_ret2
          exact ⟨ret2_of HFIN.out, (HB1.out.alloc (by omega) _)⟩
      · have hn' : ((n1 : Int) != 0) = true := by rw [bne_iff_ne]; omega
        rw [if_neg (fun h => hn (Prod.mk.inj h).2)] at HFIN
        clear hn
        go_wp2_with fail
        go_ret2
        exact ⟨ret2_of HFIN.out, HB1.out.alloc (by omega) _⟩
  · have hd : decide ((4294967296 : Int) ≤ (F : Int)) = true := decide_eq_true (by omega)
    have HFIN := Lib.hid (make_great (y := ⟨F, t, b, w, x⟩) (lv := lv) hF)
    clear hF
    unfold eVal
    go_enter Try.func11, Try.ntmps11
    go_wp2_with fail
    go_ret2
    exact ⟨ret2_of HFIN.out, (Below.refl _ _).alloc (Nat.le_refl _) _⟩
set_option maxRecDepth 100000 in
set_option maxHeartbeats 1000000 in
theorem rmake_none (y : E) (lv : Int) (W : World) (hl : lv < 0 ∨ 2 < lv) :
    Calls Try.prog 11 #[eVal y, .int .i64 lv] W fun en w' => en = .returned (.tuple #[.int .u64 0, .int .i64 1]) ∧ Below W.heap.size W w' := by
  obtain ⟨F, t, b, w, x⟩ := y
  unfold eVal
  rcases hl with hl | hl
  · go_enter Try.func11, Try.ntmps11
    go_wp2_with fail
    go_ret2
    exact ⟨rfl, (Below.refl _ _).alloc (Nat.le_refl _) _⟩
  · have hl' : ¬ lv < 0 := by omega
    go_enter Try.func11, Try.ntmps11
    go_wp2_with fail
    go_ret2
    exact ⟨rfl, (Below.refl _ _).alloc (Nat.le_refl _) _⟩
end Go.Proofs.Ytfpofaniicegaaa
