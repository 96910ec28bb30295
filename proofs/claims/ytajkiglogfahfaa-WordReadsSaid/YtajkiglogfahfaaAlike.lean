/- The walks of the law's width and alike: do two steps bear the same thing? -/
import Derived.Test.YtajkiglogfahfaaAgain
set_option linter.unusedVariables false
set_option linter.unusedSimpArgs false
namespace Go.Proofs.Ytajkiglogfahfaa
open Go.RowKit

set_option maxRecDepth 100000 in
set_option maxHeartbeats 400000 in
theorem width_any (k : Nat) (w : World) (h1 : 1 ≤ k) (h4 : k ≤ 4) :
    Calls Try.prog 99 #[.int .i64 (k : Nat)] w fun e w' => e = .returned (.int .i64 (if k = 1 then 1 else if k = 2 then 2 else if k = 3 then 4 else 8)) ∧ Below w.heap.size w w' := by
  rcases (show k = 1 ∨ k = 2 ∨ k = 3 ∨ k = 4 by omega) with rfl | rfl | rfl | rfl
  all_goals
    go_enter Try.func99, Try.ntmps99
    go_wp2_with fail
    go_ret
    exact ⟨rfl, (Below.refl _ _).alloc (Nat.le_refl _) _⟩
theorem below_two {w W w2 : World} (h1 : Below w.heap.size w W) (h2 : Below W.heap.size W w2) : Below w.heap.size w w2 := h1.trans (h2.mono h1.size)
theorem below_dtwo {w W w2 : World} (h1 : Below w.heap.size w W) (h2 : Below W.drew.heap.size W.drew w2) : Below w.heap.size w w2 := below_two h1 ⟨h2.os, h2.tape, h2.output, h2.size, h2.block⟩
theorem width_1 (w : World) : Calls Try.prog 99 #[.int .i64 1] w fun e w' => e = .returned (.int .i64 1) ∧ Below w.heap.size w w' := width_any 1 w (by omega) (by omega)
theorem width_2 (w : World) : Calls Try.prog 99 #[.int .i64 2] w fun e w' => e = .returned (.int .i64 2) ∧ Below w.heap.size w w' := width_any 2 w (by omega) (by omega)
theorem width_3 (w : World) : Calls Try.prog 99 #[.int .i64 3] w fun e w' => e = .returned (.int .i64 4) ∧ Below w.heap.size w w' := width_any 3 w (by omega) (by omega)
theorem width_4 (w : World) : Calls Try.prog 99 #[.int .i64 4] w fun e w' => e = .returned (.int .i64 8) ∧ Below w.heap.size w w' := width_any 4 w (by omega) (by omega)
set_option maxRecDepth 100000 in
set_option maxHeartbeats 4000000 in
theorem alike_1 (a b : OpA) (ps qs : List Nat) (w : World) (hk : a.kind = 1) (hn : a.n < 18446744073709551616) :
    Calls Try.prog 56 #[a.val, b.val] w fun e w' => e = .returned (.bool (Wd.alike (a.is ps) (b.is qs))) ∧ Below w.heap.size w w' := by
  obtain ⟨kind, at_, n, num, pa, pn, pc, t⟩ := a
  obtain ⟨kind2, at2, n2, num2, pa2, pn2, pc2, t2⟩ := b
  simp only at hk hn
  subst hk
  have HE : Hid (Wd.alike (OpA.is ⟨1, at_, n, num, pa, pn, pc, t⟩ ps) (OpA.is ⟨kind2, at2, n2, num2, pa2, pn2, pc2, t2⟩ qs) = decide (n % 256 = n2)) := Lib.hid (by unfold Wd.alike OpA.is; simp only [Wd.kd, if_true, if_false])
  unfold OpA.val
  simp only
  have hb := ((Below.refl w.heap.size w).alloc (Nat.le_refl _) (.cells #[.int .i64 1, .int .i64 at_, .int .u64 (n : Nat), .int .i64 num, .slice pa pn pc, .string t] 54)).alloc (by simp) (.cells #[.int .i64 kind2, .int .i64 at2, .int .u64 (n2 : Nat), .int .i64 num2, .slice pa2 pn2 pc2, .string t2] 54)
  have hrow := (Row.new w 54 [.int .i64 1, .int .i64 at_, .int .u64 (n : Nat), .int .i64 num, .slice pa pn pc, .string t]).alloc (.cells #[.int .i64 kind2, .int .i64 at2, .int .u64 (n2 : Nat), .int .i64 num2, .slice pa2 pn2 pc2, .string t2] 54)
  have hrow2 := Row.new (w.alloc (.cells #[.int .i64 1, .int .i64 at_, .int .u64 (n : Nat), .int .i64 num, .slice pa pn pc, .string t] 54)) 54 [.int .i64 kind2, .int .i64 at2, .int .u64 (n2 : Nat), .int .i64 num2, .slice pa2 pn2 pc2, .string t2]
  have hsz1 : (w.alloc (.cells [.int .i64 1, .int .i64 at_, .int .u64 (n : Nat), .int .i64 num, .slice pa pn pc, .string t].toArray 54)).heap.size = w.heap.size + 1 := by simp
  have HB := Lib.hid hb
  rw [hsz1] at hrow2
  have HR := Lib.hid hrow; have HR2 := Lib.hid hrow2
  clear hsz1
  clear hb hrow hrow2
  have e1 : IntKind.i64.wrap 8 = 8 := by decide
  have e2 : IntKind.u64.wrap 8 = 8 := by decide
  have e4 : IntKind.u64.wrap 256 = 256 := by decide
  have e5 : (n : Int).tmod 256 = ((n % 256 : Nat) : Int) := by rw [Int.tmod_eq_emod_of_nonneg (by omega)]; omega
  go_enter Try.func56, Try.ntmps56
  go_wp2_with fail
  go_region_law (first
    | (go_simp; go_at_call 99; refine (width_1 _).mono ?_; rintro e w2 ⟨rfl, hb2⟩; obtain ⟨d0, d1, d2, d3, d4, d5, e0, e1, e2, e3, e4, e5⟩ := row_cells6 (HR.out.below (w' := w2) ⟨hb2.os, hb2.tape, hb2.output, hb2.size, hb2.block⟩ HR.out.lt); obtain ⟨a0, a1, a2, a3, a4, a5, b0, b1, b2, b3, b4, b5⟩ := row_cells6 (HR2.out.below (w' := w2) ⟨hb2.os, hb2.tape, hb2.output, hb2.size, hb2.block⟩ HR2.out.lt)))
  all_goals
    have HB2 := Lib.hid hb2
    clear hb2 a0 a1 a2 a3 a4 a5 b0 b1 b2 b3 b4 b5 d0 d1 d2 d3 d4 d5 e0 e1 e2 e3 e4 e5
    go_wp2_with fail
    go_ret
    rw [HE.out]
    refine ⟨?_, below_dtwo HB.out HB2.out⟩
    have hq : ((n : Int) % 256 == (n2 : Int)) = decide (n % 256 = n2) := by rw [Bool.eq_iff_iff]; simp; omega
    rw [← hq]
    clear hq
    go_simp
set_option maxRecDepth 100000 in
set_option maxHeartbeats 4000000 in
theorem alike_2 (a b : OpA) (ps qs : List Nat) (w : World) (hk : a.kind = 2) (hn : a.n < 18446744073709551616) :
    Calls Try.prog 56 #[a.val, b.val] w fun e w' => e = .returned (.bool (Wd.alike (a.is ps) (b.is qs))) ∧ Below w.heap.size w w' := by
  obtain ⟨kind, at_, n, num, pa, pn, pc, t⟩ := a
  obtain ⟨kind2, at2, n2, num2, pa2, pn2, pc2, t2⟩ := b
  simp only at hk hn
  subst hk
  have HE : Hid (Wd.alike (OpA.is ⟨2, at_, n, num, pa, pn, pc, t⟩ ps) (OpA.is ⟨kind2, at2, n2, num2, pa2, pn2, pc2, t2⟩ qs) = decide (n % 65536 = n2)) := Lib.hid (by unfold Wd.alike OpA.is; simp only [Wd.kd, if_true, if_false])
  unfold OpA.val
  simp only
  have hb := ((Below.refl w.heap.size w).alloc (Nat.le_refl _) (.cells #[.int .i64 2, .int .i64 at_, .int .u64 (n : Nat), .int .i64 num, .slice pa pn pc, .string t] 54)).alloc (by simp) (.cells #[.int .i64 kind2, .int .i64 at2, .int .u64 (n2 : Nat), .int .i64 num2, .slice pa2 pn2 pc2, .string t2] 54)
  have hrow := (Row.new w 54 [.int .i64 2, .int .i64 at_, .int .u64 (n : Nat), .int .i64 num, .slice pa pn pc, .string t]).alloc (.cells #[.int .i64 kind2, .int .i64 at2, .int .u64 (n2 : Nat), .int .i64 num2, .slice pa2 pn2 pc2, .string t2] 54)
  have hrow2 := Row.new (w.alloc (.cells #[.int .i64 2, .int .i64 at_, .int .u64 (n : Nat), .int .i64 num, .slice pa pn pc, .string t] 54)) 54 [.int .i64 kind2, .int .i64 at2, .int .u64 (n2 : Nat), .int .i64 num2, .slice pa2 pn2 pc2, .string t2]
  have hsz1 : (w.alloc (.cells [.int .i64 2, .int .i64 at_, .int .u64 (n : Nat), .int .i64 num, .slice pa pn pc, .string t].toArray 54)).heap.size = w.heap.size + 1 := by simp
  have HB := Lib.hid hb
  rw [hsz1] at hrow2
  have HR := Lib.hid hrow; have HR2 := Lib.hid hrow2
  clear hsz1
  clear hb hrow hrow2
  have e1 : IntKind.i64.wrap 16 = 16 := by decide
  have e2 : IntKind.u64.wrap 16 = 16 := by decide
  have e4 : IntKind.u64.wrap 65536 = 65536 := by decide
  have e5 : (n : Int).tmod 65536 = ((n % 65536 : Nat) : Int) := by rw [Int.tmod_eq_emod_of_nonneg (by omega)]; omega
  go_enter Try.func56, Try.ntmps56
  go_wp2_with fail
  go_region_law (first
    | (go_simp; go_at_call 99; refine (width_2 _).mono ?_; rintro e w2 ⟨rfl, hb2⟩; obtain ⟨d0, d1, d2, d3, d4, d5, e0, e1, e2, e3, e4, e5⟩ := row_cells6 (HR.out.below (w' := w2) ⟨hb2.os, hb2.tape, hb2.output, hb2.size, hb2.block⟩ HR.out.lt); obtain ⟨a0, a1, a2, a3, a4, a5, b0, b1, b2, b3, b4, b5⟩ := row_cells6 (HR2.out.below (w' := w2) ⟨hb2.os, hb2.tape, hb2.output, hb2.size, hb2.block⟩ HR2.out.lt)))
  all_goals
    have HB2 := Lib.hid hb2
    clear hb2 a0 a1 a2 a3 a4 a5 b0 b1 b2 b3 b4 b5 d0 d1 d2 d3 d4 d5 e0 e1 e2 e3 e4 e5
    go_wp2_with fail
    go_ret
    rw [HE.out]
    refine ⟨?_, below_dtwo HB.out HB2.out⟩
    have hq : ((n : Int) % 65536 == (n2 : Int)) = decide (n % 65536 = n2) := by rw [Bool.eq_iff_iff]; simp; omega
    rw [← hq]
    clear hq
    go_simp
set_option maxRecDepth 100000 in
set_option maxHeartbeats 4000000 in
theorem alike_3 (a b : OpA) (ps qs : List Nat) (w : World) (hk : a.kind = 3) (hn : a.n < 18446744073709551616) :
    Calls Try.prog 56 #[a.val, b.val] w fun e w' => e = .returned (.bool (Wd.alike (a.is ps) (b.is qs))) ∧ Below w.heap.size w w' := by
  obtain ⟨kind, at_, n, num, pa, pn, pc, t⟩ := a
  obtain ⟨kind2, at2, n2, num2, pa2, pn2, pc2, t2⟩ := b
  simp only at hk hn
  subst hk
  have HE : Hid (Wd.alike (OpA.is ⟨3, at_, n, num, pa, pn, pc, t⟩ ps) (OpA.is ⟨kind2, at2, n2, num2, pa2, pn2, pc2, t2⟩ qs) = decide (n % 4294967296 = n2)) := Lib.hid (by unfold Wd.alike OpA.is; simp only [Wd.kd, if_true, if_false])
  unfold OpA.val
  simp only
  have hb := ((Below.refl w.heap.size w).alloc (Nat.le_refl _) (.cells #[.int .i64 3, .int .i64 at_, .int .u64 (n : Nat), .int .i64 num, .slice pa pn pc, .string t] 54)).alloc (by simp) (.cells #[.int .i64 kind2, .int .i64 at2, .int .u64 (n2 : Nat), .int .i64 num2, .slice pa2 pn2 pc2, .string t2] 54)
  have hrow := (Row.new w 54 [.int .i64 3, .int .i64 at_, .int .u64 (n : Nat), .int .i64 num, .slice pa pn pc, .string t]).alloc (.cells #[.int .i64 kind2, .int .i64 at2, .int .u64 (n2 : Nat), .int .i64 num2, .slice pa2 pn2 pc2, .string t2] 54)
  have hrow2 := Row.new (w.alloc (.cells #[.int .i64 3, .int .i64 at_, .int .u64 (n : Nat), .int .i64 num, .slice pa pn pc, .string t] 54)) 54 [.int .i64 kind2, .int .i64 at2, .int .u64 (n2 : Nat), .int .i64 num2, .slice pa2 pn2 pc2, .string t2]
  have hsz1 : (w.alloc (.cells [.int .i64 3, .int .i64 at_, .int .u64 (n : Nat), .int .i64 num, .slice pa pn pc, .string t].toArray 54)).heap.size = w.heap.size + 1 := by simp
  have HB := Lib.hid hb
  rw [hsz1] at hrow2
  have HR := Lib.hid hrow; have HR2 := Lib.hid hrow2
  clear hsz1
  clear hb hrow hrow2
  have e1 : IntKind.i64.wrap 32 = 32 := by decide
  have e2 : IntKind.u64.wrap 32 = 32 := by decide
  have e4 : IntKind.u64.wrap 4294967296 = 4294967296 := by decide
  have e5 : (n : Int).tmod 4294967296 = ((n % 4294967296 : Nat) : Int) := by rw [Int.tmod_eq_emod_of_nonneg (by omega)]; omega
  go_enter Try.func56, Try.ntmps56
  go_wp2_with fail
  go_region_law (first
    | (go_simp; go_at_call 99; refine (width_3 _).mono ?_; rintro e w2 ⟨rfl, hb2⟩; obtain ⟨d0, d1, d2, d3, d4, d5, e0, e1, e2, e3, e4, e5⟩ := row_cells6 (HR.out.below (w' := w2) ⟨hb2.os, hb2.tape, hb2.output, hb2.size, hb2.block⟩ HR.out.lt); obtain ⟨a0, a1, a2, a3, a4, a5, b0, b1, b2, b3, b4, b5⟩ := row_cells6 (HR2.out.below (w' := w2) ⟨hb2.os, hb2.tape, hb2.output, hb2.size, hb2.block⟩ HR2.out.lt)))
  all_goals
    have HB2 := Lib.hid hb2
    clear hb2 a0 a1 a2 a3 a4 a5 b0 b1 b2 b3 b4 b5 d0 d1 d2 d3 d4 d5 e0 e1 e2 e3 e4 e5
    go_wp2_with fail
    go_ret
    rw [HE.out]
    refine ⟨?_, below_dtwo HB.out HB2.out⟩
    have hq : ((n : Int) % 4294967296 == (n2 : Int)) = decide (n % 4294967296 = n2) := by rw [Bool.eq_iff_iff]; simp; omega
    rw [← hq]
    clear hq
    go_simp
set_option maxRecDepth 100000 in
set_option maxHeartbeats 1000000 in
theorem alike_4 (a b : OpA) (ps qs : List Nat) (w : World) (hk : a.kind = 4) :
    Calls Try.prog 56 #[a.val, b.val] w fun e w' => e = .returned (.bool (Wd.alike (a.is ps) (b.is qs))) ∧ Below w.heap.size w w' := by
  obtain ⟨kind, at_, n, num, pa, pn, pc, t⟩ := a
  obtain ⟨kind2, at2, n2, num2, pa2, pn2, pc2, t2⟩ := b
  simp only at hk
  subst hk
  have HE : Hid (Wd.alike (OpA.is ⟨4, at_, n, num, pa, pn, pc, t⟩ ps) (OpA.is ⟨kind2, at2, n2, num2, pa2, pn2, pc2, t2⟩ qs) = decide (n = n2)) := Lib.hid (by unfold Wd.alike OpA.is; simp only [Wd.kd, if_true, if_false])
  unfold OpA.val
  simp only
  have hb := ((Below.refl w.heap.size w).alloc (Nat.le_refl _) (.cells #[.int .i64 4, .int .i64 at_, .int .u64 (n : Nat), .int .i64 num, .slice pa pn pc, .string t] 54)).alloc (by simp) (.cells #[.int .i64 kind2, .int .i64 at2, .int .u64 (n2 : Nat), .int .i64 num2, .slice pa2 pn2 pc2, .string t2] 54)
  have HB := Lib.hid hb
  clear hb
  go_enter Try.func56, Try.ntmps56
  go_wp2_with fail
  go_ret
  rw [HE.out]
  exact ⟨ret_bool (by rw [Bool.eq_iff_iff]; simp; omega), HB.out⟩
set_option maxRecDepth 100000 in
set_option maxHeartbeats 1000000 in
theorem alike_5 (a b : OpA) (ps qs : List Nat) (w : World) (hk : a.kind = 5) (hp : IsB w w.heap.size a.pa a.pn ps) (hq : IsB w w.heap.size b.pa b.pn qs) :
    Calls Try.prog 56 #[a.val, b.val] w fun e w' => e = .returned (.bool (Wd.alike (a.is ps) (b.is qs))) ∧ Below w.heap.size w w' := by
  obtain ⟨kind, at_, n, num, pa, pn, pc, t⟩ := a
  obtain ⟨kind2, at2, n2, num2, pa2, pn2, pc2, t2⟩ := b
  simp only at hk hp hq
  subst hk
  have HE : Hid (Wd.alike (OpA.is ⟨5, at_, n, num, pa, pn, pc, t⟩ ps) (OpA.is ⟨kind2, at2, n2, num2, pa2, pn2, pc2, t2⟩ qs) = decide (ps = qs)) := Lib.hid (by unfold Wd.alike OpA.is; simp only [Wd.kd, if_true, if_false])
  unfold OpA.val
  simp only
  have hb := ((Below.refl w.heap.size w).alloc (Nat.le_refl _) (.cells #[.int .i64 5, .int .i64 at_, .int .u64 (n : Nat), .int .i64 num, .slice pa pn pc, .string t] 54)).alloc (by simp) (.cells #[.int .i64 kind2, .int .i64 at2, .int .u64 (n2 : Nat), .int .i64 num2, .slice pa2 pn2 pc2, .string t2] 54)
  have hc1 := run_string_of 22 9 pa pn pc _ ps _ Try.underlying22 Try.underlying9 (hp.below hb)
  have hc2 := run_string_of 22 9 pa2 pn2 pc2 _ qs _ Try.underlying22 Try.underlying9 (hq.below hb)
  have HPB := Lib.hid hp.2.1; have HQB := Lib.hid hq.2.1
  clear hp hq
  have HB := Lib.hid hb
  clear hb
  go_enter Try.func56, Try.ntmps56
  go_wp2_with fail
  go_ret
  rw [HE.out]
  exact ⟨ret_bool (by rw [str_beq, sb_bs2s _ HPB.out, sb_bs2s _ HQB.out]), HB.out⟩
set_option maxRecDepth 100000 in
set_option maxHeartbeats 1000000 in
theorem alike_6 (a b : OpA) (ps qs : List Nat) (w : World) (hk : a.kind = 6) :
    Calls Try.prog 56 #[a.val, b.val] w fun e w' => e = .returned (.bool (Wd.alike (a.is ps) (b.is qs))) ∧ Below w.heap.size w w' := by
  obtain ⟨kind, at_, n, num, pa, pn, pc, t⟩ := a
  obtain ⟨kind2, at2, n2, num2, pa2, pn2, pc2, t2⟩ := b
  simp only at hk
  subst hk
  have HE : Hid (Wd.alike (OpA.is ⟨6, at_, n, num, pa, pn, pc, t⟩ ps) (OpA.is ⟨kind2, at2, n2, num2, pa2, pn2, pc2, t2⟩ qs) = decide (sb t = sb t2)) := Lib.hid (by unfold Wd.alike OpA.is; simp only [Wd.kd, if_true, if_false])
  unfold OpA.val
  simp only
  have hb := ((Below.refl w.heap.size w).alloc (Nat.le_refl _) (.cells #[.int .i64 6, .int .i64 at_, .int .u64 (n : Nat), .int .i64 num, .slice pa pn pc, .string t] 54)).alloc (by simp) (.cells #[.int .i64 kind2, .int .i64 at2, .int .u64 (n2 : Nat), .int .i64 num2, .slice pa2 pn2 pc2, .string t2] 54)
  have HB := Lib.hid hb
  clear hb
  go_enter Try.func56, Try.ntmps56
  go_wp2_with fail
  go_ret
  rw [HE.out]
  exact ⟨ret_bool (str_beq _ _), HB.out⟩
set_option maxRecDepth 100000 in
set_option maxHeartbeats 1000000 in
theorem alike_0 (a b : OpA) (ps qs : List Nat) (w : World) (hk : a.kind ≠ 1 ∧ a.kind ≠ 2 ∧ a.kind ≠ 3 ∧ a.kind ≠ 4 ∧ a.kind ≠ 5 ∧ a.kind ≠ 6) :
    Calls Try.prog 56 #[a.val, b.val] w fun e w' => e = .returned (.bool (Wd.alike (a.is ps) (b.is qs))) ∧ Below w.heap.size w w' := by
  obtain ⟨kind, at_, n, num, pa, pn, pc, t⟩ := a
  obtain ⟨kind2, at2, n2, num2, pa2, pn2, pc2, t2⟩ := b
  obtain ⟨k1, k2, k3, k4, k5, k6⟩ := hk
  simp only at k1 k2 k3 k4 k5 k6
  have HE : Hid (Wd.alike (OpA.is ⟨kind, at_, n, num, pa, pn, pc, t⟩ ps) (OpA.is ⟨kind2, at2, n2, num2, pa2, pn2, pc2, t2⟩ qs) = true) := Lib.hid (by unfold Wd.alike OpA.is; simp only [k1, k2, k3, k4, k5, k6, if_true, if_false])
  unfold OpA.val
  simp only
  have hb := ((Below.refl w.heap.size w).alloc (Nat.le_refl _) (.cells #[.int .i64 kind, .int .i64 at_, .int .u64 (n : Nat), .int .i64 num, .slice pa pn pc, .string t] 54)).alloc (by simp) (.cells #[.int .i64 kind2, .int .i64 at2, .int .u64 (n2 : Nat), .int .i64 num2, .slice pa2 pn2 pc2, .string t2] 54)
  have h1 : (kind == 1) = false := beq_eq_false_iff_ne.2 k1
  have h2 : (kind == 2) = false := beq_eq_false_iff_ne.2 k2
  have h3 : (kind == 3) = false := beq_eq_false_iff_ne.2 k3
  have h4 : (kind == 4) = false := beq_eq_false_iff_ne.2 k4
  have h5 : (kind == 5) = false := beq_eq_false_iff_ne.2 k5
  have h6 : (kind == 6) = false := beq_eq_false_iff_ne.2 k6
  clear k1 k2 k3 k4 k5 k6
  have HB := Lib.hid hb
  clear hb
  go_enter Try.func56, Try.ntmps56
  go_wp2_with fail
  go_ret
  rw [HE.out]
  exact ⟨rfl, HB.out⟩
theorem alike_any (a b : OpA) (ps qs : List Nat) (w : World) (ha : a.Ok w ps) (hb : b.Ok w qs) :
    Calls Try.prog 56 #[a.val, b.val] w fun e w' => e = .returned (.bool (Wd.alike (a.is ps) (b.is qs))) ∧ Below w.heap.size w w' := by
  by_cases k1 : a.kind = 1
  · exact alike_1 a b ps qs w k1 ha.2.1
  by_cases k2 : a.kind = 2
  · exact alike_2 a b ps qs w k2 ha.2.1
  by_cases k3 : a.kind = 3
  · exact alike_3 a b ps qs w k3 ha.2.1
  by_cases k4 : a.kind = 4
  · exact alike_4 a b ps qs w k4
  by_cases k5 : a.kind = 5
  · exact alike_5 a b ps qs w k5 ha.1 hb.1
  by_cases k6 : a.kind = 6
  · exact alike_6 a b ps qs w k6
  · exact alike_0 a b ps qs w ⟨k1, k2, k3, k4, k5, k6⟩
end Go.Proofs.Ytajkiglogfahfaa
