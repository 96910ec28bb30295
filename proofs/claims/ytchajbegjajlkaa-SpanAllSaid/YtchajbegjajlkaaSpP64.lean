/- The walk of the law's pair. -/
import Derived.Test.YtchajbegjajlkaaSpR64
set_option linter.unusedVariables false
set_option linter.unusedSimpArgs false
namespace Go.Proofs.Ytchajbegjajlkaa
open Go.RowKit
namespace S64
/-- a number as far as the type holds it -/
abbrev cutN (x : Nat) : Nat := x % 18446744073709551616
theorem cutN_le (x : Nat) : cutN x ≤ TOP := by unfold cutN TOP; omega
set_option maxRecDepth 100000 in
set_option maxHeartbeats 1000000 in
theorem pair_any (x y : Nat) (w : World) (hx : x ≤ 18446744073709551615) (hy : y ≤ 18446744073709551615) :
    Calls Try.prog 13 #[.int .u64 (x : Nat), .int .u64 (y : Nat)] w fun e w' => e = .returned (.agg #[.int .u64 (cutN x : Nat), .int .u64 (cutN y : Nat)]) ∧ Below w.heap.size w w' := by
  obtain ⟨a, ha⟩ : ∃ a, a = cutN x := ⟨_, rfl⟩
  obtain ⟨b, hb⟩ : ∃ b, b = cutN y := ⟨_, rfl⟩
  have e1 : IntKind.u64.wrap (x : Int) = (a : Int) := by rw [IntKind.wrap_u64, ha]; unfold cutN; omega
  have e2 : IntKind.u64.wrap (y : Int) = (b : Int) := by rw [IntKind.wrap_u64, hb]; unfold cutN; omega
  rw [← ha, ← hb]
  obtain rfl : a = x := by rw [ha]; unfold cutN; omega
  obtain rfl : b = y := by rw [hb]; unfold cutN; omega
  clear ha hb hx hy
  go_enter Try.func13, Try.ntmps13
  have HB : Hid (Below w.heap.size w (w.alloc (.cells #[.int .u64 (a : Nat), .int .u64 (b : Nat)] 35))) := Lib.hid ((Below.refl _ _).alloc (Nat.le_refl _) _)
  have hr := Row.new w 35 [.int .u64 0, .int .u64 0]
  have hb0 : Below w.heap.size w (w.alloc (.cells #[.int .u64 0, .int .u64 0] 35)) := (Below.refl _ _).alloc (Nat.le_refl _) _
  go_upto_region 1 with fail
  generalize w.alloc (.cells #[.int .u64 0, .int .u64 0] 35) = w1 at *
  have r2 := (hr.set_ 0 (.int .u64 (a : Nat))).set_ 1 (.int .u64 (b : Nat))
  have HBZ := Lib.hid ((hb0.setCell (p := ⟨w.heap.size, 0, none⟩) (Nat.le_refl _) (.int .u64 (a : Nat))).setCell (p := ⟨w.heap.size, 1, none⟩) (Nat.le_refl _) (.int .u64 (b : Nat)))
  have f0 := hr.frozen 0
  have f1 := hr.frozen 1
  have c0 := hr.cell 0
  have c1 := hr.cell 1
  have cl := hr.lt
  have HP0 := Lib.hid ((hr.set_ 0 (.int .u64 (a : Nat))).cell 0)
  have HP1 := Lib.hid (r2.cell 1)
  simp only [List.set_cons_zero, List.set_cons_succ, List.getElem?_cons_zero, List.getElem?_cons_succ] at c0 c1 HP0 HP1
  clear hr hb0 r2
  go_wp2_with fail
  have p0 := HP0.out
  have p1 := HP1.out
  exact bodyPost_ret (v := .agg #[.int .u64 (a : Nat), .int .u64 (b : Nat)]) (by simp [results, Try.results13, go_sem, p0, p1]) rfl ⟨rfl, HBZ.out⟩
end S64
end Go.Proofs.Ytchajbegjajlkaa
