/- The walks of the law's to[M] and sums[N]. -/
import Derived.Test.YtomjmapidjnpbaaGreatToZ
set_option linter.unusedVariables false
set_option linter.unusedSimpArgs false
namespace Go.Proofs.YtomjmapidjnpbaaGreat
open Go.RowKit

theorem Num.to_lt {M n : Nat} (h : 0 < M) : (Num.to M n).1 < M := by unfold Num.to; split <;> simp <;> omega
theorem Num.add_lt {M a b : Nat} (h : 0 < M) : (Num.add M a b).1 < M := by unfold Num.add; split <;> simp <;> omega
theorem Num.sub_lt {M a b : Nat} (h : a < M) : (Num.sub a b).1 < M := by unfold Num.sub; split <;> simp <;> omega
theorem Num.mul_lt {M a b : Nat} (h : 0 < M) : (Num.mul M a b).1 < M := by unfold Num.mul; split <;> simp <;> omega
theorem Num.up_lt {M a b : Nat} (h : a < M) : (Num.up M a b).1 < M := by
  unfold Num.up
  split
  · simp; omega
  · split
    · exact h
    · exact Num.add_lt (by omega)
set_option maxHeartbeats 1000000 in
theorem tos_uint8 (n : Nat) (w : World) (hn : n < 256) :
    Calls Tryz.prog 13 #[.int .u8 (n : Nat)] w fun e w' => e = .returned (.bool true) ∧ w = w' := by
  obtain ⟨⟨x0, q0⟩, p0⟩ : ∃ p, Num.to 256 n = p := ⟨_, rfl⟩
  have b0 : x0 < 256 := by have h := Num.to_lt (M := 256) (n := n) (by decide); rw [p0] at h; exact h
  have v0 : IntKind.u64.wrap (x0 : Int) = (x0 : Int) := Num.wrapN _ (by omega)
  have r0 : Calls Tryz.prog 53 #[.int .u64 (n : Nat), .int .i64 1] w fun e w' => e = .returned (.tuple #[.int .u64 (x0 : Nat), .bool q0]) ∧ w = w' := rto_any n 1 256 (by decide) (by decide) w _ p0
  have R0 := Lib.hid r0
  have t0 : Calls Tryz.prog 52 #[.int .u8 (n : Nat)] w fun e w' => e = .returned (.tuple #[.int .u8 (x0 : Nat), .bool q0]) ∧ w = w' := to_uint8_uint8 n w hn _ p0
  have T0 := Lib.hid t0
  obtain ⟨⟨x1, q1⟩, p1⟩ : ∃ p, Num.to 65536 n = p := ⟨_, rfl⟩
  have b1 : x1 < 65536 := by have h := Num.to_lt (M := 65536) (n := n) (by decide); rw [p1] at h; exact h
  have v1 : IntKind.u64.wrap (x1 : Int) = (x1 : Int) := Num.wrapN _ (by omega)
  have r1 : Calls Tryz.prog 53 #[.int .u64 (n : Nat), .int .i64 2] w fun e w' => e = .returned (.tuple #[.int .u64 (x1 : Nat), .bool q1]) ∧ w = w' := rto_any n 2 65536 (by decide) (by decide) w _ p1
  have R1 := Lib.hid r1
  have t1 : Calls Tryz.prog 54 #[.int .u8 (n : Nat)] w fun e w' => e = .returned (.tuple #[.int .u16 (x1 : Nat), .bool q1]) ∧ w = w' := to_uint16_uint8 n w hn _ p1
  have T1 := Lib.hid t1
  obtain ⟨⟨x2, q2⟩, p2⟩ : ∃ p, Num.to 4294967296 n = p := ⟨_, rfl⟩
  have b2 : x2 < 4294967296 := by have h := Num.to_lt (M := 4294967296) (n := n) (by decide); rw [p2] at h; exact h
  have v2 : IntKind.u64.wrap (x2 : Int) = (x2 : Int) := Num.wrapN _ (by omega)
  have r2 : Calls Tryz.prog 53 #[.int .u64 (n : Nat), .int .i64 4] w fun e w' => e = .returned (.tuple #[.int .u64 (x2 : Nat), .bool q2]) ∧ w = w' := rto_any n 4 4294967296 (by decide) (by decide) w _ p2
  have R2 := Lib.hid r2
  have t2 : Calls Tryz.prog 55 #[.int .u8 (n : Nat)] w fun e w' => e = .returned (.tuple #[.int .u32 (x2 : Nat), .bool q2]) ∧ w = w' := to_uint32_uint8 n w hn _ p2
  have T2 := Lib.hid t2
  have p3 : Num.to 18446744073709551616 n = (n, true) := by unfold Num.to; rw [if_pos (by omega)]
  have t3 : Calls Tryz.prog 56 #[.int .u8 (n : Nat)] w fun e w' => e = .returned (.tuple #[.int .u64 (n : Nat), .bool true]) ∧ w = w' := to_uint64_uint8 n w hn _ p3
  have T3 := Lib.hid t3
  have t4 : Calls Tryz.prog 57 #[.int .u8 (n : Nat)] w fun e w' => e = .returned (.tuple #[.int .u16 (x1 : Nat), .bool q1]) ∧ w = w' := to_Small_uint8 n w hn _ p1
  have T4 := Lib.hid t4
  have v9 : IntKind.u64.wrap (n : Int) = (n : Int) := Num.wrapN _ (by omega)
  clear p0 p1 p2 p3 b0 b1 b2 r0 r1 r2 t0 t1 t2 t3 t4
  go_enter Tryz.func13, Tryz.ntmps13
  go_wp2_with (first 
    | (go_at_call 53; with_reducible refine R0.out.mono ?_; rintro e w' ⟨rfl, rfl⟩)
    | (go_at_call 52; refine T0.out.mono ?_; rintro e w' ⟨rfl, rfl⟩)
    | (go_at_call 53; with_reducible refine R1.out.mono ?_; rintro e w' ⟨rfl, rfl⟩)
    | (go_at_call 54; refine T1.out.mono ?_; rintro e w' ⟨rfl, rfl⟩)
    | (go_at_call 53; with_reducible refine R2.out.mono ?_; rintro e w' ⟨rfl, rfl⟩)
    | (go_at_call 55; refine T2.out.mono ?_; rintro e w' ⟨rfl, rfl⟩)
    | (go_at_call 56; refine T3.out.mono ?_; rintro e w' ⟨rfl, rfl⟩)
    | (go_at_call 57; refine T4.out.mono ?_; rintro e w' ⟨rfl, rfl⟩))
  go_ret
  exact ⟨by simp, rfl⟩
set_option maxHeartbeats 1000000 in
theorem tos_uint16 (n : Nat) (w : World) (hn : n < 65536) :
    Calls Tryz.prog 14 #[.int .u16 (n : Nat)] w fun e w' => e = .returned (.bool true) ∧ w = w' := by
  obtain ⟨⟨x0, q0⟩, p0⟩ : ∃ p, Num.to 256 n = p := ⟨_, rfl⟩
  have b0 : x0 < 256 := by have h := Num.to_lt (M := 256) (n := n) (by decide); rw [p0] at h; exact h
  have v0 : IntKind.u64.wrap (x0 : Int) = (x0 : Int) := Num.wrapN _ (by omega)
  have r0 : Calls Tryz.prog 53 #[.int .u64 (n : Nat), .int .i64 1] w fun e w' => e = .returned (.tuple #[.int .u64 (x0 : Nat), .bool q0]) ∧ w = w' := rto_any n 1 256 (by decide) (by decide) w _ p0
  have R0 := Lib.hid r0
  have t0 : Calls Tryz.prog 58 #[.int .u16 (n : Nat)] w fun e w' => e = .returned (.tuple #[.int .u8 (x0 : Nat), .bool q0]) ∧ w = w' := to_uint8_uint16 n w hn _ p0
  have T0 := Lib.hid t0
  obtain ⟨⟨x1, q1⟩, p1⟩ : ∃ p, Num.to 65536 n = p := ⟨_, rfl⟩
  have b1 : x1 < 65536 := by have h := Num.to_lt (M := 65536) (n := n) (by decide); rw [p1] at h; exact h
  have v1 : IntKind.u64.wrap (x1 : Int) = (x1 : Int) := Num.wrapN _ (by omega)
  have r1 : Calls Tryz.prog 53 #[.int .u64 (n : Nat), .int .i64 2] w fun e w' => e = .returned (.tuple #[.int .u64 (x1 : Nat), .bool q1]) ∧ w = w' := rto_any n 2 65536 (by decide) (by decide) w _ p1
  have R1 := Lib.hid r1
  have t1 : Calls Tryz.prog 59 #[.int .u16 (n : Nat)] w fun e w' => e = .returned (.tuple #[.int .u16 (x1 : Nat), .bool q1]) ∧ w = w' := to_uint16_uint16 n w hn _ p1
  have T1 := Lib.hid t1
  obtain ⟨⟨x2, q2⟩, p2⟩ : ∃ p, Num.to 4294967296 n = p := ⟨_, rfl⟩
  have b2 : x2 < 4294967296 := by have h := Num.to_lt (M := 4294967296) (n := n) (by decide); rw [p2] at h; exact h
  have v2 : IntKind.u64.wrap (x2 : Int) = (x2 : Int) := Num.wrapN _ (by omega)
  have r2 : Calls Tryz.prog 53 #[.int .u64 (n : Nat), .int .i64 4] w fun e w' => e = .returned (.tuple #[.int .u64 (x2 : Nat), .bool q2]) ∧ w = w' := rto_any n 4 4294967296 (by decide) (by decide) w _ p2
  have R2 := Lib.hid r2
  have t2 : Calls Tryz.prog 60 #[.int .u16 (n : Nat)] w fun e w' => e = .returned (.tuple #[.int .u32 (x2 : Nat), .bool q2]) ∧ w = w' := to_uint32_uint16 n w hn _ p2
  have T2 := Lib.hid t2
  have p3 : Num.to 18446744073709551616 n = (n, true) := by unfold Num.to; rw [if_pos (by omega)]
  have t3 : Calls Tryz.prog 61 #[.int .u16 (n : Nat)] w fun e w' => e = .returned (.tuple #[.int .u64 (n : Nat), .bool true]) ∧ w = w' := to_uint64_uint16 n w hn _ p3
  have T3 := Lib.hid t3
  have t4 : Calls Tryz.prog 62 #[.int .u16 (n : Nat)] w fun e w' => e = .returned (.tuple #[.int .u16 (x1 : Nat), .bool q1]) ∧ w = w' := to_Small_uint16 n w hn _ p1
  have T4 := Lib.hid t4
  have v9 : IntKind.u64.wrap (n : Int) = (n : Int) := Num.wrapN _ (by omega)
  clear p0 p1 p2 p3 b0 b1 b2 r0 r1 r2 t0 t1 t2 t3 t4
  go_enter Tryz.func14, Tryz.ntmps14
  go_wp2_with (first 
    | (go_at_call 53; with_reducible refine R0.out.mono ?_; rintro e w' ⟨rfl, rfl⟩)
    | (go_at_call 58; refine T0.out.mono ?_; rintro e w' ⟨rfl, rfl⟩)
    | (go_at_call 53; with_reducible refine R1.out.mono ?_; rintro e w' ⟨rfl, rfl⟩)
    | (go_at_call 59; refine T1.out.mono ?_; rintro e w' ⟨rfl, rfl⟩)
    | (go_at_call 53; with_reducible refine R2.out.mono ?_; rintro e w' ⟨rfl, rfl⟩)
    | (go_at_call 60; refine T2.out.mono ?_; rintro e w' ⟨rfl, rfl⟩)
    | (go_at_call 61; refine T3.out.mono ?_; rintro e w' ⟨rfl, rfl⟩)
    | (go_at_call 62; refine T4.out.mono ?_; rintro e w' ⟨rfl, rfl⟩))
  go_ret
  exact ⟨by simp, rfl⟩
set_option maxHeartbeats 1000000 in
theorem tos_uint32 (n : Nat) (w : World) (hn : n < 4294967296) :
    Calls Tryz.prog 15 #[.int .u32 (n : Nat)] w fun e w' => e = .returned (.bool true) ∧ w = w' := by
  obtain ⟨⟨x0, q0⟩, p0⟩ : ∃ p, Num.to 256 n = p := ⟨_, rfl⟩
  have b0 : x0 < 256 := by have h := Num.to_lt (M := 256) (n := n) (by decide); rw [p0] at h; exact h
  have v0 : IntKind.u64.wrap (x0 : Int) = (x0 : Int) := Num.wrapN _ (by omega)
  have r0 : Calls Tryz.prog 53 #[.int .u64 (n : Nat), .int .i64 1] w fun e w' => e = .returned (.tuple #[.int .u64 (x0 : Nat), .bool q0]) ∧ w = w' := rto_any n 1 256 (by decide) (by decide) w _ p0
  have R0 := Lib.hid r0
  have t0 : Calls Tryz.prog 63 #[.int .u32 (n : Nat)] w fun e w' => e = .returned (.tuple #[.int .u8 (x0 : Nat), .bool q0]) ∧ w = w' := to_uint8_uint32 n w hn _ p0
  have T0 := Lib.hid t0
  obtain ⟨⟨x1, q1⟩, p1⟩ : ∃ p, Num.to 65536 n = p := ⟨_, rfl⟩
  have b1 : x1 < 65536 := by have h := Num.to_lt (M := 65536) (n := n) (by decide); rw [p1] at h; exact h
  have v1 : IntKind.u64.wrap (x1 : Int) = (x1 : Int) := Num.wrapN _ (by omega)
  have r1 : Calls Tryz.prog 53 #[.int .u64 (n : Nat), .int .i64 2] w fun e w' => e = .returned (.tuple #[.int .u64 (x1 : Nat), .bool q1]) ∧ w = w' := rto_any n 2 65536 (by decide) (by decide) w _ p1
  have R1 := Lib.hid r1
  have t1 : Calls Tryz.prog 64 #[.int .u32 (n : Nat)] w fun e w' => e = .returned (.tuple #[.int .u16 (x1 : Nat), .bool q1]) ∧ w = w' := to_uint16_uint32 n w hn _ p1
  have T1 := Lib.hid t1
  obtain ⟨⟨x2, q2⟩, p2⟩ : ∃ p, Num.to 4294967296 n = p := ⟨_, rfl⟩
  have b2 : x2 < 4294967296 := by have h := Num.to_lt (M := 4294967296) (n := n) (by decide); rw [p2] at h; exact h
  have v2 : IntKind.u64.wrap (x2 : Int) = (x2 : Int) := Num.wrapN _ (by omega)
  have r2 : Calls Tryz.prog 53 #[.int .u64 (n : Nat), .int .i64 4] w fun e w' => e = .returned (.tuple #[.int .u64 (x2 : Nat), .bool q2]) ∧ w = w' := rto_any n 4 4294967296 (by decide) (by decide) w _ p2
  have R2 := Lib.hid r2
  have t2 : Calls Tryz.prog 65 #[.int .u32 (n : Nat)] w fun e w' => e = .returned (.tuple #[.int .u32 (x2 : Nat), .bool q2]) ∧ w = w' := to_uint32_uint32 n w hn _ p2
  have T2 := Lib.hid t2
  have p3 : Num.to 18446744073709551616 n = (n, true) := by unfold Num.to; rw [if_pos (by omega)]
  have t3 : Calls Tryz.prog 66 #[.int .u32 (n : Nat)] w fun e w' => e = .returned (.tuple #[.int .u64 (n : Nat), .bool true]) ∧ w = w' := to_uint64_uint32 n w hn _ p3
  have T3 := Lib.hid t3
  have t4 : Calls Tryz.prog 67 #[.int .u32 (n : Nat)] w fun e w' => e = .returned (.tuple #[.int .u16 (x1 : Nat), .bool q1]) ∧ w = w' := to_Small_uint32 n w hn _ p1
  have T4 := Lib.hid t4
  have v9 : IntKind.u64.wrap (n : Int) = (n : Int) := Num.wrapN _ (by omega)
  clear p0 p1 p2 p3 b0 b1 b2 r0 r1 r2 t0 t1 t2 t3 t4
  go_enter Tryz.func15, Tryz.ntmps15
  go_wp2_with (first 
    | (go_at_call 53; with_reducible refine R0.out.mono ?_; rintro e w' ⟨rfl, rfl⟩)
    | (go_at_call 63; refine T0.out.mono ?_; rintro e w' ⟨rfl, rfl⟩)
    | (go_at_call 53; with_reducible refine R1.out.mono ?_; rintro e w' ⟨rfl, rfl⟩)
    | (go_at_call 64; refine T1.out.mono ?_; rintro e w' ⟨rfl, rfl⟩)
    | (go_at_call 53; with_reducible refine R2.out.mono ?_; rintro e w' ⟨rfl, rfl⟩)
    | (go_at_call 65; refine T2.out.mono ?_; rintro e w' ⟨rfl, rfl⟩)
    | (go_at_call 66; refine T3.out.mono ?_; rintro e w' ⟨rfl, rfl⟩)
    | (go_at_call 67; refine T4.out.mono ?_; rintro e w' ⟨rfl, rfl⟩))
  go_ret
  exact ⟨by simp, rfl⟩
set_option maxHeartbeats 1000000 in
theorem tos_uint64 (n : Nat) (w : World) (hn : n < 18446744073709551616) :
    Calls Tryz.prog 16 #[.int .u64 (n : Nat)] w fun e w' => e = .returned (.bool true) ∧ w = w' := by
  obtain ⟨⟨x0, q0⟩, p0⟩ : ∃ p, Num.to 256 n = p := ⟨_, rfl⟩
  have b0 : x0 < 256 := by have h := Num.to_lt (M := 256) (n := n) (by decide); rw [p0] at h; exact h
  have v0 : IntKind.u64.wrap (x0 : Int) = (x0 : Int) := Num.wrapN _ (by omega)
  have r0 : Calls Tryz.prog 53 #[.int .u64 (n : Nat), .int .i64 1] w fun e w' => e = .returned (.tuple #[.int .u64 (x0 : Nat), .bool q0]) ∧ w = w' := rto_any n 1 256 (by decide) (by decide) w _ p0
  have R0 := Lib.hid r0
  have t0 : Calls Tryz.prog 68 #[.int .u64 (n : Nat)] w fun e w' => e = .returned (.tuple #[.int .u8 (x0 : Nat), .bool q0]) ∧ w = w' := to_uint8_uint64 n w hn _ p0
  have T0 := Lib.hid t0
  obtain ⟨⟨x1, q1⟩, p1⟩ : ∃ p, Num.to 65536 n = p := ⟨_, rfl⟩
  have b1 : x1 < 65536 := by have h := Num.to_lt (M := 65536) (n := n) (by decide); rw [p1] at h; exact h
  have v1 : IntKind.u64.wrap (x1 : Int) = (x1 : Int) := Num.wrapN _ (by omega)
  have r1 : Calls Tryz.prog 53 #[.int .u64 (n : Nat), .int .i64 2] w fun e w' => e = .returned (.tuple #[.int .u64 (x1 : Nat), .bool q1]) ∧ w = w' := rto_any n 2 65536 (by decide) (by decide) w _ p1
  have R1 := Lib.hid r1
  have t1 : Calls Tryz.prog 69 #[.int .u64 (n : Nat)] w fun e w' => e = .returned (.tuple #[.int .u16 (x1 : Nat), .bool q1]) ∧ w = w' := to_uint16_uint64 n w hn _ p1
  have T1 := Lib.hid t1
  obtain ⟨⟨x2, q2⟩, p2⟩ : ∃ p, Num.to 4294967296 n = p := ⟨_, rfl⟩
  have b2 : x2 < 4294967296 := by have h := Num.to_lt (M := 4294967296) (n := n) (by decide); rw [p2] at h; exact h
  have v2 : IntKind.u64.wrap (x2 : Int) = (x2 : Int) := Num.wrapN _ (by omega)
  have r2 : Calls Tryz.prog 53 #[.int .u64 (n : Nat), .int .i64 4] w fun e w' => e = .returned (.tuple #[.int .u64 (x2 : Nat), .bool q2]) ∧ w = w' := rto_any n 4 4294967296 (by decide) (by decide) w _ p2
  have R2 := Lib.hid r2
  have t2 : Calls Tryz.prog 70 #[.int .u64 (n : Nat)] w fun e w' => e = .returned (.tuple #[.int .u32 (x2 : Nat), .bool q2]) ∧ w = w' := to_uint32_uint64 n w hn _ p2
  have T2 := Lib.hid t2
  have p3 : Num.to 18446744073709551616 n = (n, true) := by unfold Num.to; rw [if_pos (by omega)]
  have t3 : Calls Tryz.prog 71 #[.int .u64 (n : Nat)] w fun e w' => e = .returned (.tuple #[.int .u64 (n : Nat), .bool true]) ∧ w = w' := to_uint64_uint64 n w hn _ p3
  have T3 := Lib.hid t3
  have t4 : Calls Tryz.prog 72 #[.int .u64 (n : Nat)] w fun e w' => e = .returned (.tuple #[.int .u16 (x1 : Nat), .bool q1]) ∧ w = w' := to_Small_uint64 n w hn _ p1
  have T4 := Lib.hid t4
  have v9 : IntKind.u64.wrap (n : Int) = (n : Int) := Num.wrapN _ (by omega)
  clear p0 p1 p2 p3 b0 b1 b2 r0 r1 r2 t0 t1 t2 t3 t4
  go_enter Tryz.func16, Tryz.ntmps16
  go_wp2_with (first 
    | (go_at_call 53; with_reducible refine R0.out.mono ?_; rintro e w' ⟨rfl, rfl⟩)
    | (go_at_call 68; refine T0.out.mono ?_; rintro e w' ⟨rfl, rfl⟩)
    | (go_at_call 53; with_reducible refine R1.out.mono ?_; rintro e w' ⟨rfl, rfl⟩)
    | (go_at_call 69; refine T1.out.mono ?_; rintro e w' ⟨rfl, rfl⟩)
    | (go_at_call 53; with_reducible refine R2.out.mono ?_; rintro e w' ⟨rfl, rfl⟩)
    | (go_at_call 70; refine T2.out.mono ?_; rintro e w' ⟨rfl, rfl⟩)
    | (go_at_call 71; refine T3.out.mono ?_; rintro e w' ⟨rfl, rfl⟩)
    | (go_at_call 72; refine T4.out.mono ?_; rintro e w' ⟨rfl, rfl⟩))
  go_ret
  exact ⟨by simp, rfl⟩
set_option maxHeartbeats 1000000 in
theorem tos_Great (n : Nat) (w : World) (hn : n < 18446744073709551616) :
    Calls Tryz.prog 17 #[.int .u64 (n : Nat)] w fun e w' => e = .returned (.bool true) ∧ w = w' := by
  obtain ⟨⟨x0, q0⟩, p0⟩ : ∃ p, Num.to 256 n = p := ⟨_, rfl⟩
  have b0 : x0 < 256 := by have h := Num.to_lt (M := 256) (n := n) (by decide); rw [p0] at h; exact h
  have v0 : IntKind.u64.wrap (x0 : Int) = (x0 : Int) := Num.wrapN _ (by omega)
  have r0 : Calls Tryz.prog 53 #[.int .u64 (n : Nat), .int .i64 1] w fun e w' => e = .returned (.tuple #[.int .u64 (x0 : Nat), .bool q0]) ∧ w = w' := rto_any n 1 256 (by decide) (by decide) w _ p0
  have R0 := Lib.hid r0
  have t0 : Calls Tryz.prog 73 #[.int .u64 (n : Nat)] w fun e w' => e = .returned (.tuple #[.int .u8 (x0 : Nat), .bool q0]) ∧ w = w' := to_uint8_Great n w hn _ p0
  have T0 := Lib.hid t0
  obtain ⟨⟨x1, q1⟩, p1⟩ : ∃ p, Num.to 65536 n = p := ⟨_, rfl⟩
  have b1 : x1 < 65536 := by have h := Num.to_lt (M := 65536) (n := n) (by decide); rw [p1] at h; exact h
  have v1 : IntKind.u64.wrap (x1 : Int) = (x1 : Int) := Num.wrapN _ (by omega)
  have r1 : Calls Tryz.prog 53 #[.int .u64 (n : Nat), .int .i64 2] w fun e w' => e = .returned (.tuple #[.int .u64 (x1 : Nat), .bool q1]) ∧ w = w' := rto_any n 2 65536 (by decide) (by decide) w _ p1
  have R1 := Lib.hid r1
  have t1 : Calls Tryz.prog 74 #[.int .u64 (n : Nat)] w fun e w' => e = .returned (.tuple #[.int .u16 (x1 : Nat), .bool q1]) ∧ w = w' := to_uint16_Great n w hn _ p1
  have T1 := Lib.hid t1
  obtain ⟨⟨x2, q2⟩, p2⟩ : ∃ p, Num.to 4294967296 n = p := ⟨_, rfl⟩
  have b2 : x2 < 4294967296 := by have h := Num.to_lt (M := 4294967296) (n := n) (by decide); rw [p2] at h; exact h
  have v2 : IntKind.u64.wrap (x2 : Int) = (x2 : Int) := Num.wrapN _ (by omega)
  have r2 : Calls Tryz.prog 53 #[.int .u64 (n : Nat), .int .i64 4] w fun e w' => e = .returned (.tuple #[.int .u64 (x2 : Nat), .bool q2]) ∧ w = w' := rto_any n 4 4294967296 (by decide) (by decide) w _ p2
  have R2 := Lib.hid r2
  have t2 : Calls Tryz.prog 75 #[.int .u64 (n : Nat)] w fun e w' => e = .returned (.tuple #[.int .u32 (x2 : Nat), .bool q2]) ∧ w = w' := to_uint32_Great n w hn _ p2
  have T2 := Lib.hid t2
  have p3 : Num.to 18446744073709551616 n = (n, true) := by unfold Num.to; rw [if_pos (by omega)]
  have t3 : Calls Tryz.prog 76 #[.int .u64 (n : Nat)] w fun e w' => e = .returned (.tuple #[.int .u64 (n : Nat), .bool true]) ∧ w = w' := to_uint64_Great n w hn _ p3
  have T3 := Lib.hid t3
  have t4 : Calls Tryz.prog 77 #[.int .u64 (n : Nat)] w fun e w' => e = .returned (.tuple #[.int .u16 (x1 : Nat), .bool q1]) ∧ w = w' := to_Small_Great n w hn _ p1
  have T4 := Lib.hid t4
  have v9 : IntKind.u64.wrap (n : Int) = (n : Int) := Num.wrapN _ (by omega)
  clear p0 p1 p2 p3 b0 b1 b2 r0 r1 r2 t0 t1 t2 t3 t4
  go_enter Tryz.func17, Tryz.ntmps17
  go_wp2_with (first 
    | (go_at_call 53; with_reducible refine R0.out.mono ?_; rintro e w' ⟨rfl, rfl⟩)
    | (go_at_call 73; refine T0.out.mono ?_; rintro e w' ⟨rfl, rfl⟩)
    | (go_at_call 53; with_reducible refine R1.out.mono ?_; rintro e w' ⟨rfl, rfl⟩)
    | (go_at_call 74; refine T1.out.mono ?_; rintro e w' ⟨rfl, rfl⟩)
    | (go_at_call 53; with_reducible refine R2.out.mono ?_; rintro e w' ⟨rfl, rfl⟩)
    | (go_at_call 75; refine T2.out.mono ?_; rintro e w' ⟨rfl, rfl⟩)
    | (go_at_call 76; refine T3.out.mono ?_; rintro e w' ⟨rfl, rfl⟩)
    | (go_at_call 77; refine T4.out.mono ?_; rintro e w' ⟨rfl, rfl⟩))
  go_ret
  exact ⟨by simp, rfl⟩
set_option maxHeartbeats 1000000 in
theorem tos_Tiny (n : Nat) (w : World) (hn : n < 256) :
    Calls Tryz.prog 18 #[.int .u8 (n : Nat)] w fun e w' => e = .returned (.bool true) ∧ w = w' := by
  obtain ⟨⟨x0, q0⟩, p0⟩ : ∃ p, Num.to 256 n = p := ⟨_, rfl⟩
  have b0 : x0 < 256 := by have h := Num.to_lt (M := 256) (n := n) (by decide); rw [p0] at h; exact h
  have v0 : IntKind.u64.wrap (x0 : Int) = (x0 : Int) := Num.wrapN _ (by omega)
  have r0 : Calls Tryz.prog 53 #[.int .u64 (n : Nat), .int .i64 1] w fun e w' => e = .returned (.tuple #[.int .u64 (x0 : Nat), .bool q0]) ∧ w = w' := rto_any n 1 256 (by decide) (by decide) w _ p0
  have R0 := Lib.hid r0
  have t0 : Calls Tryz.prog 78 #[.int .u8 (n : Nat)] w fun e w' => e = .returned (.tuple #[.int .u8 (x0 : Nat), .bool q0]) ∧ w = w' := to_uint8_Tiny n w hn _ p0
  have T0 := Lib.hid t0
  obtain ⟨⟨x1, q1⟩, p1⟩ : ∃ p, Num.to 65536 n = p := ⟨_, rfl⟩
  have b1 : x1 < 65536 := by have h := Num.to_lt (M := 65536) (n := n) (by decide); rw [p1] at h; exact h
  have v1 : IntKind.u64.wrap (x1 : Int) = (x1 : Int) := Num.wrapN _ (by omega)
  have r1 : Calls Tryz.prog 53 #[.int .u64 (n : Nat), .int .i64 2] w fun e w' => e = .returned (.tuple #[.int .u64 (x1 : Nat), .bool q1]) ∧ w = w' := rto_any n 2 65536 (by decide) (by decide) w _ p1
  have R1 := Lib.hid r1
  have t1 : Calls Tryz.prog 79 #[.int .u8 (n : Nat)] w fun e w' => e = .returned (.tuple #[.int .u16 (x1 : Nat), .bool q1]) ∧ w = w' := to_uint16_Tiny n w hn _ p1
  have T1 := Lib.hid t1
  obtain ⟨⟨x2, q2⟩, p2⟩ : ∃ p, Num.to 4294967296 n = p := ⟨_, rfl⟩
  have b2 : x2 < 4294967296 := by have h := Num.to_lt (M := 4294967296) (n := n) (by decide); rw [p2] at h; exact h
  have v2 : IntKind.u64.wrap (x2 : Int) = (x2 : Int) := Num.wrapN _ (by omega)
  have r2 : Calls Tryz.prog 53 #[.int .u64 (n : Nat), .int .i64 4] w fun e w' => e = .returned (.tuple #[.int .u64 (x2 : Nat), .bool q2]) ∧ w = w' := rto_any n 4 4294967296 (by decide) (by decide) w _ p2
  have R2 := Lib.hid r2
  have t2 : Calls Tryz.prog 80 #[.int .u8 (n : Nat)] w fun e w' => e = .returned (.tuple #[.int .u32 (x2 : Nat), .bool q2]) ∧ w = w' := to_uint32_Tiny n w hn _ p2
  have T2 := Lib.hid t2
  have p3 : Num.to 18446744073709551616 n = (n, true) := by unfold Num.to; rw [if_pos (by omega)]
  have t3 : Calls Tryz.prog 81 #[.int .u8 (n : Nat)] w fun e w' => e = .returned (.tuple #[.int .u64 (n : Nat), .bool true]) ∧ w = w' := to_uint64_Tiny n w hn _ p3
  have T3 := Lib.hid t3
  have t4 : Calls Tryz.prog 82 #[.int .u8 (n : Nat)] w fun e w' => e = .returned (.tuple #[.int .u16 (x1 : Nat), .bool q1]) ∧ w = w' := to_Small_Tiny n w hn _ p1
  have T4 := Lib.hid t4
  have v9 : IntKind.u64.wrap (n : Int) = (n : Int) := Num.wrapN _ (by omega)
  clear p0 p1 p2 p3 b0 b1 b2 r0 r1 r2 t0 t1 t2 t3 t4
  go_enter Tryz.func18, Tryz.ntmps18
  go_wp2_with (first 
    | (go_at_call 53; with_reducible refine R0.out.mono ?_; rintro e w' ⟨rfl, rfl⟩)
    | (go_at_call 78; refine T0.out.mono ?_; rintro e w' ⟨rfl, rfl⟩)
    | (go_at_call 53; with_reducible refine R1.out.mono ?_; rintro e w' ⟨rfl, rfl⟩)
    | (go_at_call 79; refine T1.out.mono ?_; rintro e w' ⟨rfl, rfl⟩)
    | (go_at_call 53; with_reducible refine R2.out.mono ?_; rintro e w' ⟨rfl, rfl⟩)
    | (go_at_call 80; refine T2.out.mono ?_; rintro e w' ⟨rfl, rfl⟩)
    | (go_at_call 81; refine T3.out.mono ?_; rintro e w' ⟨rfl, rfl⟩)
    | (go_at_call 82; refine T4.out.mono ?_; rintro e w' ⟨rfl, rfl⟩))
  go_ret
  exact ⟨by simp, rfl⟩
set_option maxHeartbeats 1000000 in
theorem sums_uint8 (a b : Nat) (w : World) (ha : a < 256) (hb : b < 256) :
    Calls Tryz.prog 30 #[.int .i64 1, .int .u8 (a : Nat), .int .u8 (b : Nat)] w fun e w' => e = .returned (.bool true) ∧ w = w' := by
  obtain ⟨⟨x0, q0⟩, p0⟩ : ∃ p, Num.add 256 a b = p := ⟨_, rfl⟩
  have b0 : x0 < 256 := by have h := Num.add_lt (M := 256) (a := a) (b := b) (by decide); rw [p0] at h; exact h
  have v0 : IntKind.u64.wrap (x0 : Int) = (x0 : Int) := Num.wrapN _ (by omega)
  have r0 : Calls Tryz.prog 86 #[.int .u64 (a : Nat), .int .u64 (b : Nat), .int .i64 1] w fun e w' => e = .returned (.tuple #[.int .u64 (x0 : Nat), .bool q0]) ∧ w = w' := radd_any a b 1 256 ha hb (by decide) (by decide) w _ p0
  have R0 := Lib.hid r0
  have t0 : Calls Tryz.prog 85 #[.int .u8 (a : Nat), .int .u8 (b : Nat)] w fun e w' => e = .returned (.tuple #[.int .u8 (x0 : Nat), .bool q0]) ∧ w = w' := add_uint8 a b w ha hb _ p0
  have T0 := Lib.hid t0
  obtain ⟨⟨x1, q1⟩, p1⟩ : ∃ p, Num.sub a b = p := ⟨_, rfl⟩
  have b1 : x1 < 256 := by have h := Num.sub_lt (M := 256) (a := a) (b := b) ha; rw [p1] at h; exact h
  have v1 : IntKind.u64.wrap (x1 : Int) = (x1 : Int) := Num.wrapN _ (by omega)
  have r1 : Calls Tryz.prog 88 #[.int .u64 (a : Nat), .int .u64 (b : Nat), .int .i64 1] w fun e w' => e = .returned (.tuple #[.int .u64 (x1 : Nat), .bool q1]) ∧ w = w' := rsub_any a b 1 (by omega) w _ p1
  have R1 := Lib.hid r1
  have t1 : Calls Tryz.prog 87 #[.int .u8 (a : Nat), .int .u8 (b : Nat)] w fun e w' => e = .returned (.tuple #[.int .u8 (x1 : Nat), .bool q1]) ∧ w = w' := sub_uint8 a b w ha hb _ p1
  have T1 := Lib.hid t1
  obtain ⟨⟨x2, q2⟩, p2⟩ : ∃ p, Num.mul 256 a b = p := ⟨_, rfl⟩
  have b2 : x2 < 256 := by have h := Num.mul_lt (M := 256) (a := a) (b := b) (by decide); rw [p2] at h; exact h
  have v2 : IntKind.u64.wrap (x2 : Int) = (x2 : Int) := Num.wrapN _ (by omega)
  have r2 : Calls Tryz.prog 90 #[.int .u64 (a : Nat), .int .u64 (b : Nat), .int .i64 1] w fun e w' => e = .returned (.tuple #[.int .u64 (x2 : Nat), .bool q2]) ∧ w = w' := rmul_any a b 1 256 (by omega) (by decide) (by decide) w _ p2
  have R2 := Lib.hid r2
  have t2 : Calls Tryz.prog 89 #[.int .u8 (a : Nat), .int .u8 (b : Nat)] w fun e w' => e = .returned (.tuple #[.int .u8 (x2 : Nat), .bool q2]) ∧ w = w' := mul_uint8 a b w ha hb _ p2
  have T2 := Lib.hid t2
  obtain ⟨⟨x3, q3⟩, p3⟩ : ∃ p, Num.up 256 a b = p := ⟨_, rfl⟩
  have b3 : x3 < 256 := by have h := Num.up_lt (M := 256) (a := a) (b := b) ha; rw [p3] at h; exact h
  have v3 : IntKind.u64.wrap (x3 : Int) = (x3 : Int) := Num.wrapN _ (by omega)
  have r3 : Calls Tryz.prog 92 #[.int .u64 (a : Nat), .int .u64 (b : Nat), .int .i64 1] w fun e w' => e = .returned (.tuple #[.int .u64 (x3 : Nat), .bool q3]) ∧ w = w' := rup_any a b 1 256 ha hb (by decide) (by decide) w _ p3
  have R3 := Lib.hid r3
  have t3 : Calls Tryz.prog 91 #[.int .u8 (a : Nat), .int .u8 (b : Nat)] w fun e w' => e = .returned (.tuple #[.int .u8 (x3 : Nat), .bool q3]) ∧ w = w' := up_uint8 a b w ha hb _ p3
  have T3 := Lib.hid t3
  have v8 : IntKind.u64.wrap (a : Int) = (a : Int) := Num.wrapN _ (by omega)
  have v9 : IntKind.u64.wrap (b : Int) = (b : Int) := Num.wrapN _ (by omega)
  clear p0 p1 p2 p3 b0 b1 b2 b3 r0 r1 r2 r3 t0 t1 t2 t3
  go_enter Tryz.func30, Tryz.ntmps30
  go_wp2_with (first 
    | (go_at_call 86; with_reducible refine R0.out.mono ?_; rintro e w' ⟨rfl, rfl⟩)
    | (go_at_call 85; refine T0.out.mono ?_; rintro e w' ⟨rfl, rfl⟩)
    | (go_at_call 88; with_reducible refine R1.out.mono ?_; rintro e w' ⟨rfl, rfl⟩)
    | (go_at_call 87; refine T1.out.mono ?_; rintro e w' ⟨rfl, rfl⟩)
    | (go_at_call 90; with_reducible refine R2.out.mono ?_; rintro e w' ⟨rfl, rfl⟩)
    | (go_at_call 89; refine T2.out.mono ?_; rintro e w' ⟨rfl, rfl⟩)
    | (go_at_call 92; with_reducible refine R3.out.mono ?_; rintro e w' ⟨rfl, rfl⟩)
    | (go_at_call 91; refine T3.out.mono ?_; rintro e w' ⟨rfl, rfl⟩))
  go_ret
  exact ⟨by simp, rfl⟩
set_option maxHeartbeats 1000000 in
theorem sums_uint16 (a b : Nat) (w : World) (ha : a < 65536) (hb : b < 65536) :
    Calls Tryz.prog 33 #[.int .i64 2, .int .u16 (a : Nat), .int .u16 (b : Nat)] w fun e w' => e = .returned (.bool true) ∧ w = w' := by
  obtain ⟨⟨x0, q0⟩, p0⟩ : ∃ p, Num.add 65536 a b = p := ⟨_, rfl⟩
  have b0 : x0 < 65536 := by have h := Num.add_lt (M := 65536) (a := a) (b := b) (by decide); rw [p0] at h; exact h
  have v0 : IntKind.u64.wrap (x0 : Int) = (x0 : Int) := Num.wrapN _ (by omega)
  have r0 : Calls Tryz.prog 86 #[.int .u64 (a : Nat), .int .u64 (b : Nat), .int .i64 2] w fun e w' => e = .returned (.tuple #[.int .u64 (x0 : Nat), .bool q0]) ∧ w = w' := radd_any a b 2 65536 ha hb (by decide) (by decide) w _ p0
  have R0 := Lib.hid r0
  have t0 : Calls Tryz.prog 94 #[.int .u16 (a : Nat), .int .u16 (b : Nat)] w fun e w' => e = .returned (.tuple #[.int .u16 (x0 : Nat), .bool q0]) ∧ w = w' := add_uint16 a b w ha hb _ p0
  have T0 := Lib.hid t0
  obtain ⟨⟨x1, q1⟩, p1⟩ : ∃ p, Num.sub a b = p := ⟨_, rfl⟩
  have b1 : x1 < 65536 := by have h := Num.sub_lt (M := 65536) (a := a) (b := b) ha; rw [p1] at h; exact h
  have v1 : IntKind.u64.wrap (x1 : Int) = (x1 : Int) := Num.wrapN _ (by omega)
  have r1 : Calls Tryz.prog 88 #[.int .u64 (a : Nat), .int .u64 (b : Nat), .int .i64 2] w fun e w' => e = .returned (.tuple #[.int .u64 (x1 : Nat), .bool q1]) ∧ w = w' := rsub_any a b 2 (by omega) w _ p1
  have R1 := Lib.hid r1
  have t1 : Calls Tryz.prog 95 #[.int .u16 (a : Nat), .int .u16 (b : Nat)] w fun e w' => e = .returned (.tuple #[.int .u16 (x1 : Nat), .bool q1]) ∧ w = w' := sub_uint16 a b w ha hb _ p1
  have T1 := Lib.hid t1
  obtain ⟨⟨x2, q2⟩, p2⟩ : ∃ p, Num.mul 65536 a b = p := ⟨_, rfl⟩
  have b2 : x2 < 65536 := by have h := Num.mul_lt (M := 65536) (a := a) (b := b) (by decide); rw [p2] at h; exact h
  have v2 : IntKind.u64.wrap (x2 : Int) = (x2 : Int) := Num.wrapN _ (by omega)
  have r2 : Calls Tryz.prog 90 #[.int .u64 (a : Nat), .int .u64 (b : Nat), .int .i64 2] w fun e w' => e = .returned (.tuple #[.int .u64 (x2 : Nat), .bool q2]) ∧ w = w' := rmul_any a b 2 65536 (by omega) (by decide) (by decide) w _ p2
  have R2 := Lib.hid r2
  have t2 : Calls Tryz.prog 96 #[.int .u16 (a : Nat), .int .u16 (b : Nat)] w fun e w' => e = .returned (.tuple #[.int .u16 (x2 : Nat), .bool q2]) ∧ w = w' := mul_uint16 a b w ha hb _ p2
  have T2 := Lib.hid t2
  obtain ⟨⟨x3, q3⟩, p3⟩ : ∃ p, Num.up 65536 a b = p := ⟨_, rfl⟩
  have b3 : x3 < 65536 := by have h := Num.up_lt (M := 65536) (a := a) (b := b) ha; rw [p3] at h; exact h
  have v3 : IntKind.u64.wrap (x3 : Int) = (x3 : Int) := Num.wrapN _ (by omega)
  have r3 : Calls Tryz.prog 92 #[.int .u64 (a : Nat), .int .u64 (b : Nat), .int .i64 2] w fun e w' => e = .returned (.tuple #[.int .u64 (x3 : Nat), .bool q3]) ∧ w = w' := rup_any a b 2 65536 ha hb (by decide) (by decide) w _ p3
  have R3 := Lib.hid r3
  have t3 : Calls Tryz.prog 97 #[.int .u16 (a : Nat), .int .u16 (b : Nat)] w fun e w' => e = .returned (.tuple #[.int .u16 (x3 : Nat), .bool q3]) ∧ w = w' := up_uint16 a b w ha hb _ p3
  have T3 := Lib.hid t3
  have v8 : IntKind.u64.wrap (a : Int) = (a : Int) := Num.wrapN _ (by omega)
  have v9 : IntKind.u64.wrap (b : Int) = (b : Int) := Num.wrapN _ (by omega)
  clear p0 p1 p2 p3 b0 b1 b2 b3 r0 r1 r2 r3 t0 t1 t2 t3
  go_enter Tryz.func33, Tryz.ntmps33
  go_wp2_with (first 
    | (go_at_call 86; with_reducible refine R0.out.mono ?_; rintro e w' ⟨rfl, rfl⟩)
    | (go_at_call 94; refine T0.out.mono ?_; rintro e w' ⟨rfl, rfl⟩)
    | (go_at_call 88; with_reducible refine R1.out.mono ?_; rintro e w' ⟨rfl, rfl⟩)
    | (go_at_call 95; refine T1.out.mono ?_; rintro e w' ⟨rfl, rfl⟩)
    | (go_at_call 90; with_reducible refine R2.out.mono ?_; rintro e w' ⟨rfl, rfl⟩)
    | (go_at_call 96; refine T2.out.mono ?_; rintro e w' ⟨rfl, rfl⟩)
    | (go_at_call 92; with_reducible refine R3.out.mono ?_; rintro e w' ⟨rfl, rfl⟩)
    | (go_at_call 97; refine T3.out.mono ?_; rintro e w' ⟨rfl, rfl⟩))
  go_ret
  exact ⟨by simp, rfl⟩
set_option maxHeartbeats 1000000 in
theorem sums_uint32 (a b : Nat) (w : World) (ha : a < 4294967296) (hb : b < 4294967296) :
    Calls Tryz.prog 36 #[.int .i64 4, .int .u32 (a : Nat), .int .u32 (b : Nat)] w fun e w' => e = .returned (.bool true) ∧ w = w' := by
  obtain ⟨⟨x0, q0⟩, p0⟩ : ∃ p, Num.add 4294967296 a b = p := ⟨_, rfl⟩
  have b0 : x0 < 4294967296 := by have h := Num.add_lt (M := 4294967296) (a := a) (b := b) (by decide); rw [p0] at h; exact h
  have v0 : IntKind.u64.wrap (x0 : Int) = (x0 : Int) := Num.wrapN _ (by omega)
  have r0 : Calls Tryz.prog 86 #[.int .u64 (a : Nat), .int .u64 (b : Nat), .int .i64 4] w fun e w' => e = .returned (.tuple #[.int .u64 (x0 : Nat), .bool q0]) ∧ w = w' := radd_any a b 4 4294967296 ha hb (by decide) (by decide) w _ p0
  have R0 := Lib.hid r0
  have t0 : Calls Tryz.prog 99 #[.int .u32 (a : Nat), .int .u32 (b : Nat)] w fun e w' => e = .returned (.tuple #[.int .u32 (x0 : Nat), .bool q0]) ∧ w = w' := add_uint32 a b w ha hb _ p0
  have T0 := Lib.hid t0
  obtain ⟨⟨x1, q1⟩, p1⟩ : ∃ p, Num.sub a b = p := ⟨_, rfl⟩
  have b1 : x1 < 4294967296 := by have h := Num.sub_lt (M := 4294967296) (a := a) (b := b) ha; rw [p1] at h; exact h
  have v1 : IntKind.u64.wrap (x1 : Int) = (x1 : Int) := Num.wrapN _ (by omega)
  have r1 : Calls Tryz.prog 88 #[.int .u64 (a : Nat), .int .u64 (b : Nat), .int .i64 4] w fun e w' => e = .returned (.tuple #[.int .u64 (x1 : Nat), .bool q1]) ∧ w = w' := rsub_any a b 4 (by omega) w _ p1
  have R1 := Lib.hid r1
  have t1 : Calls Tryz.prog 100 #[.int .u32 (a : Nat), .int .u32 (b : Nat)] w fun e w' => e = .returned (.tuple #[.int .u32 (x1 : Nat), .bool q1]) ∧ w = w' := sub_uint32 a b w ha hb _ p1
  have T1 := Lib.hid t1
  obtain ⟨⟨x2, q2⟩, p2⟩ : ∃ p, Num.mul 4294967296 a b = p := ⟨_, rfl⟩
  have b2 : x2 < 4294967296 := by have h := Num.mul_lt (M := 4294967296) (a := a) (b := b) (by decide); rw [p2] at h; exact h
  have v2 : IntKind.u64.wrap (x2 : Int) = (x2 : Int) := Num.wrapN _ (by omega)
  have r2 : Calls Tryz.prog 90 #[.int .u64 (a : Nat), .int .u64 (b : Nat), .int .i64 4] w fun e w' => e = .returned (.tuple #[.int .u64 (x2 : Nat), .bool q2]) ∧ w = w' := rmul_any a b 4 4294967296 (by omega) (by decide) (by decide) w _ p2
  have R2 := Lib.hid r2
  have t2 : Calls Tryz.prog 101 #[.int .u32 (a : Nat), .int .u32 (b : Nat)] w fun e w' => e = .returned (.tuple #[.int .u32 (x2 : Nat), .bool q2]) ∧ w = w' := mul_uint32 a b w ha hb _ p2
  have T2 := Lib.hid t2
  obtain ⟨⟨x3, q3⟩, p3⟩ : ∃ p, Num.up 4294967296 a b = p := ⟨_, rfl⟩
  have b3 : x3 < 4294967296 := by have h := Num.up_lt (M := 4294967296) (a := a) (b := b) ha; rw [p3] at h; exact h
  have v3 : IntKind.u64.wrap (x3 : Int) = (x3 : Int) := Num.wrapN _ (by omega)
  have r3 : Calls Tryz.prog 92 #[.int .u64 (a : Nat), .int .u64 (b : Nat), .int .i64 4] w fun e w' => e = .returned (.tuple #[.int .u64 (x3 : Nat), .bool q3]) ∧ w = w' := rup_any a b 4 4294967296 ha hb (by decide) (by decide) w _ p3
  have R3 := Lib.hid r3
  have t3 : Calls Tryz.prog 102 #[.int .u32 (a : Nat), .int .u32 (b : Nat)] w fun e w' => e = .returned (.tuple #[.int .u32 (x3 : Nat), .bool q3]) ∧ w = w' := up_uint32 a b w ha hb _ p3
  have T3 := Lib.hid t3
  have v8 : IntKind.u64.wrap (a : Int) = (a : Int) := Num.wrapN _ (by omega)
  have v9 : IntKind.u64.wrap (b : Int) = (b : Int) := Num.wrapN _ (by omega)
  clear p0 p1 p2 p3 b0 b1 b2 b3 r0 r1 r2 r3 t0 t1 t2 t3
  go_enter Tryz.func36, Tryz.ntmps36
  go_wp2_with (first 
    | (go_at_call 86; with_reducible refine R0.out.mono ?_; rintro e w' ⟨rfl, rfl⟩)
    | (go_at_call 99; refine T0.out.mono ?_; rintro e w' ⟨rfl, rfl⟩)
    | (go_at_call 88; with_reducible refine R1.out.mono ?_; rintro e w' ⟨rfl, rfl⟩)
    | (go_at_call 100; refine T1.out.mono ?_; rintro e w' ⟨rfl, rfl⟩)
    | (go_at_call 90; with_reducible refine R2.out.mono ?_; rintro e w' ⟨rfl, rfl⟩)
    | (go_at_call 101; refine T2.out.mono ?_; rintro e w' ⟨rfl, rfl⟩)
    | (go_at_call 92; with_reducible refine R3.out.mono ?_; rintro e w' ⟨rfl, rfl⟩)
    | (go_at_call 102; refine T3.out.mono ?_; rintro e w' ⟨rfl, rfl⟩))
  go_ret
  exact ⟨by simp, rfl⟩
set_option maxHeartbeats 1000000 in
theorem sums_uint64 (a b : Nat) (w : World) (ha : a < 18446744073709551616) (hb : b < 18446744073709551616) :
    Calls Tryz.prog 39 #[.int .i64 8, .int .u64 (a : Nat), .int .u64 (b : Nat)] w fun e w' => e = .returned (.bool true) ∧ w = w' := by
  obtain ⟨⟨x0, q0⟩, p0⟩ : ∃ p, Num.add 18446744073709551616 a b = p := ⟨_, rfl⟩
  have b0 : x0 < 18446744073709551616 := by have h := Num.add_lt (M := 18446744073709551616) (a := a) (b := b) (by decide); rw [p0] at h; exact h
  have v0 : IntKind.u64.wrap (x0 : Int) = (x0 : Int) := Num.wrapN _ (by omega)
  have r0 : Calls Tryz.prog 86 #[.int .u64 (a : Nat), .int .u64 (b : Nat), .int .i64 8] w fun e w' => e = .returned (.tuple #[.int .u64 (x0 : Nat), .bool q0]) ∧ w = w' := radd_any a b 8 18446744073709551616 ha hb (by decide) (by decide) w _ p0
  have R0 := Lib.hid r0
  have t0 : Calls Tryz.prog 104 #[.int .u64 (a : Nat), .int .u64 (b : Nat)] w fun e w' => e = .returned (.tuple #[.int .u64 (x0 : Nat), .bool q0]) ∧ w = w' := add_uint64 a b w ha hb _ p0
  have T0 := Lib.hid t0
  obtain ⟨⟨x1, q1⟩, p1⟩ : ∃ p, Num.sub a b = p := ⟨_, rfl⟩
  have b1 : x1 < 18446744073709551616 := by have h := Num.sub_lt (M := 18446744073709551616) (a := a) (b := b) ha; rw [p1] at h; exact h
  have v1 : IntKind.u64.wrap (x1 : Int) = (x1 : Int) := Num.wrapN _ (by omega)
  have r1 : Calls Tryz.prog 88 #[.int .u64 (a : Nat), .int .u64 (b : Nat), .int .i64 8] w fun e w' => e = .returned (.tuple #[.int .u64 (x1 : Nat), .bool q1]) ∧ w = w' := rsub_any a b 8 (by omega) w _ p1
  have R1 := Lib.hid r1
  have t1 : Calls Tryz.prog 105 #[.int .u64 (a : Nat), .int .u64 (b : Nat)] w fun e w' => e = .returned (.tuple #[.int .u64 (x1 : Nat), .bool q1]) ∧ w = w' := sub_uint64 a b w ha hb _ p1
  have T1 := Lib.hid t1
  obtain ⟨⟨x2, q2⟩, p2⟩ : ∃ p, Num.mul 18446744073709551616 a b = p := ⟨_, rfl⟩
  have b2 : x2 < 18446744073709551616 := by have h := Num.mul_lt (M := 18446744073709551616) (a := a) (b := b) (by decide); rw [p2] at h; exact h
  have v2 : IntKind.u64.wrap (x2 : Int) = (x2 : Int) := Num.wrapN _ (by omega)
  have r2 : Calls Tryz.prog 90 #[.int .u64 (a : Nat), .int .u64 (b : Nat), .int .i64 8] w fun e w' => e = .returned (.tuple #[.int .u64 (x2 : Nat), .bool q2]) ∧ w = w' := rmul_any a b 8 18446744073709551616 (by omega) (by decide) (by decide) w _ p2
  have R2 := Lib.hid r2
  have t2 : Calls Tryz.prog 106 #[.int .u64 (a : Nat), .int .u64 (b : Nat)] w fun e w' => e = .returned (.tuple #[.int .u64 (x2 : Nat), .bool q2]) ∧ w = w' := mul_uint64 a b w ha hb _ p2
  have T2 := Lib.hid t2
  obtain ⟨⟨x3, q3⟩, p3⟩ : ∃ p, Num.up 18446744073709551616 a b = p := ⟨_, rfl⟩
  have b3 : x3 < 18446744073709551616 := by have h := Num.up_lt (M := 18446744073709551616) (a := a) (b := b) ha; rw [p3] at h; exact h
  have v3 : IntKind.u64.wrap (x3 : Int) = (x3 : Int) := Num.wrapN _ (by omega)
  have r3 : Calls Tryz.prog 92 #[.int .u64 (a : Nat), .int .u64 (b : Nat), .int .i64 8] w fun e w' => e = .returned (.tuple #[.int .u64 (x3 : Nat), .bool q3]) ∧ w = w' := rup_any a b 8 18446744073709551616 ha hb (by decide) (by decide) w _ p3
  have R3 := Lib.hid r3
  have t3 : Calls Tryz.prog 107 #[.int .u64 (a : Nat), .int .u64 (b : Nat)] w fun e w' => e = .returned (.tuple #[.int .u64 (x3 : Nat), .bool q3]) ∧ w = w' := up_uint64 a b w ha hb _ p3
  have T3 := Lib.hid t3
  have v8 : IntKind.u64.wrap (a : Int) = (a : Int) := Num.wrapN _ (by omega)
  have v9 : IntKind.u64.wrap (b : Int) = (b : Int) := Num.wrapN _ (by omega)
  clear p0 p1 p2 p3 b0 b1 b2 b3 r0 r1 r2 r3 t0 t1 t2 t3
  go_enter Tryz.func39, Tryz.ntmps39
  go_wp2_with (first 
    | (go_at_call 86; with_reducible refine R0.out.mono ?_; rintro e w' ⟨rfl, rfl⟩)
    | (go_at_call 104; refine T0.out.mono ?_; rintro e w' ⟨rfl, rfl⟩)
    | (go_at_call 88; with_reducible refine R1.out.mono ?_; rintro e w' ⟨rfl, rfl⟩)
    | (go_at_call 105; refine T1.out.mono ?_; rintro e w' ⟨rfl, rfl⟩)
    | (go_at_call 90; with_reducible refine R2.out.mono ?_; rintro e w' ⟨rfl, rfl⟩)
    | (go_at_call 106; refine T2.out.mono ?_; rintro e w' ⟨rfl, rfl⟩)
    | (go_at_call 92; with_reducible refine R3.out.mono ?_; rintro e w' ⟨rfl, rfl⟩)
    | (go_at_call 107; refine T3.out.mono ?_; rintro e w' ⟨rfl, rfl⟩))
  go_ret
  exact ⟨by simp, rfl⟩
set_option maxHeartbeats 1000000 in
theorem sums_Tiny (a b : Nat) (w : World) (ha : a < 256) (hb : b < 256) :
    Calls Tryz.prog 42 #[.int .i64 1, .int .u8 (a : Nat), .int .u8 (b : Nat)] w fun e w' => e = .returned (.bool true) ∧ w = w' := by
  obtain ⟨⟨x0, q0⟩, p0⟩ : ∃ p, Num.add 256 a b = p := ⟨_, rfl⟩
  have b0 : x0 < 256 := by have h := Num.add_lt (M := 256) (a := a) (b := b) (by decide); rw [p0] at h; exact h
  have v0 : IntKind.u64.wrap (x0 : Int) = (x0 : Int) := Num.wrapN _ (by omega)
  have r0 : Calls Tryz.prog 86 #[.int .u64 (a : Nat), .int .u64 (b : Nat), .int .i64 1] w fun e w' => e = .returned (.tuple #[.int .u64 (x0 : Nat), .bool q0]) ∧ w = w' := radd_any a b 1 256 ha hb (by decide) (by decide) w _ p0
  have R0 := Lib.hid r0
  have t0 : Calls Tryz.prog 109 #[.int .u8 (a : Nat), .int .u8 (b : Nat)] w fun e w' => e = .returned (.tuple #[.int .u8 (x0 : Nat), .bool q0]) ∧ w = w' := add_Tiny a b w ha hb _ p0
  have T0 := Lib.hid t0
  obtain ⟨⟨x1, q1⟩, p1⟩ : ∃ p, Num.sub a b = p := ⟨_, rfl⟩
  have b1 : x1 < 256 := by have h := Num.sub_lt (M := 256) (a := a) (b := b) ha; rw [p1] at h; exact h
  have v1 : IntKind.u64.wrap (x1 : Int) = (x1 : Int) := Num.wrapN _ (by omega)
  have r1 : Calls Tryz.prog 88 #[.int .u64 (a : Nat), .int .u64 (b : Nat), .int .i64 1] w fun e w' => e = .returned (.tuple #[.int .u64 (x1 : Nat), .bool q1]) ∧ w = w' := rsub_any a b 1 (by omega) w _ p1
  have R1 := Lib.hid r1
  have t1 : Calls Tryz.prog 110 #[.int .u8 (a : Nat), .int .u8 (b : Nat)] w fun e w' => e = .returned (.tuple #[.int .u8 (x1 : Nat), .bool q1]) ∧ w = w' := sub_Tiny a b w ha hb _ p1
  have T1 := Lib.hid t1
  obtain ⟨⟨x2, q2⟩, p2⟩ : ∃ p, Num.mul 256 a b = p := ⟨_, rfl⟩
  have b2 : x2 < 256 := by have h := Num.mul_lt (M := 256) (a := a) (b := b) (by decide); rw [p2] at h; exact h
  have v2 : IntKind.u64.wrap (x2 : Int) = (x2 : Int) := Num.wrapN _ (by omega)
  have r2 : Calls Tryz.prog 90 #[.int .u64 (a : Nat), .int .u64 (b : Nat), .int .i64 1] w fun e w' => e = .returned (.tuple #[.int .u64 (x2 : Nat), .bool q2]) ∧ w = w' := rmul_any a b 1 256 (by omega) (by decide) (by decide) w _ p2
  have R2 := Lib.hid r2
  have t2 : Calls Tryz.prog 111 #[.int .u8 (a : Nat), .int .u8 (b : Nat)] w fun e w' => e = .returned (.tuple #[.int .u8 (x2 : Nat), .bool q2]) ∧ w = w' := mul_Tiny a b w ha hb _ p2
  have T2 := Lib.hid t2
  obtain ⟨⟨x3, q3⟩, p3⟩ : ∃ p, Num.up 256 a b = p := ⟨_, rfl⟩
  have b3 : x3 < 256 := by have h := Num.up_lt (M := 256) (a := a) (b := b) ha; rw [p3] at h; exact h
  have v3 : IntKind.u64.wrap (x3 : Int) = (x3 : Int) := Num.wrapN _ (by omega)
  have r3 : Calls Tryz.prog 92 #[.int .u64 (a : Nat), .int .u64 (b : Nat), .int .i64 1] w fun e w' => e = .returned (.tuple #[.int .u64 (x3 : Nat), .bool q3]) ∧ w = w' := rup_any a b 1 256 ha hb (by decide) (by decide) w _ p3
  have R3 := Lib.hid r3
  have t3 : Calls Tryz.prog 112 #[.int .u8 (a : Nat), .int .u8 (b : Nat)] w fun e w' => e = .returned (.tuple #[.int .u8 (x3 : Nat), .bool q3]) ∧ w = w' := up_Tiny a b w ha hb _ p3
  have T3 := Lib.hid t3
  have v8 : IntKind.u64.wrap (a : Int) = (a : Int) := Num.wrapN _ (by omega)
  have v9 : IntKind.u64.wrap (b : Int) = (b : Int) := Num.wrapN _ (by omega)
  clear p0 p1 p2 p3 b0 b1 b2 b3 r0 r1 r2 r3 t0 t1 t2 t3
  go_enter Tryz.func42, Tryz.ntmps42
  go_wp2_with (first 
    | (go_at_call 86; with_reducible refine R0.out.mono ?_; rintro e w' ⟨rfl, rfl⟩)
    | (go_at_call 109; refine T0.out.mono ?_; rintro e w' ⟨rfl, rfl⟩)
    | (go_at_call 88; with_reducible refine R1.out.mono ?_; rintro e w' ⟨rfl, rfl⟩)
    | (go_at_call 110; refine T1.out.mono ?_; rintro e w' ⟨rfl, rfl⟩)
    | (go_at_call 90; with_reducible refine R2.out.mono ?_; rintro e w' ⟨rfl, rfl⟩)
    | (go_at_call 111; refine T2.out.mono ?_; rintro e w' ⟨rfl, rfl⟩)
    | (go_at_call 92; with_reducible refine R3.out.mono ?_; rintro e w' ⟨rfl, rfl⟩)
    | (go_at_call 112; refine T3.out.mono ?_; rintro e w' ⟨rfl, rfl⟩))
  go_ret
  exact ⟨by simp, rfl⟩
set_option maxHeartbeats 1000000 in
theorem sums_Small (a b : Nat) (w : World) (ha : a < 65536) (hb : b < 65536) :
    Calls Tryz.prog 45 #[.int .i64 2, .int .u16 (a : Nat), .int .u16 (b : Nat)] w fun e w' => e = .returned (.bool true) ∧ w = w' := by
  obtain ⟨⟨x0, q0⟩, p0⟩ : ∃ p, Num.add 65536 a b = p := ⟨_, rfl⟩
  have b0 : x0 < 65536 := by have h := Num.add_lt (M := 65536) (a := a) (b := b) (by decide); rw [p0] at h; exact h
  have v0 : IntKind.u64.wrap (x0 : Int) = (x0 : Int) := Num.wrapN _ (by omega)
  have r0 : Calls Tryz.prog 86 #[.int .u64 (a : Nat), .int .u64 (b : Nat), .int .i64 2] w fun e w' => e = .returned (.tuple #[.int .u64 (x0 : Nat), .bool q0]) ∧ w = w' := radd_any a b 2 65536 ha hb (by decide) (by decide) w _ p0
  have R0 := Lib.hid r0
  have t0 : Calls Tryz.prog 114 #[.int .u16 (a : Nat), .int .u16 (b : Nat)] w fun e w' => e = .returned (.tuple #[.int .u16 (x0 : Nat), .bool q0]) ∧ w = w' := add_Small a b w ha hb _ p0
  have T0 := Lib.hid t0
  obtain ⟨⟨x1, q1⟩, p1⟩ : ∃ p, Num.sub a b = p := ⟨_, rfl⟩
  have b1 : x1 < 65536 := by have h := Num.sub_lt (M := 65536) (a := a) (b := b) ha; rw [p1] at h; exact h
  have v1 : IntKind.u64.wrap (x1 : Int) = (x1 : Int) := Num.wrapN _ (by omega)
  have r1 : Calls Tryz.prog 88 #[.int .u64 (a : Nat), .int .u64 (b : Nat), .int .i64 2] w fun e w' => e = .returned (.tuple #[.int .u64 (x1 : Nat), .bool q1]) ∧ w = w' := rsub_any a b 2 (by omega) w _ p1
  have R1 := Lib.hid r1
  have t1 : Calls Tryz.prog 115 #[.int .u16 (a : Nat), .int .u16 (b : Nat)] w fun e w' => e = .returned (.tuple #[.int .u16 (x1 : Nat), .bool q1]) ∧ w = w' := sub_Small a b w ha hb _ p1
  have T1 := Lib.hid t1
  obtain ⟨⟨x2, q2⟩, p2⟩ : ∃ p, Num.mul 65536 a b = p := ⟨_, rfl⟩
  have b2 : x2 < 65536 := by have h := Num.mul_lt (M := 65536) (a := a) (b := b) (by decide); rw [p2] at h; exact h
  have v2 : IntKind.u64.wrap (x2 : Int) = (x2 : Int) := Num.wrapN _ (by omega)
  have r2 : Calls Tryz.prog 90 #[.int .u64 (a : Nat), .int .u64 (b : Nat), .int .i64 2] w fun e w' => e = .returned (.tuple #[.int .u64 (x2 : Nat), .bool q2]) ∧ w = w' := rmul_any a b 2 65536 (by omega) (by decide) (by decide) w _ p2
  have R2 := Lib.hid r2
  have t2 : Calls Tryz.prog 116 #[.int .u16 (a : Nat), .int .u16 (b : Nat)] w fun e w' => e = .returned (.tuple #[.int .u16 (x2 : Nat), .bool q2]) ∧ w = w' := mul_Small a b w ha hb _ p2
  have T2 := Lib.hid t2
  obtain ⟨⟨x3, q3⟩, p3⟩ : ∃ p, Num.up 65536 a b = p := ⟨_, rfl⟩
  have b3 : x3 < 65536 := by have h := Num.up_lt (M := 65536) (a := a) (b := b) ha; rw [p3] at h; exact h
  have v3 : IntKind.u64.wrap (x3 : Int) = (x3 : Int) := Num.wrapN _ (by omega)
  have r3 : Calls Tryz.prog 92 #[.int .u64 (a : Nat), .int .u64 (b : Nat), .int .i64 2] w fun e w' => e = .returned (.tuple #[.int .u64 (x3 : Nat), .bool q3]) ∧ w = w' := rup_any a b 2 65536 ha hb (by decide) (by decide) w _ p3
  have R3 := Lib.hid r3
  have t3 : Calls Tryz.prog 117 #[.int .u16 (a : Nat), .int .u16 (b : Nat)] w fun e w' => e = .returned (.tuple #[.int .u16 (x3 : Nat), .bool q3]) ∧ w = w' := up_Small a b w ha hb _ p3
  have T3 := Lib.hid t3
  have v8 : IntKind.u64.wrap (a : Int) = (a : Int) := Num.wrapN _ (by omega)
  have v9 : IntKind.u64.wrap (b : Int) = (b : Int) := Num.wrapN _ (by omega)
  clear p0 p1 p2 p3 b0 b1 b2 b3 r0 r1 r2 r3 t0 t1 t2 t3
  go_enter Tryz.func45, Tryz.ntmps45
  go_wp2_with (first 
    | (go_at_call 86; with_reducible refine R0.out.mono ?_; rintro e w' ⟨rfl, rfl⟩)
    | (go_at_call 114; refine T0.out.mono ?_; rintro e w' ⟨rfl, rfl⟩)
    | (go_at_call 88; with_reducible refine R1.out.mono ?_; rintro e w' ⟨rfl, rfl⟩)
    | (go_at_call 115; refine T1.out.mono ?_; rintro e w' ⟨rfl, rfl⟩)
    | (go_at_call 90; with_reducible refine R2.out.mono ?_; rintro e w' ⟨rfl, rfl⟩)
    | (go_at_call 116; refine T2.out.mono ?_; rintro e w' ⟨rfl, rfl⟩)
    | (go_at_call 92; with_reducible refine R3.out.mono ?_; rintro e w' ⟨rfl, rfl⟩)
    | (go_at_call 117; refine T3.out.mono ?_; rintro e w' ⟨rfl, rfl⟩))
  go_ret
  exact ⟨by simp, rfl⟩
set_option maxHeartbeats 1000000 in
theorem sums_Plain (a b : Nat) (w : World) (ha : a < 4294967296) (hb : b < 4294967296) :
    Calls Tryz.prog 48 #[.int .i64 4, .int .u32 (a : Nat), .int .u32 (b : Nat)] w fun e w' => e = .returned (.bool true) ∧ w = w' := by
  obtain ⟨⟨x0, q0⟩, p0⟩ : ∃ p, Num.add 4294967296 a b = p := ⟨_, rfl⟩
  have b0 : x0 < 4294967296 := by have h := Num.add_lt (M := 4294967296) (a := a) (b := b) (by decide); rw [p0] at h; exact h
  have v0 : IntKind.u64.wrap (x0 : Int) = (x0 : Int) := Num.wrapN _ (by omega)
  have r0 : Calls Tryz.prog 86 #[.int .u64 (a : Nat), .int .u64 (b : Nat), .int .i64 4] w fun e w' => e = .returned (.tuple #[.int .u64 (x0 : Nat), .bool q0]) ∧ w = w' := radd_any a b 4 4294967296 ha hb (by decide) (by decide) w _ p0
  have R0 := Lib.hid r0
  have t0 : Calls Tryz.prog 119 #[.int .u32 (a : Nat), .int .u32 (b : Nat)] w fun e w' => e = .returned (.tuple #[.int .u32 (x0 : Nat), .bool q0]) ∧ w = w' := add_Plain a b w ha hb _ p0
  have T0 := Lib.hid t0
  obtain ⟨⟨x1, q1⟩, p1⟩ : ∃ p, Num.sub a b = p := ⟨_, rfl⟩
  have b1 : x1 < 4294967296 := by have h := Num.sub_lt (M := 4294967296) (a := a) (b := b) ha; rw [p1] at h; exact h
  have v1 : IntKind.u64.wrap (x1 : Int) = (x1 : Int) := Num.wrapN _ (by omega)
  have r1 : Calls Tryz.prog 88 #[.int .u64 (a : Nat), .int .u64 (b : Nat), .int .i64 4] w fun e w' => e = .returned (.tuple #[.int .u64 (x1 : Nat), .bool q1]) ∧ w = w' := rsub_any a b 4 (by omega) w _ p1
  have R1 := Lib.hid r1
  have t1 : Calls Tryz.prog 120 #[.int .u32 (a : Nat), .int .u32 (b : Nat)] w fun e w' => e = .returned (.tuple #[.int .u32 (x1 : Nat), .bool q1]) ∧ w = w' := sub_Plain a b w ha hb _ p1
  have T1 := Lib.hid t1
  obtain ⟨⟨x2, q2⟩, p2⟩ : ∃ p, Num.mul 4294967296 a b = p := ⟨_, rfl⟩
  have b2 : x2 < 4294967296 := by have h := Num.mul_lt (M := 4294967296) (a := a) (b := b) (by decide); rw [p2] at h; exact h
  have v2 : IntKind.u64.wrap (x2 : Int) = (x2 : Int) := Num.wrapN _ (by omega)
  have r2 : Calls Tryz.prog 90 #[.int .u64 (a : Nat), .int .u64 (b : Nat), .int .i64 4] w fun e w' => e = .returned (.tuple #[.int .u64 (x2 : Nat), .bool q2]) ∧ w = w' := rmul_any a b 4 4294967296 (by omega) (by decide) (by decide) w _ p2
  have R2 := Lib.hid r2
  have t2 : Calls Tryz.prog 121 #[.int .u32 (a : Nat), .int .u32 (b : Nat)] w fun e w' => e = .returned (.tuple #[.int .u32 (x2 : Nat), .bool q2]) ∧ w = w' := mul_Plain a b w ha hb _ p2
  have T2 := Lib.hid t2
  obtain ⟨⟨x3, q3⟩, p3⟩ : ∃ p, Num.up 4294967296 a b = p := ⟨_, rfl⟩
  have b3 : x3 < 4294967296 := by have h := Num.up_lt (M := 4294967296) (a := a) (b := b) ha; rw [p3] at h; exact h
  have v3 : IntKind.u64.wrap (x3 : Int) = (x3 : Int) := Num.wrapN _ (by omega)
  have r3 : Calls Tryz.prog 92 #[.int .u64 (a : Nat), .int .u64 (b : Nat), .int .i64 4] w fun e w' => e = .returned (.tuple #[.int .u64 (x3 : Nat), .bool q3]) ∧ w = w' := rup_any a b 4 4294967296 ha hb (by decide) (by decide) w _ p3
  have R3 := Lib.hid r3
  have t3 : Calls Tryz.prog 122 #[.int .u32 (a : Nat), .int .u32 (b : Nat)] w fun e w' => e = .returned (.tuple #[.int .u32 (x3 : Nat), .bool q3]) ∧ w = w' := up_Plain a b w ha hb _ p3
  have T3 := Lib.hid t3
  have v8 : IntKind.u64.wrap (a : Int) = (a : Int) := Num.wrapN _ (by omega)
  have v9 : IntKind.u64.wrap (b : Int) = (b : Int) := Num.wrapN _ (by omega)
  clear p0 p1 p2 p3 b0 b1 b2 b3 r0 r1 r2 r3 t0 t1 t2 t3
  go_enter Tryz.func48, Tryz.ntmps48
  go_wp2_with (first 
    | (go_at_call 86; with_reducible refine R0.out.mono ?_; rintro e w' ⟨rfl, rfl⟩)
    | (go_at_call 119; refine T0.out.mono ?_; rintro e w' ⟨rfl, rfl⟩)
    | (go_at_call 88; with_reducible refine R1.out.mono ?_; rintro e w' ⟨rfl, rfl⟩)
    | (go_at_call 120; refine T1.out.mono ?_; rintro e w' ⟨rfl, rfl⟩)
    | (go_at_call 90; with_reducible refine R2.out.mono ?_; rintro e w' ⟨rfl, rfl⟩)
    | (go_at_call 121; refine T2.out.mono ?_; rintro e w' ⟨rfl, rfl⟩)
    | (go_at_call 92; with_reducible refine R3.out.mono ?_; rintro e w' ⟨rfl, rfl⟩)
    | (go_at_call 122; refine T3.out.mono ?_; rintro e w' ⟨rfl, rfl⟩))
  go_ret
  exact ⟨by simp, rfl⟩
set_option maxHeartbeats 1000000 in
theorem sums_Great (a b : Nat) (w : World) (ha : a < 18446744073709551616) (hb : b < 18446744073709551616) :
    Calls Tryz.prog 51 #[.int .i64 8, .int .u64 (a : Nat), .int .u64 (b : Nat)] w fun e w' => e = .returned (.bool true) ∧ w = w' := by
  obtain ⟨⟨x0, q0⟩, p0⟩ : ∃ p, Num.add 18446744073709551616 a b = p := ⟨_, rfl⟩
  have b0 : x0 < 18446744073709551616 := by have h := Num.add_lt (M := 18446744073709551616) (a := a) (b := b) (by decide); rw [p0] at h; exact h
  have v0 : IntKind.u64.wrap (x0 : Int) = (x0 : Int) := Num.wrapN _ (by omega)
  have r0 : Calls Tryz.prog 86 #[.int .u64 (a : Nat), .int .u64 (b : Nat), .int .i64 8] w fun e w' => e = .returned (.tuple #[.int .u64 (x0 : Nat), .bool q0]) ∧ w = w' := radd_any a b 8 18446744073709551616 ha hb (by decide) (by decide) w _ p0
  have R0 := Lib.hid r0
  have t0 : Calls Tryz.prog 124 #[.int .u64 (a : Nat), .int .u64 (b : Nat)] w fun e w' => e = .returned (.tuple #[.int .u64 (x0 : Nat), .bool q0]) ∧ w = w' := add_Great a b w ha hb _ p0
  have T0 := Lib.hid t0
  obtain ⟨⟨x1, q1⟩, p1⟩ : ∃ p, Num.sub a b = p := ⟨_, rfl⟩
  have b1 : x1 < 18446744073709551616 := by have h := Num.sub_lt (M := 18446744073709551616) (a := a) (b := b) ha; rw [p1] at h; exact h
  have v1 : IntKind.u64.wrap (x1 : Int) = (x1 : Int) := Num.wrapN _ (by omega)
  have r1 : Calls Tryz.prog 88 #[.int .u64 (a : Nat), .int .u64 (b : Nat), .int .i64 8] w fun e w' => e = .returned (.tuple #[.int .u64 (x1 : Nat), .bool q1]) ∧ w = w' := rsub_any a b 8 (by omega) w _ p1
  have R1 := Lib.hid r1
  have t1 : Calls Tryz.prog 125 #[.int .u64 (a : Nat), .int .u64 (b : Nat)] w fun e w' => e = .returned (.tuple #[.int .u64 (x1 : Nat), .bool q1]) ∧ w = w' := sub_Great a b w ha hb _ p1
  have T1 := Lib.hid t1
  obtain ⟨⟨x2, q2⟩, p2⟩ : ∃ p, Num.mul 18446744073709551616 a b = p := ⟨_, rfl⟩
  have b2 : x2 < 18446744073709551616 := by have h := Num.mul_lt (M := 18446744073709551616) (a := a) (b := b) (by decide); rw [p2] at h; exact h
  have v2 : IntKind.u64.wrap (x2 : Int) = (x2 : Int) := Num.wrapN _ (by omega)
  have r2 : Calls Tryz.prog 90 #[.int .u64 (a : Nat), .int .u64 (b : Nat), .int .i64 8] w fun e w' => e = .returned (.tuple #[.int .u64 (x2 : Nat), .bool q2]) ∧ w = w' := rmul_any a b 8 18446744073709551616 (by omega) (by decide) (by decide) w _ p2
  have R2 := Lib.hid r2
  have t2 : Calls Tryz.prog 126 #[.int .u64 (a : Nat), .int .u64 (b : Nat)] w fun e w' => e = .returned (.tuple #[.int .u64 (x2 : Nat), .bool q2]) ∧ w = w' := mul_Great a b w ha hb _ p2
  have T2 := Lib.hid t2
  obtain ⟨⟨x3, q3⟩, p3⟩ : ∃ p, Num.up 18446744073709551616 a b = p := ⟨_, rfl⟩
  have b3 : x3 < 18446744073709551616 := by have h := Num.up_lt (M := 18446744073709551616) (a := a) (b := b) ha; rw [p3] at h; exact h
  have v3 : IntKind.u64.wrap (x3 : Int) = (x3 : Int) := Num.wrapN _ (by omega)
  have r3 : Calls Tryz.prog 92 #[.int .u64 (a : Nat), .int .u64 (b : Nat), .int .i64 8] w fun e w' => e = .returned (.tuple #[.int .u64 (x3 : Nat), .bool q3]) ∧ w = w' := rup_any a b 8 18446744073709551616 ha hb (by decide) (by decide) w _ p3
  have R3 := Lib.hid r3
  have t3 : Calls Tryz.prog 127 #[.int .u64 (a : Nat), .int .u64 (b : Nat)] w fun e w' => e = .returned (.tuple #[.int .u64 (x3 : Nat), .bool q3]) ∧ w = w' := up_Great a b w ha hb _ p3
  have T3 := Lib.hid t3
  have v8 : IntKind.u64.wrap (a : Int) = (a : Int) := Num.wrapN _ (by omega)
  have v9 : IntKind.u64.wrap (b : Int) = (b : Int) := Num.wrapN _ (by omega)
  clear p0 p1 p2 p3 b0 b1 b2 b3 r0 r1 r2 r3 t0 t1 t2 t3
  go_enter Tryz.func51, Tryz.ntmps51
  go_wp2_with (first 
    | (go_at_call 86; with_reducible refine R0.out.mono ?_; rintro e w' ⟨rfl, rfl⟩)
    | (go_at_call 124; refine T0.out.mono ?_; rintro e w' ⟨rfl, rfl⟩)
    | (go_at_call 88; with_reducible refine R1.out.mono ?_; rintro e w' ⟨rfl, rfl⟩)
    | (go_at_call 125; refine T1.out.mono ?_; rintro e w' ⟨rfl, rfl⟩)
    | (go_at_call 90; with_reducible refine R2.out.mono ?_; rintro e w' ⟨rfl, rfl⟩)
    | (go_at_call 126; refine T2.out.mono ?_; rintro e w' ⟨rfl, rfl⟩)
    | (go_at_call 92; with_reducible refine R3.out.mono ?_; rintro e w' ⟨rfl, rfl⟩)
    | (go_at_call 127; refine T3.out.mono ?_; rintro e w' ⟨rfl, rfl⟩))
  go_ret
  exact ⟨by simp, rfl⟩
end Go.Proofs.YtomjmapidjnpbaaGreat
