/- The walks of word.Add, Sub, Mul, Up over numbers of each type, and of bits.Mul64: each tells what plain arithmetic tells; nothing is written. -/
import Derived.Test.YtomjmapidjnpbaaGreatRows
import Derived.WalkKit
import Derived.WalkSpells
import Derived.WalkLawsBesides
import Derived.Lib.Hide
import Derived.Lib.Mul64
import Derived.Laws.Bits64b
set_option linter.unusedVariables false
set_option linter.unusedSimpArgs false
namespace Go.Proofs.YtomjmapidjnpbaaGreat
open Go.RowKit

namespace Num
def add (M a b : Nat) : Nat × Bool := if a + b < M then (a + b, true) else (0, false)
def sub (a b : Nat) : Nat × Bool := if b ≤ a then (a - b, true) else (0, false)
def mul (M a b : Nat) : Nat × Bool := if a * b < M then (a * b, true) else (0, false)
def to (M n : Nat) : Nat × Bool := if n < M then (n, true) else (0, false)
def up (M n al : Nat) : Nat × Bool := if al = 0 then (0, false) else if n % al = 0 then (n, true) else add M (n - n % al) al
theorem maskN (a : Nat) (ha : a < 18446744073709551616) : bits .and .u64 (a : Int) 4294967295 = ((a % 4294967296 : Nat) : Int) := by
  have h := bits_and_u64_nat a 4294967295 ha (by omega)
  have e : a &&& 4294967295 = a % 4294967296 := Nat.and_two_pow_sub_one_eq_mod a 32
  rw [e] at h
  exact h
theorem divN (a : Nat) : (a : Int) / 4294967296 = ((a / 4294967296 : Nat) : Int) := by omega
theorem mulN (a b : Nat) : (a : Int) * (b : Int) = ((a * b : Nat) : Int) := (Int.natCast_mul a b).symm
theorem addN (a b : Nat) : (a : Int) + (b : Int) = ((a + b : Nat) : Int) := (Int.natCast_add a b).symm
theorem wrapN (a : Nat) (ha : a < 18446744073709551616) : IntKind.u64.wrap (a : Int) = (a : Int) := by rw [IntKind.wrap_u64]; omega
theorem wrapM (a : Nat) : IntKind.u64.wrap (a : Int) = ((a % 18446744073709551616 : Nat) : Int) := by rw [IntKind.wrap_u64]; omega
end Num
theorem ret_np (k : IntKind) {a b : Nat} {c : Bool} (h : a = b) : Ending.returned (.tuple #[.int k (a : Int), .bool c]) = .returned (.tuple #[.int k (b : Int), .bool c]) := by rw [h]
theorem ret_ip (k : IntKind) {a b : Int} {c : Bool} (h : a = b) : Ending.returned (.tuple #[.int k a, .bool c]) = .returned (.tuple #[.int k b, .bool c]) := by rw [h]

set_option maxHeartbeats 1000000 in
theorem mul64_any (x y : Nat) (hx : x < 18446744073709551616) (hy : y < 18446744073709551616) (w : World) :
    Calls Tryz.prog 128 #[.int .u64 x, .int .u64 y] w fun e w' => e = .returned (.tuple #[.int .u64 ((x * y / 18446744073709551616 : Nat) : Int), .int .u64 ((x * y % 18446744073709551616 : Nat) : Int)]) ∧ w = w' := by
  obtain ⟨bd, bt, bw, hhi⟩ := Lib.mul64_hi x y hx hy
  have ba := Lib.half_mul_le (a := x / 4294967296) (b := y / 4294967296) (by omega) (by omega)
  have bb := Lib.half_mul_le (a := x / 4294967296) (b := y % 4294967296) (by omega) (by omega)
  have bc := Lib.half_mul_le (a := x % 4294967296) (b := y / 4294967296) (by omega) (by omega)
  have ba' : x / 4294967296 * (y / 4294967296) < 18446744073709551616 := by omega
  have bb' : x / 4294967296 * (y % 4294967296) < 18446744073709551616 := by omega
  have bc' : x % 4294967296 * (y / 4294967296) < 18446744073709551616 := by omega
  have bh1 : x / 4294967296 * (y / 4294967296) + (x / 4294967296 * (y % 4294967296) + x % 4294967296 * (y % 4294967296) / 4294967296) / 4294967296 < 18446744073709551616 := by omega
  have bh : x / 4294967296 * (y / 4294967296) + (x / 4294967296 * (y % 4294967296) + x % 4294967296 * (y % 4294967296) / 4294967296) / 4294967296 + ((x / 4294967296 * (y % 4294967296) + x % 4294967296 * (y % 4294967296) / 4294967296) % 4294967296 + x % 4294967296 * (y / 4294967296)) / 4294967296 < 18446744073709551616 := by omega
  go_enter Tryz.func128, Tryz.ntmps128
  go_wp2
  simp only [Num.maskN x hx, Num.maskN y hy, Num.divN, Num.mulN, Num.addN, Num.wrapN _ bd, Num.wrapN _ bb', Num.wrapN _ bt, Num.maskN _ bt, Num.wrapN _ bc', Num.wrapN _ bw, Num.wrapN _ ba', Num.wrapN _ bh1, Num.wrapN _ bh, Num.wrapM (x * y)]
  rw [hhi]
  go_ret2
  exact ⟨rfl, rfl⟩

theorem wrap_uint8 (n : Nat) : IntKind.u8.wrap (n : Int) = ((n % 256 : Nat) : Int) := by simp [IntKind.wrap, IntKind.bits, IntKind.signed]
set_option maxHeartbeats 400000 in
theorem add_uint8 (a b : Nat) (w : World) (ha : a < 256) (hb : b < 256) (p : Nat × Bool) (hp : Num.add 256 a b = p) :
    Calls Tryz.prog 85 #[.int .u8 (a : Nat), .int .u8 (b : Nat)] w fun e w' => e = .returned (.tuple #[.int .u8 (p.1 : Nat), .bool p.2]) ∧ w = w' := by
  unfold Num.add at hp
  obtain ⟨c, hc⟩ : ∃ c, c = (a + b) % 256 := ⟨_, rfl⟩
  have e1 : IntKind.u8.wrap ((a : Int) + (b : Int)) = (c : Int) := by rw [Num.addN, wrap_uint8, hc]
  split at hp
  · rename_i h
    subst hp
    have hc1 : c = a + b := by rw [hc]; exact Nat.mod_eq_of_lt h
    have hac : a ≤ c := by omega
    have HC := Lib.hid hc1
    clear hc hc1 ha hb h
    go_enter Tryz.func85, Tryz.ntmps85
    go_wp2
    go_ret2
    exact ⟨ret_np _ HC.out, rfl⟩
  · rename_i h
    subst hp
    have hc1 : c + 256 = a + b := by rw [hc]; omega
    have hac : c < a := by omega
    clear hc hc1 ha hb h
    go_enter Tryz.func85, Tryz.ntmps85
    go_wp2
    go_ret2
    exact ⟨rfl, rfl⟩
set_option maxHeartbeats 400000 in
theorem sub_uint8 (a b : Nat) (w : World) (ha : a < 256) (hb : b < 256) (p : Nat × Bool) (hp : Num.sub a b = p) :
    Calls Tryz.prog 87 #[.int .u8 (a : Nat), .int .u8 (b : Nat)] w fun e w' => e = .returned (.tuple #[.int .u8 (p.1 : Nat), .bool p.2]) ∧ w = w' := by
  unfold Num.sub at hp
  split at hp
  · rename_i h
    subst hp
    have e1 : IntKind.u8.wrap ((a : Int) - (b : Int)) = ((a - b : Nat) : Int) := by
      rw [show (a : Int) - (b : Int) = ((a - b : Nat) : Int) by omega, wrap_uint8, Nat.mod_eq_of_lt (by omega)]
    have hs : (a : Int) - (b : Int) = ((a - b : Nat) : Int) := by omega
    have HS := Lib.hid hs
    clear hs
    go_enter Tryz.func87, Tryz.ntmps87
    go_wp2
    go_ret2
    exact ⟨by first | rfl | exact ret_ip _ HS.out, rfl⟩
  · rename_i h
    subst hp
    go_enter Tryz.func87, Tryz.ntmps87
    go_wp2
    go_ret2
    exact ⟨rfl, rfl⟩

theorem wrap_uint16 (n : Nat) : IntKind.u16.wrap (n : Int) = ((n % 65536 : Nat) : Int) := by simp [IntKind.wrap, IntKind.bits, IntKind.signed]
set_option maxHeartbeats 400000 in
theorem add_uint16 (a b : Nat) (w : World) (ha : a < 65536) (hb : b < 65536) (p : Nat × Bool) (hp : Num.add 65536 a b = p) :
    Calls Tryz.prog 94 #[.int .u16 (a : Nat), .int .u16 (b : Nat)] w fun e w' => e = .returned (.tuple #[.int .u16 (p.1 : Nat), .bool p.2]) ∧ w = w' := by
  unfold Num.add at hp
  obtain ⟨c, hc⟩ : ∃ c, c = (a + b) % 65536 := ⟨_, rfl⟩
  have e1 : IntKind.u16.wrap ((a : Int) + (b : Int)) = (c : Int) := by rw [Num.addN, wrap_uint16, hc]
  split at hp
  · rename_i h
    subst hp
    have hc1 : c = a + b := by rw [hc]; exact Nat.mod_eq_of_lt h
    have hac : a ≤ c := by omega
    have HC := Lib.hid hc1
    clear hc hc1 ha hb h
    go_enter Tryz.func94, Tryz.ntmps94
    go_wp2
    go_ret2
    exact ⟨ret_np _ HC.out, rfl⟩
  · rename_i h
    subst hp
    have hc1 : c + 65536 = a + b := by rw [hc]; omega
    have hac : c < a := by omega
    clear hc hc1 ha hb h
    go_enter Tryz.func94, Tryz.ntmps94
    go_wp2
    go_ret2
    exact ⟨rfl, rfl⟩
set_option maxHeartbeats 400000 in
theorem sub_uint16 (a b : Nat) (w : World) (ha : a < 65536) (hb : b < 65536) (p : Nat × Bool) (hp : Num.sub a b = p) :
    Calls Tryz.prog 95 #[.int .u16 (a : Nat), .int .u16 (b : Nat)] w fun e w' => e = .returned (.tuple #[.int .u16 (p.1 : Nat), .bool p.2]) ∧ w = w' := by
  unfold Num.sub at hp
  split at hp
  · rename_i h
    subst hp
    have e1 : IntKind.u16.wrap ((a : Int) - (b : Int)) = ((a - b : Nat) : Int) := by
      rw [show (a : Int) - (b : Int) = ((a - b : Nat) : Int) by omega, wrap_uint16, Nat.mod_eq_of_lt (by omega)]
    have hs : (a : Int) - (b : Int) = ((a - b : Nat) : Int) := by omega
    have HS := Lib.hid hs
    clear hs
    go_enter Tryz.func95, Tryz.ntmps95
    go_wp2
    go_ret2
    exact ⟨by first | rfl | exact ret_ip _ HS.out, rfl⟩
  · rename_i h
    subst hp
    go_enter Tryz.func95, Tryz.ntmps95
    go_wp2
    go_ret2
    exact ⟨rfl, rfl⟩

theorem wrap_uint32 (n : Nat) : IntKind.u32.wrap (n : Int) = ((n % 4294967296 : Nat) : Int) := by simp [IntKind.wrap, IntKind.bits, IntKind.signed]
set_option maxHeartbeats 400000 in
theorem add_uint32 (a b : Nat) (w : World) (ha : a < 4294967296) (hb : b < 4294967296) (p : Nat × Bool) (hp : Num.add 4294967296 a b = p) :
    Calls Tryz.prog 99 #[.int .u32 (a : Nat), .int .u32 (b : Nat)] w fun e w' => e = .returned (.tuple #[.int .u32 (p.1 : Nat), .bool p.2]) ∧ w = w' := by
  unfold Num.add at hp
  obtain ⟨c, hc⟩ : ∃ c, c = (a + b) % 4294967296 := ⟨_, rfl⟩
  have e1 : IntKind.u32.wrap ((a : Int) + (b : Int)) = (c : Int) := by rw [Num.addN, wrap_uint32, hc]
  split at hp
  · rename_i h
    subst hp
    have hc1 : c = a + b := by rw [hc]; exact Nat.mod_eq_of_lt h
    have hac : a ≤ c := by omega
    have HC := Lib.hid hc1
    clear hc hc1 ha hb h
    go_enter Tryz.func99, Tryz.ntmps99
    go_wp2
    go_ret2
    exact ⟨ret_np _ HC.out, rfl⟩
  · rename_i h
    subst hp
    have hc1 : c + 4294967296 = a + b := by rw [hc]; omega
    have hac : c < a := by omega
    clear hc hc1 ha hb h
    go_enter Tryz.func99, Tryz.ntmps99
    go_wp2
    go_ret2
    exact ⟨rfl, rfl⟩
set_option maxHeartbeats 400000 in
theorem sub_uint32 (a b : Nat) (w : World) (ha : a < 4294967296) (hb : b < 4294967296) (p : Nat × Bool) (hp : Num.sub a b = p) :
    Calls Tryz.prog 100 #[.int .u32 (a : Nat), .int .u32 (b : Nat)] w fun e w' => e = .returned (.tuple #[.int .u32 (p.1 : Nat), .bool p.2]) ∧ w = w' := by
  unfold Num.sub at hp
  split at hp
  · rename_i h
    subst hp
    have e1 : IntKind.u32.wrap ((a : Int) - (b : Int)) = ((a - b : Nat) : Int) := by
      rw [show (a : Int) - (b : Int) = ((a - b : Nat) : Int) by omega, wrap_uint32, Nat.mod_eq_of_lt (by omega)]
    have hs : (a : Int) - (b : Int) = ((a - b : Nat) : Int) := by omega
    have HS := Lib.hid hs
    clear hs
    go_enter Tryz.func100, Tryz.ntmps100
    go_wp2
    go_ret2
    exact ⟨by first | rfl | exact ret_ip _ HS.out, rfl⟩
  · rename_i h
    subst hp
    go_enter Tryz.func100, Tryz.ntmps100
    go_wp2
    go_ret2
    exact ⟨rfl, rfl⟩

theorem wrap_uint64 (n : Nat) : IntKind.u64.wrap (n : Int) = ((n % 18446744073709551616 : Nat) : Int) := by simp [IntKind.wrap, IntKind.bits, IntKind.signed]
set_option maxHeartbeats 400000 in
theorem add_uint64 (a b : Nat) (w : World) (ha : a < 18446744073709551616) (hb : b < 18446744073709551616) (p : Nat × Bool) (hp : Num.add 18446744073709551616 a b = p) :
    Calls Tryz.prog 104 #[.int .u64 (a : Nat), .int .u64 (b : Nat)] w fun e w' => e = .returned (.tuple #[.int .u64 (p.1 : Nat), .bool p.2]) ∧ w = w' := by
  unfold Num.add at hp
  obtain ⟨c, hc⟩ : ∃ c, c = (a + b) % 18446744073709551616 := ⟨_, rfl⟩
  have e1 : IntKind.u64.wrap ((a : Int) + (b : Int)) = (c : Int) := by rw [Num.addN, wrap_uint64, hc]
  split at hp
  · rename_i h
    subst hp
    have hc1 : c = a + b := by rw [hc]; exact Nat.mod_eq_of_lt h
    have hac : a ≤ c := by omega
    have HC := Lib.hid hc1
    clear hc hc1 ha hb h
    go_enter Tryz.func104, Tryz.ntmps104
    go_wp2
    go_ret2
    exact ⟨ret_np _ HC.out, rfl⟩
  · rename_i h
    subst hp
    have hc1 : c + 18446744073709551616 = a + b := by rw [hc]; omega
    have hac : c < a := by omega
    clear hc hc1 ha hb h
    go_enter Tryz.func104, Tryz.ntmps104
    go_wp2
    go_ret2
    exact ⟨rfl, rfl⟩
set_option maxHeartbeats 400000 in
theorem sub_uint64 (a b : Nat) (w : World) (ha : a < 18446744073709551616) (hb : b < 18446744073709551616) (p : Nat × Bool) (hp : Num.sub a b = p) :
    Calls Tryz.prog 105 #[.int .u64 (a : Nat), .int .u64 (b : Nat)] w fun e w' => e = .returned (.tuple #[.int .u64 (p.1 : Nat), .bool p.2]) ∧ w = w' := by
  unfold Num.sub at hp
  split at hp
  · rename_i h
    subst hp
    have e1 : IntKind.u64.wrap ((a : Int) - (b : Int)) = ((a - b : Nat) : Int) := by
      rw [show (a : Int) - (b : Int) = ((a - b : Nat) : Int) by omega, wrap_uint64, Nat.mod_eq_of_lt (by omega)]
    have hs : (a : Int) - (b : Int) = ((a - b : Nat) : Int) := by omega
    have HS := Lib.hid hs
    clear hs
    go_enter Tryz.func105, Tryz.ntmps105
    go_wp2
    go_ret2
    exact ⟨by first | rfl | exact ret_ip _ HS.out, rfl⟩
  · rename_i h
    subst hp
    go_enter Tryz.func105, Tryz.ntmps105
    go_wp2
    go_ret2
    exact ⟨rfl, rfl⟩

theorem wrap_Tiny (n : Nat) : IntKind.u8.wrap (n : Int) = ((n % 256 : Nat) : Int) := by simp [IntKind.wrap, IntKind.bits, IntKind.signed]
set_option maxHeartbeats 400000 in
theorem add_Tiny (a b : Nat) (w : World) (ha : a < 256) (hb : b < 256) (p : Nat × Bool) (hp : Num.add 256 a b = p) :
    Calls Tryz.prog 109 #[.int .u8 (a : Nat), .int .u8 (b : Nat)] w fun e w' => e = .returned (.tuple #[.int .u8 (p.1 : Nat), .bool p.2]) ∧ w = w' := by
  unfold Num.add at hp
  obtain ⟨c, hc⟩ : ∃ c, c = (a + b) % 256 := ⟨_, rfl⟩
  have e1 : IntKind.u8.wrap ((a : Int) + (b : Int)) = (c : Int) := by rw [Num.addN, wrap_Tiny, hc]
  split at hp
  · rename_i h
    subst hp
    have hc1 : c = a + b := by rw [hc]; exact Nat.mod_eq_of_lt h
    have hac : a ≤ c := by omega
    have HC := Lib.hid hc1
    clear hc hc1 ha hb h
    go_enter Tryz.func109, Tryz.ntmps109
    go_wp2
    go_ret2
    exact ⟨ret_np _ HC.out, rfl⟩
  · rename_i h
    subst hp
    have hc1 : c + 256 = a + b := by rw [hc]; omega
    have hac : c < a := by omega
    clear hc hc1 ha hb h
    go_enter Tryz.func109, Tryz.ntmps109
    go_wp2
    go_ret2
    exact ⟨rfl, rfl⟩
set_option maxHeartbeats 400000 in
theorem sub_Tiny (a b : Nat) (w : World) (ha : a < 256) (hb : b < 256) (p : Nat × Bool) (hp : Num.sub a b = p) :
    Calls Tryz.prog 110 #[.int .u8 (a : Nat), .int .u8 (b : Nat)] w fun e w' => e = .returned (.tuple #[.int .u8 (p.1 : Nat), .bool p.2]) ∧ w = w' := by
  unfold Num.sub at hp
  split at hp
  · rename_i h
    subst hp
    have e1 : IntKind.u8.wrap ((a : Int) - (b : Int)) = ((a - b : Nat) : Int) := by
      rw [show (a : Int) - (b : Int) = ((a - b : Nat) : Int) by omega, wrap_Tiny, Nat.mod_eq_of_lt (by omega)]
    have hs : (a : Int) - (b : Int) = ((a - b : Nat) : Int) := by omega
    have HS := Lib.hid hs
    clear hs
    go_enter Tryz.func110, Tryz.ntmps110
    go_wp2
    go_ret2
    exact ⟨by first | rfl | exact ret_ip _ HS.out, rfl⟩
  · rename_i h
    subst hp
    go_enter Tryz.func110, Tryz.ntmps110
    go_wp2
    go_ret2
    exact ⟨rfl, rfl⟩

theorem wrap_Small (n : Nat) : IntKind.u16.wrap (n : Int) = ((n % 65536 : Nat) : Int) := by simp [IntKind.wrap, IntKind.bits, IntKind.signed]
set_option maxHeartbeats 400000 in
theorem add_Small (a b : Nat) (w : World) (ha : a < 65536) (hb : b < 65536) (p : Nat × Bool) (hp : Num.add 65536 a b = p) :
    Calls Tryz.prog 114 #[.int .u16 (a : Nat), .int .u16 (b : Nat)] w fun e w' => e = .returned (.tuple #[.int .u16 (p.1 : Nat), .bool p.2]) ∧ w = w' := by
  unfold Num.add at hp
  obtain ⟨c, hc⟩ : ∃ c, c = (a + b) % 65536 := ⟨_, rfl⟩
  have e1 : IntKind.u16.wrap ((a : Int) + (b : Int)) = (c : Int) := by rw [Num.addN, wrap_Small, hc]
  split at hp
  · rename_i h
    subst hp
    have hc1 : c = a + b := by rw [hc]; exact Nat.mod_eq_of_lt h
    have hac : a ≤ c := by omega
    have HC := Lib.hid hc1
    clear hc hc1 ha hb h
    go_enter Tryz.func114, Tryz.ntmps114
    go_wp2
    go_ret2
    exact ⟨ret_np _ HC.out, rfl⟩
  · rename_i h
    subst hp
    have hc1 : c + 65536 = a + b := by rw [hc]; omega
    have hac : c < a := by omega
    clear hc hc1 ha hb h
    go_enter Tryz.func114, Tryz.ntmps114
    go_wp2
    go_ret2
    exact ⟨rfl, rfl⟩
set_option maxHeartbeats 400000 in
theorem sub_Small (a b : Nat) (w : World) (ha : a < 65536) (hb : b < 65536) (p : Nat × Bool) (hp : Num.sub a b = p) :
    Calls Tryz.prog 115 #[.int .u16 (a : Nat), .int .u16 (b : Nat)] w fun e w' => e = .returned (.tuple #[.int .u16 (p.1 : Nat), .bool p.2]) ∧ w = w' := by
  unfold Num.sub at hp
  split at hp
  · rename_i h
    subst hp
    have e1 : IntKind.u16.wrap ((a : Int) - (b : Int)) = ((a - b : Nat) : Int) := by
      rw [show (a : Int) - (b : Int) = ((a - b : Nat) : Int) by omega, wrap_Small, Nat.mod_eq_of_lt (by omega)]
    have hs : (a : Int) - (b : Int) = ((a - b : Nat) : Int) := by omega
    have HS := Lib.hid hs
    clear hs
    go_enter Tryz.func115, Tryz.ntmps115
    go_wp2
    go_ret2
    exact ⟨by first | rfl | exact ret_ip _ HS.out, rfl⟩
  · rename_i h
    subst hp
    go_enter Tryz.func115, Tryz.ntmps115
    go_wp2
    go_ret2
    exact ⟨rfl, rfl⟩

theorem wrap_Plain (n : Nat) : IntKind.u32.wrap (n : Int) = ((n % 4294967296 : Nat) : Int) := by simp [IntKind.wrap, IntKind.bits, IntKind.signed]
set_option maxHeartbeats 400000 in
theorem add_Plain (a b : Nat) (w : World) (ha : a < 4294967296) (hb : b < 4294967296) (p : Nat × Bool) (hp : Num.add 4294967296 a b = p) :
    Calls Tryz.prog 119 #[.int .u32 (a : Nat), .int .u32 (b : Nat)] w fun e w' => e = .returned (.tuple #[.int .u32 (p.1 : Nat), .bool p.2]) ∧ w = w' := by
  unfold Num.add at hp
  obtain ⟨c, hc⟩ : ∃ c, c = (a + b) % 4294967296 := ⟨_, rfl⟩
  have e1 : IntKind.u32.wrap ((a : Int) + (b : Int)) = (c : Int) := by rw [Num.addN, wrap_Plain, hc]
  split at hp
  · rename_i h
    subst hp
    have hc1 : c = a + b := by rw [hc]; exact Nat.mod_eq_of_lt h
    have hac : a ≤ c := by omega
    have HC := Lib.hid hc1
    clear hc hc1 ha hb h
    go_enter Tryz.func119, Tryz.ntmps119
    go_wp2
    go_ret2
    exact ⟨ret_np _ HC.out, rfl⟩
  · rename_i h
    subst hp
    have hc1 : c + 4294967296 = a + b := by rw [hc]; omega
    have hac : c < a := by omega
    clear hc hc1 ha hb h
    go_enter Tryz.func119, Tryz.ntmps119
    go_wp2
    go_ret2
    exact ⟨rfl, rfl⟩
set_option maxHeartbeats 400000 in
theorem sub_Plain (a b : Nat) (w : World) (ha : a < 4294967296) (hb : b < 4294967296) (p : Nat × Bool) (hp : Num.sub a b = p) :
    Calls Tryz.prog 120 #[.int .u32 (a : Nat), .int .u32 (b : Nat)] w fun e w' => e = .returned (.tuple #[.int .u32 (p.1 : Nat), .bool p.2]) ∧ w = w' := by
  unfold Num.sub at hp
  split at hp
  · rename_i h
    subst hp
    have e1 : IntKind.u32.wrap ((a : Int) - (b : Int)) = ((a - b : Nat) : Int) := by
      rw [show (a : Int) - (b : Int) = ((a - b : Nat) : Int) by omega, wrap_Plain, Nat.mod_eq_of_lt (by omega)]
    have hs : (a : Int) - (b : Int) = ((a - b : Nat) : Int) := by omega
    have HS := Lib.hid hs
    clear hs
    go_enter Tryz.func120, Tryz.ntmps120
    go_wp2
    go_ret2
    exact ⟨by first | rfl | exact ret_ip _ HS.out, rfl⟩
  · rename_i h
    subst hp
    go_enter Tryz.func120, Tryz.ntmps120
    go_wp2
    go_ret2
    exact ⟨rfl, rfl⟩

theorem wrap_Great (n : Nat) : IntKind.u64.wrap (n : Int) = ((n % 18446744073709551616 : Nat) : Int) := by simp [IntKind.wrap, IntKind.bits, IntKind.signed]
set_option maxHeartbeats 400000 in
theorem add_Great (a b : Nat) (w : World) (ha : a < 18446744073709551616) (hb : b < 18446744073709551616) (p : Nat × Bool) (hp : Num.add 18446744073709551616 a b = p) :
    Calls Tryz.prog 124 #[.int .u64 (a : Nat), .int .u64 (b : Nat)] w fun e w' => e = .returned (.tuple #[.int .u64 (p.1 : Nat), .bool p.2]) ∧ w = w' := by
  unfold Num.add at hp
  obtain ⟨c, hc⟩ : ∃ c, c = (a + b) % 18446744073709551616 := ⟨_, rfl⟩
  have e1 : IntKind.u64.wrap ((a : Int) + (b : Int)) = (c : Int) := by rw [Num.addN, wrap_Great, hc]
  split at hp
  · rename_i h
    subst hp
    have hc1 : c = a + b := by rw [hc]; exact Nat.mod_eq_of_lt h
    have hac : a ≤ c := by omega
    have HC := Lib.hid hc1
    clear hc hc1 ha hb h
    go_enter Tryz.func124, Tryz.ntmps124
    go_wp2
    go_ret2
    exact ⟨ret_np _ HC.out, rfl⟩
  · rename_i h
    subst hp
    have hc1 : c + 18446744073709551616 = a + b := by rw [hc]; omega
    have hac : c < a := by omega
    clear hc hc1 ha hb h
    go_enter Tryz.func124, Tryz.ntmps124
    go_wp2
    go_ret2
    exact ⟨rfl, rfl⟩
set_option maxHeartbeats 400000 in
theorem sub_Great (a b : Nat) (w : World) (ha : a < 18446744073709551616) (hb : b < 18446744073709551616) (p : Nat × Bool) (hp : Num.sub a b = p) :
    Calls Tryz.prog 125 #[.int .u64 (a : Nat), .int .u64 (b : Nat)] w fun e w' => e = .returned (.tuple #[.int .u64 (p.1 : Nat), .bool p.2]) ∧ w = w' := by
  unfold Num.sub at hp
  split at hp
  · rename_i h
    subst hp
    have e1 : IntKind.u64.wrap ((a : Int) - (b : Int)) = ((a - b : Nat) : Int) := by
      rw [show (a : Int) - (b : Int) = ((a - b : Nat) : Int) by omega, wrap_Great, Nat.mod_eq_of_lt (by omega)]
    have hs : (a : Int) - (b : Int) = ((a - b : Nat) : Int) := by omega
    have HS := Lib.hid hs
    clear hs
    go_enter Tryz.func125, Tryz.ntmps125
    go_wp2
    go_ret2
    exact ⟨by first | rfl | exact ret_ip _ HS.out, rfl⟩
  · rename_i h
    subst hp
    go_enter Tryz.func125, Tryz.ntmps125
    go_wp2
    go_ret2
    exact ⟨rfl, rfl⟩

set_option maxHeartbeats 400000 in
theorem to_uint8 (n : Nat) (w : World) (hn : n < 18446744073709551616) (p : Nat × Bool) (hp : Num.to 256 n = p) :
    Calls Tryz.prog 68 #[.int .u64 (n : Nat)] w fun e w' => e = .returned (.tuple #[.int .u8 (p.1 : Nat), .bool p.2]) ∧ w = w' := by
  unfold Num.to at hp
  obtain ⟨m, hm⟩ : ∃ m, m = n % 256 := ⟨_, rfl⟩
  have e1 : IntKind.u8.wrap (n : Int) = (m : Int) := by rw [wrap_uint8, hm]
  have e2 : IntKind.u64.wrap (m : Int) = (m : Int) := Num.wrapN m (by omega)
  split at hp
  · rename_i h
    subst hp
    have hmn : m = n := by rw [hm]; exact Nat.mod_eq_of_lt h
    have e3 : ((m : Int) != (n : Int)) = false := by rw [bne_eq_false_iff_eq, hmn]
    have HM := Lib.hid hmn
    have hlt : m < 256 := by omega
    clear h hm hmn
    go_enter Tryz.func68, Tryz.ntmps68
    go_wp2
    go_ret2
    exact ⟨by first | exact ret_np _ HM.out | rfl, rfl⟩
  · rename_i h
    subst hp
    have e3 : ((m : Int) != (n : Int)) = true := by rw [bne_iff_ne]; omega
    clear h hm
    go_enter Tryz.func68, Tryz.ntmps68
    go_wp2
    go_ret2
    exact ⟨rfl, rfl⟩
theorem mul_eq_uint8 (a b : Nat) (ha : a < 256) (hb : b < 256) : Num.mul 256 a b = if a * b / 18446744073709551616 = 0 then Num.to 256 (a * b % 18446744073709551616) else (0, false) := by
  unfold Num.mul Num.to
  by_cases h : a * b < 18446744073709551616
  · rw [Nat.mod_eq_of_lt h, if_pos (Nat.div_eq_of_lt h)]
  · rw [if_neg (by omega), if_neg (by omega)]
set_option maxHeartbeats 400000 in
theorem mul_uint8 (a b : Nat) (w : World) (ha : a < 256) (hb : b < 256) (p : Nat × Bool) (hp : Num.mul 256 a b = p) :
    Calls Tryz.prog 89 #[.int .u8 (a : Nat), .int .u8 (b : Nat)] w fun e w' => e = .returned (.tuple #[.int .u8 (p.1 : Nat), .bool p.2]) ∧ w = w' := by
  rw [mul_eq_uint8 a b ha hb] at hp
  have e1 : IntKind.u64.wrap (a : Int) = (a : Int) := Num.wrapN a (by omega)
  have e2 : IntKind.u64.wrap (b : Int) = (b : Int) := Num.wrapN b (by omega)
  have hm := Lib.hid (mul64_any a b (by omega) (by omega) w)
  obtain ⟨hi, hhi⟩ : ∃ hi, hi = a * b / 18446744073709551616 := ⟨_, rfl⟩
  obtain ⟨lo, hlo⟩ : ∃ lo, lo = a * b % 18446744073709551616 := ⟨_, rfl⟩
  rw [← hhi, ← hlo] at hm hp
  have hlo' : lo < 18446744073709551616 := by omega
  clear hhi hlo
  by_cases h0 : hi = 0
  · rw [if_pos h0] at hp
    have e3 : ((hi : Int) != 0) = false := by rw [bne_eq_false_iff_eq, h0]; rfl
    have HP := Lib.hid hp
    clear h0 hp
    go_enter Tryz.func89, Tryz.ntmps89
    go_wp2_with fail
    refine hm.out.mono ?_
    rintro e w' ⟨rfl, rfl⟩
    go_wp2_with fail
    refine (to_uint8 lo w hlo' p HP.out).mono ?_
    rintro e w' ⟨rfl, rfl⟩
    go_wp2_with fail
    go_ret2
    exact ⟨rfl, rfl⟩
  · rw [if_neg h0] at hp
    subst hp
    have e3 : ((hi : Int) != 0) = true := by rw [bne_iff_ne]; omega
    clear h0
    go_enter Tryz.func89, Tryz.ntmps89
    go_wp2_with fail
    refine hm.out.mono ?_
    rintro e w' ⟨rfl, rfl⟩
    go_wp2_with fail
    go_ret2
    exact ⟨rfl, rfl⟩
set_option maxHeartbeats 400000 in
theorem up_uint8 (n al : Nat) (w : World) (hn : n < 256) (hal : al < 256) (p : Nat × Bool) (hp : Num.up 256 n al = p) :
    Calls Tryz.prog 91 #[.int .u8 (n : Nat), .int .u8 (al : Nat)] w fun e w' => e = .returned (.tuple #[.int .u8 (p.1 : Nat), .bool p.2]) ∧ w = w' := by
  unfold Num.up at hp
  split at hp
  · rename_i h
    subst hp
    subst h
    go_enter Tryz.func91, Tryz.ntmps91
    go_wp2_with fail
    go_ret2
    exact ⟨rfl, rfl⟩
  · rename_i h
    have hal1 : 1 ≤ al := by omega
    have e0 : ((al : Int) == 0) = false := beq_eq_false_iff_ne.2 (by omega)
    obtain ⟨r, hr⟩ : ∃ r, r = n % al := ⟨_, rfl⟩
    have hrl : r < al := by rw [hr]; exact Nat.mod_lt _ (by omega)
    have hrn : r ≤ n := by rw [hr]; exact Nat.mod_le _ _
    have e1 : (n : Int) % (al : Int) = (r : Int) := by rw [hr]; exact (Int.natCast_emod n al).symm
    rw [← hr] at hp
    clear h hr
    split at hp
    · rename_i h
      subst hp
      have e2 : ((r : Int) == 0) = true := beq_iff_eq.2 (by omega)
      clear h
      go_enter Tryz.func91, Tryz.ntmps91
      go_wp2_with fail
      go_ret2
      exact ⟨rfl, rfl⟩
    · rename_i h
      have e2 : ((r : Int) == 0) = false := beq_eq_false_iff_ne.2 (by omega)
      have e3 : (n : Int) - (r : Int) = ((n - r : Nat) : Int) := by omega
      obtain ⟨m, hm⟩ : ∃ m, m = n - r := ⟨_, rfl⟩
      rw [← hm] at e3 hp
      have hml : m < 256 := by omega
      have HP := Lib.hid hp
      clear hp h hm
      go_enter Tryz.func91, Tryz.ntmps91
      go_wp2_with fail
      refine (add_uint8 m al w hml hal p HP.out).mono ?_
      rintro e w' ⟨rfl, rfl⟩
      go_wp2_with fail
      go_ret2
      exact ⟨rfl, rfl⟩

set_option maxHeartbeats 400000 in
theorem to_uint16 (n : Nat) (w : World) (hn : n < 18446744073709551616) (p : Nat × Bool) (hp : Num.to 65536 n = p) :
    Calls Tryz.prog 69 #[.int .u64 (n : Nat)] w fun e w' => e = .returned (.tuple #[.int .u16 (p.1 : Nat), .bool p.2]) ∧ w = w' := by
  unfold Num.to at hp
  obtain ⟨m, hm⟩ : ∃ m, m = n % 65536 := ⟨_, rfl⟩
  have e1 : IntKind.u16.wrap (n : Int) = (m : Int) := by rw [wrap_uint16, hm]
  have e2 : IntKind.u64.wrap (m : Int) = (m : Int) := Num.wrapN m (by omega)
  split at hp
  · rename_i h
    subst hp
    have hmn : m = n := by rw [hm]; exact Nat.mod_eq_of_lt h
    have e3 : ((m : Int) != (n : Int)) = false := by rw [bne_eq_false_iff_eq, hmn]
    have HM := Lib.hid hmn
    have hlt : m < 65536 := by omega
    clear h hm hmn
    go_enter Tryz.func69, Tryz.ntmps69
    go_wp2
    go_ret2
    exact ⟨by first | exact ret_np _ HM.out | rfl, rfl⟩
  · rename_i h
    subst hp
    have e3 : ((m : Int) != (n : Int)) = true := by rw [bne_iff_ne]; omega
    clear h hm
    go_enter Tryz.func69, Tryz.ntmps69
    go_wp2
    go_ret2
    exact ⟨rfl, rfl⟩
theorem mul_eq_uint16 (a b : Nat) (ha : a < 65536) (hb : b < 65536) : Num.mul 65536 a b = if a * b / 18446744073709551616 = 0 then Num.to 65536 (a * b % 18446744073709551616) else (0, false) := by
  unfold Num.mul Num.to
  by_cases h : a * b < 18446744073709551616
  · rw [Nat.mod_eq_of_lt h, if_pos (Nat.div_eq_of_lt h)]
  · rw [if_neg (by omega), if_neg (by omega)]
set_option maxHeartbeats 400000 in
theorem mul_uint16 (a b : Nat) (w : World) (ha : a < 65536) (hb : b < 65536) (p : Nat × Bool) (hp : Num.mul 65536 a b = p) :
    Calls Tryz.prog 96 #[.int .u16 (a : Nat), .int .u16 (b : Nat)] w fun e w' => e = .returned (.tuple #[.int .u16 (p.1 : Nat), .bool p.2]) ∧ w = w' := by
  rw [mul_eq_uint16 a b ha hb] at hp
  have e1 : IntKind.u64.wrap (a : Int) = (a : Int) := Num.wrapN a (by omega)
  have e2 : IntKind.u64.wrap (b : Int) = (b : Int) := Num.wrapN b (by omega)
  have hm := Lib.hid (mul64_any a b (by omega) (by omega) w)
  obtain ⟨hi, hhi⟩ : ∃ hi, hi = a * b / 18446744073709551616 := ⟨_, rfl⟩
  obtain ⟨lo, hlo⟩ : ∃ lo, lo = a * b % 18446744073709551616 := ⟨_, rfl⟩
  rw [← hhi, ← hlo] at hm hp
  have hlo' : lo < 18446744073709551616 := by omega
  clear hhi hlo
  by_cases h0 : hi = 0
  · rw [if_pos h0] at hp
    have e3 : ((hi : Int) != 0) = false := by rw [bne_eq_false_iff_eq, h0]; rfl
    have HP := Lib.hid hp
    clear h0 hp
    go_enter Tryz.func96, Tryz.ntmps96
    go_wp2_with fail
    refine hm.out.mono ?_
    rintro e w' ⟨rfl, rfl⟩
    go_wp2_with fail
    refine (to_uint16 lo w hlo' p HP.out).mono ?_
    rintro e w' ⟨rfl, rfl⟩
    go_wp2_with fail
    go_ret2
    exact ⟨rfl, rfl⟩
  · rw [if_neg h0] at hp
    subst hp
    have e3 : ((hi : Int) != 0) = true := by rw [bne_iff_ne]; omega
    clear h0
    go_enter Tryz.func96, Tryz.ntmps96
    go_wp2_with fail
    refine hm.out.mono ?_
    rintro e w' ⟨rfl, rfl⟩
    go_wp2_with fail
    go_ret2
    exact ⟨rfl, rfl⟩
set_option maxHeartbeats 400000 in
theorem up_uint16 (n al : Nat) (w : World) (hn : n < 65536) (hal : al < 65536) (p : Nat × Bool) (hp : Num.up 65536 n al = p) :
    Calls Tryz.prog 97 #[.int .u16 (n : Nat), .int .u16 (al : Nat)] w fun e w' => e = .returned (.tuple #[.int .u16 (p.1 : Nat), .bool p.2]) ∧ w = w' := by
  unfold Num.up at hp
  split at hp
  · rename_i h
    subst hp
    subst h
    go_enter Tryz.func97, Tryz.ntmps97
    go_wp2_with fail
    go_ret2
    exact ⟨rfl, rfl⟩
  · rename_i h
    have hal1 : 1 ≤ al := by omega
    have e0 : ((al : Int) == 0) = false := beq_eq_false_iff_ne.2 (by omega)
    obtain ⟨r, hr⟩ : ∃ r, r = n % al := ⟨_, rfl⟩
    have hrl : r < al := by rw [hr]; exact Nat.mod_lt _ (by omega)
    have hrn : r ≤ n := by rw [hr]; exact Nat.mod_le _ _
    have e1 : (n : Int) % (al : Int) = (r : Int) := by rw [hr]; exact (Int.natCast_emod n al).symm
    rw [← hr] at hp
    clear h hr
    split at hp
    · rename_i h
      subst hp
      have e2 : ((r : Int) == 0) = true := beq_iff_eq.2 (by omega)
      clear h
      go_enter Tryz.func97, Tryz.ntmps97
      go_wp2_with fail
      go_ret2
      exact ⟨rfl, rfl⟩
    · rename_i h
      have e2 : ((r : Int) == 0) = false := beq_eq_false_iff_ne.2 (by omega)
      have e3 : (n : Int) - (r : Int) = ((n - r : Nat) : Int) := by omega
      obtain ⟨m, hm⟩ : ∃ m, m = n - r := ⟨_, rfl⟩
      rw [← hm] at e3 hp
      have hml : m < 65536 := by omega
      have HP := Lib.hid hp
      clear hp h hm
      go_enter Tryz.func97, Tryz.ntmps97
      go_wp2_with fail
      refine (add_uint16 m al w hml hal p HP.out).mono ?_
      rintro e w' ⟨rfl, rfl⟩
      go_wp2_with fail
      go_ret2
      exact ⟨rfl, rfl⟩

set_option maxHeartbeats 400000 in
theorem to_uint32 (n : Nat) (w : World) (hn : n < 18446744073709551616) (p : Nat × Bool) (hp : Num.to 4294967296 n = p) :
    Calls Tryz.prog 70 #[.int .u64 (n : Nat)] w fun e w' => e = .returned (.tuple #[.int .u32 (p.1 : Nat), .bool p.2]) ∧ w = w' := by
  unfold Num.to at hp
  obtain ⟨m, hm⟩ : ∃ m, m = n % 4294967296 := ⟨_, rfl⟩
  have e1 : IntKind.u32.wrap (n : Int) = (m : Int) := by rw [wrap_uint32, hm]
  have e2 : IntKind.u64.wrap (m : Int) = (m : Int) := Num.wrapN m (by omega)
  split at hp
  · rename_i h
    subst hp
    have hmn : m = n := by rw [hm]; exact Nat.mod_eq_of_lt h
    have e3 : ((m : Int) != (n : Int)) = false := by rw [bne_eq_false_iff_eq, hmn]
    have HM := Lib.hid hmn
    have hlt : m < 4294967296 := by omega
    clear h hm hmn
    go_enter Tryz.func70, Tryz.ntmps70
    go_wp2
    go_ret2
    exact ⟨by first | exact ret_np _ HM.out | rfl, rfl⟩
  · rename_i h
    subst hp
    have e3 : ((m : Int) != (n : Int)) = true := by rw [bne_iff_ne]; omega
    clear h hm
    go_enter Tryz.func70, Tryz.ntmps70
    go_wp2
    go_ret2
    exact ⟨rfl, rfl⟩
theorem mul_eq_uint32 (a b : Nat) (ha : a < 4294967296) (hb : b < 4294967296) : Num.mul 4294967296 a b = if a * b / 18446744073709551616 = 0 then Num.to 4294967296 (a * b % 18446744073709551616) else (0, false) := by
  unfold Num.mul Num.to
  by_cases h : a * b < 18446744073709551616
  · rw [Nat.mod_eq_of_lt h, if_pos (Nat.div_eq_of_lt h)]
  · rw [if_neg (by omega), if_neg (by omega)]
set_option maxHeartbeats 400000 in
theorem mul_uint32 (a b : Nat) (w : World) (ha : a < 4294967296) (hb : b < 4294967296) (p : Nat × Bool) (hp : Num.mul 4294967296 a b = p) :
    Calls Tryz.prog 101 #[.int .u32 (a : Nat), .int .u32 (b : Nat)] w fun e w' => e = .returned (.tuple #[.int .u32 (p.1 : Nat), .bool p.2]) ∧ w = w' := by
  rw [mul_eq_uint32 a b ha hb] at hp
  have e1 : IntKind.u64.wrap (a : Int) = (a : Int) := Num.wrapN a (by omega)
  have e2 : IntKind.u64.wrap (b : Int) = (b : Int) := Num.wrapN b (by omega)
  have hm := Lib.hid (mul64_any a b (by omega) (by omega) w)
  obtain ⟨hi, hhi⟩ : ∃ hi, hi = a * b / 18446744073709551616 := ⟨_, rfl⟩
  obtain ⟨lo, hlo⟩ : ∃ lo, lo = a * b % 18446744073709551616 := ⟨_, rfl⟩
  rw [← hhi, ← hlo] at hm hp
  have hlo' : lo < 18446744073709551616 := by omega
  clear hhi hlo
  by_cases h0 : hi = 0
  · rw [if_pos h0] at hp
    have e3 : ((hi : Int) != 0) = false := by rw [bne_eq_false_iff_eq, h0]; rfl
    have HP := Lib.hid hp
    clear h0 hp
    go_enter Tryz.func101, Tryz.ntmps101
    go_wp2_with fail
    refine hm.out.mono ?_
    rintro e w' ⟨rfl, rfl⟩
    go_wp2_with fail
    refine (to_uint32 lo w hlo' p HP.out).mono ?_
    rintro e w' ⟨rfl, rfl⟩
    go_wp2_with fail
    go_ret2
    exact ⟨rfl, rfl⟩
  · rw [if_neg h0] at hp
    subst hp
    have e3 : ((hi : Int) != 0) = true := by rw [bne_iff_ne]; omega
    clear h0
    go_enter Tryz.func101, Tryz.ntmps101
    go_wp2_with fail
    refine hm.out.mono ?_
    rintro e w' ⟨rfl, rfl⟩
    go_wp2_with fail
    go_ret2
    exact ⟨rfl, rfl⟩
set_option maxHeartbeats 400000 in
theorem up_uint32 (n al : Nat) (w : World) (hn : n < 4294967296) (hal : al < 4294967296) (p : Nat × Bool) (hp : Num.up 4294967296 n al = p) :
    Calls Tryz.prog 102 #[.int .u32 (n : Nat), .int .u32 (al : Nat)] w fun e w' => e = .returned (.tuple #[.int .u32 (p.1 : Nat), .bool p.2]) ∧ w = w' := by
  unfold Num.up at hp
  split at hp
  · rename_i h
    subst hp
    subst h
    go_enter Tryz.func102, Tryz.ntmps102
    go_wp2_with fail
    go_ret2
    exact ⟨rfl, rfl⟩
  · rename_i h
    have hal1 : 1 ≤ al := by omega
    have e0 : ((al : Int) == 0) = false := beq_eq_false_iff_ne.2 (by omega)
    obtain ⟨r, hr⟩ : ∃ r, r = n % al := ⟨_, rfl⟩
    have hrl : r < al := by rw [hr]; exact Nat.mod_lt _ (by omega)
    have hrn : r ≤ n := by rw [hr]; exact Nat.mod_le _ _
    have e1 : (n : Int) % (al : Int) = (r : Int) := by rw [hr]; exact (Int.natCast_emod n al).symm
    rw [← hr] at hp
    clear h hr
    split at hp
    · rename_i h
      subst hp
      have e2 : ((r : Int) == 0) = true := beq_iff_eq.2 (by omega)
      clear h
      go_enter Tryz.func102, Tryz.ntmps102
      go_wp2_with fail
      go_ret2
      exact ⟨rfl, rfl⟩
    · rename_i h
      have e2 : ((r : Int) == 0) = false := beq_eq_false_iff_ne.2 (by omega)
      have e3 : (n : Int) - (r : Int) = ((n - r : Nat) : Int) := by omega
      obtain ⟨m, hm⟩ : ∃ m, m = n - r := ⟨_, rfl⟩
      rw [← hm] at e3 hp
      have hml : m < 4294967296 := by omega
      have HP := Lib.hid hp
      clear hp h hm
      go_enter Tryz.func102, Tryz.ntmps102
      go_wp2_with fail
      refine (add_uint32 m al w hml hal p HP.out).mono ?_
      rintro e w' ⟨rfl, rfl⟩
      go_wp2_with fail
      go_ret2
      exact ⟨rfl, rfl⟩

set_option maxHeartbeats 400000 in
theorem to_uint64 (n : Nat) (w : World) (hn : n < 18446744073709551616) (p : Nat × Bool) (hp : Num.to 18446744073709551616 n = p) :
    Calls Tryz.prog 71 #[.int .u64 (n : Nat)] w fun e w' => e = .returned (.tuple #[.int .u64 (p.1 : Nat), .bool p.2]) ∧ w = w' := by
  unfold Num.to at hp
  obtain ⟨m, hm⟩ : ∃ m, m = n % 18446744073709551616 := ⟨_, rfl⟩
  have e1 : IntKind.u64.wrap (n : Int) = (m : Int) := by rw [wrap_uint64, hm]
  have e2 : IntKind.u64.wrap (m : Int) = (m : Int) := Num.wrapN m (by omega)
  split at hp
  · rename_i h
    subst hp
    have hmn : m = n := by rw [hm]; exact Nat.mod_eq_of_lt h
    have e3 : ((m : Int) != (n : Int)) = false := by rw [bne_eq_false_iff_eq, hmn]
    have HM := Lib.hid hmn
    have hlt : m < 18446744073709551616 := by omega
    clear h hm hmn
    go_enter Tryz.func71, Tryz.ntmps71
    go_wp2
    go_ret2
    exact ⟨by first | exact ret_np _ HM.out | rfl, rfl⟩
  · rename_i h
    subst hp
    have e3 : ((m : Int) != (n : Int)) = true := by rw [bne_iff_ne]; omega
    clear h hm
    go_enter Tryz.func71, Tryz.ntmps71
    go_wp2
    go_ret2
    exact ⟨rfl, rfl⟩
theorem mul_eq_uint64 (a b : Nat) (ha : a < 18446744073709551616) (hb : b < 18446744073709551616) : Num.mul 18446744073709551616 a b = if a * b / 18446744073709551616 = 0 then Num.to 18446744073709551616 (a * b % 18446744073709551616) else (0, false) := by
  unfold Num.mul Num.to
  by_cases h : a * b < 18446744073709551616
  · rw [Nat.mod_eq_of_lt h, if_pos (Nat.div_eq_of_lt h)]
  · rw [if_neg (by omega), if_neg (by omega)]
set_option maxHeartbeats 400000 in
theorem mul_uint64 (a b : Nat) (w : World) (ha : a < 18446744073709551616) (hb : b < 18446744073709551616) (p : Nat × Bool) (hp : Num.mul 18446744073709551616 a b = p) :
    Calls Tryz.prog 106 #[.int .u64 (a : Nat), .int .u64 (b : Nat)] w fun e w' => e = .returned (.tuple #[.int .u64 (p.1 : Nat), .bool p.2]) ∧ w = w' := by
  rw [mul_eq_uint64 a b ha hb] at hp
  have e1 : IntKind.u64.wrap (a : Int) = (a : Int) := Num.wrapN a (by omega)
  have e2 : IntKind.u64.wrap (b : Int) = (b : Int) := Num.wrapN b (by omega)
  have hm := Lib.hid (mul64_any a b (by omega) (by omega) w)
  obtain ⟨hi, hhi⟩ : ∃ hi, hi = a * b / 18446744073709551616 := ⟨_, rfl⟩
  obtain ⟨lo, hlo⟩ : ∃ lo, lo = a * b % 18446744073709551616 := ⟨_, rfl⟩
  rw [← hhi, ← hlo] at hm hp
  have hlo' : lo < 18446744073709551616 := by omega
  clear hhi hlo
  by_cases h0 : hi = 0
  · rw [if_pos h0] at hp
    have e3 : ((hi : Int) != 0) = false := by rw [bne_eq_false_iff_eq, h0]; rfl
    have HP := Lib.hid hp
    clear h0 hp
    go_enter Tryz.func106, Tryz.ntmps106
    go_wp2_with fail
    refine hm.out.mono ?_
    rintro e w' ⟨rfl, rfl⟩
    go_wp2_with fail
    refine (to_uint64 lo w hlo' p HP.out).mono ?_
    rintro e w' ⟨rfl, rfl⟩
    go_wp2_with fail
    go_ret2
    exact ⟨rfl, rfl⟩
  · rw [if_neg h0] at hp
    subst hp
    have e3 : ((hi : Int) != 0) = true := by rw [bne_iff_ne]; omega
    clear h0
    go_enter Tryz.func106, Tryz.ntmps106
    go_wp2_with fail
    refine hm.out.mono ?_
    rintro e w' ⟨rfl, rfl⟩
    go_wp2_with fail
    go_ret2
    exact ⟨rfl, rfl⟩
set_option maxHeartbeats 400000 in
theorem up_uint64 (n al : Nat) (w : World) (hn : n < 18446744073709551616) (hal : al < 18446744073709551616) (p : Nat × Bool) (hp : Num.up 18446744073709551616 n al = p) :
    Calls Tryz.prog 107 #[.int .u64 (n : Nat), .int .u64 (al : Nat)] w fun e w' => e = .returned (.tuple #[.int .u64 (p.1 : Nat), .bool p.2]) ∧ w = w' := by
  unfold Num.up at hp
  split at hp
  · rename_i h
    subst hp
    subst h
    go_enter Tryz.func107, Tryz.ntmps107
    go_wp2_with fail
    go_ret2
    exact ⟨rfl, rfl⟩
  · rename_i h
    have hal1 : 1 ≤ al := by omega
    have e0 : ((al : Int) == 0) = false := beq_eq_false_iff_ne.2 (by omega)
    obtain ⟨r, hr⟩ : ∃ r, r = n % al := ⟨_, rfl⟩
    have hrl : r < al := by rw [hr]; exact Nat.mod_lt _ (by omega)
    have hrn : r ≤ n := by rw [hr]; exact Nat.mod_le _ _
    have e1 : (n : Int) % (al : Int) = (r : Int) := by rw [hr]; exact (Int.natCast_emod n al).symm
    rw [← hr] at hp
    clear h hr
    split at hp
    · rename_i h
      subst hp
      have e2 : ((r : Int) == 0) = true := beq_iff_eq.2 (by omega)
      clear h
      go_enter Tryz.func107, Tryz.ntmps107
      go_wp2_with fail
      go_ret2
      exact ⟨rfl, rfl⟩
    · rename_i h
      have e2 : ((r : Int) == 0) = false := beq_eq_false_iff_ne.2 (by omega)
      have e3 : (n : Int) - (r : Int) = ((n - r : Nat) : Int) := by omega
      obtain ⟨m, hm⟩ : ∃ m, m = n - r := ⟨_, rfl⟩
      rw [← hm] at e3 hp
      have hml : m < 18446744073709551616 := by omega
      have HP := Lib.hid hp
      clear hp h hm
      go_enter Tryz.func107, Tryz.ntmps107
      go_wp2_with fail
      refine (add_uint64 m al w hml hal p HP.out).mono ?_
      rintro e w' ⟨rfl, rfl⟩
      go_wp2_with fail
      go_ret2
      exact ⟨rfl, rfl⟩

set_option maxHeartbeats 400000 in
theorem to_Tiny (n : Nat) (w : World) (hn : n < 18446744073709551616) (p : Nat × Bool) (hp : Num.to 256 n = p) :
    Calls Tryz.prog 129 #[.int .u64 (n : Nat)] w fun e w' => e = .returned (.tuple #[.int .u8 (p.1 : Nat), .bool p.2]) ∧ w = w' := by
  unfold Num.to at hp
  obtain ⟨m, hm⟩ : ∃ m, m = n % 256 := ⟨_, rfl⟩
  have e1 : IntKind.u8.wrap (n : Int) = (m : Int) := by rw [wrap_Tiny, hm]
  have e2 : IntKind.u64.wrap (m : Int) = (m : Int) := Num.wrapN m (by omega)
  split at hp
  · rename_i h
    subst hp
    have hmn : m = n := by rw [hm]; exact Nat.mod_eq_of_lt h
    have e3 : ((m : Int) != (n : Int)) = false := by rw [bne_eq_false_iff_eq, hmn]
    have HM := Lib.hid hmn
    have hlt : m < 256 := by omega
    clear h hm hmn
    go_enter Tryz.func129, Tryz.ntmps129
    go_wp2
    go_ret2
    exact ⟨by first | exact ret_np _ HM.out | rfl, rfl⟩
  · rename_i h
    subst hp
    have e3 : ((m : Int) != (n : Int)) = true := by rw [bne_iff_ne]; omega
    clear h hm
    go_enter Tryz.func129, Tryz.ntmps129
    go_wp2
    go_ret2
    exact ⟨rfl, rfl⟩
theorem mul_eq_Tiny (a b : Nat) (ha : a < 256) (hb : b < 256) : Num.mul 256 a b = if a * b / 18446744073709551616 = 0 then Num.to 256 (a * b % 18446744073709551616) else (0, false) := by
  unfold Num.mul Num.to
  by_cases h : a * b < 18446744073709551616
  · rw [Nat.mod_eq_of_lt h, if_pos (Nat.div_eq_of_lt h)]
  · rw [if_neg (by omega), if_neg (by omega)]
set_option maxHeartbeats 400000 in
theorem mul_Tiny (a b : Nat) (w : World) (ha : a < 256) (hb : b < 256) (p : Nat × Bool) (hp : Num.mul 256 a b = p) :
    Calls Tryz.prog 111 #[.int .u8 (a : Nat), .int .u8 (b : Nat)] w fun e w' => e = .returned (.tuple #[.int .u8 (p.1 : Nat), .bool p.2]) ∧ w = w' := by
  rw [mul_eq_Tiny a b ha hb] at hp
  have e1 : IntKind.u64.wrap (a : Int) = (a : Int) := Num.wrapN a (by omega)
  have e2 : IntKind.u64.wrap (b : Int) = (b : Int) := Num.wrapN b (by omega)
  have hm := Lib.hid (mul64_any a b (by omega) (by omega) w)
  obtain ⟨hi, hhi⟩ : ∃ hi, hi = a * b / 18446744073709551616 := ⟨_, rfl⟩
  obtain ⟨lo, hlo⟩ : ∃ lo, lo = a * b % 18446744073709551616 := ⟨_, rfl⟩
  rw [← hhi, ← hlo] at hm hp
  have hlo' : lo < 18446744073709551616 := by omega
  clear hhi hlo
  by_cases h0 : hi = 0
  · rw [if_pos h0] at hp
    have e3 : ((hi : Int) != 0) = false := by rw [bne_eq_false_iff_eq, h0]; rfl
    have HP := Lib.hid hp
    clear h0 hp
    go_enter Tryz.func111, Tryz.ntmps111
    go_wp2_with fail
    refine hm.out.mono ?_
    rintro e w' ⟨rfl, rfl⟩
    go_wp2_with fail
    refine (to_Tiny lo w hlo' p HP.out).mono ?_
    rintro e w' ⟨rfl, rfl⟩
    go_wp2_with fail
    go_ret2
    exact ⟨rfl, rfl⟩
  · rw [if_neg h0] at hp
    subst hp
    have e3 : ((hi : Int) != 0) = true := by rw [bne_iff_ne]; omega
    clear h0
    go_enter Tryz.func111, Tryz.ntmps111
    go_wp2_with fail
    refine hm.out.mono ?_
    rintro e w' ⟨rfl, rfl⟩
    go_wp2_with fail
    go_ret2
    exact ⟨rfl, rfl⟩
set_option maxHeartbeats 400000 in
theorem up_Tiny (n al : Nat) (w : World) (hn : n < 256) (hal : al < 256) (p : Nat × Bool) (hp : Num.up 256 n al = p) :
    Calls Tryz.prog 112 #[.int .u8 (n : Nat), .int .u8 (al : Nat)] w fun e w' => e = .returned (.tuple #[.int .u8 (p.1 : Nat), .bool p.2]) ∧ w = w' := by
  unfold Num.up at hp
  split at hp
  · rename_i h
    subst hp
    subst h
    go_enter Tryz.func112, Tryz.ntmps112
    go_wp2_with fail
    go_ret2
    exact ⟨rfl, rfl⟩
  · rename_i h
    have hal1 : 1 ≤ al := by omega
    have e0 : ((al : Int) == 0) = false := beq_eq_false_iff_ne.2 (by omega)
    obtain ⟨r, hr⟩ : ∃ r, r = n % al := ⟨_, rfl⟩
    have hrl : r < al := by rw [hr]; exact Nat.mod_lt _ (by omega)
    have hrn : r ≤ n := by rw [hr]; exact Nat.mod_le _ _
    have e1 : (n : Int) % (al : Int) = (r : Int) := by rw [hr]; exact (Int.natCast_emod n al).symm
    rw [← hr] at hp
    clear h hr
    split at hp
    · rename_i h
      subst hp
      have e2 : ((r : Int) == 0) = true := beq_iff_eq.2 (by omega)
      clear h
      go_enter Tryz.func112, Tryz.ntmps112
      go_wp2_with fail
      go_ret2
      exact ⟨rfl, rfl⟩
    · rename_i h
      have e2 : ((r : Int) == 0) = false := beq_eq_false_iff_ne.2 (by omega)
      have e3 : (n : Int) - (r : Int) = ((n - r : Nat) : Int) := by omega
      obtain ⟨m, hm⟩ : ∃ m, m = n - r := ⟨_, rfl⟩
      rw [← hm] at e3 hp
      have hml : m < 256 := by omega
      have HP := Lib.hid hp
      clear hp h hm
      go_enter Tryz.func112, Tryz.ntmps112
      go_wp2_with fail
      refine (add_Tiny m al w hml hal p HP.out).mono ?_
      rintro e w' ⟨rfl, rfl⟩
      go_wp2_with fail
      go_ret2
      exact ⟨rfl, rfl⟩

set_option maxHeartbeats 400000 in
theorem to_Small (n : Nat) (w : World) (hn : n < 18446744073709551616) (p : Nat × Bool) (hp : Num.to 65536 n = p) :
    Calls Tryz.prog 72 #[.int .u64 (n : Nat)] w fun e w' => e = .returned (.tuple #[.int .u16 (p.1 : Nat), .bool p.2]) ∧ w = w' := by
  unfold Num.to at hp
  obtain ⟨m, hm⟩ : ∃ m, m = n % 65536 := ⟨_, rfl⟩
  have e1 : IntKind.u16.wrap (n : Int) = (m : Int) := by rw [wrap_Small, hm]
  have e2 : IntKind.u64.wrap (m : Int) = (m : Int) := Num.wrapN m (by omega)
  split at hp
  · rename_i h
    subst hp
    have hmn : m = n := by rw [hm]; exact Nat.mod_eq_of_lt h
    have e3 : ((m : Int) != (n : Int)) = false := by rw [bne_eq_false_iff_eq, hmn]
    have HM := Lib.hid hmn
    have hlt : m < 65536 := by omega
    clear h hm hmn
    go_enter Tryz.func72, Tryz.ntmps72
    go_wp2
    go_ret2
    exact ⟨by first | exact ret_np _ HM.out | rfl, rfl⟩
  · rename_i h
    subst hp
    have e3 : ((m : Int) != (n : Int)) = true := by rw [bne_iff_ne]; omega
    clear h hm
    go_enter Tryz.func72, Tryz.ntmps72
    go_wp2
    go_ret2
    exact ⟨rfl, rfl⟩
theorem mul_eq_Small (a b : Nat) (ha : a < 65536) (hb : b < 65536) : Num.mul 65536 a b = if a * b / 18446744073709551616 = 0 then Num.to 65536 (a * b % 18446744073709551616) else (0, false) := by
  unfold Num.mul Num.to
  by_cases h : a * b < 18446744073709551616
  · rw [Nat.mod_eq_of_lt h, if_pos (Nat.div_eq_of_lt h)]
  · rw [if_neg (by omega), if_neg (by omega)]
set_option maxHeartbeats 400000 in
theorem mul_Small (a b : Nat) (w : World) (ha : a < 65536) (hb : b < 65536) (p : Nat × Bool) (hp : Num.mul 65536 a b = p) :
    Calls Tryz.prog 116 #[.int .u16 (a : Nat), .int .u16 (b : Nat)] w fun e w' => e = .returned (.tuple #[.int .u16 (p.1 : Nat), .bool p.2]) ∧ w = w' := by
  rw [mul_eq_Small a b ha hb] at hp
  have e1 : IntKind.u64.wrap (a : Int) = (a : Int) := Num.wrapN a (by omega)
  have e2 : IntKind.u64.wrap (b : Int) = (b : Int) := Num.wrapN b (by omega)
  have hm := Lib.hid (mul64_any a b (by omega) (by omega) w)
  obtain ⟨hi, hhi⟩ : ∃ hi, hi = a * b / 18446744073709551616 := ⟨_, rfl⟩
  obtain ⟨lo, hlo⟩ : ∃ lo, lo = a * b % 18446744073709551616 := ⟨_, rfl⟩
  rw [← hhi, ← hlo] at hm hp
  have hlo' : lo < 18446744073709551616 := by omega
  clear hhi hlo
  by_cases h0 : hi = 0
  · rw [if_pos h0] at hp
    have e3 : ((hi : Int) != 0) = false := by rw [bne_eq_false_iff_eq, h0]; rfl
    have HP := Lib.hid hp
    clear h0 hp
    go_enter Tryz.func116, Tryz.ntmps116
    go_wp2_with fail
    refine hm.out.mono ?_
    rintro e w' ⟨rfl, rfl⟩
    go_wp2_with fail
    refine (to_Small lo w hlo' p HP.out).mono ?_
    rintro e w' ⟨rfl, rfl⟩
    go_wp2_with fail
    go_ret2
    exact ⟨rfl, rfl⟩
  · rw [if_neg h0] at hp
    subst hp
    have e3 : ((hi : Int) != 0) = true := by rw [bne_iff_ne]; omega
    clear h0
    go_enter Tryz.func116, Tryz.ntmps116
    go_wp2_with fail
    refine hm.out.mono ?_
    rintro e w' ⟨rfl, rfl⟩
    go_wp2_with fail
    go_ret2
    exact ⟨rfl, rfl⟩
set_option maxHeartbeats 400000 in
theorem up_Small (n al : Nat) (w : World) (hn : n < 65536) (hal : al < 65536) (p : Nat × Bool) (hp : Num.up 65536 n al = p) :
    Calls Tryz.prog 117 #[.int .u16 (n : Nat), .int .u16 (al : Nat)] w fun e w' => e = .returned (.tuple #[.int .u16 (p.1 : Nat), .bool p.2]) ∧ w = w' := by
  unfold Num.up at hp
  split at hp
  · rename_i h
    subst hp
    subst h
    go_enter Tryz.func117, Tryz.ntmps117
    go_wp2_with fail
    go_ret2
    exact ⟨rfl, rfl⟩
  · rename_i h
    have hal1 : 1 ≤ al := by omega
    have e0 : ((al : Int) == 0) = false := beq_eq_false_iff_ne.2 (by omega)
    obtain ⟨r, hr⟩ : ∃ r, r = n % al := ⟨_, rfl⟩
    have hrl : r < al := by rw [hr]; exact Nat.mod_lt _ (by omega)
    have hrn : r ≤ n := by rw [hr]; exact Nat.mod_le _ _
    have e1 : (n : Int) % (al : Int) = (r : Int) := by rw [hr]; exact (Int.natCast_emod n al).symm
    rw [← hr] at hp
    clear h hr
    split at hp
    · rename_i h
      subst hp
      have e2 : ((r : Int) == 0) = true := beq_iff_eq.2 (by omega)
      clear h
      go_enter Tryz.func117, Tryz.ntmps117
      go_wp2_with fail
      go_ret2
      exact ⟨rfl, rfl⟩
    · rename_i h
      have e2 : ((r : Int) == 0) = false := beq_eq_false_iff_ne.2 (by omega)
      have e3 : (n : Int) - (r : Int) = ((n - r : Nat) : Int) := by omega
      obtain ⟨m, hm⟩ : ∃ m, m = n - r := ⟨_, rfl⟩
      rw [← hm] at e3 hp
      have hml : m < 65536 := by omega
      have HP := Lib.hid hp
      clear hp h hm
      go_enter Tryz.func117, Tryz.ntmps117
      go_wp2_with fail
      refine (add_Small m al w hml hal p HP.out).mono ?_
      rintro e w' ⟨rfl, rfl⟩
      go_wp2_with fail
      go_ret2
      exact ⟨rfl, rfl⟩

set_option maxHeartbeats 400000 in
theorem to_Plain (n : Nat) (w : World) (hn : n < 18446744073709551616) (p : Nat × Bool) (hp : Num.to 4294967296 n = p) :
    Calls Tryz.prog 130 #[.int .u64 (n : Nat)] w fun e w' => e = .returned (.tuple #[.int .u32 (p.1 : Nat), .bool p.2]) ∧ w = w' := by
  unfold Num.to at hp
  obtain ⟨m, hm⟩ : ∃ m, m = n % 4294967296 := ⟨_, rfl⟩
  have e1 : IntKind.u32.wrap (n : Int) = (m : Int) := by rw [wrap_Plain, hm]
  have e2 : IntKind.u64.wrap (m : Int) = (m : Int) := Num.wrapN m (by omega)
  split at hp
  · rename_i h
    subst hp
    have hmn : m = n := by rw [hm]; exact Nat.mod_eq_of_lt h
    have e3 : ((m : Int) != (n : Int)) = false := by rw [bne_eq_false_iff_eq, hmn]
    have HM := Lib.hid hmn
    have hlt : m < 4294967296 := by omega
    clear h hm hmn
    go_enter Tryz.func130, Tryz.ntmps130
    go_wp2
    go_ret2
    exact ⟨by first | exact ret_np _ HM.out | rfl, rfl⟩
  · rename_i h
    subst hp
    have e3 : ((m : Int) != (n : Int)) = true := by rw [bne_iff_ne]; omega
    clear h hm
    go_enter Tryz.func130, Tryz.ntmps130
    go_wp2
    go_ret2
    exact ⟨rfl, rfl⟩
theorem mul_eq_Plain (a b : Nat) (ha : a < 4294967296) (hb : b < 4294967296) : Num.mul 4294967296 a b = if a * b / 18446744073709551616 = 0 then Num.to 4294967296 (a * b % 18446744073709551616) else (0, false) := by
  unfold Num.mul Num.to
  by_cases h : a * b < 18446744073709551616
  · rw [Nat.mod_eq_of_lt h, if_pos (Nat.div_eq_of_lt h)]
  · rw [if_neg (by omega), if_neg (by omega)]
set_option maxHeartbeats 400000 in
theorem mul_Plain (a b : Nat) (w : World) (ha : a < 4294967296) (hb : b < 4294967296) (p : Nat × Bool) (hp : Num.mul 4294967296 a b = p) :
    Calls Tryz.prog 121 #[.int .u32 (a : Nat), .int .u32 (b : Nat)] w fun e w' => e = .returned (.tuple #[.int .u32 (p.1 : Nat), .bool p.2]) ∧ w = w' := by
  rw [mul_eq_Plain a b ha hb] at hp
  have e1 : IntKind.u64.wrap (a : Int) = (a : Int) := Num.wrapN a (by omega)
  have e2 : IntKind.u64.wrap (b : Int) = (b : Int) := Num.wrapN b (by omega)
  have hm := Lib.hid (mul64_any a b (by omega) (by omega) w)
  obtain ⟨hi, hhi⟩ : ∃ hi, hi = a * b / 18446744073709551616 := ⟨_, rfl⟩
  obtain ⟨lo, hlo⟩ : ∃ lo, lo = a * b % 18446744073709551616 := ⟨_, rfl⟩
  rw [← hhi, ← hlo] at hm hp
  have hlo' : lo < 18446744073709551616 := by omega
  clear hhi hlo
  by_cases h0 : hi = 0
  · rw [if_pos h0] at hp
    have e3 : ((hi : Int) != 0) = false := by rw [bne_eq_false_iff_eq, h0]; rfl
    have HP := Lib.hid hp
    clear h0 hp
    go_enter Tryz.func121, Tryz.ntmps121
    go_wp2_with fail
    refine hm.out.mono ?_
    rintro e w' ⟨rfl, rfl⟩
    go_wp2_with fail
    refine (to_Plain lo w hlo' p HP.out).mono ?_
    rintro e w' ⟨rfl, rfl⟩
    go_wp2_with fail
    go_ret2
    exact ⟨rfl, rfl⟩
  · rw [if_neg h0] at hp
    subst hp
    have e3 : ((hi : Int) != 0) = true := by rw [bne_iff_ne]; omega
    clear h0
    go_enter Tryz.func121, Tryz.ntmps121
    go_wp2_with fail
    refine hm.out.mono ?_
    rintro e w' ⟨rfl, rfl⟩
    go_wp2_with fail
    go_ret2
    exact ⟨rfl, rfl⟩
set_option maxHeartbeats 400000 in
theorem up_Plain (n al : Nat) (w : World) (hn : n < 4294967296) (hal : al < 4294967296) (p : Nat × Bool) (hp : Num.up 4294967296 n al = p) :
    Calls Tryz.prog 122 #[.int .u32 (n : Nat), .int .u32 (al : Nat)] w fun e w' => e = .returned (.tuple #[.int .u32 (p.1 : Nat), .bool p.2]) ∧ w = w' := by
  unfold Num.up at hp
  split at hp
  · rename_i h
    subst hp
    subst h
    go_enter Tryz.func122, Tryz.ntmps122
    go_wp2_with fail
    go_ret2
    exact ⟨rfl, rfl⟩
  · rename_i h
    have hal1 : 1 ≤ al := by omega
    have e0 : ((al : Int) == 0) = false := beq_eq_false_iff_ne.2 (by omega)
    obtain ⟨r, hr⟩ : ∃ r, r = n % al := ⟨_, rfl⟩
    have hrl : r < al := by rw [hr]; exact Nat.mod_lt _ (by omega)
    have hrn : r ≤ n := by rw [hr]; exact Nat.mod_le _ _
    have e1 : (n : Int) % (al : Int) = (r : Int) := by rw [hr]; exact (Int.natCast_emod n al).symm
    rw [← hr] at hp
    clear h hr
    split at hp
    · rename_i h
      subst hp
      have e2 : ((r : Int) == 0) = true := beq_iff_eq.2 (by omega)
      clear h
      go_enter Tryz.func122, Tryz.ntmps122
      go_wp2_with fail
      go_ret2
      exact ⟨rfl, rfl⟩
    · rename_i h
      have e2 : ((r : Int) == 0) = false := beq_eq_false_iff_ne.2 (by omega)
      have e3 : (n : Int) - (r : Int) = ((n - r : Nat) : Int) := by omega
      obtain ⟨m, hm⟩ : ∃ m, m = n - r := ⟨_, rfl⟩
      rw [← hm] at e3 hp
      have hml : m < 4294967296 := by omega
      have HP := Lib.hid hp
      clear hp h hm
      go_enter Tryz.func122, Tryz.ntmps122
      go_wp2_with fail
      refine (add_Plain m al w hml hal p HP.out).mono ?_
      rintro e w' ⟨rfl, rfl⟩
      go_wp2_with fail
      go_ret2
      exact ⟨rfl, rfl⟩

set_option maxHeartbeats 400000 in
theorem to_Great (n : Nat) (w : World) (hn : n < 18446744073709551616) (p : Nat × Bool) (hp : Num.to 18446744073709551616 n = p) :
    Calls Tryz.prog 131 #[.int .u64 (n : Nat)] w fun e w' => e = .returned (.tuple #[.int .u64 (p.1 : Nat), .bool p.2]) ∧ w = w' := by
  unfold Num.to at hp
  obtain ⟨m, hm⟩ : ∃ m, m = n % 18446744073709551616 := ⟨_, rfl⟩
  have e1 : IntKind.u64.wrap (n : Int) = (m : Int) := by rw [wrap_Great, hm]
  have e2 : IntKind.u64.wrap (m : Int) = (m : Int) := Num.wrapN m (by omega)
  split at hp
  · rename_i h
    subst hp
    have hmn : m = n := by rw [hm]; exact Nat.mod_eq_of_lt h
    have e3 : ((m : Int) != (n : Int)) = false := by rw [bne_eq_false_iff_eq, hmn]
    have HM := Lib.hid hmn
    have hlt : m < 18446744073709551616 := by omega
    clear h hm hmn
    go_enter Tryz.func131, Tryz.ntmps131
    go_wp2
    go_ret2
    exact ⟨by first | exact ret_np _ HM.out | rfl, rfl⟩
  · rename_i h
    subst hp
    have e3 : ((m : Int) != (n : Int)) = true := by rw [bne_iff_ne]; omega
    clear h hm
    go_enter Tryz.func131, Tryz.ntmps131
    go_wp2
    go_ret2
    exact ⟨rfl, rfl⟩
theorem mul_eq_Great (a b : Nat) (ha : a < 18446744073709551616) (hb : b < 18446744073709551616) : Num.mul 18446744073709551616 a b = if a * b / 18446744073709551616 = 0 then Num.to 18446744073709551616 (a * b % 18446744073709551616) else (0, false) := by
  unfold Num.mul Num.to
  by_cases h : a * b < 18446744073709551616
  · rw [Nat.mod_eq_of_lt h, if_pos (Nat.div_eq_of_lt h)]
  · rw [if_neg (by omega), if_neg (by omega)]
set_option maxHeartbeats 400000 in
theorem mul_Great (a b : Nat) (w : World) (ha : a < 18446744073709551616) (hb : b < 18446744073709551616) (p : Nat × Bool) (hp : Num.mul 18446744073709551616 a b = p) :
    Calls Tryz.prog 126 #[.int .u64 (a : Nat), .int .u64 (b : Nat)] w fun e w' => e = .returned (.tuple #[.int .u64 (p.1 : Nat), .bool p.2]) ∧ w = w' := by
  rw [mul_eq_Great a b ha hb] at hp
  have e1 : IntKind.u64.wrap (a : Int) = (a : Int) := Num.wrapN a (by omega)
  have e2 : IntKind.u64.wrap (b : Int) = (b : Int) := Num.wrapN b (by omega)
  have hm := Lib.hid (mul64_any a b (by omega) (by omega) w)
  obtain ⟨hi, hhi⟩ : ∃ hi, hi = a * b / 18446744073709551616 := ⟨_, rfl⟩
  obtain ⟨lo, hlo⟩ : ∃ lo, lo = a * b % 18446744073709551616 := ⟨_, rfl⟩
  rw [← hhi, ← hlo] at hm hp
  have hlo' : lo < 18446744073709551616 := by omega
  clear hhi hlo
  by_cases h0 : hi = 0
  · rw [if_pos h0] at hp
    have e3 : ((hi : Int) != 0) = false := by rw [bne_eq_false_iff_eq, h0]; rfl
    have HP := Lib.hid hp
    clear h0 hp
    go_enter Tryz.func126, Tryz.ntmps126
    go_wp2_with fail
    refine hm.out.mono ?_
    rintro e w' ⟨rfl, rfl⟩
    go_wp2_with fail
    refine (to_Great lo w hlo' p HP.out).mono ?_
    rintro e w' ⟨rfl, rfl⟩
    go_wp2_with fail
    go_ret2
    exact ⟨rfl, rfl⟩
  · rw [if_neg h0] at hp
    subst hp
    have e3 : ((hi : Int) != 0) = true := by rw [bne_iff_ne]; omega
    clear h0
    go_enter Tryz.func126, Tryz.ntmps126
    go_wp2_with fail
    refine hm.out.mono ?_
    rintro e w' ⟨rfl, rfl⟩
    go_wp2_with fail
    go_ret2
    exact ⟨rfl, rfl⟩
set_option maxHeartbeats 400000 in
theorem up_Great (n al : Nat) (w : World) (hn : n < 18446744073709551616) (hal : al < 18446744073709551616) (p : Nat × Bool) (hp : Num.up 18446744073709551616 n al = p) :
    Calls Tryz.prog 127 #[.int .u64 (n : Nat), .int .u64 (al : Nat)] w fun e w' => e = .returned (.tuple #[.int .u64 (p.1 : Nat), .bool p.2]) ∧ w = w' := by
  unfold Num.up at hp
  split at hp
  · rename_i h
    subst hp
    subst h
    go_enter Tryz.func127, Tryz.ntmps127
    go_wp2_with fail
    go_ret2
    exact ⟨rfl, rfl⟩
  · rename_i h
    have hal1 : 1 ≤ al := by omega
    have e0 : ((al : Int) == 0) = false := beq_eq_false_iff_ne.2 (by omega)
    obtain ⟨r, hr⟩ : ∃ r, r = n % al := ⟨_, rfl⟩
    have hrl : r < al := by rw [hr]; exact Nat.mod_lt _ (by omega)
    have hrn : r ≤ n := by rw [hr]; exact Nat.mod_le _ _
    have e1 : (n : Int) % (al : Int) = (r : Int) := by rw [hr]; exact (Int.natCast_emod n al).symm
    rw [← hr] at hp
    clear h hr
    split at hp
    · rename_i h
      subst hp
      have e2 : ((r : Int) == 0) = true := beq_iff_eq.2 (by omega)
      clear h
      go_enter Tryz.func127, Tryz.ntmps127
      go_wp2_with fail
      go_ret2
      exact ⟨rfl, rfl⟩
    · rename_i h
      have e2 : ((r : Int) == 0) = false := beq_eq_false_iff_ne.2 (by omega)
      have e3 : (n : Int) - (r : Int) = ((n - r : Nat) : Int) := by omega
      obtain ⟨m, hm⟩ : ∃ m, m = n - r := ⟨_, rfl⟩
      rw [← hm] at e3 hp
      have hml : m < 18446744073709551616 := by omega
      have HP := Lib.hid hp
      clear hp h hm
      go_enter Tryz.func127, Tryz.ntmps127
      go_wp2_with fail
      refine (add_Great m al w hml hal p HP.out).mono ?_
      rintro e w' ⟨rfl, rfl⟩
      go_wp2_with fail
      go_ret2
      exact ⟨rfl, rfl⟩
end Go.Proofs.YtomjmapidjnpbaaGreat
