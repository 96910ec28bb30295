/- The walks of word.To from each type to each, of the law's to[M] and sums[N]. -/
import Derived.Test.YtomjmapidjnpbaaGreatNumZ
import Derived.Test.YtomjmapidjnpbaaGreatRefZ
set_option linter.unusedVariables false
set_option linter.unusedSimpArgs false
namespace Go.Proofs.YtomjmapidjnpbaaGreat
open Go.RowKit

theorem to_uint8_uint8 (n : Nat) (w : World) (hn : n < 256) (p : Nat × Bool) (hp : Num.to 256 n = p) :
    Calls Tryz.prog 52 #[.int .u8 (n : Nat)] w fun e w' => e = .returned (.tuple #[.int .u8 (p.1 : Nat), .bool p.2]) ∧ w = w' := by
  unfold Num.to at hp
  obtain ⟨m, hm⟩ : ∃ m, m = n % 256 := ⟨_, rfl⟩
  have e1 : IntKind.u8.wrap (n : Int) = (m : Int) := by rw [wrap_uint8, hm]
  have e2 : IntKind.u64.wrap (m : Int) = (m : Int) := Num.wrapN m (by omega)
  have e4 : IntKind.u64.wrap (n : Int) = (n : Int) := Num.wrapN n (by omega)
  split at hp
  · rename_i h
    subst hp
    have hmn : m = n := by rw [hm]; exact Nat.mod_eq_of_lt h
    have e3 : ((m : Int) != (n : Int)) = false := by rw [bne_eq_false_iff_eq, hmn]
    have HM := Lib.hid hmn
    have hlt : m < 256 := by omega
    clear h hm hmn
    go_enter Tryz.func52, Tryz.ntmps52
    go_wp2
    go_ret2
    exact ⟨by first | exact ret_np _ HM.out | rfl, rfl⟩
  · exact absurd (show n < 256 by omega) (by assumption)
theorem to_uint16_uint8 (n : Nat) (w : World) (hn : n < 256) (p : Nat × Bool) (hp : Num.to 65536 n = p) :
    Calls Tryz.prog 54 #[.int .u8 (n : Nat)] w fun e w' => e = .returned (.tuple #[.int .u16 (p.1 : Nat), .bool p.2]) ∧ w = w' := by
  unfold Num.to at hp
  obtain ⟨m, hm⟩ : ∃ m, m = n % 65536 := ⟨_, rfl⟩
  have e1 : IntKind.u16.wrap (n : Int) = (m : Int) := by rw [wrap_uint16, hm]
  have e2 : IntKind.u64.wrap (m : Int) = (m : Int) := Num.wrapN m (by omega)
  have e4 : IntKind.u64.wrap (n : Int) = (n : Int) := Num.wrapN n (by omega)
  split at hp
  · rename_i h
    subst hp
    have hmn : m = n := by rw [hm]; exact Nat.mod_eq_of_lt h
    have e3 : ((m : Int) != (n : Int)) = false := by rw [bne_eq_false_iff_eq, hmn]
    have HM := Lib.hid hmn
    have hlt : m < 65536 := by omega
    clear h hm hmn
    go_enter Tryz.func54, Tryz.ntmps54
    go_wp2
    go_ret2
    exact ⟨by first | exact ret_np _ HM.out | rfl, rfl⟩
  · exact absurd (show n < 65536 by omega) (by assumption)
theorem to_uint32_uint8 (n : Nat) (w : World) (hn : n < 256) (p : Nat × Bool) (hp : Num.to 4294967296 n = p) :
    Calls Tryz.prog 55 #[.int .u8 (n : Nat)] w fun e w' => e = .returned (.tuple #[.int .u32 (p.1 : Nat), .bool p.2]) ∧ w = w' := by
  unfold Num.to at hp
  obtain ⟨m, hm⟩ : ∃ m, m = n % 4294967296 := ⟨_, rfl⟩
  have e1 : IntKind.u32.wrap (n : Int) = (m : Int) := by rw [wrap_uint32, hm]
  have e2 : IntKind.u64.wrap (m : Int) = (m : Int) := Num.wrapN m (by omega)
  have e4 : IntKind.u64.wrap (n : Int) = (n : Int) := Num.wrapN n (by omega)
  split at hp
  · rename_i h
    subst hp
    have hmn : m = n := by rw [hm]; exact Nat.mod_eq_of_lt h
    have e3 : ((m : Int) != (n : Int)) = false := by rw [bne_eq_false_iff_eq, hmn]
    have HM := Lib.hid hmn
    have hlt : m < 4294967296 := by omega
    clear h hm hmn
    go_enter Tryz.func55, Tryz.ntmps55
    go_wp2
    go_ret2
    exact ⟨by first | exact ret_np _ HM.out | rfl, rfl⟩
  · exact absurd (show n < 4294967296 by omega) (by assumption)
theorem to_uint64_uint8 (n : Nat) (w : World) (hn : n < 256) (p : Nat × Bool) (hp : Num.to 18446744073709551616 n = p) :
    Calls Tryz.prog 56 #[.int .u8 (n : Nat)] w fun e w' => e = .returned (.tuple #[.int .u64 (p.1 : Nat), .bool p.2]) ∧ w = w' := by
  unfold Num.to at hp
  obtain ⟨m, hm⟩ : ∃ m, m = n % 18446744073709551616 := ⟨_, rfl⟩
  have e1 : IntKind.u64.wrap (n : Int) = (m : Int) := by rw [wrap_uint64, hm]
  have e2 : IntKind.u64.wrap (m : Int) = (m : Int) := Num.wrapN m (by omega)
  have e4 : IntKind.u64.wrap (n : Int) = (n : Int) := Num.wrapN n (by omega)
  split at hp
  · rename_i h
    subst hp
    have hmn : m = n := by rw [hm]; exact Nat.mod_eq_of_lt h
    have e3 : ((m : Int) != (n : Int)) = false := by rw [bne_eq_false_iff_eq, hmn]
    have HM := Lib.hid hmn
    have hlt : m < 18446744073709551616 := by omega
    clear h hm hmn
    go_enter Tryz.func56, Tryz.ntmps56
    go_wp2
    go_ret2
    exact ⟨by first | exact ret_np _ HM.out | rfl, rfl⟩
  · exact absurd (show n < 18446744073709551616 by omega) (by assumption)
theorem to_Small_uint8 (n : Nat) (w : World) (hn : n < 256) (p : Nat × Bool) (hp : Num.to 65536 n = p) :
    Calls Tryz.prog 57 #[.int .u8 (n : Nat)] w fun e w' => e = .returned (.tuple #[.int .u16 (p.1 : Nat), .bool p.2]) ∧ w = w' := by
  unfold Num.to at hp
  obtain ⟨m, hm⟩ : ∃ m, m = n % 65536 := ⟨_, rfl⟩
  have e1 : IntKind.u16.wrap (n : Int) = (m : Int) := by rw [wrap_uint16, hm]
  have e2 : IntKind.u64.wrap (m : Int) = (m : Int) := Num.wrapN m (by omega)
  have e4 : IntKind.u64.wrap (n : Int) = (n : Int) := Num.wrapN n (by omega)
  split at hp
  · rename_i h
    subst hp
    have hmn : m = n := by rw [hm]; exact Nat.mod_eq_of_lt h
    have e3 : ((m : Int) != (n : Int)) = false := by rw [bne_eq_false_iff_eq, hmn]
    have HM := Lib.hid hmn
    have hlt : m < 65536 := by omega
    clear h hm hmn
    go_enter Tryz.func57, Tryz.ntmps57
    go_wp2
    go_ret2
    exact ⟨by first | exact ret_np _ HM.out | rfl, rfl⟩
  · exact absurd (show n < 65536 by omega) (by assumption)
theorem to_uint8_uint16 (n : Nat) (w : World) (hn : n < 65536) (p : Nat × Bool) (hp : Num.to 256 n = p) :
    Calls Tryz.prog 58 #[.int .u16 (n : Nat)] w fun e w' => e = .returned (.tuple #[.int .u8 (p.1 : Nat), .bool p.2]) ∧ w = w' := by
  unfold Num.to at hp
  obtain ⟨m, hm⟩ : ∃ m, m = n % 256 := ⟨_, rfl⟩
  have e1 : IntKind.u8.wrap (n : Int) = (m : Int) := by rw [wrap_uint8, hm]
  have e2 : IntKind.u64.wrap (m : Int) = (m : Int) := Num.wrapN m (by omega)
  have e4 : IntKind.u64.wrap (n : Int) = (n : Int) := Num.wrapN n (by omega)
  split at hp
  · rename_i h
    subst hp
    have hmn : m = n := by rw [hm]; exact Nat.mod_eq_of_lt h
    have e3 : ((m : Int) != (n : Int)) = false := by rw [bne_eq_false_iff_eq, hmn]
    have HM := Lib.hid hmn
    have hlt : m < 256 := by omega
    clear h hm hmn
    go_enter Tryz.func58, Tryz.ntmps58
    go_wp2
    go_ret2
    exact ⟨by first | exact ret_np _ HM.out | rfl, rfl⟩
  · rename_i h
    subst hp
    have e3 : ((m : Int) != (n : Int)) = true := by rw [bne_iff_ne]; omega
    clear h hm
    go_enter Tryz.func58, Tryz.ntmps58
    go_wp2
    go_ret2
    exact ⟨rfl, rfl⟩
theorem to_uint16_uint16 (n : Nat) (w : World) (hn : n < 65536) (p : Nat × Bool) (hp : Num.to 65536 n = p) :
    Calls Tryz.prog 59 #[.int .u16 (n : Nat)] w fun e w' => e = .returned (.tuple #[.int .u16 (p.1 : Nat), .bool p.2]) ∧ w = w' := by
  unfold Num.to at hp
  obtain ⟨m, hm⟩ : ∃ m, m = n % 65536 := ⟨_, rfl⟩
  have e1 : IntKind.u16.wrap (n : Int) = (m : Int) := by rw [wrap_uint16, hm]
  have e2 : IntKind.u64.wrap (m : Int) = (m : Int) := Num.wrapN m (by omega)
  have e4 : IntKind.u64.wrap (n : Int) = (n : Int) := Num.wrapN n (by omega)
  split at hp
  · rename_i h
    subst hp
    have hmn : m = n := by rw [hm]; exact Nat.mod_eq_of_lt h
    have e3 : ((m : Int) != (n : Int)) = false := by rw [bne_eq_false_iff_eq, hmn]
    have HM := Lib.hid hmn
    have hlt : m < 65536 := by omega
    clear h hm hmn
    go_enter Tryz.func59, Tryz.ntmps59
    go_wp2
    go_ret2
    exact ⟨by first | exact ret_np _ HM.out | rfl, rfl⟩
  · exact absurd (show n < 65536 by omega) (by assumption)
theorem to_uint32_uint16 (n : Nat) (w : World) (hn : n < 65536) (p : Nat × Bool) (hp : Num.to 4294967296 n = p) :
    Calls Tryz.prog 60 #[.int .u16 (n : Nat)] w fun e w' => e = .returned (.tuple #[.int .u32 (p.1 : Nat), .bool p.2]) ∧ w = w' := by
  unfold Num.to at hp
  obtain ⟨m, hm⟩ : ∃ m, m = n % 4294967296 := ⟨_, rfl⟩
  have e1 : IntKind.u32.wrap (n : Int) = (m : Int) := by rw [wrap_uint32, hm]
  have e2 : IntKind.u64.wrap (m : Int) = (m : Int) := Num.wrapN m (by omega)
  have e4 : IntKind.u64.wrap (n : Int) = (n : Int) := Num.wrapN n (by omega)
  split at hp
  · rename_i h
    subst hp
    have hmn : m = n := by rw [hm]; exact Nat.mod_eq_of_lt h
    have e3 : ((m : Int) != (n : Int)) = false := by rw [bne_eq_false_iff_eq, hmn]
    have HM := Lib.hid hmn
    have hlt : m < 4294967296 := by omega
    clear h hm hmn
    go_enter Tryz.func60, Tryz.ntmps60
    go_wp2
    go_ret2
    exact ⟨by first | exact ret_np _ HM.out | rfl, rfl⟩
  · exact absurd (show n < 4294967296 by omega) (by assumption)
theorem to_uint64_uint16 (n : Nat) (w : World) (hn : n < 65536) (p : Nat × Bool) (hp : Num.to 18446744073709551616 n = p) :
    Calls Tryz.prog 61 #[.int .u16 (n : Nat)] w fun e w' => e = .returned (.tuple #[.int .u64 (p.1 : Nat), .bool p.2]) ∧ w = w' := by
  unfold Num.to at hp
  obtain ⟨m, hm⟩ : ∃ m, m = n % 18446744073709551616 := ⟨_, rfl⟩
  have e1 : IntKind.u64.wrap (n : Int) = (m : Int) := by rw [wrap_uint64, hm]
  have e2 : IntKind.u64.wrap (m : Int) = (m : Int) := Num.wrapN m (by omega)
  have e4 : IntKind.u64.wrap (n : Int) = (n : Int) := Num.wrapN n (by omega)
  split at hp
  · rename_i h
    subst hp
    have hmn : m = n := by rw [hm]; exact Nat.mod_eq_of_lt h
    have e3 : ((m : Int) != (n : Int)) = false := by rw [bne_eq_false_iff_eq, hmn]
    have HM := Lib.hid hmn
    have hlt : m < 18446744073709551616 := by omega
    clear h hm hmn
    go_enter Tryz.func61, Tryz.ntmps61
    go_wp2
    go_ret2
    exact ⟨by first | exact ret_np _ HM.out | rfl, rfl⟩
  · exact absurd (show n < 18446744073709551616 by omega) (by assumption)
theorem to_Small_uint16 (n : Nat) (w : World) (hn : n < 65536) (p : Nat × Bool) (hp : Num.to 65536 n = p) :
    Calls Tryz.prog 62 #[.int .u16 (n : Nat)] w fun e w' => e = .returned (.tuple #[.int .u16 (p.1 : Nat), .bool p.2]) ∧ w = w' := by
  unfold Num.to at hp
  obtain ⟨m, hm⟩ : ∃ m, m = n % 65536 := ⟨_, rfl⟩
  have e1 : IntKind.u16.wrap (n : Int) = (m : Int) := by rw [wrap_uint16, hm]
  have e2 : IntKind.u64.wrap (m : Int) = (m : Int) := Num.wrapN m (by omega)
  have e4 : IntKind.u64.wrap (n : Int) = (n : Int) := Num.wrapN n (by omega)
  split at hp
  · rename_i h
    subst hp
    have hmn : m = n := by rw [hm]; exact Nat.mod_eq_of_lt h
    have e3 : ((m : Int) != (n : Int)) = false := by rw [bne_eq_false_iff_eq, hmn]
    have HM := Lib.hid hmn
    have hlt : m < 65536 := by omega
    clear h hm hmn
    go_enter Tryz.func62, Tryz.ntmps62
    go_wp2
    go_ret2
    exact ⟨by first | exact ret_np _ HM.out | rfl, rfl⟩
  · exact absurd (show n < 65536 by omega) (by assumption)
theorem to_uint8_uint32 (n : Nat) (w : World) (hn : n < 4294967296) (p : Nat × Bool) (hp : Num.to 256 n = p) :
    Calls Tryz.prog 63 #[.int .u32 (n : Nat)] w fun e w' => e = .returned (.tuple #[.int .u8 (p.1 : Nat), .bool p.2]) ∧ w = w' := by
  unfold Num.to at hp
  obtain ⟨m, hm⟩ : ∃ m, m = n % 256 := ⟨_, rfl⟩
  have e1 : IntKind.u8.wrap (n : Int) = (m : Int) := by rw [wrap_uint8, hm]
  have e2 : IntKind.u64.wrap (m : Int) = (m : Int) := Num.wrapN m (by omega)
  have e4 : IntKind.u64.wrap (n : Int) = (n : Int) := Num.wrapN n (by omega)
  split at hp
  · rename_i h
    subst hp
    have hmn : m = n := by rw [hm]; exact Nat.mod_eq_of_lt h
    have e3 : ((m : Int) != (n : Int)) = false := by rw [bne_eq_false_iff_eq, hmn]
    have HM := Lib.hid hmn
    have hlt : m < 256 := by omega
    clear h hm hmn
    go_enter Tryz.func63, Tryz.ntmps63
    go_wp2
    go_ret2
    exact ⟨by first | exact ret_np _ HM.out | rfl, rfl⟩
  · rename_i h
    subst hp
    have e3 : ((m : Int) != (n : Int)) = true := by rw [bne_iff_ne]; omega
    clear h hm
    go_enter Tryz.func63, Tryz.ntmps63
    go_wp2
    go_ret2
    exact ⟨rfl, rfl⟩
theorem to_uint16_uint32 (n : Nat) (w : World) (hn : n < 4294967296) (p : Nat × Bool) (hp : Num.to 65536 n = p) :
    Calls Tryz.prog 64 #[.int .u32 (n : Nat)] w fun e w' => e = .returned (.tuple #[.int .u16 (p.1 : Nat), .bool p.2]) ∧ w = w' := by
  unfold Num.to at hp
  obtain ⟨m, hm⟩ : ∃ m, m = n % 65536 := ⟨_, rfl⟩
  have e1 : IntKind.u16.wrap (n : Int) = (m : Int) := by rw [wrap_uint16, hm]
  have e2 : IntKind.u64.wrap (m : Int) = (m : Int) := Num.wrapN m (by omega)
  have e4 : IntKind.u64.wrap (n : Int) = (n : Int) := Num.wrapN n (by omega)
  split at hp
  · rename_i h
    subst hp
    have hmn : m = n := by rw [hm]; exact Nat.mod_eq_of_lt h
    have e3 : ((m : Int) != (n : Int)) = false := by rw [bne_eq_false_iff_eq, hmn]
    have HM := Lib.hid hmn
    have hlt : m < 65536 := by omega
    clear h hm hmn
    go_enter Tryz.func64, Tryz.ntmps64
    go_wp2
    go_ret2
    exact ⟨by first | exact ret_np _ HM.out | rfl, rfl⟩
  · rename_i h
    subst hp
    have e3 : ((m : Int) != (n : Int)) = true := by rw [bne_iff_ne]; omega
    clear h hm
    go_enter Tryz.func64, Tryz.ntmps64
    go_wp2
    go_ret2
    exact ⟨rfl, rfl⟩
theorem to_uint32_uint32 (n : Nat) (w : World) (hn : n < 4294967296) (p : Nat × Bool) (hp : Num.to 4294967296 n = p) :
    Calls Tryz.prog 65 #[.int .u32 (n : Nat)] w fun e w' => e = .returned (.tuple #[.int .u32 (p.1 : Nat), .bool p.2]) ∧ w = w' := by
  unfold Num.to at hp
  obtain ⟨m, hm⟩ : ∃ m, m = n % 4294967296 := ⟨_, rfl⟩
  have e1 : IntKind.u32.wrap (n : Int) = (m : Int) := by rw [wrap_uint32, hm]
  have e2 : IntKind.u64.wrap (m : Int) = (m : Int) := Num.wrapN m (by omega)
  have e4 : IntKind.u64.wrap (n : Int) = (n : Int) := Num.wrapN n (by omega)
  split at hp
  · rename_i h
    subst hp
    have hmn : m = n := by rw [hm]; exact Nat.mod_eq_of_lt h
    have e3 : ((m : Int) != (n : Int)) = false := by rw [bne_eq_false_iff_eq, hmn]
    have HM := Lib.hid hmn
    have hlt : m < 4294967296 := by omega
    clear h hm hmn
    go_enter Tryz.func65, Tryz.ntmps65
    go_wp2
    go_ret2
    exact ⟨by first | exact ret_np _ HM.out | rfl, rfl⟩
  · exact absurd (show n < 4294967296 by omega) (by assumption)
theorem to_uint64_uint32 (n : Nat) (w : World) (hn : n < 4294967296) (p : Nat × Bool) (hp : Num.to 18446744073709551616 n = p) :
    Calls Tryz.prog 66 #[.int .u32 (n : Nat)] w fun e w' => e = .returned (.tuple #[.int .u64 (p.1 : Nat), .bool p.2]) ∧ w = w' := by
  unfold Num.to at hp
  obtain ⟨m, hm⟩ : ∃ m, m = n % 18446744073709551616 := ⟨_, rfl⟩
  have e1 : IntKind.u64.wrap (n : Int) = (m : Int) := by rw [wrap_uint64, hm]
  have e2 : IntKind.u64.wrap (m : Int) = (m : Int) := Num.wrapN m (by omega)
  have e4 : IntKind.u64.wrap (n : Int) = (n : Int) := Num.wrapN n (by omega)
  split at hp
  · rename_i h
    subst hp
    have hmn : m = n := by rw [hm]; exact Nat.mod_eq_of_lt h
    have e3 : ((m : Int) != (n : Int)) = false := by rw [bne_eq_false_iff_eq, hmn]
    have HM := Lib.hid hmn
    have hlt : m < 18446744073709551616 := by omega
    clear h hm hmn
    go_enter Tryz.func66, Tryz.ntmps66
    go_wp2
    go_ret2
    exact ⟨by first | exact ret_np _ HM.out | rfl, rfl⟩
  · exact absurd (show n < 18446744073709551616 by omega) (by assumption)
theorem to_Small_uint32 (n : Nat) (w : World) (hn : n < 4294967296) (p : Nat × Bool) (hp : Num.to 65536 n = p) :
    Calls Tryz.prog 67 #[.int .u32 (n : Nat)] w fun e w' => e = .returned (.tuple #[.int .u16 (p.1 : Nat), .bool p.2]) ∧ w = w' := by
  unfold Num.to at hp
  obtain ⟨m, hm⟩ : ∃ m, m = n % 65536 := ⟨_, rfl⟩
  have e1 : IntKind.u16.wrap (n : Int) = (m : Int) := by rw [wrap_uint16, hm]
  have e2 : IntKind.u64.wrap (m : Int) = (m : Int) := Num.wrapN m (by omega)
  have e4 : IntKind.u64.wrap (n : Int) = (n : Int) := Num.wrapN n (by omega)
  split at hp
  · rename_i h
    subst hp
    have hmn : m = n := by rw [hm]; exact Nat.mod_eq_of_lt h
    have e3 : ((m : Int) != (n : Int)) = false := by rw [bne_eq_false_iff_eq, hmn]
    have HM := Lib.hid hmn
    have hlt : m < 65536 := by omega
    clear h hm hmn
    go_enter Tryz.func67, Tryz.ntmps67
    go_wp2
    go_ret2
    exact ⟨by first | exact ret_np _ HM.out | rfl, rfl⟩
  · rename_i h
    subst hp
    have e3 : ((m : Int) != (n : Int)) = true := by rw [bne_iff_ne]; omega
    clear h hm
    go_enter Tryz.func67, Tryz.ntmps67
    go_wp2
    go_ret2
    exact ⟨rfl, rfl⟩
theorem to_uint8_uint64 (n : Nat) (w : World) (hn : n < 18446744073709551616) (p : Nat × Bool) (hp : Num.to 256 n = p) :
    Calls Tryz.prog 68 #[.int .u64 (n : Nat)] w fun e w' => e = .returned (.tuple #[.int .u8 (p.1 : Nat), .bool p.2]) ∧ w = w' := by
  unfold Num.to at hp
  obtain ⟨m, hm⟩ : ∃ m, m = n % 256 := ⟨_, rfl⟩
  have e1 : IntKind.u8.wrap (n : Int) = (m : Int) := by rw [wrap_uint8, hm]
  have e2 : IntKind.u64.wrap (m : Int) = (m : Int) := Num.wrapN m (by omega)
  have e4 : IntKind.u64.wrap (n : Int) = (n : Int) := Num.wrapN n (by omega)
  split at hp
  · rename_i h
    subst hp
    have hmn : m = n := by rw [hm]; exact Nat.mod_eq_of_lt h
    have e3 : ((m : Int) != (n : Int)) = false := by rw [bne_eq_false_iff_eq, hmn]
    have HM := Lib.hid hmn
    have hlt : m < 256 := by omega
    clear h hm hmn
    go_enter Tryz.func68, Tryz.ntmps68
    go_wp2
    go_ret2
    exact ⟨by first | exact ret_np _ HM.out | rfl, rfl⟩
  · rename_i h
    subst hp
    have e3 : ((m : Int) != (n : Int)) = true := by rw [bne_iff_ne]; omega
    clear h hm
    go_enter Tryz.func68, Tryz.ntmps68
    go_wp2
    go_ret2
    exact ⟨rfl, rfl⟩
theorem to_uint16_uint64 (n : Nat) (w : World) (hn : n < 18446744073709551616) (p : Nat × Bool) (hp : Num.to 65536 n = p) :
    Calls Tryz.prog 69 #[.int .u64 (n : Nat)] w fun e w' => e = .returned (.tuple #[.int .u16 (p.1 : Nat), .bool p.2]) ∧ w = w' := by
  unfold Num.to at hp
  obtain ⟨m, hm⟩ : ∃ m, m = n % 65536 := ⟨_, rfl⟩
  have e1 : IntKind.u16.wrap (n : Int) = (m : Int) := by rw [wrap_uint16, hm]
  have e2 : IntKind.u64.wrap (m : Int) = (m : Int) := Num.wrapN m (by omega)
  have e4 : IntKind.u64.wrap (n : Int) = (n : Int) := Num.wrapN n (by omega)
  split at hp
  · rename_i h
    subst hp
    have hmn : m = n := by rw [hm]; exact Nat.mod_eq_of_lt h
    have e3 : ((m : Int) != (n : Int)) = false := by rw [bne_eq_false_iff_eq, hmn]
    have HM := Lib.hid hmn
    have hlt : m < 65536 := by omega
    clear h hm hmn
    go_enter Tryz.func69, Tryz.ntmps69
    go_wp2
    go_ret2
    exact ⟨by first | exact ret_np _ HM.out | rfl, rfl⟩
  · rename_i h
    subst hp
    have e3 : ((m : Int) != (n : Int)) = true := by rw [bne_iff_ne]; omega
    clear h hm
    go_enter Tryz.func69, Tryz.ntmps69
    go_wp2
    go_ret2
    exact ⟨rfl, rfl⟩
theorem to_uint32_uint64 (n : Nat) (w : World) (hn : n < 18446744073709551616) (p : Nat × Bool) (hp : Num.to 4294967296 n = p) :
    Calls Tryz.prog 70 #[.int .u64 (n : Nat)] w fun e w' => e = .returned (.tuple #[.int .u32 (p.1 : Nat), .bool p.2]) ∧ w = w' := by
  unfold Num.to at hp
  obtain ⟨m, hm⟩ : ∃ m, m = n % 4294967296 := ⟨_, rfl⟩
  have e1 : IntKind.u32.wrap (n : Int) = (m : Int) := by rw [wrap_uint32, hm]
  have e2 : IntKind.u64.wrap (m : Int) = (m : Int) := Num.wrapN m (by omega)
  have e4 : IntKind.u64.wrap (n : Int) = (n : Int) := Num.wrapN n (by omega)
  split at hp
  · rename_i h
    subst hp
    have hmn : m = n := by rw [hm]; exact Nat.mod_eq_of_lt h
    have e3 : ((m : Int) != (n : Int)) = false := by rw [bne_eq_false_iff_eq, hmn]
    have HM := Lib.hid hmn
    have hlt : m < 4294967296 := by omega
    clear h hm hmn
    go_enter Tryz.func70, Tryz.ntmps70
    go_wp2
    go_ret2
    exact ⟨by first | exact ret_np _ HM.out | rfl, rfl⟩
  · rename_i h
    subst hp
    have e3 : ((m : Int) != (n : Int)) = true := by rw [bne_iff_ne]; omega
    clear h hm
    go_enter Tryz.func70, Tryz.ntmps70
    go_wp2
    go_ret2
    exact ⟨rfl, rfl⟩
theorem to_uint64_uint64 (n : Nat) (w : World) (hn : n < 18446744073709551616) (p : Nat × Bool) (hp : Num.to 18446744073709551616 n = p) :
    Calls Tryz.prog 71 #[.int .u64 (n : Nat)] w fun e w' => e = .returned (.tuple #[.int .u64 (p.1 : Nat), .bool p.2]) ∧ w = w' := by
  unfold Num.to at hp
  obtain ⟨m, hm⟩ : ∃ m, m = n % 18446744073709551616 := ⟨_, rfl⟩
  have e1 : IntKind.u64.wrap (n : Int) = (m : Int) := by rw [wrap_uint64, hm]
  have e2 : IntKind.u64.wrap (m : Int) = (m : Int) := Num.wrapN m (by omega)
  have e4 : IntKind.u64.wrap (n : Int) = (n : Int) := Num.wrapN n (by omega)
  split at hp
  · rename_i h
    subst hp
    have hmn : m = n := by rw [hm]; exact Nat.mod_eq_of_lt h
    have e3 : ((m : Int) != (n : Int)) = false := by rw [bne_eq_false_iff_eq, hmn]
    have HM := Lib.hid hmn
    have hlt : m < 18446744073709551616 := by omega
    clear h hm hmn
    go_enter Tryz.func71, Tryz.ntmps71
    go_wp2
    go_ret2
    exact ⟨by first | exact ret_np _ HM.out | rfl, rfl⟩
  · exact absurd (show n < 18446744073709551616 by omega) (by assumption)
theorem to_Small_uint64 (n : Nat) (w : World) (hn : n < 18446744073709551616) (p : Nat × Bool) (hp : Num.to 65536 n = p) :
    Calls Tryz.prog 72 #[.int .u64 (n : Nat)] w fun e w' => e = .returned (.tuple #[.int .u16 (p.1 : Nat), .bool p.2]) ∧ w = w' := by
  unfold Num.to at hp
  obtain ⟨m, hm⟩ : ∃ m, m = n % 65536 := ⟨_, rfl⟩
  have e1 : IntKind.u16.wrap (n : Int) = (m : Int) := by rw [wrap_uint16, hm]
  have e2 : IntKind.u64.wrap (m : Int) = (m : Int) := Num.wrapN m (by omega)
  have e4 : IntKind.u64.wrap (n : Int) = (n : Int) := Num.wrapN n (by omega)
  split at hp
  · rename_i h
    subst hp
    have hmn : m = n := by rw [hm]; exact Nat.mod_eq_of_lt h
    have e3 : ((m : Int) != (n : Int)) = false := by rw [bne_eq_false_iff_eq, hmn]
    have HM := Lib.hid hmn
    have hlt : m < 65536 := by omega
    clear h hm hmn
    go_enter Tryz.func72, Tryz.ntmps72
    go_wp2
    go_ret2
    exact ⟨by first | exact ret_np _ HM.out | rfl, rfl⟩
  · rename_i h
    subst hp
    have e3 : ((m : Int) != (n : Int)) = true := by rw [bne_iff_ne]; omega
    clear h hm
    go_enter Tryz.func72, Tryz.ntmps72
    go_wp2
    go_ret2
    exact ⟨rfl, rfl⟩
theorem to_uint8_Great (n : Nat) (w : World) (hn : n < 18446744073709551616) (p : Nat × Bool) (hp : Num.to 256 n = p) :
    Calls Tryz.prog 73 #[.int .u64 (n : Nat)] w fun e w' => e = .returned (.tuple #[.int .u8 (p.1 : Nat), .bool p.2]) ∧ w = w' := by
  unfold Num.to at hp
  obtain ⟨m, hm⟩ : ∃ m, m = n % 256 := ⟨_, rfl⟩
  have e1 : IntKind.u8.wrap (n : Int) = (m : Int) := by rw [wrap_uint8, hm]
  have e2 : IntKind.u64.wrap (m : Int) = (m : Int) := Num.wrapN m (by omega)
  have e4 : IntKind.u64.wrap (n : Int) = (n : Int) := Num.wrapN n (by omega)
  split at hp
  · rename_i h
    subst hp
    have hmn : m = n := by rw [hm]; exact Nat.mod_eq_of_lt h
    have e3 : ((m : Int) != (n : Int)) = false := by rw [bne_eq_false_iff_eq, hmn]
    have HM := Lib.hid hmn
    have hlt : m < 256 := by omega
    clear h hm hmn
    go_enter Tryz.func73, Tryz.ntmps73
    go_wp2
    go_ret2
    exact ⟨by first | exact ret_np _ HM.out | rfl, rfl⟩
  · rename_i h
    subst hp
    have e3 : ((m : Int) != (n : Int)) = true := by rw [bne_iff_ne]; omega
    clear h hm
    go_enter Tryz.func73, Tryz.ntmps73
    go_wp2
    go_ret2
    exact ⟨rfl, rfl⟩
theorem to_uint16_Great (n : Nat) (w : World) (hn : n < 18446744073709551616) (p : Nat × Bool) (hp : Num.to 65536 n = p) :
    Calls Tryz.prog 74 #[.int .u64 (n : Nat)] w fun e w' => e = .returned (.tuple #[.int .u16 (p.1 : Nat), .bool p.2]) ∧ w = w' := by
  unfold Num.to at hp
  obtain ⟨m, hm⟩ : ∃ m, m = n % 65536 := ⟨_, rfl⟩
  have e1 : IntKind.u16.wrap (n : Int) = (m : Int) := by rw [wrap_uint16, hm]
  have e2 : IntKind.u64.wrap (m : Int) = (m : Int) := Num.wrapN m (by omega)
  have e4 : IntKind.u64.wrap (n : Int) = (n : Int) := Num.wrapN n (by omega)
  split at hp
  · rename_i h
    subst hp
    have hmn : m = n := by rw [hm]; exact Nat.mod_eq_of_lt h
    have e3 : ((m : Int) != (n : Int)) = false := by rw [bne_eq_false_iff_eq, hmn]
    have HM := Lib.hid hmn
    have hlt : m < 65536 := by omega
    clear h hm hmn
    go_enter Tryz.func74, Tryz.ntmps74
    go_wp2
    go_ret2
    exact ⟨by first | exact ret_np _ HM.out | rfl, rfl⟩
  · rename_i h
    subst hp
    have e3 : ((m : Int) != (n : Int)) = true := by rw [bne_iff_ne]; omega
    clear h hm
    go_enter Tryz.func74, Tryz.ntmps74
    go_wp2
    go_ret2
    exact ⟨rfl, rfl⟩
theorem to_uint32_Great (n : Nat) (w : World) (hn : n < 18446744073709551616) (p : Nat × Bool) (hp : Num.to 4294967296 n = p) :
    Calls Tryz.prog 75 #[.int .u64 (n : Nat)] w fun e w' => e = .returned (.tuple #[.int .u32 (p.1 : Nat), .bool p.2]) ∧ w = w' := by
  unfold Num.to at hp
  obtain ⟨m, hm⟩ : ∃ m, m = n % 4294967296 := ⟨_, rfl⟩
  have e1 : IntKind.u32.wrap (n : Int) = (m : Int) := by rw [wrap_uint32, hm]
  have e2 : IntKind.u64.wrap (m : Int) = (m : Int) := Num.wrapN m (by omega)
  have e4 : IntKind.u64.wrap (n : Int) = (n : Int) := Num.wrapN n (by omega)
  split at hp
  · rename_i h
    subst hp
    have hmn : m = n := by rw [hm]; exact Nat.mod_eq_of_lt h
    have e3 : ((m : Int) != (n : Int)) = false := by rw [bne_eq_false_iff_eq, hmn]
    have HM := Lib.hid hmn
    have hlt : m < 4294967296 := by omega
    clear h hm hmn
    go_enter Tryz.func75, Tryz.ntmps75
    go_wp2
    go_ret2
    exact ⟨by first | exact ret_np _ HM.out | rfl, rfl⟩
  · rename_i h
    subst hp
    have e3 : ((m : Int) != (n : Int)) = true := by rw [bne_iff_ne]; omega
    clear h hm
    go_enter Tryz.func75, Tryz.ntmps75
    go_wp2
    go_ret2
    exact ⟨rfl, rfl⟩
theorem to_uint64_Great (n : Nat) (w : World) (hn : n < 18446744073709551616) (p : Nat × Bool) (hp : Num.to 18446744073709551616 n = p) :
    Calls Tryz.prog 76 #[.int .u64 (n : Nat)] w fun e w' => e = .returned (.tuple #[.int .u64 (p.1 : Nat), .bool p.2]) ∧ w = w' := by
  unfold Num.to at hp
  obtain ⟨m, hm⟩ : ∃ m, m = n % 18446744073709551616 := ⟨_, rfl⟩
  have e1 : IntKind.u64.wrap (n : Int) = (m : Int) := by rw [wrap_uint64, hm]
  have e2 : IntKind.u64.wrap (m : Int) = (m : Int) := Num.wrapN m (by omega)
  have e4 : IntKind.u64.wrap (n : Int) = (n : Int) := Num.wrapN n (by omega)
  split at hp
  · rename_i h
    subst hp
    have hmn : m = n := by rw [hm]; exact Nat.mod_eq_of_lt h
    have e3 : ((m : Int) != (n : Int)) = false := by rw [bne_eq_false_iff_eq, hmn]
    have HM := Lib.hid hmn
    have hlt : m < 18446744073709551616 := by omega
    clear h hm hmn
    go_enter Tryz.func76, Tryz.ntmps76
    go_wp2
    go_ret2
    exact ⟨by first | exact ret_np _ HM.out | rfl, rfl⟩
  · exact absurd (show n < 18446744073709551616 by omega) (by assumption)
theorem to_Small_Great (n : Nat) (w : World) (hn : n < 18446744073709551616) (p : Nat × Bool) (hp : Num.to 65536 n = p) :
    Calls Tryz.prog 77 #[.int .u64 (n : Nat)] w fun e w' => e = .returned (.tuple #[.int .u16 (p.1 : Nat), .bool p.2]) ∧ w = w' := by
  unfold Num.to at hp
  obtain ⟨m, hm⟩ : ∃ m, m = n % 65536 := ⟨_, rfl⟩
  have e1 : IntKind.u16.wrap (n : Int) = (m : Int) := by rw [wrap_uint16, hm]
  have e2 : IntKind.u64.wrap (m : Int) = (m : Int) := Num.wrapN m (by omega)
  have e4 : IntKind.u64.wrap (n : Int) = (n : Int) := Num.wrapN n (by omega)
  split at hp
  · rename_i h
    subst hp
    have hmn : m = n := by rw [hm]; exact Nat.mod_eq_of_lt h
    have e3 : ((m : Int) != (n : Int)) = false := by rw [bne_eq_false_iff_eq, hmn]
    have HM := Lib.hid hmn
    have hlt : m < 65536 := by omega
    clear h hm hmn
    go_enter Tryz.func77, Tryz.ntmps77
    go_wp2
    go_ret2
    exact ⟨by first | exact ret_np _ HM.out | rfl, rfl⟩
  · rename_i h
    subst hp
    have e3 : ((m : Int) != (n : Int)) = true := by rw [bne_iff_ne]; omega
    clear h hm
    go_enter Tryz.func77, Tryz.ntmps77
    go_wp2
    go_ret2
    exact ⟨rfl, rfl⟩
theorem to_uint8_Tiny (n : Nat) (w : World) (hn : n < 256) (p : Nat × Bool) (hp : Num.to 256 n = p) :
    Calls Tryz.prog 78 #[.int .u8 (n : Nat)] w fun e w' => e = .returned (.tuple #[.int .u8 (p.1 : Nat), .bool p.2]) ∧ w = w' := by
  unfold Num.to at hp
  obtain ⟨m, hm⟩ : ∃ m, m = n % 256 := ⟨_, rfl⟩
  have e1 : IntKind.u8.wrap (n : Int) = (m : Int) := by rw [wrap_uint8, hm]
  have e2 : IntKind.u64.wrap (m : Int) = (m : Int) := Num.wrapN m (by omega)
  have e4 : IntKind.u64.wrap (n : Int) = (n : Int) := Num.wrapN n (by omega)
  split at hp
  · rename_i h
    subst hp
    have hmn : m = n := by rw [hm]; exact Nat.mod_eq_of_lt h
    have e3 : ((m : Int) != (n : Int)) = false := by rw [bne_eq_false_iff_eq, hmn]
    have HM := Lib.hid hmn
    have hlt : m < 256 := by omega
    clear h hm hmn
    go_enter Tryz.func78, Tryz.ntmps78
    go_wp2
    go_ret2
    exact ⟨by first | exact ret_np _ HM.out | rfl, rfl⟩
  · exact absurd (show n < 256 by omega) (by assumption)
theorem to_uint16_Tiny (n : Nat) (w : World) (hn : n < 256) (p : Nat × Bool) (hp : Num.to 65536 n = p) :
    Calls Tryz.prog 79 #[.int .u8 (n : Nat)] w fun e w' => e = .returned (.tuple #[.int .u16 (p.1 : Nat), .bool p.2]) ∧ w = w' := by
  unfold Num.to at hp
  obtain ⟨m, hm⟩ : ∃ m, m = n % 65536 := ⟨_, rfl⟩
  have e1 : IntKind.u16.wrap (n : Int) = (m : Int) := by rw [wrap_uint16, hm]
  have e2 : IntKind.u64.wrap (m : Int) = (m : Int) := Num.wrapN m (by omega)
  have e4 : IntKind.u64.wrap (n : Int) = (n : Int) := Num.wrapN n (by omega)
  split at hp
  · rename_i h
    subst hp
    have hmn : m = n := by rw [hm]; exact Nat.mod_eq_of_lt h
    have e3 : ((m : Int) != (n : Int)) = false := by rw [bne_eq_false_iff_eq, hmn]
    have HM := Lib.hid hmn
    have hlt : m < 65536 := by omega
    clear h hm hmn
    go_enter Tryz.func79, Tryz.ntmps79
    go_wp2
    go_ret2
    exact ⟨by first | exact ret_np _ HM.out | rfl, rfl⟩
  · exact absurd (show n < 65536 by omega) (by assumption)
theorem to_uint32_Tiny (n : Nat) (w : World) (hn : n < 256) (p : Nat × Bool) (hp : Num.to 4294967296 n = p) :
    Calls Tryz.prog 80 #[.int .u8 (n : Nat)] w fun e w' => e = .returned (.tuple #[.int .u32 (p.1 : Nat), .bool p.2]) ∧ w = w' := by
  unfold Num.to at hp
  obtain ⟨m, hm⟩ : ∃ m, m = n % 4294967296 := ⟨_, rfl⟩
  have e1 : IntKind.u32.wrap (n : Int) = (m : Int) := by rw [wrap_uint32, hm]
  have e2 : IntKind.u64.wrap (m : Int) = (m : Int) := Num.wrapN m (by omega)
  have e4 : IntKind.u64.wrap (n : Int) = (n : Int) := Num.wrapN n (by omega)
  split at hp
  · rename_i h
    subst hp
    have hmn : m = n := by rw [hm]; exact Nat.mod_eq_of_lt h
    have e3 : ((m : Int) != (n : Int)) = false := by rw [bne_eq_false_iff_eq, hmn]
    have HM := Lib.hid hmn
    have hlt : m < 4294967296 := by omega
    clear h hm hmn
    go_enter Tryz.func80, Tryz.ntmps80
    go_wp2
    go_ret2
    exact ⟨by first | exact ret_np _ HM.out | rfl, rfl⟩
  · exact absurd (show n < 4294967296 by omega) (by assumption)
theorem to_uint64_Tiny (n : Nat) (w : World) (hn : n < 256) (p : Nat × Bool) (hp : Num.to 18446744073709551616 n = p) :
    Calls Tryz.prog 81 #[.int .u8 (n : Nat)] w fun e w' => e = .returned (.tuple #[.int .u64 (p.1 : Nat), .bool p.2]) ∧ w = w' := by
  unfold Num.to at hp
  obtain ⟨m, hm⟩ : ∃ m, m = n % 18446744073709551616 := ⟨_, rfl⟩
  have e1 : IntKind.u64.wrap (n : Int) = (m : Int) := by rw [wrap_uint64, hm]
  have e2 : IntKind.u64.wrap (m : Int) = (m : Int) := Num.wrapN m (by omega)
  have e4 : IntKind.u64.wrap (n : Int) = (n : Int) := Num.wrapN n (by omega)
  split at hp
  · rename_i h
    subst hp
    have hmn : m = n := by rw [hm]; exact Nat.mod_eq_of_lt h
    have e3 : ((m : Int) != (n : Int)) = false := by rw [bne_eq_false_iff_eq, hmn]
    have HM := Lib.hid hmn
    have hlt : m < 18446744073709551616 := by omega
    clear h hm hmn
    go_enter Tryz.func81, Tryz.ntmps81
    go_wp2
    go_ret2
    exact ⟨by first | exact ret_np _ HM.out | rfl, rfl⟩
  · exact absurd (show n < 18446744073709551616 by omega) (by assumption)
theorem to_Small_Tiny (n : Nat) (w : World) (hn : n < 256) (p : Nat × Bool) (hp : Num.to 65536 n = p) :
    Calls Tryz.prog 82 #[.int .u8 (n : Nat)] w fun e w' => e = .returned (.tuple #[.int .u16 (p.1 : Nat), .bool p.2]) ∧ w = w' := by
  unfold Num.to at hp
  obtain ⟨m, hm⟩ : ∃ m, m = n % 65536 := ⟨_, rfl⟩
  have e1 : IntKind.u16.wrap (n : Int) = (m : Int) := by rw [wrap_uint16, hm]
  have e2 : IntKind.u64.wrap (m : Int) = (m : Int) := Num.wrapN m (by omega)
  have e4 : IntKind.u64.wrap (n : Int) = (n : Int) := Num.wrapN n (by omega)
  split at hp
  · rename_i h
    subst hp
    have hmn : m = n := by rw [hm]; exact Nat.mod_eq_of_lt h
    have e3 : ((m : Int) != (n : Int)) = false := by rw [bne_eq_false_iff_eq, hmn]
    have HM := Lib.hid hmn
    have hlt : m < 65536 := by omega
    clear h hm hmn
    go_enter Tryz.func82, Tryz.ntmps82
    go_wp2
    go_ret2
    exact ⟨by first | exact ret_np _ HM.out | rfl, rfl⟩
  · exact absurd (show n < 65536 by omega) (by assumption)
end Go.Proofs.YtomjmapidjnpbaaGreat
