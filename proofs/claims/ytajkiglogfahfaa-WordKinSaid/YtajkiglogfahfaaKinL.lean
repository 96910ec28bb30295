/- The walk of bulkheadlaw1.WordKin: it returns true, whatever the two numbers. -/
import Derived.Test.YtajkiglogfahfaaKinA
import Derived.Test.YtajkiglogfahfaaKinB
import Derived.Test.YtajkiglogfahfaaKinC
set_option linter.unusedVariables false
set_option linter.unusedSimpArgs false
namespace Go.Proofs.Ytajkiglogfahfaa
open Go.RowKit

set_option maxRecDepth 100000 in
set_option maxHeartbeats 1000000 in
theorem wordkin_walk (a b : Nat) (w : World) (ha : a < 18446744073709551616) (hb : b < 18446744073709551616) :
    Calls Try.prog 4 #[.int .u64 (a : Nat), .int .u64 (b : Nat)] w fun e w' => e = .returned (.bool true) ∧ w = w' := by
  obtain ⟨a8, h8⟩ : ∃ m, m = a % 256 := ⟨_, rfl⟩
  obtain ⟨b8, g8⟩ : ∃ m, m = b % 256 := ⟨_, rfl⟩
  obtain ⟨a6, h6⟩ : ∃ m, m = a % 65536 := ⟨_, rfl⟩
  obtain ⟨b6, g6⟩ : ∃ m, m = b % 65536 := ⟨_, rfl⟩
  obtain ⟨a2, h2⟩ : ∃ m, m = a % 4294967296 := ⟨_, rfl⟩
  obtain ⟨b2, g2⟩ : ∃ m, m = b % 4294967296 := ⟨_, rfl⟩
  have e8 : IntKind.u8.wrap (a : Int) = (a8 : Int) := by rw [wrap_uint8, h8]
  have f8 : IntKind.u8.wrap (b : Int) = (b8 : Int) := by rw [wrap_uint8, g8]
  have e6 : IntKind.u16.wrap (a : Int) = (a6 : Int) := by rw [wrap_uint16, h6]
  have f6 : IntKind.u16.wrap (b : Int) = (b6 : Int) := by rw [wrap_uint16, g6]
  have e2 : IntKind.u32.wrap (a : Int) = (a2 : Int) := by rw [wrap_uint32, h2]
  have f2 : IntKind.u32.wrap (b : Int) = (b2 : Int) := by rw [wrap_uint32, g2]
  have e4 : IntKind.u64.wrap (a : Int) = (a : Int) := Num.wrapN a ha
  have f4 : IntKind.u64.wrap (b : Int) = (b : Int) := Num.wrapN b hb
  have C8 := Lib.hid (kin_uint8 a8 b8 w (by omega) (by omega))
  have C6 := Lib.hid (kin_uint16 a6 b6 w (by omega) (by omega))
  have C2 := Lib.hid (kin_uint32 a2 b2 w (by omega) (by omega))
  have C4 := Lib.hid (kin_uint64 a b w ha hb)
  have CT := Lib.hid (kin_Tiny a8 b8 w (by omega) (by omega))
  have CG := Lib.hid (kin_Great a b w ha hb)
  clear h8 g8 h6 g6 h2 g2 ha hb
  go_enter Try.func4, Try.ntmps4
  go_wp2_with fail
  refine (add_uint8 200 55 w (by decide) (by decide) (255, true) (by decide)).mono ?_
  rintro e w' ⟨rfl, rfl⟩
  go_wp2_with fail
  refine (add_uint8 200 56 w (by decide) (by decide) (0, false) (by decide)).mono ?_
  rintro e w' ⟨rfl, rfl⟩
  go_wp2_with fail
  refine C8.out.mono ?_
  rintro e w' ⟨rfl, rfl⟩
  go_wp2_with fail
  refine C6.out.mono ?_
  rintro e w' ⟨rfl, rfl⟩
  go_wp2_with fail
  refine C2.out.mono ?_
  rintro e w' ⟨rfl, rfl⟩
  go_wp2_with fail
  refine C4.out.mono ?_
  rintro e w' ⟨rfl, rfl⟩
  go_wp2_with fail
  refine CT.out.mono ?_
  rintro e w' ⟨rfl, rfl⟩
  go_wp2_with fail
  refine CG.out.mono ?_
  rintro e w' ⟨rfl, rfl⟩
  go_wp2_with fail
  go_ret
  exact ⟨rfl, rfl⟩
end Go.Proofs.Ytajkiglogfahfaa
