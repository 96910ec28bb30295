/- GetZ: the same for number types of one's own. -/
import Derived.Test.YtomjmapidjnpbaaGreatGet
import Derived.Test.YtomjmapidjnpbaaGreatPutZ
set_option linter.unusedVariables false
set_option linter.unusedSimpArgs false
namespace Go.Proofs.YtomjmapidjnpbaaGreat
open Go.RowKit

set_option maxRecDepth 100000 in
set_option maxHeartbeats 1000000 in
theorem get_Tiny (A : Option Addr) (n c : Nat) (bs : List Nat) (w : World) (ha : IsB w w.heap.size A n bs) (hk : 1 ≤ n) (hc : n ≤ c) :
    Calls Tryz.prog 41 #[.slice A n c] w fun e w' => e = .returned (.tuple #[.int .u8 (Wd.unle (bs.take 1) : Nat), .bool true]) ∧ w = w' := by
  have hn := ha.2.2
  have hlen := ha.len
  obtain ⟨b, off, HF⟩ := ha.form
  have HBY := Lib.hid ha.2.1
  have hlt := Wd.unle_lt (bs.take 1) (fun b hb' => ha.2.1 b (List.mem_of_mem_take hb'))
  rw [show (bs.take 1).length = 1 by simp; omega] at hlt
  have HLT := Lib.hid hlt
  clear ha hlt
  go_enter Tryz.func41, Tryz.ntmps41
  go_wp2_with (first
    | (go_at_call 108; refine (width_Tiny _).mono ?_; rintro e w' ⟨rfl, rfl⟩))
  go_loop [5, 17] (fun x i => ∃ j : Nat, j ≤ 1 ∧ i = .int .i64 j ∧ x = .int .u64 (Wd.unle (bs.take j) : Nat)) (fun _ i => 1 - (intOf i).toNat)
  case atStart => exact ⟨0, by omega, rfl, rfl⟩
  case round =>
    obtain ⟨j, hj, rfl, rfl⟩ := hrel
    by_cases hjn : j < 1
    · obtain ⟨hA, hbB, hcc⟩ := HF.out (by omega)
      subst hA
      have hcj := hcc j (by omega)
      have hcb := HBY.out _ (getD_mem bs j (by omega))
      have HS := Lib.hid (or_step bs j (by omega) (by omega) HBY.out)
      obtain ⟨x, hx⟩ : ∃ x, x = bs.getD j 0 := ⟨_, rfl⟩
      rw [← hx] at hcj hcb HS
      obtain ⟨y, hy⟩ : ∃ y, y = Wd.unle (bs.take j) := ⟨_, rfl⟩
      rw [← hy] at HS ⊢
      have HX := Lib.hid hx; have HY := Lib.hid hy; clear hx hy
      clear hcc
      go_wp2
      go_round
      case rel => exact ⟨j + 1, by omega, by go_num, by rw [HS.out]⟩
      case measure => simp [intOf]; omega
    · have HJ : Hid (j = 1) := Lib.hid (by omega)
      obtain ⟨y, hy⟩ : ∃ y, y = Wd.unle (bs.take j) := ⟨_, rfl⟩
      have hyl : y < 256 := by rw [hy, HJ.out]; exact HLT.out
      rw [← hy]
      have HY := Lib.hid hy
      have ew : IntKind.u8.wrap (y : Int) = (y : Int) := by rw [IntKind.wrap_u8]; omega
      clear hy hyl
      go_wp2
      go_ret2
      exact ⟨by rw [HY.out, HJ.out]; rfl, rfl⟩
set_option maxRecDepth 100000 in
set_option maxHeartbeats 1000000 in
theorem getno_Tiny (A : Option Addr) (n c : Nat) (bs : List Nat) (w : World) (hk : n < 1) :
    Calls Tryz.prog 41 #[.slice A n c] w fun e w' => e = .returned (.tuple #[.int .u8 0, .bool false]) ∧ w = w' := by
  go_enter Tryz.func41, Tryz.ntmps41
  go_wp2_with (first
    | (go_at_call 108; refine (width_Tiny _).mono ?_; rintro e w' ⟨rfl, rfl⟩))
  go_ret2
  exact ⟨rfl, rfl⟩

set_option maxRecDepth 100000 in
set_option maxHeartbeats 1000000 in
theorem get_Small (A : Option Addr) (n c : Nat) (bs : List Nat) (w : World) (ha : IsB w w.heap.size A n bs) (hk : 2 ≤ n) (hc : n ≤ c) :
    Calls Tryz.prog 44 #[.slice A n c] w fun e w' => e = .returned (.tuple #[.int .u16 (Wd.unle (bs.take 2) : Nat), .bool true]) ∧ w = w' := by
  have hn := ha.2.2
  have hlen := ha.len
  obtain ⟨b, off, HF⟩ := ha.form
  have HBY := Lib.hid ha.2.1
  have hlt := Wd.unle_lt (bs.take 2) (fun b hb' => ha.2.1 b (List.mem_of_mem_take hb'))
  rw [show (bs.take 2).length = 2 by simp; omega] at hlt
  have HLT := Lib.hid hlt
  clear ha hlt
  go_enter Tryz.func44, Tryz.ntmps44
  go_wp2_with (first
    | (go_at_call 113; refine (width_Small _).mono ?_; rintro e w' ⟨rfl, rfl⟩))
  go_loop [5, 17] (fun x i => ∃ j : Nat, j ≤ 2 ∧ i = .int .i64 j ∧ x = .int .u64 (Wd.unle (bs.take j) : Nat)) (fun _ i => 2 - (intOf i).toNat)
  case atStart => exact ⟨0, by omega, rfl, rfl⟩
  case round =>
    obtain ⟨j, hj, rfl, rfl⟩ := hrel
    by_cases hjn : j < 2
    · obtain ⟨hA, hbB, hcc⟩ := HF.out (by omega)
      subst hA
      have hcj := hcc j (by omega)
      have hcb := HBY.out _ (getD_mem bs j (by omega))
      have HS := Lib.hid (or_step bs j (by omega) (by omega) HBY.out)
      obtain ⟨x, hx⟩ : ∃ x, x = bs.getD j 0 := ⟨_, rfl⟩
      rw [← hx] at hcj hcb HS
      obtain ⟨y, hy⟩ : ∃ y, y = Wd.unle (bs.take j) := ⟨_, rfl⟩
      rw [← hy] at HS ⊢
      have HX := Lib.hid hx; have HY := Lib.hid hy; clear hx hy
      clear hcc
      go_wp2
      go_round
      case rel => exact ⟨j + 1, by omega, by go_num, by rw [HS.out]⟩
      case measure => simp [intOf]; omega
    · have HJ : Hid (j = 2) := Lib.hid (by omega)
      obtain ⟨y, hy⟩ : ∃ y, y = Wd.unle (bs.take j) := ⟨_, rfl⟩
      have hyl : y < 65536 := by rw [hy, HJ.out]; exact HLT.out
      rw [← hy]
      have HY := Lib.hid hy
      have ew : IntKind.u16.wrap (y : Int) = (y : Int) := by rw [IntKind.wrap_u16]; omega
      clear hy hyl
      go_wp2
      go_ret2
      exact ⟨by rw [HY.out, HJ.out]; rfl, rfl⟩
set_option maxRecDepth 100000 in
set_option maxHeartbeats 1000000 in
theorem getno_Small (A : Option Addr) (n c : Nat) (bs : List Nat) (w : World) (hk : n < 2) :
    Calls Tryz.prog 44 #[.slice A n c] w fun e w' => e = .returned (.tuple #[.int .u16 0, .bool false]) ∧ w = w' := by
  go_enter Tryz.func44, Tryz.ntmps44
  go_wp2_with (first
    | (go_at_call 113; refine (width_Small _).mono ?_; rintro e w' ⟨rfl, rfl⟩))
  go_ret2
  exact ⟨rfl, rfl⟩

set_option maxRecDepth 100000 in
set_option maxHeartbeats 1000000 in
theorem get_Plain (A : Option Addr) (n c : Nat) (bs : List Nat) (w : World) (ha : IsB w w.heap.size A n bs) (hk : 4 ≤ n) (hc : n ≤ c) :
    Calls Tryz.prog 47 #[.slice A n c] w fun e w' => e = .returned (.tuple #[.int .u32 (Wd.unle (bs.take 4) : Nat), .bool true]) ∧ w = w' := by
  have hn := ha.2.2
  have hlen := ha.len
  obtain ⟨b, off, HF⟩ := ha.form
  have HBY := Lib.hid ha.2.1
  have hlt := Wd.unle_lt (bs.take 4) (fun b hb' => ha.2.1 b (List.mem_of_mem_take hb'))
  rw [show (bs.take 4).length = 4 by simp; omega] at hlt
  have HLT := Lib.hid hlt
  clear ha hlt
  go_enter Tryz.func47, Tryz.ntmps47
  go_wp2_with (first
    | (go_at_call 118; refine (width_Plain _).mono ?_; rintro e w' ⟨rfl, rfl⟩))
  go_loop [5, 17] (fun x i => ∃ j : Nat, j ≤ 4 ∧ i = .int .i64 j ∧ x = .int .u64 (Wd.unle (bs.take j) : Nat)) (fun _ i => 4 - (intOf i).toNat)
  case atStart => exact ⟨0, by omega, rfl, rfl⟩
  case round =>
    obtain ⟨j, hj, rfl, rfl⟩ := hrel
    by_cases hjn : j < 4
    · obtain ⟨hA, hbB, hcc⟩ := HF.out (by omega)
      subst hA
      have hcj := hcc j (by omega)
      have hcb := HBY.out _ (getD_mem bs j (by omega))
      have HS := Lib.hid (or_step bs j (by omega) (by omega) HBY.out)
      obtain ⟨x, hx⟩ : ∃ x, x = bs.getD j 0 := ⟨_, rfl⟩
      rw [← hx] at hcj hcb HS
      obtain ⟨y, hy⟩ : ∃ y, y = Wd.unle (bs.take j) := ⟨_, rfl⟩
      rw [← hy] at HS ⊢
      have HX := Lib.hid hx; have HY := Lib.hid hy; clear hx hy
      clear hcc
      go_wp2
      go_round
      case rel => exact ⟨j + 1, by omega, by go_num, by rw [HS.out]⟩
      case measure => simp [intOf]; omega
    · have HJ : Hid (j = 4) := Lib.hid (by omega)
      obtain ⟨y, hy⟩ : ∃ y, y = Wd.unle (bs.take j) := ⟨_, rfl⟩
      have hyl : y < 4294967296 := by rw [hy, HJ.out]; exact HLT.out
      rw [← hy]
      have HY := Lib.hid hy
      have ew : IntKind.u32.wrap (y : Int) = (y : Int) := by rw [IntKind.wrap_u32]; omega
      clear hy hyl
      go_wp2
      go_ret2
      exact ⟨by rw [HY.out, HJ.out]; rfl, rfl⟩
set_option maxRecDepth 100000 in
set_option maxHeartbeats 1000000 in
theorem getno_Plain (A : Option Addr) (n c : Nat) (bs : List Nat) (w : World) (hk : n < 4) :
    Calls Tryz.prog 47 #[.slice A n c] w fun e w' => e = .returned (.tuple #[.int .u32 0, .bool false]) ∧ w = w' := by
  go_enter Tryz.func47, Tryz.ntmps47
  go_wp2_with (first
    | (go_at_call 118; refine (width_Plain _).mono ?_; rintro e w' ⟨rfl, rfl⟩))
  go_ret2
  exact ⟨rfl, rfl⟩

set_option maxRecDepth 100000 in
set_option maxHeartbeats 1000000 in
theorem get_Great (A : Option Addr) (n c : Nat) (bs : List Nat) (w : World) (ha : IsB w w.heap.size A n bs) (hk : 8 ≤ n) (hc : n ≤ c) :
    Calls Tryz.prog 50 #[.slice A n c] w fun e w' => e = .returned (.tuple #[.int .u64 (Wd.unle (bs.take 8) : Nat), .bool true]) ∧ w = w' := by
  have hn := ha.2.2
  have hlen := ha.len
  obtain ⟨b, off, HF⟩ := ha.form
  have HBY := Lib.hid ha.2.1
  have hlt := Wd.unle_lt (bs.take 8) (fun b hb' => ha.2.1 b (List.mem_of_mem_take hb'))
  rw [show (bs.take 8).length = 8 by simp; omega] at hlt
  have HLT := Lib.hid hlt
  clear ha hlt
  go_enter Tryz.func50, Tryz.ntmps50
  go_wp2_with (first
    | (go_at_call 123; refine (width_Great _).mono ?_; rintro e w' ⟨rfl, rfl⟩))
  go_loop [5, 17] (fun x i => ∃ j : Nat, j ≤ 8 ∧ i = .int .i64 j ∧ x = .int .u64 (Wd.unle (bs.take j) : Nat)) (fun _ i => 8 - (intOf i).toNat)
  case atStart => exact ⟨0, by omega, rfl, rfl⟩
  case round =>
    obtain ⟨j, hj, rfl, rfl⟩ := hrel
    by_cases hjn : j < 8
    · obtain ⟨hA, hbB, hcc⟩ := HF.out (by omega)
      subst hA
      have hcj := hcc j (by omega)
      have hcb := HBY.out _ (getD_mem bs j (by omega))
      have HS := Lib.hid (or_step bs j (by omega) (by omega) HBY.out)
      obtain ⟨x, hx⟩ : ∃ x, x = bs.getD j 0 := ⟨_, rfl⟩
      rw [← hx] at hcj hcb HS
      obtain ⟨y, hy⟩ : ∃ y, y = Wd.unle (bs.take j) := ⟨_, rfl⟩
      rw [← hy] at HS ⊢
      have HX := Lib.hid hx; have HY := Lib.hid hy; clear hx hy
      clear hcc
      go_wp2
      go_round
      case rel => exact ⟨j + 1, by omega, by go_num, by rw [HS.out]⟩
      case measure => simp [intOf]; omega
    · have HJ : Hid (j = 8) := Lib.hid (by omega)
      obtain ⟨y, hy⟩ : ∃ y, y = Wd.unle (bs.take j) := ⟨_, rfl⟩
      have hyl : y < 18446744073709551616 := by rw [hy, HJ.out]; exact HLT.out
      rw [← hy]
      have HY := Lib.hid hy
      have ew : IntKind.u64.wrap (y : Int) = (y : Int) := by rw [IntKind.wrap_u64]; omega
      clear hy hyl
      go_wp2
      go_ret2
      exact ⟨by rw [HY.out, HJ.out]; rfl, rfl⟩
set_option maxRecDepth 100000 in
set_option maxHeartbeats 1000000 in
theorem getno_Great (A : Option Addr) (n c : Nat) (bs : List Nat) (w : World) (hk : n < 8) :
    Calls Tryz.prog 50 #[.slice A n c] w fun e w' => e = .returned (.tuple #[.int .u64 0, .bool false]) ∧ w = w' := by
  go_enter Tryz.func50, Tryz.ntmps50
  go_wp2_with (first
    | (go_at_call 123; refine (width_Great _).mono ?_; rintro e w' ⟨rfl, rfl⟩))
  go_ret2
  exact ⟨rfl, rfl⟩
end Go.Proofs.YtomjmapidjnpbaaGreat
