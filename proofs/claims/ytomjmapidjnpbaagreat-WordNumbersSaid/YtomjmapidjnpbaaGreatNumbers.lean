/- The walk of the law WordNumbers: it returns true whatever the two numbers and the bytes; nothing that was there is written. -/
import Derived.Test.YtomjmapidjnpbaaGreatNuA
import Derived.Test.YtomjmapidjnpbaaGreatNuB
import Derived.Test.YtomjmapidjnpbaaGreatNuC
import Derived.Test.YtomjmapidjnpbaaGreatNuD
set_option linter.unusedVariables false
set_option linter.unusedSimpArgs false
namespace Go.Proofs.YtomjmapidjnpbaaGreat
open Go.RowKit

theorem len1 (w : World) (a : Nat) : Reads (w.alloc (.cells #[.int .i64 (a : Nat)] 3)) (w.alloc (.cells #[.int .i64 (a : Nat)] 3)).heap.size 1 (some ⟨w.heap.size, 0, none⟩) 1 ([a].map i64) :=
  (Row.new w 3 [i64 a]).reads 0 1 (by simp) (Row.new w 3 [i64 a]).lt
theorem beyond_1 (w : World) (a : Nat) (ha : a ≤ 9223372036854775807) (r : Bool) (hr : beyondL 2147483647 [a] = r) :
    Calls Tryz.prog 4 #[.slice (some ⟨w.heap.size, 0, none⟩) 1 1] (w.alloc (.cells #[.int .i64 (a : Nat)] 3)) fun e w' => e = .returned (.bool r) ∧ w.alloc (.cells #[.int .i64 (a : Nat)] 3) = w' := by
  rw [← hr]
  refine beyond_any _ _ _ [a] _ (len1 w a) (by omega) ?_
  intro x hx
  simp at hx
  omega
theorem beyond1L {a : Nat} (h : beyondL 2147483647 [a] = false) : a ≤ 2147483647 := by
  unfold beyondL at h
  split at h
  · cases h
  · omega
def bookZ : List Value := [.slice none 0 0, .slice none 0 0, .int .i64 0, .bool false]
theorem bk_zero (w : World) : Bk (w.alloc (.cells bookZ.toArray 28)) w.heap.size 0 28 bookZ [] :=
  ⟨Row.new w _ _, ⟨by decide, by decide⟩, by simp, [], .slice none 0 0, .slice none 0 0, 0, [], [], rfl, rfl, rfl, rfl, by simp, ⟨Tl.nil_ _ _, Tl.nil_ _ _, by simp, by simp, by simp, by simp, by simp, by simp⟩⟩
set_option maxRecDepth 100000 in
set_option maxHeartbeats 400000 in
theorem numbers_far (a b : Nat) (A : Option Addr) (n c : Nat) (bs : List Nat) (w : World) (hp : IsB w w.heap.size A n bs) (hbe : beyondL 2147483647 [n] = true) :
    Calls Tryz.prog 3 #[.int .u64 (a : Nat), .int .u64 (b : Nat), .slice A n c] w fun e w' => e = .returned (.bool true) ∧ Below w.heap.size w w' := by
  have HB := Lib.hid (beyond_1 w n hp.2.2 true hbe)
  clear hp hbe
  go_enter Tryz.func3, Tryz.ntmps3
  go_wp2_with fail
  refine HB.out.mono ?_
  rintro e w' ⟨rfl, rfl⟩
  go_wp2_with fail
  go_ret
  exact ⟨rfl, (Below.refl _ _).alloc (Nat.le_refl _) _⟩
set_option maxRecDepth 100000 in
set_option maxHeartbeats 4000000 in
theorem numbers_near (a b : Nat) (A : Option Addr) (n c : Nat) (bs : List Nat) (w : World) (ha : a < 18446744073709551616) (hb : b < 18446744073709551616) (hp : IsB w w.heap.size A n bs) (hbe : beyondL 2147483647 [n] = false) :
    Calls Tryz.prog 3 #[.int .u64 (a : Nat), .int .u64 (b : Nat), .slice A n c] w fun e w' => e = .returned (.bool true) ∧ Below w.heap.size w w' := by
  have HB := Lib.hid (beyond_1 w n hp.2.2 false hbe)
  have hn := beyond1L hbe
  have HP := Lib.hid hp
  have HA := Lib.hid ha
  have HBb := Lib.hid hb
  obtain ⟨a8, ea8⟩ : ∃ x, x = a % 256 := ⟨_, rfl⟩
  obtain ⟨a16, ea16⟩ : ∃ x, x = a % 65536 := ⟨_, rfl⟩
  obtain ⟨a32, ea32⟩ : ∃ x, x = a % 4294967296 := ⟨_, rfl⟩
  obtain ⟨b8, eb8⟩ : ∃ x, x = b % 256 := ⟨_, rfl⟩
  obtain ⟨b16, eb16⟩ : ∃ x, x = b % 65536 := ⟨_, rfl⟩
  obtain ⟨b32, eb32⟩ : ∃ x, x = b % 4294967296 := ⟨_, rfl⟩
  have va8 : IntKind.u8.wrap (a : Int) = (a8 : Int) := by rw [wrap_uint8, ea8]
  have va16 : IntKind.u16.wrap (a : Int) = (a16 : Int) := by rw [wrap_uint16, ea16]
  have va32 : IntKind.u32.wrap (a : Int) = (a32 : Int) := by rw [wrap_uint32, ea32]
  have vb8 : IntKind.u8.wrap (b : Int) = (b8 : Int) := by rw [wrap_uint8, eb8]
  have vb16 : IntKind.u16.wrap (b : Int) = (b16 : Int) := by rw [wrap_uint16, eb16]
  have vb32 : IntKind.u32.wrap (b : Int) = (b32 : Int) := by rw [wrap_uint32, eb32]
  have LA8 : Hid (a8 < 256) := Lib.hid (by omega)
  have LA16 : Hid (a16 < 65536) := Lib.hid (by omega)
  have LA32 : Hid (a32 < 4294967296) := Lib.hid (by omega)
  have LB8 : Hid (b8 < 256) := Lib.hid (by omega)
  have LB16 : Hid (b16 < 65536) := Lib.hid (by omega)
  have LB32 : Hid (b32 < 4294967296) := Lib.hid (by omega)
  have hbk := bk_zero (w.alloc (.cells #[.int .i64 (n : Nat)] 3))
  have hbel : Below w.heap.size w ((w.alloc (.cells #[.int .i64 (n : Nat)] 3)).alloc (.cells bookZ.toArray 28)) := ((Below.refl _ _).alloc (Nat.le_refl _) _).alloc (by simp) _
  obtain ⟨w2, hw2⟩ : ∃ w2, w2 = (w.alloc (.cells #[.int .i64 (n : Nat)] 3)).alloc (.cells bookZ.toArray 28) := ⟨_, rfl⟩
  rw [show (w.alloc (.cells #[.int .i64 (n : Nat)] 3)).heap.size = w.heap.size + 1 by simp] at hbk
  rw [← hw2] at hbk hbel
  have hBK2 : BK w2 w.heap.size (w.heap.size + 1) [] := ⟨_, _, hbk, by simp, by simp⟩
  have HBK2 := Lib.hid hBK2
  have HB2 := Lib.hid hbel
  unfold bookZ at hw2
  clear hp hbe ha hb ea8 ea16 ea32 eb8 eb16 eb32 hbk hbel hBK2
  go_enter Tryz.func3, Tryz.ntmps3
  go_wp2_with fail
  refine HB.out.mono ?_
  rintro e w' ⟨rfl, rfl⟩
  clear HB
  go_upto_region 4 with fail
  rw [← hw2]
  clear hw2
  go_wp2_with fail
  refine (numbers_uint8 A n c a8 b8 w.heap.size (w.heap.size + 1) bs w2 (HP.out.below HB2.out) hn LA8.out LB8.out HB2.out.size HBK2.out).mono ?_
  rintro e w3 ⟨rfl, hbk, hb⟩
  have HBK3 := Lib.hid hbk
  have HB3 := Lib.hid (HB2.out.trans hb)
  clear hbk hb HBK2 HB2
  go_wp2_with fail
  refine (numbers_uint16 A n c a16 b16 w.heap.size (w.heap.size + 1) bs w3 (HP.out.below HB3.out) hn LA16.out LB16.out HB3.out.size HBK3.out).mono ?_
  rintro e w4 ⟨rfl, hbk, hb⟩
  have HBK4 := Lib.hid hbk
  have HB4 := Lib.hid (HB3.out.trans hb)
  clear hbk hb HBK3 HB3
  go_wp2_with fail
  refine (numbers_uint32 A n c a32 b32 w.heap.size (w.heap.size + 1) bs w4 (HP.out.below HB4.out) hn LA32.out LB32.out HB4.out.size HBK4.out).mono ?_
  rintro e w5 ⟨rfl, hbk, hb⟩
  have HBK5 := Lib.hid hbk
  have HB5 := Lib.hid (HB4.out.trans hb)
  clear hbk hb HBK4 HB4
  go_wp2_with fail
  refine (numbers_uint64 A n c a b w.heap.size (w.heap.size + 1) bs w5 (HP.out.below HB5.out) hn HA.out HBb.out HB5.out.size HBK5.out).mono ?_
  rintro e w6 ⟨rfl, hbk, hb⟩
  have HBK6 := Lib.hid hbk
  have HB6 := Lib.hid (HB5.out.trans hb)
  clear hbk hb HBK5 HB5
  go_wp2_with fail
  refine (numbers_Tiny A n c a8 b8 w.heap.size (w.heap.size + 1) bs w6 (HP.out.below HB6.out) hn LA8.out LB8.out HB6.out.size HBK6.out).mono ?_
  rintro e w7 ⟨rfl, hbk, hb⟩
  have HBK7 := Lib.hid hbk
  have HB7 := Lib.hid (HB6.out.trans hb)
  clear hbk hb HBK6 HB6
  go_wp2_with fail
  refine (numbers_Small A n c a16 b16 w.heap.size (w.heap.size + 1) bs w7 (HP.out.below HB7.out) hn LA16.out LB16.out HB7.out.size HBK7.out).mono ?_
  rintro e w8 ⟨rfl, hbk, hb⟩
  have HBK8 := Lib.hid hbk
  have HB8 := Lib.hid (HB7.out.trans hb)
  clear hbk hb HBK7 HB7
  go_wp2_with fail
  refine (numbers_Plain A n c a32 b32 w.heap.size (w.heap.size + 1) bs w8 (HP.out.below HB8.out) hn LA32.out LB32.out HB8.out.size HBK8.out).mono ?_
  rintro e w9 ⟨rfl, hbk, hb⟩
  have HBK9 := Lib.hid hbk
  have HB9 := Lib.hid (HB8.out.trans hb)
  clear hbk hb HBK8 HB8
  go_wp2_with fail
  refine (numbers_Great A n c a b w.heap.size (w.heap.size + 1) bs w9 (HP.out.below HB9.out) hn HA.out HBb.out HB9.out.size HBK9.out).mono ?_
  rintro e w10 ⟨rfl, hbk, hb⟩
  have HBK10 := Lib.hid hbk
  have HB10 := Lib.hid (HB9.out.trans hb)
  clear hbk hb HBK9 HB9
  go_wp2_with fail
  refine (tos_uint8 a8 w10 LA8.out).mono ?_
  rintro e w' ⟨rfl, rfl⟩
  go_wp2_with fail
  refine (tos_uint16 a16 w10 LA16.out).mono ?_
  rintro e w' ⟨rfl, rfl⟩
  go_wp2_with fail
  refine (tos_uint32 a32 w10 LA32.out).mono ?_
  rintro e w' ⟨rfl, rfl⟩
  go_wp2_with fail
  refine (tos_uint64 a w10 HA.out).mono ?_
  rintro e w' ⟨rfl, rfl⟩
  go_wp2_with fail
  refine (tos_Great b w10 HBb.out).mono ?_
  rintro e w' ⟨rfl, rfl⟩
  go_wp2_with fail
  refine (tos_Tiny b8 w10 LB8.out).mono ?_
  rintro e w' ⟨rfl, rfl⟩
  obtain ⟨cs, S, hbk, hS, _⟩ := HBK10.out
  have HAP := Lib.hid (apart_any (w.heap.size + 1) 0 _ cs S w10 hbk)
  have HS := Lib.hid hS
  clear hbk hS
  go_wp2_with fail
  refine HAP.out.mono ?_
  rintro e w' ⟨rfl, hch⟩
  go_wp2_with fail
  go_ret
  exact ⟨rfl, below_chg HB10.out (Nat.le_refl _) hch HS.out⟩
theorem numbers_walk (a b : Nat) (A : Option Addr) (n c : Nat) (bs : List Nat) (w : World) (ha : a < 18446744073709551616) (hb : b < 18446744073709551616) (hp : IsB w w.heap.size A n bs) :
    Calls Tryz.prog 3 #[.int .u64 (a : Nat), .int .u64 (b : Nat), .slice A n c] w fun e w' => e = .returned (.bool true) ∧ Below w.heap.size w w' := by
  cases h : beyondL 2147483647 [n] with
  | true => exact numbers_far a b A n c bs w hp h
  | false => exact numbers_near a b A n c bs w ha hb hp h
end Go.Proofs.YtomjmapidjnpbaaGreat
