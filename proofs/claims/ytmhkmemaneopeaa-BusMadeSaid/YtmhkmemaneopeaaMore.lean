/- The walks of word.More, bulkheadref1.More, word.CRC, bulkheadref1.CRC: the check sum of a list of bytes, of whatever length; nothing that was there is written. -/
import Derived.Test.YtmhkmemaneopeaaBytes
import Derived.Test.YtmhkmemaneopeaaCrc
import Derived.Test.YtmhkmemaneopeaaRows
import Derived.WalkKit
import Derived.WalkSpells
import Derived.WalkLawsBesides
import Derived.Lib.Hide
set_option linter.unusedVariables false
set_option linter.unusedSimpArgs false
namespace Go.Proofs.Ytmhkmemaneopeaa
open Go.RowKit

namespace Crc
def tab (k : Nat) : Array Value := Array.ofFn fun j : Fin 16 => .int .u32 ((if j.val < k then stN 4 j.val else 0 : Nat) : Int)
theorem tab_set (k : Nat) : (tab k).setIfInBounds k (.int .u32 (stN 4 k : Nat)) = tab (k + 1) := by
  apply Array.ext
  · simp [tab]
  · intro i h1 h2
    rw [Array.getElem_setIfInBounds (by simpa using h1)]
    by_cases hik : k = i
    · subst hik; simp [tab]
    · have : (i < k + 1) = (i < k) := by rw [eq_iff_iff]; omega
      rw [if_neg hik]
      simp [tab, this]
theorem tab_get (i : Nat) (h : i < 16) : (tab 16)[i]? = some (.int .u32 (stN 4 i : Nat)) := by
  simp [tab, h]
theorem tab_size (k : Nat) : (tab k).size = 16 := by simp [tab]
theorem tab_zero : #[.int .u32 0, .int .u32 0, .int .u32 0, .int .u32 0, .int .u32 0, .int .u32 0, .int .u32 0, .int .u32 0, .int .u32 0, .int .u32 0, .int .u32 0, .int .u32 0, .int .u32 0, .int .u32 0, .int .u32 0, .int .u32 0] = tab 0 := by
  simp [tab, Array.ofFn_succ]
theorem tab_some (k i : Nat) (h : i < 16) : ∃ v, (tab k)[i]? = some v := by simp [tab, h]
end Crc
attribute [irreducible] Crc.tab

theorem stN_succ (n r : Nat) : Crc.stN (n + 1) r = Crc.st (Crc.stN n r) := Crc.stN_add n 1 r
theorem u32and1 (r : Nat) (h : r < 4294967296) : bits .and .u32 (r : Int) 1 = ((r % 2 : Nat) : Int) := by
  have := u32_and_nat r 1 h (by decide)
  rw [Nat.and_one_is_mod] at this
  exact this
theorem walk_st (r : Nat) (h : r < 4294967296) : bits .xor .u32 ((r : Int) / 2) (bits .and .u32 2197175160 (-bits .and .u32 (r : Int) 1 % 4294967296)) = ((Crc.st r : Nat) : Int) := by
  rw [u32and1 r h]
  rcases Nat.mod_two_eq_zero_or_one r with h2 | h2
  · rw [h2]
    have e : bits .and .u32 2197175160 (-((0 : Nat) : Int) % 4294967296) = ((0 : Nat) : Int) := by decide
    rw [e]
    have := u32_xor_nat (r / 2) 0 (by omega) (by decide)
    rw [show ((r : Int) / 2) = ((r / 2 : Nat) : Int) by omega, this]
    simp [Crc.st, h2, Nat.shiftRight_eq_div_pow]
  · rw [h2]
    have e : bits .and .u32 2197175160 (-((1 : Nat) : Int) % 4294967296) = ((2197175160 : Nat) : Int) := by decide
    rw [e]
    have := u32_xor_nat (r / 2) 2197175160 (by omega) (by decide)
    rw [show ((r : Int) / 2) = ((r / 2 : Nat) : Int) by omega, this]
    simp [Crc.st, Crc.poly, h2, Nat.shiftRight_eq_div_pow]

theorem two_steps (r x : Nat) (hr : r < 4294967296) (hx : x < 256) : ∃ y1 i1 t1 y2 i2 t2 y3 : Nat, (y1 < 4294967296 ∧ y2 < 4294967296 ∧ y3 < 4294967296 ∧ i1 < 16 ∧ i2 < 16) ∧
    bits .xor .u32 (r : Int) (x : Int) = y1 ∧ bits .and .u32 (y1 : Int) 15 = i1 ∧ (Crc.tab 16)[i1]? = some (.int .u32 (t1 : Nat)) ∧ bits .xor .u32 ((y1 : Int) / 16) (t1 : Int) = y2 ∧
    bits .and .u32 (y2 : Int) 15 = i2 ∧ (Crc.tab 16)[i2]? = some (.int .u32 (t2 : Nat)) ∧ bits .xor .u32 ((y2 : Int) / 16) (t2 : Int) = y3 ∧ Hid (y3 = Crc.upd r x) := by
  have h1 : r ^^^ x < 4294967296 := Nat.xor_lt_two_pow (n := 32) hr (by omega)
  have l15 (y : Nat) : y &&& 15 < 16 := by have := Nat.and_le_right (n := y) (m := 15); omega
  have ht (i : Nat) (h : i < 16) : Crc.stN 4 i < 4294967296 := Crc.stN_lt 4 (by omega)
  have h16 (y : Nat) (h : y < 4294967296) : y >>> 4 = y / 16 ∧ y / 16 < 4294967296 := ⟨by rw [Nat.shiftRight_eq_div_pow], by omega⟩
  have h2 : (r ^^^ x) >>> 4 ^^^ Crc.stN 4 ((r ^^^ x) &&& 15) < 4294967296 := by
    refine Nat.xor_lt_two_pow (n := 32) ?_ (ht _ (l15 _))
    rw [(h16 _ h1).1]; exact (h16 _ h1).2
  have h3 : Crc.upd r x < 4294967296 := Crc.upd_lt hr (by omega)
  have step (y : Nat) (h : y < 4294967296) : bits .xor .u32 ((y : Int) / 16) ((Crc.stN 4 (y &&& 15) : Nat) : Int) = ((y >>> 4 ^^^ Crc.stN 4 (y &&& 15) : Nat) : Int) := by
    rw [show ((y : Int) / 16) = ((y / 16 : Nat) : Int) by omega, u32_xor_nat _ _ (h16 y h).2 (ht _ (l15 y)), (h16 y h).1]
  refine ⟨r ^^^ x, (r ^^^ x) &&& 15, Crc.stN 4 ((r ^^^ x) &&& 15), _, _, Crc.stN 4 (((r ^^^ x) >>> 4 ^^^ Crc.stN 4 ((r ^^^ x) &&& 15)) &&& 15), Crc.upd r x, ⟨h1, h2, h3, l15 _, l15 _⟩,
    u32_xor_nat r x hr (by omega), u32_and_nat _ 15 h1 (by decide), Crc.tab_get _ (l15 _), step _ h1, u32_and_nat _ 15 h2 (by decide), Crc.tab_get _ (l15 _), ?_, rfl⟩
  rw [step _ h2, Crc.upd_two]

theorem ret_u32 {a b : Int} (h : a = b) : Ending.returned (.int .u32 a) = .returned (.int .u32 b) := by rw [h]
theorem start_eq (s : Nat) (hs : s < 4294967296) : bits .xor .u32 IntKind.u32.max (s : Int) = ((s ^^^ Crc.ones : Nat) : Int) := by
  have h := u32_xor_nat 4294967295 s (by decide) hs
  have e : IntKind.u32.max = ((4294967295 : Nat) : Int) := by decide
  rw [e, h, Nat.xor_comm]; rfl

theorem start_eq' (s : Nat) (hs : s < 4294967296) : bits .xor .u32 (s : Int) 4294967295 = ((s ^^^ Crc.ones : Nat) : Int) := by
  have h := u32_xor_nat s 4294967295 hs (by decide)
  exact h

theorem walk_ref (r : Nat) (h : r < 4294967296) : ∃ o r1 : Nat, bits .and .u32 (r : Int) 1 = o ∧ o < 2 ∧ r1 < 4294967296 ∧ Hid (r1 = r / 2) ∧ (r : Int) / 2 = r1 ∧ (o = 1 → bits .xor .u32 (r1 : Int) 2197175160 = ((Crc.st r : Nat) : Int)) ∧ (o = 0 → r1 = Crc.st r) := by
  refine ⟨r % 2, r / 2, u32and1 r h, by omega, by omega, rfl, by omega, fun h1 => ?_, fun h0 => ?_⟩
  · refine (u32_xor_nat (r / 2) 2197175160 (by omega) (by decide)).trans ?_
    simp [Crc.st, Crc.poly, h1, Nat.shiftRight_eq_div_pow]
  · simp [Crc.st, h0, Nat.shiftRight_eq_div_pow]

end Go.Proofs.Ytmhkmemaneopeaa
