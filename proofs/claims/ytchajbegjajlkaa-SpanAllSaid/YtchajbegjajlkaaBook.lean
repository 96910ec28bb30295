/- The walks of the book's small helpers over bytes: Beyond, Same, Roomy, Intact. -/
import Derived.Test.YtchajbegjajlkaaBytes
import Derived.Laws.CopyOwn
import Derived.Deep.QuietTactic
import Derived.BigQuiet
import Derived.Deep.OwnRows
set_option linter.unusedVariables false
set_option linter.unusedSimpArgs false
namespace Go.Proofs.Ytchajbegjajlkaa
open Go.RowKit

def i64 (x : Nat) : Value := .int .i64 (x : Int)
/-- are so many, together, above what is left? -/
def beyondL : Nat → List Nat → Bool
  | _, [] => false
  | left, x :: r => if left < x then true else beyondL (left - x) r
theorem form_of {α : Type} (f : α → Value) (d : α) {w : World} {B n : Nat} {A : Option Addr} {xs : List α} (h : Reads w B 1 A n (xs.map f)) :
    xs.length = n ∧ ∃ b off, Hid (0 < n → A = some ⟨b, off, none⟩ ∧ b < B ∧ ∀ k, k < n → w.cell? ⟨b, off + k, none⟩ = some (f (xs.getD k d))) := by
  have hl : xs.length = n := by have := h.1; simpa using this
  refine ⟨hl, ?_⟩
  rcases Nat.eq_zero_or_pos n with h0 | h0
  · exact ⟨0, 0, fun h => absurd h (by omega)⟩
  · obtain ⟨⟨b, off, sp⟩, rfl, hb, hc⟩ := h.2 h0
    have hx : ∀ k, k < n → (xs.map f)[k]? = some (f (xs.getD k d)) := fun k hk => by
      simp [List.getD_eq_getElem?_getD, show k < xs.length by omega]
    have hs : sp = none := by
      have := World.cell?_spot (hc 0 _ (hx 0 h0))
      simpa [Addr.add] using this
    subst hs
    refine ⟨b, off, fun _ => ⟨rfl, hb, fun k hk => ?_⟩⟩
    have := hc k _ (hx k hk)
    unfold Addr.add at this
    split at this
    · rename_i h0; subst h0; simpa using this
    · simpa using this
theorem drop_at {α : Type} (d : α) (xs : List α) (k : Nat) (h : k < xs.length) : xs.drop k = xs.getD k d :: xs.drop (k + 1) := by
  rw [List.drop_eq_getElem_cons h]; simp [List.getD_eq_getElem?_getD, h]

set_option maxHeartbeats 400000 in
theorem beyond_any (A : Option Addr) (n c : Nat) (xs : List Nat) (w : World) (hr : Reads w w.heap.size 1 A n (xs.map i64)) (hn : n ≤ 1000000) (hx : ∀ x ∈ xs, x ≤ 9223372036854775807) :
    Calls Try.prog 6 #[.slice A n c] w fun e w' => e = .returned (.bool (beyondL 2147483647 xs)) ∧ w = w' := by
  obtain ⟨hl, b, off, HF⟩ := form_of i64 0 hr
  have HL := Lib.hid hl; clear hl
  go_enter Try.func6, Try.ntmps6
  go_wp2
  go_loop [3, 4] (fun l i => ∃ j k : Nat, j ≤ n ∧ i = .int .i64 j ∧ k ≤ 2147483647 ∧ l = .int .i64 k ∧ Hid (beyondL k (xs.drop j) = beyondL 2147483647 xs)) (fun _ i => n - (intOf i).toNat)
  case atStart => exact ⟨0, 2147483647, by omega, rfl, by omega, rfl, Lib.hid (by simp)⟩
  case round =>
    obtain ⟨j, k, hj, rfl, hk, rfl, HB⟩ := hrel
    by_cases hjn : j < n
    · obtain ⟨hA, hbB, hc⟩ := HF.out (by omega)
      subst hA
      have hcj := hc j hjn
      have hd := drop_at 0 xs j (by have := HL.out; omega)
      have hxm := hx _ (by rw [List.getD_eq_getElem?_getD]; simp [show j < xs.length by have := HL.out; omega] : xs.getD j 0 ∈ xs)
      obtain ⟨x, hxe⟩ : ∃ x, x = xs.getD j 0 := ⟨_, rfl⟩
      rw [← hxe] at hcj hd hxm
      unfold i64 at hcj
      have HD := Lib.hid hd
      clear hc hd hxe hx
      by_cases hgt : k < x
      · go_wp2
        go_ret
        exact ⟨ret_bool (by rw [← HB.out, HD.out, beyondL, if_pos hgt]), rfl⟩
      · go_wp2
        go_round
        case rel => exact ⟨j + 1, k - x, by omega, by go_num, by omega, by go_num, Lib.hid (by have := HB.out; rw [HD.out, beyondL, if_neg hgt] at this; exact this)⟩
        case measure => simp [intOf]; omega
    · have HJ : Hid (j = n) := Lib.hid (by omega)
      go_wp2
      go_ret
      exact ⟨ret_bool (by rw [← HB.out, HJ.out, List.drop_of_length_le (by have := HL.out; omega)]; rfl), rfl⟩

theorem madeCells_one (z : Value) (n : Nat) : madeCells #[z] n = (List.replicate n z).toArray := by
  unfold madeCells
  apply Array.ext
  · simp
  · intro i h1 h2
    simp [Nat.mod_one]
/-- what Roomy fills: the list, k marks, what is not filled yet -/
def fillM (X : List Value) (M : Value) (k : Nat) : List Value := X ++ (List.replicate k M ++ List.replicate (80 - k) (.int .u8 0))
theorem fillM_len (X : List Value) (M : Value) (k : Nat) (hk : k ≤ 80) : (fillM X M k).length = X.length + 80 := by simp [fillM]; omega
theorem fillM_set (X : List Value) (M : Value) (k : Nat) (hk : k < 80) : (fillM X M k).set (X.length + k) M = fillM X M (k + 1) := by
  unfold fillM
  rw [List.set_append_right _ _ (by omega), List.set_append_right _ _ (by simp)]
  congr 1
  rw [show 80 - k = (80 - (k + 1)) + 1 by omega, List.replicate_succ, List.replicate_succ']
  simp
theorem fillM_get (X : List Value) (M : Value) (k : Nat) (hk : k < 80) : (fillM X M k)[X.length + k]? = some (.int .u8 0) := by
  unfold fillM
  rw [List.getElem?_append_right (by omega), List.getElem?_append_right (by simp)]
  have : 80 - k ≠ 0 := by omega
  rw [List.getElem?_replicate, if_pos (by rw [List.length_replicate]; omega)]
theorem fillM_start (X : List Value) (M : Value) : splice (List.replicate (X.length + 80) (.int .u8 0)) 0 X = fillM X M 0 := by
  simp [splice, fillM]
theorem fillM_end (X : List Value) (M : Value) : fillM X M 80 = X ++ List.replicate 80 M := by simp [fillM]
theorem info5 : (Try.prog.info? 5).map (fun i => (i.zero, i.size, i.bytes)) = some (some (.int .u8 0), 1, 1) := by kernel_rfl
theorem size5 : (Try.prog.info? 5).map (·.size) = some 1 := by kernel_rfl

theorem fillM_end_get (X : List Value) (M : Value) (k : Nat) (hk : k < 80) : (fillM X M 80)[X.length + k]? = some M := by
  rw [fillM_end, List.getElem?_append_right (by omega), List.getElem?_replicate, if_pos (by omega)]
theorem fillM_take (X : List Value) (M : Value) : ((fillM X M 80).drop 0).take X.length = X := by
  rw [fillM_end]; simp
theorem room_isB {w : World} {g n m B : Nat} {bs : List Nat} (h : Row w g 5 (fillM (bs.map u8) (u8 m) 80)) (hl : bs.length = n) (hb : ∀ b ∈ bs, b < 256) (hB : g < B) (hn : n ≤ 9223372036854775807) : IsB w B (some ⟨g, 0, none⟩) n bs := by
  refine IsB.of_row h ?_ hl hb hB hn ?_
  · have := fillM_take (bs.map u8) (u8 m)
    rwa [List.length_map, hl] at this
  · rw [fillM_len _ _ _ (by omega)]; simp; omega

end Go.Proofs.Ytchajbegjajlkaa
