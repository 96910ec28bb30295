/- The walk of slices.Clone over bytes: nil for nil, else the same bytes in new memory. -/
import Derived.Test.YtblfagmoilhdnaaPut
set_option linter.unusedVariables false
set_option linter.unusedSimpArgs false
namespace Go.Proofs.Ytblfagmoilhdnaa
open Go.RowKit

set_option maxRecDepth 100000 in
set_option maxHeartbeats 400000 in
theorem clone_any (A : Option Addr) (n c : Nat) (bs : List Nat) (w : World) (ha : IsB w w.heap.size A n bs) (hn : n ≤ 140737488351232) (hA : A = none → c = 0) :
    Calls Try.prog 64 #[.slice A n c] w fun e w' => (∃ A' c', e = .returned (.slice A' n c') ∧ Own w' w.heap.size A' n c' bs) ∧ Below w.heap.size w w' := by
  obtain ⟨i0, hi0, hz1, hz2, hz3⟩ := info_parts info5w
  have HA := Lib.hid ha
  have HI := Lib.hid hi0; have HZ1 := Lib.hid hz1; have HZ2 := Lib.hid hz2; have HZ3 := Lib.hid hz3
  clear hi0 hz1 hz2 hz3 ha
  cases A with
  | none =>
    have hc := hA rfl
    subst hc
    have hn0 : n = 0 := by
      rcases Nat.eq_zero_or_pos n with h | h
      · exact h
      · obtain ⟨ad, h, _⟩ := HA.out.1.2 h; cases h
    subst hn0
    clear hA
    have hq : ∀ wx : World, (binOp .eql 25 (.slice none 0 0) (.slice none 0 0)).run Try.prog wx = .ok (.bool true) wx := fun wx => Lib.run_eql_slice_nil wx 25 5 none 0 0 0 0 Try.underlying25
    go_enter Try.func64, Try.ntmps64
    go_wp2_with fail
    go_ret
    exact ⟨⟨none, 0, rfl, ⟨by have h := HA.out.len; obtain rfl : bs = [] := List.eq_nil_of_length_eq_zero h; exact World.ownsRow_nil _ _ _ _, HA.out.2⟩⟩, Below.refl _ _⟩
  | some ad =>
    clear hA
    have hq : ∀ wx : World, (binOp .eql 25 (.slice (some ad) n c) (.slice none 0 0)).run Try.prog wx = .ok (.bool false) wx := fun wx => Lib.run_eql_slice_nil wx 25 5 (some ad) n c 0 0 Try.underlying25
    go_enter Try.func64, Try.ntmps64
    go_wp2_with (at_builtin; refine wpList_append_more _ rfl (.tmp 5) (.tmp 6) _ rfl w.heap.size 5 i0 _ 1 1 Try.underlying25 HI.out HZ1.out HZ2.out HZ3.out rfl (by omega) _ _ _ _ rfl (World.ownsRow_made w #[] 0 (Nat.le_refl _) (by decide) rfl) w.heap.size (some ad) n c (bs.map u8) rfl (HA.out.1.alloc (Nat.le_refl _) _) (one_u8w bs) (by simp only [maxLen]; omega) (by omega) (by simp) ?_; intro A' c' w2 HN)
    go_ret
    have h := HN.out
    simp only [Nat.zero_add, List.nil_append] at h
    exact ⟨⟨A', c', rfl, h.1, HA.out.2⟩, ((Below.refl _ _).alloc (Nat.le_refl _) _).trans h.2.2⟩
end Go.Proofs.Ytblfagmoilhdnaa
