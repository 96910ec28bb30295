/- A list of numbers of 64 bits in memory. -/
import Derived.Test.YtchajbegjajlkaaEl
set_option linter.unusedVariables false
set_option linter.unusedSimpArgs false
namespace Go.Proofs.Ytchajbegjajlkaa
open Go.RowKit
/-- a list of numbers of 64 bits -/
def IsU (w : World) (B : Nat) (A : Option Addr) (n : Nat) (l : List Nat) : Prop := Reads w B 1 A n (l.map fun x => .int .u64 (x : Nat)) ∧ l.length = n ∧ n ≤ 9223372036854775807 ∧ ∀ x ∈ l, x ≤ 18446744073709551615
theorem IsU.below {w w' : World} {B n : Nat} {A : Option Addr} {l : List Nat} (h : IsU w B A n l) (hb : Below B w w') : IsU w' B A n l := ⟨h.1.below hb, h.2⟩
theorem IsU.more {w : World} {B B' n : Nat} {A : Option Addr} {l : List Nat} (h : IsU w B A n l) (hb : B ≤ B') : IsU w B' A n l := ⟨h.1.more hb, h.2⟩
theorem IsU.cells {w : World} {B n : Nat} {A : Option Addr} {l : List Nat} (h : IsU w B A n l) (h0 : 0 < n) : ∃ b o, A = some ⟨b, o, none⟩ ∧ b < B ∧ ∀ i, i < n → ∃ x, l[i]? = some x ∧ x ≤ 18446744073709551615 ∧ w.cell? ⟨b, o + i, none⟩ = some (.int .u64 (x : Nat)) := by
  obtain ⟨ad, e, hl, hc⟩ := h.1.2 h0
  obtain ⟨b, o, sp⟩ := ad
  have hg : ∀ i, i < n → ∃ x, l[i]? = some x ∧ x ≤ 18446744073709551615 := fun i hi => by
    have h1 := List.getElem?_eq_getElem (show i < l.length by rw [h.2.1]; exact hi)
    exact ⟨_, h1, h.2.2.2 _ (List.mem_of_getElem? h1)⟩
  have hs : sp = none := by
    obtain ⟨x, hx, _⟩ := hg 0 h0
    have h1 := hc 0 (.int .u64 (x : Nat)) (by rw [List.getElem?_map, hx]; rfl)
    have := World.cell?_spot h1
    simpa [Addr.add] using this
  subst hs
  refine ⟨b, o, e, hl, fun i hi => ?_⟩
  obtain ⟨x, hx, hx2⟩ := hg i hi
  refine ⟨x, hx, hx2, ?_⟩
  have h1 := hc i (.int .u64 (x : Nat)) (by rw [List.getElem?_map, hx]; rfl)
  rwa [Addr.add_mid] at h1
end Go.Proofs.Ytchajbegjajlkaa
