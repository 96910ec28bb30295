/- The walk of Size. -/
import Derived.Test.YtchajbegjajlkaaSpR64
import Derived.Sort.BigQuietIn
import Derived.Shelf.RegionOpen
set_option linter.unusedVariables false
set_option linter.unusedSimpArgs false
namespace Go.Proofs.Ytchajbegjajlkaa
open Go.RowKit
open Bu
attribute [local go_sem] Oper.semAt_some
namespace S64
/-- how many points there are -/
def szN (s : Sp.S) : Nat := (s.map fun x => x.2 - x.1 + 1).sum
/-- .. as 64 bits hold it -/
def szW (s : Sp.S) : Nat := szN s % 18446744073709551616
theorem szN_snoc (l : Sp.S) (x : Nat × Nat) : szN (l ++ [x]) = szN l + (x.2 - x.1 + 1) := by simp [szN]
theorem szW_snoc (l : Sp.S) (x : Nat × Nat) : szW (l ++ [x]) = (szW l + (x.2 - x.1 + 1) % 18446744073709551616) % 18446744073709551616 := by
  unfold szW
  rw [szN_snoc, ← Nat.add_mod]
theorem szW_lt (l : Sp.S) : szW l < 18446744073709551616 := Nat.mod_lt _ (by decide)
/-- what a loop over the spans is handed -/
def spA (lo p v : Nat) (a : Act) (x : Nat × Nat) (a' : Act) (W : World) : Prop := ∃ Bx, lo ≤ Bx ∧ Row W Bx 35 [.int .u64 (x.1 : Nat), .int .u64 (x.2 : Nat)] ∧ a' = { tmps := (a.tmps.setIfInBounds p (.agg #[.int .u64 (x.1 : Nat), .int .u64 (x.2 : Nat)])).setIfInBounds v (.pointer (some ⟨Bx, 0, none⟩)), defers := [] }
theorem spA_ab {lo p v : Nat} {a : Act} {x : Nat × Nat} {a' : Act} {T : Nat → Prop} (h3 : ∀ k, lo ≤ k → ¬ T k) : AbC T (fun (_ : Unit) W => spA lo p v a x a' W) := by
  rintro _ W W' ⟨Bx, h1, h2, h⟩ hc
  exact ⟨Bx, h1, hc.row h2 (h3 _ h1), h⟩
def sizeI (A : Option Addr) (n c : Nat) (w : World) (pre : Sp.S) (W : World) : Prop := Row W w.heap.size 26 [.slice A n c] ∧ Row W (w.heap.size + 1) 28 [.int .u64 (szW pre : Nat)] ∧ Below w.heap.size w W
theorem sizeI_ab {A : Option Addr} {n c : Nat} {w : World} {T : Nat → Prop} (h : ∀ k, k ≤ w.heap.size + 1 → ¬ T k) : AbC T (sizeI A n c w) := by
  rintro pre W W' ⟨h1, h2, h3⟩ hc
  exact ⟨hc.row h1 (h _ (by omega)), hc.row h2 (h _ (by omega)), h3.trans (hc.below h3.size (fun k hk => by
    by_cases hh : k ≤ w.heap.size + 1
    · exact absurd hk (h k hh)
    · omega))⟩
end S64
end Go.Proofs.Ytchajbegjajlkaa
