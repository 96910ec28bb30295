/- A script of steps over sets, opened. -/
import Derived.Test.YtchajbegjajlkaaUOpen
set_option linter.unusedVariables false
set_option linter.unusedSimpArgs false
namespace Go.Proofs.Ytchajbegjajlkaa
open Go.Joins Go.ChangeShapes Go.WideShapes Go.RowKit Go.Deep
structure SOp where
  kd : Int
  a : Int
  b : Int
  x : Nat
  y : Nat
  la : Option Addr
  ln : Nat
  lc : Nat
  ls : List Nat
def SOp.cells (o : SOp) : List Value := [.int .i64 o.kd, .int .i64 o.a, .int .i64 o.b, .int .u64 (o.x : Nat), .int .u64 (o.y : Nat), .slice o.la o.ln o.lc]
def SOp.ok (w : World) (o : SOp) : Prop := (-9223372036854775808 ≤ o.kd ∧ o.kd ≤ 9223372036854775807) ∧ (-9223372036854775808 ≤ o.a ∧ o.a ≤ 9223372036854775807) ∧ (-9223372036854775808 ≤ o.b ∧ o.b ≤ 9223372036854775807) ∧ o.x ≤ 18446744073709551615 ∧ o.y ≤ 18446744073709551615 ∧ IsU w w.heap.size o.la o.ln o.ls ∧ o.ln ≤ o.lc
/-- a script lies at A -/
def IsSO (w : World) (A : Option Addr) (n : Nat) (os : List SOp) : Prop := os.length = n ∧ n ≤ 9223372036854775807 ∧ (∀ o ∈ os, o.ok w) ∧ (0 < n → ∃ b off, A = some ⟨b, off, none⟩ ∧ b < w.heap.size ∧ ∀ (k : Nat) (o : SOp), os[k]? = some o → ∀ (j : Nat) (u : Value), o.cells[j]? = some u → w.cell? ⟨b, off + k * 6 + j, none⟩ = some u)
section
variable {H : Type} {enc : TypeId × Value → H} {w : World} {base : Nat} {spare : Nat → Bool} {held : Bool}
theorem open_u64v {fuel : Nat} {v : Value} {y : DataW H × List MemPlace} (h : DataW.trod enc Try.prog w base spare held fuel 22 [v] = some y) : ∃ A l c us, v = .slice A l c ∧ IsU w w.heap.size A l us ∧ l ≤ c := by
  rcases DataW.trod_slice Try.underlying22 h with ⟨hcs, _⟩ | ⟨a, len, cap, elems, rest, n, _, hcs, _, _⟩
  · simp at hcs
    subst hcs
    exact ⟨none, 0, 0, [], rfl, ⟨Reads.none_, rfl, by omega, by simp⟩, Nat.le_refl _⟩
  · simp at hcs
    subst hcs
    obtain ⟨us, h1, h2⟩ := open_u64s h
    exact ⟨some a, len, cap, us, rfl, h1, h2⟩
set_option maxRecDepth 100000 in
theorem open_sops {fuel : Nat} {A : Option Addr} {len cap : Nat} {y : DataW H × List MemPlace} (h : DataW.trod enc Try.prog w base spare held fuel 59 [.slice A len cap] = some y) : ∃ os, IsSO w A len os := by
  have hC : Try.prog.cellsOf 64 = 6 := by kernel_rfl
  rcases open_slice_fields Try.underlying59 Try.underlying64 (by kernel_rfl) hC h with ⟨hcs, _⟩ | ⟨a, len', cap', m, D, Pl, hcs, hb, hl, hm, hmm, hx, hi⟩
  · simp at hcs
    obtain ⟨rfl, rfl, rfl⟩ := hcs
    exact ⟨[], rfl, by decide, by simp, fun h => absurd h (by decide)⟩
  · simp at hcs
    obtain ⟨rfl, rfl, rfl⟩ := hcs
    have hle : len ≤ m := by rw [hmm]; split <;> omega
    obtain ⟨rows, hol, hrows⟩ := list_of (P := fun i (r : SOp) => (∀ (j : Nat) (v : Value), r.cells[j]? = some v → w.cell? (a.add (i * 6 + j)) = some v) ∧ r.ok w) len (fun i hil => by
      obtain ⟨ys, n, _, _, _, hf⟩ := hi i (by omega)
      obtain ⟨v0, y0, c0, _, t0⟩ := hf 0 _ rfl
      obtain ⟨v1, y1, c1, _, t1⟩ := hf 1 _ rfl
      obtain ⟨v2, y2, c2, _, t2⟩ := hf 2 _ rfl
      obtain ⟨v3, y3, c3, _, t3⟩ := hf 3 _ rfl
      obtain ⟨v4, y4, c4, _, t4⟩ := hf 4 _ rfl
      obtain ⟨v5, y5, c5, _, t5⟩ := hf 5 _ rfl
      obtain ⟨z0, e0, _, w0⟩ := DataW.trod_int (k := .i64) Try.underlying3 t0
      obtain ⟨z1, e1, _, w1⟩ := DataW.trod_int (k := .i64) Try.underlying3 t1
      obtain ⟨z2, e2, _, w2⟩ := DataW.trod_int (k := .i64) Try.underlying3 t2
      obtain ⟨z3, e3, _, w3⟩ := DataW.trod_int (k := .u64) Try.underlying28 t3
      obtain ⟨z4, e4, _, w4⟩ := DataW.trod_int (k := .u64) Try.underlying28 t4
      obtain ⟨A5, l5, k5, us, rfl, hu, hlc⟩ := open_u64v t5
      simp at e0 e1 e2 e3 e4
      subst e0 e1 e2 e3 e4
      have b0 := bounds_i64 w0
      have b1 := bounds_i64 w1
      have b2 := bounds_i64 w2
      have b3 := bounds_u64 w3
      have b4 := bounds_u64 w4
      obtain ⟨k3, rfl⟩ : ∃ k : Nat, z3 = k := ⟨z3.toNat, by omega⟩
      obtain ⟨k4, rfl⟩ : ∃ k : Nat, z4 = k := ⟨z4.toNat, by omega⟩
      refine ⟨⟨z0, z1, z2, k3, k4, A5, l5, k5, us⟩, ?_, b0, b1, b2, by show k3 ≤ _; omega, by show k4 ≤ _; omega, hu, hlc⟩
      intro j v hv
      match j, hv with
      | 0, hv => simp [SOp.cells] at hv; subst hv; exact c0
      | 1, hv => simp [SOp.cells] at hv; subst hv; exact c1
      | 2, hv => simp [SOp.cells] at hv; subst hv; exact c2
      | 3, hv => simp [SOp.cells] at hv; subst hv; exact c3
      | 4, hv => simp [SOp.cells] at hv; subst hv; exact c4
      | 5, hv => simp [SOp.cells] at hv; subst hv; exact c5
      | j + 6, hv => simp [SOp.cells] at hv)
    refine ⟨rows, hol, by unfold maxLen at hm; omega, fun r hr => ?_, fun h0 => ?_⟩
    · obtain ⟨i, hi1, rfl⟩ := List.mem_iff_getElem.1 hr
      exact (hrows i _ (List.getElem?_eq_getElem hi1)).2
    · have hx0 := List.getElem?_eq_getElem (show 0 < rows.length by omega)
      have hc0 := (hrows 0 _ hx0).1 0 _ rfl
      obtain ⟨b, off, sp⟩ := a
      have hs : sp = none := by
        have := World.cell?_spot hc0
        simpa [Addr.add] using this
      subst hs
      refine ⟨b, off, rfl, by have := World.block_lt_of_cell? w _ hc0; rwa [block_of_add] at this, fun k o ho j u hu => ?_⟩
      have hc := (hrows k o ho).1 j u hu
      unfold Addr.add at hc
      split at hc
      · rename_i h1
        rw [show off + k * 6 + j = off by omega]
        exact hc
      · rw [Nat.add_assoc]; exact hc
end
end Go.Proofs.Ytchajbegjajlkaa
