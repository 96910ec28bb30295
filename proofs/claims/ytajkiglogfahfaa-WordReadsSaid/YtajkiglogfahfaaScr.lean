/- A script as it lies in memory. -/
import Derived.Test.YtajkiglogfahfaaAlike
import Derived.Test.YtajkiglogfahfaaSums
set_option linter.unusedVariables false
set_option linter.unusedSimpArgs false
namespace Go.Proofs.Ytajkiglogfahfaa
open Go.RowKit

/-- a script: its steps, each with its bytes -/
structure Scr (w : World) (B : Nat) (A : Option Addr) (n : Nat) (ops : List (OpA × List Nat)) : Prop where
  len : ops.length = n
  cells : 0 < n → ∃ b off, A = some ⟨b, off, none⟩ ∧ b < B ∧ ∀ (k : Nat) (x : OpA × List Nat), ops[k]? = some x → ∀ (j : Nat) (v : Value), x.1.cells[j]? = some v → w.cell? ⟨b, off + k * 6 + j, none⟩ = some v
  ok : ∀ x ∈ ops, IsB w B x.1.pa x.1.pn x.2 ∧ x.1.n < 18446744073709551616 ∧ (-9223372036854775808 ≤ x.1.num ∧ x.1.num ≤ 9223372036854775807) ∧ (-9223372036854775808 ≤ x.1.at_ ∧ x.1.at_ ≤ 9223372036854775807) ∧ (-9223372036854775808 ≤ x.1.kind ∧ x.1.kind ≤ 9223372036854775807) ∧ x.1.s.size ≤ 9223372036854775807
  max : n ≤ 9223372036854775807
theorem Scr.below {w w' : World} {B : Nat} {A : Option Addr} {n : Nat} {ops : List (OpA × List Nat)} (h : Scr w B A n ops) (hb : Below B w w') : Scr w' B A n ops := by
  refine ⟨h.len, fun h0 => ?_, fun x hx => ⟨(h.ok x hx).1.below hb, (h.ok x hx).2⟩, h.max⟩
  obtain ⟨b, off, hA, hlt, hc⟩ := h.cells h0
  exact ⟨b, off, hA, hlt, fun k x hk j v hv => (hb.cell (p := ⟨b, off + k * 6 + j, none⟩) hlt).trans (hc k x hk j v hv)⟩
/-- one step, read -/
theorem Scr.step {w : World} {B : Nat} {A : Option Addr} {n : Nat} {ops : List (OpA × List Nat)} (h : Scr w B A n ops) (hB : B ≤ w.heap.size) {k : Nat} (hk : k < n) : ∃ b off o ps, A = some ⟨b, off, none⟩ ∧ b < w.heap.size ∧ ops[k]? = some (o, ps) ∧ Hid (o.Ok w ps) ∧
    w.cell? ⟨b, off + k * 6, none⟩ = some (.int .i64 o.kind) ∧ w.cell? ⟨b, off + k * 6 + 1, none⟩ = some (.int .i64 o.at_) ∧ w.cell? ⟨b, off + k * 6 + 2, none⟩ = some (.int .u64 (o.n : Nat)) ∧ w.cell? ⟨b, off + k * 6 + 3, none⟩ = some (.int .i64 o.num) ∧
    w.cell? ⟨b, off + k * 6 + 4, none⟩ = some (.slice o.pa o.pn o.pc) ∧ w.cell? ⟨b, off + k * 6 + 5, none⟩ = some (.string o.s) := by
  obtain ⟨b, off, hA, hlt, hc⟩ := h.cells (by omega)
  have hkl : k < ops.length := by have := h.len; omega
  have hx := List.getElem?_eq_getElem hkl
  obtain ⟨x, hxe⟩ : ∃ x, x = ops[k] := ⟨_, rfl⟩
  rw [← hxe] at hx
  obtain ⟨o, ps⟩ := x
  have h1 := hc k _ hx
  have h2 := h.ok _ (List.mem_of_getElem? hx)
  exact ⟨b, off, o, ps, hA, by omega, hx, ⟨h2.1.more hB, h2.2⟩, h1 0 _ rfl, h1 1 _ rfl, h1 2 _ rfl, h1 3 _ rfl, h1 4 _ rfl, h1 5 _ rfl⟩
def opsOf (ops : List (OpA × List Nat)) : List Wd.Op := ops.map fun x => x.1.is x.2
theorem opsOf_take (ops : List (OpA × List Nat)) (k : Nat) (o : OpA) (ps : List Nat) (h : ops[k]? = some (o, ps)) : (opsOf ops).take (k + 1) = (opsOf ops).take k ++ [o.is ps] := by
  unfold opsOf
  have hk := (List.getElem?_eq_some_iff.1 h).1
  have e := (List.getElem?_eq_some_iff.1 h).2
  rw [List.take_succ_eq_append_getElem (by simpa using hk), List.getElem_map, e]
namespace Wd
def runR (s : R) (ops : List Op) : R := ops.foldl (fun s o => (s.op o).1) s
theorem runR_snoc (s : R) (ops : List Op) (o : Op) : runR s (ops ++ [o]) = ((runR s ops).op o).1 := by simp [runR]
end Wd
/-- blocks of a reader and of a writer that have nothing in common -/
def Far (gr : Nat) (rr : Option Nat) (gw : Nat) (rw : Option Nat) : Prop := gr ≠ gw ∧ rr ≠ some gw ∧ rw ≠ some gr ∧ (∀ k, rr = some k → rw ≠ some k)
theorem Far.moved {w : World} {gr gw : Nat} {rr rw rw' : Option Nat} (h : Far gr rr gw rw) (hm : Moved w rw rw') (hg : gr < w.heap.size) (hr : ∀ k, rr = some k → k < w.heap.size) : Far gr rr gw rw' := by
  refine ⟨h.1, h.2.1, ?_, ?_⟩
  · rcases hm with rfl | ⟨k, rfl, hk⟩
    · exact h.2.2.1
    · intro h; injection h with h; omega
  · intro k hk
    rcases hm with rfl | ⟨k', rfl, hk'⟩
    · exact h.2.2.2 k hk
    · intro h; injection h with h; have := hr k hk; omega
theorem Wr.far {w w' : World} {gr gw : Nat} {rr rw : Option Nat} {s : Wd.W} (h : Wr w gw rw s) (hf : Far gr rr gw rw) (hc : Chg [gr] w w') : Wr w' gw rw s :=
  h.chg hc (by simp; exact fun e => hf.1 e.symm) (fun k hk => by simp; rintro rfl; exact hf.2.2.1 hk)
theorem Rd.far {w w' : World} {gr gw : Nat} {rr rw : Option Nat} {s : Wd.R} (h : Rd w gr rr s) (hf : Far gr rr gw rw) (hc : Chg (gw :: rw.toList) w w') : Rd w' gr rr s := by
  refine h.chg hc ?_ (fun k hk => ?_)
  · simp
    exact ⟨hf.1, fun e => hf.2.2.1 e⟩
  · simp
    exact ⟨fun e => hf.2.1 (by rw [hk, e]), fun e => hf.2.2.2 k hk e⟩
theorem beyond_list (w : World) (xs : List Nat) (hl : xs.length ≤ 1000000) (hx : ∀ x ∈ xs, x ≤ 9223372036854775807) (r : Bool) (hr : beyondL 2147483647 xs = r) :
    Calls Try.prog 12 #[.slice (some ⟨w.heap.size, 0, none⟩) xs.length xs.length] (w.alloc (.cells (xs.map i64).toArray 3)) fun e w' => e = .returned (.bool r) ∧ w.alloc (.cells (xs.map i64).toArray 3) = w' := by
  rw [← hr]
  refine beyond_any _ _ _ xs _ ?_ hl hx
  have := (Row.new w 3 (xs.map i64)).reads (B := (w.alloc (.cells (xs.map i64).toArray 3)).heap.size) 0 xs.length (by simp) (by simp)
  rw [List.drop_zero, List.take_of_length_le (by simp)] at this
  exact this
theorem beyond_one (w : World) (n : Nat) (hn : n ≤ 9223372036854775807) (r : Bool) (hr : beyondL 2147483647 [n] = r) :
    Calls Try.prog 12 #[.slice (some ⟨w.heap.size, 0, none⟩) 1 1] (w.alloc (.cells #[.int .i64 (n : Nat)] 3)) fun e w' => e = .returned (.bool r) ∧ w.alloc (.cells #[.int .i64 (n : Nat)] 3) = w' :=
  beyond_list w [n] (by simp) (by simpa using hn) r hr
/-- one step that stands in a block of its own -/
theorem scr_one {w : World} {g B : Nat} {o : OpA} {ps : List Nat} (h : Row w g 54 o.cells) (hB : g < B) (ho : IsB w B o.pa o.pn ps ∧ o.n < 18446744073709551616 ∧ (-9223372036854775808 ≤ o.num ∧ o.num ≤ 9223372036854775807) ∧ (-9223372036854775808 ≤ o.at_ ∧ o.at_ ≤ 9223372036854775807) ∧ (-9223372036854775808 ≤ o.kind ∧ o.kind ≤ 9223372036854775807) ∧ o.s.size ≤ 9223372036854775807) :
    Scr w B (some ⟨g, 0, none⟩) 1 [(o, ps)] := by
  refine ⟨rfl, fun _ => ⟨g, 0, rfl, hB, fun k x hk j v hv => ?_⟩, fun x hx => ?_, by omega⟩
  · have hk0 : k = 0 := by have := (List.getElem?_eq_some_iff.1 hk).1; simp at this; exact this
    subst hk0
    simp at hk
    subst hk
    rw [h.cell, ← hv]
    simp
  · simp at hx
    subst hx
    exact ho
end Go.Proofs.Ytajkiglogfahfaa
