/- Words for a slice of bytes that reads as a list of numbers, and for a block that is known whole. -/
import Derived.Test.YtchajbegjajlkaaMem
import Derived.Test.YtchajbegjajlkaaRows
import Derived.WalkKit
import Derived.WalkSpells
import Derived.WalkLawsBesides
import Derived.Lib.Hide
import Derived.OpenShut
set_option linter.unusedVariables false
set_option linter.unusedSimpArgs false
namespace Go.Proofs.Ytchajbegjajlkaa
open Go.RowKit

def u8 (b : Nat) : Value := .int .u8 (b : Int)
/-- the slice reads as these bytes -/
def IsB (w : World) (B : Nat) (A : Option Addr) (n : Nat) (bs : List Nat) : Prop := Reads w B 1 A n (bs.map u8) ∧ (∀ b ∈ bs, b < 256) ∧ n ≤ 9223372036854775807
theorem IsB.len {w : World} {B n : Nat} {A : Option Addr} {bs : List Nat} (h : IsB w B A n bs) : bs.length = n := by have := h.1.1; simpa using this
theorem IsB.below {w w' : World} {B n : Nat} {A : Option Addr} {bs : List Nat} (h : IsB w B A n bs) (hb : Below B w w') : IsB w' B A n bs := ⟨h.1.below hb, h.2⟩
theorem IsB.more {w : World} {B B' n : Nat} {A : Option Addr} {bs : List Nat} (h : IsB w B A n bs) (hb : B ≤ B') : IsB w B' A n bs := ⟨h.1.more hb, h.2⟩
theorem IsB.alloc {w : World} {B n : Nat} {A : Option Addr} {bs : List Nat} (h : IsB w B A n bs) (hB : B ≤ w.heap.size) (o : Obj) : IsB (w.alloc o) B A n bs := ⟨h.1.alloc hB o, h.2⟩
theorem take_snoc (bs : List Nat) (k : Nat) (h : k < bs.length) : bs.take (k + 1) = bs.take k ++ [bs.getD k 0] := by
  rw [List.take_succ_eq_append_getElem h]; simp [List.getD_eq_getElem?_getD, h]
theorem getD_mem (bs : List Nat) (k : Nat) (h : k < bs.length) : bs.getD k 0 ∈ bs := by
  simp [List.getD_eq_getElem?_getD, h]
/-- where its bytes lie -/
theorem IsB.form {w : World} {B n : Nat} {A : Option Addr} {bs : List Nat} (h : IsB w B A n bs) :
    ∃ b off, Hid (0 < n → A = some ⟨b, off, none⟩ ∧ b < B ∧ ∀ k, k < n → w.cell? ⟨b, off + k, none⟩ = some (.int .u8 ((bs.getD k 0 : Nat) : Int))) := by
  rcases Nat.eq_zero_or_pos n with h0 | h0
  · exact ⟨0, 0, fun h => absurd h (by omega)⟩
  · obtain ⟨⟨b, off, sp⟩, rfl, hb, hc⟩ := h.1.2 h0
    have hl := h.len
    have hx : ∀ k, k < n → (bs.map u8)[k]? = some (.int .u8 ((bs.getD k 0 : Nat) : Int)) := fun k hk => by
      simp [List.getD_eq_getElem?_getD, show k < bs.length by omega, u8]
    have hs : sp = none := by
      have := World.cell?_spot (hc 0 _ (hx 0 h0))
      simpa [Addr.add] using this
    subst hs
    refine ⟨b, off, fun _ => ⟨rfl, hb, fun k hk => ?_⟩⟩
    have := hc k _ (hx k hk)
    unfold Addr.add at this
    split at this
    · rename_i h0; subst h0; simpa using this
    · simpa using this

/-- what the row's step tells of a slice of integers that came in (the shell's own word) -/
def IsRow (k : IntKind) (w : World) (a : Option Addr) (len cap : Nat) (zs : List Int) : Prop :=
  (a = none ∧ len = 0 ∧ cap = 0 ∧ zs = []) ∨
  ∃ x, a = some x ∧ len ≤ cap ∧ cap ≤ maxLen ∧ zs.length = cap ∧ (∀ i, i < zs.length → w.cell? (x.add i) = some (.int k (zs.getD i 0))) ∧ ∀ n ∈ zs, (Lit.int k n).wf = true
theorem nat_of_u8 {a : Int} (h : (Lit.int .u8 a).wf = true) : ∃ s : Nat, a = s ∧ s < 256 := by
  have := bounds_u8 h
  exact ⟨a.toNat, by omega, by omega⟩
theorem nat_of_u32 {a : Int} (h : (Lit.int .u32 a).wf = true) : ∃ s : Nat, a = s ∧ s < 4294967296 := by
  have := bounds_u32 h
  exact ⟨a.toNat, by omega, by omega⟩
theorem nat_of_u64 {a : Int} (h : (Lit.int .u64 a).wf = true) : ∃ s : Nat, a = s ∧ s < 18446744073709551616 := by
  have := bounds_u64 h
  exact ⟨a.toNat, by omega, by omega⟩
theorem IsRow.isB {w : World} {a : Option Addr} {len cap : Nat} {zs : List Int} (h : IsRow .u8 w a len cap zs) : ∃ bs, IsB w w.heap.size a len bs := by
  rcases h with ⟨rfl, rfl, rfl, rfl⟩ | ⟨x, rfl, hl, hm, hz, hc, hw⟩
  · exact ⟨[], ⟨by simp, fun h => absurd h (by omega)⟩, by simp, by omega⟩
  · refine ⟨(zs.take len).map Int.toNat, ⟨by simp; omega, fun h0 => ⟨x, rfl, ?_, fun j u hu => ?_⟩⟩, ?_, by unfold maxLen at hm; omega⟩
    · have := World.block_lt_of_cell? w _ (hc 0 (by omega))
      rwa [block_of_add] at this
    · have hj : j < len := by have := (List.getElem?_eq_some_iff.1 hu).1; simp at this; omega
      rw [hc j (by omega)]
      have hz0 := hw (zs.getD j 0) (by rw [List.getD_eq_getElem?_getD]; simp [show j < zs.length by omega])
      have hb := bounds_u8 hz0
      simp [hj, show j < zs.length by omega] at hu
      rw [← hu]
      unfold u8
      have e : zs.getD j 0 = zs[j]'(by omega) := by simp [List.getD_eq_getElem?_getD, show j < zs.length by omega]
      rw [e] at hb ⊢
      congr 2
      omega
    · intro b hb
      obtain ⟨z, hz1, rfl⟩ := List.mem_map.1 hb
      have := bounds_u8 (hw z (List.mem_of_mem_take hz1))
      omega
theorem ret_bool {a b : Bool} (h : a = b) : Ending.returned (.bool a) = .returned (.bool b) := by rw [h]
theorem below_drewN {B : Nat} {a w : World} (h : Below B a w) (n : Nat) : Below B a (w.drewN n) := ⟨h.os, h.tape, h.output, h.size, h.block⟩
/-- block g is just these cells -/
def Row (w : World) (g : Nat) (t : TypeId) (cs : List Value) : Prop := w.heap[g]? = some (.cells cs.toArray t (0, 0))
section
variable {w w' : World} {g : Nat} {t : TypeId} {cs : List Value}
theorem Row.out (h : Row w g t cs) : w.heap[g]? = some (.cells cs.toArray t (0, 0)) := h
theorem Row.lt (h : Row w g t cs) : g < w.heap.size := Blk.lt (cs := cs.toArray) h
theorem Row.cell (h : Row w g t cs) (i : Nat) : w.cell? ⟨g, i, none⟩ = cs[i]? := by rw [Blk.cell (cs := cs.toArray) h]; simp
theorem Row.frozen (h : Row w g t cs) (i : Nat) : w.frozen? ⟨g, i, none⟩ = false := Blk.frozen (cs := cs.toArray) h i
theorem Row.new (w : World) (t : TypeId) (cs : List Value) : Row (w.alloc (.cells cs.toArray t)) w.heap.size t cs := heap_alloc_new w _
theorem Row.drew (h : Row w g t cs) : Row w.drew g t cs := h
theorem Row.drewN (h : Row w g t cs) (n : Nat) : Row (w.drewN n) g t cs := h
theorem Row.alloc (h : Row w g t cs) (o : Obj) : Row (w.alloc o) g t cs := Blk.alloc (cs := cs.toArray) h o
theorem Row.set_ (h : Row w g t cs) (i : Nat) (u : Value) : Row (w.setCell ⟨g, i, none⟩ u) g t (cs.set i u) := by
  have := Blk.set_ (cs := cs.toArray) h i u
  unfold Blk at this; unfold Row
  rw [this]; simp
theorem Row.far (h : Row w g t cs) {p : Addr} (hp : g ≠ p.block) (u : Value) : Row (w.setCell p u) g t cs := Blk.far (cs := cs.toArray) h hp u
theorem Row.below {B : Nat} (h : Row w g t cs) (hb : Below B w w') (hg : g < B) : Row w' g t cs := Blk.below (cs := cs.toArray) h hb hg
theorem Row.reads {B : Nat} (h : Row w g t cs) (off n : Nat) (hn : off + n ≤ cs.length) (hB : g < B) : Reads w B 1 (some ⟨g, off, none⟩) n ((cs.drop off).take n) := by
  refine ⟨by simp; omega, fun _ => ⟨_, rfl, hB, fun j u hu => ?_⟩⟩
  have hj : j < n := by have := (List.getElem?_eq_some_iff.1 hu).1; simp at this; omega
  have : w.cell? ⟨g, off + j, none⟩ = some u := by rw [h.cell, ← hu]; simp [hj]
  unfold Addr.add
  split
  · rename_i h0; subst h0; simpa using this
  · simpa using this
end
theorem IsB.of_row {w : World} {B g off n : Nat} {t : TypeId} {cs : List Value} {bs : List Nat} (h : Row w g t cs) (hcs : (cs.drop off).take n = bs.map u8) (hn : bs.length = n) (hb : ∀ b ∈ bs, b < 256) (hB : g < B) (hmax : n ≤ 9223372036854775807)
    (hl : off + n ≤ cs.length) : IsB w B (some ⟨g, off, none⟩) n bs := by
  have := h.reads (B := B) off n hl hB
  rw [hcs] at this
  exact ⟨this, hb, hmax⟩
end Go.Proofs.Ytchajbegjajlkaa
