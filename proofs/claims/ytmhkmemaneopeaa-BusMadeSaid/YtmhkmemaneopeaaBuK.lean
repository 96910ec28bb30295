/- A machine in memory: what it holds, and what may turn without touching it. -/
import Derived.Test.YtmhkmemaneopeaaBuM
import Derived.Stop.BytesEq
set_option linter.unusedVariables false
set_option linter.unusedSimpArgs false
namespace Go.Proofs.Ytmhkmemaneopeaa
open Go.RowKit
open S64
namespace Bu
/-- nothing that was there has changed but, at most, what Z holds of -/
structure ChgP (Z : Nat → Prop) (w w' : World) : Prop where
  os : w'.os = w.os
  tape : w'.tape = w.tape
  output : w'.output = w.output
  size : w.heap.size ≤ w'.heap.size
  block : ∀ k, k < w.heap.size → ¬ Z k → w'.heap[k]? = w.heap[k]?
/-- what Z holds of, and all that is new -/
def grow (Z : Nat → Prop) (w : World) : Nat → Prop := fun k => Z k ∨ w.heap.size ≤ k
theorem ChgP.refl (Z : Nat → Prop) (w : World) : ChgP Z w w := ⟨rfl, rfl, rfl, Nat.le_refl _, fun _ _ _ => rfl⟩
theorem ChgP.of_below {Z : Nat → Prop} {w w' : World} (h : Below w.heap.size w w') : ChgP Z w w' := ⟨h.os, h.tape, h.output, h.size, fun k hk _ => h.block k hk⟩
theorem ChgP.trans {Z Y : Nat → Prop} {a b c : World} (h : ChgP Z a b) (k : ChgP Y b c) (hs : ∀ x, Y x → Z x ∨ a.heap.size ≤ x) : ChgP Z a c :=
  ⟨k.os.trans h.os, k.tape.trans h.tape, k.output.trans h.output, Nat.le_trans h.size k.size, fun i hi hn => (k.block i (Nat.lt_of_lt_of_le hi h.size) (fun hm => by rcases hs i hm with h1 | h1; exact hn h1; omega)).trans (h.block i hi hn)⟩
theorem ChgP.mono {Z Y : Nat → Prop} {a b : World} (h : ChgP Z a b) (hs : ∀ x, Z x → Y x ∨ a.heap.size ≤ x) : ChgP Y a b :=
  ⟨h.os, h.tape, h.output, h.size, fun i hi hn => h.block i hi (fun hm => by rcases hs i hm with h1 | h1; exact hn h1; omega)⟩
theorem ChgP.below {Z : Nat → Prop} {B : Nat} {w w' : World} (h : ChgP Z w w') (hB : B ≤ w.heap.size) (hS : ∀ x, Z x → B ≤ x) : Below B w w' :=
  ⟨h.os, h.tape, h.output, h.size, fun k hk => h.block k (by omega) (fun hm => by have := hS k hm; omega)⟩
theorem ChgP.row {Z : Nat → Prop} {w w' : World} {g : Nat} {t : TypeId} {cs : List Value} (h : ChgP Z w w') (hr : Row w g t cs) (hg : ¬ Z g) : Row w' g t cs := (h.block g hr.lt hg).trans hr
theorem ChgP.set_ {Z : Nat → Prop} {a w : World} (h : ChgP Z a w) {p : Addr} (hp : Z p.block ∨ a.heap.size ≤ p.block) (u : Value) : ChgP Z a (w.setCell p u) :=
  ⟨h.os, h.tape, h.output, by simpa [World.setCell] using h.size, fun i hi hn => (Below.heap_setCell w p u i (fun e => by subst e; rcases hp with h1 | h1; exact hn h1; omega)).trans (h.block i hi hn)⟩
theorem ChgP.alloc {Z : Nat → Prop} {a w : World} (h : ChgP Z a w) (o : Obj) : ChgP Z a (w.alloc o) :=
  ⟨h.os, h.tape, h.output, Nat.le_trans h.size (by simp), fun i hi hn => (Below.heap_alloc w o i (Nat.lt_of_lt_of_le hi h.size)).trans (h.block i hi hn)⟩
theorem ChgP.drew {Z : Nat → Prop} {a w : World} (h : ChgP Z a w) : ChgP Z a w.drew := ⟨h.os, h.tape, h.output, h.size, h.block⟩
theorem ChgP.drewN {Z : Nat → Prop} {a w : World} (h : ChgP Z a w) (n : Nat) : ChgP Z a (w.drewN n) := ⟨h.os, h.tape, h.output, h.size, h.block⟩
theorem ChgP.grown {Z : Nat → Prop} {a w w' : World} {row : Option Nat} (h : ChgP Z a w) (hg : w.grownBy w' row) (hr : ∀ k, row = some k → Z k ∨ a.heap.size ≤ k) : ChgP Z a w' :=
  ⟨hg.os.trans h.os, hg.tape.trans h.tape, hg.output.trans h.output, Nat.le_trans h.size hg.size, fun i hi hn => (hg.block i (Nat.lt_of_lt_of_le hi h.size) (fun e => by rcases hr i e.symm with h1 | h1; exact hn h1; omega)).trans (h.block i hi hn)⟩
/-- reading goes on where the block is as it was -/
theorem reads_same {w w' : World} {B size n : Nat} {A : Option Addr} {xs : List Value} (h : Reads w B size A n xs) (hb : ∀ ad, A = some ad → 0 < n → w'.heap[ad.block]? = w.heap[ad.block]?) : Reads w' B size A n xs :=
  ⟨h.1, fun hn => by
    obtain ⟨ad, e, hl, hc⟩ := h.2 hn
    refine ⟨ad, e, hl, fun j u hu => ?_⟩
    rw [World.cell?_of_block (w := w)]
    · exact hc j u hu
    · have : (ad.add j).block = ad.block := by unfold Addr.add; split <;> rfl
      rw [this]
      exact hb ad e hn⟩
theorem IsS.same {w w' : World} {B n : Nat} {A : Option Addr} {s : Sp.S} (h : IsS w B A n s) (hb : ∀ ad, A = some ad → 0 < n → w'.heap[ad.block]? = w.heap[ad.block]?) : IsS w' B A n s := ⟨reads_same h.1 hb, h.2⟩
theorem IsS.lt {w : World} {B n : Nat} {A : Option Addr} {s : Sp.S} (h : IsS w B A n s) (h0 : 0 < n) : ∀ ad, A = some ad → ad.block < B := by
  intro ad e
  obtain ⟨ad', e', hl, _⟩ := h.1.2 h0
  rw [e] at e'; injection e' with e'; rw [e']; exact hl
/-- a list of ranges (or spans) that lies where R holds -/
def Lst (w : World) (R : Nat → Prop) (A : Option Addr) (n c : Nat) (s : Sp.S) : Prop := IsS w w.heap.size A n s ∧ n ≤ c ∧ c ≤ 9223372036854775807 ∧ ∀ ad, A = some ad → 0 < n → R ad.block
theorem Lst.chg {w w' : World} {R Y : Nat → Prop} {A : Option Addr} {n c : Nat} {s : Sp.S} (h : Lst w R A n c s) (hc : ChgP Y w w') (hY : ∀ k, R k → ¬ Y k) : Lst w' R A n c s :=
  ⟨((IsS.same h.1 (fun ad e h0 => hc.block _ (IsS.lt h.1 h0 ad e) (hY _ (h.2.2.2 ad e h0)))).more hc.size), h.2⟩
theorem Lst.mono {w : World} {R R' : Nat → Prop} {A : Option Addr} {n c : Nat} {s : Sp.S} (h : Lst w R A n c s) (hR : ∀ k, R k → R' k) : Lst w R' A n c s := ⟨h.1, h.2.1, h.2.2.1, fun ad e h0 => hR _ (h.2.2.2 ad e h0)⟩
/-- a machine, plain -/
structure PM where
  rams : List (Nat × Nat)
  devs : List (Nat × Nat)
  mem : Nat → Nat
  loads : Nat
  stores : Nat
  strays : Nat
/-- is an address on the bus? -/
def on (l : List (Nat × Nat)) (p : Nat) : Bool := l.any fun r => decide (r.1 ≤ p ∧ p < r.1 + r.2)
/-- a page's cells -/
def leafRow (mem : Nat → Nat) (k : Nat) : List Value := (List.range 4096).map fun i => u8 (mem (4096 * k + i))
theorem leafRow_len (mem : Nat → Nat) (k : Nat) : (leafRow mem k).length = 4096 := by rw [leafRow, List.length_map, List.length_range]
theorem leafRow_get (mem : Nat → Nat) (k i : Nat) (hi : i < 4096) : (leafRow mem k)[i]? = some (u8 (mem (4096 * k + i))) := by
  rw [leafRow, List.getElem?_map, List.getElem?_range hi]; rfl
/-- does a page hold a byte that is not 0? -/
def nz (mem : Nat → Nat) (k : Nat) : Prop := ∃ i, i < 4096 ∧ mem (4096 * k + i) ≠ 0
/-- A MACHINE LIES AT g: what may turn with it, Z holds of; where its lists lie, R holds of. -/
structure MachAt (Z R : Nat → Prop) (w : World) (g : Nat) (M : PM) (A1 A2 Ao : Option Addr) (c1 c2 no co b : Nat) (pm : Nat → Option Nat) (sp : Sp.S) : Prop where
  row : Row w g 70 [.int .i64 (M.loads : Nat), .int .i64 (M.stores : Nat), .int .i64 (M.strays : Nat), .slice A1 M.rams.length c1, .slice A2 M.devs.length c2, .slice Ao no co, .map (some b)]
  zg : Z g
  zb : Z b
  l1 : Lst w R A1 M.rams.length c1 M.rams
  l2 : Lst w R A2 M.devs.length c2 M.devs
  lo : Lst w R Ao no co sp
  nrm : Sp.Nrm TOP sp ∧ no ≤ 2199023255552
  has : ∀ p, p ≤ TOP → Sp.has sp p = !on (M.rams ++ M.devs) p
  lim : ∀ p, on (M.rams ++ M.devs) p = true → p < 4294967296
  map : MapAt w b pm
  leaf : ∀ k p, pm k = some p → Row w p 106 (leafRow M.mem k) ∧ Z p ∧ nz M.mem k
  inj : ∀ k k' p, pm k = some p → pm k' = some p → k = k'
  zero : ∀ k, pm k = none → ∀ i, i < 4096 → M.mem (4096 * k + i) = 0
  byte : ∀ p, M.mem p < 256
  dis : ∀ k, Z k → ¬ R k
def Mach (Z R : Nat → Prop) (w : World) (g : Nat) (M : PM) : Prop := ∃ A1 A2 Ao c1 c2 no co b pm sp, MachAt Z R w g M A1 A2 Ao c1 c2 no co b pm sp
/-- what turns elsewhere does not touch it -/
theorem MachAt.chg {Z R Y : Nat → Prop} {w w' : World} {g : Nat} {M : PM} {A1 A2 Ao : Option Addr} {c1 c2 no co b : Nat} {pm : Nat → Option Nat} {sp : Sp.S} (h : MachAt Z R w g M A1 A2 Ao c1 c2 no co b pm sp) (hc : ChgP Y w w') (hY : ∀ k, Z k ∨ R k → ¬ Y k) : MachAt Z R w' g M A1 A2 Ao c1 c2 no co b pm sp :=
  ⟨hc.row h.row (hY _ (.inl h.zg)), h.zg, h.zb, h.l1.chg hc (fun k hk => hY k (.inr hk)), h.l2.chg hc (fun k hk => hY k (.inr hk)), h.lo.chg hc (fun k hk => hY k (.inr hk)), h.nrm, h.has, h.lim,
    h.map.same (hc.block b h.map.lt (hY _ (.inl h.zb))), fun k p hp => by
      obtain ⟨h1, h2, h3⟩ := h.leaf k p hp
      exact ⟨hc.row h1 (hY _ (.inl h2)), h2, h3⟩, h.inj, h.zero, h.byte, h.dis⟩
theorem Mach.chg {Z R Y : Nat → Prop} {w w' : World} {g : Nat} {M : PM} (h : Mach Z R w g M) (hc : ChgP Y w w') (hY : ∀ k, Z k ∨ R k → ¬ Y k) : Mach Z R w' g M := by
  obtain ⟨A1, A2, Ao, c1, c2, no, co, b, pm, sp, h⟩ := h
  exact ⟨A1, A2, Ao, c1, c2, no, co, b, pm, sp, h.chg hc hY⟩
/-- new blocks alone: it stands -/
theorem MachAt.below {Z R : Nat → Prop} {w w' : World} {g : Nat} {M : PM} {A1 A2 Ao : Option Addr} {c1 c2 no co b : Nat} {pm : Nat → Option Nat} {sp : Sp.S} (h : MachAt Z R w g M A1 A2 Ao c1 c2 no co b pm sp) (hc : Below w.heap.size w w') : MachAt Z R w' g M A1 A2 Ao c1 c2 no co b pm sp :=
  h.chg (Y := fun _ => False) (ChgP.of_below hc) (fun _ _ h => h)
/-- more may turn with it, more may bear lists -/
theorem MachAt.mono {Z R Z' R' : Nat → Prop} {w : World} {g : Nat} {M : PM} {A1 A2 Ao : Option Addr} {c1 c2 no co b : Nat} {pm : Nat → Option Nat} {sp : Sp.S} (h : MachAt Z R w g M A1 A2 Ao c1 c2 no co b pm sp) (hZ : ∀ k, Z k → Z' k) (hR : ∀ k, R k → R' k) (hd : ∀ k, Z' k → ¬ R' k) : MachAt Z' R' w g M A1 A2 Ao c1 c2 no co b pm sp :=
  ⟨h.row, hZ _ h.zg, hZ _ h.zb, h.l1.mono hR, h.l2.mono hR, h.lo.mono hR, h.nrm, h.has, h.lim, h.map, fun k p hp => by
    obtain ⟨h1, h2, h3⟩ := h.leaf k p hp
    exact ⟨h1, hZ _ h2, h3⟩, h.inj, h.zero, h.byte, hd⟩
theorem Lst.isSet {w : World} {R : Nat → Prop} {A : Option Addr} {n c : Nat} {s : Sp.S} (h : Lst w R A n c s) (hn : Sp.Nrm TOP s ∧ n ≤ 2199023255552) : IsSet w A n c s := ⟨h.1, h.2.1, h.2.2.1, hn.1, hn.2⟩
end Bu
end Go.Proofs.Ytmhkmemaneopeaa
