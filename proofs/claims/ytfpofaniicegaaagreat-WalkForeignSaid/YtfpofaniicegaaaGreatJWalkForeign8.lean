/- Texts of this claim, one behind the other: BuK, BuE, BuB. -/
import Derived.Test.YtfpofaniicegaaaGreatJWalkForeign7
import Derived.Stop.BytesEq
import Derived.StillTailTactics
import Derived.Test.YtfpofaniicegaaaGreatJWalkForeign1
/- A machine in memory: what it holds, and what may turn without touching it. -/
set_option linter.unusedVariables false
set_option linter.unusedSimpArgs false
namespace Go.Proofs.YtfpofaniicegaaaGreat
open Go.RowKit
open S64
namespace Bu
/-- nothing that was there has changed but, at most, what Z holds of -/
structure ChgP (Z : Nat → Prop) (w w' : World) : Prop where
  os : w'.os = w.os
  tape : w'.tape = w.tape
  output : w'.output = w.output
  size : w.heap.size ≤ w'.heap.size
  block : ∀ k, k < w.heap.size → ¬ Z k → w'.heap[k]? = w.heap[k]?
/-- what Z holds of, and all that is new -/
def grow (Z : Nat → Prop) (w : World) : Nat → Prop := fun k => Z k ∨ w.heap.size ≤ k
theorem ChgP.refl (Z : Nat → Prop) (w : World) : ChgP Z w w := ⟨rfl, rfl, rfl, Nat.le_refl _, fun _ _ _ => rfl⟩
theorem ChgP.of_below {Z : Nat → Prop} {w w' : World} (h : Below w.heap.size w w') : ChgP Z w w' := ⟨h.os, h.tape, h.output, h.size, fun k hk _ => h.block k hk⟩
theorem ChgP.trans {Z Y : Nat → Prop} {a b c : World} (h : ChgP Z a b) (k : ChgP Y b c) (hs : ∀ x, Y x → Z x ∨ a.heap.size ≤ x) : ChgP Z a c :=
  ⟨k.os.trans h.os, k.tape.trans h.tape, k.output.trans h.output, Nat.le_trans h.size k.size, fun i hi hn => (k.block i (Nat.lt_of_lt_of_le hi h.size) (fun hm => by rcases hs i hm with h1 | h1; exact hn h1; omega)).trans (h.block i hi hn)⟩
theorem ChgP.mono {Z Y : Nat → Prop} {a b : World} (h : ChgP Z a b) (hs : ∀ x, Z x → Y x ∨ a.heap.size ≤ x) : ChgP Y a b :=
  ⟨h.os, h.tape, h.output, h.size, fun i hi hn => h.block i hi (fun hm => by rcases hs i hm with h1 | h1; exact hn h1; omega)⟩
theorem ChgP.below {Z : Nat → Prop} {B : Nat} {w w' : World} (h : ChgP Z w w') (hB : B ≤ w.heap.size) (hS : ∀ x, Z x → B ≤ x) : Below B w w' :=
  ⟨h.os, h.tape, h.output, h.size, fun k hk => h.block k (by omega) (fun hm => by have := hS k hm; omega)⟩
theorem ChgP.row {Z : Nat → Prop} {w w' : World} {g : Nat} {t : TypeId} {cs : List Value} (h : ChgP Z w w') (hr : Row w g t cs) (hg : ¬ Z g) : Row w' g t cs := (h.block g hr.lt hg).trans hr
theorem ChgP.set_ {Z : Nat → Prop} {a w : World} (h : ChgP Z a w) {p : Addr} (hp : Z p.block ∨ a.heap.size ≤ p.block) (u : Value) : ChgP Z a (w.setCell p u) :=
  ⟨h.os, h.tape, h.output, by simpa [World.setCell] using h.size, fun i hi hn => (Below.heap_setCell w p u i (fun e => by subst e; rcases hp with h1 | h1; exact hn h1; omega)).trans (h.block i hi hn)⟩
theorem ChgP.alloc {Z : Nat → Prop} {a w : World} (h : ChgP Z a w) (o : Obj) : ChgP Z a (w.alloc o) :=
  ⟨h.os, h.tape, h.output, Nat.le_trans h.size (by simp), fun i hi hn => (Below.heap_alloc w o i (Nat.lt_of_lt_of_le hi h.size)).trans (h.block i hi hn)⟩
theorem ChgP.drew {Z : Nat → Prop} {a w : World} (h : ChgP Z a w) : ChgP Z a w.drew := ⟨h.os, h.tape, h.output, h.size, h.block⟩
theorem ChgP.drewN {Z : Nat → Prop} {a w : World} (h : ChgP Z a w) (n : Nat) : ChgP Z a (w.drewN n) := ⟨h.os, h.tape, h.output, h.size, h.block⟩
theorem ChgP.grown {Z : Nat → Prop} {a w w' : World} {row : Option Nat} (h : ChgP Z a w) (hg : w.grownBy w' row) (hr : ∀ k, row = some k → Z k ∨ a.heap.size ≤ k) : ChgP Z a w' :=
  ⟨hg.os.trans h.os, hg.tape.trans h.tape, hg.output.trans h.output, Nat.le_trans h.size hg.size, fun i hi hn => (hg.block i (Nat.lt_of_lt_of_le hi h.size) (fun e => by rcases hr i e.symm with h1 | h1; exact hn h1; omega)).trans (h.block i hi hn)⟩
/-- reading goes on where the block is as it was -/
theorem reads_same {w w' : World} {B size n : Nat} {A : Option Addr} {xs : List Value} (h : Reads w B size A n xs) (hb : ∀ ad, A = some ad → 0 < n → w'.heap[ad.block]? = w.heap[ad.block]?) : Reads w' B size A n xs :=
  ⟨h.1, fun hn => by
    obtain ⟨ad, e, hl, hc⟩ := h.2 hn
    refine ⟨ad, e, hl, fun j u hu => ?_⟩
    rw [World.cell?_of_block (w := w)]
    · exact hc j u hu
    · have : (ad.add j).block = ad.block := by unfold Addr.add; split <;> rfl
      rw [this]
      exact hb ad e hn⟩
theorem IsS.same {w w' : World} {B n : Nat} {A : Option Addr} {s : Sp.S} (h : IsS w B A n s) (hb : ∀ ad, A = some ad → 0 < n → w'.heap[ad.block]? = w.heap[ad.block]?) : IsS w' B A n s := ⟨reads_same h.1 hb, h.2⟩
theorem IsS.lt {w : World} {B n : Nat} {A : Option Addr} {s : Sp.S} (h : IsS w B A n s) (h0 : 0 < n) : ∀ ad, A = some ad → ad.block < B := by
  intro ad e
  obtain ⟨ad', e', hl, _⟩ := h.1.2 h0
  rw [e] at e'; injection e' with e'; rw [e']; exact hl
/-- a list of ranges (or spans) that lies where R holds -/
def Lst (w : World) (R : Nat → Prop) (A : Option Addr) (n c : Nat) (s : Sp.S) : Prop := IsS w w.heap.size A n s ∧ n ≤ c ∧ c ≤ 9223372036854775807 ∧ ∀ ad, A = some ad → 0 < n → R ad.block
theorem Lst.chg {w w' : World} {R Y : Nat → Prop} {A : Option Addr} {n c : Nat} {s : Sp.S} (h : Lst w R A n c s) (hc : ChgP Y w w') (hY : ∀ k, R k → ¬ Y k) : Lst w' R A n c s :=
  ⟨((IsS.same h.1 (fun ad e h0 => hc.block _ (IsS.lt h.1 h0 ad e) (hY _ (h.2.2.2 ad e h0)))).more hc.size), h.2⟩
theorem Lst.mono {w : World} {R R' : Nat → Prop} {A : Option Addr} {n c : Nat} {s : Sp.S} (h : Lst w R A n c s) (hR : ∀ k, R k → R' k) : Lst w R' A n c s := ⟨h.1, h.2.1, h.2.2.1, fun ad e h0 => hR _ (h.2.2.2 ad e h0)⟩
/-- a count, one more (in 64 bits) -/
def cInc (n : Int) : Int := IntKind.i64.wrap (n + 1)
/-- a machine, plain -/
structure PM where
  rams : List (Nat × Nat)
  devs : List (Nat × Nat)
  mem : Nat → Nat
  loads : Int
  stores : Int
  strays : Int
  pgn : List Nat → Prop  -- the order in which the document's pages came (a ghost)
/-- is an address on the bus? -/
def on (l : List (Nat × Nat)) (p : Nat) : Bool := l.any fun r => decide (r.1 ≤ p ∧ p < r.1 + r.2)
/-- a page's cells -/
def leafRow (mem : Nat → Nat) (k : Nat) : List Value := (List.range 4096).map fun i => u8 (mem (4096 * k + i))
theorem leafRow_len (mem : Nat → Nat) (k : Nat) : (leafRow mem k).length = 4096 := by rw [leafRow, List.length_map, List.length_range]
theorem leafRow_get (mem : Nat → Nat) (k i : Nat) (hi : i < 4096) : (leafRow mem k)[i]? = some (u8 (mem (4096 * k + i))) := by
  rw [leafRow, List.getElem?_map, List.getElem?_range hi]; rfl
/-- does a page hold a byte that is not 0? -/
def nz (mem : Nat → Nat) (k : Nat) : Prop := ∃ i, i < 4096 ∧ mem (4096 * k + i) ≠ 0
/-- A MACHINE LIES AT g: what may turn with it, Z holds of; where its lists lie, R holds of. -/
structure MachAt (Z R : Nat → Prop) (w : World) (g : Nat) (M : PM) (A1 A2 Ao : Option Addr) (c1 c2 no co b : Nat) (pm : Nat → Option Nat) (sp : Sp.S) : Prop where
  row : Row w g 89 [.int .i64 M.loads, .int .i64 M.stores, .int .i64 M.strays, .slice A1 M.rams.length c1, .slice A2 M.devs.length c2, .slice Ao no co, .map (some b)]
  zg : Z g
  zb : Z b
  l1 : Lst w R A1 M.rams.length c1 M.rams
  l2 : Lst w R A2 M.devs.length c2 M.devs
  lo : Lst w R Ao no co sp
  nrm : Sp.Nrm TOP sp ∧ no ≤ 2199023255552
  has : ∀ p, p ≤ TOP → Sp.has sp p = !on (M.rams ++ M.devs) p
  lim : ∀ p, on (M.rams ++ M.devs) p = true → p < 4294967296
  map : MapAt w b pm
  leaf : ∀ k p, pm k = some p → Row w p 156 (leafRow M.mem k) ∧ Z p ∧ nz M.mem k
  inj : ∀ k k' p, pm k = some p → pm k' = some p → k = k'
  zero : ∀ k, pm k = none → ∀ i, i < 4096 → M.mem (4096 * k + i) = 0
  byte : ∀ p, M.mem p < 256
  dis : ∀ k, Z k → ¬ R k
def Mach (Z R : Nat → Prop) (w : World) (g : Nat) (M : PM) : Prop := ∃ A1 A2 Ao c1 c2 no co b pm sp, MachAt Z R w g M A1 A2 Ao c1 c2 no co b pm sp
/-- what turns elsewhere does not touch it -/
theorem MachAt.chg {Z R Y : Nat → Prop} {w w' : World} {g : Nat} {M : PM} {A1 A2 Ao : Option Addr} {c1 c2 no co b : Nat} {pm : Nat → Option Nat} {sp : Sp.S} (h : MachAt Z R w g M A1 A2 Ao c1 c2 no co b pm sp) (hc : ChgP Y w w') (hY : ∀ k, Z k ∨ R k → ¬ Y k) : MachAt Z R w' g M A1 A2 Ao c1 c2 no co b pm sp :=
  ⟨hc.row h.row (hY _ (.inl h.zg)), h.zg, h.zb, h.l1.chg hc (fun k hk => hY k (.inr hk)), h.l2.chg hc (fun k hk => hY k (.inr hk)), h.lo.chg hc (fun k hk => hY k (.inr hk)), h.nrm, h.has, h.lim,
    h.map.same (hc.block b h.map.lt (hY _ (.inl h.zb))), fun k p hp => by
      obtain ⟨h1, h2, h3⟩ := h.leaf k p hp
      exact ⟨hc.row h1 (hY _ (.inl h2)), h2, h3⟩, h.inj, h.zero, h.byte, h.dis⟩
theorem Mach.chg {Z R Y : Nat → Prop} {w w' : World} {g : Nat} {M : PM} (h : Mach Z R w g M) (hc : ChgP Y w w') (hY : ∀ k, Z k ∨ R k → ¬ Y k) : Mach Z R w' g M := by
  obtain ⟨A1, A2, Ao, c1, c2, no, co, b, pm, sp, h⟩ := h
  exact ⟨A1, A2, Ao, c1, c2, no, co, b, pm, sp, h.chg hc hY⟩
/-- new blocks alone: it stands -/
theorem MachAt.below {Z R : Nat → Prop} {w w' : World} {g : Nat} {M : PM} {A1 A2 Ao : Option Addr} {c1 c2 no co b : Nat} {pm : Nat → Option Nat} {sp : Sp.S} (h : MachAt Z R w g M A1 A2 Ao c1 c2 no co b pm sp) (hc : Below w.heap.size w w') : MachAt Z R w' g M A1 A2 Ao c1 c2 no co b pm sp :=
  h.chg (Y := fun _ => False) (ChgP.of_below hc) (fun _ _ h => h)
/-- more may turn with it, more may bear lists -/
theorem MachAt.mono {Z R Z' R' : Nat → Prop} {w : World} {g : Nat} {M : PM} {A1 A2 Ao : Option Addr} {c1 c2 no co b : Nat} {pm : Nat → Option Nat} {sp : Sp.S} (h : MachAt Z R w g M A1 A2 Ao c1 c2 no co b pm sp) (hZ : ∀ k, Z k → Z' k) (hR : ∀ k, R k → R' k) (hd : ∀ k, Z' k → ¬ R' k) : MachAt Z' R' w g M A1 A2 Ao c1 c2 no co b pm sp :=
  ⟨h.row, hZ _ h.zg, hZ _ h.zb, h.l1.mono hR, h.l2.mono hR, h.lo.mono hR, h.nrm, h.has, h.lim, h.map, fun k p hp => by
    obtain ⟨h1, h2, h3⟩ := h.leaf k p hp
    exact ⟨h1, hZ _ h2, h3⟩, h.inj, h.zero, h.byte, hd⟩
theorem Lst.isSet {w : World} {R : Nat → Prop} {A : Option Addr} {n c : Nat} {s : Sp.S} (h : Lst w R A n c s) (hn : Sp.Nrm TOP s ∧ n ≤ 2199023255552) : IsSet w A n c s := ⟨h.1, h.2.1, h.2.2.1, hn.1, hn.2⟩
end Bu
end Go.Proofs.YtfpofaniicegaaaGreat

/- The walk of bus.each, once for each closure that is handed to it. -/
set_option linter.unusedVariables false
set_option linter.unusedSimpArgs false
namespace Go.Proofs.YtfpofaniicegaaaGreat
open Go.RowKit
open S64
namespace Bu
/-- how many bytes of the page are meant -/
def eachK (at_ n d : Nat) : Nat := min (4096 - (at_ + d) % 4096) (n - d)
theorem eachK_pos {at_ n d : Nat} (h : d < n) : 0 < eachK at_ n d ∧ d + eachK at_ n d ≤ n ∧ (at_ + d) % 4096 + eachK at_ n d ≤ 4096 := by
  unfold eachK
  omega
set_option maxRecDepth 100000 in
set_option maxHeartbeats 1000000 in
theorem each_bytes (c1 c2 : Nat) (at_ n : Nat) (Inv : Nat → World → Prop) (w : World) (h64 : n = 0 ∨ at_ + n ≤ 4503599627370496) (ha : at_ ≤ TOP) (hi : Inv 0 w)
    (hcall : ∀ d wx, Inv d wx → d < n → Calls Tryz.prog 78 #[.int .u64 (((at_ + d) / 4096 : Nat) : Int), .int .i64 (((at_ + d) % 4096 : Nat) : Int), .int .i64 (eachK at_ n d : Nat), .int .i64 (d : Nat), .pointer (some ⟨c1, 0, none⟩), .pointer (some ⟨c2, 0, none⟩)] wx fun e w' => e = .returned (.tuple #[]) ∧ Inv (d + eachK at_ n d) w') :
    Calls Tryz.prog 76 #[.int .u64 (at_ : Nat), .int .i64 (n : Nat), .func (.func 78) #[] #[.pointer (some ⟨c1, 0, none⟩), .pointer (some ⟨c2, 0, none⟩)]] w fun e w' => e = .returned (.tuple #[]) ∧ Inv n w' := by
  have HC := Lib.hid hcall
  have HI := Lib.hid hi
  have H64 := Lib.hid h64
  clear hcall hi h64
  go_enter Tryz.func76, Tryz.ntmps76
  go_wp2_with fail
  go_loopw [6] (fun i wr => ∃ d : Nat, d ≤ n ∧ i = .int .i64 (d : Nat) ∧ Hid (Inv d wr)) (fun i _ => n - (intOf i).toNat)
  case atStart => exact ⟨0, Nat.zero_le _, rfl, HI⟩
  case round =>
    clear HI
    obtain ⟨d, hd, rfl, HI⟩ := hrel
    by_cases hlt : d < n
    · have hA : at_ + d ≤ 4503599627370496 := by rcases H64.out with h | h <;> omega
      obtain ⟨f, hf⟩ : ∃ f, f = (at_ + d) % 4096 := ⟨_, rfl⟩
      obtain ⟨q, hq⟩ : ∃ q, q = (at_ + d) / 4096 := ⟨_, rfl⟩
      obtain ⟨k, hk⟩ : ∃ k, k = eachK at_ n d := ⟨_, rfl⟩
      have hn : n ≤ 4503599627370496 := by rcases H64.out with h | h <;> omega
      have e2 : ((at_ : Int) + (d : Int)) % 4096 = (f : Int) := by omega
      have e3 : ((at_ : Int) + (d : Int)) / 4096 = (q : Int) := by omega
      have hfb : f < 4096 := by omega
      have hqb : q ≤ 4503599627370496 := by omega
      have e4 : min ((4096 : Int) - (f : Int)) ((n : Int) - (d : Int)) = (k : Int) := by rw [hk, eachK, ← hf]; omega
      have hk3 := eachK_pos (at_ := at_) hlt
      rw [← hk] at hk3
      have hkb : k ≤ 4096 := by omega
      have hkn : d + k ≤ n := hk3.2.1
      have HK := Lib.hid hk3
      have HCA := HC.out d _ HI.out hlt
      rw [← hf, ← hq, ← hk] at HCA
      have HCB := Lib.hid HCA
      have HE4 := Lib.hid e4
      clear HCA hk3 hf hq hk e4
      by_cases hle : (n : Int) - (d : Int) < 4096 - (f : Int)
      · have hk4 : ((k : Nat) : Int) = (n : Int) - (d : Int) := by have := HE4.out; omega
        have HK4 := Lib.hid hk4
        have H1 := HCB.out
        rw [hk4] at H1
        clear hk4
        have HC2 := Lib.hid H1
        clear H1
        go_wp2_with fail
        refine HC2.out.mono ?_
        rintro e w2 ⟨rfl, hI⟩
        have HI2 := Lib.hid hI
        clear hI HC2 HCB
        go_wp2_with fail
        go_roundw
        case rel => exact ⟨d + k, hkn, by rw [Int.natCast_add, HK4.out], HI2⟩
        case measure => have := HK.out; have := HK4.out; simp [intOf]; omega
      · have hk4 : ((k : Nat) : Int) = 4096 - (f : Int) := by have := HE4.out; omega
        have HK4 := Lib.hid hk4
        have H1 := HCB.out
        rw [hk4] at H1
        clear hk4
        have HC2 := Lib.hid H1
        clear H1
        go_wp2_with fail
        refine HC2.out.mono ?_
        rintro e w2 ⟨rfl, hI⟩
        have HI2 := Lib.hid hI
        clear hI HC2 HCB
        go_wp2_with fail
        go_roundw
        case rel => exact ⟨d + k, hkn, by rw [Int.natCast_add, HK4.out], HI2⟩
        case measure => have := HK.out; have := HK4.out; simp [intOf]; omega
    · have HD : Hid (d = n) := Lib.hid (by omega)
      go_wp2_with fail
      go_end0
      refine ⟨rfl, ?_⟩
      have := HI.out
      rw [HD.out] at this
      exact this
set_option maxRecDepth 100000 in
set_option maxHeartbeats 1000000 in
theorem each_lay (c1 c2 : Nat) (at_ n : Nat) (Inv : Nat → World → Prop) (w : World) (h64 : n = 0 ∨ at_ + n ≤ 4503599627370496) (ha : at_ ≤ TOP) (hi : Inv 0 w)
    (hcall : ∀ d wx, Inv d wx → d < n → Calls Tryz.prog 77 #[.int .u64 (((at_ + d) / 4096 : Nat) : Int), .int .i64 (((at_ + d) % 4096 : Nat) : Int), .int .i64 (eachK at_ n d : Nat), .int .i64 (d : Nat), .pointer (some ⟨c1, 0, none⟩), .pointer (some ⟨c2, 0, none⟩)] wx fun e w' => e = .returned (.tuple #[]) ∧ Inv (d + eachK at_ n d) w') :
    Calls Tryz.prog 76 #[.int .u64 (at_ : Nat), .int .i64 (n : Nat), .func (.func 77) #[] #[.pointer (some ⟨c1, 0, none⟩), .pointer (some ⟨c2, 0, none⟩)]] w fun e w' => e = .returned (.tuple #[]) ∧ Inv n w' := by
  have HC := Lib.hid hcall
  have HI := Lib.hid hi
  have H64 := Lib.hid h64
  clear hcall hi h64
  go_enter Tryz.func76, Tryz.ntmps76
  go_wp2_with fail
  go_loopw [6] (fun i wr => ∃ d : Nat, d ≤ n ∧ i = .int .i64 (d : Nat) ∧ Hid (Inv d wr)) (fun i _ => n - (intOf i).toNat)
  case atStart => exact ⟨0, Nat.zero_le _, rfl, HI⟩
  case round =>
    clear HI
    obtain ⟨d, hd, rfl, HI⟩ := hrel
    by_cases hlt : d < n
    · have hA : at_ + d ≤ 4503599627370496 := by rcases H64.out with h | h <;> omega
      obtain ⟨f, hf⟩ : ∃ f, f = (at_ + d) % 4096 := ⟨_, rfl⟩
      obtain ⟨q, hq⟩ : ∃ q, q = (at_ + d) / 4096 := ⟨_, rfl⟩
      obtain ⟨k, hk⟩ : ∃ k, k = eachK at_ n d := ⟨_, rfl⟩
      have hn : n ≤ 4503599627370496 := by rcases H64.out with h | h <;> omega
      have e2 : ((at_ : Int) + (d : Int)) % 4096 = (f : Int) := by omega
      have e3 : ((at_ : Int) + (d : Int)) / 4096 = (q : Int) := by omega
      have hfb : f < 4096 := by omega
      have hqb : q ≤ 4503599627370496 := by omega
      have e4 : min ((4096 : Int) - (f : Int)) ((n : Int) - (d : Int)) = (k : Int) := by rw [hk, eachK, ← hf]; omega
      have hk3 := eachK_pos (at_ := at_) hlt
      rw [← hk] at hk3
      have hkb : k ≤ 4096 := by omega
      have hkn : d + k ≤ n := hk3.2.1
      have HK := Lib.hid hk3
      have HCA := HC.out d _ HI.out hlt
      rw [← hf, ← hq, ← hk] at HCA
      have HCB := Lib.hid HCA
      have HE4 := Lib.hid e4
      clear HCA hk3 hf hq hk e4
      by_cases hle : (n : Int) - (d : Int) < 4096 - (f : Int)
      · have hk4 : ((k : Nat) : Int) = (n : Int) - (d : Int) := by have := HE4.out; omega
        have HK4 := Lib.hid hk4
        have H1 := HCB.out
        rw [hk4] at H1
        clear hk4
        have HC2 := Lib.hid H1
        clear H1
        go_wp2_with fail
        refine HC2.out.mono ?_
        rintro e w2 ⟨rfl, hI⟩
        have HI2 := Lib.hid hI
        clear hI HC2 HCB
        go_wp2_with fail
        go_roundw
        case rel => exact ⟨d + k, hkn, by rw [Int.natCast_add, HK4.out], HI2⟩
        case measure => have := HK.out; have := HK4.out; simp [intOf]; omega
      · have hk4 : ((k : Nat) : Int) = 4096 - (f : Int) := by have := HE4.out; omega
        have HK4 := Lib.hid hk4
        have H1 := HCB.out
        rw [hk4] at H1
        clear hk4
        have HC2 := Lib.hid H1
        clear H1
        go_wp2_with fail
        refine HC2.out.mono ?_
        rintro e w2 ⟨rfl, hI⟩
        have HI2 := Lib.hid hI
        clear hI HC2 HCB
        go_wp2_with fail
        go_roundw
        case rel => exact ⟨d + k, hkn, by rw [Int.natCast_add, HK4.out], HI2⟩
        case measure => have := HK.out; have := HK4.out; simp [intOf]; omega
    · have HD : Hid (d = n) := Lib.hid (by omega)
      go_wp2_with fail
      go_end0
      refine ⟨rfl, ?_⟩
      have := HI.out
      rw [HD.out] at this
      exact this
end Bu
end Go.Proofs.YtfpofaniicegaaaGreat

/- The walks of a machine's bytes. -/
set_option linter.unusedVariables false
set_option linter.unusedSimpArgs false
namespace Go.Proofs.YtfpofaniicegaaaGreat
open Go.RowKit
open S64
namespace Bu
theorem Row.ne_t {w : World} {g g' : Nat} {t t' : TypeId} {cs cs' : List Value} (h : Row w g t cs) (h' : Row w g' t' cs') (ht : t ≠ t') : g ≠ g' := by
  rintro rfl
  have := h.symm.trans h'
  injection this with this
  injection this with _ this _
  exact ht this
theorem setRow_row {w : World} {g : Nat} {t : TypeId} {cs : List Value} (h : Row w g t cs) (V : List Value) : Row (w.setRow g V.toArray) g t V := setRow_heap w g _ _ t _ h
theorem setRow_far {w : World} {g g' : Nat} {t : TypeId} {cs : List Value} (h : Row w g t cs) (hn : g ≠ g') (V : Array Value) : Row (w.setRow g' V) g t cs := (setRow_other w g' g V hn).trans h
theorem ChgP.setRow {Z : Nat → Prop} {a w : World} {g : Nat} (h : ChgP Z a w) (hg : Z g ∨ a.heap.size ≤ g) (V : Array Value) : ChgP Z a (w.setRow g V) :=
  ⟨h.os, h.tape, h.output, by simpa using h.size, fun i hi hn => (setRow_other w g i V (fun e => by subst e; rcases hg with h1 | h1; exact hn h1; omega)).trans (h.block i hi hn)⟩
/-- copy into a row, the world behind it written out -/
theorem wpList_copy_at {P : Program} {w : World} {ops : Array Oper} {rest : List Oper} {o : Oper} {a : Act} {Q : Exit → Act → World → Prop} (hgd : o.guard = none) (d s : Operand) (dT sT : TypeId)
    (ho : o.op = .call { callee := .builtin .copy, args := #[d, s], argTypes := #[dT, sT] }) (elem : TypeId) (hu : P.underlying dT = some (.slice elem)) (hsz : (P.info? elem).map (·.size) = some 1)
    (g off : Nat) (ad : Addr) (dLen dCap sLen sCap : Nat) (hd : a.eval d = .slice (some ⟨g, off, none⟩) dLen dCap) (hs : a.eval s = .slice (some ad) sLen sCap)
    (cur : List Value) (t : TypeId) (hg : Row w g t cur) (cs : List Value) (hn : cs.length = Nat.min sLen dLen)
    (hsrc : ∀ j v, cs[j]? = some v → w.cell? (ad.add j) = some v) (hfit : off + cs.length ≤ cur.length) (h1 : ∀ v ∈ cs, v.oneCell' = true)
    (h : wpList P ops Q rest (a.put o.dst (goInt (Nat.min sLen dLen))) (w.setRow g (splice cur off cs).toArray)) :
    wpList P ops Q (o :: rest) a w := by
  refine wpList_plain hgd fun K hK => ?_
  have hrun := run_copy_sz (P := P) w dT sT o.type elem g off dLen dCap ad sLen sCap 1 cur.toArray t cs hu hsz hg (by rw [Nat.mul_one]; exact hn) hsrc (by simpa using hfit) h1
  unfold Oper.wp
  simp [execOp, ho, resolve, invoke, builtin, hd, hs, hrun, Result.andThen]
  simp only [splice] at h
  exact hK _ _ h
/-- d bytes are there, the rest is nought -/
def outB (mem : Nat → Nat) (at_ n d : Nat) : List Value := (List.range n).map fun i => u8 (if i < d then mem (at_ + i) else 0)
theorem outB_len (mem : Nat → Nat) (at_ n d : Nat) : (outB mem at_ n d).length = n := by rw [outB, List.length_map, List.length_range]
theorem outB_get (mem : Nat → Nat) (at_ n d i : Nat) (hi : i < n) : (outB mem at_ n d)[i]? = some (u8 (if i < d then mem (at_ + i) else 0)) := by
  rw [outB, List.getElem?_map, List.getElem?_range hi]; rfl
theorem outB_zero (mem : Nat → Nat) (at_ n : Nat) : outB mem at_ n 0 = List.replicate n (.int .u8 0) := by
  apply List.ext_getElem?
  intro i
  rw [List.getElem?_replicate]
  by_cases hi : i < n
  · rw [outB_get _ _ _ _ _ hi, if_pos hi, if_neg (by omega)]; rfl
  · rw [List.getElem?_eq_none (by rw [outB_len]; omega), if_neg hi]
theorem page_split (at_ d j : Nat) : at_ + (d + j) = 4096 * ((at_ + d) / 4096) + ((at_ + d) % 4096 + j) := by omega
/-- nothing is laid there: noughts -/
theorem outB_skip (mem : Nat → Nat) (at_ n d : Nat) (hz : ∀ i, i < 4096 → mem (4096 * ((at_ + d) / 4096) + i) = 0) (hd : d < n) : outB mem at_ n (d + eachK at_ n d) = outB mem at_ n d := by
  have hk := eachK_pos (at_ := at_) hd
  refine List.map_congr_left fun i hi => ?_
  by_cases h1 : i < d
  · rw [if_pos h1, if_pos (by omega)]
  · rw [if_neg h1]
    by_cases h2 : i < d + eachK at_ n d
    · rw [if_pos h2]
      obtain ⟨j, rfl⟩ : ∃ j, i = d + j := ⟨i - d, by omega⟩
      rw [page_split, hz _ (by omega)]
    · rw [if_neg h2]
/-- a page's bytes laid in -/
theorem outB_lay (mem : Nat → Nat) (at_ n d : Nat) (hd : d < n) : splice (outB mem at_ n d) d (((leafRow mem ((at_ + d) / 4096)).drop ((at_ + d) % 4096)).take (eachK at_ n d)) = outB mem at_ n (d + eachK at_ n d) := by
  have hk := eachK_pos (at_ := at_) hd
  have hl : (((leafRow mem ((at_ + d) / 4096)).drop ((at_ + d) % 4096)).take (eachK at_ n d)).length = eachK at_ n d := by
    rw [List.length_take, List.length_drop, leafRow_len]; omega
  apply List.ext_getElem?
  intro i
  by_cases hi : i < n
  · rw [outB_get _ _ _ _ _ hi]
    unfold splice
    by_cases h1 : i < d
    · rw [List.getElem?_append_left (by rw [List.length_take, outB_len]; omega), List.getElem?_take, if_pos h1, outB_get _ _ _ _ _ hi, if_pos h1, if_pos (by omega)]
    · obtain ⟨j, rfl⟩ : ∃ j, i = d + j := ⟨i - d, by omega⟩
      rw [List.getElem?_append_right (by rw [List.length_take, outB_len]; omega), show d + j - (List.take d (outB mem at_ n d)).length = j by rw [List.length_take, outB_len]; omega]
      by_cases h2 : j < eachK at_ n d
      · rw [List.getElem?_append_left (by omega), List.getElem?_take, if_pos h2, List.getElem?_drop, leafRow_get _ _ _ (by omega), if_pos (by omega), page_split at_ d j]
      · rw [List.getElem?_append_right (by omega), hl, List.getElem?_drop, show d + eachK at_ n d + (j - eachK at_ n d) = d + j by omega, outB_get _ _ _ _ _ hi, if_neg (by omega), if_neg (by omega)]
  · rw [List.getElem?_eq_none (by unfold splice; simp only [List.length_append, List.length_take, List.length_drop, outB_len, hl, leafRow_len]; omega), List.getElem?_eq_none (by rw [outB_len]; omega)]
theorem leafRow_one (mem : Nat → Nat) (k : Nat) : ∀ v ∈ leafRow mem k, v.oneCell' = true := by
  intro v hv
  rw [leafRow, List.mem_map] at hv
  obtain ⟨i, _, rfl⟩ := hv
  rfl
theorem size5b : (Tryz.prog.info? 5).map (·.size) = some 1 := by kernel_rfl
theorem sliceAt_leaf (w : World) (p f : Nat) (hf : f < 4096) : (Instr.sliceAt 156 (.pointer (some ⟨p, 0, none⟩)) (some (.int .i64 (f : Nat))) none none).run Tryz.prog w = .ok (.slice (some ⟨p, f, none⟩) (4096 - f) (4096 - f)) w := by
  have ht : Tryz.prog.underlying 156 = some (.array (Tryz.prog.arrayLen 156) (Tryz.prog.elem 156)) := by kernel_rfl
  have hl : Tryz.prog.arrayLen 156 = 4096 := by kernel_rfl
  have hs : (sizeOf (Tryz.prog.elem 156)).run Tryz.prog w = .ok 1 w := by kernel_rfl
  rw [run_sliceAt_array_l w _ _ ht .i64 (f : Int) (by omega) (by rw [hl]; omega), hs, hl]
  simp only [Result.andThen, slicedAt, Int.toNat_natCast]
  rw [if_neg (by omega), Nat.mul_one, Addr.add_mid, Nat.zero_add]
/-- what the closure of bytes leaves -/
structure BInv (mem : Nat → Nat) (at_ n : Nat) (g c1 c2 bb : Nat) (w : World) (d : Nat) (wx : World) : Prop where
  r1 : Row wx c1 50 [.pointer (some ⟨g, 0, none⟩)]
  r2 : Row wx c2 45 [.slice (some ⟨bb, 0, none⟩) n n]
  rb : Row wx bb 5 (outB mem at_ n d)
  bel : Below w.heap.size w wx
  le : w.heap.size ≤ bb
set_option maxRecDepth 100000 in
set_option maxHeartbeats 1000000 in
theorem bytes1_any (Z R : Nat → Prop) (M : PM) (A1 A2 Ao : Option Addr) (x1 x2 no co b : Nat) (pm : Nat → Option Nat) (sp : Sp.S) (at_ n g c1 c2 bb d : Nat) (w wx : World)
    (hm : MachAt Z R w g M A1 A2 Ao x1 x2 no co b pm sp) (hi : BInv M.mem at_ n g c1 c2 bb w d wx) (hd : d < n) (h64 : at_ + n ≤ 4503599627370496) :
    Calls Tryz.prog 78 #[.int .u64 (((at_ + d) / 4096 : Nat) : Int), .int .i64 (((at_ + d) % 4096 : Nat) : Int), .int .i64 (eachK at_ n d : Nat), .int .i64 (d : Nat), .pointer (some ⟨c1, 0, none⟩), .pointer (some ⟨c2, 0, none⟩)] wx
      fun e w' => e = .returned (.tuple #[]) ∧ BInv M.mem at_ n g c1 c2 bb w (d + eachK at_ n d) w' := by
  have hmx := hm.below hi.bel
  have hk := eachK_pos (at_ := at_) hd
  obtain ⟨q, hq⟩ : ∃ q, q = (at_ + d) / 4096 := ⟨_, rfl⟩
  obtain ⟨f, hf⟩ : ∃ f, f = (at_ + d) % 4096 := ⟨_, rfl⟩
  obtain ⟨k, hkk⟩ : ∃ k, k = eachK at_ n d := ⟨_, rfl⟩
  have hlk := hmx.map.look q (by unfold TOP; omega)
  have hskip := outB_skip M.mem at_ n d
  have hlay := outB_lay M.mem at_ n d hd
  rw [← hkk] at hk hskip hlay ⊢
  rw [← hf] at hk hlay ⊢
  rw [← hq] at hskip hlay ⊢
  have p0 := hi.r1.cell 0
  have p1 := hi.r2.cell 0
  have p2 := hmx.row.cell 6
  have l1 := hi.r1.lt
  have l2 := hi.r2.lt
  have lg := hmx.row.lt
  simp only [List.getElem?_cons_zero, List.getElem?_cons_succ] at p0 p1 p2
  have HK := Lib.hid hk
  have HI := Lib.hid hi
  have HMX := Lib.hid hmx
  have HSK := Lib.hid hskip
  have HLY := Lib.hid hlay
  have hkn : d + k ≤ n := hk.2.1
  have hkf : f + k ≤ 4096 := hk.2.2
  have hn : n ≤ 4503599627370496 := by omega
  clear hskip hlay hk hi hmx hm hq hf hkk
  obtain ⟨o, ho⟩ : ∃ o, o = pm q := ⟨_, rfl⟩
  rw [← ho] at hlk
  have HO := Lib.hid ho
  clear ho
  cases o with
  | none =>
    unfold ptrV at hlk
    simp only [Option.isSome_none] at hlk
    go_enter Tryz.func78, Tryz.ntmps78
    go_wp2_with fail
    go_end0
    refine ⟨rfl, ⟨HI.out.r1, HI.out.r2, ?_, HI.out.bel, HI.out.le⟩⟩
    rw [HSK.out (HMX.out.zero q HO.out.symm) hd]
    exact HI.out.rb
  | some p =>
    unfold ptrV at hlk
    simp only [Option.isSome_some] at hlk
    obtain ⟨hr, hzp, hnz⟩ := HMX.out.leaf q p HO.out.symm
    have HP := Lib.hid hr
    have lp := hr.lt
    clear hr hzp hnz
    go_enter Tryz.func78, Tryz.ntmps78
    go_upto_region 2 with fail
    obtain ⟨t, ht⟩ : ∃ t, t = d + k := ⟨_, rfl⟩
    have e1 : (d : Int) + (k : Int) = (t : Int) := by omega
    have HT := Lib.hid ht
    have t1 : d ≤ t := by omega
    have t2 : t ≤ n := by omega
    have t3 : ¬ n = d := by omega
    have f3 : f ≤ 4096 := by omega
    have f4 : ¬ 4096 = f := by have := HK.out; omega
    have e2 : IntKind.i64.wrap (t : Int) = (t : Int) := by rw [IntKind.wrap_i64]; omega
    have f5 : ¬ f = 4096 := by have := HK.out; omega
    clear ht
    have hs31 : ∀ wy : World, (Instr.sliceAt 156 (.pointer (some ⟨p, 0, none⟩)) (some (.int .i64 (f : Nat))) none none).run Tryz.prog wy = .ok (.slice (some ⟨p, f, none⟩) (4096 - f) (4096 - f)) wy := fun wy => sliceAt_leaf wy p f (by have := HK.out; omega)
    go_still_tail 10, (by kernel_rfl)
    change wpList _ _ _ _ _ wx.drew
    refine wpList_copy_at rfl (.tmp 27) (.tmp 31) 45 45 rfl 5 Tryz.underlying45 size5b bb d ⟨p, f, none⟩ (t - d) (n - d) (4096 - f) (4096 - f) rfl rfl (outB M.mem at_ n d) 5 HI.out.rb.drew (((leafRow M.mem q).drop f).take k) ?hn ?hs ?hf ?h1 ?rest
    case hn =>
      have := HK.out; have := HT.out
      rw [List.length_take, List.length_drop, leafRow_len, Nat.min_def]
      simp only [Nat.min_def]
      split <;> split <;> omega
    case hs =>
      intro j v hv
      have hj : j < k := by have := (List.getElem?_eq_some_iff.1 hv).1; rw [List.length_take] at this; omega
      rw [List.getElem?_take, if_pos hj, List.getElem?_drop] at hv
      rw [Addr.add_mid]
      exact (HP.out.drew.cell (f + j)).trans hv
    case hf =>
      have := HK.out
      rw [List.length_take, List.length_drop, leafRow_len, outB_len]
      omega
    case h1 => exact fun v hv => leafRow_one _ _ v (List.mem_of_mem_drop (List.mem_of_mem_take hv))
    rw [HLY.out]
    have hne1 : c1 ≠ bb := Row.ne_t HI.out.r1 HI.out.rb (by decide)
    have hne2 : c2 ≠ bb := Row.ne_t HI.out.r2 HI.out.rb (by decide)
    have HB : Hid (BInv M.mem at_ n g c1 c2 bb w (d + k) (wx.drew.setRow bb (outB M.mem at_ n (d + k)).toArray)) := Lib.hid ⟨setRow_far HI.out.r1.drew hne1 _, setRow_far HI.out.r2.drew hne2 _, setRow_row HI.out.rb.drew _, below_setRow HI.out.bel.drew HI.out.le _, HI.out.le⟩
    clear hne1 hne2
    generalize wx.drew.setRow bb (outB M.mem at_ n (d + k)).toArray = wz at *
    go_wp2_with fail
    go_end0
    exact ⟨rfl, HB.out⟩
set_option maxRecDepth 100000 in
set_option maxHeartbeats 1000000 in
theorem bytes_any (Z R : Nat → Prop) (M : PM) (A1 A2 Ao : Option Addr) (x1 x2 no co b : Nat) (pm : Nat → Option Nat) (sp : Sp.S) (at_ n g : Nat) (w : World)
    (hm : MachAt Z R w g M A1 A2 Ao x1 x2 no co b pm sp) (h64 : n = 0 ∨ at_ + n ≤ 4503599627370496) (hn : n ≤ 1099511627776) (ha : at_ ≤ TOP) :
    Calls Tryz.prog 58 #[.pointer (some ⟨g, 0, none⟩), .int .u64 (at_ : Nat), .int .i64 (n : Nat)] w
      fun e w' => ∃ bb, e = .returned (.slice (some ⟨bb, 0, none⟩) n n) ∧ w.heap.size ≤ bb ∧ Row w' bb 5 (outB M.mem at_ n n) ∧ Below w.heap.size w w' := by
  have hmk := run_make_row' (P := Tryz.prog) 45 5 (.int .u8 0) 1 Tryz.underlying45 info5 rfl .i64 .i64 n (by omega) (by omega)
  rw [madeCells_one, ← outB_zero M.mem at_ n] at hmk
  have HM := Lib.hid hm
  have H64 := Lib.hid h64
  have HA := Lib.hid ha
  obtain ⟨Z0, hZ0⟩ : ∃ Z0, Z0 = outB M.mem at_ n 0 := ⟨_, rfl⟩
  rw [← hZ0] at hmk
  have HZ0 := Lib.hid hZ0
  clear hm h64 ha hZ0
  go_enter Tryz.func58, Tryz.ntmps58
  go_upto_region 2 with fail
  have s1 : (w.alloc (.cells #[.pointer (some ⟨g, 0, none⟩)] 50)).heap.size = w.heap.size + 1 := by simp
  have s2 : ((w.alloc (.cells #[.pointer (some ⟨g, 0, none⟩)] 50)).alloc (.cells Z0.toArray 5)).heap.size = w.heap.size + 1 + 1 := by simp
  have r1 : Row (((w.alloc (.cells #[.pointer (some ⟨g, 0, none⟩)] 50)).alloc (.cells Z0.toArray 5)).alloc (.cells #[.slice (some ⟨w.heap.size + 1, 0, none⟩) n n] 45)) w.heap.size 50 [.pointer (some ⟨g, 0, none⟩)] := ((Row.new w _ [.pointer (some ⟨g, 0, none⟩)]).alloc _).alloc _
  have rb : Row (((w.alloc (.cells #[.pointer (some ⟨g, 0, none⟩)] 50)).alloc (.cells Z0.toArray 5)).alloc (.cells #[.slice (some ⟨w.heap.size + 1, 0, none⟩) n n] 45)) (w.heap.size + 1) 5 Z0 := by
    have h := Row.new (w.alloc (.cells #[.pointer (some ⟨g, 0, none⟩)] 50)) 5 Z0
    rw [s1] at h
    exact h.alloc _
  have r2 : Row (((w.alloc (.cells #[.pointer (some ⟨g, 0, none⟩)] 50)).alloc (.cells Z0.toArray 5)).alloc (.cells #[.slice (some ⟨w.heap.size + 1, 0, none⟩) n n] 45)) (w.heap.size + 1 + 1) 45 [.slice (some ⟨w.heap.size + 1, 0, none⟩) n n] := by
    have h := Row.new ((w.alloc (.cells #[.pointer (some ⟨g, 0, none⟩)] 50)).alloc (.cells Z0.toArray 5)) 45 [.slice (some ⟨w.heap.size + 1, 0, none⟩) n n]
    rw [s2] at h
    exact h
  have hb : Below w.heap.size w (((w.alloc (.cells #[.pointer (some ⟨g, 0, none⟩)] 50)).alloc (.cells Z0.toArray 5)).alloc (.cells #[.slice (some ⟨w.heap.size + 1, 0, none⟩) n n] 45)) := (((Below.refl _ _).alloc (Nat.le_refl _) _).alloc (by simp) _).alloc (by simp; omega) _
  generalize ((w.alloc (.cells #[.pointer (some ⟨g, 0, none⟩)] 50)).alloc (.cells Z0.toArray 5)).alloc (.cells #[.slice (some ⟨w.heap.size + 1, 0, none⟩) n n] 45) = w1 at *
  rw [HZ0.out] at rb
  have HI : Hid (BInv M.mem at_ n g w.heap.size (w.heap.size + 1 + 1) (w.heap.size + 1) w 0 w1) := Lib.hid ⟨r1, r2, rb, hb, Nat.le_succ _⟩
  clear s1 s2 r1 rb r2 hb
  go_upto_region 3 with (go_at_call 76; refine (each_bytes w.heap.size (w.heap.size + 1 + 1) at_ n (BInv M.mem at_ n g w.heap.size (w.heap.size + 1 + 1) (w.heap.size + 1) w) w1 H64.out HA.out HI.out (fun d wx hi hd => bytes1_any Z R M A1 A2 Ao x1 x2 no co b pm sp at_ n g _ _ _ d w wx HM.out hi hd (by rcases H64.out with h | h <;> omega))).mono ?_; rintro e w2 ⟨rfl, hi2⟩; have HJ := Lib.hid hi2; clear hi2)
  have p1 := HJ.out.r2.cell 0
  have l2 := HJ.out.r2.lt
  simp only [List.getElem?_cons_zero] at p1
  go_wp2_with fail
  go_ret
  exact ⟨_, rfl, HJ.out.le, HJ.out.rb, HJ.out.bel⟩
end Bu
end Go.Proofs.YtfpofaniicegaaaGreat
