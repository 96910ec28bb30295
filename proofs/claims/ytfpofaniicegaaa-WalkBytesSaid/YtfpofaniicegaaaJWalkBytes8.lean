/- Texts of this claim, one behind the other: BuK, BuE, Book. -/
import Derived.Test.YtfpofaniicegaaaJWalkBytes7
import Derived.Stop.BytesEq
import Derived.Test.YtfpofaniicegaaaJWalkBytes1
import Derived.Laws.CopyOwn
import Derived.Deep.QuietTactic
import Derived.BigQuiet
import Derived.Deep.OwnRows
/- A machine in memory: what it holds, and what may turn without touching it. -/
set_option linter.unusedVariables false
set_option linter.unusedSimpArgs false
namespace Go.Proofs.Ytfpofaniicegaaa
open Go.RowKit
open S64
namespace Bu
/-- nothing that was there has changed but, at most, what Z holds of -/
structure ChgP (Z : Nat → Prop) (w w' : World) : Prop where
  os : w'.os = w.os
  tape : w'.tape = w.tape
  output : w'.output = w.output
  size : w.heap.size ≤ w'.heap.size
  block : ∀ k, k < w.heap.size → ¬ Z k → w'.heap[k]? = w.heap[k]?
/-- what Z holds of, and all that is new -/
def grow (Z : Nat → Prop) (w : World) : Nat → Prop := fun k => Z k ∨ w.heap.size ≤ k
theorem ChgP.refl (Z : Nat → Prop) (w : World) : ChgP Z w w := ⟨rfl, rfl, rfl, Nat.le_refl _, fun _ _ _ => rfl⟩
theorem ChgP.of_below {Z : Nat → Prop} {w w' : World} (h : Below w.heap.size w w') : ChgP Z w w' := ⟨h.os, h.tape, h.output, h.size, fun k hk _ => h.block k hk⟩
theorem ChgP.trans {Z Y : Nat → Prop} {a b c : World} (h : ChgP Z a b) (k : ChgP Y b c) (hs : ∀ x, Y x → Z x ∨ a.heap.size ≤ x) : ChgP Z a c :=
  ⟨k.os.trans h.os, k.tape.trans h.tape, k.output.trans h.output, Nat.le_trans h.size k.size, fun i hi hn => (k.block i (Nat.lt_of_lt_of_le hi h.size) (fun hm => by rcases hs i hm with h1 | h1; exact hn h1; omega)).trans (h.block i hi hn)⟩
theorem ChgP.mono {Z Y : Nat → Prop} {a b : World} (h : ChgP Z a b) (hs : ∀ x, Z x → Y x ∨ a.heap.size ≤ x) : ChgP Y a b :=
  ⟨h.os, h.tape, h.output, h.size, fun i hi hn => h.block i hi (fun hm => by rcases hs i hm with h1 | h1; exact hn h1; omega)⟩
theorem ChgP.below {Z : Nat → Prop} {B : Nat} {w w' : World} (h : ChgP Z w w') (hB : B ≤ w.heap.size) (hS : ∀ x, Z x → B ≤ x) : Below B w w' :=
  ⟨h.os, h.tape, h.output, h.size, fun k hk => h.block k (by omega) (fun hm => by have := hS k hm; omega)⟩
theorem ChgP.row {Z : Nat → Prop} {w w' : World} {g : Nat} {t : TypeId} {cs : List Value} (h : ChgP Z w w') (hr : Row w g t cs) (hg : ¬ Z g) : Row w' g t cs := (h.block g hr.lt hg).trans hr
theorem ChgP.set_ {Z : Nat → Prop} {a w : World} (h : ChgP Z a w) {p : Addr} (hp : Z p.block ∨ a.heap.size ≤ p.block) (u : Value) : ChgP Z a (w.setCell p u) :=
  ⟨h.os, h.tape, h.output, by simpa [World.setCell] using h.size, fun i hi hn => (Below.heap_setCell w p u i (fun e => by subst e; rcases hp with h1 | h1; exact hn h1; omega)).trans (h.block i hi hn)⟩
theorem ChgP.alloc {Z : Nat → Prop} {a w : World} (h : ChgP Z a w) (o : Obj) : ChgP Z a (w.alloc o) :=
  ⟨h.os, h.tape, h.output, Nat.le_trans h.size (by simp), fun i hi hn => (Below.heap_alloc w o i (Nat.lt_of_lt_of_le hi h.size)).trans (h.block i hi hn)⟩
theorem ChgP.drew {Z : Nat → Prop} {a w : World} (h : ChgP Z a w) : ChgP Z a w.drew := ⟨h.os, h.tape, h.output, h.size, h.block⟩
theorem ChgP.drewN {Z : Nat → Prop} {a w : World} (h : ChgP Z a w) (n : Nat) : ChgP Z a (w.drewN n) := ⟨h.os, h.tape, h.output, h.size, h.block⟩
theorem ChgP.grown {Z : Nat → Prop} {a w w' : World} {row : Option Nat} (h : ChgP Z a w) (hg : w.grownBy w' row) (hr : ∀ k, row = some k → Z k ∨ a.heap.size ≤ k) : ChgP Z a w' :=
  ⟨hg.os.trans h.os, hg.tape.trans h.tape, hg.output.trans h.output, Nat.le_trans h.size hg.size, fun i hi hn => (hg.block i (Nat.lt_of_lt_of_le hi h.size) (fun e => by rcases hr i e.symm with h1 | h1; exact hn h1; omega)).trans (h.block i hi hn)⟩
/-- reading goes on where the block is as it was -/
theorem reads_same {w w' : World} {B size n : Nat} {A : Option Addr} {xs : List Value} (h : Reads w B size A n xs) (hb : ∀ ad, A = some ad → 0 < n → w'.heap[ad.block]? = w.heap[ad.block]?) : Reads w' B size A n xs :=
  ⟨h.1, fun hn => by
    obtain ⟨ad, e, hl, hc⟩ := h.2 hn
    refine ⟨ad, e, hl, fun j u hu => ?_⟩
    rw [World.cell?_of_block (w := w)]
    · exact hc j u hu
    · have : (ad.add j).block = ad.block := by unfold Addr.add; split <;> rfl
      rw [this]
      exact hb ad e hn⟩
theorem IsS.same {w w' : World} {B n : Nat} {A : Option Addr} {s : Sp.S} (h : IsS w B A n s) (hb : ∀ ad, A = some ad → 0 < n → w'.heap[ad.block]? = w.heap[ad.block]?) : IsS w' B A n s := ⟨reads_same h.1 hb, h.2⟩
theorem IsS.lt {w : World} {B n : Nat} {A : Option Addr} {s : Sp.S} (h : IsS w B A n s) (h0 : 0 < n) : ∀ ad, A = some ad → ad.block < B := by
  intro ad e
  obtain ⟨ad', e', hl, _⟩ := h.1.2 h0
  rw [e] at e'; injection e' with e'; rw [e']; exact hl
/-- a list of ranges (or spans) that lies where R holds -/
def Lst (w : World) (R : Nat → Prop) (A : Option Addr) (n c : Nat) (s : Sp.S) : Prop := IsS w w.heap.size A n s ∧ n ≤ c ∧ c ≤ 9223372036854775807 ∧ ∀ ad, A = some ad → 0 < n → R ad.block
theorem Lst.chg {w w' : World} {R Y : Nat → Prop} {A : Option Addr} {n c : Nat} {s : Sp.S} (h : Lst w R A n c s) (hc : ChgP Y w w') (hY : ∀ k, R k → ¬ Y k) : Lst w' R A n c s :=
  ⟨((IsS.same h.1 (fun ad e h0 => hc.block _ (IsS.lt h.1 h0 ad e) (hY _ (h.2.2.2 ad e h0)))).more hc.size), h.2⟩
theorem Lst.mono {w : World} {R R' : Nat → Prop} {A : Option Addr} {n c : Nat} {s : Sp.S} (h : Lst w R A n c s) (hR : ∀ k, R k → R' k) : Lst w R' A n c s := ⟨h.1, h.2.1, h.2.2.1, fun ad e h0 => hR _ (h.2.2.2 ad e h0)⟩
/-- a count, one more (in 64 bits) -/
def cInc (n : Int) : Int := IntKind.i64.wrap (n + 1)
/-- a machine, plain -/
structure PM where
  rams : List (Nat × Nat)
  devs : List (Nat × Nat)
  mem : Nat → Nat
  loads : Int
  stores : Int
  strays : Int
/-- is an address on the bus? -/
def on (l : List (Nat × Nat)) (p : Nat) : Bool := l.any fun r => decide (r.1 ≤ p ∧ p < r.1 + r.2)
/-- a page's cells -/
def leafRow (mem : Nat → Nat) (k : Nat) : List Value := (List.range 4096).map fun i => u8 (mem (4096 * k + i))
theorem leafRow_len (mem : Nat → Nat) (k : Nat) : (leafRow mem k).length = 4096 := by rw [leafRow, List.length_map, List.length_range]
theorem leafRow_get (mem : Nat → Nat) (k i : Nat) (hi : i < 4096) : (leafRow mem k)[i]? = some (u8 (mem (4096 * k + i))) := by
  rw [leafRow, List.getElem?_map, List.getElem?_range hi]; rfl
/-- does a page hold a byte that is not 0? -/
def nz (mem : Nat → Nat) (k : Nat) : Prop := ∃ i, i < 4096 ∧ mem (4096 * k + i) ≠ 0
/-- A MACHINE LIES AT g: what may turn with it, Z holds of; where its lists lie, R holds of. -/
structure MachAt (Z R : Nat → Prop) (w : World) (g : Nat) (M : PM) (A1 A2 Ao : Option Addr) (c1 c2 no co b : Nat) (pm : Nat → Option Nat) (sp : Sp.S) : Prop where
  row : Row w g 121 [.int .i64 M.loads, .int .i64 M.stores, .int .i64 M.strays, .slice A1 M.rams.length c1, .slice A2 M.devs.length c2, .slice Ao no co, .map (some b)]
  zg : Z g
  zb : Z b
  l1 : Lst w R A1 M.rams.length c1 M.rams
  l2 : Lst w R A2 M.devs.length c2 M.devs
  lo : Lst w R Ao no co sp
  nrm : Sp.Nrm TOP sp ∧ no ≤ 2199023255552
  has : ∀ p, p ≤ TOP → Sp.has sp p = !on (M.rams ++ M.devs) p
  lim : ∀ p, on (M.rams ++ M.devs) p = true → p < 4294967296
  map : MapAt w b pm
  leaf : ∀ k p, pm k = some p → Row w p 148 (leafRow M.mem k) ∧ Z p ∧ nz M.mem k
  inj : ∀ k k' p, pm k = some p → pm k' = some p → k = k'
  zero : ∀ k, pm k = none → ∀ i, i < 4096 → M.mem (4096 * k + i) = 0
  byte : ∀ p, M.mem p < 256
  dis : ∀ k, Z k → ¬ R k
def Mach (Z R : Nat → Prop) (w : World) (g : Nat) (M : PM) : Prop := ∃ A1 A2 Ao c1 c2 no co b pm sp, MachAt Z R w g M A1 A2 Ao c1 c2 no co b pm sp
/-- what turns elsewhere does not touch it -/
theorem MachAt.chg {Z R Y : Nat → Prop} {w w' : World} {g : Nat} {M : PM} {A1 A2 Ao : Option Addr} {c1 c2 no co b : Nat} {pm : Nat → Option Nat} {sp : Sp.S} (h : MachAt Z R w g M A1 A2 Ao c1 c2 no co b pm sp) (hc : ChgP Y w w') (hY : ∀ k, Z k ∨ R k → ¬ Y k) : MachAt Z R w' g M A1 A2 Ao c1 c2 no co b pm sp :=
  ⟨hc.row h.row (hY _ (.inl h.zg)), h.zg, h.zb, h.l1.chg hc (fun k hk => hY k (.inr hk)), h.l2.chg hc (fun k hk => hY k (.inr hk)), h.lo.chg hc (fun k hk => hY k (.inr hk)), h.nrm, h.has, h.lim,
    h.map.same (hc.block b h.map.lt (hY _ (.inl h.zb))), fun k p hp => by
      obtain ⟨h1, h2, h3⟩ := h.leaf k p hp
      exact ⟨hc.row h1 (hY _ (.inl h2)), h2, h3⟩, h.inj, h.zero, h.byte, h.dis⟩
theorem Mach.chg {Z R Y : Nat → Prop} {w w' : World} {g : Nat} {M : PM} (h : Mach Z R w g M) (hc : ChgP Y w w') (hY : ∀ k, Z k ∨ R k → ¬ Y k) : Mach Z R w' g M := by
  obtain ⟨A1, A2, Ao, c1, c2, no, co, b, pm, sp, h⟩ := h
  exact ⟨A1, A2, Ao, c1, c2, no, co, b, pm, sp, h.chg hc hY⟩
/-- new blocks alone: it stands -/
theorem MachAt.below {Z R : Nat → Prop} {w w' : World} {g : Nat} {M : PM} {A1 A2 Ao : Option Addr} {c1 c2 no co b : Nat} {pm : Nat → Option Nat} {sp : Sp.S} (h : MachAt Z R w g M A1 A2 Ao c1 c2 no co b pm sp) (hc : Below w.heap.size w w') : MachAt Z R w' g M A1 A2 Ao c1 c2 no co b pm sp :=
  h.chg (Y := fun _ => False) (ChgP.of_below hc) (fun _ _ h => h)
/-- more may turn with it, more may bear lists -/
theorem MachAt.mono {Z R Z' R' : Nat → Prop} {w : World} {g : Nat} {M : PM} {A1 A2 Ao : Option Addr} {c1 c2 no co b : Nat} {pm : Nat → Option Nat} {sp : Sp.S} (h : MachAt Z R w g M A1 A2 Ao c1 c2 no co b pm sp) (hZ : ∀ k, Z k → Z' k) (hR : ∀ k, R k → R' k) (hd : ∀ k, Z' k → ¬ R' k) : MachAt Z' R' w g M A1 A2 Ao c1 c2 no co b pm sp :=
  ⟨h.row, hZ _ h.zg, hZ _ h.zb, h.l1.mono hR, h.l2.mono hR, h.lo.mono hR, h.nrm, h.has, h.lim, h.map, fun k p hp => by
    obtain ⟨h1, h2, h3⟩ := h.leaf k p hp
    exact ⟨h1, hZ _ h2, h3⟩, h.inj, h.zero, h.byte, hd⟩
theorem Lst.isSet {w : World} {R : Nat → Prop} {A : Option Addr} {n c : Nat} {s : Sp.S} (h : Lst w R A n c s) (hn : Sp.Nrm TOP s ∧ n ≤ 2199023255552) : IsSet w A n c s := ⟨h.1, h.2.1, h.2.2.1, hn.1, hn.2⟩
end Bu
end Go.Proofs.Ytfpofaniicegaaa

/- The walk of bus.each, once for each closure that is handed to it. -/
set_option linter.unusedVariables false
set_option linter.unusedSimpArgs false
namespace Go.Proofs.Ytfpofaniicegaaa
open Go.RowKit
open S64
namespace Bu
/-- how many bytes of the page are meant -/
def eachK (at_ n d : Nat) : Nat := min (4096 - (at_ + d) % 4096) (n - d)
theorem eachK_pos {at_ n d : Nat} (h : d < n) : 0 < eachK at_ n d ∧ d + eachK at_ n d ≤ n ∧ (at_ + d) % 4096 + eachK at_ n d ≤ 4096 := by
  unfold eachK
  omega
set_option maxRecDepth 100000 in
set_option maxHeartbeats 1000000 in
theorem each_bytes (c1 c2 : Nat) (at_ n : Nat) (Inv : Nat → World → Prop) (w : World) (h64 : n = 0 ∨ at_ + n ≤ 4503599627370496) (ha : at_ ≤ TOP) (hi : Inv 0 w)
    (hcall : ∀ d wx, Inv d wx → d < n → Calls Try.prog 74 #[.int .u64 (((at_ + d) / 4096 : Nat) : Int), .int .i64 (((at_ + d) % 4096 : Nat) : Int), .int .i64 (eachK at_ n d : Nat), .int .i64 (d : Nat), .pointer (some ⟨c1, 0, none⟩), .pointer (some ⟨c2, 0, none⟩)] wx fun e w' => e = .returned (.tuple #[]) ∧ Inv (d + eachK at_ n d) w') :
    Calls Try.prog 70 #[.int .u64 (at_ : Nat), .int .i64 (n : Nat), .func (.func 74) #[] #[.pointer (some ⟨c1, 0, none⟩), .pointer (some ⟨c2, 0, none⟩)]] w fun e w' => e = .returned (.tuple #[]) ∧ Inv n w' := by
  have HC := Lib.hid hcall
  have HI := Lib.hid hi
  have H64 := Lib.hid h64
  clear hcall hi h64
  go_enter Try.func70, Try.ntmps70
  go_wp2_with fail
  go_loopw [6] (fun i wr => ∃ d : Nat, d ≤ n ∧ i = .int .i64 (d : Nat) ∧ Hid (Inv d wr)) (fun i _ => n - (intOf i).toNat)
  case atStart => exact ⟨0, Nat.zero_le _, rfl, HI⟩
  case round =>
    clear HI
    obtain ⟨d, hd, rfl, HI⟩ := hrel
    by_cases hlt : d < n
    · have hA : at_ + d ≤ 4503599627370496 := by rcases H64.out with h | h <;> omega
      obtain ⟨f, hf⟩ : ∃ f, f = (at_ + d) % 4096 := ⟨_, rfl⟩
      obtain ⟨q, hq⟩ : ∃ q, q = (at_ + d) / 4096 := ⟨_, rfl⟩
      obtain ⟨k, hk⟩ : ∃ k, k = eachK at_ n d := ⟨_, rfl⟩
      have hn : n ≤ 4503599627370496 := by rcases H64.out with h | h <;> omega
      have e2 : ((at_ : Int) + (d : Int)) % 4096 = (f : Int) := by omega
      have e3 : ((at_ : Int) + (d : Int)) / 4096 = (q : Int) := by omega
      have hfb : f < 4096 := by omega
      have hqb : q ≤ 4503599627370496 := by omega
      have e4 : min ((4096 : Int) - (f : Int)) ((n : Int) - (d : Int)) = (k : Int) := by rw [hk, eachK, ← hf]; omega
      have hk3 := eachK_pos (at_ := at_) hlt
      rw [← hk] at hk3
      have hkb : k ≤ 4096 := by omega
      have hkn : d + k ≤ n := hk3.2.1
      have HK := Lib.hid hk3
      have HCA := HC.out d _ HI.out hlt
      rw [← hf, ← hq, ← hk] at HCA
      have HCB := Lib.hid HCA
      have HE4 := Lib.hid e4
      clear HCA hk3 hf hq hk e4
      by_cases hle : (n : Int) - (d : Int) < 4096 - (f : Int)
      · have hk4 : ((k : Nat) : Int) = (n : Int) - (d : Int) := by have := HE4.out; omega
        have HK4 := Lib.hid hk4
        have H1 := HCB.out
        rw [hk4] at H1
        clear hk4
        have HC2 := Lib.hid H1
        clear H1
        go_wp2_with fail
        refine HC2.out.mono ?_
        rintro e w2 ⟨rfl, hI⟩
        have HI2 := Lib.hid hI
        clear hI HC2 HCB
        go_wp2_with fail
        go_roundw
        case rel => exact ⟨d + k, hkn, by rw [Int.natCast_add, HK4.out], HI2⟩
        case measure => have := HK.out; have := HK4.out; simp [intOf]; omega
      · have hk4 : ((k : Nat) : Int) = 4096 - (f : Int) := by have := HE4.out; omega
        have HK4 := Lib.hid hk4
        have H1 := HCB.out
        rw [hk4] at H1
        clear hk4
        have HC2 := Lib.hid H1
        clear H1
        go_wp2_with fail
        refine HC2.out.mono ?_
        rintro e w2 ⟨rfl, hI⟩
        have HI2 := Lib.hid hI
        clear hI HC2 HCB
        go_wp2_with fail
        go_roundw
        case rel => exact ⟨d + k, hkn, by rw [Int.natCast_add, HK4.out], HI2⟩
        case measure => have := HK.out; have := HK4.out; simp [intOf]; omega
    · have HD : Hid (d = n) := Lib.hid (by omega)
      go_wp2_with fail
      go_end0
      refine ⟨rfl, ?_⟩
      have := HI.out
      rw [HD.out] at this
      exact this
set_option maxRecDepth 100000 in
set_option maxHeartbeats 1000000 in
theorem each_lay (c1 c2 : Nat) (at_ n : Nat) (Inv : Nat → World → Prop) (w : World) (h64 : n = 0 ∨ at_ + n ≤ 4503599627370496) (ha : at_ ≤ TOP) (hi : Inv 0 w)
    (hcall : ∀ d wx, Inv d wx → d < n → Calls Try.prog 71 #[.int .u64 (((at_ + d) / 4096 : Nat) : Int), .int .i64 (((at_ + d) % 4096 : Nat) : Int), .int .i64 (eachK at_ n d : Nat), .int .i64 (d : Nat), .pointer (some ⟨c1, 0, none⟩), .pointer (some ⟨c2, 0, none⟩)] wx fun e w' => e = .returned (.tuple #[]) ∧ Inv (d + eachK at_ n d) w') :
    Calls Try.prog 70 #[.int .u64 (at_ : Nat), .int .i64 (n : Nat), .func (.func 71) #[] #[.pointer (some ⟨c1, 0, none⟩), .pointer (some ⟨c2, 0, none⟩)]] w fun e w' => e = .returned (.tuple #[]) ∧ Inv n w' := by
  have HC := Lib.hid hcall
  have HI := Lib.hid hi
  have H64 := Lib.hid h64
  clear hcall hi h64
  go_enter Try.func70, Try.ntmps70
  go_wp2_with fail
  go_loopw [6] (fun i wr => ∃ d : Nat, d ≤ n ∧ i = .int .i64 (d : Nat) ∧ Hid (Inv d wr)) (fun i _ => n - (intOf i).toNat)
  case atStart => exact ⟨0, Nat.zero_le _, rfl, HI⟩
  case round =>
    clear HI
    obtain ⟨d, hd, rfl, HI⟩ := hrel
    by_cases hlt : d < n
    · have hA : at_ + d ≤ 4503599627370496 := by rcases H64.out with h | h <;> omega
      obtain ⟨f, hf⟩ : ∃ f, f = (at_ + d) % 4096 := ⟨_, rfl⟩
      obtain ⟨q, hq⟩ : ∃ q, q = (at_ + d) / 4096 := ⟨_, rfl⟩
      obtain ⟨k, hk⟩ : ∃ k, k = eachK at_ n d := ⟨_, rfl⟩
      have hn : n ≤ 4503599627370496 := by rcases H64.out with h | h <;> omega
      have e2 : ((at_ : Int) + (d : Int)) % 4096 = (f : Int) := by omega
      have e3 : ((at_ : Int) + (d : Int)) / 4096 = (q : Int) := by omega
      have hfb : f < 4096 := by omega
      have hqb : q ≤ 4503599627370496 := by omega
      have e4 : min ((4096 : Int) - (f : Int)) ((n : Int) - (d : Int)) = (k : Int) := by rw [hk, eachK, ← hf]; omega
      have hk3 := eachK_pos (at_ := at_) hlt
      rw [← hk] at hk3
      have hkb : k ≤ 4096 := by omega
      have hkn : d + k ≤ n := hk3.2.1
      have HK := Lib.hid hk3
      have HCA := HC.out d _ HI.out hlt
      rw [← hf, ← hq, ← hk] at HCA
      have HCB := Lib.hid HCA
      have HE4 := Lib.hid e4
      clear HCA hk3 hf hq hk e4
      by_cases hle : (n : Int) - (d : Int) < 4096 - (f : Int)
      · have hk4 : ((k : Nat) : Int) = (n : Int) - (d : Int) := by have := HE4.out; omega
        have HK4 := Lib.hid hk4
        have H1 := HCB.out
        rw [hk4] at H1
        clear hk4
        have HC2 := Lib.hid H1
        clear H1
        go_wp2_with fail
        refine HC2.out.mono ?_
        rintro e w2 ⟨rfl, hI⟩
        have HI2 := Lib.hid hI
        clear hI HC2 HCB
        go_wp2_with fail
        go_roundw
        case rel => exact ⟨d + k, hkn, by rw [Int.natCast_add, HK4.out], HI2⟩
        case measure => have := HK.out; have := HK4.out; simp [intOf]; omega
      · have hk4 : ((k : Nat) : Int) = 4096 - (f : Int) := by have := HE4.out; omega
        have HK4 := Lib.hid hk4
        have H1 := HCB.out
        rw [hk4] at H1
        clear hk4
        have HC2 := Lib.hid H1
        clear H1
        go_wp2_with fail
        refine HC2.out.mono ?_
        rintro e w2 ⟨rfl, hI⟩
        have HI2 := Lib.hid hI
        clear hI HC2 HCB
        go_wp2_with fail
        go_roundw
        case rel => exact ⟨d + k, hkn, by rw [Int.natCast_add, HK4.out], HI2⟩
        case measure => have := HK.out; have := HK4.out; simp [intOf]; omega
    · have HD : Hid (d = n) := Lib.hid (by omega)
      go_wp2_with fail
      go_end0
      refine ⟨rfl, ?_⟩
      have := HI.out
      rw [HD.out] at this
      exact this
end Bu
end Go.Proofs.Ytfpofaniicegaaa

/- The walks of the book's small helpers over bytes: Beyond, Same, Roomy, Intact. -/
set_option linter.unusedVariables false
set_option linter.unusedSimpArgs false
namespace Go.Proofs.Ytfpofaniicegaaa
open Go.RowKit

def i64 (x : Nat) : Value := .int .i64 (x : Int)
/-- are so many, together, above what is left? -/
def beyondL : Nat → List Nat → Bool
  | _, [] => false
  | left, x :: r => if left < x then true else beyondL (left - x) r
theorem form_of {α : Type} (f : α → Value) (d : α) {w : World} {B n : Nat} {A : Option Addr} {xs : List α} (h : Reads w B 1 A n (xs.map f)) :
    xs.length = n ∧ ∃ b off, Hid (0 < n → A = some ⟨b, off, none⟩ ∧ b < B ∧ ∀ k, k < n → w.cell? ⟨b, off + k, none⟩ = some (f (xs.getD k d))) := by
  have hl : xs.length = n := by have := h.1; simpa using this
  refine ⟨hl, ?_⟩
  rcases Nat.eq_zero_or_pos n with h0 | h0
  · exact ⟨0, 0, fun h => absurd h (by omega)⟩
  · obtain ⟨⟨b, off, sp⟩, rfl, hb, hc⟩ := h.2 h0
    have hx : ∀ k, k < n → (xs.map f)[k]? = some (f (xs.getD k d)) := fun k hk => by
      simp [List.getD_eq_getElem?_getD, show k < xs.length by omega]
    have hs : sp = none := by
      have := World.cell?_spot (hc 0 _ (hx 0 h0))
      simpa [Addr.add] using this
    subst hs
    refine ⟨b, off, fun _ => ⟨rfl, hb, fun k hk => ?_⟩⟩
    have := hc k _ (hx k hk)
    unfold Addr.add at this
    split at this
    · rename_i h0; subst h0; simpa using this
    · simpa using this
theorem drop_at {α : Type} (d : α) (xs : List α) (k : Nat) (h : k < xs.length) : xs.drop k = xs.getD k d :: xs.drop (k + 1) := by
  rw [List.drop_eq_getElem_cons h]; simp [List.getD_eq_getElem?_getD, h]

set_option maxHeartbeats 400000 in
theorem same_any (A A' : Option Addr) (n n' c c' : Nat) (xs ys : List Nat) (w : World) (ha : IsB w w.heap.size A n xs) (hb : IsB w w.heap.size A' n' ys) :
    Calls Try.prog 23 #[.slice A n c, .slice A' n' c'] w fun e w' => e = .returned (.bool (decide (xs = ys))) ∧ ∃ m, w' = w.drewN m := by
  obtain ⟨b, off, HF⟩ := ha.form
  obtain ⟨b', off', HF'⟩ := hb.form
  have HL := Lib.hid ha.len
  have HL' := Lib.hid hb.len
  have hn := ha.2.2
  by_cases hnn : n = n'
  · subst hnn
    have hne : ((n : Int) != (n : Int)) = false := by simp
    go_enter Try.func23, Try.ntmps23
    go_wp2
    go_loopw [5] (fun i wr => ∃ j m : Nat, j ≤ n ∧ i = .int .i64 j ∧ wr = w.drewN m ∧ Hid (xs.take j = ys.take j)) (fun i _ => n - (intOf i).toNat)
    case atStart => exact ⟨0, 0, by omega, rfl, rfl, Lib.hid rfl⟩
    case round =>
      obtain ⟨j, m, hj, rfl, rfl, HE⟩ := hrel
      by_cases hjn : j < n
      · obtain ⟨hA, hbB, hc⟩ := HF.out (by omega)
        obtain ⟨hA', hbB', hc'⟩ := HF'.out (by omega)
        subst hA
        subst hA'
        have hcj := hc j hjn
        have hcj' := hc' j hjn
        have ht := take_snoc xs j (by have := HL.out; omega)
        have ht' := take_snoc ys j (by have := HL'.out; omega)
        have hjl : (j : Int) < (n : Int) := by omega
        obtain ⟨x, hx⟩ : ∃ x, x = xs.getD j 0 := ⟨_, rfl⟩
        obtain ⟨y, hy⟩ : ∃ y, y = ys.getD j 0 := ⟨_, rfl⟩
        rw [← hx] at hcj ht
        rw [← hy] at hcj' ht'
        have HT := Lib.hid ht
        have HT' := Lib.hid ht'
        clear hc hc' ht ht' hx hy
        by_cases hxy : x = y
        · subst hxy
          have hq : ((x : Int) != (x : Int)) = false := by simp
          go_wp2
          go_quiet (fail)
          go_wp2
          go_roundw
          case rel => exact ⟨j + 1, _, by omega, by go_num, rfl, Lib.hid (by rw [HT.out, HT'.out, HE.out])⟩
          case measure => simp [intOf]; omega
        · have hq : ((x : Int) != (y : Int)) = true := by rw [bne_iff_ne]; omega
          have HX := Lib.hid hxy; clear hxy
          go_wp2
          go_quiet (fail)
          go_wp2
          go_ret
          refine ⟨ret_bool (Eq.symm (decide_eq_false fun h => HX.out ?_)), _, by rw [World.drewN_drewN]⟩
          have h1 := HT.out
          rw [h, HT'.out] at h1
          simpa using (List.append_inj_right' h1 rfl).symm
      · have HJ : Hid (j = n) := Lib.hid (by omega)
        go_wp2
        go_ret
        refine ⟨ret_bool (Eq.symm (decide_eq_true ?_)), _, rfl⟩
        have h1 := HE.out
        rw [HJ.out] at h1
        rwa [List.take_of_length_le (by have := HL.out; omega), List.take_of_length_le (by have := HL'.out; omega)] at h1
  · have hne : ((n : Int) != (n' : Int)) = true := by rw [bne_iff_ne]; omega
    have HN := Lib.hid hnn; clear hnn
    go_enter Try.func23, Try.ntmps23
    go_wp2
    go_ret
    exact ⟨ret_bool (Eq.symm (decide_eq_false fun h => HN.out (by rw [← HL.out, ← HL'.out, h]))), 0, rfl⟩

theorem madeCells_one (z : Value) (n : Nat) : madeCells #[z] n = (List.replicate n z).toArray := by
  unfold madeCells
  apply Array.ext
  · simp
  · intro i h1 h2
    simp [Nat.mod_one]
/-- what Roomy fills: the list, k marks, what is not filled yet -/
def fillM (X : List Value) (M : Value) (k : Nat) : List Value := X ++ (List.replicate k M ++ List.replicate (80 - k) (.int .u8 0))
theorem fillM_len (X : List Value) (M : Value) (k : Nat) (hk : k ≤ 80) : (fillM X M k).length = X.length + 80 := by simp [fillM]; omega
theorem fillM_set (X : List Value) (M : Value) (k : Nat) (hk : k < 80) : (fillM X M k).set (X.length + k) M = fillM X M (k + 1) := by
  unfold fillM
  rw [List.set_append_right _ _ (by omega), List.set_append_right _ _ (by simp)]
  congr 1
  rw [show 80 - k = (80 - (k + 1)) + 1 by omega, List.replicate_succ, List.replicate_succ']
  simp
theorem fillM_get (X : List Value) (M : Value) (k : Nat) (hk : k < 80) : (fillM X M k)[X.length + k]? = some (.int .u8 0) := by
  unfold fillM
  rw [List.getElem?_append_right (by omega), List.getElem?_append_right (by simp)]
  have : 80 - k ≠ 0 := by omega
  rw [List.getElem?_replicate, if_pos (by rw [List.length_replicate]; omega)]
theorem fillM_start (X : List Value) (M : Value) : splice (List.replicate (X.length + 80) (.int .u8 0)) 0 X = fillM X M 0 := by
  simp [splice, fillM]
theorem fillM_end (X : List Value) (M : Value) : fillM X M 80 = X ++ List.replicate 80 M := by simp [fillM]
theorem info5 : (Try.prog.info? 5).map (fun i => (i.zero, i.size, i.bytes)) = some (some (.int .u8 0), 1, 1) := by kernel_rfl
theorem size5 : (Try.prog.info? 5).map (·.size) = some 1 := by kernel_rfl

theorem same_yes (A A' : Option Addr) (n c c' : Nat) (xs : List Nat) (w : World) (ha : IsB w w.heap.size A n xs) (hb : IsB w w.heap.size A' n xs) :
    Calls Try.prog 23 #[.slice A n c, .slice A' n c'] w fun e w' => e = .returned (.bool true) ∧ ∃ m, w' = w.drewN m := by
  have h := same_any A A' n n c c' xs xs w ha hb
  rwa [decide_eq_true (rfl : xs = xs)] at h
theorem fillM_end_get (X : List Value) (M : Value) (k : Nat) (hk : k < 80) : (fillM X M 80)[X.length + k]? = some M := by
  rw [fillM_end, List.getElem?_append_right (by omega), List.getElem?_replicate, if_pos (by omega)]
theorem fillM_take (X : List Value) (M : Value) : ((fillM X M 80).drop 0).take X.length = X := by
  rw [fillM_end]; simp
theorem room_isB {w : World} {g n m B : Nat} {bs : List Nat} (h : Row w g 5 (fillM (bs.map u8) (u8 m) 80)) (hl : bs.length = n) (hb : ∀ b ∈ bs, b < 256) (hB : g < B) (hn : n ≤ 9223372036854775807) : IsB w B (some ⟨g, 0, none⟩) n bs := by
  refine IsB.of_row h ?_ hl hb hB hn ?_
  · have := fillM_take (bs.map u8) (u8 m)
    rwa [List.length_map, hl] at this
  · rw [fillM_len _ _ _ (by omega)]; simp; omega

end Go.Proofs.Ytfpofaniicegaaa
