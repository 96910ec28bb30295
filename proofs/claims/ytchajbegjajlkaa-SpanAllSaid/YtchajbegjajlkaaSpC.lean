/- What may change and what stays; a range over a function whose iterator keeps state in cells of its own: what the iterator promises, and the caller's law. -/
import Derived.RangeFuncNested
import Derived.RangeFuncBound
import Derived.RangeFuncCalls
import Derived.RangeFuncLeaves
import Derived.Test.YtchajbegjajlkaaEl
set_option linter.unusedVariables false
set_option linter.unusedSimpArgs false
namespace Go.Proofs.Ytchajbegjajlkaa
open Go.RowKit
namespace Bu
/-- nothing that was there has changed but, at most, what Z holds of -/
structure ChgP (Z : Nat → Prop) (w w' : World) : Prop where
  os : w'.os = w.os
  tape : w'.tape = w.tape
  output : w'.output = w.output
  size : w.heap.size ≤ w'.heap.size
  block : ∀ k, k < w.heap.size → ¬ Z k → w'.heap[k]? = w.heap[k]?
/-- what Z holds of, and all that is new -/
def grow (Z : Nat → Prop) (w : World) : Nat → Prop := fun k => Z k ∨ w.heap.size ≤ k
theorem ChgP.refl (Z : Nat → Prop) (w : World) : ChgP Z w w := ⟨rfl, rfl, rfl, Nat.le_refl _, fun _ _ _ => rfl⟩
theorem ChgP.of_below {Z : Nat → Prop} {w w' : World} (h : Below w.heap.size w w') : ChgP Z w w' := ⟨h.os, h.tape, h.output, h.size, fun k hk _ => h.block k hk⟩
theorem ChgP.trans {Z Y : Nat → Prop} {a b c : World} (h : ChgP Z a b) (k : ChgP Y b c) (hs : ∀ x, Y x → Z x ∨ a.heap.size ≤ x) : ChgP Z a c :=
  ⟨k.os.trans h.os, k.tape.trans h.tape, k.output.trans h.output, Nat.le_trans h.size k.size, fun i hi hn => (k.block i (Nat.lt_of_lt_of_le hi h.size) (fun hm => by rcases hs i hm with h1 | h1; exact hn h1; omega)).trans (h.block i hi hn)⟩
theorem ChgP.mono {Z Y : Nat → Prop} {a b : World} (h : ChgP Z a b) (hs : ∀ x, Z x → Y x ∨ a.heap.size ≤ x) : ChgP Y a b :=
  ⟨h.os, h.tape, h.output, h.size, fun i hi hn => h.block i hi (fun hm => by rcases hs i hm with h1 | h1; exact hn h1; omega)⟩
theorem ChgP.below {Z : Nat → Prop} {B : Nat} {w w' : World} (h : ChgP Z w w') (hB : B ≤ w.heap.size) (hS : ∀ x, Z x → B ≤ x) : Below B w w' :=
  ⟨h.os, h.tape, h.output, h.size, fun k hk => h.block k (by omega) (fun hm => by have := hS k hm; omega)⟩
theorem ChgP.row {Z : Nat → Prop} {w w' : World} {g : Nat} {t : TypeId} {cs : List Value} (h : ChgP Z w w') (hr : Row w g t cs) (hg : ¬ Z g) : Row w' g t cs := (h.block g hr.lt hg).trans hr
theorem ChgP.set_ {Z : Nat → Prop} {a w : World} (h : ChgP Z a w) {p : Addr} (hp : Z p.block ∨ a.heap.size ≤ p.block) (u : Value) : ChgP Z a (w.setCell p u) :=
  ⟨h.os, h.tape, h.output, by simpa [World.setCell] using h.size, fun i hi hn => (Below.heap_setCell w p u i (fun e => by subst e; rcases hp with h1 | h1; exact hn h1; omega)).trans (h.block i hi hn)⟩
theorem ChgP.alloc {Z : Nat → Prop} {a w : World} (h : ChgP Z a w) (o : Obj) : ChgP Z a (w.alloc o) :=
  ⟨h.os, h.tape, h.output, Nat.le_trans h.size (by simp), fun i hi hn => (Below.heap_alloc w o i (Nat.lt_of_lt_of_le hi h.size)).trans (h.block i hi hn)⟩
theorem ChgP.drew {Z : Nat → Prop} {a w : World} (h : ChgP Z a w) : ChgP Z a w.drew := ⟨h.os, h.tape, h.output, h.size, h.block⟩
theorem ChgP.drewN {Z : Nat → Prop} {a w : World} (h : ChgP Z a w) (n : Nat) : ChgP Z a (w.drewN n) := ⟨h.os, h.tape, h.output, h.size, h.block⟩
theorem ChgP.grown {Z : Nat → Prop} {a w w' : World} {row : Option Nat} (h : ChgP Z a w) (hg : w.grownBy w' row) (hr : ∀ k, row = some k → Z k ∨ a.heap.size ≤ k) : ChgP Z a w' :=
  ⟨hg.os.trans h.os, hg.tape.trans h.tape, hg.output.trans h.output, Nat.le_trans h.size hg.size, fun i hi hn => (hg.block i (Nat.lt_of_lt_of_le hi h.size) (fun e => by rcases hr i e.symm with h1 | h1; exact hn h1; omega)).trans (h.block i hi hn)⟩
/-- reading goes on where the block is as it was -/
theorem reads_same {w w' : World} {B size n : Nat} {A : Option Addr} {xs : List Value} (h : Reads w B size A n xs) (hb : ∀ ad, A = some ad → 0 < n → w'.heap[ad.block]? = w.heap[ad.block]?) : Reads w' B size A n xs :=
  ⟨h.1, fun hn => by
    obtain ⟨ad, e, hl, hc⟩ := h.2 hn
    refine ⟨ad, e, hl, fun j u hu => ?_⟩
    rw [World.cell?_of_block (w := w)]
    · exact hc j u hu
    · have : (ad.add j).block = ad.block := by unfold Addr.add; split <;> rfl
      rw [this]
      exact hb ad e hn⟩
end Bu
open Bu
/-- blocks that stay as they lie -/
def KpC (prot : Nat → Prop) (w w' : World) : Prop := ChgP (fun k => ¬ prot k) w w'
/-- what is said abides a turn of the blocks of T, and new blocks -/
def AbC {β : Type} (T : Nat → Prop) (J : β → World → Prop) : Prop := ∀ s W W', J s W → ChgP T W W' → J s W'
/-- B and the four blocks behind -/
def upTo (p : Nat → Prop) (B n : Nat) : Nat → Prop := fun k => p k ∨ (B ≤ k ∧ k < B + n)
/-- the iterator's promise: it turns its own three cells, and Z -/
def SeqC {α : Type} (F : Fence) (n : Nat) (P : Program) (g : Nat) (lb : Array Value) (encs : α → Array Value) (Z prot : Nat → Prop) (S Sp : List α → Prop) (L : List α) (m : Nat) (E : World → Prop) (w : World) : Prop :=
  ∀ (l : Nat) (J Jx : List α → World → Prop) (W : World), Below w.heap.size w W → AbC (upTo Z W.heap.size m) J → AbC (upTo Z W.heap.size m) Jx →
    (∀ pre x W1, J pre W1 → pre ++ [x] <+: L → W.heap.size + m ≤ W1.heap.size → YieldAt F (n - 1) P l (encs x) W1 fun e W' =>
      (e = .returned (.bool true) ∧ J (pre ++ [x]) W' ∧ KpC (upTo prot W.heap.size m) W1 W') ∨ (e = .returned (.bool false) ∧ Jx (pre ++ [x]) W' ∧ KpC (upTo prot W.heap.size m) W1 W')) →
    J [] W →
    CallsIn F n P g (#[.func (.yield l) #[] #[]] ++ lb) W fun e W' => (∃ v, e = .returned v) ∧ ((∃ xs, S xs ∧ J xs W') ∨ (∃ pre, Sp pre ∧ Jx pre W')) ∧ E W'
/-- how the body of a round may be left -/
def postC {α : Type} (prot : Nat → Prop) (I : List α → World → Prop) (Ix : Code → List α → World → Prop) (xs : List α) (W : World) : Exit → Act → World → Prop
  | .normal, _, W' => KpC prot W W' ∧ I xs W'
  | .ret, _, W' => KpC prot W W' ∧ Ix .ret xs W'
  | .exit id, _, W' => KpC prot W W' ∧ Ix (.exit id) xs W'
  | .goto t, _, W' => KpC prot W W' ∧ Ix (.goto t) xs W'
  | .panic _, _, _ => False
  | .outgrown, _, _ => False
theorem chgP_put {Z : Nat → Prop} (W : World) (l : Nat) (o : Obj) (h : Z l) : ChgP Z W (W.putObj l o) :=
  (ChgP.refl Z W).grown (grownBy_putObj' W l o) (fun k e => by cases e; exact .inl h)
theorem KpC.trans {p : Nat → Prop} {a b c : World} (h : KpC p a b) (k : KpC p b c) : KpC p a c := ChgP.trans h k (fun x hx => .inl hx)
theorem KpC.mono {p q : Nat → Prop} {a b : World} (h : KpC p a b) (hs : ∀ x, q x → p x) : KpC q a b := ChgP.mono h (fun x hx => .inl fun hq => hx (hs x hq))
theorem KpC.at_ {p : Nat → Prop} {a b : World} (h : KpC p a b) {k : Nat} (hk : p k) {o : Obj} (ho : a.heap[k]? = some o) : b.heap[k]? = some o := by
  rw [h.block k (Array.getElem?_eq_some_iff.1 ho).1 (fun hn => hn hk)]
  exact ho
variable {F : Fence} {n : Nat} {P : Program}
theorem wpIn_rangeFunc_C {α : Type} {g : Operand} {ps : Array Tmp} {assign body : Code} {Q : Exit → Act → World → Prop} {a : Act} {w : World}
    (hro : F.round = none) (h1 : 1 ≤ n) {gf : Nat} {lb : Array Value} (hg : a.eval g = .func (.func gf) #[] lb) (hFg : F.fn gf) (eg : ∀ args w, (callFunc gf args).run P w = .ok (.enter gf args) w)
    {encs : α → Array Value} {Z prot : Nat → Prop} {S Sp : List α → Prop} {L : List α} {m : Nat} {E : World → Prop} {w0 : World} (hseq : SeqC F (n - 1) P gf lb encs Z prot S Sp L m E w0) (hb0 : Below w0.heap.size w0 w)
    (hZ : ∀ k, Z k → k < w.heap.size) (hpr : ∀ k, prot k → k < w.heap.size) (hps : ∀ x, (encs x).size = ps.size)
    (hE : ∀ A B', E A → ChgP (fun k => w.heap.size ≤ k ∧ k < w.heap.size + (m + 2)) A B' → E B')
    (I : List α → World → Prop) (Ix : Code → List α → World → Prop) (hI : AbC (upTo Z w.heap.size (m + 2)) I) (hIx : ∀ c, AbC (upTo Z w.heap.size (m + 2)) (Ix c)) (h0 : I [] w) (Ax : Act → α → Act → World → Prop)
    (hAx : ∀ x a', AbC (upTo Z w.heap.size (m + 2)) (fun (_ : Unit) W => Ax a x a' W))
    (hassign : ∀ (l : Nat) (pre : List α) (x : α) (W : World) (K : Act → World → Prop), w.heap.size + 2 + m ≤ W.heap.size → I pre W → pre ++ [x] <+: L → (∀ a' W', KpC (upTo prot w.heap.size (m + 2)) W W' → I pre W' → Ax a x a' W' → K a' W') →
      assign.wpIn (F.inRound l) (n - 1 - 1) P (Exit.then K (fun _ _ _ => False)) { tmps := (ps.zip (encs x)).foldl (fun t (p, v) => t.setIfInBounds p v) a.tmps, defers := [] } W)
    (hbody : ∀ (l : Nat) (pre : List α) (x : α) (a' : Act) (W : World), w.heap.size + 2 + m ≤ W.heap.size → I pre W → Ax a x a' W → pre ++ [x] <+: L → body.wpIn (F.inRound l) (n - 1 - 1) P (postC (upTo prot w.heap.size (m + 2)) I Ix (pre ++ [x]) W) a' W)
    (hdone : ∀ (xs : List α) (W : World), S xs → I xs W → E W → W.heap[w.heap.size]? = some (.deferred (some [])) → Q .normal { a with defers := { target := .collected w.heap.size, args := #[] } :: a.defers } W)
    (hstop : ∀ (c : Code) (pre : List α) (W : World), Sp pre → Ix c pre W → E W → W.heap[w.heap.size]? = some (.deferred (some [])) → c.wpIn F n P Q { a with defers := { target := .collected w.heap.size, args := #[] } :: a.defers } W) :
    (Code.rangeFunc g ps assign body).wpIn F n P Q a w := by
  refine wpIn_rangeFunc ?_
  intro fn hfn
  rw [hro]
  obtain ⟨rec, hrec⟩ : ∃ rec : LoopState → Option Code → Loop, rec = fun st pe => { state := st, pending := pe, fn, tmps := a.tmps, params := ps, assign, body, defers := w.heap.size } := ⟨_, rfl⟩
  obtain ⟨W1, hW1⟩ : ∃ W1, (w.alloc (.deferred (some []))).alloc (.loop (rec .ready none)) = W1 := ⟨_, rfl⟩
  have hL1 : W1.heap[w.heap.size + 1]? = some (.loop (rec .ready none)) := by
    rw [← hW1]; have := World.alloc_heap_new (w.alloc (.deferred (some []))) (.loop (rec .ready none)); rwa [World.size_alloc] at this
  have hK1 : W1.heap[w.heap.size]? = some (.deferred (some [])) := by
    rw [← hW1]; exact (Below.heap_alloc _ _ _ (by simp)).trans (World.alloc_heap_new w _)
  have hsz : W1.heap.size = w.heap.size + 2 := by rw [← hW1]; simp
  have hI1 : I [] W1 := by rw [← hW1]; exact hI _ _ _ h0 (((ChgP.refl _ w).alloc _).alloc _)
  have hb1 : Below w0.heap.size w0 W1 := by
    rw [← hW1]; exact hb0.trans ((((Below.refl _ w).alloc (Nat.le_refl _) _).alloc (by simp) _).mono hb0.size)
  refine ⟨w.heap.size + 1, [{ target := .collected w.heap.size, args := #[] }], W1, { target := .fn (.func gf) lb, args := #[.func (.yield (w.heap.size + 1)) #[] #[]] }, W1, gf,
    #[.func (.yield (w.heap.size + 1)) #[] #[]] ++ lb, W1, ?_, ?_, ?_, ?_, fun _ => h1, ?_⟩
  · rw [← hW1, hrec]; exact run_enterLoop_outer _ _ _ _ _
  · simp only [resolve, hg]
    simp [go_sem]
  · intro f' hf'; simp [Target.leads] at hf'; subst hf'; exact hFg
  · simp [invoke, go_sem, eg]
  · have hT : ∀ {β : Type} {J : β → World → Prop}, AbC (upTo Z w.heap.size (m + 2)) J → AbC (upTo Z W1.heap.size m) J := fun h s A B' hs hc => h s A B' hs (hc.mono (fun k hk => .inl (by
      rcases hk with hk | hk
      · exact .inl hk
      · exact .inr (by omega))))
    have hfar : ∀ j, w.heap.size ≤ j → j < w.heap.size + 2 → ¬ upTo Z W1.heap.size m j := fun j hj1 hj2 h => by
      rcases h with h | h
      · have := hZ j h; omega
      · omega
    have hkeep : ∀ {A B' : World} {j : Nat} {o : Obj}, ChgP (upTo Z W1.heap.size m) A B' → w.heap.size ≤ j → j < w.heap.size + 2 → A.heap[j]? = some o → B'.heap[j]? = some o := fun hc hj1 hj2 ho => by
      rw [hc.block _ (Array.getElem?_eq_some_iff.1 ho).1 (hfar _ hj1 hj2)]
      exact ho
    have hput : ∀ (W : World) (o : Obj), ChgP (upTo Z w.heap.size (m + 2)) W (W.putObj (w.heap.size + 1) o) := fun W o => chgP_put W _ o (.inr (by omega))
    have hputK : ∀ (W : World) (o : Obj), KpC (upTo prot W1.heap.size m) W (W.putObj (w.heap.size + 1) o) := fun W o => chgP_put W _ o (fun h => by
      rcases h with h | h
      · have := hpr _ h; omega
      · omega)
    have hKm : ∀ {A B' : World}, KpC (upTo prot w.heap.size (m + 2)) A B' → KpC (upTo prot W1.heap.size m) A B' := fun h => h.mono (fun k hk => by
      rcases hk with hk | hk
      · exact .inl hk
      · exact .inr (by omega))
    refine (hseq (w.heap.size + 1)
      (fun pre W => I pre W ∧ W.heap[w.heap.size + 1]? = some (.loop (rec .ready none)) ∧ W.heap[w.heap.size]? = some (.deferred (some [])))
      (fun pre W => ∃ c, Ix c pre W ∧ W.heap[w.heap.size + 1]? = some (.loop (rec .done (some c))) ∧ W.heap[w.heap.size]? = some (.deferred (some [])))
      W1 hb1
      (fun s A B' hs hc => ⟨hT hI s A B' hs.1 hc, hkeep hc (by omega) (by omega) hs.2.1, hkeep hc (by omega) (by omega) hs.2.2⟩)
      (fun s A B' hs hc => by
        obtain ⟨c, hc1, hl, hk⟩ := hs
        exact ⟨c, hT (hIx c) s A B' hc1 hc, hkeep hc (by omega) (by omega) hl, hkeep hc (by omega) (by omega) hk⟩)
      ?_ ⟨hI1, hL1, hK1⟩).mono ?_
    · rintro pre x W ⟨hi, hl, hk⟩ hlen hsz2
      have hlt : w.heap.size + 1 < W.heap.size := (Array.getElem?_eq_some_iff.1 hl).1
      have hy := run_yield (P := P) (args := encs x) hl (by rw [hrec]; exact hps x)
      rw [hrec] at hy
      refine ⟨fn, _, assign, body, hy, roundIn_of_wpIn hfn (hassign _ pre x W _ (by omega) hi hlen ?_)⟩
      clear hy
      intro a' Wa hkpa hia hax
      have hszW := hkpa.size
      replace hl := hkpa.at_ (.inr (by omega)) hl
      replace hk := hkpa.at_ (.inr (by omega)) hk
      replace hlt : w.heap.size + 1 < Wa.heap.size := (Array.getElem?_eq_some_iff.1 hl).1
      replace hi := hia
      clear hia
      have hszA : w.heap.size + 2 + m ≤ Wa.heap.size := by omega
      clear hszW hsz2
      revert hkpa
      generalize W = Wb
      intro hkpa
      obtain ⟨W, rfl⟩ : ∃ W, W = Wa := ⟨_, rfl⟩
      refine ⟨_, run_beginRound hl (by rw [hrec]), ?_⟩
      have hl2 : (W.putObj (w.heap.size + 1) (.loop { rec .ready none with state := .busy })).heap[w.heap.size + 1]? = some (.loop { rec .ready none with state := .busy }) := World.putObj_heap_same hlt
      have hk2 : (W.putObj (w.heap.size + 1) (.loop { rec .ready none with state := .busy })).heap[w.heap.size]? = some (.deferred (some [])) := (World.putObj_heap_other (by omega)).trans hk
      have hw2 : KpC (upTo prot W1.heap.size m) W (W.putObj (w.heap.size + 1) (.loop { rec .ready none with state := .busy })) := hputK W _
      refine wpIn_mono (hbody _ pre x a' _ (by simp; omega) (hI _ _ _ hi (hput _ _)) (hAx x a' () _ _ hax (hput _ _)) hlen) ?_
      have fin : ∀ (jump : Option Code) (W3 : World), KpC (upTo prot w.heap.size (m + 2)) (W.putObj (w.heap.size + 1) (.loop { rec .ready none with state := .busy })) W3 →
          (Instr.endRound (w.heap.size + 1) jump).run P W3 = .ok (.bool jump.isNone) (W3.putObj (w.heap.size + 1) (.loop (rec (if jump.isNone then .ready else .done) jump))) ∧
          W3.heap[w.heap.size + 1]? = some (.loop { rec .ready none with state := .busy }) ∧
          (W3.putObj (w.heap.size + 1) (.loop (rec (if jump.isNone then .ready else .done) jump))).heap[w.heap.size + 1]? = some (.loop (rec (if jump.isNone then .ready else .done) jump)) ∧
          (W3.putObj (w.heap.size + 1) (.loop (rec (if jump.isNone then .ready else .done) jump))).heap[w.heap.size]? = some (.deferred (some [])) := fun jump W3 hk3 => by
        have hl3 := hk3.at_ (.inr (by omega)) hl2
        have := run_endRound (P := P) jump hl3
        rw [hrec] at this ⊢
        exact ⟨this, by rw [hrec] at hl3; exact hl3, World.putObj_heap_same (Array.getElem?_eq_some_iff.1 hl3).1, (World.putObj_heap_other (by omega)).trans (hk3.at_ (.inr (by omega)) hk2)⟩
      rintro e a3 W3 hp
      cases e with
      | normal =>
        obtain ⟨hkp3, hi3⟩ := hp
        obtain ⟨hr, hl3, hl4, hk4⟩ := fin none W3 hkp3
        exact ⟨_, _, hr, .inl ⟨rfl, ⟨hI _ _ _ hi3 (hput _ _), hl4, hk4⟩, (hKm hkpa).trans (hw2.trans ((hKm hkp3).trans (hputK _ _)))⟩⟩
      | ret =>
        obtain ⟨hkp3, hi3⟩ := hp
        obtain ⟨hr, hl3, hl4, hk4⟩ := fin (some .ret) W3 hkp3
        exact ⟨_, _, hr, .inr ⟨rfl, ⟨.ret, hIx _ _ _ _ hi3 (hput _ _), hl4, hk4⟩, (hKm hkpa).trans (hw2.trans ((hKm hkp3).trans (hputK _ _)))⟩⟩
      | exit id =>
        obtain ⟨hkp3, hi3⟩ := hp
        obtain ⟨hr, hl3, hl4, hk4⟩ := fin (some (.exit id)) W3 hkp3
        exact ⟨_, _, hr, .inr ⟨rfl, ⟨.exit id, hIx _ _ _ _ hi3 (hput _ _), hl4, hk4⟩, (hKm hkpa).trans (hw2.trans ((hKm hkp3).trans (hputK _ _)))⟩⟩
      | goto t =>
        obtain ⟨hkp3, hi3⟩ := hp
        obtain ⟨hr, hl3, hl4, hk4⟩ := fin (some (.goto t)) W3 hkp3
        exact ⟨_, _, hr, .inr ⟨rfl, ⟨.goto t, hIx _ _ _ _ hi3 (hput _ _), hl4, hk4⟩, (hKm hkpa).trans (hw2.trans ((hKm hkp3).trans (hputK _ _)))⟩⟩
      | panic ch => exact hp.elim
      | outgrown => exact hp.elim
    · have hputE : ∀ (W : World) (o : Obj), E W → E (W.putObj (w.heap.size + 1) o) := fun W o h => hE _ _ h (chgP_put W _ o (by omega))
      rintro e W2 ⟨⟨v, rfl⟩, (⟨xs, hS, hi, hl, hk⟩ | ⟨pre, hSp, c, hi, hl, hk⟩), hEw⟩
      · exact ⟨none, _, by have := run_endLoop (P := P) hl (by rw [hrec]; simp); rw [hrec] at this; exact this, hdone xs _ hS (hI _ _ _ hi (hput _ _)) (hputE _ _ hEw) ((World.putObj_heap_other (by omega)).trans hk)⟩
      · exact ⟨some c, _, by have := run_endLoop (P := P) hl (by rw [hrec]; simp); rw [hrec] at this; exact this, hstop c pre _ hSp (hIx c _ _ _ hi (hput _ _)) (hputE _ _ hEw) ((World.putObj_heap_other (by omega)).trans hk)⟩
end Go.Proofs.Ytchajbegjajlkaa
