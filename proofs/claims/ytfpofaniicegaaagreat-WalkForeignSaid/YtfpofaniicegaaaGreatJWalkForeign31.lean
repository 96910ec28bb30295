/- Texts of this claim, one behind the other: RlC, LvA. -/
import Derived.Test.YtfpofaniicegaaaGreatJWalkForeign30
import Derived.Deep.Onto
import Derived.RangeFuncNested
import Derived.RangeFuncBound
import Derived.RangeFuncCalls
import Derived.RangeFuncLeaves
import Derived.Test.YtfpofaniicegaaaGreatJWalkForeign8
/- The walk of the document's Leaves. -/
set_option linter.unusedVariables false
set_option linter.unusedSimpArgs false
namespace Go.Proofs.YtfpofaniicegaaaGreat
open Go.RowKit
open S64
namespace Bu
/-- does Leaves come to the end? -/
def endsI (M : PM) (root : Nat) (most : Int) : Bool := if most < 1 then false else lvEnds M root most.toNat
/-- what the document's Leaves answers -/
def RlSaid (Z : Nat → Prop) (B g : Nat) (M : PM) (root : Nat) (most : Int) (w : World) (e : Ending) (w' : World) : Prop :=
  ∃ A c, e = .returned (.tuple #[.slice A (lvs M root most).length c, .bool (endsI M root most)]) ∧ w'.ownsRow w.heap.size 118 7 (.slice A (lvs M root most).length c) (lvs M root most).length (tall (lvs M root most)) ∧ DM Z w' B g M ∧ ChgP Z w w'
set_option maxRecDepth 100000 in
set_option maxHeartbeats 2000000 in
theorem rleaves_any {Z : Nat → Prop} {w : World} {B g : Nat} {M : PM} (h : DM Z w B g M) (root : Nat) (most : Int) (hr : root ≤ 18446744073709551615) (hm : most ≤ 100000) :
    Calls Tryz.prog 46 #[.pointer (some ⟨g, 0, none⟩), .int .u64 (root : Nat), .int .i64 most] w (RlSaid Z B g M root most w) := by
  have HM := Lib.hid h
  clear h
  go_enter Tryz.func46, Tryz.ntmps46
  by_cases h1 : most < 1
  · have e1 : lvs M root most = [] := by unfold lvs; rw [if_pos h1]
    have e2 : endsI M root most = false := by unfold endsI; rw [if_pos h1]
    go_wp2_with fail
    refine bodyPost_ret (v := .tuple #[.slice none 0 0, .bool false]) (by simp [results, Tryz.results46, go_sem]) rfl ⟨none, 0, by rw [e1, e2]; rfl, ?_, HM.out, ChgP.refl _ _⟩
    rw [e1]
    exact World.ownsRow_nil _ _ _ _
  · obtain ⟨n, hn⟩ : ∃ n : Nat, most = (n : Int) := ⟨most.toNat, by omega⟩
    subst hn
    have hn1 : 1 ≤ n := by omega
    by_cases h2 : root % 4096 = 0
    · have h2' : ¬ ((root : Int) % 4096 > 0) := by omega
      have e1 : lvs M root (n : Int) = (lvT M 3 0 root 0 n).1 := by unfold lvs; rw [if_neg h1, if_neg (by omega)]; rfl
      have e2 : endsI M root (n : Int) = decide (0 < (lvT M 3 0 root 0 n).2.1) := by
        unfold endsI lvEnds
        rw [if_neg h1, if_neg (by omega), Int.toNat_natCast]
        have q1 := (lvT_left (M := M) 3 0 root 0 n hn1).2
        have q2 := lvT_stop (M := M) 3 0 root 0 n
        cases hq : (lvT M 3 0 root 0 n).2.2 with
        | true => have := q1 hq; simp; omega
        | false => have := q2 hq; simp; omega
      have E := Lib.hid (And.intro e1 e2)
      have HMI := Lib.hid h1
      clear e1 e2 h1
      go_upto_region 6 with fail
      have hgw : Row (w.alloc (.cells #[.slice none 0 0, .int .i64 (n : Nat)] 140)) w.heap.size 140 [.slice none 0 0, .int .i64 (n : Nat)] := Row.new w _ [.slice none 0 0, .int .i64 (n : Nat)]
      have hdm := HM.out.below (w' := w.alloc (.cells #[.slice none 0 0, .int .i64 (n : Nat)] 140)) ((Below.refl _ _).alloc (Nat.le_refl _) _)
      have hc1 : ChgP Z w (w.alloc (.cells #[.slice none 0 0, .int .i64 (n : Nat)] 140)) := (ChgP.refl _ w).alloc _
      have hB : B ≤ w.heap.size := by
        obtain ⟨_, _, _, _, _, _, _, _, _, _, hd⟩ := HM.out
        exact Nat.le_of_lt (Nat.lt_of_le_of_lt hd.m.gB hd.m.row.lt)
      obtain ⟨gw, hgwe⟩ : ∃ gw, gw = w.heap.size := ⟨_, rfl⟩
      generalize w.alloc (.cells #[.slice none 0 0, .int .i64 (n : Nat)] 140) = w1 at *
      rw [← hgwe] at hgw hB ⊢
      have hus : US Z B g M gw [] n w1 w1 := ⟨hdm, ⟨none, 0, hgw, World.ownsRow_nil _ _ _ _⟩, ChgP.refl _ _, KE.refl _ _⟩
      have hun := under_any (M := M) (fun k hk => by rw [hgwe]; exact (HM.out.lt k hk).2) hB HM.out.byte 3 0 root 0 n [] w1 rfl (by decide) (by omega) (by decide) hn1 (by simp; omega) hus
      have HUN := Lib.hid hun
      have HC1 := Lib.hid hc1; have HGE := Lib.hid hgwe
      clear hun hus hdm hgw hc1 hB hgwe
      go_wp2_with fail
      refine HUN.out.mono ?_
      rintro e w2 ⟨⟨v, rfl⟩, hu⟩
      obtain ⟨hd2, ⟨A, c, hr2, ho2⟩, hc2, _⟩ := hu
      rw [List.nil_append] at hr2 ho2
      have c0 := hr2.cell 0
      have c1 := hr2.cell 1
      have cl := hr2.lt
      simp only [List.getElem?_cons_zero, List.getElem?_cons_succ] at c0 c1
      have HO2 := Lib.hid ho2; have HD2 := Lib.hid hd2; have HC2 := Lib.hid hc2
      clear hr2 ho2 hd2 hc2 HUN
      obtain ⟨ln, hln⟩ : ∃ ln, ln = (lvT M 3 0 root 0 n).1.length := ⟨_, rfl⟩
      obtain ⟨lf, hlf⟩ : ∃ lf, lf = (lvT M 3 0 root 0 n).2.1 := ⟨_, rfl⟩
      rw [← hln] at c0
      rw [← hlf] at c1
      have HLN := Lib.hid hln; have HLF := Lib.hid hlf
      clear hln hlf
      go_wp2_with fail
      go_quiet (fail)
      go_wp2_with fail
      refine bodyPost_ret (v := .tuple #[.slice A ln c, .bool (decide (0 < lf))]) (by simp [results, Tryz.results46, go_sem]) rfl ⟨A, c, by rw [E.out.1, E.out.2, HLN.out, HLF.out], ?_, HD2.out.chg ((ChgP.refl (fun _ => False) _).drewN _) (fun _ _ h => h), ?_⟩
      · rw [E.out.1, ← HGE.out]
        exact (owns_chgP (World.ownsRow.mono HO2.out (by omega)) ((ChgP.refl (fun _ => False) _).drewN _) (fun _ _ h => h))
      · refine (HC1.out.trans HC2.out (fun x hx => ?_)).drewN _
        rcases hx with hx | hx
        · exact .inl hx
        · exact .inr (by rw [← HGE.out]; exact hx)
    · have h2' : (0 : Int) < (root : Int) % 4096 := by omega
      have e1 : lvs M root (n : Int) = [⟨0, 0, 134217728, false, false, false, 42⟩] := by unfold lvs; rw [if_neg h1, if_pos h2]
      have e2 : endsI M root (n : Int) = true := by unfold endsI lvEnds; rw [if_neg h1, if_pos h2]
      go_wp2_with fail
      refine bodyPost_ret (v := .tuple #[.slice (some ⟨w.heap.size, 0, none⟩) 1 1, .bool true]) (by simp [results, Tryz.results46, go_sem]) rfl ⟨some ⟨w.heap.size, 0, none⟩, 1, by rw [e1, e2]; rfl, ?_, HM.out.below ((Below.refl _ _).alloc (Nat.le_refl _) _), (ChgP.refl _ _).alloc _⟩
      rw [e1]
      exact World.ownsRow_lit w (tcell ⟨0, 0, 134217728, false, false, false, 42⟩).toArray 1 (Nat.le_refl _) (by unfold maxLen; omega) rfl
end Bu
end Go.Proofs.YtfpofaniicegaaaGreat

/- A range over a function whose iterator keeps state in cells of its own: what the iterator promises, and the caller's law. -/
set_option linter.unusedVariables false
set_option linter.unusedSimpArgs false
namespace Go.Proofs.YtfpofaniicegaaaGreat
open Go.RowKit
open Bu
/-- blocks that stay as they lie -/
def KpC (prot : Nat → Prop) (w w' : World) : Prop := ChgP (fun k => ¬ prot k) w w'
/-- what is said abides a turn of the blocks of T, and new blocks -/
def AbC {β : Type} (T : Nat → Prop) (J : β → World → Prop) : Prop := ∀ s W W', J s W → ChgP T W W' → J s W'
/-- B and the four blocks behind -/
def upTo (p : Nat → Prop) (B n : Nat) : Nat → Prop := fun k => p k ∨ (B ≤ k ∧ k < B + n)
/-- the iterator's promise: it turns its own three cells, and Z -/
def SeqC {α : Type} (F : Fence) (n : Nat) (P : Program) (g : Nat) (lb : Array Value) (encs : α → Array Value) (Z prot : Nat → Prop) (S Sp : List α → Prop) (L : List α) (m : Nat) (E : World → Prop) (w : World) : Prop :=
  ∀ (l : Nat) (J Jx : List α → World → Prop) (W : World), Below w.heap.size w W → AbC (upTo Z W.heap.size m) J → AbC (upTo Z W.heap.size m) Jx →
    (∀ pre x W1, J pre W1 → pre ++ [x] <+: L → W.heap.size + m ≤ W1.heap.size → YieldAt F (n - 1) P l (encs x) W1 fun e W' =>
      (e = .returned (.bool true) ∧ J (pre ++ [x]) W' ∧ KpC (upTo prot W.heap.size m) W1 W') ∨ (e = .returned (.bool false) ∧ Jx (pre ++ [x]) W' ∧ KpC (upTo prot W.heap.size m) W1 W')) →
    J [] W →
    CallsIn F n P g (#[.func (.yield l) #[] #[]] ++ lb) W fun e W' => (∃ v, e = .returned v) ∧ ((∃ xs, S xs ∧ J xs W') ∨ (∃ pre, Sp pre ∧ Jx pre W')) ∧ E W'
/-- how the body of a round may be left -/
def postC {α : Type} (prot : Nat → Prop) (I : List α → World → Prop) (Ix : Code → List α → World → Prop) (xs : List α) (W : World) : Exit → Act → World → Prop
  | .normal, _, W' => KpC prot W W' ∧ I xs W'
  | .ret, _, W' => KpC prot W W' ∧ Ix .ret xs W'
  | .exit id, _, W' => KpC prot W W' ∧ Ix (.exit id) xs W'
  | .goto t, _, W' => KpC prot W W' ∧ Ix (.goto t) xs W'
  | .panic _, _, _ => False
  | .outgrown, _, _ => False
theorem chgP_put {Z : Nat → Prop} (W : World) (l : Nat) (o : Obj) (h : Z l) : ChgP Z W (W.putObj l o) :=
  (ChgP.refl Z W).grown (grownBy_putObj' W l o) (fun k e => by cases e; exact .inl h)
theorem KpC.trans {p : Nat → Prop} {a b c : World} (h : KpC p a b) (k : KpC p b c) : KpC p a c := ChgP.trans h k (fun x hx => .inl hx)
theorem KpC.mono {p q : Nat → Prop} {a b : World} (h : KpC p a b) (hs : ∀ x, q x → p x) : KpC q a b := ChgP.mono h (fun x hx => .inl fun hq => hx (hs x hq))
theorem KpC.at_ {p : Nat → Prop} {a b : World} (h : KpC p a b) {k : Nat} (hk : p k) {o : Obj} (ho : a.heap[k]? = some o) : b.heap[k]? = some o := by
  rw [h.block k (Array.getElem?_eq_some_iff.1 ho).1 (fun hn => hn hk)]
  exact ho
variable {F : Fence} {n : Nat} {P : Program}
theorem wpIn_rangeFunc_C {α : Type} {g : Operand} {ps : Array Tmp} {assign body : Code} {Q : Exit → Act → World → Prop} {a : Act} {w : World}
    (hro : F.round = none) (h1 : 1 ≤ n) {gf : Nat} {lb : Array Value} (hg : a.eval g = .func (.func gf) #[] lb) (hFg : F.fn gf) (eg : ∀ args w, (callFunc gf args).run P w = .ok (.enter gf args) w)
    {encs : α → Array Value} {Z prot : Nat → Prop} {S Sp : List α → Prop} {L : List α} {m : Nat} {E : World → Prop} {w0 : World} (hseq : SeqC F (n - 1) P gf lb encs Z prot S Sp L m E w0) (hb0 : Below w0.heap.size w0 w)
    (hZ : ∀ k, Z k → k < w.heap.size) (hpr : ∀ k, prot k → k < w.heap.size) (hps : ∀ x, (encs x).size = ps.size)
    (hE : ∀ A B', E A → ChgP (fun k => w.heap.size ≤ k ∧ k < w.heap.size + (m + 2)) A B' → E B')
    (I : List α → World → Prop) (Ix : Code → List α → World → Prop) (hI : AbC (upTo Z w.heap.size (m + 2)) I) (hIx : ∀ c, AbC (upTo Z w.heap.size (m + 2)) (Ix c)) (h0 : I [] w) (Ax : Act → α → Act → World → Prop)
    (hAx : ∀ x a', AbC (upTo Z w.heap.size (m + 2)) (fun (_ : Unit) W => Ax a x a' W))
    (hassign : ∀ (l : Nat) (pre : List α) (x : α) (W : World) (K : Act → World → Prop), w.heap.size + 2 + m ≤ W.heap.size → I pre W → pre ++ [x] <+: L → (∀ a' W', KpC (upTo prot w.heap.size (m + 2)) W W' → I pre W' → Ax a x a' W' → K a' W') →
      assign.wpIn (F.inRound l) (n - 1 - 1) P (Exit.then K (fun _ _ _ => False)) { tmps := (ps.zip (encs x)).foldl (fun t (p, v) => t.setIfInBounds p v) a.tmps, defers := [] } W)
    (hbody : ∀ (l : Nat) (pre : List α) (x : α) (a' : Act) (W : World), w.heap.size + 2 + m ≤ W.heap.size → I pre W → Ax a x a' W → pre ++ [x] <+: L → body.wpIn (F.inRound l) (n - 1 - 1) P (postC (upTo prot w.heap.size (m + 2)) I Ix (pre ++ [x]) W) a' W)
    (hdone : ∀ (xs : List α) (W : World), S xs → I xs W → E W → W.heap[w.heap.size]? = some (.deferred (some [])) → Q .normal { a with defers := { target := .collected w.heap.size, args := #[] } :: a.defers } W)
    (hstop : ∀ (c : Code) (pre : List α) (W : World), Sp pre → Ix c pre W → E W → W.heap[w.heap.size]? = some (.deferred (some [])) → c.wpIn F n P Q { a with defers := { target := .collected w.heap.size, args := #[] } :: a.defers } W) :
    (Code.rangeFunc g ps assign body).wpIn F n P Q a w := by
  refine wpIn_rangeFunc ?_
  intro fn hfn
  rw [hro]
  obtain ⟨rec, hrec⟩ : ∃ rec : LoopState → Option Code → Loop, rec = fun st pe => { state := st, pending := pe, fn, tmps := a.tmps, params := ps, assign, body, defers := w.heap.size } := ⟨_, rfl⟩
  obtain ⟨W1, hW1⟩ : ∃ W1, (w.alloc (.deferred (some []))).alloc (.loop (rec .ready none)) = W1 := ⟨_, rfl⟩
  have hL1 : W1.heap[w.heap.size + 1]? = some (.loop (rec .ready none)) := by
    rw [← hW1]; have := World.alloc_heap_new (w.alloc (.deferred (some []))) (.loop (rec .ready none)); rwa [World.size_alloc] at this
  have hK1 : W1.heap[w.heap.size]? = some (.deferred (some [])) := by
    rw [← hW1]; exact (Below.heap_alloc _ _ _ (by simp)).trans (World.alloc_heap_new w _)
  have hsz : W1.heap.size = w.heap.size + 2 := by rw [← hW1]; simp
  have hI1 : I [] W1 := by rw [← hW1]; exact hI _ _ _ h0 (((ChgP.refl _ w).alloc _).alloc _)
  have hb1 : Below w0.heap.size w0 W1 := by
    rw [← hW1]; exact hb0.trans ((((Below.refl _ w).alloc (Nat.le_refl _) _).alloc (by simp) _).mono hb0.size)
  refine ⟨w.heap.size + 1, [{ target := .collected w.heap.size, args := #[] }], W1, { target := .fn (.func gf) lb, args := #[.func (.yield (w.heap.size + 1)) #[] #[]] }, W1, gf,
    #[.func (.yield (w.heap.size + 1)) #[] #[]] ++ lb, W1, ?_, ?_, ?_, ?_, fun _ => h1, ?_⟩
  · rw [← hW1, hrec]; exact run_enterLoop_outer _ _ _ _ _
  · simp only [resolve, hg]
    simp [go_sem]
  · intro f' hf'; simp [Target.leads] at hf'; subst hf'; exact hFg
  · simp [invoke, go_sem, eg]
  · have hT : ∀ {β : Type} {J : β → World → Prop}, AbC (upTo Z w.heap.size (m + 2)) J → AbC (upTo Z W1.heap.size m) J := fun h s A B' hs hc => h s A B' hs (hc.mono (fun k hk => .inl (by
      rcases hk with hk | hk
      · exact .inl hk
      · exact .inr (by omega))))
    have hfar : ∀ j, w.heap.size ≤ j → j < w.heap.size + 2 → ¬ upTo Z W1.heap.size m j := fun j hj1 hj2 h => by
      rcases h with h | h
      · have := hZ j h; omega
      · omega
    have hkeep : ∀ {A B' : World} {j : Nat} {o : Obj}, ChgP (upTo Z W1.heap.size m) A B' → w.heap.size ≤ j → j < w.heap.size + 2 → A.heap[j]? = some o → B'.heap[j]? = some o := fun hc hj1 hj2 ho => by
      rw [hc.block _ (Array.getElem?_eq_some_iff.1 ho).1 (hfar _ hj1 hj2)]
      exact ho
    have hput : ∀ (W : World) (o : Obj), ChgP (upTo Z w.heap.size (m + 2)) W (W.putObj (w.heap.size + 1) o) := fun W o => chgP_put W _ o (.inr (by omega))
    have hputK : ∀ (W : World) (o : Obj), KpC (upTo prot W1.heap.size m) W (W.putObj (w.heap.size + 1) o) := fun W o => chgP_put W _ o (fun h => by
      rcases h with h | h
      · have := hpr _ h; omega
      · omega)
    have hKm : ∀ {A B' : World}, KpC (upTo prot w.heap.size (m + 2)) A B' → KpC (upTo prot W1.heap.size m) A B' := fun h => h.mono (fun k hk => by
      rcases hk with hk | hk
      · exact .inl hk
      · exact .inr (by omega))
    refine (hseq (w.heap.size + 1)
      (fun pre W => I pre W ∧ W.heap[w.heap.size + 1]? = some (.loop (rec .ready none)) ∧ W.heap[w.heap.size]? = some (.deferred (some [])))
      (fun pre W => ∃ c, Ix c pre W ∧ W.heap[w.heap.size + 1]? = some (.loop (rec .done (some c))) ∧ W.heap[w.heap.size]? = some (.deferred (some [])))
      W1 hb1
      (fun s A B' hs hc => ⟨hT hI s A B' hs.1 hc, hkeep hc (by omega) (by omega) hs.2.1, hkeep hc (by omega) (by omega) hs.2.2⟩)
      (fun s A B' hs hc => by
        obtain ⟨c, hc1, hl, hk⟩ := hs
        exact ⟨c, hT (hIx c) s A B' hc1 hc, hkeep hc (by omega) (by omega) hl, hkeep hc (by omega) (by omega) hk⟩)
      ?_ ⟨hI1, hL1, hK1⟩).mono ?_
    · rintro pre x W ⟨hi, hl, hk⟩ hlen hsz2
      have hlt : w.heap.size + 1 < W.heap.size := (Array.getElem?_eq_some_iff.1 hl).1
      have hy := run_yield (P := P) (args := encs x) hl (by rw [hrec]; exact hps x)
      rw [hrec] at hy
      refine ⟨fn, _, assign, body, hy, roundIn_of_wpIn hfn (hassign _ pre x W _ (by omega) hi hlen ?_)⟩
      clear hy
      intro a' Wa hkpa hia hax
      have hszW := hkpa.size
      replace hl := hkpa.at_ (.inr (by omega)) hl
      replace hk := hkpa.at_ (.inr (by omega)) hk
      replace hlt : w.heap.size + 1 < Wa.heap.size := (Array.getElem?_eq_some_iff.1 hl).1
      replace hi := hia
      clear hia
      have hszA : w.heap.size + 2 + m ≤ Wa.heap.size := by omega
      clear hszW hsz2
      revert hkpa
      generalize W = Wb
      intro hkpa
      obtain ⟨W, rfl⟩ : ∃ W, W = Wa := ⟨_, rfl⟩
      refine ⟨_, run_beginRound hl (by rw [hrec]), ?_⟩
      have hl2 : (W.putObj (w.heap.size + 1) (.loop { rec .ready none with state := .busy })).heap[w.heap.size + 1]? = some (.loop { rec .ready none with state := .busy }) := World.putObj_heap_same hlt
      have hk2 : (W.putObj (w.heap.size + 1) (.loop { rec .ready none with state := .busy })).heap[w.heap.size]? = some (.deferred (some [])) := (World.putObj_heap_other (by omega)).trans hk
      have hw2 : KpC (upTo prot W1.heap.size m) W (W.putObj (w.heap.size + 1) (.loop { rec .ready none with state := .busy })) := hputK W _
      refine wpIn_mono (hbody _ pre x a' _ (by simp; omega) (hI _ _ _ hi (hput _ _)) (hAx x a' () _ _ hax (hput _ _)) hlen) ?_
      have fin : ∀ (jump : Option Code) (W3 : World), KpC (upTo prot w.heap.size (m + 2)) (W.putObj (w.heap.size + 1) (.loop { rec .ready none with state := .busy })) W3 →
          (Instr.endRound (w.heap.size + 1) jump).run P W3 = .ok (.bool jump.isNone) (W3.putObj (w.heap.size + 1) (.loop (rec (if jump.isNone then .ready else .done) jump))) ∧
          W3.heap[w.heap.size + 1]? = some (.loop { rec .ready none with state := .busy }) ∧
          (W3.putObj (w.heap.size + 1) (.loop (rec (if jump.isNone then .ready else .done) jump))).heap[w.heap.size + 1]? = some (.loop (rec (if jump.isNone then .ready else .done) jump)) ∧
          (W3.putObj (w.heap.size + 1) (.loop (rec (if jump.isNone then .ready else .done) jump))).heap[w.heap.size]? = some (.deferred (some [])) := fun jump W3 hk3 => by
        have hl3 := hk3.at_ (.inr (by omega)) hl2
        have := run_endRound (P := P) jump hl3
        rw [hrec] at this ⊢
        exact ⟨this, by rw [hrec] at hl3; exact hl3, World.putObj_heap_same (Array.getElem?_eq_some_iff.1 hl3).1, (World.putObj_heap_other (by omega)).trans (hk3.at_ (.inr (by omega)) hk2)⟩
      rintro e a3 W3 hp
      cases e with
      | normal =>
        obtain ⟨hkp3, hi3⟩ := hp
        obtain ⟨hr, hl3, hl4, hk4⟩ := fin none W3 hkp3
        exact ⟨_, _, hr, .inl ⟨rfl, ⟨hI _ _ _ hi3 (hput _ _), hl4, hk4⟩, (hKm hkpa).trans (hw2.trans ((hKm hkp3).trans (hputK _ _)))⟩⟩
      | ret =>
        obtain ⟨hkp3, hi3⟩ := hp
        obtain ⟨hr, hl3, hl4, hk4⟩ := fin (some .ret) W3 hkp3
        exact ⟨_, _, hr, .inr ⟨rfl, ⟨.ret, hIx _ _ _ _ hi3 (hput _ _), hl4, hk4⟩, (hKm hkpa).trans (hw2.trans ((hKm hkp3).trans (hputK _ _)))⟩⟩
      | exit id =>
        obtain ⟨hkp3, hi3⟩ := hp
        obtain ⟨hr, hl3, hl4, hk4⟩ := fin (some (.exit id)) W3 hkp3
        exact ⟨_, _, hr, .inr ⟨rfl, ⟨.exit id, hIx _ _ _ _ hi3 (hput _ _), hl4, hk4⟩, (hKm hkpa).trans (hw2.trans ((hKm hkp3).trans (hputK _ _)))⟩⟩
      | goto t =>
        obtain ⟨hkp3, hi3⟩ := hp
        obtain ⟨hr, hl3, hl4, hk4⟩ := fin (some (.goto t)) W3 hkp3
        exact ⟨_, _, hr, .inr ⟨rfl, ⟨.goto t, hIx _ _ _ _ hi3 (hput _ _), hl4, hk4⟩, (hKm hkpa).trans (hw2.trans ((hKm hkp3).trans (hputK _ _)))⟩⟩
      | panic ch => exact hp.elim
      | outgrown => exact hp.elim
    · have hputE : ∀ (W : World) (o : Obj), E W → E (W.putObj (w.heap.size + 1) o) := fun W o h => hE _ _ h (chgP_put W _ o (by omega))
      rintro e W2 ⟨⟨v, rfl⟩, (⟨xs, hS, hi, hl, hk⟩ | ⟨pre, hSp, c, hi, hl, hk⟩), hEw⟩
      · exact ⟨none, _, by have := run_endLoop (P := P) hl (by rw [hrec]; simp); rw [hrec] at this; exact this, hdone xs _ hS (hI _ _ _ hi (hput _ _)) (hputE _ _ hEw) ((World.putObj_heap_other (by omega)).trans hk)⟩
      · exact ⟨some c, _, by have := run_endLoop (P := P) hl (by rw [hrec]; simp); rw [hrec] at this; exact this, hstop c pre _ hSp (hIx c _ _ _ hi (hput _ _)) (hputE _ _ hEw) ((World.putObj_heap_other (by omega)).trans hk)⟩
end Go.Proofs.YtfpofaniicegaaaGreat
