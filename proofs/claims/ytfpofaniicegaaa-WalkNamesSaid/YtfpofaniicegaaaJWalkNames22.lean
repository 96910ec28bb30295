/- Texts of this claim, one behind the other: Structs, LvB, LvA. -/
import Derived.ProofKit
import Derived.Lib.SmallJoins
import Derived.Deep.Slices
import Derived.OpenShut
import Derived.Test.YtfpofaniicegaaaJWalkNames18
import Derived.RangeFuncNested
import Derived.RangeFuncBound
import Derived.RangeFuncCalls
import Derived.RangeFuncLeaves
import Derived.Test.YtfpofaniicegaaaJWalkNames8
/- Arguments that are structs by value or slices of structs, opened (the guide's page extra-structs, turned to this seat). -/
set_option linter.unusedVariables false
set_option linter.unusedSimpArgs false
namespace Go.Proofs.Ytfpofaniicegaaa
open Go.Joins Go.ChangeShapes Go.WideShapes Go.RowKit Go.Deep
section
variable {H : Type} {enc : TypeId × Value → H} {P : Program} {w : World} {base : Nat} {spare : Nat → Bool} {held : Bool}
theorem open_slice_fields {t e : TypeId} {fs : Array Field} {fuel : Nat} {cs : List Value} {x : DataW H × List MemPlace} (ht : P.underlying t = some (.slice e)) (he : P.underlying e = some (.struct fs))
    (hone : oneCellFields P fs = true) (hC : P.cellsOf e = fs.size) (h : DataW.trod enc P w base spare held fuel t cs = some x) :
    (cs = [.slice none 0 0] ∧ x = (.nil, [])) ∨
    ∃ (a : Addr) (len cap m : Nat) (D : Nat → DataW H) (Pl : Nat → List MemPlace), cs = [.slice (some a) len cap] ∧ base ≤ a.block ∧ len ≤ cap ∧ cap ≤ maxLen ∧ m = (if spare a.block then cap else len) ∧
      x = (.slice ((List.range len).map D) ((List.range (m - len)).map fun j => D (len + j)), MemPlace.row a (m * fs.size) ++ (List.range m).flatMap Pl) ∧
      ∀ i, i < m → ∃ (ys : List (DataW H × List MemPlace)) (n : Nat), D i = .agg (ys.map (·.1)) ∧ Pl i = ys.flatMap (·.2) ∧ ys.length = fs.size ∧
        ∀ (j : Nat) (f : Field), fs[j]? = some f → ∃ (v : Value) (y : DataW H × List MemPlace), w.cell? (a.add (i * fs.size + j)) = some v ∧ ys[j]? = some y ∧ DataW.trod enc P w base spare held n f.type [v] = some y := by
  rcases open_slice ht h with h0 | ⟨a, len, cap, m, n, D, Pl, hcs, hb, hl, hm, hmm, hx, hi⟩
  · exact .inl h0
  · refine .inr ⟨a, len, cap, m, D, Pl, hcs, hb, hl, hm, hmm, by rw [hC] at hx; exact hx, fun i him => ?_⟩
    obtain ⟨cs', hc, ht'⟩ := hi i him
    rw [hC] at hc
    obtain ⟨ys, n', hn', hy, hlen, hyl, hf⟩ := DataW.trod_struct he ht'
    obtain ⟨_, hcl, hat⟩ := World.cells?_some hc
    simp only [Prod.mk.injEq] at hy
    refine ⟨ys, n', hy.1, hy.2, hyl, fun j f hj => ?_⟩
    obtain ⟨ho, hk⟩ := hone_of hone j f hj
    have hjl : j < fs.size := (Array.getElem?_eq_some_iff.1 hj).1
    have hcell := hat j hjl
    have hv : cs'[j]? = some (cs'[j]'(by omega)) := List.getElem?_eq_getElem (by omega)
    have h1 := hf j f hj
    rw [ho, hk] at h1
    have hone' : (cs'.drop j).take 1 = [cs'[j]'(by omega)] := by
      rw [List.drop_eq_getElem_cons (by omega)]
      rfl
    rw [hone'] at h1
    have hys : ys[j]? = some (ys[j]'(by omega)) := List.getElem?_eq_getElem (by omega)
    refine ⟨_, _, ?_, hys, h1.trans hys⟩
    rw [← Go.Deep.add_add, hcell, hv]
end

section
variable {H : Type} {enc : TypeId × Value → H} {P : Program} {w : World} {base : Nat} {spare : Nat → Bool} {held : Bool}
theorem open_agg5 {r : Reach} {b0 : Nat} {t : TypeId} {f0 f1 f2 f3 f4 : Field} {v : Value} {d : DataW H} {p : List MemPlace} (hs : P.underlying t = some (.struct #[f0, f1, f2, f3, f4])) (hone : oneCellFields P #[f0, f1, f2, f3, f4] = true) (hC : P.cellsOf t = 5)
    (hv : Value.okWide P w r b0 t v) (h : DataW.Trod enc P w base spare held t v d p) :
    ∃ (v0 v1 v2 v3 v4 : Value) (y0 y1 y2 y3 y4 : DataW H × List MemPlace) (n : Nat), v = .agg #[v0, v1, v2, v3, v4] ∧ d = .agg [y0.1, y1.1, y2.1, y3.1, y4.1] ∧ p = y0.2 ++ (y1.2 ++ (y2.2 ++ (y3.2 ++ y4.2))) ∧
      DataW.trod enc P w base spare held n f0.type [v0] = some y0 ∧ DataW.trod enc P w base spare held n f1.type [v1] = some y1 ∧ DataW.trod enc P w base spare held n f2.type [v2] = some y2 ∧ DataW.trod enc P w base spare held n f3.type [v3] = some y3 ∧ DataW.trod enc P w base spare held n f4.type [v4] = some y4 := by
  obtain ⟨cs, rfl, hsz⟩ := okWide_struct hs hv
  obtain ⟨l⟩ := cs
  match l, hsz.trans hC with
  | [c0, c1, c2, c3, c4], _ =>
    obtain ⟨fuel, hf⟩ := h
    obtain ⟨xs, n, _, hx, _, hlen, hg⟩ := DataW.trod_struct hs hf
    obtain ⟨o0, k0⟩ := hone_of hone 0 f0 rfl
    obtain ⟨o1, k1⟩ := hone_of hone 1 f1 rfl
    obtain ⟨o2, k2⟩ := hone_of hone 2 f2 rfl
    obtain ⟨o3, k3⟩ := hone_of hone 3 f3 rfl
    obtain ⟨o4, k4⟩ := hone_of hone 4 f4 rfl
    match xs, hlen with
    | [y0, y1, y2, y3, y4], _ =>
      simp only [Prod.mk.injEq] at hx
      exact ⟨c0, c1, c2, c3, c4, y0, y1, y2, y3, y4, n, rfl, by simpa using hx.1, by simpa using hx.2, by simpa [Value.cells, o0, k0] using hg 0 f0 rfl, by simpa [Value.cells, o1, k1] using hg 1 f1 rfl, by simpa [Value.cells, o2, k2] using hg 2 f2 rfl, by simpa [Value.cells, o3, k3] using hg 3 f3 rfl, by simpa [Value.cells, o4, k4] using hg 4 f4 rfl⟩

theorem open_agg6 {r : Reach} {b0 : Nat} {t : TypeId} {f0 f1 f2 f3 f4 f5 : Field} {v : Value} {d : DataW H} {p : List MemPlace} (hs : P.underlying t = some (.struct #[f0, f1, f2, f3, f4, f5])) (hone : oneCellFields P #[f0, f1, f2, f3, f4, f5] = true) (hC : P.cellsOf t = 6)
    (hv : Value.okWide P w r b0 t v) (h : DataW.Trod enc P w base spare held t v d p) :
    ∃ (v0 v1 v2 v3 v4 v5 : Value) (y0 y1 y2 y3 y4 y5 : DataW H × List MemPlace) (n : Nat), v = .agg #[v0, v1, v2, v3, v4, v5] ∧ d = .agg [y0.1, y1.1, y2.1, y3.1, y4.1, y5.1] ∧ p = y0.2 ++ (y1.2 ++ (y2.2 ++ (y3.2 ++ (y4.2 ++ y5.2)))) ∧
      DataW.trod enc P w base spare held n f0.type [v0] = some y0 ∧ DataW.trod enc P w base spare held n f1.type [v1] = some y1 ∧ DataW.trod enc P w base spare held n f2.type [v2] = some y2 ∧ DataW.trod enc P w base spare held n f3.type [v3] = some y3 ∧ DataW.trod enc P w base spare held n f4.type [v4] = some y4 ∧ DataW.trod enc P w base spare held n f5.type [v5] = some y5 := by
  obtain ⟨cs, rfl, hsz⟩ := okWide_struct hs hv
  obtain ⟨l⟩ := cs
  match l, hsz.trans hC with
  | [c0, c1, c2, c3, c4, c5], _ =>
    obtain ⟨fuel, hf⟩ := h
    obtain ⟨xs, n, _, hx, _, hlen, hg⟩ := DataW.trod_struct hs hf
    obtain ⟨o0, k0⟩ := hone_of hone 0 f0 rfl
    obtain ⟨o1, k1⟩ := hone_of hone 1 f1 rfl
    obtain ⟨o2, k2⟩ := hone_of hone 2 f2 rfl
    obtain ⟨o3, k3⟩ := hone_of hone 3 f3 rfl
    obtain ⟨o4, k4⟩ := hone_of hone 4 f4 rfl
    obtain ⟨o5, k5⟩ := hone_of hone 5 f5 rfl
    match xs, hlen with
    | [y0, y1, y2, y3, y4, y5], _ =>
      simp only [Prod.mk.injEq] at hx
      exact ⟨c0, c1, c2, c3, c4, c5, y0, y1, y2, y3, y4, y5, n, rfl, by simpa using hx.1, by simpa using hx.2, by simpa [Value.cells, o0, k0] using hg 0 f0 rfl, by simpa [Value.cells, o1, k1] using hg 1 f1 rfl, by simpa [Value.cells, o2, k2] using hg 2 f2 rfl, by simpa [Value.cells, o3, k3] using hg 3 f3 rfl, by simpa [Value.cells, o4, k4] using hg 4 f4 rfl, by simpa [Value.cells, o5, k5] using hg 5 f5 rfl⟩
end

end Go.Proofs.Ytfpofaniicegaaa

/- What Leaves tells, in plain Lean. -/
set_option linter.unusedVariables false
set_option linter.unusedSimpArgs false
namespace Go.Proofs.Ytfpofaniicegaaa
open Go.RowKit
open S64
namespace Bu
/-- what is told at a time -/
structure Lv where
  v : Nat
  p : Nat
  n : Nat
  b : Bool
  w : Bool
  x : Bool
  no : Nat
deriving DecidableEq
def lvV (l : Lv) : Value := .agg #[.int .u64 (l.v : Nat), .int .u64 (l.p : Nat), .int .i64 (l.n : Nat), .bool l.b, .bool l.w, .bool l.x]
def lvEnc (l : Lv) : Array Value := #[lvV l, .int .i64 (l.no : Nat)]
def leafAt (lv at_ : Nat) (r : Ent.E × Nat) : Lv := if r.2 = 0 then ⟨at_, r.1.F, rch lv / 4096, r.1.b, r.1.w, r.1.x, 0⟩ else ⟨at_, 0, rch lv / 4096, false, false, false, r.2⟩
/-- what is left of a table: d entries -/
def lvR (M : PM) (sub : Nat → Nat → Nat → List Lv × Nat × Bool) (lv tab virt : Nat) : Nat → Nat → List Lv × Nat × Bool
  | 0, left => ([], left, true)
  | d + 1, left =>
    if (entM M tab (511 - d) lv).2 = 41 then lvR M sub lv tab virt d left
    else if (entM M tab (511 - d) lv).2 = 0 ∧ (entM M tab (511 - d) lv).1.t = true then
      (if left ≤ 1 then ([], 0, false)
       else if (sub (entM M tab (511 - d) lv).1.F (virt + (511 - d) * rch lv) (left - 1)).2.2 = true then
         ((sub (entM M tab (511 - d) lv).1.F (virt + (511 - d) * rch lv) (left - 1)).1 ++ (lvR M sub lv tab virt d (sub (entM M tab (511 - d) lv).1.F (virt + (511 - d) * rch lv) (left - 1)).2.1).1, (lvR M sub lv tab virt d (sub (entM M tab (511 - d) lv).1.F (virt + (511 - d) * rch lv) (left - 1)).2.1).2)
       else ((sub (entM M tab (511 - d) lv).1.F (virt + (511 - d) * rch lv) (left - 1)).1, (sub (entM M tab (511 - d) lv).1.F (virt + (511 - d) * rch lv) (left - 1)).2.1, false))
    else if left ≤ 1 then ([leafAt lv (virt + (511 - d) * rch lv) (entM M tab (511 - d) lv)], 0, false)
    else (leafAt lv (virt + (511 - d) * rch lv) (entM M tab (511 - d) lv) :: (lvR M sub lv tab virt d (left - 1)).1, (lvR M sub lv tab virt d (left - 1)).2)
/-- what lies under a table -/
def lvT (M : PM) : Nat → Nat → Nat → Nat → Nat → List Lv × Nat × Bool
  | 0, _, _, _, left => ([], left, true)
  | k + 1, lv, tab, virt, left => lvR M (lvT M k (lv + 1)) lv tab virt 512 left
/-- what Leaves tells -/
def lvs (M : PM) (root : Nat) (most : Int) : List Lv := if most < 1 then [] else if root % 4096 ≠ 0 then [⟨0, 0, 134217728, false, false, false, 42⟩] else (lvT M 3 0 root 0 most.toNat).1
theorem lvR_left {M : PM} {sub : Nat → Nat → Nat → List Lv × Nat × Bool} {lv tab virt : Nat} (hs : ∀ a b l, 1 ≤ l → (sub a b l).2.1 ≤ l ∧ ((sub a b l).2.2 = true → 1 ≤ (sub a b l).2.1)) : ∀ d left, 1 ≤ left → (lvR M sub lv tab virt d left).2.1 ≤ left ∧ ((lvR M sub lv tab virt d left).2.2 = true → 1 ≤ (lvR M sub lv tab virt d left).2.1) := by
  intro d
  induction d with
  | zero => intro left h; exact ⟨Nat.le_refl _, fun _ => h⟩
  | succ d ih =>
    intro left h
    unfold lvR
    split
    · exact ih left h
    · split
      · split
        · exact ⟨by simp, fun h => by simp at h⟩
        · rename_i hl
          have h1 := hs (entM M tab (511 - d) lv).1.F (virt + (511 - d) * rch lv) (left - 1) (by omega)
          split
          · rename_i hg
            have h2 := ih _ (h1.2 hg)
            exact ⟨by have := h2.1; have := h1.1; simp only; omega, h2.2⟩
          · exact ⟨by have := h1.1; simp only; omega, fun h => by simp at h⟩
      · split
        · exact ⟨by simp, fun h => by simp at h⟩
        · have h2 := ih (left - 1) (by omega)
          exact ⟨by have := h2.1; simp only; omega, h2.2⟩
theorem lvT_left {M : PM} : ∀ k lv tab virt left, 1 ≤ left → (lvT M k lv tab virt left).2.1 ≤ left ∧ ((lvT M k lv tab virt left).2.2 = true → 1 ≤ (lvT M k lv tab virt left).2.1) := by
  intro k
  induction k with
  | zero => intro lv tab virt left h; exact ⟨Nat.le_refl _, fun _ => h⟩
  | succ k ih =>
    intro lv tab virt left h
    exact lvR_left (fun a b l hl => ih (lv + 1) a b l hl) 512 left h
end Bu
end Go.Proofs.Ytfpofaniicegaaa

/- A range over a function whose iterator keeps state in cells of its own: what the iterator promises, and the caller's law. -/
set_option linter.unusedVariables false
set_option linter.unusedSimpArgs false
namespace Go.Proofs.Ytfpofaniicegaaa
open Go.RowKit
open Bu
/-- blocks that stay as they lie -/
def KpC (prot : Nat → Prop) (w w' : World) : Prop := ChgP (fun k => ¬ prot k) w w'
/-- what is said abides a turn of the blocks of T, and new blocks -/
def AbC {β : Type} (T : Nat → Prop) (J : β → World → Prop) : Prop := ∀ s W W', J s W → ChgP T W W' → J s W'
/-- B and the four blocks behind -/
def upTo (p : Nat → Prop) (B n : Nat) : Nat → Prop := fun k => p k ∨ (B ≤ k ∧ k < B + n)
/-- the iterator's promise: it turns its own three cells, and Z -/
def SeqC {α : Type} (F : Fence) (n : Nat) (P : Program) (g : Nat) (lb : Array Value) (encs : α → Array Value) (Z prot : Nat → Prop) (S Sp : List α → Prop) (L : List α) (m : Nat) (E : World → Prop) (w : World) : Prop :=
  ∀ (l : Nat) (J Jx : List α → World → Prop) (W : World), Below w.heap.size w W → AbC (upTo Z W.heap.size m) J → AbC (upTo Z W.heap.size m) Jx →
    (∀ pre x W1, J pre W1 → pre ++ [x] <+: L → W.heap.size + m ≤ W1.heap.size → YieldAt F (n - 1) P l (encs x) W1 fun e W' =>
      (e = .returned (.bool true) ∧ J (pre ++ [x]) W' ∧ KpC (upTo prot W.heap.size m) W1 W') ∨ (e = .returned (.bool false) ∧ Jx (pre ++ [x]) W' ∧ KpC (upTo prot W.heap.size m) W1 W')) →
    J [] W →
    CallsIn F n P g (#[.func (.yield l) #[] #[]] ++ lb) W fun e W' => (∃ v, e = .returned v) ∧ ((∃ xs, S xs ∧ J xs W') ∨ (∃ pre, Sp pre ∧ Jx pre W')) ∧ E W'
/-- how the body of a round may be left -/
def postC {α : Type} (prot : Nat → Prop) (I : List α → World → Prop) (Ix : Code → List α → World → Prop) (xs : List α) (W : World) : Exit → Act → World → Prop
  | .normal, _, W' => KpC prot W W' ∧ I xs W'
  | .ret, _, W' => KpC prot W W' ∧ Ix .ret xs W'
  | .exit id, _, W' => KpC prot W W' ∧ Ix (.exit id) xs W'
  | .goto t, _, W' => KpC prot W W' ∧ Ix (.goto t) xs W'
  | .panic _, _, _ => False
  | .outgrown, _, _ => False
theorem chgP_put {Z : Nat → Prop} (W : World) (l : Nat) (o : Obj) (h : Z l) : ChgP Z W (W.putObj l o) :=
  (ChgP.refl Z W).grown (grownBy_putObj' W l o) (fun k e => by cases e; exact .inl h)
theorem KpC.trans {p : Nat → Prop} {a b c : World} (h : KpC p a b) (k : KpC p b c) : KpC p a c := ChgP.trans h k (fun x hx => .inl hx)
theorem KpC.mono {p q : Nat → Prop} {a b : World} (h : KpC p a b) (hs : ∀ x, q x → p x) : KpC q a b := ChgP.mono h (fun x hx => .inl fun hq => hx (hs x hq))
theorem KpC.at_ {p : Nat → Prop} {a b : World} (h : KpC p a b) {k : Nat} (hk : p k) {o : Obj} (ho : a.heap[k]? = some o) : b.heap[k]? = some o := by
  rw [h.block k (Array.getElem?_eq_some_iff.1 ho).1 (fun hn => hn hk)]
  exact ho
variable {F : Fence} {n : Nat} {P : Program}
theorem wpIn_rangeFunc_C {α : Type} {g : Operand} {ps : Array Tmp} {assign body : Code} {Q : Exit → Act → World → Prop} {a : Act} {w : World}
    (hro : F.round = none) (h1 : 1 ≤ n) {gf : Nat} {lb : Array Value} (hg : a.eval g = .func (.func gf) #[] lb) (hFg : F.fn gf) (eg : ∀ args w, (callFunc gf args).run P w = .ok (.enter gf args) w)
    {encs : α → Array Value} {Z prot : Nat → Prop} {S Sp : List α → Prop} {L : List α} {m : Nat} {E : World → Prop} {w0 : World} (hseq : SeqC F (n - 1) P gf lb encs Z prot S Sp L m E w0) (hb0 : Below w0.heap.size w0 w)
    (hZ : ∀ k, Z k → k < w.heap.size) (hpr : ∀ k, prot k → k < w.heap.size) (hps : ∀ x, (encs x).size = ps.size)
    (hE : ∀ A B', E A → ChgP (fun k => w.heap.size ≤ k ∧ k < w.heap.size + (m + 2)) A B' → E B')
    (I : List α → World → Prop) (Ix : Code → List α → World → Prop) (hI : AbC (upTo Z w.heap.size (m + 2)) I) (hIx : ∀ c, AbC (upTo Z w.heap.size (m + 2)) (Ix c)) (h0 : I [] w) (Ax : Act → α → Act → World → Prop)
    (hAx : ∀ x a', AbC (upTo Z w.heap.size (m + 2)) (fun (_ : Unit) W => Ax a x a' W))
    (hassign : ∀ (l : Nat) (pre : List α) (x : α) (W : World) (K : Act → World → Prop), w.heap.size + 2 + m ≤ W.heap.size → I pre W → pre ++ [x] <+: L → (∀ a' W', KpC (upTo prot w.heap.size (m + 2)) W W' → I pre W' → Ax a x a' W' → K a' W') →
      assign.wpIn (F.inRound l) (n - 1 - 1) P (Exit.then K (fun _ _ _ => False)) { tmps := (ps.zip (encs x)).foldl (fun t (p, v) => t.setIfInBounds p v) a.tmps, defers := [] } W)
    (hbody : ∀ (l : Nat) (pre : List α) (x : α) (a' : Act) (W : World), w.heap.size + 2 + m ≤ W.heap.size → I pre W → Ax a x a' W → pre ++ [x] <+: L → body.wpIn (F.inRound l) (n - 1 - 1) P (postC (upTo prot w.heap.size (m + 2)) I Ix (pre ++ [x]) W) a' W)
    (hdone : ∀ (xs : List α) (W : World), S xs → I xs W → E W → W.heap[w.heap.size]? = some (.deferred (some [])) → Q .normal { a with defers := { target := .collected w.heap.size, args := #[] } :: a.defers } W)
    (hstop : ∀ (c : Code) (pre : List α) (W : World), Sp pre → Ix c pre W → E W → W.heap[w.heap.size]? = some (.deferred (some [])) → c.wpIn F n P Q { a with defers := { target := .collected w.heap.size, args := #[] } :: a.defers } W) :
    (Code.rangeFunc g ps assign body).wpIn F n P Q a w := by
  refine wpIn_rangeFunc ?_
  intro fn hfn
  rw [hro]
  obtain ⟨rec, hrec⟩ : ∃ rec : LoopState → Option Code → Loop, rec = fun st pe => { state := st, pending := pe, fn, tmps := a.tmps, params := ps, assign, body, defers := w.heap.size } := ⟨_, rfl⟩
  obtain ⟨W1, hW1⟩ : ∃ W1, (w.alloc (.deferred (some []))).alloc (.loop (rec .ready none)) = W1 := ⟨_, rfl⟩
  have hL1 : W1.heap[w.heap.size + 1]? = some (.loop (rec .ready none)) := by
    rw [← hW1]; have := World.alloc_heap_new (w.alloc (.deferred (some []))) (.loop (rec .ready none)); rwa [World.size_alloc] at this
  have hK1 : W1.heap[w.heap.size]? = some (.deferred (some [])) := by
    rw [← hW1]; exact (Below.heap_alloc _ _ _ (by simp)).trans (World.alloc_heap_new w _)
  have hsz : W1.heap.size = w.heap.size + 2 := by rw [← hW1]; simp
  have hI1 : I [] W1 := by rw [← hW1]; exact hI _ _ _ h0 (((ChgP.refl _ w).alloc _).alloc _)
  have hb1 : Below w0.heap.size w0 W1 := by
    rw [← hW1]; exact hb0.trans ((((Below.refl _ w).alloc (Nat.le_refl _) _).alloc (by simp) _).mono hb0.size)
  refine ⟨w.heap.size + 1, [{ target := .collected w.heap.size, args := #[] }], W1, { target := .fn (.func gf) lb, args := #[.func (.yield (w.heap.size + 1)) #[] #[]] }, W1, gf,
    #[.func (.yield (w.heap.size + 1)) #[] #[]] ++ lb, W1, ?_, ?_, ?_, ?_, fun _ => h1, ?_⟩
  · rw [← hW1, hrec]; exact run_enterLoop_outer _ _ _ _ _
  · simp only [resolve, hg]
    simp [go_sem]
  · intro f' hf'; simp [Target.leads] at hf'; subst hf'; exact hFg
  · simp [invoke, go_sem, eg]
  · have hT : ∀ {β : Type} {J : β → World → Prop}, AbC (upTo Z w.heap.size (m + 2)) J → AbC (upTo Z W1.heap.size m) J := fun h s A B' hs hc => h s A B' hs (hc.mono (fun k hk => .inl (by
      rcases hk with hk | hk
      · exact .inl hk
      · exact .inr (by omega))))
    have hfar : ∀ j, w.heap.size ≤ j → j < w.heap.size + 2 → ¬ upTo Z W1.heap.size m j := fun j hj1 hj2 h => by
      rcases h with h | h
      · have := hZ j h; omega
      · omega
    have hkeep : ∀ {A B' : World} {j : Nat} {o : Obj}, ChgP (upTo Z W1.heap.size m) A B' → w.heap.size ≤ j → j < w.heap.size + 2 → A.heap[j]? = some o → B'.heap[j]? = some o := fun hc hj1 hj2 ho => by
      rw [hc.block _ (Array.getElem?_eq_some_iff.1 ho).1 (hfar _ hj1 hj2)]
      exact ho
    have hput : ∀ (W : World) (o : Obj), ChgP (upTo Z w.heap.size (m + 2)) W (W.putObj (w.heap.size + 1) o) := fun W o => chgP_put W _ o (.inr (by omega))
    have hputK : ∀ (W : World) (o : Obj), KpC (upTo prot W1.heap.size m) W (W.putObj (w.heap.size + 1) o) := fun W o => chgP_put W _ o (fun h => by
      rcases h with h | h
      · have := hpr _ h; omega
      · omega)
    have hKm : ∀ {A B' : World}, KpC (upTo prot w.heap.size (m + 2)) A B' → KpC (upTo prot W1.heap.size m) A B' := fun h => h.mono (fun k hk => by
      rcases hk with hk | hk
      · exact .inl hk
      · exact .inr (by omega))
    refine (hseq (w.heap.size + 1)
      (fun pre W => I pre W ∧ W.heap[w.heap.size + 1]? = some (.loop (rec .ready none)) ∧ W.heap[w.heap.size]? = some (.deferred (some [])))
      (fun pre W => ∃ c, Ix c pre W ∧ W.heap[w.heap.size + 1]? = some (.loop (rec .done (some c))) ∧ W.heap[w.heap.size]? = some (.deferred (some [])))
      W1 hb1
      (fun s A B' hs hc => ⟨hT hI s A B' hs.1 hc, hkeep hc (by omega) (by omega) hs.2.1, hkeep hc (by omega) (by omega) hs.2.2⟩)
      (fun s A B' hs hc => by
        obtain ⟨c, hc1, hl, hk⟩ := hs
        exact ⟨c, hT (hIx c) s A B' hc1 hc, hkeep hc (by omega) (by omega) hl, hkeep hc (by omega) (by omega) hk⟩)
      ?_ ⟨hI1, hL1, hK1⟩).mono ?_
    · rintro pre x W ⟨hi, hl, hk⟩ hlen hsz2
      have hlt : w.heap.size + 1 < W.heap.size := (Array.getElem?_eq_some_iff.1 hl).1
      have hy := run_yield (P := P) (args := encs x) hl (by rw [hrec]; exact hps x)
      rw [hrec] at hy
      refine ⟨fn, _, assign, body, hy, roundIn_of_wpIn hfn (hassign _ pre x W _ (by omega) hi hlen ?_)⟩
      clear hy
      intro a' Wa hkpa hia hax
      have hszW := hkpa.size
      replace hl := hkpa.at_ (.inr (by omega)) hl
      replace hk := hkpa.at_ (.inr (by omega)) hk
      replace hlt : w.heap.size + 1 < Wa.heap.size := (Array.getElem?_eq_some_iff.1 hl).1
      replace hi := hia
      clear hia
      have hszA : w.heap.size + 2 + m ≤ Wa.heap.size := by omega
      clear hszW hsz2
      revert hkpa
      generalize W = Wb
      intro hkpa
      obtain ⟨W, rfl⟩ : ∃ W, W = Wa := ⟨_, rfl⟩
      refine ⟨_, run_beginRound hl (by rw [hrec]), ?_⟩
      have hl2 : (W.putObj (w.heap.size + 1) (.loop { rec .ready none with state := .busy })).heap[w.heap.size + 1]? = some (.loop { rec .ready none with state := .busy }) := World.putObj_heap_same hlt
      have hk2 : (W.putObj (w.heap.size + 1) (.loop { rec .ready none with state := .busy })).heap[w.heap.size]? = some (.deferred (some [])) := (World.putObj_heap_other (by omega)).trans hk
      have hw2 : KpC (upTo prot W1.heap.size m) W (W.putObj (w.heap.size + 1) (.loop { rec .ready none with state := .busy })) := hputK W _
      refine wpIn_mono (hbody _ pre x a' _ (by simp; omega) (hI _ _ _ hi (hput _ _)) (hAx x a' () _ _ hax (hput _ _)) hlen) ?_
      have fin : ∀ (jump : Option Code) (W3 : World), KpC (upTo prot w.heap.size (m + 2)) (W.putObj (w.heap.size + 1) (.loop { rec .ready none with state := .busy })) W3 →
          (Instr.endRound (w.heap.size + 1) jump).run P W3 = .ok (.bool jump.isNone) (W3.putObj (w.heap.size + 1) (.loop (rec (if jump.isNone then .ready else .done) jump))) ∧
          W3.heap[w.heap.size + 1]? = some (.loop { rec .ready none with state := .busy }) ∧
          (W3.putObj (w.heap.size + 1) (.loop (rec (if jump.isNone then .ready else .done) jump))).heap[w.heap.size + 1]? = some (.loop (rec (if jump.isNone then .ready else .done) jump)) ∧
          (W3.putObj (w.heap.size + 1) (.loop (rec (if jump.isNone then .ready else .done) jump))).heap[w.heap.size]? = some (.deferred (some [])) := fun jump W3 hk3 => by
        have hl3 := hk3.at_ (.inr (by omega)) hl2
        have := run_endRound (P := P) jump hl3
        rw [hrec] at this ⊢
        exact ⟨this, by rw [hrec] at hl3; exact hl3, World.putObj_heap_same (Array.getElem?_eq_some_iff.1 hl3).1, (World.putObj_heap_other (by omega)).trans (hk3.at_ (.inr (by omega)) hk2)⟩
      rintro e a3 W3 hp
      cases e with
      | normal =>
        obtain ⟨hkp3, hi3⟩ := hp
        obtain ⟨hr, hl3, hl4, hk4⟩ := fin none W3 hkp3
        exact ⟨_, _, hr, .inl ⟨rfl, ⟨hI _ _ _ hi3 (hput _ _), hl4, hk4⟩, (hKm hkpa).trans (hw2.trans ((hKm hkp3).trans (hputK _ _)))⟩⟩
      | ret =>
        obtain ⟨hkp3, hi3⟩ := hp
        obtain ⟨hr, hl3, hl4, hk4⟩ := fin (some .ret) W3 hkp3
        exact ⟨_, _, hr, .inr ⟨rfl, ⟨.ret, hIx _ _ _ _ hi3 (hput _ _), hl4, hk4⟩, (hKm hkpa).trans (hw2.trans ((hKm hkp3).trans (hputK _ _)))⟩⟩
      | exit id =>
        obtain ⟨hkp3, hi3⟩ := hp
        obtain ⟨hr, hl3, hl4, hk4⟩ := fin (some (.exit id)) W3 hkp3
        exact ⟨_, _, hr, .inr ⟨rfl, ⟨.exit id, hIx _ _ _ _ hi3 (hput _ _), hl4, hk4⟩, (hKm hkpa).trans (hw2.trans ((hKm hkp3).trans (hputK _ _)))⟩⟩
      | goto t =>
        obtain ⟨hkp3, hi3⟩ := hp
        obtain ⟨hr, hl3, hl4, hk4⟩ := fin (some (.goto t)) W3 hkp3
        exact ⟨_, _, hr, .inr ⟨rfl, ⟨.goto t, hIx _ _ _ _ hi3 (hput _ _), hl4, hk4⟩, (hKm hkpa).trans (hw2.trans ((hKm hkp3).trans (hputK _ _)))⟩⟩
      | panic ch => exact hp.elim
      | outgrown => exact hp.elim
    · have hputE : ∀ (W : World) (o : Obj), E W → E (W.putObj (w.heap.size + 1) o) := fun W o h => hE _ _ h (chgP_put W _ o (by omega))
      rintro e W2 ⟨⟨v, rfl⟩, (⟨xs, hS, hi, hl, hk⟩ | ⟨pre, hSp, c, hi, hl, hk⟩), hEw⟩
      · exact ⟨none, _, by have := run_endLoop (P := P) hl (by rw [hrec]; simp); rw [hrec] at this; exact this, hdone xs _ hS (hI _ _ _ hi (hput _ _)) (hputE _ _ hEw) ((World.putObj_heap_other (by omega)).trans hk)⟩
      · exact ⟨some c, _, by have := run_endLoop (P := P) hl (by rw [hrec]; simp); rw [hrec] at this; exact this, hstop c pre _ hSp (hIx c _ _ _ hi (hput _ _)) (hputE _ _ hEw) ((World.putObj_heap_other (by omega)).trans hk)⟩
end Go.Proofs.Ytfpofaniicegaaa
