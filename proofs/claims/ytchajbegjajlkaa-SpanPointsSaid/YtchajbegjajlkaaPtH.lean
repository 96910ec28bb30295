/- What the law of points keeps in memory: its sets and their points. -/
import Derived.Test.YtchajbegjajlkaaPtG
import Derived.Test.YtchajbegjajlkaaPtO
import Derived.Great.BuildSlice
set_option linter.unusedVariables false
set_option linter.unusedSimpArgs false
namespace Go.Proofs.Ytchajbegjajlkaa
open Go.RowKit
open S8
theorem wpList_bs_pt {ops : Array Oper} {rest : List Oper} {o : Oper} {a : Act} {w : World} {Q : Exit → Act → World → Prop} (hg : o.guard = none) (x : Operand) (ho : o.op = .buildSlice 61 1 #[(0, x)]) (V : List Value) (hx : a.eval x = .agg V.toArray) (hV : V.length = 256)
    (h : wpList Try.prog ops Q rest (a.put o.dst (.slice (some ⟨w.heap.size, 0, none⟩) 1 1)) (w.alloc (.cells V.toArray 45))) : wpList Try.prog ops Q (o :: rest) a w := by
  have hi := infoPt
  cases hie : Try.prog.info? 45 with
  | none => rw [hie] at hi; cases hi
  | some ie =>
    rw [hie] at hi
    simp only [Option.map_some, Option.some.injEq, Prod.mk.injEq] at hi
    obtain ⟨hz, hsz⟩ := hi
    refine wpList_buildSlice hg _ 45 1 _ ho V.toArray ie _ Try.underlying61 hie hz (by rw [hsz]; omega) (by rw [hsz]; omega) ?_ h
    rw [hsz]
    have hf := Great.fill_whole (s := 256) (by omega) [.agg V.toArray] ((Array.range (1 * 256)).map ((Value.agg (ptV (fun _ => false)).toArray).cells[· % (Value.agg (ptV (fun _ => false)).toArray).cells.size]!)) (by simp [Value.cells, hV]) (by simp)
    have e1 : ((#[(0, x)] : Array (Nat × Operand)).map fun (i, x) => (i, a.eval x)).toList = (([Value.agg V.toArray] : List Value).zipIdx 0).map fun x => (x.2, x.1) := by simp [hx]
    rw [e1, hf]
    simp [Value.cells]
theorem pt_own {w w' : World} {b1 b2 n1 n2 s1 s2 : Nat} {e1 e2 : TypeId} {v1 v2 : Value} {x1 x2 : List Value} (h1 : w.ownsRow b1 e1 s1 v1 n1 x1) (h2 : w.ownsRow b2 e2 s2 v2 n2 x2) (he : e1 ≠ e2) (hg : w.grownBy w' v2.ownBlock) : w'.ownsRow b1 e1 s1 v1 n1 x1 := by
  refine h1.kept hg ?_
  rcases hv : v1.ownBlock with _ | k
  · exact .inl rfl
  · refine .inr fun hk => ?_
    obtain ⟨c1, hb1⟩ := own_blkr h1 k hv
    obtain ⟨c2, hb2⟩ := own_blkr h2 k hk.symm
    exact Blk.ne_ hb1 hb2 he rfl
theorem pt_below {w wr w' : World} {B n s : Nat} {e : TypeId} {v : Value} {xs : List Value} (hb : Below B w wr) (hB : B ≤ w.heap.size) (ho : wr.ownsRow B e s v n xs) (hg : wr.grownBy w' v.ownBlock) : Below B w w' := by
  have hc : Chg v.ownBlock.toList wr w' := ⟨hg.os, hg.tape, hg.output, hg.size, fun k hk hn => hg.block k hk (fun h => hn (by rw [← h]; simp))⟩
  refine below_chg hb hB hc fun x hx => ?_
  have hx' : v.ownBlock = some x := by simpa using hx
  rcases ho.2 with ⟨rfl, _⟩ | ⟨g, cap, cur, rfl, h1, _⟩
  · cases hx'
  · injection hx' with hx'
    have e : g = x := hx'
    omega
structure PtEl where
  A : Option Addr
  n : Nat
  c : Nat
  s : Sp.S
def PtEl.v (e : PtEl) : Value := .slice e.A e.n e.c
def PtEl.p (e : PtEl) : List Value := ptV (fun i => Sp.has e.s i)
/-- the law's sets, and their points -/
structure PtS (w wr : World) (A1 : Option Addr) (n1 c1 : Nat) (L1 : List PtEl) (A2 : Option Addr) (n2 c2 : Nat) (L2 : List PtEl) : Prop where
  o1 : wr.ownsRow w.heap.size 43 1 (.slice A1 n1 c1) n1 (L1.map PtEl.v)
  o2 : wr.ownsRow w.heap.size 45 256 (.slice A2 n2 c2) n2 (L2.map PtEl.p).flatten
  ok : ∀ e ∈ L1, OwnS wr w.heap.size e.A e.n e.c e.s ∧ Sp.Nrm TOP e.s
  bel : Below w.heap.size w wr
  l1 : L1.length = n1
  l2 : L2.length = n2
theorem pt_len (L : List PtEl) : ∀ b ∈ L.map PtEl.p, b.length = 256 := fun b hb => by
  obtain ⟨e, _, rfl⟩ := List.mem_map.1 hb
  exact ptV_len _
theorem PtS.below {w wr wx : World} {A1 A2 : Option Addr} {n1 c1 n2 c2 : Nat} {L1 L2 : List PtEl} (h : PtS w wr A1 n1 c1 L1 A2 n2 c2 L2) (hb : Below wr.heap.size wr wx) : PtS w wx A1 n1 c1 L1 A2 n2 c2 L2 :=
  ⟨owns_chgr (S := []) h.o1 (Chg.of_below hb) (fun _ _ h => by cases h), owns_chgr (S := []) h.o2 (Chg.of_below hb) (fun _ _ h => by cases h), fun e he => ⟨⟨owns_chgr (S := []) (h.ok e he).1.1 (Chg.of_below hb) (fun _ _ h => by cases h), (h.ok e he).1.2⟩, (h.ok e he).2⟩, h.bel.trans (hb.mono h.bel.size), h.l1, h.l2⟩
theorem PtS.form {w wr : World} {A1 A2 : Option Addr} {n1 c1 n2 c2 : Nat} {L1 L2 : List PtEl} (h : PtS w wr A1 n1 c1 L1 A2 n2 c2 L2) (h1 : 0 < n1) (h2 : 0 < n2) : ∃ g1 g2, A1 = some ⟨g1, 0, none⟩ ∧ A2 = some ⟨g2, 0, none⟩ ∧ g1 < wr.heap.size ∧ g2 < wr.heap.size := by
  obtain ⟨g1, e1, _, a1, _⟩ := own_somer h.o1 h1
  obtain ⟨g2, e2, _, a2, _⟩ := own_somer h.o2 h2
  exact ⟨g1, g2, e1, e2, a1, a2⟩
theorem own_at0 {w : World} {base n c size g : Nat} {e : TypeId} {xs : List Value} (h : w.ownsRow base e size (.slice (some ⟨g, 0, none⟩) n c) n xs) {k : Nat} {v : Value} (hk : xs[k]? = some v) : w.cell? ⟨g, k, none⟩ = some v := by
  have h1 := h.cells (g := g) rfl k v hk
  have e : (⟨g, 0, none⟩ : Addr).add k = ⟨g, k, none⟩ := by unfold Addr.add; split <;> simp_all
  rw [e] at h1
  exact h1
theorem PtS.get {w wr : World} {g1 g2 : Nat} {n1 c1 n2 c2 : Nat} {L : List PtEl} (h : PtS w wr (some ⟨g1, 0, none⟩) n1 c1 L (some ⟨g2, 0, none⟩) n2 c2 L) {k : Nat} {e : PtEl} (hk : L[k]? = some e) : wr.cell? ⟨g1, k, none⟩ = some (.slice e.A e.n e.c) ∧ wr.rangeAt g2 (k * 256) e.p ∧ IsSet wr e.A e.n e.c e.s ∧ e.n ≤ 128 := by
  have hm := h.ok e (List.mem_of_getElem? hk)
  refine ⟨own_at0 h.o1 (by rw [List.getElem?_map, hk]; rfl), fun j v hv => ?_, OwnS.set8 hm.1 hm.2, by rw [← hm.1.2]; exact u8_len hm.2⟩
  have hj : j < 256 := by
    have := (List.getElem?_eq_some_iff.1 hv).1
    rwa [show e.p.length = 256 from ptV_len _] at this
  have hf := flat_cell (s := 256) (L.map PtEl.p) (pt_len L) k j e.p (by rw [List.getElem?_map, hk]; rfl) hj
  rw [hv, Nat.mul_comm] at hf
  exact own_at0 h.o2 hf
/-- the round's own cells: the step, the set, its points -/
structure PtC (w wr wx : World) (o : SOp) (s : Sp.S) (f : Nat → Bool) : Prop where
  r7 : Row wx wr.heap.size 64 o.cells
  r10 : ∃ A n c, Row wx (wr.heap.size + 1) 43 [.slice A n c] ∧ OwnS wx w.heap.size A n c s
  nrm : Sp.Nrm TOP s
  r11 : Row wx (wr.heap.size + 2) 45 (ptV f)
  bel : Below wr.heap.size wr wx
  siz : w.heap.size ≤ wr.heap.size
theorem PtC.below {w wr wx wy : World} {o : SOp} {s : Sp.S} {f : Nat → Bool} (h : PtC w wr wx o s f) (hb : Below wx.heap.size wx wy) : PtC w wr wy o s f := by
  obtain ⟨A, n, c, h1, h2⟩ := h.r10
  exact ⟨h.r7.below hb h.r7.lt, ⟨A, n, c, h1.below hb h1.lt, owns_chgr (S := []) h2.1 (Chg.of_below hb) (fun _ _ h => by cases h), h2.2⟩, h.nrm, h.r11.below hb h.r11.lt, h.bel.trans (hb.mono h.bel.size), h.siz⟩
theorem PtC.set_ {w wr wx : World} {o : SOp} {s out : Sp.S} {f : Nat → Bool} (h : PtC w wr wx o s f) {B n c : Nat} {A : Option Addr} (ho : OwnS wx B A n c out) (hB : w.heap.size ≤ B) (hn : Sp.Nrm TOP out) : PtC w wr (wx.setCell ⟨wr.heap.size + 1, 0, none⟩ (.slice A n c)) o out f := by
  obtain ⟨A0, n0, c0, h1, h2⟩ := h.r10
  exact ⟨h.r7.far (p := ⟨wr.heap.size + 1, 0, none⟩) (show wr.heap.size ≠ wr.heap.size + 1 by omega) _, ⟨A, n, c, h1.set_ 0 _, own_setr (own_monor ho.1 hB) h1 (by decide) 0 _, ho.2⟩, hn, h.r11.far (p := ⟨wr.heap.size + 1, 0, none⟩) (show wr.heap.size + 2 ≠ wr.heap.size + 1 by omega) _, h.bel.setCell (p := ⟨wr.heap.size + 1, 0, none⟩) (Nat.le_succ _) _, h.siz⟩
theorem PtC.row {w wr wx : World} {o : SOp} {s : Sp.S} {f g : Nat → Bool} (h : PtC w wr wx o s f) : PtC w wr (wx.setRow (wr.heap.size + 2) (ptV g).toArray) o s g := by
  obtain ⟨A0, n0, c0, h1, h2⟩ := h.r10
  have hc := chg_setRow wx (wr.heap.size + 2) (ptV g).toArray
  refine ⟨hc.row h.r7 (by simp), ⟨A0, n0, c0, hc.row h1 (by simp), owns_chgr h2.1 hc (fun k hk hm => ?_), h2.2⟩, h.nrm, setRow_sets h.r11 _, below_setRow h.bel (show wr.heap.size ≤ wr.heap.size + 2 by omega) _, h.siz⟩
  rw [List.mem_singleton.1 hm] at hk
  exact own_blk_ne h2.1 (cs := _) h.r11 (by decide) hk
theorem PtC.facts {w wr wx : World} {o : SOp} {s : Sp.S} {f : Nat → Bool} (h : PtC w wr wx o s f) : ∃ A n c, wx.cell? ⟨wr.heap.size + 1, 0, none⟩ = some (.slice A n c) ∧ wx.frozen? ⟨wr.heap.size + 1, 0, none⟩ = false ∧ wr.heap.size + 2 < wx.heap.size ∧ IsSet wx A n c s ∧ n ≤ 128 ∧ OwnS wx w.heap.size A n c s := by
  obtain ⟨A, n, c, h1, h2⟩ := h.r10
  exact ⟨A, n, c, h1.cell 0, h1.frozen 0, h.r11.lt, OwnS.set8 h2 h.nrm, by rw [← h2.2]; exact u8_len h.nrm, h2⟩
/-- a set is laid behind the others -/
theorem PtS.grow1 {w wx w' : World} {A1 A2 A' : Option Addr} {n1 c1 n2 c2 c' : Nat} {L1 L2 : List PtEl} (h : PtS w wx A1 n1 c1 L1 A2 n2 c2 L2) (e : PtEl) (he : OwnS wx w.heap.size e.A e.n e.c e.s ∧ Sp.Nrm TOP e.s) (ho : w'.ownsRow w.heap.size 43 1 (.slice A' (n1 + 1) c') (n1 + 1) (L1.map PtEl.v ++ [e.v])) (hg : wx.grownBy w' (Value.slice A1 n1 c1).ownBlock) : PtS w w' A' (n1 + 1) c' (L1 ++ [e]) A2 n2 c2 L2 := by
  refine ⟨by rw [List.map_append]; exact ho, pt_own h.o2 h.o1 (by decide) hg, fun x hx => ?_, pt_below h.bel (Nat.le_refl _) h.o1 hg, by simp [h.l1], h.l2⟩
  have hx' : OwnS wx w.heap.size x.A x.n x.c x.s ∧ Sp.Nrm TOP x.s := by
    rcases List.mem_append.1 hx with h1 | h1
    · exact h.ok x h1
    · rw [List.mem_singleton.1 h1]; exact he
  exact ⟨⟨pt_own hx'.1.1 h.o1 (by decide) hg, hx'.1.2⟩, hx'.2⟩
theorem PtS.row1 {w wx w' : World} {A1 A2 : Option Addr} {n1 c1 n2 c2 g : Nat} {L1 L2 : List PtEl} {V : List Value} (h : PtS w wx A1 n1 c1 L1 A2 n2 c2 L2) (hr : Row wx g 45 V) (hg : wx.grownBy w' (Value.slice A1 n1 c1).ownBlock) : Row w' g 45 V :=
  (hg.block g hr.lt (fun e => own_blk_ne h.o1 (cs := _) hr (by decide) e.symm)).trans hr
theorem PtS.grow2 {w wx w' : World} {A1 A2 A' : Option Addr} {n1 c1 n2 c2 c' : Nat} {L1 L2 : List PtEl} (h : PtS w wx A1 n1 c1 L1 A2 n2 c2 L2) (e : PtEl) (ho : w'.ownsRow w.heap.size 45 256 (.slice A' (n2 + 1) c') (n2 + 1) ((L2.map PtEl.p).flatten ++ e.p)) (hg : wx.grownBy w' (Value.slice A2 n2 c2).ownBlock) : PtS w w' A1 n1 c1 L1 A' (n2 + 1) c' (L2 ++ [e]) :=
  ⟨pt_own h.o1 h.o2 (by decide) hg, by rw [List.map_append, List.flatten_append]; simpa using ho, fun x hx => ⟨⟨pt_own (h.ok x hx).1.1 h.o2 (by decide) hg, (h.ok x hx).1.2⟩, (h.ok x hx).2⟩, pt_below h.bel (Nat.le_refl _) h.o2 hg, h.l1, by simp [h.l2]⟩
/-- Same says what the points say -/
theorem same_pt {s t : Sp.S} (hs : Sp.Nrm TOP s) (ht : Sp.Nrm TOP t) : decide (s = t) = ptEq (fun i => Sp.has s i) (fun i => Sp.has t i) := by
  by_cases h : s = t
  · subst h
    rw [decide_eq_true rfl]
    exact (ptEq_iff.2 fun i _ => rfl).symm
  · rw [decide_eq_false h]
    cases hp : ptEq (fun i => Sp.has s i) (fun i => Sp.has t i) with
    | false => rfl
    | true => exact absurd (Sp.ext hs ht fun p hp2 => ptEq_iff.1 hp p (by unfold TOP at hp2; omega)) h
end Go.Proofs.Ytchajbegjajlkaa
