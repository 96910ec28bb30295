/- Texts of this claim, one behind the other: BvA, BvB. -/
import Derived.Test.YtfpofaniicegaaaGreatJWalkForeign16
import Derived.Test.YtfpofaniicegaaaGreatJWalkForeign19
/- The document's machine: what laying bytes leaves. -/
set_option linter.unusedVariables false
set_option linter.unusedSimpArgs false
namespace Go.Proofs.YtfpofaniicegaaaGreat
open Go.RowKit
open S64
namespace Bu
theorem layM_succ (mem : Nat → Nat) (at_ d : Nat) (f : Nat → Nat) (p : Nat) : layM mem at_ (d + 1) f p = if p = at_ + d then f d else layM mem at_ d f p := by
  unfold layM
  by_cases h : p = at_ + d
  · rw [if_pos (by omega), if_pos h, show p - at_ = d by omega]
  · rw [if_neg h]
    by_cases h1 : at_ ≤ p ∧ p < at_ + d
    · rw [if_pos (by omega), if_pos h1]
    · rw [if_neg (by omega), if_neg h1]
theorem leafRow_set {m m' : Nat → Nat} {k f v : Nat} (hf : f < 4096) (hm : ∀ p, m' p = if p = 4096 * k + f then v else m p) : (leafRow m k).set f (u8 v) = leafRow m' k := by
  apply List.ext_getElem?
  intro i
  rw [List.getElem?_set]
  by_cases hi : i < 4096
  · rw [leafRow_get _ _ _ hi, leafRow_get _ _ _ hi, leafRow_len, hm]
    by_cases h : f = i
    · subst h; rw [if_pos rfl, if_pos hf, if_pos rfl]
    · rw [if_neg h, if_neg (by omega)]
  · rw [if_neg (by omega), List.getElem?_eq_none (by rw [leafRow_len]; omega), List.getElem?_eq_none (by rw [leafRow_len]; omega)]
theorem leafRow_far {m m' : Nat → Nat} {k k' f v : Nat} (hf : f < 4096) (hk : k' ≠ k) (hm : ∀ p, m' p = if p = 4096 * k + f then v else m p) : leafRow m k' = leafRow m' k' :=
  leafRow_congr fun i hi => by rw [hm, if_neg (by omega)]
theorem nodup_snd {l : List (Nat × Nat)} (h : (l.map (·.2)).Nodup) {x y : Nat × Nat} (hx : x ∈ l) (hy : y ∈ l) (e : x.2 = y.2) : x = y := by
  induction l with
  | nil => cases hx
  | cons a l ih =>
    rw [List.map_cons, List.nodup_cons] at h
    rcases List.mem_cons.1 hx with rfl | hx'
    · rcases List.mem_cons.1 hy with rfl | hy'
      · rfl
      · exact absurd (List.mem_map.2 ⟨y, hy', e.symm⟩) h.1
    · rcases List.mem_cons.1 hy with rfl | hy'
      · exact absurd (List.mem_map.2 ⟨x, hx', e⟩) h.1
      · exact ih h.2 hx' hy'
theorem nodup_fst {l : List (Nat × Nat)} (h : (l.map (·.1)).Nodup) {x y : Nat × Nat} (hx : x ∈ l) (hy : y ∈ l) (e : x.1 = y.1) : x = y := by
  induction l with
  | nil => cases hx
  | cons a l ih =>
    rw [List.map_cons, List.nodup_cons] at h
    rcases List.mem_cons.1 hx with rfl | hx'
    · rcases List.mem_cons.1 hy with rfl | hy'
      · rfl
      · exact absurd (List.mem_map.2 ⟨y, hy', e.symm⟩) h.1
    · rcases List.mem_cons.1 hy with rfl | hy'
      · exact absurd (List.mem_map.2 ⟨x, hx', e⟩) h.1
      · exact ih h.2 hx' hy'
/-- one byte is laid into a page that is there -/
theorem RMA.set1 {w : World} {B g : Nat} {M : PM} {A1 A2 Ap : Option Addr} {n1 n2 c1 c2 np cp : Nat} {pgs : List (Nat × Nat)} (h : RMA w B g M A1 A2 Ap n1 n2 c1 c2 np cp pgs)
    {k b f v : Nat} (hx : (k, b) ∈ pgs) (hf : f < 4096) (hv : v < 256) {mem' : Nat → Nat} (hm : ∀ p, mem' p = if p = 4096 * k + f then v else M.mem p) :
    RMA (w.setCell ⟨b, f, none⟩ (u8 v)) B g { M with mem := mem' } A1 A2 Ap n1 n2 c1 c2 np cp pgs := by
  have hb := h.bytes _ hx
  have hbl : Below B w (w.setCell ⟨b, f, none⟩ (u8 v)) := (Below.refl _ _).setCell (p := ⟨b, f, none⟩) hb.1 _
  refine ⟨h.row.far (p := ⟨b, f, none⟩) (Row.ne_t h.row hb.2 (by decide)) _, h.gB, h.rams.below hbl, h.devs.below hbl, h.ok, own_setr h.own hb.2 (by decide) _ _, h.plen, fun x hxx => ?_, h.nums, h.blks, fun p hp => ?_, fun p => ?_⟩
  · obtain ⟨h1, h2⟩ := h.bytes x hxx
    refine ⟨h1, ?_⟩
    by_cases e : x = (k, b)
    · subst e
      rw [← leafRow_set hf hm]
      exact h2.set_ f _
    · have e2 : x.2 ≠ b := fun e2 => e (nodup_snd h.blks hxx hx e2)
      have e1 : x.1 ≠ k := fun e1 => e (nodup_fst h.nums hxx hx e1)
      show Row _ _ _ (leafRow mem' x.1)
      rw [← leafRow_far hf e1 hm]
      exact h2.far (p := ⟨b, f, none⟩) e2 _
  · show mem' p = 0
    rw [hm, if_neg (fun e => hp _ hx (by show k = p / 4096; omega)), h.out p hp]
  · show mem' p < 256
    rw [hm]
    split
    · exact hv
    · exact h.byte p
/-- the same bytes -/
theorem RMA.memc {w : World} {B g : Nat} {M : PM} {A1 A2 Ap : Option Addr} {n1 n2 c1 c2 np cp : Nat} {pgs : List (Nat × Nat)} (h : RMA w B g M A1 A2 Ap n1 n2 c1 c2 np cp pgs) {mem' : Nat → Nat} (hm : ∀ p, mem' p = M.mem p) : RMA w B g { M with mem := mem' } A1 A2 Ap n1 n2 c1 c2 np cp pgs := by
  have e : mem' = M.mem := funext hm
  subst e
  exact h
/-- the same, in another order -/
theorem RMA.pg {w : World} {B g : Nat} {M : PM} {A1 A2 Ap : Option Addr} {n1 n2 c1 c2 np cp : Nat} {pgs : List (Nat × Nat)} (h : RMA w B g M A1 A2 Ap n1 n2 c1 c2 np cp pgs) (P : List Nat → Prop) : RMA w B g { M with pgn := P } A1 A2 Ap n1 n2 c1 c2 np cp pgs :=
  ⟨h.row, h.gB, h.rams, h.devs, h.ok, h.own, h.plen, h.bytes, h.nums, h.blks, h.out, h.byte⟩
/-- A MACHINE OF THE DOCUMENT'S: what may turn with it. -/
structure DZ (Z : Nat → Prop) (w : World) (B g : Nat) (M : PM) (A1 A2 Ap : Option Addr) (n1 n2 c1 c2 np cp : Nat) (pgs : List (Nat × Nat)) : Prop where
  m : RMA w B g M A1 A2 Ap n1 n2 c1 c2 np cp pgs
  zg : Z g
  zp : ∀ ad, Ap = some ad → Z ad.block
  zb : ∀ x ∈ pgs, Z x.2
  z : ∀ k, Z k → B ≤ k ∧ k < w.heap.size
  num : ∀ x ∈ pgs, x.1 < 1048576 ∧ ∃ q, q / 4096 = x.1 ∧ on (M.rams ++ M.devs) q = true
  ord : M.pgn (pgs.map (·.1))
theorem DZ.chg {Z Y : Nat → Prop} {w w' : World} {B g : Nat} {M : PM} {A1 A2 Ap : Option Addr} {n1 n2 c1 c2 np cp : Nat} {pgs : List (Nat × Nat)} (h : DZ Z w B g M A1 A2 Ap n1 n2 c1 c2 np cp pgs) (hc : ChgP Y w w') (hY : ∀ k, Z k ∨ k < B → ¬ Y k) : DZ Z w' B g M A1 A2 Ap n1 n2 c1 c2 np cp pgs := by
  have hB : B ≤ w.heap.size := Nat.le_of_lt (Nat.lt_of_le_of_lt h.m.gB h.m.row.lt)
  have hbl : Below B w w' := ⟨hc.os, hc.tape, hc.output, hc.size, fun k hk => hc.block k (by omega) (hY k (.inr hk))⟩
  refine ⟨⟨hc.row h.m.row (hY _ (.inl h.zg)), h.m.gB, h.m.rams.below hbl, h.m.devs.below hbl, h.m.ok, ⟨h.m.own.1, ?_⟩, h.m.plen, fun x hx => ⟨(h.m.bytes x hx).1, hc.row (h.m.bytes x hx).2 (hY _ (.inl (h.zb x hx)))⟩, h.m.nums, h.m.blks, h.m.out, h.m.byte⟩, h.zg, h.zp, h.zb, fun k hk => ⟨(h.z k hk).1, Nat.lt_of_lt_of_le (h.z k hk).2 hc.size⟩, h.num, h.ord⟩
  rcases h.m.own.2 with h2 | ⟨g', cap, cur, hv, hg, hh, r⟩
  · exact .inl h2
  · refine .inr ⟨g', cap, cur, hv, hg, ?_, r⟩
    have hA : Ap = some ⟨g', 0, none⟩ := by injection hv
    rw [hc.block g' (Blk.lt (cs := cur) hh) (hY _ (.inl (h.zp _ hA)))]
    exact hh
theorem DZ.below {Z : Nat → Prop} {w w' : World} {B g : Nat} {M : PM} {A1 A2 Ap : Option Addr} {n1 n2 c1 c2 np cp : Nat} {pgs : List (Nat × Nat)} (h : DZ Z w B g M A1 A2 Ap n1 n2 c1 c2 np cp pgs) (hb : Below w.heap.size w w') : DZ Z w' B g M A1 A2 Ap n1 n2 c1 c2 np cp pgs := h.chg (Y := fun _ => False) (ChgP.of_below hb) (fun _ _ h => h)
theorem DZ.np_le {Z : Nat → Prop} {w : World} {B g : Nat} {M : PM} {A1 A2 Ap : Option Addr} {n1 n2 c1 c2 np cp : Nat} {pgs : List (Nat × Nat)} (h : DZ Z w B g M A1 A2 Ap n1 n2 c1 c2 np cp pgs) : np ≤ 1048576 := by
  have h1 := Sp.nodup_le (a := pgs.map (·.1)) (b := List.range 1048576) h.m.nums (fun x hx => by
    obtain ⟨y, hy, rfl⟩ := List.mem_map.1 hx
    exact List.mem_range.2 (h.num y hy).1)
  rw [List.length_map, List.length_range, h.m.plen] at h1
  exact h1
/-- a quiet call leaves it -/
theorem DZ.quiet {Z : Nat → Prop} {w w' : World} {B g : Nat} {M M' : PM} {A1 A2 Ap : Option Addr} {n1 n2 c1 c2 np cp : Nat} {pgs : List (Nat × Nat)} (h : DZ Z w B g M A1 A2 Ap n1 n2 c1 c2 np cp pgs) (hq : RQ w B g M' A1 A2 Ap n1 n2 c1 c2 np cp pgs w') (e1 : M'.rams = M.rams) (e2 : M'.devs = M.devs) (e3 : M'.pgn = M.pgn) : DZ Z w' B g M' A1 A2 Ap n1 n2 c1 c2 np cp pgs ∧ ChgP Z w w' :=
  ⟨⟨hq.m, h.zg, h.zp, h.zb, fun k hk => ⟨(h.z k hk).1, Nat.lt_of_lt_of_le (h.z k hk).2 hq.c.size⟩, fun x hx => by rw [e1, e2]; exact h.num x hx, by rw [e3]; exact h.ord⟩, hq.c.mono (fun x hx => .inl (by rw [show x = g from hx]; exact h.zg))⟩
/-- THE DOCUMENT'S MACHINE LIES AT g. -/
def DM (Z : Nat → Prop) (w : World) (B g : Nat) (M : PM) : Prop := ∃ A1 A2 Ap n1 n2 c1 c2 np cp pgs, DZ Z w B g M A1 A2 Ap n1 n2 c1 c2 np cp pgs
theorem DM.chg {Z Y : Nat → Prop} {w w' : World} {B g : Nat} {M : PM} (h : DM Z w B g M) (hc : ChgP Y w w') (hY : ∀ k, Z k ∨ k < B → ¬ Y k) : DM Z w' B g M := by
  obtain ⟨A1, A2, Ap, n1, n2, c1, c2, np, cp, pgs, h⟩ := h
  exact ⟨A1, A2, Ap, n1, n2, c1, c2, np, cp, pgs, h.chg hc hY⟩
theorem DM.below {Z : Nat → Prop} {w w' : World} {B g : Nat} {M : PM} (h : DM Z w B g M) (hb : Below w.heap.size w w') : DM Z w' B g M := h.chg (Y := fun _ => False) (ChgP.of_below hb) (fun _ _ h => h)
theorem DM.lt {Z : Nat → Prop} {w : World} {B g : Nat} {M : PM} (h : DM Z w B g M) : ∀ k, Z k → B ≤ k ∧ k < w.heap.size := by
  obtain ⟨_, _, _, _, _, _, _, _, _, _, h⟩ := h
  exact h.z
/-- what a call that lays nothing leaves -/
def QuietD (Z : Nat → Prop) (w : World) (B g : Nat) (M' : PM) (w' : World) : Prop := DM Z w' B g M' ∧ ChgP Z w w'
/-- what a call that lays bytes leaves -/
def LaidD (Z : Nat → Prop) (w : World) (B g : Nat) (M' : PM) (w' : World) : Prop := ∃ Z', DM Z' w' B g M' ∧ ChgP Z w w' ∧ ∀ k, Z' k → Z k ∨ w.heap.size ≤ k
/-- while bytes are laid -/
def LD (Z : Nat → Prop) (w : World) (B g : Nat) (M : PM) (A1 A2 : Option Addr) (n1 n2 c1 c2 : Nat) (at_ : Nat) (f : Nat → Nat) (d ee : Nat) (Ap : Option Addr) (np cp : Nat) (pgs : List (Nat × Nat)) (wr : World) : Prop :=
  ∃ Z', DZ Z' wr B g { M with mem := layM M.mem at_ d f, pgn := pgF M.pgn at_ ee } A1 A2 Ap n1 n2 c1 c2 np cp pgs ∧ ChgP Z w wr ∧ ∀ k, Z' k → Z k ∨ w.heap.size ≤ k
theorem LD.zero {Z : Nat → Prop} {w : World} {B g : Nat} {M : PM} {A1 A2 Ap : Option Addr} {n1 n2 c1 c2 np cp at_ : Nat} {f : Nat → Nat} {pgs : List (Nat × Nat)} (h : DZ Z w B g M A1 A2 Ap n1 n2 c1 c2 np cp pgs) : LD Z w B g M A1 A2 n1 n2 c1 c2 at_ f 0 0 Ap np cp pgs w :=
  ⟨Z, ⟨(h.m.memc (mem' := layM M.mem at_ 0 f) (fun p => by rw [layM_zero])).pg _, h.zg, h.zp, h.zb, h.z, h.num, .inr ⟨_, h.ord, rfl⟩⟩, ChgP.refl _ _, fun k hk => .inl hk⟩
theorem pgF_here {P : List Nat → Prop} {l : List Nat} {a d k : Nat} (h : pgF P a d l) (hk : k ∈ l) (e : k = (a + d) / 4096) : pgF P a (d + 1) l := by
  rcases h with h | ⟨l0, h1, h2⟩
  · exact .inl h
  · exact .inr ⟨l0, h1, by rw [pgN_here (by rw [← h2]; exact hk) e]; exact h2⟩
/-- the page is there -/
theorem LD.here {Z : Nat → Prop} {w wr : World} {B g : Nat} {M : PM} {A1 A2 Ap : Option Addr} {n1 n2 c1 c2 np cp at_ d : Nat} {f : Nat → Nat} {pgs : List (Nat × Nat)} (h : LD Z w B g M A1 A2 n1 n2 c1 c2 at_ f d d Ap np cp pgs wr)
    {k b : Nat} (hx : (k, b) ∈ pgs) (he : k = (at_ + d) / 4096) : LD Z w B g M A1 A2 n1 n2 c1 c2 at_ f d (d + 1) Ap np cp pgs wr := by
  obtain ⟨Z', hz, hc, hn⟩ := h
  exact ⟨Z', ⟨hz.m.pg _, hz.zg, hz.zp, hz.zb, hz.z, hz.num, pgF_here hz.ord (List.mem_map.2 ⟨_, hx, rfl⟩) he⟩, hc, hn⟩
theorem LD.any {Z : Nat → Prop} {w wr : World} {B g : Nat} {M : PM} {A1 A2 Ap : Option Addr} {n1 n2 c1 c2 np cp at_ d e : Nat} (e' : Nat) {f : Nat → Nat} {pgs : List (Nat × Nat)} (hall : ∀ l, M.pgn l) (h : LD Z w B g M A1 A2 n1 n2 c1 c2 at_ f d e Ap np cp pgs wr) : LD Z w B g M A1 A2 n1 n2 c1 c2 at_ f d e' Ap np cp pgs wr := by
  obtain ⟨Z', hz, hc, hn⟩ := h
  exact ⟨Z', ⟨hz.m.pg _, hz.zg, hz.zp, hz.zb, hz.z, hz.num, .inl hall⟩, hc, hn⟩
theorem LD.set1 {Z : Nat → Prop} {w wr : World} {B g : Nat} {M : PM} {A1 A2 Ap : Option Addr} {n1 n2 c1 c2 np cp at_ d ee : Nat} {f : Nat → Nat} {pgs : List (Nat × Nat)} (h : LD Z w B g M A1 A2 n1 n2 c1 c2 at_ f d ee Ap np cp pgs wr) (hee : ee = d ∨ ee = d + 1)
    {k b i : Nat} (hx : (k, b) ∈ pgs) (hi : i < 4096) (hv : f d < 256) (he : 4096 * k + i = at_ + d) : LD Z w B g M A1 A2 n1 n2 c1 c2 at_ f (d + 1) (d + 1) Ap np cp pgs (wr.setCell ⟨b, i, none⟩ (u8 (f d))) := by
  obtain ⟨Z', hz, hc, hn⟩ := h
  have hzb := hz.zb _ hx
  refine ⟨Z', ⟨(hz.m.set1 hx hi hv (mem' := layM M.mem at_ (d + 1) f) (fun p => by rw [layM_succ, he])).pg _, hz.zg, hz.zp, hz.zb, fun k hk => ⟨(hz.z k hk).1, by rw [show (wr.setCell ⟨b, i, none⟩ (u8 (f d))).heap.size = wr.heap.size by simp [World.setCell]]; exact (hz.z k hk).2⟩, hz.num, by
    rcases hee with e | e
    · rw [e] at hz; exact pgF_here hz.ord (List.mem_map.2 ⟨_, hx, rfl⟩) (by show k = _; omega)
    · rw [e] at hz; exact hz.ord⟩, hc.set_ (p := ⟨b, i, none⟩) (hn _ hzb) _, hn⟩
theorem LD.skip {Z : Nat → Prop} {w wr : World} {B g : Nat} {M : PM} {A1 A2 Ap : Option Addr} {n1 n2 c1 c2 np cp at_ d k : Nat} {f : Nat → Nat} {pgs : List (Nat × Nat)} (h : LD Z w B g M A1 A2 n1 n2 c1 c2 at_ f d d Ap np cp pgs wr) (hall : ∀ l, M.pgn l)
    (hk : (at_ + d) % 4096 + k ≤ 4096) (hno : ∀ x ∈ pgs, x.1 ≠ (at_ + d) / 4096) (hf : ∀ i, f i = 0) : LD Z w B g M A1 A2 n1 n2 c1 c2 at_ f (d + k) (d + k) Ap np cp pgs wr := by
  obtain ⟨Z', hz, hc, hn⟩ := h
  refine ⟨Z', ⟨(hz.m.memc (mem' := layM M.mem at_ (d + k) f) (fun p => ?_)).pg _, hz.zg, hz.zp, hz.zb, hz.z, hz.num, .inl hall⟩, hc, hn⟩
  show layM M.mem at_ (d + k) f p = layM M.mem at_ d f p
  by_cases hp : p / 4096 = (at_ + d) / 4096
  · have h0 := hz.m.out p (fun x hx => by rw [hp]; exact hno x hx)
    rw [show layM M.mem at_ d f p = 0 from h0]
    unfold layM at h0 ⊢
    by_cases h1 : at_ ≤ p ∧ p < at_ + (d + k)
    · rw [if_pos h1, hf]
    · rw [if_neg h1]
      simp only at h0
      rw [if_neg (by omega)] at h0
      exact h0
  · exact layM_other hk hp
theorem rowg {w w' : World} {g : Nat} {t : TypeId} {cs : List Value} {row : Option Nat} (h : Row w g t cs) (hg : w.grownBy w' row) (hne : some g ≠ row) : Row w' g t cs := (hg.block g h.lt hne).trans h
theorem step_append_B {P : Program} (w : World) {ops : Array Oper} {o : Oper} {a : Act} {K : Act → World → Prop} {Q : Exit → Act → World → Prop} {E : Prop} (hgd : o.guard = none) (s x : Operand) (t : TypeId)
    (ho : o.op = .call { callee := .builtin .append, args := #[s, x], argTypes := #[t, t] })
    (base : Nat) (e : TypeId) (i : TypeInfo) (z : Value) (size bytes : Nat) (ht : P.underlying t = some (.slice e)) (hi : P.info? e = some i) (hz : i.zero = some z)
    (hsize : i.size = size) (hby : i.bytes = bytes) (hzs : z.cells.size = size) (hsz : 0 < size)
    (v : Value) (n : Nat) (xs : List Value) (hs : a.eval s = v) (hown : w.ownsRow base e size v n xs)
    (B : Nat) (A : Option Addr) (m c : Nat) (news : List Value) (hx : a.eval x = .slice A m c) (hr : Reads w B size A m news) (h1 : ∀ u ∈ news, u.oneCell' = true)
    (h63 : n + m ≤ maxLen) (hbytes : (n + m) * bytes ≤ 140737488355328) (hbase : base ≤ w.heap.size)
    (h : ∀ A' c' w', w'.ownsRow base e size (.slice A' (n + m) c') (n + m) (xs ++ news) → w.grownBy w' v.ownBlock →
      ((Value.slice A' (n + m) c').ownBlock = v.ownBlock ∨ (Value.slice A' (n + m) c').ownBlock = some w.heap.size) → K (a.put o.dst (.slice A' (n + m) c')) w') :
    if Region.wanted o (yielded ops a.tmps) = true then Oper.wp P o a w K Q else E := by
  refine step_append_any w hgd s x t ho base e i z size bytes ht hi hz hsize hby hzs hsz v n xs hs hown B A m c news hx hr h1 h63 hbytes hbase fun v' w' h2 h3 h4 => ?_
  obtain ⟨A', c', rfl, _⟩ := own_slice h2
  exact h A' c' w' h2 h3 h4
theorem infoPg : (Tryz.prog.info? 47).map (fun i => (i.zero, i.size, i.bytes)) = some (some (.agg #[.int .u64 0, .slice none 0 0]), 2, 32) := by kernel_rfl
theorem ChgP.ofgrown {w w' : World} {row : Option Nat} (hg : w.grownBy w' row) : ChgP (fun k => row = some k) w w' := ⟨hg.os, hg.tape, hg.output, hg.size, fun i hi hn => hg.block i hi (fun e => hn e.symm)⟩
theorem RMA.gown {w : World} {B g : Nat} {M : PM} {A1 A2 Ap : Option Addr} {n1 n2 c1 c2 np cp : Nat} {pgs : List (Nat × Nat)} (h : RMA w B g M A1 A2 Ap n1 n2 c1 c2 np cp pgs) : some g ≠ (Value.slice Ap np cp).ownBlock := fun e => own_blk_ne h.own (cs := _) h.row (by decide) e.symm
theorem DZ.grown_row {Z : Nat → Prop} {w wq w2 : World} {B g : Nat} {M : PM} {A1 A2 Ap : Option Addr} {n1 n2 c1 c2 np cp : Nat} {pgs : List (Nat × Nat)} (h : DZ Z w B g M A1 A2 Ap n1 n2 c1 c2 np cp pgs) (hq : Below w.heap.size w wq) (hg : wq.grownBy w2 (Value.slice Ap np cp).ownBlock) :
    Row w2 g 44 [.slice A1 n1 c1, .slice A2 n2 c2, .slice Ap np cp, .int .i64 M.loads, .int .i64 M.stores, .int .i64 M.strays] :=
  rowg (h.m.row.below hq h.m.row.lt) hg h.m.gown
theorem own_ad {w : World} {base n c size : Nat} {e : TypeId} {A : Option Addr} {xs : List Value} (h : w.ownsRow base e size (.slice A n c) n xs) {k : Nat} (hk : (Value.slice A n c).ownBlock = some k) : ∃ ad, A = some ad ∧ ad.block = k := by
  rcases h.2 with ⟨h1, _⟩ | ⟨g', cap, cur, h1, _⟩
  · rw [h1] at hk; cases hk
  · injection h1 with h1
    subst h1
    simp [Value.ownBlock] at hk
    exact ⟨_, rfl, hk⟩
/-- a page is added -/
theorem DZ.add {Z : Nat → Prop} {w wq w2 : World} {B g : Nat} {M : PM} {A1 A2 Ap A' : Option Addr} {n1 n2 c1 c2 np cp c' : Nat} {pgs : List (Nat × Nat)} (h : DZ Z w B g M A1 A2 Ap n1 n2 c1 c2 np cp pgs) {p bb : Nat} (hp : p < 1048576 ∧ ∃ q, q / 4096 = p ∧ on (M.rams ++ M.devs) q = true) (hno : ∀ x ∈ pgs, x.1 ≠ p) (hq : Below w.heap.size w wq) (hbb : w.heap.size ≤ bb)
    (hrb : Row wq bb 5 (List.replicate 4096 (u8 0))) (hown : w2.ownsRow B 47 2 (.slice A' (np + 1) c') (np + 1) ((pgs.map pcell).flatten ++ pcell (p, bb))) (hg : wq.grownBy w2 (Value.slice Ap np cp).ownBlock)
    (hat : (Value.slice A' (np + 1) c').ownBlock = (Value.slice Ap np cp).ownBlock ∨ (Value.slice A' (np + 1) c').ownBlock = some wq.heap.size) (Q : List Nat → Prop) (hQ : Q (pgs.map (·.1) ++ [p])) :
    ∃ Z', DZ Z' (w2.setCell ⟨g, 2, none⟩ (.slice A' (np + 1) c')) B g { M with pgn := Q } A1 A2 A' n1 n2 c1 c2 (np + 1) c' (pgs ++ [(p, bb)]) ∧ ChgP Z w (w2.setCell ⟨g, 2, none⟩ (.slice A' (np + 1) c')) ∧ ∀ k, Z' k → Z k ∨ w.heap.size ≤ k := by
  have hr2 := h.grown_row hq hg
  have hown0 : wq.ownsRow B 47 2 (.slice Ap np cp) np (pgs.map pcell).flatten := owns_below2 h.m.own hq
  have hZo : ∀ k, (Value.slice Ap np cp).ownBlock = some k → Z k := fun k hk => by
    obtain ⟨ad, h1, h2⟩ := own_ad h.m.own hk
    rw [← h2]; exact h.zp ad h1
  have hB : B ≤ w.heap.size := Nat.le_of_lt (Nat.lt_of_le_of_lt h.m.gB h.m.row.lt)
  have hc : ChgP Z w (w2.setCell ⟨g, 2, none⟩ (.slice A' (np + 1) c')) := ((ChgP.of_below hq).trans (ChgP.ofgrown hg) (fun k hk => .inl (hZo k hk))).set_ (p := ⟨g, 2, none⟩) (.inl h.zg) _
  have hbl : Below B w (w2.setCell ⟨g, 2, none⟩ (.slice A' (np + 1) c')) := hc.below hB (fun k hk => (h.z k hk).1)
  have hsz : (w2.setCell ⟨g, 2, none⟩ (.slice A' (np + 1) c')).heap.size = w2.heap.size := by simp [World.setCell]
  have hs2 : w.heap.size ≤ w2.heap.size := Nat.le_trans hq.size hg.size
  have hst : ∀ {b : Nat} {cs : List Value}, Row wq b 5 cs → Row (w2.setCell ⟨g, 2, none⟩ (.slice A' (np + 1) c')) b 5 cs := fun {b cs} hr => by
    have h1 : Row w2 b 5 cs := rowg hr hg (fun e => own_blk_ne hown0 (cs := _) hr (by decide) e.symm)
    exact h1.far (p := ⟨g, 2, none⟩) (Row.ne_t h1 hr2 (by decide)) _
  have hrb' := hst hrb
  refine ⟨fun k => (Z k ∨ w.heap.size ≤ k) ∧ k < w2.heap.size, ⟨⟨hr2.set_ 2 _, h.m.gB, h.m.rams.below hbl, h.m.devs.below hbl, h.m.ok, ?_, by rw [List.length_append, h.m.plen]; rfl, fun x hx => ?_, ?_, ?_, fun q hq => h.m.out q (fun x hx => hq x (List.mem_append_left _ hx)), h.m.byte⟩, ⟨.inl h.zg, hr2.lt⟩, fun ad had => ?_, fun x hx => ?_, fun k hk => ⟨by rcases hk.1 with h1 | h1; exact (h.z k h1).1; omega, by rw [hsz]; exact hk.2⟩, fun x hx => ?_, by rw [List.map_append]; exact hQ⟩, hc, fun k hk => hk.1⟩
  · have e : ((pgs ++ [(p, bb)]).map pcell).flatten = (pgs.map pcell).flatten ++ pcell (p, bb) := by simp
    rw [e]
    exact own_setr hown hr2 (by decide) _ _
  · rcases List.mem_append.1 hx with hx | hx
    · exact ⟨(h.m.bytes x hx).1, hst ((h.m.bytes x hx).2.below hq (h.m.bytes x hx).2.lt)⟩
    · rw [List.mem_singleton.1 hx]
      refine ⟨by show B ≤ bb; omega, ?_⟩
      show Row _ bb _ (leafRow M.mem p)
      rw [leafRow_zero M.mem p (fun i hi => h.m.out _ (fun x hx => by have := hno x hx; omega))]
      exact hrb'
  · rw [List.map_append, List.nodup_append]
    refine ⟨h.m.nums, by simp, ?_⟩
    intro a ha b hb
    obtain ⟨x, hx, rfl⟩ := List.mem_map.1 ha
    simp at hb
    rw [hb]
    exact hno x hx
  · rw [List.map_append, List.nodup_append]
    refine ⟨h.m.blks, by simp, ?_⟩
    intro a ha b hb
    obtain ⟨x, hx, rfl⟩ := List.mem_map.1 ha
    simp at hb
    have := (h.m.bytes x hx).2.lt
    omega
  · obtain ⟨g', hg', _⟩ := own_somer hown (by omega)
    rw [hg'] at had hat
    injection had with had
    subst had
    have hlt : g' < w2.heap.size := (hown.lt g' (by rw [hg']; rfl)).2
    refine ⟨?_, hlt⟩
    rcases hat with h1 | h1
    · left
      have h2 : (Value.slice (some ⟨g', 0, none⟩) (np + 1) c').ownBlock = some g' := rfl
      rw [h2] at h1
      exact hZo g' h1.symm
    · right
      have h2 : (Value.slice (some ⟨g', 0, none⟩) (np + 1) c').ownBlock = some g' := rfl
      rw [h2] at h1
      injection h1 with h1
      show w.heap.size ≤ g'
      have := hq.size
      omega
  · rcases List.mem_append.1 hx with hx | hx
    · refine ⟨.inl (h.zb x hx), ?_⟩
      have := (h.m.bytes x hx).2.lt
      omega
    · rw [List.mem_singleton.1 hx]
      have := hrb'.lt
      rw [hsz] at this
      exact ⟨.inr hbb, this⟩
  · rcases List.mem_append.1 hx with hx | hx
    · exact h.num x hx
    · rw [List.mem_singleton.1 hx]; exact hp
theorem LD.add {Z : Nat → Prop} {w0 w wq w2 : World} {B g : Nat} {M : PM} {A1 A2 Ap A' : Option Addr} {n1 n2 c1 c2 np cp c' at_ d : Nat} {f : Nat → Nat} {pgs : List (Nat × Nat)} (h : LD Z w0 B g M A1 A2 n1 n2 c1 c2 at_ f d d Ap np cp pgs w) {p bb : Nat} (hpe : p = (at_ + d) / 4096) (hp : p < 1048576 ∧ ∃ q, q / 4096 = p ∧ on (M.rams ++ M.devs) q = true) (hno : ∀ x ∈ pgs, x.1 ≠ p) (hq : Below w.heap.size w wq) (hbb : w.heap.size ≤ bb)
    (hrb : Row wq bb 5 (List.replicate 4096 (u8 0))) (hown : w2.ownsRow B 47 2 (.slice A' (np + 1) c') (np + 1) ((pgs.map pcell).flatten ++ pcell (p, bb))) (hg : wq.grownBy w2 (Value.slice Ap np cp).ownBlock)
    (hat : (Value.slice A' (np + 1) c').ownBlock = (Value.slice Ap np cp).ownBlock ∨ (Value.slice A' (np + 1) c').ownBlock = some wq.heap.size) :
    LD Z w0 B g M A1 A2 n1 n2 c1 c2 at_ f d (d + 1) A' (np + 1) c' (pgs ++ [(p, bb)]) (w2.setCell ⟨g, 2, none⟩ (.slice A' (np + 1) c')) := by
  obtain ⟨Z', hz, hc, hn⟩ := h
  obtain ⟨Z'', h1, h2, h3⟩ := hz.add hp hno hq hbb hrb hown hg hat (pgF M.pgn at_ (d + 1)) (by
    rcases hz.ord with h | ⟨l0, h, h'⟩
    · exact .inl h
    · refine .inr ⟨l0, h, ?_⟩
      show _ = addP _ _
      rw [h', ← hpe]
      unfold addP
      rw [if_neg]
      rw [← h']
      intro hx
      obtain ⟨x, hx, hxe⟩ := List.mem_map.1 hx
      exact hno x hx hxe)
  refine ⟨Z'', h1, hc.trans h2 hn, fun k hk => ?_⟩
  rcases h3 k hk with h | h
  · exact hn k h
  · exact .inr (Nat.le_trans hc.size h)
theorem reads_pg (w : World) (p q c : Nat) (t : TypeId) (B : Nat) (h : c < B) (hr : Row w c t (pcell (p, q))) : Reads w B 2 (some ⟨c, 0, none⟩) 1 (pcell (p, q)) := ⟨rfl, fun _ => ⟨_, rfl, h, fun j u hu => by rw [Addr.add_mid, Nat.zero_add, hr.cell]; exact hu⟩⟩
end Bu
end Go.Proofs.YtfpofaniicegaaaGreat

/- The walk of the document's machine's lay. (Printed by laydgen.py.) -/
set_option linter.unusedVariables false
set_option linter.unusedSimpArgs false
namespace Go.Proofs.YtfpofaniicegaaaGreat
open Go.RowKit
open S64
namespace Bu
set_option maxRecDepth 100000 in
set_option maxHeartbeats 4000000 in
theorem reflay_write {Z : Nat → Prop} {w : World} {B g : Nat} {M : PM} {A1 A2 Ap : Option Addr} {n1 n2 c1 c2 np cp : Nat} {pgs : List (Nat × Nat)} (h : DZ Z w B g M A1 A2 Ap n1 n2 c1 c2 np cp pgs) (at_ n : Nat) (ha : at_ ≤ TOP) (h32 : n = 0 ∨ at_ + n ≤ 4294967296) (bb ob cb : Nat) (bs : List Nat) (hn0 : 0 < n) (hb : IsB w w.heap.size (some ⟨bb, ob, none⟩) n bs) (hnz : ¬ Z bb) (hon : ∀ i, i < n → on (M.rams ++ M.devs) (at_ + i) = true) :
    Calls Tryz.prog 20 #[.pointer (some ⟨g, 0, none⟩), .int .u64 (at_ : Nat), .slice (some ⟨bb, ob, none⟩) n cb, .int .i64 (n : Nat), .int .u8 0] w
      fun e w' => e = .returned (.tuple #[]) ∧ ∃ Ap' np' cp' pgs', LD Z w B g M A1 A2 n1 n2 c1 c2 at_ (fun i => bs.getD i 0) n n Ap' np' cp' pgs' w' := by
  have hn32 : n ≤ 4294967296 := by omega
  obtain ⟨i0, hi, hz1, hz2, hz3⟩ := info_parts infoPg
  have HI := Lib.hid hi; have HZ1 := Lib.hid hz1; have HZ2 := Lib.hid hz2; have HZ3 := Lib.hid hz3
  have hmk := run_make_row' (P := Tryz.prog) 45 5 (.int .u8 0) 1 Tryz.underlying45 info5 rfl .i64 .i64 4096 (by omega) (by omega)
  rw [madeCells_one] at hmk
  obtain ⟨Z0, hZ0⟩ : ∃ Z0 : List Value, Z0 = List.replicate 4096 (.int .u8 0) := ⟨_, rfl⟩
  rw [← hZ0] at hmk
  replace hmk : ∀ wx : World, (Instr.makeSlice 45 (.int .i64 4096) (.int .i64 4096)).run Tryz.prog wx = .ok (.slice (some ⟨wx.heap.size, 0, none⟩) 4096 4096) (wx.alloc (.cells Z0.toArray 5)) := hmk
  have HZ0 := Lib.hid hZ0
  have H32 := Lib.hid h32
  have hat64 : at_ ≤ 18446744073709551615 := ha
  have HLD : Hid (LD Z w B g M A1 A2 n1 n2 c1 c2 at_ (fun i => bs.getD i 0) 0 0 Ap np cp pgs w) := Lib.hid (LD.zero h)
  have HBS := Lib.hid hb; have HNZ := Lib.hid hnz; have HON := Lib.hid hon
  have HF8 : Hid (∀ i, bs.getD i 0 < 256) := Lib.hid (getD_lt hb.2.1)
  obtain ⟨f, hf⟩ : ∃ f : Nat → Nat, f = fun i => bs.getD i 0 := ⟨_, rfl⟩
  rw [← hf] at HLD ⊢
  have HF : Hid (f = fun i => bs.getD i 0) := Lib.hid hf
  have hneq : ∀ wx : World, (binOp .neq 45 (.slice (some ⟨bb, ob, none⟩) n cb) (.slice none 0 0)).run Tryz.prog wx = .ok (.bool true) wx := fun wx => run_neq_slice_nil_any wx _ _ _ _ _ _ _ Tryz.underlying45
  clear hb hnz hf hn0 hon

  clear h ha h32 hi hz1 hz2 hz3 hZ0
  go_enter Tryz.func20, Tryz.ntmps20
  go_wp2_with fail
  go_loopw [10] (fun i wr => ∃ d : Nat, d ≤ n ∧ i = .int .i64 (d : Nat) ∧ Hid (∃ Ap np cp pgs, LD Z w B g M A1 A2 n1 n2 c1 c2 at_ f d d Ap np cp pgs wr)) (fun i _ => n - (intOf i).toNat)
  case atStart => exact ⟨0, by omega, rfl, Lib.hid ⟨_, _, _, _, HLD.out⟩⟩
  case round =>
  clear HLD
  obtain ⟨d, hd, rfl, HLD⟩ := hrel
  by_cases hdn : d < n
  · obtain ⟨a, hae⟩ : ∃ a, a = at_ + d := ⟨_, rfl⟩
    have ha32 : a < 4294967296 := by have := H32.out; omega
    have e1 : (at_ : Int) + (d : Int) = (a : Int) := by omega
    obtain ⟨fr, hfr⟩ : ∃ fr, fr = a % 4096 := ⟨_, rfl⟩
    obtain ⟨p, hp⟩ : ∃ p, p = a / 4096 := ⟨_, rfl⟩
    have e2 : (a : Int) % 4096 = (fr : Int) := by omega
    have e3 : (a : Int) / 4096 = (p : Int) := by omega
    have hf4 : fr < 4096 := by omega
    have hp20 : p < 1048576 := by omega
    obtain ⟨K, hK⟩ : ∃ K, K = min (4096 - fr) (n - d) := ⟨_, rfl⟩
    have hK1 : 0 < K := by omega
    have hK2 : d + K ≤ n := by omega
    have hK3 : fr + K ≤ 4096 := by omega
    have HAE := Lib.hid hae
    have HFP : Hid (4096 * p + fr = a) := Lib.hid (by omega)
    have HFR : Hid (fr = a % 4096) := Lib.hid hfr
    have HPE : Hid (p = a / 4096) := Lib.hid hp
    have HKE := Lib.hid hK
    have HP20 : Hid (p < 1048576 ∧ ∃ q, q / 4096 = p ∧ on (M.rams ++ M.devs) q = true) := Lib.hid ⟨hp20, a, hp.symm, by rw [hae]; exact HON.out d hdn⟩
    clear hae hfr hp hK
    obtain ⟨Ap, np, cp, pgs, hld⟩ := HLD.out
    have HL := Lib.hid hld
    obtain ⟨Z', hz, hzc, hzn⟩ := hld
    have HMR := Lib.hid hz.m
    clear HLD hz hzc hzn
    go_upto_if 31 with fail
    go_cut [12] (fun x wx => x = .int .i64 (K : Nat) ∧ wr = wx)
    case first =>
      by_cases q : n - d < 4096 - fr
      · have f1 : (n : Int) - (d : Int) < 4096 - (fr : Int) := by omega
        have e4 : (K : Int) = (n : Int) - (d : Int) := by have := HKE.out; omega
        have HE4 := Lib.hid e4
        clear e4
        go_wp2_with fail
        go_meet
        case rel => exact ⟨by rw [HE4.out], rfl⟩
      · have f1 : ¬ (n : Int) - (d : Int) < 4096 - (fr : Int) := by omega
        have e4 : (K : Int) = 4096 - (fr : Int) := by have := HKE.out; omega
        have HE4 := Lib.hid e4
        clear e4
        go_wp2_with fail
        go_meet
        case rel => exact ⟨by rw [HE4.out], rfl⟩
    case rest =>
    obtain ⟨rfl, rfl⟩ := hcut
    go_wp2_with fail
    refine (find_any HMR.out p (by unfold TOP; omega)).mono ?_
    rintro e w' ⟨hs, rfl⟩
    obtain ⟨z, rfl, hz⟩ : ∃ z : Int, e = .returned (.int .i64 z) ∧ ((∃ (i : Nat) (x : Nat × Nat), pgs[i]? = some x ∧ x.1 = p ∧ z = (i : Nat)) ∨ ((∀ x ∈ pgs, x.1 ≠ p) ∧ z = -1)) := by
      rcases hs with ⟨i, x, h1, h2, h3⟩ | ⟨h1, h2⟩
      · exact ⟨_, h3, .inl ⟨i, x, h1, h2, rfl⟩⟩
      · exact ⟨_, h2, .inr ⟨h1, rfl⟩⟩
    have HZS := Lib.hid hz
    clear hz hs HMR
    go_upto_region 7 with fail
    go_cut [51] (fun x wx => x = .bool (decide (z < 0)) ∧ wr = wx)
    case first =>
      by_cases q : z < 0
      · go_wp2_with fail
        go_meet
        case rel => exact ⟨by rw [decide_eq_true q], rfl⟩
      · go_wp2_with fail
        go_meet
        case rel => exact ⟨by rw [decide_eq_false (by omega)], rfl⟩
    case rest =>
    obtain ⟨rfl, rfl⟩ := hcut
    go_upto_if 51 with fail
    go_cut [13] (fun x wx => Hid (∃ Ap np cp pgs, LD Z w B g M A1 A2 n1 n2 c1 c2 at_ f d (d + 1) Ap np cp pgs wx ∧ ((∃ (i kb : Nat), x = .int .i64 (i : Nat) ∧ pgs[i]? = some (p, kb)))))
    case first =>
      rcases HZS.out with ⟨i, ⟨m, kb⟩, hi, hm, rfl⟩ | ⟨hno, rfl⟩
      · have HFIN : Hid (∃ Ap np cp pgs, LD Z w B g M A1 A2 n1 n2 c1 c2 at_ f d (d + 1) Ap np cp pgs wr ∧ ((∃ (i' kb : Nat), Value.int .i64 (i : Nat) = .int .i64 (i' : Nat) ∧ pgs[i']? = some (p, kb)))) := Lib.hid ⟨_, _, _, _, HL.out.here (List.mem_of_getElem? hi) (by rw [show m = p from hm, HPE.out, HAE.out]), ⟨i, kb, rfl, by rw [hi, show m = p from hm]⟩⟩
        have hi0 : decide ((i : Int) < 0) = false := decide_eq_false (by omega)
        clear hi hm HZS
        go_wp2_with fail
        go_meet
        case rel => exact HFIN

      · have hz0 : decide ((-1 : Int) < 0) = true := by decide

        have HNO := Lib.hid hno
        obtain ⟨Z', hz, hzc, hzn⟩ := HL.out
        have HDZ := Lib.hid hz; have HZC := Lib.hid hzc; have HZN := Lib.hid hzn
        have p2 := hz.m.row.cell 2
        have pf := hz.m.row.frozen 2
        have lp := hz.m.row.lt
        have HOWN := Lib.hid hz.m.own
        have HNP := Lib.hid hz.np_le
        have HBR : Hid (B ≤ wr.heap.size) := Lib.hid (Nat.le_of_lt (Nat.lt_of_le_of_lt hz.m.gB lp))
        simp only [List.getElem?_cons_zero, List.getElem?_cons_succ] at p2
        clear hno hz hzc hzn HZS
        have hw1 : IntKind.u64.wrap (d : Int) = (d : Int) := by rw [IntKind.wrap_u64]; omega
        have hw2 : IntKind.u64.wrap (a : Int) = (a : Int) := by rw [IntKind.wrap_u64]; omega
        have hw3 : (a : Int).tdiv 4096 = (p : Int) := by rw [Int.tdiv_eq_ediv_of_nonneg (by omega)]; exact e3
        have hw4 : IntKind.u64.wrap (p : Int) = (p : Int) := by rw [IntKind.wrap_u64]; omega
        have HBW : Hid (Below wr.heap.size wr ((wr.alloc (.cells Z0.toArray 5)).alloc (.cells (pcell (p, wr.heap.size)).toArray 47))) := Lib.hid (((Below.refl _ _).alloc (Nat.le_refl _) _).alloc (by simp) _)
        have HOWN2 := Lib.hid (owns_below2 HOWN.out HBW.out)
        have hrp := Row.new (wr.alloc (.cells Z0.toArray 5)) 47 (pcell (p, wr.heap.size))
        rw [sz_alloc] at hrp
        have HRP := Lib.hid hrp
        have HRB := Lib.hid ((Row.new wr 5 Z0).alloc (.cells (pcell (p, wr.heap.size)).toArray 47))
        clear hrp
        go_upto_region 9 with fail
        go_region_law (first
          | (refine step_append_B _ (by rfl) (.tmp 61) (.tmp 69) 42 (by rfl) B 47 i0 _ 2 32 Tryz.underlying42 HI.out HZ1.out HZ2.out HZ3.out rfl (by omega) (.slice Ap np cp) np (pgs.map pcell).flatten (by first | rfl | simp [Act.eval, Act.put]) HOWN2.out (wr.heap.size + 2) (some ⟨wr.heap.size + 1, 0, none⟩) 1 1 (pcell (p, wr.heap.size)) (by first | rfl | simp [Act.eval, Act.put]) (reads_pg _ p wr.heap.size (wr.heap.size + 1) _ _ (by omega) HRP.out) (fun u hu => by simp [pcell] at hu; rcases hu with rfl | rfl <;> rfl) (by have := HNP.out; unfold maxLen; omega) (by have := HNP.out; omega) (by have := HBR.out; simp; omega) ?_; intro A2' c2' w2 hown2 hg2 hat2; have HO2 := Lib.hid hown2; have HG2 := Lib.hid hg2; have HT2 := Lib.hid hat2; clear hown2 hg2 hat2; have hr2 := HDZ.out.grown_row HBW.out.drew HG2.out; have k2 := hr2.cell 2; have kf := hr2.frozen 2; have kl := hr2.lt; simp only [List.getElem?_cons_zero, List.getElem?_cons_succ] at k2; clear hr2))
        all_goals
          go_wp2_with fail
          go_meet
          case rel => exact Lib.hid ⟨_, _, _, _, HL.out.add (by rw [HPE.out, HAE.out]) HP20.out HNO.out HBW.out.drew (Nat.le_refl _) (by rw [show List.replicate 4096 (u8 0) = Z0 from HZ0.out.symm]; exact HRB.out) HO2.out HG2.out HT2.out, ⟨np, wr.heap.size, rfl, by rw [List.getElem?_append_right (by rw [HDZ.out.m.plen]; omega), HDZ.out.m.plen, Nat.sub_self]; rfl⟩⟩
    case rest =>
    have hK1 : 0 < K := hK1
    clear HL HZS
    obtain ⟨Ap, np, cp, pgs, hl, i, kb, rfl, hix⟩ := hcut.out
    have HIX := Lib.hid hix
    have HL0 : Hid (LD Z w B g M A1 A2 n1 n2 c1 c2 at_ f (d + 0) (d + max 0 1) Ap np cp pgs wc) := Lib.hid hl
    have hin : i < np := by
      have h1 := (List.getElem?_eq_some_iff.1 hix).1
      obtain ⟨_, h2, _⟩ := hl
      have := h2.m.plen
      omega
    have hnp : np ≤ 1048576 := by
      obtain ⟨_, h2, _⟩ := hl
      exact h2.np_le
    have hiN : (0 : Int) ≤ (i : Int) := by omega
    clear hl hix hcut
    go_wp2_with fail
    go_loopw [14] (fun x wx => ∃ t : Nat, t ≤ K ∧ x = .int .i64 (t : Nat) ∧ Hid (LD Z w B g M A1 A2 n1 n2 c1 c2 at_ f (d + t) (d + max t 1) Ap np cp pgs wx)) (fun x _ => K - (intOf x).toNat)
    case atStart => exact ⟨0, by omega, rfl, HL0⟩
    case round =>
    clear HL0
    obtain ⟨t, ht, rfl, HL⟩ := hrel
    by_cases htK : t < K
    · obtain ⟨Z', hz, hzc, hzn⟩ := HL.out
      have HMX := Lib.hid hz.m
      obtain ⟨bp, op, HP⟩ := HMX.out.page
      obtain ⟨rfl, hb, hc⟩ := HP.out (by omega)
      obtain ⟨c0, cx⟩ := hc i _ HIX.out
      have p2 := HMX.out.row.cell 2
      have lp := HMX.out.row.lt
      simp only [List.getElem?_cons_zero, List.getElem?_cons_succ] at p2 c0 cx
      obtain ⟨dt, hdt⟩ : ∃ dt, dt = d + t := ⟨_, rfl⟩
      obtain ⟨ft, hft⟩ : ∃ ft, ft = fr + t := ⟨_, rfl⟩
      have hft4 : ft < 4096 := by omega
      have hdtn : dt < n := by omega
      have e5 : (fr : Int) + (t : Int) = (ft : Int) := by omega
      have e6 : (d : Int) + (t : Int) = (dt : Int) := by omega
      obtain ⟨fv, hfv⟩ : ∃ fv, fv = f dt := ⟨_, rfl⟩
      have hrk := (HMX.out.bytes (p, kb) (List.mem_of_getElem? HIX.out)).2
      obtain ⟨y, y0⟩ : ∃ y, wr.cell? ⟨kb, ft, none⟩ = some y := ⟨_, by rw [hrk.cell, leafRow_get _ _ _ hft4]⟩
      have yf := hrk.frozen ft
      have ly := hrk.lt
      simp only at yf ly
      have HL' : Hid (LD Z w B g M A1 A2 n1 n2 c1 c2 at_ f (d + (t + 1)) (d + max (t + 1) 1) (some ⟨bp, op, none⟩) np cp pgs (wr.setCell ⟨kb, ft, none⟩ (.int .u8 (fv : Nat)))) := Lib.hid (by
        have h1 := HL.out.set1 (by omega) (k := p) (b := kb) (i := ft) (List.mem_of_getElem? HIX.out) hft4 (by rw [HF.out]; exact HF8.out _) (by have h1 := HFP.out; have h2 := HAE.out; omega)
        rw [← hdt, ← hfv] at h1
        rw [show d + max (t + 1) 1 = dt + 1 by omega, show d + (t + 1) = dt + 1 by omega]
        exact h1)
      obtain ⟨bo2, oo2, hbf⟩ := (IsB.chg (w' := wr) HBS.out hzc (fun ad had _ => by injection had with had; subst had; exact HNZ.out)).form
      obtain ⟨hba, hbl, hbc⟩ := hbf.out (by omega)
      injection hba with hba
      injection hba with hba1 hba2
      subst hba1 hba2
      have bc := hbc dt hdtn
      rw [show bs.getD dt 0 = fv by rw [hfv, HF.out]] at bc
      clear hbc hbf

      clear hz hzc hzn hc HP hrk hfv hft hdt c0
      go_wp2_with fail
      go_roundw
      case rel => exact ⟨t + 1, by omega, by go_num, HL'⟩
      case measure => simp [intOf]; omega
    · have e : t = K := by omega
      subst e
      go_wp2_with fail
      go_roundw
      case rel => exact ⟨d + t, hK2, by go_num, Lib.hid ⟨_, _, _, _, by have h := HL.out; rw [show d + max t 1 = d + t by omega] at h; exact h⟩⟩
      case measure => simp [intOf]; omega
  · have e : d = n := by omega
    subst e
    go_wp2_with fail
    go_end0
    exact ⟨rfl, HLD.out⟩

end Bu
end Go.Proofs.YtfpofaniicegaaaGreat
