/- Texts of this claim, one behind the other: BkT, PrG, PrH, PagesU, Structs, RowOpen, LeafOpen. -/
import Derived.Test.YtblfagmoilhdnaaJPagesBuilds6
import Derived.Deep.RegionHeld3
import Derived.Deep.MidRow
import Derived.Deep.Cut
import Derived.Deep.DeepCutAuto
import Derived.Test.YtblfagmoilhdnaaJPagesBuilds5
import Derived.Test.YtblfagmoilhdnaaJPagesBuilds7
import Derived.ProofKit
import Derived.Lib.SmallJoins
import Derived.Deep.Slices
import Derived.OpenShut
import Derived.Test.YtblfagmoilhdnaaJPagesBuilds1
import Derived.Test.YtblfagmoilhdnaaJPagesBuilds3
/- A book of lists of api.Table: what it holds, what keeps it, and the walks of its Keep, Stays and Apart. -/
set_option linter.unusedVariables false
set_option linter.unusedSimpArgs false
namespace Go.Proofs.Ytblfagmoilhdnaa
open Go.RowKit
namespace BT


/-- a list that was kept, and its copy -/
structure Itm where
  A : Option Addr
  n : Nat
  c : Nat
  bs : List (List Nat)
  B : Option Addr
  d : Nat
def Itm.v (x : Itm) : Value := .slice x.A x.n x.c
def Itm.u (x : Itm) : Value := .slice x.B x.n x.d
/-- it lies there, in blocks of S -/
structure Itm.In (w : World) (S : List Nat) (x : Itm) : Prop where
  own : Own w 0 x.A x.n x.c x.bs
  copy : Own w 0 x.B x.n x.d x.bs
  vs : ∀ k, x.v.ownBlock = some k → k ∈ S
  us : ∀ k, x.u.ownBlock = some k → k ∈ S
theorem own_chg {T : List Nat} {w w' : World} {base n c : Nat} {A : Option Addr} {bs : List (List Nat)} (h : Own w base A n c bs) (hc : Chg T w w') (hr : ∀ k, (Value.slice A n c).ownBlock = some k → k ∉ T) : Own w' base A n c bs := ⟨owns_chg h.1 hc hr, h.2⟩
theorem Itm.In.chg {T S : List Nat} {w w' : World} {x : Itm} (h : x.In w S) (hc : Chg T w w') (hd : ∀ k ∈ S, k ∉ T) : x.In w' S :=
  ⟨own_chg h.own hc fun k hk => hd k (h.vs k hk), own_chg h.copy hc fun k hk => hd k (h.us k hk), h.vs, h.us⟩
theorem Itm.In.more {S S' : List Nat} {w : World} {x : Itm} (h : x.In w S) (hs : ∀ k ∈ S, k ∈ S') : x.In w S' := ⟨h.own, h.copy, fun k hk => hs k (h.vs k hk), fun k hk => hs k (h.us k hk)⟩
/-- the lists of the book, apart from one another, each beside its copy -/
structure Kept (w : World) (L M : Value) (xs : List Itm) (SL SM S : List Nat) : Prop where
  lists : Tl w 42 L xs.length (xs.map Itm.v) SL
  was : Tl w 42 M xs.length (xs.map Itm.u) SM
  lm : ∀ k ∈ SL, k ∉ SM
  sl : ∀ k ∈ SL, k ∈ S
  sm : ∀ k ∈ SM, k ∈ S
  it : ∀ x ∈ xs, x.In w S
  ap : xs.Pairwise fun x y => ∀ k, x.v.ownBlock = some k → y.v.ownBlock ≠ some k
  lt : ∀ k ∈ S, k < w.heap.size
theorem Kept.chg {T S SL SM : List Nat} {w w' : World} {L M : Value} {xs : List Itm} (h : Kept w L M xs SL SM S) (hc : Chg T w w') (hd : ∀ k ∈ S, k ∉ T) : Kept w' L M xs SL SM S :=
  ⟨h.lists.chg hc fun k hk => hd k (h.sl k hk), h.was.chg hc fun k hk => hd k (h.sm k hk), h.lm, h.sl, h.sm, fun x hx => (h.it x hx).chg hc hd, h.ap, fun k hk => Nat.lt_of_lt_of_le (h.lt k hk) hc.size⟩
/-- a book in memory: at a place in a row -/
structure Bk (w : World) (gb off : Nat) (t : TypeId) (cs : List Value) (S : List Nat) : Prop where
  row : Row w gb t cs
  ht : t ≠ 42 ∧ t ≠ 24
  notin : gb ∉ S
  rest : ∃ xs L M held SL SM, cs[off]? = some L ∧ cs[off + 1]? = some M ∧ cs[off + 2]? = some (.int .i64 held) ∧ cs[off + 3]? = some (.bool false) ∧ xs.length ≤ 4000 ∧ Kept w L M xs SL SM S
theorem Bk.chg {T S : List Nat} {w w' : World} {gb off : Nat} {t : TypeId} {cs : List Value} (h : Bk w gb off t cs S) (hc : Chg T w w') (hd : ∀ k ∈ S, k ∉ T) (hg : gb ∉ T) : Bk w' gb off t cs S := by
  obtain ⟨xs, L, M, held, SL, SM, h0, h1, h2, h3, h4, h5⟩ := h.rest
  exact ⟨hc.row h.row hg, h.ht, h.notin, xs, L, M, held, SL, SM, h0, h1, h2, h3, h4, h5.chg hc hd⟩
theorem info22 : (Try.prog.info? 42).map (fun i => (i.zero, i.size, i.bytes)) = some (some (.slice none 0 0), 1, 24) := by kernel_rfl
/-- a list and its copy are put behind the others -/
theorem Kept.snoc {w : World} {L M : Value} {xs : List Itm} {x : Itm} {SL SM S S' : List Nat} (h : ∀ y ∈ xs, y.In w S) (ha : xs.Pairwise fun x y => ∀ k, x.v.ownBlock = some k → y.v.ownBlock ≠ some k)
    (hl : Tl w 42 L (xs.length + 1) (xs.map Itm.v ++ [x.v]) SL) (hm : Tl w 42 M (xs.length + 1) (xs.map Itm.u ++ [x.u]) SM) (hlm : ∀ k ∈ SL, k ∉ SM)
    (hs : ∀ k ∈ S, k ∈ S') (hsl : ∀ k ∈ SL, k ∈ S') (hsm : ∀ k ∈ SM, k ∈ S') (hx : x.In w S') (hf : ∀ y ∈ xs, ∀ k, y.v.ownBlock = some k → x.v.ownBlock ≠ some k) (hlt : ∀ k ∈ S', k < w.heap.size) :
    Kept w L M (xs ++ [x]) SL SM S' := by
  refine ⟨by simpa using hl, by simpa using hm, hlm, hsl, hsm, fun y hy => ?_, ?_, hlt⟩
  · rcases List.mem_append.1 hy with h1 | h1
    · exact (h y h1).more hs
    · obtain rfl : y = x := by simpa using h1
      exact hx
  · rw [List.pairwise_append]
    refine ⟨ha, by simp, fun y hy z hz => ?_⟩
    obtain rfl : z = x := by simpa using hz
    exact hf y hy
/-- the first is let go -/
theorem Kept.tail {w : World} {g off cap g' off' cap' : Nat} {xs : List Itm} {SL SM S : List Nat} {n : Nat} (h : Kept w (.slice (some ⟨g, off, none⟩) n cap) (.slice (some ⟨g', off', none⟩) n cap') xs SL SM S) (hn : 1 < n) :
    Kept w (.slice (some ⟨g, off + 1, none⟩) (n - 1) (cap - 1)) (.slice (some ⟨g', off' + 1, none⟩) (n - 1) (cap' - 1)) xs.tail SL SM S := by
  have hl := h.lists
  have hm := h.was
  have hxn : xs.length = n := by
    rcases hl.2 with ⟨h, _⟩ | ⟨_, _, _, _, h, _⟩
    · cases h
    · injection h with _ h2; exact h2.symm
  rw [hxn] at hl hm
  have hl2 := hl.behind hn
  have hm2 := hm.behind hn
  have et : xs.tail.length = n - 1 := by simp [hxn]
  refine ⟨?_, ?_, h.lm, h.sl, h.sm, fun x hx => h.it x (List.mem_of_mem_tail hx), h.ap.tail, h.lt⟩
  · rw [et, List.map_tail]; exact hl2
  · rw [et, List.map_tail]; exact hm2
theorem own_other {w w' : World} {T : List Nat} {base n c : Nat} {A : Option Addr} {bs : List (List Nat)} (h : Own w base A n c bs) (hc : Chg T w w') (hT : ∀ k ∈ T, ∃ e cur, (24 : TypeId) ≠ e ∧ Blk w k e cur) : Own w' base A n c bs :=
  own_chg h hc fun k hk hm => by
    obtain ⟨e, cur, he, hb⟩ := hT k hm
    obtain ⟨cur', hb'⟩ := own_ne' h.1 k hk
    exact Blk.ne_ hb' hb he rfl
theorem Itm.In.other {T S : List Nat} {w w' : World} {x : Itm} (h : x.In w S) (hc : Chg T w w') (hT : ∀ k ∈ T, ∃ e cur, (24 : TypeId) ≠ e ∧ Blk w k e cur) : x.In w' S :=
  ⟨own_other h.own hc hT, own_other h.copy hc hT, h.vs, h.us⟩
/-- what Keep keeps true -/
structure KS (w : World) (gb off : Nat) (t : TypeId) (cs : List Value) (S : List Nat) (ob : Option Nat) (wx : World) (L M : Value) (held : Int) (xs : List Itm) (SL SM : List Nat) (cs' : List Value) (S' : List Nat) : Prop where
  row : Row wx gb t cs'
  e0 : cs'[off]? = some L
  e1 : cs'[off + 1]? = some M
  e2 : cs'[off + 2]? = some (.int .i64 held)
  e3 : cs'[off + 3]? = some (.bool false)
  oth : ∀ i, (i < off ∨ off + 4 ≤ i) → cs'[i]? = cs[i]?
  kept : Kept wx L M xs SL SM S'
  chg : Chg (gb :: S) w wx
  news : ∀ k ∈ S', k ∈ S ∨ w.heap.size ≤ k ∨ ob = some k
  notin : gb ∉ S'
def KeepInv (w : World) (gb off : Nat) (t : TypeId) (cs : List Value) (S : List Nat) (ob : Option Nat) (N : Nat) (wx : World) : Prop :=
  ∃ xs L M held SL SM cs' S', KS w gb off t cs S ob wx L M held xs SL SM cs' S' ∧ xs.length ≤ N
section
variable {w : World} {gb off : Nat} {t : TypeId} {cs : List Value} {S : List Nat} {ob : Option Nat} {wx : World} {L M : Value} {held : Int} {xs : List Itm} {SL SM : List Nat} {cs' : List Value} {S' : List Nat}
theorem KS.drewN (h : KS w gb off t cs S ob wx L M held xs SL SM cs' S') (m : Nat) : KS w gb off t cs S ob (wx.drewN m) L M held xs SL SM cs' S' :=
  ⟨h.row, h.e0, h.e1, h.e2, h.e3, h.oth, h.kept.chg ((Chg.refl [] wx).drewN m) (by simp), h.chg.drewN m, h.news, h.notin⟩
theorem KS.drew (h : KS w gb off t cs S ob wx L M held xs SL SM cs' S') : KS w gb off t cs S ob wx.drew L M held xs SL SM cs' S' := h.drewN 1
theorem KS.set_ (h : KS w gb off t cs S ob wx L M held xs SL SM cs' S') (i : Nat) (u : Value) :
    Row (wx.setCell ⟨gb, i, none⟩ u) gb t (cs'.set i u) ∧ Kept (wx.setCell ⟨gb, i, none⟩ u) L M xs SL SM S' ∧ Chg (gb :: S) w (wx.setCell ⟨gb, i, none⟩ u) :=
  ⟨h.row.set_ i u, h.kept.chg ((Chg.refl [gb] wx).set_ (p := ⟨gb, i, none⟩) (.inl (by simp)) u) (fun k hk hm => h.notin (by
      obtain rfl : k = gb := by simpa using hm
      exact hk)), h.chg.set_ (p := ⟨gb, i, none⟩) (.inl (by simp)) u⟩
theorem KS.holds (h : KS w gb off t cs S ob wx L M held xs SL SM cs' S') (x : Int) : KS w gb off t cs S ob (wx.setCell ⟨gb, off + 2, none⟩ (.int .i64 x)) L M x xs SL SM (cs'.set (off + 2) (.int .i64 x)) S' := by
  obtain ⟨h1, h2, h3⟩ := h.set_ (off + 2) (.int .i64 x)
  refine ⟨h1, ?_, ?_, ?_, ?_, fun i hi => ?_, h2, h3, h.news, h.notin⟩
  · rw [List.getElem?_set_ne (by omega)]; exact h.e0
  · rw [List.getElem?_set_ne (by omega)]; exact h.e1
  · rw [List.getElem?_set_self (List.getElem?_eq_some_iff.1 h.e2).1]
  · rw [List.getElem?_set_ne (by omega)]; exact h.e3
  · rw [List.getElem?_set_ne (by omega)]; exact h.oth i hi
theorem KS.bad (h : KS w gb off t cs S ob wx L M held xs SL SM cs' S') : KS w gb off t cs S ob (wx.setCell ⟨gb, off + 3, none⟩ (.bool false)) L M held xs SL SM (cs'.set (off + 3) (.bool false)) S' := by
  obtain ⟨h1, h2, h3⟩ := h.set_ (off + 3) (.bool false)
  refine ⟨h1, ?_, ?_, ?_, ?_, fun i hi => ?_, h2, h3, h.news, h.notin⟩
  · rw [List.getElem?_set_ne (by omega)]; exact h.e0
  · rw [List.getElem?_set_ne (by omega)]; exact h.e1
  · rw [List.getElem?_set_ne (by omega)]; exact h.e2
  · rw [List.getElem?_set_self (List.getElem?_eq_some_iff.1 h.e3).1]
  · rw [List.getElem?_set_ne (by omega)]; exact h.oth i hi
theorem KS.tail {g o cap g' o' cap' n : Nat} (h : KS w gb off t cs S ob wx (.slice (some ⟨g, o, none⟩) n cap) (.slice (some ⟨g', o', none⟩) n cap') held xs SL SM cs' S') (hn : 1 < n) :
    KS w gb off t cs S ob ((wx.setCell ⟨gb, off, none⟩ (.slice (some ⟨g, o + 1, none⟩) (n - 1) (cap - 1))).setCell ⟨gb, off + 1, none⟩ (.slice (some ⟨g', o' + 1, none⟩) (n - 1) (cap' - 1))) (.slice (some ⟨g, o + 1, none⟩) (n - 1) (cap - 1)) (.slice (some ⟨g', o' + 1, none⟩) (n - 1) (cap' - 1)) held xs.tail SL SM ((cs'.set off (.slice (some ⟨g, o + 1, none⟩) (n - 1) (cap - 1))).set (off + 1) (.slice (some ⟨g', o' + 1, none⟩) (n - 1) (cap' - 1))) S' := by
  have hc : Chg [gb] wx ((wx.setCell ⟨gb, off, none⟩ (.slice (some ⟨g, o + 1, none⟩) (n - 1) (cap - 1))).setCell ⟨gb, off + 1, none⟩ (.slice (some ⟨g', o' + 1, none⟩) (n - 1) (cap' - 1))) := ((Chg.refl [gb] wx).set_ (p := ⟨gb, off, none⟩) (.inl (by simp)) _).set_ (p := ⟨gb, off + 1, none⟩) (.inl (by simp)) _
  have hl : off < cs'.length := (List.getElem?_eq_some_iff.1 h.e0).1
  have hl1 : off + 1 < cs'.length := (List.getElem?_eq_some_iff.1 h.e1).1
  refine ⟨(h.row.set_ off _).set_ (off + 1) _, ?_, ?_, ?_, ?_, fun i hi => ?_, (h.kept.tail hn).chg hc fun k hk hm => h.notin (by
      obtain rfl : k = gb := by simpa using hm
      exact hk), h.chg.trans (hc.wide (T := gb :: S) (by simp)) (fun x hx => .inl hx), h.news, h.notin⟩
  · rw [List.getElem?_set_ne (by omega), List.getElem?_set_self hl]
  · rw [List.getElem?_set_self (by simpa using hl1)]
  · rw [List.getElem?_set_ne (by omega), List.getElem?_set_ne (by omega)]; exact h.e2
  · rw [List.getElem?_set_ne (by omega), List.getElem?_set_ne (by omega)]; exact h.e3
  · rw [List.getElem?_set_ne (by omega), List.getElem?_set_ne (by omega)]; exact h.oth i hi
theorem KS.book (h : KS w gb off t cs S ob wx L M held xs SL SM cs' S') (ht : t ≠ 42 ∧ t ≠ 24) (hN : xs.length ≤ 4000) : Bk wx gb off t cs' S' := ⟨h.row, ht, h.notin, xs, L, M, held, SL, SM, h.e0, h.e1, h.e2, h.e3, hN, h.kept⟩
/-- how the lists lie -/
theorem Kept.slices (h : Kept w L M xs SL SM S) : ∃ A c A' c', L = .slice A xs.length c ∧ M = .slice A' xs.length c' := by
  obtain ⟨A, c, e, _⟩ := h.lists.form
  obtain ⟨A', c', e', _⟩ := h.was.form
  exact ⟨A, c, A', c', e, e'⟩
theorem Kept.slots (h : Kept w L M xs SL SM S) (h0 : 0 < xs.length) : ∃ g o c g' o' c', L = .slice (some ⟨g, o, none⟩) xs.length c ∧ M = .slice (some ⟨g', o', none⟩) xs.length c' ∧ xs.length ≤ c ∧ xs.length ≤ c' ∧ c ≤ 9223372036854775807 ∧ c' ≤ 9223372036854775807 ∧ g ∈ SL ∧ g' ∈ SM ∧ g < w.heap.size ∧ g' < w.heap.size ∧ (∀ k, k < xs.length → w.cell? ⟨g, o + k, none⟩ = (xs.map Itm.v)[k]?) ∧ (∀ k, k < xs.length → w.cell? ⟨g', o' + k, none⟩ = (xs.map Itm.u)[k]?) := by
  have hl := h.lists
  have hm := h.was
  obtain ⟨A, c, e, hc, hA, g, o, hf, hg⟩ := hl.form
  obtain ⟨A', c', e', hc', hA', g', o', hf', hg'⟩ := hm.form
  obtain ⟨rfl, hsl, hcell⟩ := hf.out h0
  obtain ⟨rfl, hsm, hcell'⟩ := hf'.out h0
  have cm : c ≤ 9223372036854775807 := by
    rcases hl.2 with ⟨hv, _⟩ | ⟨_, _, _, _, hv, _, _, _, hcm, _⟩
    · rw [e] at hv; cases hv
    · rw [e] at hv; injection hv with _ _ h3; rw [h3]; unfold maxLen at hcm; exact hcm
  have cm' : c' ≤ 9223372036854775807 := by
    rcases hm.2 with ⟨hv, _⟩ | ⟨_, _, _, _, hv, _, _, _, hcm, _⟩
    · rw [e'] at hv; cases hv
    · rw [e'] at hv; injection hv with _ _ h3; rw [h3]; unfold maxLen at hcm; exact hcm
  exact ⟨g, o, c, g', o', c', e, e', hc, hc', cm, cm', by rw [hsl]; simp, by rw [hsm]; simp, hg h0, hg' h0, hcell, hcell'⟩
end
/-- behind the first append -/
structure Mid1 (w w2 : World) (gb : Nat) (t : TypeId) (cs1 : List Value) (L1 M : Value) (xs : List Itm) (SL S1 SM S : List Nat) (A : Option Addr) (n c : Nat) (bs : List (List Nat)) : Prop where
  row : Row w2 gb t cs1
  lists : Tl w2 42 L1 (xs.length + 1) (xs.map Itm.v ++ [.slice A n c]) S1
  was : Tl w2 42 M xs.length (xs.map Itm.u) SM
  it : ∀ y ∈ xs, y.In w2 S
  own : Own w2 0 A n c bs
  chg : Chg (gb :: S) w w2
  s1 : S1 = SL ∨ ∀ k ∈ S1, w.heap.size ≤ k
theorem keep1 {w w1 : World} {gb off n c : Nat} {t : TypeId} {cs : List Value} {L M L1 : Value} {xs : List Itm} {SL SM S1 S : List Nat} {A : Option Addr} {bs : List (List Nat)} (hk : Kept w L M xs SL SM S) (hrow : Row w gb t cs) (ht1 : t ≠ 42) (ht2 : t ≠ 24) (hnot : gb ∉ S) (ho : Own w 0 A n c bs) (o : Obj)
    (hl : Tl w1 42 L1 (xs.length + 1) (xs.map Itm.v ++ [.slice A n c]) S1) (hc : Chg SL (w.alloc o) w1) (hs : S1 = SL ∨ S1 = [(w.alloc o).heap.size]) :
    Row w1 gb t cs ∧ Mid1 w (w1.setCell ⟨gb, off, none⟩ L1) gb t (cs.set off L1) L1 M xs SL S1 SM S A n c bs := by
  have ca : Chg SL w (w.alloc o) := (Chg.refl _ _).alloc o
  have c1 : Chg SL w w1 := ca.trans hc (fun x hx => .inl hx)
  have hr1 : Row w1 gb t cs := c1.row hrow (fun h => hnot (hk.sl _ h))
  have c2 : Chg (gb :: S) w (w1.setCell ⟨gb, off, none⟩ L1) := (c1.wide (fun k h => by simp; exact .inr (hk.sl k h))).set_ (p := ⟨gb, off, none⟩) (.inl (by simp)) L1
  have c3 : Chg (gb :: SL) w (w1.setCell ⟨gb, off, none⟩ L1) := (c1.wide (fun k h => by simp; exact .inr h)).set_ (p := ⟨gb, off, none⟩) (.inl (by simp)) L1
  have hT : ∀ k ∈ gb :: SL, ∃ e cur, (24 : TypeId) ≠ e ∧ Blk w k e cur := by
    intro k h
    rcases List.mem_cons.1 h with rfl | h
    · exact ⟨t, _, fun h => ht2 h.symm, hrow⟩
    · obtain ⟨cur, hb⟩ := hk.lists.blk k h
      exact ⟨_, cur, by decide, hb⟩
  have hgs1 : gb ∉ S1 := by
    rcases hs with rfl | rfl
    · exact fun h => hnot (hk.sl _ h)
    · have := hrow.lt
      simp only [List.mem_singleton]
      intro h
      rw [h] at this
      simp at this
      omega
  refine ⟨hr1, hr1.set_ off L1, ?_, ?_, fun y hy => (hk.it y hy).other c3 hT, own_other ho c3 hT, c2, ?_⟩
  · exact hl.keep fun k hk' => Below.heap_setCell w1 _ L1 k (fun e => hgs1 (by have e : k = gb := e; rw [← e]; exact hk'))
  · exact hk.was.chg c3 fun k h hm => by
      rcases List.mem_cons.1 hm with rfl | hm
      · exact hnot (hk.sm _ h)
      · exact hk.lm k hm h
  · rcases hs with rfl | rfl
    · exact .inl rfl
    · refine .inr fun k hk' => ?_
      obtain rfl : k = (w.alloc o).heap.size := by simpa using hk'
      simp
theorem keep2 {w w2 w3 w4 : World} {gb off n c c2 : Nat} {t : TypeId} {cs : List Value} {L M L1 M1 : Value} {held : Int} {xs : List Itm} {SL SM S1 S4 S : List Nat} {A A2 : Option Addr} {bs : List (List Nat)} (hk : Kept w L M xs SL SM S) (hrow : Row w gb t cs) (ht1 : t ≠ 42) (ht2 : t ≠ 24) (hnot : gb ∉ S)
    (hf : ∀ k, (Value.slice A n c).ownBlock = some k → k ∉ S ∧ k ≠ gb) (h0 : cs[off]? = some L) (h1 : cs[off + 1]? = some M) (hh : cs[off + 2]? = some (.int .i64 held)) (hbad : cs[off + 3]? = some (.bool false)) (m : Mid1 w w2 gb t (cs.set off L1) L1 M xs SL S1 SM S A n c bs)
    (ho3 : w3.ownsRow 0 24 512 (.slice A2 n c2) n (tcells bs)) (hg3 : w2.drew.grownBy w3 none) (hat : (Value.slice A2 n c2).ownBlock = none ∨ (Value.slice A2 n c2).ownBlock = some w2.drew.heap.size) (o : Obj)
    (hl4 : Tl w4 42 M1 (xs.length + 1) (xs.map Itm.u ++ [.slice A2 n c2]) S4) (hc4 : Chg SM (w3.alloc o) w4) (hs4 : S4 = SM ∨ S4 = [(w3.alloc o).heap.size]) (N : Nat) (hN : xs.length + 1 ≤ N) :
    Row w4 gb t (cs.set off L1) ∧ KeepInv w gb off t cs S (Value.slice A n c).ownBlock N (w4.setCell ⟨gb, off + 1, none⟩ M1) := by
  have c23 : Chg [] w2 w3 := ⟨hg3.os, hg3.tape, hg3.output, hg3.size, fun k hk _ => hg3.block k hk (by simp)⟩
  have c24 : Chg SM w2 w4 := ((c23.alloc o).wide (fun k h => by cases h)).trans hc4 (fun x hx => .inl hx)
  have hr4 : Row w4 gb t (cs.set off L1) := c24.row m.row (fun h => hnot (hk.sm _ h))
  have c25 : Chg (gb :: SM) w2 (w4.setCell ⟨gb, off + 1, none⟩ M1) := (c24.wide (fun k h => by simp; exact .inr h)).set_ (p := ⟨gb, off + 1, none⟩) (.inl (by simp)) M1
  have ca : Chg (gb :: S) w (w4.setCell ⟨gb, off + 1, none⟩ M1) := m.chg.trans (c25.wide (fun k h => by
    simp at h ⊢
    rcases h with h | h
    · exact .inl h
    · exact .inr (hk.sm k h))) (fun x hx => .inl hx)
  have hT : ∀ k ∈ gb :: SM, ∃ e cur, (24 : TypeId) ≠ e ∧ Blk w2 k e cur := by
    intro k h
    rcases List.mem_cons.1 h with rfl | h
    · exact ⟨t, _, fun h => ht2 h.symm, m.row⟩
    · obtain ⟨cur, hb⟩ := m.was.blk k h
      exact ⟨_, cur, by decide, hb⟩
  have hsz : w.heap.size ≤ w2.heap.size := m.chg.size
  have hglt := hrow.lt
  have hs1lt : ∀ k ∈ S1, k < w2.heap.size := m.lists.lt
  have hs4lt : ∀ k ∈ S4, k < w4.heap.size := hl4.lt
  have h24 : w2.heap.size ≤ w4.heap.size := c24.size
  have hw3 : w2.heap.size ≤ w3.heap.size := c23.size
  have hs1n : ∀ k ∈ S1, k ∈ SL ∨ w.heap.size ≤ k := by
    intro k h
    rcases m.s1 with e | e
    · exact .inl (by rw [← e]; exact h)
    · exact .inr (e k h)
  have hs4n : ∀ k ∈ S4, k ∈ SM ∨ w3.heap.size < k := by
    intro k h
    rcases hs4 with e | e
    · exact .inl (by rw [← e]; exact h)
    · rw [e] at h
      obtain rfl : k = (w3.alloc o).heap.size := by simpa using h
      exact .inr (by simp)
  have hgs4 : gb ∉ S4 := by
    intro h
    rcases hs4n _ h with h | h
    · exact hnot (hk.sm _ h)
    · omega
  have hgs1 : gb ∉ S1 := by
    intro h
    rcases hs1n _ h with h | h
    · exact hnot (hk.sl _ h)
    · omega
  have hatk : ∀ k, (Value.slice A2 n c2).ownBlock = some k → k = w2.heap.size := by
    intro k h
    rcases hat with e | e
    · rw [e] at h; cases h
    · rw [e] at h
      injection h with h
      rw [← h]; rfl
  have hown4 : Own (w4.setCell ⟨gb, off + 1, none⟩ M1) 0 A2 n c2 bs := by
    have h3 : Own w3 0 A2 n c2 bs := ⟨ho3, m.own.2⟩
    have c35 : Chg (gb :: SM) w3 (w4.setCell ⟨gb, off + 1, none⟩ M1) := ((((Chg.refl SM w3).alloc o).trans hc4 (fun x hx => .inl hx)).wide (fun k h => by simp; exact .inr h)).set_ (p := ⟨gb, off + 1, none⟩) (.inl (by simp)) M1
    refine own_chg h3 c35 fun k hk' hm => ?_
    have := hatk k hk'
    rcases List.mem_cons.1 hm with h | h
    · omega
    · have := hk.lt k (hk.sm k h)
      omega
  have ho5 : (cs.set off L1).length = cs.length := by simp
  have hlen : off + 3 < cs.length := (List.getElem?_eq_some_iff.1 hbad).1
  refine ⟨hr4, xs ++ [⟨A, n, c, bs, A2, c2⟩], L1, M1, held, S1, S4, _, S1 ++ S4 ++ S ++ (Value.slice A n c).ownBlock.toList ++ (Value.slice A2 n c2).ownBlock.toList, ⟨hr4.set_ (off + 1) M1, ?_, ?_, ?_, ?_, ?_, ?_, ca, ?_, ?_⟩, ?_⟩
  · rw [List.getElem?_set_ne (by omega), List.getElem?_set_self (by omega)]
  · rw [List.getElem?_set_self (by rw [ho5]; omega)]
  · rw [List.getElem?_set_ne (by omega), List.getElem?_set_ne (by omega)]; exact hh
  · rw [List.getElem?_set_ne (by omega), List.getElem?_set_ne (by omega)]; exact hbad
  · intro i hi
    rw [List.getElem?_set_ne (by omega), List.getElem?_set_ne (by omega)]
  · have hgA : ∀ k, (Value.slice A n c).ownBlock = some k → k ≠ gb := fun k h => (hf k h).2
    have hgA2 : ∀ k, (Value.slice A2 n c2).ownBlock = some k → k ≠ gb := fun k h e => by have := hatk k h; omega
    refine Kept.snoc (S := S) (fun y hy => (m.it y hy).other c25 hT) hk.ap ?_ ?_ ?_ ?_ ?_ ?_ ⟨?_, hown4, ?_, ?_⟩ ?_ ?_
    · exact m.lists.chg c25 fun k h hm => by
        rcases List.mem_cons.1 hm with rfl | hm
        · exact hgs1 h
        · rcases hs1n k h with h2 | h2
          · exact hk.lm k h2 hm
          · have := hk.lt k (hk.sm k hm); omega
    · exact hl4.keep fun k hk' => Below.heap_setCell w4 _ M1 k (fun e => hgs4 (by have e : k = gb := e; rw [← e]; exact hk'))
    · intro k h h'
      rcases hs1n k h with h2 | h2 <;> rcases hs4n k h' with h3 | h3
      · exact hk.lm k h2 h3
      · have := hk.lt k (hk.sl k h2); omega
      · have := hk.lt k (hk.sm k h3); omega
      · have := hs1lt k h; omega
    · intro k h
      simp [h]
    · intro k h
      simp [h]
    · intro k h
      simp [h]
    · exact own_other m.own c25 hT
    · intro k h
      have h : (Value.slice A n c).ownBlock = some k := h
      simp [h]
    · intro k h
      have h : (Value.slice A2 n c2).ownBlock = some k := h
      simp [h]
    · intro y hy k h h'
      exact (hf k h').1 ((hk.it y hy).vs k h)
    · intro k h
      have e5 : (w4.setCell ⟨gb, off + 1, none⟩ M1).heap.size = w4.heap.size := by simp [World.setCell]
      rw [e5]
      simp only [List.mem_append, Option.mem_toList] at h
      rcases h with (((h | h) | h) | h) | h
      · have := hs1lt k h; omega
      · exact hs4lt k h
      · have := hk.lt k h; omega
      · obtain ⟨cur, hb⟩ := own_ne' m.own.1 k h
        have := Blk.lt (cs := cur) hb
        omega
      · have := hatk k h
        obtain ⟨cur, hb⟩ := own_ne' hown4.1 k h
        have := Blk.lt (cs := cur) hb
        rw [e5] at this
        exact this
  · intro k h
    simp only [List.mem_append, Option.mem_toList] at h
    rcases h with (((h | h) | h) | h) | h
    · rcases hs1n k h with h | h
      · exact .inl (hk.sl k h)
      · exact .inr (.inl h)
    · rcases hs4n k h with h | h
      · exact .inl (hk.sm k h)
      · exact .inr (.inl (by omega))
    · exact .inl h
    · exact .inr (.inr h)
    · have := hatk k h
      exact .inr (.inl (by omega))
  · intro h
    simp only [List.mem_append, Option.mem_toList] at h
    rcases h with (((h | h) | h) | h) | h
    · exact hgs1 h
    · exact hgs4 h
    · exact hnot h
    · exact (hf _ h).2 rfl
    · have := hatk _ h; omega
  · simpa using hN


set_option maxRecDepth 100000 in
set_option maxHeartbeats 2000000 in
theorem keep_any (gb off : Nat) (t : TypeId) (cs : List Value) (S : List Nat) (A : Option Addr) (n c : Nat) (bs : List (List Nat)) (w : World) (hb : Bk w gb off t cs S) (ho : Own w 0 A n c bs) (hn : n ≤ 17179869184)
    (hf : ∀ k, (Value.slice A n c).ownBlock = some k → k ∉ S ∧ k ≠ gb) :
    Calls Try.prog 47 #[.pointer (some ⟨gb, off, none⟩), .slice A n c] w fun e w' => e = .returned (.tuple #[]) ∧
      ∃ cs' S', Bk w' gb off t cs' S' ∧ Chg (gb :: S) w w' ∧ (∀ k ∈ S', k ∈ S ∨ w.heap.size ≤ k ∨ (Value.slice A n c).ownBlock = some k) ∧ ∀ i, (i < off ∨ off + 4 ≤ i) → cs'[i]? = cs[i]? := by
  obtain ⟨i0, hi0, hz1, hz2, hz3⟩ := info_parts infoE
  have HI := Lib.hid hi0; have HZ1 := Lib.hid hz1; have HZ2 := Lib.hid hz2; have HZ3 := Lib.hid hz3
  obtain ⟨i1, hi1, hy1, hy2, hy3⟩ := info_parts info22
  have HJ := Lib.hid hi1; have HY1 := Lib.hid hy1; have HY2 := Lib.hid hy2; have HY3 := Lib.hid hy3
  obtain ⟨hrow, ⟨ht1, ht2⟩, hnot, xs, L, M, held, SL, SM, e0, e1, e2, e3, hfew, hk⟩ := hb
  have c0 := (hrow.cell off).trans e0
  have c1 := (hrow.cell (off + 1)).trans e1
  have c2 := (hrow.cell (off + 2)).trans e2
  have c3 := (hrow.cell (off + 3)).trans e3
  have f0 := hrow.frozen off
  have f1 := hrow.frozen (off + 1)
  have f2 := hrow.frozen (off + 2)
  have f3 := hrow.frozen (off + 3)
  have hlt := hrow.lt
  have HROW := Lib.hid hrow; have HK := Lib.hid hk; have HO := Lib.hid ho; have HF := Lib.hid hf; have HNOT := Lib.hid hnot; have HT1 := Lib.hid ht1; have HT2 := Lib.hid ht2
  have E0 := Lib.hid e0; have E1 := Lib.hid e1; have E2 := Lib.hid e2; have E3 := Lib.hid e3
  clear hi0 hz1 hz2 hz3 hi1 hy1 hy2 hy3 hrow hk ho hf hnot ht1 ht2 e0 e1 e2 e3
  go_enter Try.func47, Try.ntmps47
  go_upto_region 1 with (at_builtin; refine wpList_append_tl _ (by rfl) (.tmp 8) (.tmp 10) 53 rfl 42 i1 _ 24 Try.underlying53 HJ.out HY1.out HY2.out HY3.out rfl L xs.length (xs.map Itm.v) SL rfl (HK.out.lists.chg ((Chg.refl [] w).alloc _) (by simp)) ⟨w.heap.size, 0, none⟩ 1 (.slice A n c) rfl ((Row.new w 42 [.slice A n c]).cell 0) rfl (by unfold maxLen; omega) (by omega) ?_; intro A1 c1' S1 w1 HL1 HC1 HS1; have hk1 := keep1 (off := off) HK.out HROW.out HT1.out HT2.out HNOT.out HO.out _ HL1.out HC1.out HS1.out; have d0 := (hk1.1.cell off).trans E0.out; have d1 := hk1.1.frozen off; have HK1 := Lib.hid hk1.2; clear hk1)
  obtain ⟨w2, hw2⟩ : ∃ w2, w2 = w1.setCell ⟨gb, off, none⟩ (.slice A1 (xs.length + 1) c1') := ⟨_, rfl⟩
  rw [← hw2] at HK1 ⊢
  have hrow2 := HK1.out.row
  have g1 : w2.cell? ⟨gb, off + 1, none⟩ = some M := by rw [hrow2.cell, List.getElem?_set_ne (by omega)]; exact E1.out
  have hlt2 := hrow2.lt
  have HROW2 := Lib.hid hrow2
  have HOWN2 := Lib.hid HK1.out.own
  clear hw2 d0 d1 hrow2 c0 c1 c2 c3 f0 f1 f2 f3
  go_cut [] (fun wx => Hid (KeepInv w gb off t cs S (Value.slice A n c).ownBlock 4001 wx))
  case first =>
    first | go_region_law (first
      | (refine step_append_sl _ (by rfl) (.const (.slice none 0 0)) (.tmp 19) 42 (by rfl) 0 24 i0 _ 512 4096 Try.underlying42 HI.out HZ1.out HZ2.out HZ3.out rfl (by omega) (.slice none 0 0) 0 [] (by simp [Act.eval, Act.put]) (World.ownsRow_nil _ _ _ _) w2.heap.size A n c (tcells bs) (by simp [Act.eval, Act.put]) (Reads.drew (Reads.of_own HOWN2.out.1)) (oneE bs) (by unfold maxLen; omega) (by omega) (Nat.zero_le _) ?_; intro A2 c2' w3 hown3 hg3 hat3; simp only [Nat.zero_add, List.nil_append] at hown3 hat3; have HO3 := Lib.hid hown3; have HG3 := Lib.hid hg3; have HAT3 := Lib.hid hat3; have hr3 := row_grown HROW2.out.drew hg3 (by simp [Value.ownBlock]); have HR3 := Lib.hid hr3; have j1 : w3.cell? ⟨gb, off + 1, none⟩ = some M := (by rw [hr3.cell, List.getElem?_set_ne (by omega)]; exact E1.out); have hl3 := hr3.lt; clear hown3 hg3 hat3 hr3)
      | (refine step_append_tl _ (by rfl) (.tmp 18) (.tmp 21) 53 (by rfl) 42 i1 _ 24 Try.underlying53 HJ.out HY1.out HY2.out HY3.out rfl M xs.length (xs.map Itm.u) SM (by simp [Act.eval, Act.put]) ((HK1.out.was.chg (grown_chg0 HG3.out) (by simp)).chg ((Chg.refl [] w3).alloc _) (by simp)) ⟨w3.heap.size, 0, none⟩ 1 (.slice A2 n c2') (by simp [Act.eval, Act.put]) ((Row.new w3 42 [.slice A2 n c2']).cell 0) rfl (by unfold maxLen; omega) (by omega) ?_; intro A3 c3' S4 w4 HL4 HC4 HS4; have hk2 := keep2 (N := 4001) HK.out HROW.out HT1.out HT2.out HNOT.out HF.out E0.out E1.out E2.out E3.out HK1.out HO3.out HG3.out HAT3.out _ HL4.out HC4.out HS4.out (by omega); have HK2 := Lib.hid hk2.2; have hr4 := hk2.1; have d0 : w4.cell? ⟨gb, off + 1, none⟩ = some M := (by rw [hr4.cell, List.getElem?_set_ne (by omega)]; exact E1.out); have d1 := hr4.frozen (off + 1); clear hk2 hr4)) | fail
    all_goals
      go_wp2_with fail
      go_meet
      case rel => exact HK2
  case rest =>
    clear HK HL1 HC1 HS1 HK1 g1 hlt2 HROW2 HOWN2 E0 E1 E2 E3 HROW
    obtain ⟨ys, L2, M2, held2, SL2, SM2, cs2, S2, hks, hys⟩ := hcut.out
    have c0 := (hks.row.cell off).trans hks.e0
    have c2 := (hks.row.cell (off + 2)).trans hks.e2
    have f2 := hks.row.frozen (off + 2)
    have hltc := hks.row.lt
    have HKS := Lib.hid hks
    clear hks hcut
    go_wp2_with fail
    have HI0 : Hid (KeepInv w gb off t cs S (Value.slice A n c).ownBlock 4001 (wc.setCell ⟨gb, off + 2, none⟩ (.int .i64 (wrap64 (wrap64 (held2 + (c : Int)) + 1))))) := Lib.hid ⟨ys, L2, M2, _, SL2, SM2, _, S2, HKS.out.holds _, hys⟩
    clear HKS c0 c2 f2 hltc
    go_loopg [] 4001 (fun k wr => Hid (KeepInv w gb off t cs S (Value.slice A n c).ownBlock k wr))
    case atStart => exact HI0
    case round =>
      clear HI0
      obtain ⟨zs, L3, M3, held3, SL3, SM3, cs3, S3, hks, hz⟩ := hrel.out
      obtain ⟨m, hm⟩ : ∃ m, m = zs.length := ⟨_, rfl⟩
      have c0 := (hks.row.cell off).trans hks.e0
      have c1 := (hks.row.cell (off + 1)).trans hks.e1
      have c2 := (hks.row.cell (off + 2)).trans hks.e2
      have c3 := (hks.row.cell (off + 3)).trans hks.e3
      have f0 := hks.row.frozen off
      have f1 := hks.row.frozen (off + 1)
      have f2 := hks.row.frozen (off + 2)
      have f3 := hks.row.frozen (off + 3)
      have hltc := hks.row.lt
      by_cases hgo : 1 < m ∧ (1000000 < held3 ∨ 4000 < m)
      · obtain ⟨hm1, hor⟩ := hgo
        obtain ⟨g, o, d, g', o', d', rfl, rfl, hd1, hd2, hd3, hd4, hgs, hgs', hg, hg', hcl, hcl'⟩ := hks.kept.slots (by omega)
        obtain ⟨z, hz0⟩ : ∃ z, zs[0]? = some z := ⟨_, List.getElem?_eq_getElem (show 0 < zs.length by omega)⟩
        have hin := hks.kept.it z (List.mem_of_getElem? hz0)
        have l0 := hcl 0 (by omega)
        have l0' := hcl' 0 (by omega)
        rw [List.getElem?_map, hz0] at l0 l0'
        simp only [Nat.add_zero, Option.map_some, Itm.v, Itm.u] at l0 l0'
        rw [← hm] at c0 c1 hks hd1 hd2 hz
        have hgb : ¬ (g = gb) := fun h => hks.notin (by rw [← h]; exact hks.kept.sl _ hgs)
        have hgb' : ¬ (g' = gb) := fun h => hks.notin (by rw [← h]; exact hks.kept.sm _ hgs')
        clear hgs hgs'
        have HKS := Lib.hid hks
        have HIN := Lib.hid hin
        have HM := Lib.hid hm
        have HZ0 := Lib.hid hz0
        clear hks hin hcl hcl' hz0 hrel hm
        have e1 : decide ((1 : Int) < (m : Int)) = true := decide_eq_true (by omega)
        have key : decide ((1000000 : Int) < held3) = true ∨ (decide ((1000000 : Int) < held3) = false ∧ decide ((4000 : Int) < (m : Int)) = true) := by
          by_cases h : 1000000 < held3
          · exact .inl (by simpa using h)
          · exact .inr ⟨by simpa using h, decide_eq_true (by omega)⟩
        clear hor
        have KEEP : ∀ w' : World, (w'.cell? ⟨gb, off + 3, none⟩ = some (.bool false) ∧ w'.cell? ⟨gb, off, none⟩ = some (.slice (some ⟨g, o, none⟩) m d) ∧ w'.cell? ⟨gb, off + 1, none⟩ = some (.slice (some ⟨g', o', none⟩) m d') ∧ w'.cell? ⟨g, o, none⟩ = some (.slice z.A z.n z.c) ∧ w'.cell? ⟨g', o', none⟩ = some (.slice z.B z.n z.d)) →
            ((w'.setCell ⟨gb, off + 3, none⟩ (.bool false)).cell? ⟨gb, off + 3, none⟩ = some (.bool false) ∧ (w'.setCell ⟨gb, off + 3, none⟩ (.bool false)).cell? ⟨gb, off, none⟩ = some (.slice (some ⟨g, o, none⟩) m d) ∧ (w'.setCell ⟨gb, off + 3, none⟩ (.bool false)).cell? ⟨gb, off + 1, none⟩ = some (.slice (some ⟨g', o', none⟩) m d') ∧ (w'.setCell ⟨gb, off + 3, none⟩ (.bool false)).cell? ⟨g, o, none⟩ = some (.slice z.A z.n z.c) ∧ (w'.setCell ⟨gb, off + 3, none⟩ (.bool false)).cell? ⟨g', o', none⟩ = some (.slice z.B z.n z.d)) := by
          rintro w' ⟨a0, a1, a2, a3, a4⟩
          exact ⟨World.cell?_setCell_same' _ _ _ (by rw [a0]; rfl), (World.cell?_setCell_other _ _ _ _ (by simp)).trans a1, (World.cell?_setCell_other _ _ _ _ (by simp)).trans a2, (World.cell?_setCell_other _ _ _ _ (by simp [hgb, Ne.symm hgb])).trans a3, (World.cell?_setCell_other _ _ _ _ (by simp [hgb', Ne.symm hgb'])).trans a4⟩
        have KEEP := Lib.hid KEEP
        have h0i : (0 : Int) < (m : Int) := by omega
        have h0n : 0 < m := by omega
        go_upto_region 3 with fail
        go_cut [56] (fun v wx => v = .bool true ∧ wr = wx)
        case first =>
          rcases key with k1 | ⟨k1, k2⟩
          all_goals
            go_wp2_with fail
            go_meet
            case rel => exact ⟨rfl, rfl⟩
        case rest =>
          obtain ⟨rfl, rfl⟩ := hcut
          clear key e1
          go_upto_region 4 with fail
          go_cut [] (fun wx => Hid (∃ cs4, KS w gb off t cs S (Value.slice A n c).ownBlock wx (.slice (some ⟨g, o, none⟩) m d) (.slice (some ⟨g', o', none⟩) m d') held3 zs SL3 SM3 cs4 S3))
          case first =>
            go_region_held3 (fun w' => w'.cell? ⟨gb, off + 3, none⟩ = some (.bool false) ∧ w'.cell? ⟨gb, off, none⟩ = some (.slice (some ⟨g, o, none⟩) m d) ∧ w'.cell? ⟨gb, off + 1, none⟩ = some (.slice (some ⟨g', o', none⟩) m d') ∧ w'.cell? ⟨g, o, none⟩ = some (.slice z.A z.n z.c) ∧ w'.cell? ⟨g', o', none⟩ = some (.slice z.B z.n z.d))
              (first | exact ⟨c3, c0, c1, l0, l0'⟩ | exact KEEP.out _ (by assumption))
              (first | (go_at_call 29; refine (sameE_yes z.A z.B z.n z.c z.d z.bs wr.drew (HIN.out.own.isB.drew1) (HIN.out.copy.isB.drew1)).mono ?_; rintro e w' ⟨rfl, mm, rfl⟩))
            all_goals
              go_wp2_with fail
              go_meet
              case rel => exact Lib.hid ⟨_, (HKS.out.drewN _).bad⟩
          case rest =>
            clear KEEP c0 c1 c2 c3 f0 f1 f2 f3 l0 l0' hltc HKS HIN
            obtain ⟨cs4, hks⟩ := hcut.out
            have c0 := (hks.row.cell off).trans hks.e0
            have c1 := (hks.row.cell (off + 1)).trans hks.e1
            have c2 := (hks.row.cell (off + 2)).trans hks.e2
            have f0 := hks.row.frozen off
            have f1 := hks.row.frozen (off + 1)
            have f2 := hks.row.frozen (off + 2)
            have hltc := hks.row.lt
            obtain ⟨g2, o2, d2, g2', o2', d2', q1, q2, _, _, _, _, _, _, _, _, hcl, _⟩ := hks.kept.slots (by have := HM.out; omega)
            injection q1 with q1 qm q1'
            injection q1 with q1
            injection q1 with q1 q1''
            clear qm
            subst q1 q1' q1''
            have l0 := hcl 0 (by have := HM.out; omega)
            rw [List.getElem?_map, HZ0.out] at l0
            simp only [Nat.add_zero, Option.map_some, Itm.v] at l0
            have HKS := Lib.hid hks
            clear hks hcl q2
            go_upto_region 5 with fail
            go_cut [] (fun wx => Hid (∃ x cs5, KS w gb off t cs S (Value.slice A n c).ownBlock wx (.slice (some ⟨g, o, none⟩) m d) (.slice (some ⟨g', o', none⟩) m d') x zs SL3 SM3 cs5 S3))
            case first =>
              first | go_region_law (fail) | fail
              all_goals
                go_wp2_with fail
                go_meet
                case rel => first | exact Lib.hid ⟨_, _, (HKS.out.holds _).drew⟩ | exact Lib.hid ⟨_, _, HKS.out.drew.holds _⟩
            case rest =>
              clear c0 c1 c2 f0 f1 f2 l0 hltc HKS
              obtain ⟨x, cs5, hks⟩ := hcut.out
              clear hcut
              have c0 := (hks.row.cell off).trans hks.e0
              have c1 := (hks.row.cell (off + 1)).trans hks.e1
              have f0 := hks.row.frozen off
              have f1 := hks.row.frozen (off + 1)
              have hltc := hks.row.lt
              have HKS := Lib.hid hks
              have hd1' : ¬ (d = 1) := by omega
              have hd2' : ¬ (d' = 1) := by omega
              clear hks
              go_wp2_with fail
              go_roundg (gk - 1)
              case measure => omega
              case rel => exact Lib.hid ⟨_, _, _, _, _, _, _, _, HKS.out.tail hm1, by have := HM.out; simp; omega⟩
      · have HHM : Hid (zs.length ≤ 4000) := Lib.hid (by omega)
        obtain ⟨A9, d9, A9', d9', rfl, rfl⟩ := hks.kept.slices
        rw [← hm] at c0 c1 hks
        have HKS := Lib.hid hks
        clear hks hrel hz hm
        by_cases hm1 : 1 < m
        · have e1 : decide ((1 : Int) < (m : Int)) = true := decide_eq_true (by omega)
          have e2 : decide ((1000000 : Int) < held3) = false := decide_eq_false (fun h => hgo ⟨hm1, .inl h⟩)
          have e3 : decide ((4000 : Int) < (m : Int)) = false := decide_eq_false (fun h => hgo ⟨hm1, .inr (by omega)⟩)
          clear hgo
          go_wp2_with fail
          go_end0
          refine ⟨rfl, _, _, HKS.out.book ⟨HT1.out, HT2.out⟩ HHM.out, HKS.out.chg, HKS.out.news, HKS.out.oth⟩
        · have e1 : decide ((1 : Int) < (m : Int)) = false := decide_eq_false (by omega)
          clear hgo
          go_wp2_with fail
          go_end0
          refine ⟨rfl, _, _, HKS.out.book ⟨HT1.out, HT2.out⟩ HHM.out, HKS.out.chg, HKS.out.news, HKS.out.oth⟩


set_option maxRecDepth 100000 in
set_option maxHeartbeats 4000000 in
theorem stays_any (w0 : World) (gb off : Nat) (t : TypeId) (cs : List Value) (S : List Nat) (ob : Option Nat) (w : World) (L M : Value) (held : Int) (xs : List Itm) (SL SM : List Nat) (cs' : List Value) (S' : List Nat) (hks : KS w0 gb off t cs S ob w L M held xs SL SM cs' S') (hfew : xs.length ≤ 4000) :
    Calls Try.prog 51 #[.pointer (some ⟨gb, off, none⟩)] w fun e w' => e = .returned (.bool true) ∧ ∃ cs'', KS w0 gb off t cs S ob w' L M held xs SL SM cs'' S' := by
  obtain ⟨A1, d1, A1', d1', hL, hM⟩ := hks.kept.slices
  obtain ⟨n, hn⟩ : ∃ n, n = xs.length := ⟨_, rfl⟩
  rw [← hn] at hL hM hfew
  have HI0 : Hid (∃ cs'', KS w0 gb off t cs S ob w L M held xs SL SM cs'' S') := Lib.hid ⟨_, hks⟩
  have HN := Lib.hid hn
  have HL := Lib.hid hL; have HM := Lib.hid hM
  clear hks hn hL hM
  go_enter Try.func51, Try.ntmps51
  go_wp2_with fail
  go_loopw [3] (fun i wr => ∃ j : Nat, j ≤ n ∧ i = .int .i64 j ∧ Hid (∃ cs'', KS w0 gb off t cs S ob wr L M held xs SL SM cs'' S')) (fun i _ => n - (intOf i).toNat)
  case atStart => exact ⟨0, by omega, rfl, HI0⟩
  case round =>
    clear HI0
    obtain ⟨j, hj, rfl, HI⟩ := hrel
    obtain ⟨cs2, hks⟩ := HI.out
    have c0 := (hks.row.cell off).trans hks.e0
    have c1 := (hks.row.cell (off + 1)).trans hks.e1
    have c3 := (hks.row.cell (off + 3)).trans hks.e3
    have f3 := hks.row.frozen (off + 3)
    have hltc := hks.row.lt
    by_cases hjn : j < n
    · obtain ⟨g, o, d, g', o', d', q1, q2, hd1, hd2, hd3, hd4, hgs, hgs', hg, hg', hcl, hcl'⟩ := hks.kept.slots (by have := HN.out; omega)
      obtain ⟨z, hz0⟩ : ∃ z, xs[j]? = some z := ⟨_, List.getElem?_eq_getElem (show j < xs.length by have := HN.out; omega)⟩
      have hin := hks.kept.it z (List.mem_of_getElem? hz0)
      have l0 := hcl j (by have := HN.out; omega)
      have l0' := hcl' j (by have := HN.out; omega)
      rw [List.getElem?_map, hz0] at l0 l0'
      simp only [Option.map_some, Itm.v, Itm.u] at l0 l0'
      rw [q1, ← HN.out] at c0
      rw [q2, ← HN.out] at c1
      have hgb : ¬ (g = gb) := fun h => hks.notin (by rw [← h]; exact hks.kept.sl _ hgs)
      have hgb' : ¬ (g' = gb) := fun h => hks.notin (by rw [← h]; exact hks.kept.sm _ hgs')
      have HKS := Lib.hid hks
      have HIN := Lib.hid hin
      have hjj : (j : Int) < (n : Int) := by omega
      clear hks hin hcl hcl' hz0 hgs hgs' q1 q2 HI hd1 hd2
      have KEEP : ∀ w' : World, (w'.cell? ⟨gb, off + 3, none⟩ = some (.bool false) ∧ w'.cell? ⟨gb, off, none⟩ = some (.slice (some ⟨g, o, none⟩) n d) ∧ w'.cell? ⟨gb, off + 1, none⟩ = some (.slice (some ⟨g', o', none⟩) n d') ∧ w'.cell? ⟨g, o + j, none⟩ = some (.slice z.A z.n z.c) ∧ w'.cell? ⟨g', o' + j, none⟩ = some (.slice z.B z.n z.d)) →
          ((w'.setCell ⟨gb, off + 3, none⟩ (.bool false)).cell? ⟨gb, off + 3, none⟩ = some (.bool false) ∧ (w'.setCell ⟨gb, off + 3, none⟩ (.bool false)).cell? ⟨gb, off, none⟩ = some (.slice (some ⟨g, o, none⟩) n d) ∧ (w'.setCell ⟨gb, off + 3, none⟩ (.bool false)).cell? ⟨gb, off + 1, none⟩ = some (.slice (some ⟨g', o', none⟩) n d') ∧ (w'.setCell ⟨gb, off + 3, none⟩ (.bool false)).cell? ⟨g, o + j, none⟩ = some (.slice z.A z.n z.c) ∧ (w'.setCell ⟨gb, off + 3, none⟩ (.bool false)).cell? ⟨g', o' + j, none⟩ = some (.slice z.B z.n z.d)) := by
        rintro w' ⟨a0, a1, a2, a3, a4⟩
        exact ⟨World.cell?_setCell_same' _ _ _ (by rw [a0]; rfl), (World.cell?_setCell_other _ _ _ _ (by simp)).trans a1, (World.cell?_setCell_other _ _ _ _ (by simp)).trans a2, (World.cell?_setCell_other _ _ _ _ (by simp [hgb, Ne.symm hgb])).trans a3, (World.cell?_setCell_other _ _ _ _ (by simp [hgb', Ne.symm hgb'])).trans a4⟩
      have KEEP := Lib.hid KEEP
      go_wp2_with fail
      go_region_held3 (fun w' => w'.cell? ⟨gb, off + 3, none⟩ = some (.bool false) ∧ w'.cell? ⟨gb, off, none⟩ = some (.slice (some ⟨g, o, none⟩) n d) ∧ w'.cell? ⟨gb, off + 1, none⟩ = some (.slice (some ⟨g', o', none⟩) n d') ∧ w'.cell? ⟨g, o + j, none⟩ = some (.slice z.A z.n z.c) ∧ w'.cell? ⟨g', o' + j, none⟩ = some (.slice z.B z.n z.d))
        (first | exact ⟨c3, c0, c1, l0, l0'⟩ | exact KEEP.out _ (by assumption))
        (first | (go_at_call 29; refine (sameE_yes z.A z.B z.n z.c z.d z.bs wr.drew (HIN.out.own.isB.drew1) (HIN.out.copy.isB.drew1)).mono ?_; rintro e w' ⟨rfl, mm, rfl⟩))
      go_wp2_with fail
      go_roundw
      case rel => exact ⟨j + 1, by omega, by go_num, Lib.hid ⟨_, (HKS.out.drewN _).bad⟩⟩
      case measure => simp [intOf]; omega
    · rw [HL.out] at c0
      have hjj : ¬ ((j : Int) < (n : Int)) := by omega
      have HKS := Lib.hid hks
      clear hks
      go_wp2_with fail
      go_ret
      exact ⟨rfl, _, HKS.out⟩
/-- the mark of a place, as cells -/
def mkc (i j : Nat) : List Value := ((i + 1) :: j :: List.replicate 510 0).map u64v
theorem mkc_len (i j : Nat) : (mkc i j).length = 512 := by rw [mkc, List.length_map, List.length_cons, List.length_cons, List.length_replicate]
theorem mkc_one (i j : Nat) : ∀ v ∈ mkc i j, v.oneCell' = true := by 
  intro v hv
  obtain ⟨x, _, rfl⟩ := List.mem_map.1 hv
  rfl
/-- it lies in a block of its own, with its spare room -/
structure Room (w : World) (x : Itm) : Prop where
  none_ : x.v.ownBlock = none → x.A = none ∧ x.c = 0
  some_ : ∀ g, x.v.ownBlock = some g → x.A = some ⟨g, 0, none⟩
  row : ∀ g, x.v.ownBlock = some g → ∃ l, Row w g 24 l ∧ l.length = x.c * 512
  le : x.c ≤ 9223372036854775807 ∧ x.n ≤ x.c
def Marked (w : World) (x : Itm) (n : Nat) (f : Nat → List Value) : Prop := ∀ g, x.v.ownBlock = some g → ∃ l, Row w g 24 l ∧ l.length = x.c * 512 ∧ ∀ j, j < n → ∀ d, d < 512 → l[j * 512 + d]? = (f j)[d]?
theorem Own.room {w : World} {base : Nat} {x : Itm} (h : Own w base x.A x.n x.c x.bs) : Room w x := by
  obtain ⟨A, n, c, bs, B, d⟩ := x
  rcases h.1.2 with ⟨hv, h0⟩ | ⟨g, cap, cur, hv, _, hh, hnc, hcm, hsz, _⟩
  · have h0 : n = 0 := h0
    injection hv with h1 _ h2
    have h1 : A = none := h1
    have h2 : c = 0 := h2
    subst h0 h1 h2
    exact ⟨fun _ => ⟨rfl, rfl⟩, fun g h => by simp [Itm.v, Value.ownBlock] at h, fun g h => by simp [Itm.v, Value.ownBlock] at h, by simp⟩
  · injection hv with h1 _ h2
    have h1 : A = some ⟨g, 0, none⟩ := h1
    have h2 : c = cap := h2
    subst h1 h2
    have e : ∀ g', (Itm.v ⟨some ⟨g, 0, none⟩, n, c, bs, B, d⟩).ownBlock = some g' → g' = g := by
      intro g' h
      simp [Itm.v, Value.ownBlock] at h
      exact h.symm
    refine ⟨fun h => by simp [Itm.v, Value.ownBlock] at h, fun g' h => by rw [e g' h], fun g' h => ?_, ?_⟩
    · rw [e g' h]
      exact ⟨cur.toList, by unfold Row; rw [hh], by simpa using hsz⟩
    · unfold maxLen at hcm
      exact ⟨hcm, hnc⟩
theorem Room.set_ {w : World} {x : Itm} (h : Room w x) (g j : Nat) (u : Value) : Room (w.setCell ⟨g, j, none⟩ u) x := by
  refine ⟨h.none_, h.some_, fun k hk => ?_, h.le⟩
  obtain ⟨l, h1, h2⟩ := h.row k hk
  by_cases e : k = g
  · subst e
    exact ⟨_, h1.set_ j u, by simpa using h2⟩
  · exact ⟨l, h1.far (p := ⟨g, j, none⟩) e u, h2⟩
theorem Marked.far {w : World} {x : Itm} {n : Nat} {f : Nat → List Value} (h : Marked w x n f) {g : Nat} (hg : x.v.ownBlock ≠ some g) (j : Nat) (u : Value) : Marked (w.setCell ⟨g, j, none⟩ u) x n f := by
  intro k hk
  obtain ⟨l, h1, h2⟩ := h k hk
  exact ⟨l, h1.far (p := ⟨g, j, none⟩) (fun e => hg (by rw [hk]; exact congrArg some e)) u, h2⟩
theorem Marked.next {w : World} {x : Itm} {n : Nat} {f : Nat → List Value} (h : Marked w x n f) {g : Nat} (hg : x.v.ownBlock = some g) (hn : n < x.c) (hl : (f n).length = 512) : Marked (w.setCells g (n * 512) (f n)) x (n + 1) f := by
  intro k hk
  obtain rfl : g = k := by rw [hg] at hk; injection hk
  obtain ⟨l, h1, h2, h3⟩ := h g hk
  refine ⟨_, h1.sets (f n) (n * 512), by rw [setL_len]; exact h2, fun j hj d hd => ?_⟩
  rw [setL_at _ _ _ _ (by rw [h2, hl]; omega)]
  by_cases e : j = n
  · subst e
    rw [if_pos (by rw [hl]; omega), Nat.add_sub_cancel_left]
  · rw [if_neg (by rw [hl]; omega)]
    exact h3 j (by omega) d hd
theorem Marked.range {w : World} {x : Itm} {n : Nat} {f : Nat → List Value} (h : Marked w x n f) {g : Nat} (hg : x.v.ownBlock = some g) {j : Nat} (hj : j < n) (hl : (f j).length = 512) : w.rangeAt g (j * 512) (f j) := by
  intro d v hv
  obtain ⟨l, h1, h2, h3⟩ := h g hg
  rw [h1.cell (j * 512 + d), h3 j hj d (by rw [← hl]; exact (List.getElem?_eq_some_iff.1 hv).1), hv]
theorem Room.chg_ {w w' : World} {x : Itm} (h : Room w x) (hc : Chg [] w w') : Room w' x := ⟨h.none_, h.some_, fun g hg => by
  obtain ⟨l, h1, h2⟩ := h.row g hg
  exact ⟨l, hc.row h1 (by simp), h2⟩, h.le⟩
theorem Marked.chg_ {w w' : World} {x : Itm} {n : Nat} {f : Nat → List Value} (h : Marked w x n f) (hc : Chg [] w w') : Marked w' x n f := fun g hg => by
  obtain ⟨l, h1, h2⟩ := h g hg
  exact ⟨l, hc.row h1 (by simp), h2⟩
/-- what Apart keeps true: the lists up to i are marked -/
structure ApI (w0 wx : World) (gb off : Nat) (t : TypeId) (cs : List Value) (L : Value) (xs : List Itm) (SL S : List Nat) (i : Nat) : Prop where
  row : Row wx gb t cs
  lists : Tl wx 42 L xs.length (xs.map Itm.v) SL
  room : ∀ x ∈ xs, Room wx x
  marks : ∀ k x, xs[k]? = some x → k < i → Marked wx x x.c (mkc k)
  chg : Chg S w0 wx
section
variable {w0 wx : World} {gb off : Nat} {t : TypeId} {cs : List Value} {L : Value} {xs : List Itm} {SL S : List Nat} {i : Nat}
theorem ApI.drewN (h : ApI w0 wx gb off t cs L xs SL S i) (m : Nat) : ApI w0 (wx.drewN m) gb off t cs L xs SL S i :=
  ⟨h.row, h.lists.chg ((Chg.refl [] wx).drewN m) (by simp), fun x hx => ⟨(h.room x hx).none_, (h.room x hx).some_, (h.room x hx).row, (h.room x hx).le⟩, h.marks, h.chg.drewN m⟩
theorem ApI.store (h : ApI w0 wx gb off t cs L xs SL S i) (ht : t ≠ 24) (hap : xs.Pairwise fun x y => ∀ k, x.v.ownBlock = some k → y.v.ownBlock ≠ some k) {x : Itm} (hx : xs[i]? = some x) {g : Nat} (hg : x.v.ownBlock = some g) (hs : g ∈ S) (j : Nat) (u : Value) :
    ApI w0 (wx.setCell ⟨g, j, none⟩ u) gb off t cs L xs SL S i := by
  obtain ⟨l, hl, _⟩ := (h.room x (List.mem_of_getElem? hx)).row g hg
  have hgb : gb ≠ g := fun e => Blk.ne_ (cs := cs.toArray) (cs' := l.toArray) h.row hl ht e
  have hsl : ∀ k ∈ SL, k ≠ g := by
    intro k hk e
    obtain ⟨cur, hb⟩ := h.lists.blk k hk
    exact Blk.ne_ (cs := cur) (cs' := l.toArray) hb hl (by decide) e
  refine ⟨h.row.far (p := ⟨g, j, none⟩) hgb u, h.lists.keep fun k hk => Below.heap_setCell wx _ u k (hsl k hk), fun y hy => (h.room y hy).set_ g j u, fun k y hy hk => (h.marks k y hy hk).far ?_ j u, h.chg.set_ (p := ⟨g, j, none⟩) (.inl hs) u⟩
  have hk1 := (List.getElem?_eq_some_iff.1 hy)
  have hi1 := (List.getElem?_eq_some_iff.1 hx)
  have := List.pairwise_iff_getElem.1 hap k i hk1.1 hi1.1 hk
  rw [hk1.2, hi1.2] at this
  exact fun e => this g e hg
theorem ApI.stores (ht : t ≠ 24) (hap : xs.Pairwise fun x y => ∀ k, x.v.ownBlock = some k → y.v.ownBlock ≠ some k) {x : Itm} (hx : xs[i]? = some x) {g : Nat} (hg : x.v.ownBlock = some g) (hs : g ∈ S) : ∀ (vs : List Value) (o : Nat) (wx : World), ApI w0 wx gb off t cs L xs SL S i → ApI w0 (wx.setCells g o vs) gb off t cs L xs SL S i
  | [], o, wx, h => h
  | v :: r, o, wx, h => ApI.stores ht hap hx hg hs r (o + 1) _ (h.store ht hap hx hg hs o v)
theorem ApI.next (h : ApI w0 wx gb off t cs L xs SL S i) {x : Itm} (hx : xs[i]? = some x) (hm : Marked wx x x.c (mkc i)) : ApI w0 wx gb off t cs L xs SL S (i + 1) := by
  refine ⟨h.row, h.lists, h.room, fun k y hy hk => ?_, h.chg⟩
  by_cases e : k = i
  · subst e
    rw [hx] at hy
    injection hy with hy
    subst hy
    exact hm
  · exact h.marks k y hy (by omega)
theorem ApI.chg_ (h : ApI w0 wx gb off t cs L xs SL S i) {wy : World} (hc : Chg [] wx wy) : ApI w0 wy gb off t cs L xs SL S i :=
  ⟨hc.row h.row (by simp), h.lists.chg hc (by simp), fun x hx => (h.room x hx).chg_ hc, fun k x hx hk => (h.marks k x hx hk).chg_ hc, h.chg.trans hc (by simp)⟩
end
set_option maxRecDepth 100000 in
set_option maxHeartbeats 400000 in
theorem marks_any (i j : Nat) (w : World) (hi : i ≤ 4000) (hj : j ≤ 9223372036854775807) :
    Calls Try.prog 25 #[.int .i64 i, .int .i64 j] w fun e w' => e = .returned (.agg (mkc i j).toArray) ∧ Chg [] w w' := by
  obtain ⟨hz, hsz⟩ := zero_of_info infoTabZ
  obtain ⟨Z, hZ⟩ : ∃ Z, Z = zeros 512 := ⟨_, rfl⟩
  rw [← hZ] at hz
  have hzl : Z.length = 512 := by rw [hZ]; simp [zeros]
  have hr := Row.new w 24 Z
  have hV : mkc i j = (Z.set 0 (.int .u64 ((i : Int) + 1))).set 1 (.int .u64 (j : Int)) := by
    rw [hZ]
    show _ = ((List.replicate 512 (u64v 0)).set 0 _).set 1 _
    rw [show (512 : Nat) = 510 + 1 + 1 from rfl, List.replicate_succ, List.replicate_succ]
    unfold mkc
    rw [List.map_cons, List.map_cons, List.map_replicate]
    rfl
  have hvl : ((Z.set 0 (.int .u64 ((i : Int) + 1))).set 1 (.int .u64 (j : Int))).length = 512 := by rw [List.length_set, List.length_set, hzl]
  have e1 : IntKind.u64.wrap (i : Int) = (i : Int) := by rw [IntKind.wrap_u64]; omega
  have e2 : IntKind.u64.wrap ((i : Int) + 1) = (i : Int) + 1 := by rw [IntKind.wrap_u64]; omega
  have e3 : IntKind.u64.wrap (j : Int) = (j : Int) := by rw [IntKind.wrap_u64]; omega
  have hone : ∀ v ∈ (Z.set 0 (.int .u64 ((i : Int) + 1))).set 1 (.int .u64 (j : Int)), v.oneCell' = true := by rw [← hV]; intro v hv; obtain ⟨x, _, rfl⟩ := List.mem_map.1 hv; rfl
  have hst := run_storeCells_row (P := Try.prog) (ty := 24) hr (by rw [hvl]; exact hsz) (by rw [hvl, hzl]) hone
  have hr2 := hr.setRow ((Z.set 0 (.int .u64 ((i : Int) + 1))).set 1 (.int .u64 (j : Int)))
  have HLD := Lib.hid hr2
  have HC := Lib.hid (Chg.of_below (S := []) (below_setRow ((Below.refl w.heap.size w).alloc (Nat.le_refl _) (.cells Z.toArray 24)) (Nat.le_refl _) ((Z.set 0 (.int .u64 ((i : Int) + 1))).set 1 (.int .u64 (j : Int))).toArray))
  have HV := Lib.hid hV
  clear hV hZ hr2 hr hone
  have hzn : ¬ (Z = []) := fun h => by rw [h] at hzl; cases hzl
  go_enter Try.func25, Try.ntmps25
  go_wp2_with fail
  refine bodyPost_ret (v := .agg ((Z.set 0 (.int .u64 ((i : Int) + 1))).set 1 (.int .u64 (j : Int))).toArray) ?_ rfl ?_
  · exact results_cell_row rfl _ _ _ _ _ _ _ rfl HLD.out Try.underlying24 rfl (by rw [hsz, List.size_toArray, hvl])
  · exact ⟨by rw [HV.out], HC.out⟩
theorem hold_range {w w1 w2 : World} {g o : Nat} {V : List Value} (h : w1.rangeAt g o V ∧ Chg [] w w1) (hc : Chg [] w1 w2) (hg : g < w.heap.size) : w2.rangeAt g o V ∧ Chg [] w w2 :=
  ⟨hc.range (Nat.lt_of_lt_of_le hg h.2.size) h.1, h.2.trans hc (by simp)⟩
theorem hold_r {w w1 : World} {g o : Nat} {V : List Value} (h : w1.rangeAt g o V ∧ Chg [] w w1) : Chg [] w w1 := h.2
set_option maxRecDepth 100000 in
set_option maxHeartbeats 4000000 in
theorem apart_any (gb off : Nat) (t : TypeId) (cs : List Value) (S : List Nat) (w : World) (hb : Bk w gb off t cs S) :
    Calls Try.prog 24 #[.pointer (some ⟨gb, off, none⟩), .func (.func 25) #[] #[]] w fun e w' => e = .returned (.bool true) ∧ Chg (gb :: S) w w' := by
  obtain ⟨hrow, ⟨ht1, ht2⟩, hnot, xs, L, M, held, SL, SM, e0, e1, e2, e3, hfew, hk⟩ := hb
  have hks : KS w gb off t cs S none w L M held xs SL SM cs S := ⟨hrow, e0, e1, e2, e3, fun _ _ => rfl, hk, Chg.refl _ _, fun k h => .inl h, hnot⟩
  have HS := Lib.hid (stays_any w gb off t cs S none w L M held xs SL SM cs S hks hfew)
  obtain ⟨n, hn⟩ : ∃ n, n = xs.length := ⟨_, rfl⟩
  rw [← hn] at hfew
  have HN := Lib.hid hn
  have HT1 := Lib.hid ht1; have HT2 := Lib.hid ht2; have HNOT := Lib.hid hnot
  clear hrow hnot e0 e1 e2 e3 hk hks hn ht1 ht2
  go_enter Try.func24, Try.ntmps24
  go_wp2_with fail
  refine HS.out.mono ?_
  rintro e w1 ⟨rfl, cs1, hks⟩
  have hap0 : ApI w w1 gb off t cs1 L xs SL (gb :: S) 0 := ⟨hks.row, hks.kept.lists, fun x hx => (hks.kept.it x hx).own.room, fun k x _ h => absurd h (by omega), hks.chg⟩
  have HI0 := Lib.hid hap0
  have HE0 := Lib.hid hks.e0
  have HE1 := Lib.hid hks.e1
  have HE2 := Lib.hid hks.e2
  have HAP := Lib.hid hks.kept.ap
  have HVS : Hid (∀ x ∈ xs, ∀ k, x.v.ownBlock = some k → k ∈ gb :: S) := Lib.hid fun x hx k hk => by simp; exact .inr ((hks.kept.it x hx).vs k hk)
  obtain ⟨A1, d1, A1', d1', hL, hM⟩ := hks.kept.slices
  rw [← HN.out] at hL
  have HL := Lib.hid hL
  clear hap0 hks hL hM HS
  go_wp2_with fail
  go_loopw [5] (fun i wr => ∃ k : Nat, k ≤ n ∧ i = .int .i64 k ∧ Hid (ApI w wr gb off t cs1 L xs SL (gb :: S) k)) (fun i _ => n - (intOf i).toNat)
  case atStart => exact ⟨0, by omega, rfl, HI0⟩
  case round =>
    clear HI0
    obtain ⟨k, hkn, rfl, HI⟩ := hrel
    have c0 := (HI.out.row.cell off).trans HE0.out
    rw [HL.out] at c0
    by_cases hlt : k < n
    · have hx0 : ∃ x, xs[k]? = some x := ⟨_, List.getElem?_eq_getElem (show k < xs.length by have := HN.out; omega)⟩
      obtain ⟨x, hx⟩ := hx0
      have hroom := HI.out.room x (List.mem_of_getElem? hx)
      obtain ⟨A2, c2, q1, hd, _, g, o, hf, hg⟩ := HI.out.lists.form
      have hf := hf.out (by have := HN.out; omega)
      have hg := hg (by have := HN.out; omega)
      obtain ⟨rfl, _, hcl⟩ := hf
      have l0 := hcl k (by have := HN.out; omega)
      rw [List.getElem?_map, hx] at l0
      simp only [Option.map_some, Itm.v] at l0
      rw [← HL.out, q1, ← HN.out] at c0
      have hki : (k : Int) < (n : Int) := by omega
      have hk0 : (0 : Int) ≤ (k : Int) := by omega
      have hcle := hroom.le
      obtain ⟨c, hc⟩ : ∃ c, c = x.c := ⟨_, rfl⟩
      obtain ⟨Ax, hAx⟩ : ∃ Ax, Ax = x.A := ⟨_, rfl⟩
      rw [← hc, ← hAx] at l0
      rw [← hc] at hcle
      have HC := Lib.hid hc
      have HAX := Lib.hid hAx
      have HX := Lib.hid hx
      have HR := Lib.hid hroom
      clear hx hroom hcl q1 hc hd hAx
      go_wp2_with fail
      go_quiet (fail)
      have HI1 := Lib.hid (HI.out.drewN nq)
      clear HI c0 l0
      go_wp2_with fail
      go_loopw [7] (fun j wq => ∃ i : Nat, i ≤ c ∧ j = .int .i64 i ∧ Hid (ApI w wq gb off t cs1 L xs SL (gb :: S) k) ∧ Hid (Marked wq x i (mkc k))) (fun j _ => c - (intOf j).toNat)
      case atStart =>
        refine ⟨0, by omega, rfl, HI1, Lib.hid ?_⟩
        intro g' hg'
        obtain ⟨l, h1, h2⟩ := HR.out.row g' hg'
        exact ⟨l, h1, h2, fun j hj => absurd hj (by omega)⟩
      case round =>
        clear HI1
        obtain ⟨i, hic, rfl, HI, HM⟩ := hrel
        by_cases hil : i < c
        · have hob : ∃ gx, x.v.ownBlock = some gx := by
            rcases h : x.v.ownBlock with _ | gx
            · have := (HR.out.none_ h).2
              have := HC.out
              omega
            · exact ⟨gx, rfl⟩
          obtain ⟨gx, hgx⟩ := hob
          have hA := HR.out.some_ gx hgx
          rw [← HAX.out] at hA
          have HTH : Hid (∀ wy, Chg [] wr wy → wy.there gx (i * 512) 512) := Lib.hid (by
            intro wy hc
            obtain ⟨l, hl1, hl2, _⟩ := HM.out gx hgx
            refine (hc.row hl1 (by simp)).there ?_
            rw [hl2, ← HC.out]
            omega)
          have HGX := Lib.hid hgx
          have hii : (i : Int) < (c : Int) := by omega
          subst hA
          obtain ⟨V, hV⟩ : ∃ V, V = mkc k i := ⟨_, rfl⟩
          have HVL : Hid (V.length = 512) := Lib.hid (by rw [hV, mkc_len])
          have HV1 : Hid (∀ v ∈ V, v.oneCell' = true) := Lib.hid (by rw [hV]; exact mkc_one k i)
          have HMK : Hid (Calls Try.prog 25 #[.int .i64 k, .int .i64 i] wr fun e w' => e = .returned (.agg V.toArray) ∧ Chg [] wr w') := Lib.hid (by rw [hV]; exact marks_any k i wr (by omega) (by omega))
          have HV := Lib.hid hV
          clear hgx hV
          go_wp2_with (first | (go_at_call 25; refine HMK.out.mono ?_; rintro e w' ⟨rfl, hcc⟩; have HCC := Lib.hid hcc; clear hcc) | refine wpList_store_mid (by rfl) _ _ _ rfl gx (i * 512) V.toArray (by rfl) (by rfl) (by rw [List.size_toArray, HVL.out]; exact HTH.out _ HCC.out) (by rw [List.size_toArray, HVL.out]; rfl) (all_oneCell_toArray HV1.out) ?_)
          go_roundw
          case rel =>
            refine ⟨i + 1, by omega, by go_num, Lib.hid (ApI.stores HT2.out HAP.out HX.out HGX.out (HVS.out x (List.mem_of_getElem? HX.out) _ HGX.out) _ _ _ (HI.out.chg_ HCC.out)), Lib.hid ?_⟩
            have := (HM.out.chg_ HCC.out).next HGX.out (by have := HC.out; omega) (mkc_len k i)
            rw [← HV.out] at this
            exact this
          case measure => simp [intOf]; omega
        · have HIC : Hid (i = x.c) := Lib.hid (by have := HC.out; omega)
          go_wp2_with fail
          go_roundw
          case rel => exact ⟨k + 1, by omega, by go_num, Lib.hid (HI.out.next HX.out (by have := HM.out; rwa [HIC.out] at this))⟩
          case measure => simp [intOf]; omega
    · have HKN : Hid (k = n) := Lib.hid (by omega)
      go_wp2_with fail
      have HI2 : Hid (ApI w wr gb off t cs1 L xs SL (gb :: S) n) := Lib.hid (by have := HI.out; rwa [HKN.out] at this)
      clear HI c0 HKN
      go_loopw [8] (fun i wq => ∃ k : Nat, k ≤ n ∧ i = .int .i64 k ∧ Hid (ApI w wq gb off t cs1 L xs SL (gb :: S) n)) (fun i _ => n - (intOf i).toNat)
      case atStart => exact ⟨0, by omega, rfl, HI2⟩
      case round =>
        clear HI2
        obtain ⟨k2, hkn2, rfl, HI⟩ := hrel
        have c0 := (HI.out.row.cell off).trans HE0.out
        by_cases hlt2 : k2 < n
        · have hx0 : ∃ x, xs[k2]? = some x := ⟨_, List.getElem?_eq_getElem (show k2 < xs.length by have := HN.out; omega)⟩
          obtain ⟨x, hx⟩ := hx0
          have hroom := HI.out.room x (List.mem_of_getElem? hx)
          obtain ⟨A2, c2, q1, hd, _, g, o, hf, hg⟩ := HI.out.lists.form
          have hf := hf.out (by have := HN.out; omega)
          have hg := hg (by have := HN.out; omega)
          obtain ⟨rfl, _, hcl⟩ := hf
          have l0 := hcl k2 (by have := HN.out; omega)
          rw [List.getElem?_map, hx] at l0
          simp only [Option.map_some, Itm.v] at l0
          rw [q1, ← HN.out] at c0
          have hki : (k2 : Int) < (n : Int) := by omega
          have hk0 : (0 : Int) ≤ (k2 : Int) := by omega
          have hcle := hroom.le
          obtain ⟨c, hc⟩ : ∃ c, c = x.c := ⟨_, rfl⟩
          obtain ⟨Ax, hAx⟩ : ∃ Ax, Ax = x.A := ⟨_, rfl⟩
          rw [← hc, ← hAx] at l0
          rw [← hc] at hcle
          have HC := Lib.hid hc
          have HAX := Lib.hid hAx
          have HX := Lib.hid hx
          have HR := Lib.hid hroom
          clear hx hroom hcl q1 hc hd hAx
          go_wp2_with fail
          go_quiet (fail)
          have HI1 := Lib.hid (HI.out.drewN nq)
          clear c0 l0
          go_wp2_with fail
          go_loopw [10] (fun j wq => ∃ i : Nat, i ≤ c ∧ j = .int .i64 i ∧ Hid (ApI w wq gb off t cs1 L xs SL (gb :: S) n)) (fun j _ => c - (intOf j).toNat)
          case atStart => exact ⟨0, by omega, rfl, HI1⟩
          case round =>
            clear HI1 HI
            obtain ⟨i, hic, rfl, HI⟩ := hrel
            have HM := Lib.hid (HI.out.marks k2 x HX.out hlt2)
            by_cases hil : i < c
            · have hob : ∃ gx, x.v.ownBlock = some gx := by
                rcases h : x.v.ownBlock with _ | gx
                · have := (HR.out.none_ h).2
                  have := HC.out
                  omega
                · exact ⟨gx, rfl⟩
              obtain ⟨gx, hgx⟩ := hob
              have hA := HR.out.some_ gx hgx
              rw [← HAX.out] at hA
              have hii : (i : Int) < (c : Int) := by omega
              have hi0 : (0 : Int) ≤ (i : Int) := by omega
              subst hA
              have hrg := HM.out.range hgx (j := i) (by have := HC.out; omega) (mkc_len k2 i)
              have hgl : gx < wr.heap.size := by
                obtain ⟨l, hl1, _⟩ := HM.out gx hgx
                exact hl1.lt
              clear hgx HM
              obtain ⟨V, hV⟩ : ∃ V, V = mkc k2 i := ⟨_, rfl⟩
              rw [← hV] at hrg
              have hvl : V.length = 512 := by rw [hV, mkc_len]
              have hin : (Try.prog.info? 24).map (·.size) = some V.length := by rw [hvl]; exact (zero_of_info infoTabZ).2
              have hun := Try.underlying24
              have hne := fun wx => neqT V (by rw [hV]; exact u64V_at _) hvl wx
              have HMK : Hid (∀ wx, Calls Try.prog 25 #[.int .i64 k2, .int .i64 i] wx fun e w' => e = .returned (.agg V.toArray) ∧ Chg [] wx w') := Lib.hid (fun wx => by rw [hV]; exact marks_any k2 i wx (by omega) (by omega))
              have hcr := Chg.refl [] wr.drew
              clear hV hvl
              go_upto_region 18 with fail
              go_region_held3 (fun w' => w'.rangeAt gx (i * 512) V ∧ Chg [] wr w')
                (first | exact ⟨hrg, (Chg.refl [] wr).drew⟩ | (refine hold_range (w := wr) (g := gx) (o := i * 512) (V := V) ?_ hcc hgl; assumption))
                (first | (go_at_call 25; refine (HMK.out _).mono ?_; rintro e w' ⟨rfl, hcc⟩))
              all_goals
                go_wp2_with fail
                go_roundw
                case rel =>
                  refine ⟨i + 1, by omega, by go_num, Lib.hid (HI.out.chg_ ?_)⟩
                  refine hold_r (g := gx) (o := i * 512) (V := V) ?_; assumption
                case measure => simp [intOf]; omega
            · go_wp2_with fail
              go_roundw
              case rel => exact ⟨k2 + 1, by omega, by go_num, HI⟩
              case measure => simp [intOf]; omega
        · rw [HL.out] at c0
          have f0 := HI.out.row.frozen off
          have f1 := HI.out.row.frozen (off + 1)
          have f2 := HI.out.row.frozen (off + 2)
          have c1 := (HI.out.row.cell (off + 1)).trans HE1.out
          have c2 := (HI.out.row.cell (off + 2)).trans HE2.out
          have hlt3 := HI.out.row.lt
          go_wp2_with fail
          go_ret
          exact ⟨rfl, ((HI.out.chg.set_ (p := ⟨gb, off, none⟩) (.inl (by simp)) _).set_ (p := ⟨gb, off + 1, none⟩) (.inl (by simp)) _).set_ (p := ⟨gb, off + 2, none⟩) (.inl (by simp)) _⟩

end BT
end Go.Proofs.Ytblfagmoilhdnaa

/- Two books side by side; the walks of the law's other and asked. -/
set_option linter.unusedVariables false
set_option linter.unusedSimpArgs false
namespace Go.Proofs.Ytblfagmoilhdnaa
open Go.RowKit
theorem IsL.chg {w w' : World} {A : Option Addr} {n : Nat} {rows : List Pg.Lf} {T : List Nat} (h : IsL w w.heap.size A n rows) (hc : Chg T w w') (hA : 0 < n → ∀ ad, A = some ad → ad.block ∉ T) : IsL w' w'.heap.size A n rows := by
  refine ⟨⟨h.1.1, fun h0 => ?_⟩, h.2⟩
  obtain ⟨ad, e, hb, hcell⟩ := h.1.2 h0
  refine ⟨ad, e, Nat.lt_of_lt_of_le hb hc.size, fun j u hu => ?_⟩
  rw [← hcell j u hu]
  have hbl := hc.block ad.block hb (hA h0 ad e)
  have : ∀ p : Addr, p.block = ad.block → w'.cell? p = w.cell? p := by
    intro p hp
    unfold World.cell?
    rw [hp, hbl]
  exact this _ (block_of_add _ _)
/-- the books of tables and of rows, and what they may not touch -/
structure Bks (w0 wx : World) (gT gL : Nat) (ST SL : List Nat) (P : Nat → Prop) : Prop where
  bt : ∃ cs, BT.Bk wx gT 0 55 cs ST
  bl : ∃ cs, BL.Bk wx gL 0 59 cs SL
  dis : ∀ k ∈ gT :: ST, k ∉ gL :: SL
  prot : ∀ k, P k → k < wx.heap.size ∧ k ∉ gT :: ST ∧ k ∉ gL :: SL
  bel : Below w0.heap.size w0 wx
  old : ∀ k, k ∈ gT :: ST ∨ k ∈ gL :: SL → w0.heap.size ≤ k ∧ k < wx.heap.size
section
variable {w0 wx : World} {gT gL : Nat} {ST SL : List Nat} {P : Nat → Prop}
theorem Bks.below (h : Bks w0 wx gT gL ST SL P) {wy : World} (hb : Below wx.heap.size wx wy) : Bks w0 wy gT gL ST SL P := by
  obtain ⟨cT, hT⟩ := h.bt
  obtain ⟨cL, hL⟩ := h.bl
  have hc : Chg [] wx wy := Chg.of_below hb
  exact ⟨⟨cT, hT.chg hc (by simp) (by simp)⟩, ⟨cL, hL.chg hc (by simp) (by simp)⟩, h.dis, fun k hk => ⟨Nat.lt_of_lt_of_le (h.prot k hk).1 hb.size, (h.prot k hk).2⟩, h.bel.trans (hb.mono h.bel.size), fun k hk => ⟨(h.old k hk).1, Nat.lt_of_lt_of_le (h.old k hk).2 hb.size⟩⟩
theorem Bks.more (h : Bks w0 wx gT gL ST SL P) {P' : Nat → Prop} (hp : ∀ k, P' k → P k ∨ (k < wx.heap.size ∧ k ∉ gT :: ST ∧ k ∉ gL :: SL)) : Bks w0 wx gT gL ST SL P' :=
  ⟨h.bt, h.bl, h.dis, fun k hk => (hp k hk).elim (h.prot k) id, h.bel, h.old⟩
theorem Bks.keepT (h : Bks w0 wx gT gL ST SL P) {wy : World} {v : Value} {cs : List Value} {ST' : List Nat} (hb : BT.Bk wy gT 0 55 cs ST') (hc : Chg (gT :: ST) wx wy) (hs : ∀ k ∈ ST', k ∈ ST ∨ wx.heap.size ≤ k ∨ v.ownBlock = some k)
    (hv : ∀ k, v.ownBlock = some k → k < wx.heap.size ∧ w0.heap.size ≤ k ∧ k ∉ gL :: SL ∧ ¬ P k) : Bks w0 wy gT gL ST' SL P := by
  obtain ⟨cL, hL⟩ := h.bl
  have hd : ∀ k ∈ gL :: SL, k ∉ gT :: ST := fun k h1 h2 => h.dis k h2 h1
  have hlt : ∀ k ∈ ST', k < wy.heap.size := by
    obtain ⟨xs, L, M, held, A, B, _, _, _, _, _, hk⟩ := hb.rest
    exact hk.lt
  have hs' : ∀ k ∈ gT :: ST', k ∈ gT :: ST ∨ wx.heap.size ≤ k ∨ v.ownBlock = some k := by
    intro k hk
    rcases List.mem_cons.1 hk with rfl | hk
    · exact .inl (by simp)
    · rcases hs k hk with h1 | h1 | h1
      · exact .inl (by simp [h1])
      · exact .inr (.inl h1)
      · exact .inr (.inr h1)
  refine ⟨⟨_, hb⟩, ⟨cL, hL.chg hc (fun k hk => hd k (by simp [hk])) (hd gL (by simp))⟩, ?_, ?_, ?_, ?_⟩
  · intro k hk
    rcases hs' k hk with h1 | h1 | h1
    · exact h.dis k h1
    · intro h2
      have := (h.old k (.inr h2)).2
      omega
    · exact (hv k h1).2.2.1
  · intro k hk
    obtain ⟨p1, p2, p3⟩ := h.prot k hk
    refine ⟨Nat.lt_of_lt_of_le p1 hc.size, fun hm => ?_, p3⟩
    rcases hs' k hm with h1 | h1 | h1
    · exact p2 h1
    · omega
    · exact (hv k h1).2.2.2 hk
  · exact below_chg h.bel (Nat.le_refl _) hc (fun x hx => (h.old x (.inl hx)).1)
  · intro k hk
    rcases hk with hk | hk
    · rcases hs' k hk with h1 | h1 | h1
      · exact ⟨(h.old k (.inl h1)).1, Nat.lt_of_lt_of_le (h.old k (.inl h1)).2 hc.size⟩
      · refine ⟨Nat.le_trans h.bel.size h1, ?_⟩
        rcases List.mem_cons.1 hk with rfl | hk
        · exact Nat.lt_of_lt_of_le (h.old k (.inl (by simp))).2 hc.size
        · exact hlt k hk
      · exact ⟨(hv k h1).2.1, Nat.lt_of_lt_of_le (hv k h1).1 hc.size⟩
    · exact ⟨(h.old k (.inr hk)).1, Nat.lt_of_lt_of_le (h.old k (.inr hk)).2 hc.size⟩
theorem Bks.keepL (h : Bks w0 wx gT gL ST SL P) {wy : World} {v : Value} {cs : List Value} {SL' : List Nat} (hb : BL.Bk wy gL 0 59 cs SL') (hc : Chg (gL :: SL) wx wy) (hs : ∀ k ∈ SL', k ∈ SL ∨ wx.heap.size ≤ k ∨ v.ownBlock = some k)
    (hv : ∀ k, v.ownBlock = some k → k < wx.heap.size ∧ w0.heap.size ≤ k ∧ k ∉ gT :: ST ∧ ¬ P k) : Bks w0 wy gT gL ST SL' P := by
  obtain ⟨cT, hT⟩ := h.bt
  have hlt : ∀ k ∈ SL', k < wy.heap.size := by
    obtain ⟨xs, L, M, held, A, B, _, _, _, _, _, hk⟩ := hb.rest
    exact hk.lt
  have hs' : ∀ k ∈ gL :: SL', k ∈ gL :: SL ∨ wx.heap.size ≤ k ∨ v.ownBlock = some k := by
    intro k hk
    rcases List.mem_cons.1 hk with rfl | hk
    · exact .inl (by simp)
    · rcases hs k hk with h1 | h1 | h1
      · exact .inl (by simp [h1])
      · exact .inr (.inl h1)
      · exact .inr (.inr h1)
  refine ⟨⟨cT, hT.chg hc (fun k hk => h.dis k (by simp [hk])) (h.dis gT (by simp))⟩, ⟨_, hb⟩, ?_, ?_, ?_, ?_⟩
  · intro k hk h2
    rcases hs' k h2 with h1 | h1 | h1
    · exact h.dis k hk h1
    · have := (h.old k (.inl hk)).2
      omega
    · exact (hv k h1).2.2.1 hk
  · intro k hk
    obtain ⟨p1, p2, p3⟩ := h.prot k hk
    refine ⟨Nat.lt_of_lt_of_le p1 hc.size, p2, fun hm => ?_⟩
    rcases hs' k hm with h1 | h1 | h1
    · exact p3 h1
    · omega
    · exact (hv k h1).2.2.2 hk
  · exact below_chg h.bel (Nat.le_refl _) hc (fun x hx => (h.old x (.inr hx)).1)
  · intro k hk
    rcases hk with hk | hk
    · exact ⟨(h.old k (.inl hk)).1, Nat.lt_of_lt_of_le (h.old k (.inl hk)).2 hc.size⟩
    · rcases hs' k hk with h1 | h1 | h1
      · exact ⟨(h.old k (.inr h1)).1, Nat.lt_of_lt_of_le (h.old k (.inr h1)).2 hc.size⟩
      · refine ⟨Nat.le_trans h.bel.size h1, ?_⟩
        rcases List.mem_cons.1 hk with rfl | hk
        · exact Nat.lt_of_lt_of_le (h.old k (.inr (by simp))).2 hc.size
        · exact hlt k hk
      · exact ⟨(hv k h1).2.1, Nat.lt_of_lt_of_le (hv k h1).1 hc.size⟩
end
set_option maxRecDepth 100000 in
set_option maxHeartbeats 400000 in
theorem within_any' (n : Int) (k : Nat) (w : World) (hn : -9223372036854775808 ≤ n ∧ n ≤ 9223372036854775807) (hk : k ≤ 1152921504606846976) :
    Calls Try.prog 50 #[.int .i64 n, .int .i64 0, .int .i64 k] w fun e w' => (∃ x : Nat, e = .returned (.int .i64 x) ∧ x ≤ k) ∧ w = w' := by
  obtain ⟨m, hm⟩ : ∃ m, m = n.tmod ((k : Int) + 1) := ⟨_, rfl⟩
  have hlt : m < (k : Int) + 1 := by rw [hm]; exact Int.tmod_lt_of_pos _ (by omega)
  have hgt : -((k : Int) + 1) < m := by rw [hm]; have := Int.lt_tmod_of_pos n (show 0 < (k : Int) + 1 by omega); omega
  have hne : ¬ ((k : Int) + 1 = 0) := by omega
  have HM := hm.symm
  clear hm hn
  by_cases h0 : m < 0
  · go_enter Try.func50, Try.ntmps50
    go_wp2_with fail
    go_ret
    exact ⟨⟨(m + k + 1).toNat, by go_num, by omega⟩, rfl⟩
  · go_enter Try.func50, Try.ntmps50
    go_wp2_with fail
    go_ret
    exact ⟨⟨m.toNat, by go_num, by omega⟩, rfl⟩
theorem lall_set1 {l : List Pg.Lf} {i : Nat} {r : Pg.Lf} (h : l[i]? = some r) (j : Nat) (u : Value) (r' : Pg.Lf) (hr : (lcells r).set j u = lcells r') (hj : j < 6) : (lall l).set (6 * i + j) u = lall (l.set i r') := by
  induction l generalizing i with
  | nil => simp at h
  | cons a t ih =>
    unfold lall at ih ⊢
    rw [List.flatMap_cons]
    cases i with
    | zero =>
      injection h with h
      subst h
      rw [Nat.mul_zero, Nat.zero_add, List.set_append_left _ _ (by rw [lcells_len]; exact hj), hr, List.set_cons_zero, List.flatMap_cons]
    | succ i =>
      rw [List.set_append_right _ _ (by rw [lcells_len]; omega), lcells_len, List.set_cons_succ, List.flatMap_cons, show 6 * (i + 1) + j - 6 = 6 * i + j by omega, ih h]
set_option maxRecDepth 100000 in
set_option maxHeartbeats 1000000 in
theorem other_any (A : Option Addr) (n c : Nat) (at_ : Int) (rows : List Pg.Lf) (w : World) (hr : IsL w w.heap.size A n rows) (hn : n ≤ 20000) (hat : -9223372036854775808 ≤ at_ ∧ at_ ≤ 9223372036854775807) :
    Calls Try.prog 23 #[.slice A n c, .int .i64 at_] w fun e w' => ∃ A' c' rows', e = .returned (.slice A' n c') ∧ IsL w' w'.heap.size A' n rows' ∧ (∀ ad, A' = some ad → w.heap.size ≤ ad.block) ∧ Below w.heap.size w w' := by
  obtain ⟨i0, hi0, hz1, hz2, hz3⟩ := info_parts infoLeaf
  have HI := Lib.hid hi0; have HZ1 := Lib.hid hz1; have HZ2 := Lib.hid hz2; have HZ3 := Lib.hid hz3
  have HIN := Lib.hid hr.2.1
  have HL := Lib.hid hr.2.2.1
  have HR : Hid (Reads w w.heap.size 6 A n (lall rows)) := Lib.hid hr.1
  have H1 : Hid (∀ u ∈ lall rows, u.oneCell' = true) := Lib.hid (BL.oneE rows)
  clear hr hi0 hz1 hz2 hz3
  go_enter Try.func23, Try.ntmps23
  go_upto_region 2 with (at_builtin; go_loud (refine wpList_append_nil w (by rfl) (.const (.slice none 0 0)) (.tmp 7) 48 rfl 47 i0 _ 6 32 Try.underlying48 HI.out HZ1.out HZ2.out HZ3.out rfl (by omega) (by rfl) _ A n c (lall rows) rfl HR.out H1.out (by unfold maxLen; omega) (by omega) ?_); intro A1 c1 w1 hnew)
  have hown := hnew.out.1
  have hrd := hnew.out.2.1
  have hbw := hnew.out.below
  have HOWN := Lib.hid hown; have HRD := Lib.hid hrd; have HBW := Lib.hid hbw
  have HNB : Hid (∀ k, (Value.slice A1 n c1).ownBlock = some k → w.heap.size ≤ k) := Lib.hid fun k hk => (hown.lt k hk).1
  clear hnew hown hrd hbw HR
  rcases Nat.eq_zero_or_pos n with h0 | h0
  · subst h0
    have f1 : decide ((0 : Int) < 0) = false := by decide
    go_wp2_with fail
    go_ret
    refine ⟨A1, c1, rows, rfl, ⟨HRD.out, HIN.out, HL.out, by omega⟩, fun ad he => ?_, HBW.out⟩
    rcases HOWN.out.2 with ⟨h, _⟩ | ⟨g, cap, cur, h, hg, _⟩
    · injection h with h; rw [h] at he; cases he
    · injection h with h
      rw [h] at he
      injection he with he
      rw [← he]
      exact hg
  · obtain ⟨g, rfl, hg1, hg2, hg3, hg4⟩ := own_some HOWN.out h0
    unfold maxLen at hg4
    have f1 : decide (0 < n) = true := decide_eq_true h0
    have f1' : decide ((0 : Int) < (n : Int)) = true := decide_eq_true (by omega)
    obtain ⟨m, hm⟩ : ∃ m, n = m + 1 := ⟨n - 1, by omega⟩
    have e1 : IntKind.i64.wrap ((n : Int) - 1) = (m : Int) := by rw [IntKind.wrap_i64]; omega
    have e2 : (n : Int) - 1 = (m : Int) := by omega
    have HW : Hid (∀ wx : World, Calls Try.prog 50 #[.int .i64 at_, .int .i64 0, .int .i64 (m : Int)] wx fun e w' => (∃ x : Nat, e = .returned (.int .i64 x) ∧ x ≤ m) ∧ wx = w') := Lib.hid fun wx => within_any' at_ m wx hat (by omega)
    have hmn : m < n := by omega
    clear h0 hm
    go_wp2_with fail
    refine (HW.out _).mono ?_
    rintro e w2 ⟨⟨i, rfl, hi⟩, rfl⟩
    obtain ⟨r, hrk⟩ : ∃ r, rows[i]? = some r := ⟨_, List.getElem?_eq_getElem (by have := HL.out; omega)⟩
    have hin := HIN.out r (List.mem_of_getElem? hrk)
    have hi0 : (0 : Int) ≤ (i : Int) := by omega
    have hi1 : (i : Int) < (n : Int) := by omega
    have k4 : w1.cell? ⟨g, i * 6 + 4, none⟩ = some (.bool r.w) := by
      rw [show i * 6 + 4 = 6 * i + 4 by omega, HOWN.out.cellAt (6 * i + 4) (by omega), lall_at hrk 4 (by omega)]
      rfl
    have k1 : w1.cell? ⟨g, i * 6 + 1, none⟩ = some (.int .u64 (r.p : Nat)) := by
      rw [show i * 6 + 1 = 6 * i + 1 by omega, HOWN.out.cellAt (6 * i + 1) (by omega), lall_at hrk 1 (by omega)]
      rfl
    have z4 : w1.frozen? ⟨g, i * 6 + 4, none⟩ = false := HOWN.out.frozenAt _
    have z1 : w1.frozen? ⟨g, i * 6 + 1, none⟩ = false := HOWN.out.frozenAt _
    obtain ⟨v, p, q, bg, wt, ex⟩ := r
    simp only at k4 k1
    obtain ⟨X, hX⟩ : ∃ X, X = p ^^^ 4194304 := ⟨_, rfl⟩
    have e3 : bits .xor .u64 (p : Int) 4194304 = (X : Int) := by rw [hX]; exact u64_xor_nat p 4194304 hin.2.1 (by decide)
    have hXl : X < 18446744073709551616 := by rw [hX]; exact Nat.xor_lt_two_pow (n := 64) hin.2.1 (by decide)
    have HST : Hid (((w1.setCell ⟨g, i * 6 + 4, none⟩ (.bool !wt)).setCell ⟨g, i * 6 + 1, none⟩ (.int .u64 (X : Nat))).ownsRow w.heap.size 47 6 (.slice (some ⟨g, 0, none⟩) n c1) n (lall (rows.set i ⟨v, X, q, bg, !wt, ex⟩))) := Lib.hid (by
      have h1 := HOWN.out.stored (6 * i + 4) (.bool !wt)
      rw [lall_set1 hrk 4 (.bool !wt) ⟨v, p, q, bg, !wt, ex⟩ rfl (by omega)] at h1
      have hil : i < rows.length := (List.getElem?_eq_some_iff.1 hrk).1
      have h2 := h1.1.stored (6 * i + 1) (.int .u64 (X : Nat))
      rw [lall_set1 (r := ⟨v, p, q, bg, !wt, ex⟩) (List.getElem?_set_self hil) 1 (.int .u64 (X : Nat)) ⟨v, X, q, bg, !wt, ex⟩ rfl (by omega), List.set_set] at h2
      rw [show i * 6 + 4 = 6 * i + 4 by omega, show i * 6 + 1 = 6 * i + 1 by omega]
      exact h2.1)
    have HIN2 : Hid (∀ r ∈ rows.set i ⟨v, X, q, bg, !wt, ex⟩, r.In) := Lib.hid fun r h => by
      rcases List.mem_or_eq_of_mem_set h with h | rfl
      · exact HIN.out r h
      · exact ⟨hin.1, hXl, hin.2.2.1, hin.2.2.2⟩
    clear hX hin hrk HW e1 e2
    go_wp2_with fail
    go_ret
    refine ⟨_, c1, rows.set i ⟨v, X, q, bg, !wt, ex⟩, rfl, ⟨Reads.of_own HST.out, HIN2.out, by rw [List.length_set]; exact HL.out, by omega⟩, fun ad he => ?_, (HBW.out.setCell (p := ⟨g, i * 6 + 4, none⟩) hg1 _).setCell (p := ⟨g, i * 6 + 1, none⟩) hg1 _⟩
    injection he with he
    rw [← he]
    exact hg1
end Go.Proofs.Ytblfagmoilhdnaa

/- The walk of the law's asked. -/
set_option linter.unusedVariables false
set_option linter.unusedSimpArgs false
namespace Go.Proofs.Ytblfagmoilhdnaa
open Go.RowKit
theorem Pg.ansB_len (rows : List Pg.Lf) (base : Nat) : (Pg.ansB rows base).1.length ≤ 1024 := by
  unfold Pg.ansB
  simp only
  split
  · simp
  · split
    · simp
    · split
      · simp
      · rename_i h _ _
        exact (Pg.ans_len rows _ (by simpa using h)).2
theorem Pg.runs_in {rows : List Pg.Lf} : (∀ r ∈ Pg.runs rows, r.In) ∧ (Pg.runs rows).length ≤ 134217728 := by
  by_cases h : Pg.right 0 rows = 0
  · have hr := (Pg.runs_right h).1
    exact ⟨fun r hm => Pg.In_of (Pg.right_all hr r hm), by have := Pg.right_len hr (by omega); omega⟩
  · have : Pg.runs rows = [] := by unfold Pg.runs; rw [if_pos (by simpa using h)]
    rw [this]
    simp
/-- the mark behind the rows -/
def mk7 : Pg.Lf := ⟨0, 0, -7, false, false, false⟩
theorem neq_leaf (r : Pg.Lf) : BL.Neq (lcells r) := fun w => neqL w r
theorem neq_rows (rows : List Pg.Lf) : ∀ b ∈ rows.map lcells, BL.Neq b := by
  intro b h
  obtain ⟨r, _, rfl⟩ := List.mem_map.1 h
  exact neq_leaf r
theorem len_rows (rows : List Pg.Lf) : ∀ b ∈ rows.map lcells, b.length = 6 := by
  intro b h
  obtain ⟨r, _, rfl⟩ := List.mem_map.1 h
  exact lcells_len r
theorem flat_rows (rows : List Pg.Lf) : (rows.map lcells).flatten = rows.flatMap lcells := by rw [List.flatMap_def]
/-- the program's answers, kept as they are -/
structure Ask (w0 wx : World) (gT gL : Nat) (ST SL : List Nat) (P : Nat → Prop) (A : Option Addr) (n : Nat) (rows : List Pg.Lf) (gf : Nat) (Aw Ar : Option Addr) (lw : List (List Nat)) (lr : List Pg.Lf) : Prop where
  bks : Bks w0 wx gT gL ST SL P
  hrows : IsL wx wx.heap.size A n rows
  full : Row wx gf 47 (BL.fillR (rows.map lcells) (lcells mk7) 80).flatten
  want : HasT wx Aw lw
  runs : IsL wx wx.heap.size Ar lr.length lr
  pa : 0 < n → ∀ ad, A = some ad → P ad.block
  pf : P gf
  pw : ∀ ad, Aw = some ad → P ad.block
  pr : ∀ ad, Ar = some ad → P ad.block
section
variable {w0 wx : World} {gT gL n gf : Nat} {ST SL : List Nat} {P : Nat → Prop} {A Aw Ar : Option Addr} {rows lr : List Pg.Lf} {lw : List (List Nat)}
theorem Ask.below (h : Ask w0 wx gT gL ST SL P A n rows gf Aw Ar lw lr) {wy : World} (hb : Below wx.heap.size wx wy) : Ask w0 wy gT gL ST SL P A n rows gf Aw Ar lw lr :=
  ⟨h.bks.below hb, (h.hrows.below hb).more hb.size, h.full.below hb h.full.lt, h.want.below hb, (h.runs.below hb).more hb.size, h.pa, h.pf, h.pw, h.pr⟩
theorem HasT.chg {w w' : World} {A : Option Addr} {l : List (List Nat)} {T : List Nat} (h : HasT w A l) (hc : Chg T w w') (hA : ∀ ad, A = some ad → ad.block ∉ T) : HasT w' A l := by
  refine ⟨h.1, h.2.1, fun h0 => ?_⟩
  obtain ⟨g, rfl, h2, hr⟩ := h.2.2 h0
  refine ⟨g, rfl, Nat.lt_of_lt_of_le h2 hc.size, fun t ht j v hv => ?_⟩
  have hbl := hc.block g h2 (hA _ rfl)
  have := hr t ht j v hv
  unfold World.cell? at this ⊢
  rw [hbl]
  exact this
/-- what the books' writing leaves -/
theorem Ask.chg (h : Ask w0 wx gT gL ST SL P A n rows gf Aw Ar lw lr) {wy : World} {ST' SL' T : List Nat} (hb : Bks w0 wy gT gL ST' SL' P) (hc : Chg T wx wy) (hT : ∀ k, P k → k ∉ T) : Ask w0 wy gT gL ST' SL' P A n rows gf Aw Ar lw lr :=
  ⟨hb, h.hrows.chg hc fun h0 ad e => hT _ (h.pa h0 ad e), hc.row h.full (hT _ h.pf), h.want.chg hc fun ad e => hT _ (h.pw ad e), h.runs.chg hc fun _ ad e => hT _ (h.pr ad e), h.pa, h.pf, h.pw, h.pr⟩
end
theorem full_isL {w : World} {g n : Nat} {rows : List Pg.Lf} (h : Row w g 47 (BL.fillR (rows.map lcells) (lcells mk7) 80).flatten) (hl : rows.length = n) (hin : ∀ r ∈ rows, r.In) (hn : n ≤ 9223372036854775807) : IsL w w.heap.size (some ⟨g, 0, none⟩) n rows := by
  have := BL.fillR_reads (n := n) h (len_rows rows) (by rw [List.length_map]; exact hl) h.lt
  rw [flat_rows] at this
  exact ⟨this, hin, hl, hn⟩
theorem own_ad {w : World} {base n c size : Nat} {e : TypeId} {A : Option Addr} {xs : List Value} (h : w.ownsRow base e size (.slice A n c) n xs) : ∀ ad, A = some ad → base ≤ ad.block ∧ ad.block < w.heap.size := by
  intro ad he
  rcases h.2 with ⟨h1, _⟩ | ⟨g, cap, cur, h1, hg, hh, _⟩
  · injection h1 with h1; rw [h1] at he; cases he
  · injection h1 with h1
    rw [h1] at he
    injection he with he
    rw [← he]
    exact ⟨hg, Blk.lt hh⟩
set_option maxRecDepth 100000 in
set_option maxHeartbeats 4000000 in
theorem asked_any (w0 w : World) (gT gL : Nat) (ST SL : List Nat) (P : Nat → Prop) (A : Option Addr) (n c base : Nat) (rows : List Pg.Lf) (hB : Bks w0 w gT gL ST SL P) (hr : IsL w w.heap.size A n rows) (hP : 0 < n → ∀ ad, A = some ad → P ad.block) (hn : n ≤ 20000) (hbl : base < 18446744073709551616) :
    Calls Try.prog 20 #[.slice A n c, .int .u64 (base : Nat), .pointer (some ⟨gT, 0, none⟩), .pointer (some ⟨gL, 0, none⟩)] w fun e w' => e = .returned (.bool true) ∧ ∃ ST' SL', Bks w0 w' gT gL ST' SL' P := by
  have HR := Lib.hid hr
  have HBK := Lib.hid hB
  have HP := Lib.hid hP
  have HRO : Hid (Calls Try.prog 43 #[.slice A n c, .agg #[.int .u64 0, .int .u64 0, .int .i64 (-7), .bool false, .bool false, .bool false]] w fun e w' => e = .returned (.slice (some ⟨w.heap.size + 1, 0, none⟩) (n + 80) (n + 80)) ∧ Row w' (w.heap.size + 1) 47 (BL.fillR (rows.map lcells) (lcells mk7) 80).flatten ∧ Below w.heap.size w w') := Lib.hid (BL.roomy_any A n c (rows.map lcells) (lcells mk7) w (by rw [flat_rows]; exact hr.1) (len_rows rows) (by rw [flat_rows]; exact BL.oneE rows) rfl (oneCell_leaf _) (by rw [List.length_map]; exact hr.2.2.1) (by omega))
  have HC := Lib.hid (Pg.refC_ans rows 0)
  have HAN := Lib.hid (Pg.ansB_len rows base)
  have HRI := Lib.hid (Pg.runs_in (rows := rows))
  clear hr hB hP
  go_enter Try.func20, Try.ntmps20
  go_wp2_with (go_at_call 43; refine HRO.out.mono ?_; rintro e w1 ⟨rfl, hrow1, hb1⟩; have HROW1 := Lib.hid hrow1; have HB1 := Lib.hid hb1; clear hrow1 hb1)
  have HL := Lib.hid HR.out.2.2.1
  have HIN := Lib.hid HR.out.2.1
  have hn63 : n ≤ 9223372036854775807 := by omega
  have HBS := Lib.hid HB1.out.size
  obtain ⟨a0, ha0⟩ : ∃ a0, a0 = Pg.ans rows 0 := ⟨_, rfl⟩
  have HA0 := Lib.hid ha0
  have HC0 : Hid (Pg.refC rows = (a0.1.length, a0.2)) := Lib.hid (by rw [ha0]; exact HC.out)
  obtain ⟨X0, Y0⟩ := a0
  clear ha0 HC
  go_wp2_with fail
  refine (rcount_any A n c rows w1 ((HR.out.below HB1.out).more HB1.out.size)).mono ?_
  rintro e w2 ⟨rfl, hb2⟩
  rw [HC0.out]
  have HB2 := Lib.hid (HB1.out.trans (hb2.mono HB1.out.size))
  have HROW2 := Lib.hid (HROW1.out.below hb2 HROW1.out.lt)
  clear hb2 HB1 HROW1 HRO
  go_wp2_with fail
  refine (rbuild_any A n c base rows w2 ((HR.out.below HB2.out).more HB2.out.size) hbl).mono ?_
  rintro e w3 ⟨Aw, cw, rfl, hi3⟩
  obtain ⟨lf, hlf⟩ : ∃ lf, lf = Pg.ansB rows base := ⟨_, rfl⟩
  rw [← hlf] at hi3 HAN ⊢
  have HLF := Lib.hid hlf
  obtain ⟨lw, fw⟩ := lf
  have HIT := Lib.hid hi3
  have HB3 := Lib.hid (HB2.out.trans (hi3.2.2.mono HB2.out.size))
  have HROW3 := Lib.hid (HROW2.out.below hi3.2.2 HROW2.out.lt)
  have HB2S := Lib.hid HB2.out.size
  have HW3 := Lib.hid (hi3.has (by have := HAN.out; simp only at this ⊢; omega))
  have HAD3 : Hid (∀ ad, Aw = some ad → w.heap.size ≤ ad.block ∧ ad.block < w3.heap.size) := Lib.hid fun ad e => ⟨Nat.le_trans HB2S.out (own_ad hi3.1 ad e).1, (own_ad hi3.1 ad e).2⟩
  clear hi3 hlf HB2 HROW2
  unfold tansV
  go_wp2_with fail
  refine (rruns_any A n c rows w3 ((HR.out.below HB3.out).more HB3.out.size)).mono ?_
  rintro e w4 ⟨Ar, cr, rfl, ho4, hb4⟩
  obtain ⟨lr, hlr⟩ : ∃ lr, lr = Pg.runs rows := ⟨_, rfl⟩
  rw [← hlr] at ho4 HRI ⊢
  have HLR := Lib.hid hlr
  have hask : Ask w0 w4 gT gL ST SL (fun k => P k ∨ k = w.heap.size + 1 ∨ (∃ ad, Aw = some ad ∧ ad.block = k) ∨ (∃ ad, Ar = some ad ∧ ad.block = k)) A n rows (w.heap.size + 1) Aw Ar lw lr := by
    have hb34 := hb4
    have hw4 : Below w.heap.size w w4 := HB3.out.trans (hb4.mono HB3.out.size)
    refine ⟨(HBK.out.below hw4).more ?_, (HR.out.below hw4).more hw4.size, HROW3.out.below hb4 HROW3.out.lt, HW3.out.below hb4, ho4.isL HRI.out.1 (by have := HRI.out.2; omega), fun h0 ad e => .inl (HP.out h0 ad e), .inr (.inl rfl), fun ad e => .inr (.inr (.inl ⟨ad, e, rfl⟩)), fun ad e => .inr (.inr (.inr ⟨ad, e, rfl⟩))⟩
    have hfar : ∀ k, w.heap.size ≤ k → k < w4.heap.size → k < w4.heap.size ∧ k ∉ gT :: ST ∧ k ∉ gL :: SL := fun k h1 h2 => ⟨h2, fun h => by have := (HBK.out.old k (.inl h)).2; omega, fun h => by have := (HBK.out.old k (.inr h)).2; omega⟩
    rintro k (h | h | ⟨ad, h1, h2⟩ | ⟨ad, h1, h2⟩)
    · exact .inl h
    · rw [h]
      exact .inr (hfar _ (by omega) (Nat.lt_of_lt_of_le HROW3.out.lt hb4.size))
    · rw [← h2]
      have := HAD3.out ad h1
      exact .inr (hfar _ this.1 (Nat.lt_of_lt_of_le this.2 hb4.size))
    · rw [← h2]
      have := own_ad ho4 ad h1
      exact .inr (hfar _ (Nat.le_trans HB3.out.size this.1) this.2)
  have HASK := Lib.hid hask
  obtain ⟨gf, hgf⟩ : ∃ gf, gf = w.heap.size + 1 := ⟨_, rfl⟩
  obtain ⟨P', hP'⟩ : ∃ P' : Nat → Prop, P' = (fun k => P k ∨ k = w.heap.size + 1 ∨ (∃ ad, Aw = some ad ∧ ad.block = k) ∨ (∃ ad, Ar = some ad ∧ ad.block = k)) := ⟨_, rfl⟩
  rw [← hP', ← hgf] at HASK
  rw [← hgf]
  have HP' : Hid (∀ k, P k → P' k) := Lib.hid fun k h => by rw [hP']; exact .inl h
  clear hask hb4 ho4 hlr hP' hgf HROW3 HW3 HAD3 HB3 HIT HB2S HBK HP HR HBS
  go_wp2_with fail
  go_loopw [16] (fun i wx => ∃ (k : Nat), k ≤ 2 ∧ i = .int .i64 k ∧ Hid (∃ ST SL, Ask w0 wx gT gL ST SL P' A n rows gf Aw Ar lw lr)) (fun i _ => 2 - (intOf i).toNat)
  case atStart => exact ⟨0, by omega, rfl, Lib.hid ⟨ST, SL, HASK.out⟩⟩
  case round =>
    clear HASK
    obtain ⟨k, hk, rfl, HE⟩ := hrel
    obtain ⟨ST, SL, hask⟩ := HE.out
    have HK := Lib.hid hask
    clear hask HE
    by_cases hk2 : k < 2
    · have f1 : decide ((k : Int) < 2) = true := decide_eq_true (by omega)
      have HOLD : Hid (∀ x, x ∈ gT :: ST ∨ x ∈ gL :: SL → x < wr.heap.size) := Lib.hid fun x h => (HK.out.bks.old x h).2
      have HPR : Hid (∀ x, P' x → x < wr.heap.size) := Lib.hid fun x h => (HK.out.bks.prot x h).1
      have HW0 : Hid (w0.heap.size ≤ wr.heap.size) := Lib.hid HK.out.bks.bel.size
      have HCN := Lib.hid (count_any (some ⟨gf, 0, none⟩) n (n + 80) rows wr (full_isL HK.out.full HL.out HIN.out hn63))
      rw [← HA0.out] at HCN
      go_wp2_with fail
      refine HCN.out.mono ?_
      rintro e wa ⟨rfl, hba⟩
      have HKa := Lib.hid (HK.out.below hba)
      have HSA := Lib.hid hba.size
      clear hba HK HCN
      go_wp2_with fail
      refine (Build_any (some ⟨gf, 0, none⟩) n (n + 80) base rows wa (full_isL HKa.out.full HL.out HIN.out hn63) hbl).mono ?_
      rintro e wb ⟨A5, c5, rfl, hi5⟩
      rw [← HLF.out] at hi5 ⊢
      have HKb := Lib.hid (HKa.out.below hi5.2.2)
      have HSB := Lib.hid hi5.2.2.size
      have HO5 := Lib.hid hi5.1
      have HT5 := Lib.hid hi5.2.1
      have HI5 := Lib.hid (hi5.has (by have := HAN.out; simp only at this ⊢; omega))
      clear hi5 HKa
      unfold tansV
      go_wp2_with fail
      refine (Runs_any (some ⟨gf, 0, none⟩) n (n + 80) rows wb (full_isL HKb.out.full HL.out HIN.out hn63)).mono ?_
      rintro e wc ⟨A6, c6, rfl, ho6, hb6⟩
      rw [← HLR.out] at ho6 ⊢
      have HKc := Lib.hid (HKb.out.below hb6)
      have HO5c := Lib.hid (owns_below HO5.out hb6)
      have HI5c := Lib.hid (HI5.out.below hb6)
      have HO6 := Lib.hid ho6
      have HLT5 : Hid (∀ ad, A5 = some ad → ad.block < wb.heap.size) := Lib.hid fun ad e => (own_ad HO5.out ad e).2
      have HSC := Lib.hid hb6.size
      clear ho6 hb6 HKb HO5 HI5
      have HI6 := Lib.hid (OwnL.isL HO6.out HRI.out.1 (by have := HRI.out.2; omega))
      go_wp2_with fail
      refine (sameT_yes A5 Aw lw.length c5 cw lw wc rfl HI5c.out HKc.out.want).mono ?_
      rintro e wd' ⟨rfl, m7, rfl⟩
      have hd7 := below_drewN (Below.refl wc.heap.size wc) m7
      have HKd := Lib.hid (HKc.out.below hd7)
      have HO5d := Lib.hid (owns_below HO5c.out hd7)
      have HO6d : Hid (OwnL (wc.drewN m7) wb.heap.size A6 c6 lr) := Lib.hid (owns_below HO6.out hd7)
      have HI6d := Lib.hid ((HI6.out.below hd7).more hd7.size)
      have HSD : Hid (wc.heap.size ≤ (wc.drewN m7).heap.size) := Lib.hid hd7.size
      clear hd7 HKc HO5c HO6 HI6 HI5c
      generalize wc.drewN m7 = wd at *
      go_wp2_with fail
      refine (sameL_yes A6 Ar lr.length c6 cr lr wd HI6d.out HKd.out.runs).mono ?_
      rintro e we' ⟨rfl, m8, rfl⟩
      have hd8 := below_drewN (Below.refl wd.heap.size wd) m8
      have HKe := Lib.hid (HKd.out.below hd8)
      have HO5e := Lib.hid (owns_below HO5d.out hd8)
      have HO6e : Hid (OwnL (wd.drewN m8) wb.heap.size A6 c6 lr) := Lib.hid (owns_below HO6d.out hd8)
      have HSE : Hid (wd.heap.size ≤ (wd.drewN m8).heap.size) := Lib.hid hd8.size
      clear hd8 HKd HO5d HO6d HI6d
      generalize wd.drewN m8 = we at *
      have HIN7 : Hid (Calls Try.prog 46 #[.slice (some ⟨gf, 0, none⟩) (n + 80) (n + 80), .slice A n c, .agg #[.int .u64 0, .int .u64 0, .int .i64 (-7), .bool false, .bool false, .bool false]] we fun e w' => e = .returned (.bool true) ∧ Below we.heap.size we w') := Lib.hid (BL.intact_yes A n c gf (rows.map lcells) (lcells mk7) we (by rw [flat_rows]; exact HKe.out.hrows.1) HKe.out.full (len_rows rows) (neq_rows rows) rfl (neq_leaf _) (by rw [List.length_map]; exact HL.out) (by omega))
      go_wp2_with fail
      refine HIN7.out.mono ?_
      rintro e wf ⟨rfl, hbf⟩
      have HKf := Lib.hid (HKe.out.below hbf)
      have HO5f := Lib.hid (owns_below HO5e.out hbf)
      have HO6f : Hid (OwnL wf wb.heap.size A6 c6 lr) := Lib.hid (owns_below HO6e.out hbf)
      have HSF := Lib.hid hbf.size
      clear hbf HKe HO5e HO6e HIN7
      have hsz : wr.heap.size ≤ wa.heap.size ∧ wa.heap.size ≤ wb.heap.size ∧ wb.heap.size ≤ wf.heap.size := ⟨HSA.out, HSB.out, by have := HSC.out; have := HSD.out; have := HSE.out; have := HSF.out; omega⟩
      obtain ⟨cT, hbT⟩ := HKf.out.bks.bt
      have HKT := Lib.hid (BT.keep_any gT 0 _ cT ST A5 lw.length c5 lw wf hbT ⟨own_mono HO5f.out (Nat.zero_le _), HT5.out, by have h9 : lw.length ≤ 1024 := HAN.out; omega⟩ (by have h9 : lw.length ≤ 1024 := HAN.out; omega) (fun x hx => by
        have h1 := (HO5f.out.lt x hx).1
        refine ⟨fun h => ?_, fun h => ?_⟩
        · have := HOLD.out x (.inl (by simp [h])); omega
        · have := HOLD.out gT (.inl (by simp)); omega))
      have HSZ := Lib.hid hsz
      clear hbT hsz
      go_wp2_with fail
      refine HKT.out.mono ?_
      rintro e wg ⟨rfl, cT', ST', hbT', hcT, hsT, _⟩
      have hlT : ∀ x, (Value.slice A5 lw.length c5).ownBlock = some x → wa.heap.size ≤ x ∧ x < wb.heap.size := by
        intro x hx
        refine ⟨(HO5f.out.lt x hx).1, ?_⟩
        have : A5 = some ⟨x, 0, none⟩ := by
          rcases HO5f.out.2 with ⟨h, _⟩ | ⟨g, cap, cur, h, _⟩
          · rw [h] at hx; simp [Value.ownBlock] at hx
          · rw [h] at hx
            simp [Value.ownBlock] at hx
            injection h with h
            rw [h, hx]
        exact HLT5.out _ this
      have hbk := HKf.out.bks.keepT hbT' hcT hsT (fun x hx => by
        obtain ⟨h1, h2⟩ := hlT x hx
        have hz := HSZ.out
        have hw0 := HW0.out
        refine ⟨by omega, by omega, fun h => ?_, fun h => ?_⟩
        · have := HOLD.out x (.inr h); omega
        · have := HPR.out x h; omega)
      have HKg := Lib.hid (HKf.out.chg hbk hcT (fun x hx hm => by
        have := (HKf.out.bks.prot x hx).2.1
        exact this hm))
      have hn6 : ∀ x, (Value.slice A6 lr.length c6).ownBlock = some x → wb.heap.size ≤ x ∧ x < wf.heap.size := fun x hx => (World.ownsRow.lt HO6f.out x hx)
      have HO6g : Hid (OwnL wg wb.heap.size A6 c6 lr) := Lib.hid (owns_chg HO6f.out hcT (fun x hx hm => by
        have h1 := (hn6 x hx).1
        have := HOLD.out x (.inl hm)
        have := HSZ.out
        omega))
      have HNO : Hid (∀ x, (Value.slice A6 lr.length c6).ownBlock = some x → wb.heap.size ≤ x ∧ x < wf.heap.size ∧ x ∉ gT :: ST') := Lib.hid fun x hx => by
        obtain ⟨h1, h2⟩ := hn6 x hx
        have hz := HSZ.out
        refine ⟨h1, h2, fun hm => ?_⟩
        rcases List.mem_cons.1 hm with h | h
        · have := HOLD.out gT (.inl (by simp)); omega
        · rcases hsT x h with h | h | h
          · have := HOLD.out x (.inl (by simp [h])); omega
          · omega
          · have := (hlT x h).2; omega
      have HSG := Lib.hid hcT.size
      clear hbT' hcT hsT hlT hbk hn6 HKf HKT HO5f HO6f
      obtain ⟨cL, hbL⟩ := HKg.out.bks.bl
      have HKL := Lib.hid (BL.keep_any gL 0 _ cL SL A6 lr.length c6 lr wg hbL ⟨own_mono HO6g.out (Nat.zero_le _), HRI.out.1, by have := HRI.out.2; omega⟩ (by have := HRI.out.2; omega) (fun x hx => by
        have h1 := (HNO.out x hx).1
        have hz := HSZ.out
        refine ⟨fun h => ?_, fun h => ?_⟩
        · have := HOLD.out x (.inr (by simp [h])); omega
        · have := HOLD.out gL (.inr (by simp)); omega))
      clear hbL
      go_wp2_with fail
      refine HKL.out.mono ?_
      rintro e wh ⟨rfl, cL', SL', hbL', hcL, hsL, _⟩
      have hbk := HKg.out.bks.keepL hbL' hcL hsL (fun x hx => by
        obtain ⟨h1, h2, h3⟩ := HNO.out x hx
        have hz := HSZ.out
        have hw0 := HW0.out
        have hsg := HSG.out
        refine ⟨by omega, by omega, h3, fun h => ?_⟩
        have := HPR.out x h; omega)
      have HKh := Lib.hid (HKg.out.chg hbk hcL (fun x hx hm => by
        have := (HKg.out.bks.prot x hx).2.2
        exact this hm))
      clear hbL' hcL hsL hbk HKg HKL
      go_wp2_with fail
      go_roundw
      case rel => exact ⟨k + 1, by omega, by go_num, Lib.hid ⟨ST', SL', HKh.out⟩⟩
      case measure => simp [intOf]; omega
    · have f1 : decide ((k : Int) < 2) = false := decide_eq_false (by omega)
      go_wp2_with fail
      go_ret
      exact ⟨rfl, ST, SL, HK.out.bks.more fun k h => .inl (HP'.out k h)⟩
end Go.Proofs.Ytblfagmoilhdnaa

/- The walk of PagesBuilds. -/
set_option linter.unusedVariables false
set_option linter.unusedSimpArgs false
namespace Go.Proofs.Ytblfagmoilhdnaa
open Go.RowKit
def bookN : List Value := [.slice none 0 0, .slice none 0 0, .int .i64 0, .bool false]
theorem bkT_zero (w : World) : BT.Bk (w.alloc (.cells bookN.toArray 55)) w.heap.size 0 55 bookN [] :=
  ⟨Row.new w _ _, ⟨by decide, by decide⟩, by simp, [], .slice none 0 0, .slice none 0 0, 0, [], [], rfl, rfl, rfl, rfl, by simp, ⟨Tl.nil_ _ _, Tl.nil_ _ _, by simp, by simp, by simp, by simp, by simp, by simp⟩⟩
theorem bkL_zero (w : World) : BL.Bk (w.alloc (.cells bookN.toArray 59)) w.heap.size 0 59 bookN [] :=
  ⟨Row.new w _ _, ⟨by decide, by decide⟩, by simp, [], .slice none 0 0, .slice none 0 0, 0, [], [], rfl, rfl, rfl, rfl, by simp, ⟨Tl.nil_ _ _, Tl.nil_ _ _, by simp, by simp, by simp, by simp, by simp, by simp⟩⟩
/-- the row of the closed question -/
def row2 : Pg.Lf := ⟨12288, 32768, 2, false, true, false⟩
theorem bks_zero (w : World) : Bks w (((w.alloc (.cells bookN.toArray 55)).alloc (.cells bookN.toArray 59)).alloc (.cells (lcells row2).toArray 47)) w.heap.size (w.heap.size + 1) [] [] (fun k => k < w.heap.size ∨ k = w.heap.size + 2) := by
  have h1 := bkT_zero w
  have h2 := bkL_zero (w.alloc (.cells bookN.toArray 55))
  rw [show (w.alloc (.cells bookN.toArray 55)).heap.size = w.heap.size + 1 by simp] at h2
  have hc := (Chg.refl [] (w.alloc (.cells bookN.toArray 55))).alloc (.cells bookN.toArray 59)
  have hd := (Chg.refl [] ((w.alloc (.cells bookN.toArray 55)).alloc (.cells bookN.toArray 59))).alloc (.cells (lcells row2).toArray 47)
  refine ⟨⟨_, (h1.chg hc (by simp) (by simp)).chg hd (by simp) (by simp)⟩, ⟨_, h2.chg hd (by simp) (by simp)⟩, by simp, ?_, (((Below.refl _ _).alloc (Nat.le_refl _) _).alloc (by simp) _).alloc (by simp; omega) _, ?_⟩
  · intro k hk
    simp
    omega
  · intro k hk
    simp at hk ⊢
    omega
set_option maxRecDepth 100000 in
set_option maxHeartbeats 4000000 in
theorem pagesbuilds_walk (A : Option Addr) (n c base : Nat) (at_ : Int) (rows : List Pg.Lf) (w : World) (hr : IsL w w.heap.size A n rows) (hbl : base < 18446744073709551616) (hat : -9223372036854775808 ≤ at_ ∧ at_ ≤ 9223372036854775807) :
    Calls Try.prog 5 #[.slice A n c, .int .u64 (base : Nat), .int .i64 at_] w fun e w' => e = .returned (.bool true) ∧ Below w.heap.size w w' := by
  have HR := Lib.hid hr
  have hn63 := hr.2.2.2
  obtain ⟨w3, hw3⟩ : ∃ w3, w3 = (((w.alloc (.cells bookN.toArray 55)).alloc (.cells bookN.toArray 59)).alloc (.cells (lcells row2).toArray 47)) := ⟨_, rfl⟩
  have HB0 : Hid (Bks w w3 w.heap.size (w.heap.size + 1) [] [] (fun k => k < w.heap.size ∨ k = w.heap.size + 2)) := Lib.hid (by rw [hw3]; exact bks_zero w)
  have HAK : Hid (Calls Try.prog 20 #[.slice (some ⟨w.heap.size + 2, 0, none⟩) 1 1, .int .u64 65536, .pointer (some ⟨w.heap.size, 0, none⟩), .pointer (some ⟨w.heap.size + 1, 0, none⟩)] w3 fun e w' => e = .returned (.bool true) ∧ ∃ ST' SL', Bks w w' w.heap.size (w.heap.size + 1) ST' SL' (fun k => k < w.heap.size ∨ k = w.heap.size + 2)) := Lib.hid (by
    have hi := isL_one ((w.alloc (.cells bookN.toArray 55)).alloc (.cells bookN.toArray 59)) row2 (by unfold Pg.Lf.In row2; decide)
    rw [show ((w.alloc (.cells bookN.toArray 55)).alloc (.cells bookN.toArray 59)).heap.size = w.heap.size + 2 by simp, ← hw3] at hi
    exact asked_any w w3 _ _ _ _ _ _ 1 1 65536 [row2] HB0.out hi (fun _ ad e => by injection e with e; rw [← e]; exact .inr rfl) (by omega) (by decide))
  have hw3' : ((w.alloc (.cells #[.slice none 0 0, .slice none 0 0, .int .i64 0, .bool false] 55)).alloc (.cells #[.slice none 0 0, .slice none 0 0, .int .i64 0, .bool false] 59)).alloc (.cells #[.int .u64 12288, .int .u64 32768, .int .i64 2, .bool false, .bool true, .bool false] 47) = w3 := hw3.symm
  clear hr hw3
  go_enter Try.func5, Try.ntmps5
  have HW3 := Lib.hid hw3'
  clear hw3'
  go_wp2_with fail
  rw [HW3.out]
  refine HAK.out.mono ?_
  rintro e w4 ⟨rfl, ST4, SL4, hb4⟩
  have HB4 : Hid (Bks w w4 w.heap.size (w.heap.size + 1) ST4 SL4 (fun k => k < w.heap.size)) := Lib.hid (hb4.more fun k h => .inl (.inl h))
  clear HB0 HAK HW3 hb4
  go_upto_region 5 with fail
  have hrw := (HR.out.below HB4.out.bel).more HB4.out.bel.size
  have HRW := Lib.hid hrw
  clear hrw
  go_cut [31] (fun x wx => ∃ b : Bool, x = .bool b ∧ Hid (Below w4.heap.size w4 wx ∧ (b = false → n ≤ 20000)))
  case first =>
    by_cases hn2 : 20000 < n
    · have f1 : decide ((20000 : Int) < (n : Int)) = true := decide_eq_true (by omega)
      go_wp2_with fail
      go_meet
      case rel => exact ⟨true, rfl, Lib.hid ⟨Below.refl _ _, by simp⟩⟩
    · have f1 : decide ((20000 : Int) < (n : Int)) = false := decide_eq_false (by omega)
      go_wp2_with fail
      refine (refuses_any A n c rows w4 HRW.out).mono ?_
      rintro e w5 ⟨rfl, hb5⟩
      have HB5 := Lib.hid hb5
      clear hb5
      obtain ⟨R, hR⟩ : ∃ R, R = Pg.right 0 rows := ⟨_, rfl⟩
      rw [← hR]
      by_cases h0 : R = 0
      · have g1 : ((R : Int) == 0) = true := by simp; omega
        have HR0 : Hid (Pg.right 0 rows = 0) := Lib.hid (by rw [← hR]; exact h0)
        clear h0 hR
        go_wp2_with fail
        refine (few_some A n c rows w5 ((HRW.out.below HB5.out).more HB5.out.size) HR0.out).mono ?_
        rintro e w6 ⟨⟨b, rfl⟩, rfl⟩
        cases b
        · go_wp2_with fail
          go_meet
          case rel => exact ⟨true, rfl, Lib.hid ⟨HB5.out, by simp⟩⟩
        · go_wp2_with fail
          go_meet
          case rel => exact ⟨false, rfl, Lib.hid ⟨HB5.out, fun _ => by omega⟩⟩
      · have g1 : ((R : Int) == 0) = false := by simp; omega
        clear h0 hR
        go_wp2_with fail
        go_meet
        case rel => exact ⟨false, rfl, Lib.hid ⟨HB5.out, fun _ => by omega⟩⟩
  case rest =>
    obtain ⟨b, rfl, HC⟩ := hcut
    have HB5 := Lib.hid (HB4.out.below HC.out.1)
    cases b with
    | true =>
      go_wp2_with fail
      go_ret
      exact ⟨rfl, HB5.out.bel⟩
    | false =>
      have hn2 : n ≤ 20000 := HC.out.2 rfl
      clear HC HB4 HRW
      go_wp2_with fail
      refine (asked_any w wc _ _ _ _ _ A n c base rows HB5.out ((HR.out.below HB5.out.bel).more HB5.out.bel.size) (fun h0 ad e => by
        obtain ⟨ad', e', h, _⟩ := HR.out.1.2 h0
        rw [e] at e'
        injection e' with e'
        subst e'
        exact h) hn2 hbl).mono ?_
      rintro e w6 ⟨rfl, ST6, SL6, hb6⟩
      have HB6 := Lib.hid hb6
      clear HB5 hb6
      go_wp2_with fail
      refine (other_any A n c at_ rows w6 ((HR.out.below HB6.out.bel).more HB6.out.bel.size) hn2 hat).mono ?_
      rintro e w7 ⟨A7, c7, rows7, rfl, hi7, ha7, hb7⟩
      have HB7 : Hid (Bks w w7 w.heap.size (w.heap.size + 1) ST6 SL6 (fun k => k < w.heap.size ∨ (0 < n ∧ ∃ ad, A7 = some ad ∧ ad.block = k))) := Lib.hid ((HB6.out.below hb7).more (by
        rintro k (h | ⟨h0, ad, h1, h2⟩)
        · exact .inl h
        · obtain ⟨ad', e', h, _⟩ := hi7.1.2 h0
          rw [h1] at e'
          injection e' with e'
          subst e'
          have hge := ha7 ad h1
          rw [← h2]
          exact .inr ⟨h, fun hm => by have := (HB6.out.old _ (.inl hm)).2; omega, fun hm => by have := (HB6.out.old _ (.inr hm)).2; omega⟩))
      have HI7 := Lib.hid hi7
      clear hi7 ha7 hb7 HB6
      go_wp2_with fail
      refine (asked_any w w7 _ _ _ _ _ A7 n c7 base rows7 HB7.out HI7.out (fun h0 ad e => .inr ⟨h0, ad, e, rfl⟩) hn2 hbl).mono ?_
      rintro e w8 ⟨rfl, ST8, SL8, hb8⟩
      have HB8 : Hid (Bks w w8 w.heap.size (w.heap.size + 1) ST8 SL8 (fun k => k < w.heap.size)) := Lib.hid (hb8.more fun k h => .inl (.inl h))
      clear hb8 HB7 HI7
      go_wp2_with fail
      refine (asked_any w w8 _ _ _ _ _ A n c base rows HB8.out ((HR.out.below HB8.out.bel).more HB8.out.bel.size) (fun h0 ad e => by
        obtain ⟨ad', e', h, _⟩ := HR.out.1.2 h0
        rw [e] at e'
        injection e' with e'
        subst e'
        exact h) hn2 hbl).mono ?_
      rintro e w9 ⟨rfl, ST9, SL9, hb9⟩
      have HB9 := Lib.hid hb9
      clear hb9 HB8
      obtain ⟨cT, hbT⟩ := HB9.out.bt
      have HAT := Lib.hid (BT.apart_any _ 0 _ cT ST9 w9 hbT)
      clear hbT
      go_wp2_with fail
      refine HAT.out.mono ?_
      rintro e wa ⟨rfl, hca⟩
      obtain ⟨cL, hbL⟩ := HB9.out.bl
      have HAL := Lib.hid (BL.apart_any _ 0 _ cL SL9 wa (hbL.chg hca (fun k hk hm => HB9.out.dis k hm (by simp [hk])) (fun hm => HB9.out.dis _ hm (by simp))))
      have HCA := Lib.hid hca
      clear hbL hca HAT
      go_wp2_with fail
      refine HAL.out.mono ?_
      rintro e wb ⟨rfl, hcb⟩
      have HCB := Lib.hid hcb
      clear hcb HAL
      go_wp2_with fail
      go_ret
      refine ⟨rfl, ?_⟩
      have h1 := below_chg HB9.out.bel (Nat.le_refl _) HCA.out (fun x hx => (HB9.out.old x (.inl hx)).1)
      exact below_chg h1 (Nat.le_refl _) HCB.out (fun x hx => (HB9.out.old x (.inr hx)).1)
end Go.Proofs.Ytblfagmoilhdnaa

/- Arguments that are structs by value or slices of structs, opened (the guide's page extra-structs, turned to this seat). -/
set_option linter.unusedVariables false
set_option linter.unusedSimpArgs false
namespace Go.Proofs.Ytblfagmoilhdnaa
open Go.Joins Go.ChangeShapes Go.WideShapes Go.RowKit Go.Deep
section
variable {H : Type} {enc : TypeId × Value → H} {P : Program} {w : World} {base : Nat} {spare : Nat → Bool} {held : Bool}
theorem open_slice_fields {t e : TypeId} {fs : Array Field} {fuel : Nat} {cs : List Value} {x : DataW H × List MemPlace} (ht : P.underlying t = some (.slice e)) (he : P.underlying e = some (.struct fs))
    (hone : oneCellFields P fs = true) (hC : P.cellsOf e = fs.size) (h : DataW.trod enc P w base spare held fuel t cs = some x) :
    (cs = [.slice none 0 0] ∧ x = (.nil, [])) ∨
    ∃ (a : Addr) (len cap m : Nat) (D : Nat → DataW H) (Pl : Nat → List MemPlace), cs = [.slice (some a) len cap] ∧ base ≤ a.block ∧ len ≤ cap ∧ cap ≤ maxLen ∧ m = (if spare a.block then cap else len) ∧
      x = (.slice ((List.range len).map D) ((List.range (m - len)).map fun j => D (len + j)), MemPlace.row a (m * fs.size) ++ (List.range m).flatMap Pl) ∧
      ∀ i, i < m → ∃ (ys : List (DataW H × List MemPlace)) (n : Nat), D i = .agg (ys.map (·.1)) ∧ Pl i = ys.flatMap (·.2) ∧ ys.length = fs.size ∧
        ∀ (j : Nat) (f : Field), fs[j]? = some f → ∃ (v : Value) (y : DataW H × List MemPlace), w.cell? (a.add (i * fs.size + j)) = some v ∧ ys[j]? = some y ∧ DataW.trod enc P w base spare held n f.type [v] = some y := by
  rcases open_slice ht h with h0 | ⟨a, len, cap, m, n, D, Pl, hcs, hb, hl, hm, hmm, hx, hi⟩
  · exact .inl h0
  · refine .inr ⟨a, len, cap, m, D, Pl, hcs, hb, hl, hm, hmm, by rw [hC] at hx; exact hx, fun i him => ?_⟩
    obtain ⟨cs', hc, ht'⟩ := hi i him
    rw [hC] at hc
    obtain ⟨ys, n', hn', hy, hlen, hyl, hf⟩ := DataW.trod_struct he ht'
    obtain ⟨_, hcl, hat⟩ := World.cells?_some hc
    simp only [Prod.mk.injEq] at hy
    refine ⟨ys, n', hy.1, hy.2, hyl, fun j f hj => ?_⟩
    obtain ⟨ho, hk⟩ := hone_of hone j f hj
    have hjl : j < fs.size := (Array.getElem?_eq_some_iff.1 hj).1
    have hcell := hat j hjl
    have hv : cs'[j]? = some (cs'[j]'(by omega)) := List.getElem?_eq_getElem (by omega)
    have h1 := hf j f hj
    rw [ho, hk] at h1
    have hone' : (cs'.drop j).take 1 = [cs'[j]'(by omega)] := by
      rw [List.drop_eq_getElem_cons (by omega)]
      rfl
    rw [hone'] at h1
    have hys : ys[j]? = some (ys[j]'(by omega)) := List.getElem?_eq_getElem (by omega)
    refine ⟨_, _, ?_, hys, h1.trans hys⟩
    rw [← Go.Deep.add_add, hcell, hv]
end

section
variable {H : Type} {enc : TypeId × Value → H} {P : Program} {w : World} {base : Nat} {spare : Nat → Bool} {held : Bool}
theorem open_agg5 {r : Reach} {b0 : Nat} {t : TypeId} {f0 f1 f2 f3 f4 : Field} {v : Value} {d : DataW H} {p : List MemPlace} (hs : P.underlying t = some (.struct #[f0, f1, f2, f3, f4])) (hone : oneCellFields P #[f0, f1, f2, f3, f4] = true) (hC : P.cellsOf t = 5)
    (hv : Value.okWide P w r b0 t v) (h : DataW.Trod enc P w base spare held t v d p) :
    ∃ (v0 v1 v2 v3 v4 : Value) (y0 y1 y2 y3 y4 : DataW H × List MemPlace) (n : Nat), v = .agg #[v0, v1, v2, v3, v4] ∧ d = .agg [y0.1, y1.1, y2.1, y3.1, y4.1] ∧ p = y0.2 ++ (y1.2 ++ (y2.2 ++ (y3.2 ++ y4.2))) ∧
      DataW.trod enc P w base spare held n f0.type [v0] = some y0 ∧ DataW.trod enc P w base spare held n f1.type [v1] = some y1 ∧ DataW.trod enc P w base spare held n f2.type [v2] = some y2 ∧ DataW.trod enc P w base spare held n f3.type [v3] = some y3 ∧ DataW.trod enc P w base spare held n f4.type [v4] = some y4 := by
  obtain ⟨cs, rfl, hsz⟩ := okWide_struct hs hv
  obtain ⟨l⟩ := cs
  match l, hsz.trans hC with
  | [c0, c1, c2, c3, c4], _ =>
    obtain ⟨fuel, hf⟩ := h
    obtain ⟨xs, n, _, hx, _, hlen, hg⟩ := DataW.trod_struct hs hf
    obtain ⟨o0, k0⟩ := hone_of hone 0 f0 rfl
    obtain ⟨o1, k1⟩ := hone_of hone 1 f1 rfl
    obtain ⟨o2, k2⟩ := hone_of hone 2 f2 rfl
    obtain ⟨o3, k3⟩ := hone_of hone 3 f3 rfl
    obtain ⟨o4, k4⟩ := hone_of hone 4 f4 rfl
    match xs, hlen with
    | [y0, y1, y2, y3, y4], _ =>
      simp only [Prod.mk.injEq] at hx
      exact ⟨c0, c1, c2, c3, c4, y0, y1, y2, y3, y4, n, rfl, by simpa using hx.1, by simpa using hx.2, by simpa [Value.cells, o0, k0] using hg 0 f0 rfl, by simpa [Value.cells, o1, k1] using hg 1 f1 rfl, by simpa [Value.cells, o2, k2] using hg 2 f2 rfl, by simpa [Value.cells, o3, k3] using hg 3 f3 rfl, by simpa [Value.cells, o4, k4] using hg 4 f4 rfl⟩

theorem open_agg6 {r : Reach} {b0 : Nat} {t : TypeId} {f0 f1 f2 f3 f4 f5 : Field} {v : Value} {d : DataW H} {p : List MemPlace} (hs : P.underlying t = some (.struct #[f0, f1, f2, f3, f4, f5])) (hone : oneCellFields P #[f0, f1, f2, f3, f4, f5] = true) (hC : P.cellsOf t = 6)
    (hv : Value.okWide P w r b0 t v) (h : DataW.Trod enc P w base spare held t v d p) :
    ∃ (v0 v1 v2 v3 v4 v5 : Value) (y0 y1 y2 y3 y4 y5 : DataW H × List MemPlace) (n : Nat), v = .agg #[v0, v1, v2, v3, v4, v5] ∧ d = .agg [y0.1, y1.1, y2.1, y3.1, y4.1, y5.1] ∧ p = y0.2 ++ (y1.2 ++ (y2.2 ++ (y3.2 ++ (y4.2 ++ y5.2)))) ∧
      DataW.trod enc P w base spare held n f0.type [v0] = some y0 ∧ DataW.trod enc P w base spare held n f1.type [v1] = some y1 ∧ DataW.trod enc P w base spare held n f2.type [v2] = some y2 ∧ DataW.trod enc P w base spare held n f3.type [v3] = some y3 ∧ DataW.trod enc P w base spare held n f4.type [v4] = some y4 ∧ DataW.trod enc P w base spare held n f5.type [v5] = some y5 := by
  obtain ⟨cs, rfl, hsz⟩ := okWide_struct hs hv
  obtain ⟨l⟩ := cs
  match l, hsz.trans hC with
  | [c0, c1, c2, c3, c4, c5], _ =>
    obtain ⟨fuel, hf⟩ := h
    obtain ⟨xs, n, _, hx, _, hlen, hg⟩ := DataW.trod_struct hs hf
    obtain ⟨o0, k0⟩ := hone_of hone 0 f0 rfl
    obtain ⟨o1, k1⟩ := hone_of hone 1 f1 rfl
    obtain ⟨o2, k2⟩ := hone_of hone 2 f2 rfl
    obtain ⟨o3, k3⟩ := hone_of hone 3 f3 rfl
    obtain ⟨o4, k4⟩ := hone_of hone 4 f4 rfl
    obtain ⟨o5, k5⟩ := hone_of hone 5 f5 rfl
    match xs, hlen with
    | [y0, y1, y2, y3, y4, y5], _ =>
      simp only [Prod.mk.injEq] at hx
      exact ⟨c0, c1, c2, c3, c4, c5, y0, y1, y2, y3, y4, y5, n, rfl, by simpa using hx.1, by simpa using hx.2, by simpa [Value.cells, o0, k0] using hg 0 f0 rfl, by simpa [Value.cells, o1, k1] using hg 1 f1 rfl, by simpa [Value.cells, o2, k2] using hg 2 f2 rfl, by simpa [Value.cells, o3, k3] using hg 3 f3 rfl, by simpa [Value.cells, o4, k4] using hg 4 f4 rfl, by simpa [Value.cells, o5, k5] using hg 5 f5 rfl⟩
end

end Go.Proofs.Ytblfagmoilhdnaa

/- An argument that is a slice of bytes: opened to its bytes. -/
set_option linter.unusedVariables false
set_option linter.unusedSimpArgs false
namespace Go.Proofs.Ytblfagmoilhdnaa
open Go.Joins Go.ChangeShapes Go.WideShapes Go.RowKit Go.Deep
theorem list_of {α : Type} {P : Nat → α → Prop} : ∀ n, (∀ i, i < n → ∃ x, P i x) → ∃ l : List α, l.length = n ∧ ∀ (i : Nat) (x : α), l[i]? = some x → P i x
  | 0, _ => ⟨[], rfl, fun i x h => by simp at h⟩
  | n + 1, h => by
    obtain ⟨l, hl, hp⟩ := list_of n (fun i hi => h i (by omega))
    obtain ⟨x, hx⟩ := h n (by omega)
    refine ⟨l ++ [x], by simp [hl], fun i y hy => ?_⟩
    by_cases hi : i < l.length
    · rw [List.getElem?_append_left hi] at hy
      exact hp i y hy
    · have hlt := (List.getElem?_eq_some_iff.1 hy).1
      simp at hlt
      have : i = n := by omega
      subst this
      rw [List.getElem?_append_right (by omega)] at hy
      simp [hl] at hy
      subst hy
      exact hx
section
variable {H : Type} {enc : TypeId × Value → H} {w : World} {base : Nat} {spare : Nat → Bool} {held : Bool}
theorem trod_row {fuel : Nat} {v : Value} {y : DataW H × List MemPlace} (h : DataW.trod enc Try.prog w base spare held fuel 25 [v] = some y) : ∃ A l c, v = .slice A l c ∧ ∃ bs, IsB w w.heap.size A l bs ∧ (A = none → c = 0) := by
  rcases DataW.trod_slice Try.underlying25 h with ⟨hcs, _⟩ | ⟨a, len, cap, elems, rest, n, _, hcs, rfl, hb, hl, hm, hlen, hel, hsp, hns⟩
  · simp at hcs
    subst hcs
    exact ⟨none, 0, 0, rfl, [], ⟨Reads.none_, by simp, by omega⟩, fun _ => rfl⟩
  · simp at hcs
    subst hcs
    rcases open_slice Try.underlying25 h with ⟨h0, _⟩ | ⟨a', len', cap', m, n', D, Pl, hcs, hb, hl, hm, hmm, hx, hi⟩
    · simp at h0
    · simp at hcs
      obtain ⟨rfl, rfl, rfl⟩ := hcs
      refine ⟨some a, len, cap, rfl, ?_⟩
      have hle : len ≤ m := by rw [hmm]; split <;> omega
      have hc1 : Try.prog.cellsOf 5 = 1 := by kernel_rfl
      obtain ⟨bs, hbl, hbs⟩ := list_of (P := fun i b => w.cell? (a.add i) = some (u8 b) ∧ b < 256) len (fun i hil => by
        obtain ⟨cs', h1, h2⟩ := hi i (by omega)
        rw [hc1, Nat.mul_one] at h1
        obtain ⟨z, rfl, _, hw⟩ := DataW.trod_int (k := .u8) Try.underlying5 h2
        obtain ⟨_, _, hat⟩ := World.cells?_some h1
        obtain ⟨s, rfl, hs⟩ := nat_of_u8 hw
        have := hat 0 (by omega)
        rw [add_of_add, Nat.add_zero] at this
        exact ⟨s, by rw [this]; rfl, hs⟩)
      refine ⟨bs, ⟨⟨by simp [hbl], fun h0 => ⟨a, rfl, ?_, fun j u hu => ?_⟩⟩, fun b hb' => ?_, by unfold maxLen at hm; omega⟩, fun h => by cases h⟩
      · have h2 := (hbs 0 _ (List.getElem?_eq_getElem (by omega))).1
        have := World.block_lt_of_cell? w _ h2
        rwa [block_of_add] at this
      · rw [List.getElem?_map] at hu
        obtain ⟨b, hb1, rfl⟩ := Option.map_eq_some_iff.1 hu
        exact (hbs j b hb1).1
      · obtain ⟨i, hi1, rfl⟩ := List.mem_iff_getElem.1 hb'
        exact (hbs i _ (List.getElem?_eq_getElem hi1)).2
set_option maxRecDepth 100000 in
theorem trod_le {fuel : Nat} {A : Option Addr} {l c : Nat} {y : DataW H × List MemPlace} (h : DataW.trod enc Try.prog w base spare held fuel 25 [.slice A l c] = some y) : l ≤ c := by
  rcases DataW.trod_slice Try.underlying25 h with ⟨hcs, _⟩ | ⟨a, len, cap, elems, rest, n, _, hcs, rfl, hb, hl, hm, hlen, hel, hsp, hns⟩
  · simp at hcs; omega
  · simp at hcs; omega
end
end Go.Proofs.Ytblfagmoilhdnaa

/- An argument that is a list of rows: opened. -/
set_option linter.unusedVariables false
set_option linter.unusedSimpArgs false
namespace Go.Proofs.Ytblfagmoilhdnaa
open Go.Joins Go.ChangeShapes Go.WideShapes Go.RowKit Go.Deep
section
variable {H : Type} {enc : TypeId × Value → H} {w : World} {base : Nat} {spare : Nat → Bool} {held : Bool}
set_option maxRecDepth 100000 in
theorem open_leaves {fuel : Nat} {A : Option Addr} {len cap : Nat} {y : DataW H × List MemPlace} (h : DataW.trod enc Try.prog w base spare held fuel 48 [.slice A len cap] = some y) : ∃ rows, IsL w w.heap.size A len rows ∧ len ≤ cap := by
  have hC : Try.prog.cellsOf 47 = 6 := by kernel_rfl
  rcases open_slice_fields Try.underlying48 Try.underlying47 (by kernel_rfl) hC h with ⟨hcs, _⟩ | ⟨a, len', cap', m, D, Pl, hcs, hb, hl, hm, hmm, hx, hi⟩
  · simp at hcs
    obtain ⟨rfl, rfl, rfl⟩ := hcs
    exact ⟨[], isL_nil _ _, Nat.le_refl _⟩
  · simp at hcs
    obtain ⟨rfl, rfl, rfl⟩ := hcs
    have hle : len ≤ m := by rw [hmm]; split <;> omega
    obtain ⟨rows, hol, hrows⟩ := list_of (P := fun i (r : Pg.Lf) => (∀ (j : Nat) (v : Value), (lcells r)[j]? = some v → w.cell? (a.add (i * 6 + j)) = some v) ∧ r.In) len (fun i hil => by
      obtain ⟨ys, n, _, _, _, hf⟩ := hi i (by omega)
      obtain ⟨v0, y0, c0, _, t0⟩ := hf 0 _ rfl
      obtain ⟨v1, y1, c1, _, t1⟩ := hf 1 _ rfl
      obtain ⟨v2, y2, c2, _, t2⟩ := hf 2 _ rfl
      obtain ⟨v3, y3, c3, _, t3⟩ := hf 3 _ rfl
      obtain ⟨v4, y4, c4, _, t4⟩ := hf 4 _ rfl
      obtain ⟨v5, y5, c5, _, t5⟩ := hf 5 _ rfl
      obtain ⟨z0, e0, _, w0⟩ := DataW.trod_int (k := .u64) Try.underlying22 t0
      obtain ⟨z1, e1, _, w1⟩ := DataW.trod_int (k := .u64) Try.underlying22 t1
      obtain ⟨z2, e2, _, w2⟩ := DataW.trod_int (k := .i64) Try.underlying3 t2
      obtain ⟨b3, e3, _⟩ := DataW.trod_bool Try.underlying4 t3
      obtain ⟨b4, e4, _⟩ := DataW.trod_bool Try.underlying4 t4
      obtain ⟨b5, e5, _⟩ := DataW.trod_bool Try.underlying4 t5
      simp at e0 e1 e2 e3 e4 e5
      subst e0 e1 e2 e3 e4 e5
      obtain ⟨k0, rfl, hk0⟩ := nat_of_u64 w0
      obtain ⟨k1, rfl, hk1⟩ := nat_of_u64 w1
      have h2 := bounds_i64 w2
      refine ⟨⟨k0, k1, z2, b3, b4, b5⟩, ?_, hk0, hk1, h2.1, by show z2 < _; omega⟩
      intro j v hv
      match j, hv with
      | 0, hv => simp [lcells] at hv; subst hv; exact c0
      | 1, hv => simp [lcells] at hv; subst hv; exact c1
      | 2, hv => simp [lcells] at hv; subst hv; exact c2
      | 3, hv => simp [lcells] at hv; subst hv; exact c3
      | 4, hv => simp [lcells] at hv; subst hv; exact c4
      | 5, hv => simp [lcells] at hv; subst hv; exact c5
      | j + 6, hv => simp [lcells] at hv)
    refine ⟨rows, ⟨⟨?_, fun h0 => ⟨a, rfl, ?_, fun j u hu => ?_⟩⟩, fun r hr => ?_, hol, by unfold maxLen at hm; omega⟩, hl⟩
    · show (lall rows).length = _
      rw [lall_len, hol]
    · have hx0 := List.getElem?_eq_getElem (show 0 < rows.length by omega)
      have hc0 := (hrows 0 _ hx0).1 0 _ rfl
      have := World.block_lt_of_cell? w _ hc0
      rwa [block_of_add] at this
    · have hj : j < rows.length * 6 := by
        have := (List.getElem?_eq_some_iff.1 hu).1
        rw [show (rows.flatMap lcells).length = rows.length * 6 from lall_len rows] at this
        exact this
      have hk : rows[j / 6]? = some (rows[j / 6]'(by omega)) := List.getElem?_eq_getElem (by omega)
      have h1 := lall_at hk (j % 6) (by omega)
      rw [show 6 * (j / 6) + j % 6 = j by omega] at h1
      have h2 := (hrows _ _ hk).1 (j % 6) u (h1 ▸ hu)
      rw [show j / 6 * 6 + j % 6 = j by omega] at h2
      exact h2
    · obtain ⟨i, hi1, rfl⟩ := List.mem_iff_getElem.1 hr
      exact (hrows i _ (List.getElem?_eq_getElem hi1)).2
end
end Go.Proofs.Ytblfagmoilhdnaa
