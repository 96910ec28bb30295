/- Texts of this claim, one behind the other: BkL. -/
import Derived.Test.YtblfagmoilhdnaaJPagesBuilds6
import Derived.Deep.RegionHeld3
import Derived.Deep.MidRow
import Derived.Deep.Cut
import Derived.Deep.DeepCutAuto
/- A book of lists of api.Leaf: what it holds, what keeps it, and the walks of its Keep, Stays and Apart. -/
set_option linter.unusedVariables false
set_option linter.unusedSimpArgs false
namespace Go.Proofs.Ytblfagmoilhdnaa
open Go.RowKit
namespace BL


/-- a list that was kept, and its copy -/
structure Itm where
  A : Option Addr
  n : Nat
  c : Nat
  bs : List Pg.Lf
  B : Option Addr
  d : Nat
def Itm.v (x : Itm) : Value := .slice x.A x.n x.c
def Itm.u (x : Itm) : Value := .slice x.B x.n x.d
/-- it lies there, in blocks of S -/
structure Itm.In (w : World) (S : List Nat) (x : Itm) : Prop where
  own : Own w 0 x.A x.n x.c x.bs
  copy : Own w 0 x.B x.n x.d x.bs
  vs : ∀ k, x.v.ownBlock = some k → k ∈ S
  us : ∀ k, x.u.ownBlock = some k → k ∈ S
theorem own_chg {T : List Nat} {w w' : World} {base n c : Nat} {A : Option Addr} {bs : List Pg.Lf} (h : Own w base A n c bs) (hc : Chg T w w') (hr : ∀ k, (Value.slice A n c).ownBlock = some k → k ∉ T) : Own w' base A n c bs := ⟨owns_chg h.1 hc hr, h.2⟩
theorem Itm.In.chg {T S : List Nat} {w w' : World} {x : Itm} (h : x.In w S) (hc : Chg T w w') (hd : ∀ k ∈ S, k ∉ T) : x.In w' S :=
  ⟨own_chg h.own hc fun k hk => hd k (h.vs k hk), own_chg h.copy hc fun k hk => hd k (h.us k hk), h.vs, h.us⟩
theorem Itm.In.more {S S' : List Nat} {w : World} {x : Itm} (h : x.In w S) (hs : ∀ k ∈ S, k ∈ S') : x.In w S' := ⟨h.own, h.copy, fun k hk => hs k (h.vs k hk), fun k hk => hs k (h.us k hk)⟩
/-- the lists of the book, apart from one another, each beside its copy -/
structure Kept (w : World) (L M : Value) (xs : List Itm) (SL SM S : List Nat) : Prop where
  lists : Tl w 48 L xs.length (xs.map Itm.v) SL
  was : Tl w 48 M xs.length (xs.map Itm.u) SM
  lm : ∀ k ∈ SL, k ∉ SM
  sl : ∀ k ∈ SL, k ∈ S
  sm : ∀ k ∈ SM, k ∈ S
  it : ∀ x ∈ xs, x.In w S
  ap : xs.Pairwise fun x y => ∀ k, x.v.ownBlock = some k → y.v.ownBlock ≠ some k
  lt : ∀ k ∈ S, k < w.heap.size
theorem Kept.chg {T S SL SM : List Nat} {w w' : World} {L M : Value} {xs : List Itm} (h : Kept w L M xs SL SM S) (hc : Chg T w w') (hd : ∀ k ∈ S, k ∉ T) : Kept w' L M xs SL SM S :=
  ⟨h.lists.chg hc fun k hk => hd k (h.sl k hk), h.was.chg hc fun k hk => hd k (h.sm k hk), h.lm, h.sl, h.sm, fun x hx => (h.it x hx).chg hc hd, h.ap, fun k hk => Nat.lt_of_lt_of_le (h.lt k hk) hc.size⟩
/-- a book in memory: at a place in a row -/
structure Bk (w : World) (gb off : Nat) (t : TypeId) (cs : List Value) (S : List Nat) : Prop where
  row : Row w gb t cs
  ht : t ≠ 48 ∧ t ≠ 47
  notin : gb ∉ S
  rest : ∃ xs L M held SL SM, cs[off]? = some L ∧ cs[off + 1]? = some M ∧ cs[off + 2]? = some (.int .i64 held) ∧ cs[off + 3]? = some (.bool false) ∧ xs.length ≤ 4000 ∧ Kept w L M xs SL SM S
theorem Bk.chg {T S : List Nat} {w w' : World} {gb off : Nat} {t : TypeId} {cs : List Value} (h : Bk w gb off t cs S) (hc : Chg T w w') (hd : ∀ k ∈ S, k ∉ T) (hg : gb ∉ T) : Bk w' gb off t cs S := by
  obtain ⟨xs, L, M, held, SL, SM, h0, h1, h2, h3, h4, h5⟩ := h.rest
  exact ⟨hc.row h.row hg, h.ht, h.notin, xs, L, M, held, SL, SM, h0, h1, h2, h3, h4, h5.chg hc hd⟩
theorem info22 : (Try.prog.info? 48).map (fun i => (i.zero, i.size, i.bytes)) = some (some (.slice none 0 0), 1, 24) := by kernel_rfl
/-- a list and its copy are put behind the others -/
theorem Kept.snoc {w : World} {L M : Value} {xs : List Itm} {x : Itm} {SL SM S S' : List Nat} (h : ∀ y ∈ xs, y.In w S) (ha : xs.Pairwise fun x y => ∀ k, x.v.ownBlock = some k → y.v.ownBlock ≠ some k)
    (hl : Tl w 48 L (xs.length + 1) (xs.map Itm.v ++ [x.v]) SL) (hm : Tl w 48 M (xs.length + 1) (xs.map Itm.u ++ [x.u]) SM) (hlm : ∀ k ∈ SL, k ∉ SM)
    (hs : ∀ k ∈ S, k ∈ S') (hsl : ∀ k ∈ SL, k ∈ S') (hsm : ∀ k ∈ SM, k ∈ S') (hx : x.In w S') (hf : ∀ y ∈ xs, ∀ k, y.v.ownBlock = some k → x.v.ownBlock ≠ some k) (hlt : ∀ k ∈ S', k < w.heap.size) :
    Kept w L M (xs ++ [x]) SL SM S' := by
  refine ⟨by simpa using hl, by simpa using hm, hlm, hsl, hsm, fun y hy => ?_, ?_, hlt⟩
  · rcases List.mem_append.1 hy with h1 | h1
    · exact (h y h1).more hs
    · obtain rfl : y = x := by simpa using h1
      exact hx
  · rw [List.pairwise_append]
    refine ⟨ha, by simp, fun y hy z hz => ?_⟩
    obtain rfl : z = x := by simpa using hz
    exact hf y hy
/-- the first is let go -/
theorem Kept.tail {w : World} {g off cap g' off' cap' : Nat} {xs : List Itm} {SL SM S : List Nat} {n : Nat} (h : Kept w (.slice (some ⟨g, off, none⟩) n cap) (.slice (some ⟨g', off', none⟩) n cap') xs SL SM S) (hn : 1 < n) :
    Kept w (.slice (some ⟨g, off + 1, none⟩) (n - 1) (cap - 1)) (.slice (some ⟨g', off' + 1, none⟩) (n - 1) (cap' - 1)) xs.tail SL SM S := by
  have hl := h.lists
  have hm := h.was
  have hxn : xs.length = n := by
    rcases hl.2 with ⟨h, _⟩ | ⟨_, _, _, _, h, _⟩
    · cases h
    · injection h with _ h2; exact h2.symm
  rw [hxn] at hl hm
  have hl2 := hl.behind hn
  have hm2 := hm.behind hn
  have et : xs.tail.length = n - 1 := by simp [hxn]
  refine ⟨?_, ?_, h.lm, h.sl, h.sm, fun x hx => h.it x (List.mem_of_mem_tail hx), h.ap.tail, h.lt⟩
  · rw [et, List.map_tail]; exact hl2
  · rw [et, List.map_tail]; exact hm2
theorem own_other {w w' : World} {T : List Nat} {base n c : Nat} {A : Option Addr} {bs : List Pg.Lf} (h : Own w base A n c bs) (hc : Chg T w w') (hT : ∀ k ∈ T, ∃ e cur, (47 : TypeId) ≠ e ∧ Blk w k e cur) : Own w' base A n c bs :=
  own_chg h hc fun k hk hm => by
    obtain ⟨e, cur, he, hb⟩ := hT k hm
    obtain ⟨cur', hb'⟩ := own_ne' h.1 k hk
    exact Blk.ne_ hb' hb he rfl
theorem Itm.In.other {T S : List Nat} {w w' : World} {x : Itm} (h : x.In w S) (hc : Chg T w w') (hT : ∀ k ∈ T, ∃ e cur, (47 : TypeId) ≠ e ∧ Blk w k e cur) : x.In w' S :=
  ⟨own_other h.own hc hT, own_other h.copy hc hT, h.vs, h.us⟩
/-- what Keep keeps true -/
structure KS (w : World) (gb off : Nat) (t : TypeId) (cs : List Value) (S : List Nat) (ob : Option Nat) (wx : World) (L M : Value) (held : Int) (xs : List Itm) (SL SM : List Nat) (cs' : List Value) (S' : List Nat) : Prop where
  row : Row wx gb t cs'
  e0 : cs'[off]? = some L
  e1 : cs'[off + 1]? = some M
  e2 : cs'[off + 2]? = some (.int .i64 held)
  e3 : cs'[off + 3]? = some (.bool false)
  oth : ∀ i, (i < off ∨ off + 4 ≤ i) → cs'[i]? = cs[i]?
  kept : Kept wx L M xs SL SM S'
  chg : Chg (gb :: S) w wx
  news : ∀ k ∈ S', k ∈ S ∨ w.heap.size ≤ k ∨ ob = some k
  notin : gb ∉ S'
def KeepInv (w : World) (gb off : Nat) (t : TypeId) (cs : List Value) (S : List Nat) (ob : Option Nat) (N : Nat) (wx : World) : Prop :=
  ∃ xs L M held SL SM cs' S', KS w gb off t cs S ob wx L M held xs SL SM cs' S' ∧ xs.length ≤ N
section
variable {w : World} {gb off : Nat} {t : TypeId} {cs : List Value} {S : List Nat} {ob : Option Nat} {wx : World} {L M : Value} {held : Int} {xs : List Itm} {SL SM : List Nat} {cs' : List Value} {S' : List Nat}
theorem KS.drewN (h : KS w gb off t cs S ob wx L M held xs SL SM cs' S') (m : Nat) : KS w gb off t cs S ob (wx.drewN m) L M held xs SL SM cs' S' :=
  ⟨h.row, h.e0, h.e1, h.e2, h.e3, h.oth, h.kept.chg ((Chg.refl [] wx).drewN m) (by simp), h.chg.drewN m, h.news, h.notin⟩
theorem KS.drew (h : KS w gb off t cs S ob wx L M held xs SL SM cs' S') : KS w gb off t cs S ob wx.drew L M held xs SL SM cs' S' := h.drewN 1
theorem KS.set_ (h : KS w gb off t cs S ob wx L M held xs SL SM cs' S') (i : Nat) (u : Value) :
    Row (wx.setCell ⟨gb, i, none⟩ u) gb t (cs'.set i u) ∧ Kept (wx.setCell ⟨gb, i, none⟩ u) L M xs SL SM S' ∧ Chg (gb :: S) w (wx.setCell ⟨gb, i, none⟩ u) :=
  ⟨h.row.set_ i u, h.kept.chg ((Chg.refl [gb] wx).set_ (p := ⟨gb, i, none⟩) (.inl (by simp)) u) (fun k hk hm => h.notin (by
      obtain rfl : k = gb := by simpa using hm
      exact hk)), h.chg.set_ (p := ⟨gb, i, none⟩) (.inl (by simp)) u⟩
theorem KS.holds (h : KS w gb off t cs S ob wx L M held xs SL SM cs' S') (x : Int) : KS w gb off t cs S ob (wx.setCell ⟨gb, off + 2, none⟩ (.int .i64 x)) L M x xs SL SM (cs'.set (off + 2) (.int .i64 x)) S' := by
  obtain ⟨h1, h2, h3⟩ := h.set_ (off + 2) (.int .i64 x)
  refine ⟨h1, ?_, ?_, ?_, ?_, fun i hi => ?_, h2, h3, h.news, h.notin⟩
  · rw [List.getElem?_set_ne (by omega)]; exact h.e0
  · rw [List.getElem?_set_ne (by omega)]; exact h.e1
  · rw [List.getElem?_set_self (List.getElem?_eq_some_iff.1 h.e2).1]
  · rw [List.getElem?_set_ne (by omega)]; exact h.e3
  · rw [List.getElem?_set_ne (by omega)]; exact h.oth i hi
theorem KS.bad (h : KS w gb off t cs S ob wx L M held xs SL SM cs' S') : KS w gb off t cs S ob (wx.setCell ⟨gb, off + 3, none⟩ (.bool false)) L M held xs SL SM (cs'.set (off + 3) (.bool false)) S' := by
  obtain ⟨h1, h2, h3⟩ := h.set_ (off + 3) (.bool false)
  refine ⟨h1, ?_, ?_, ?_, ?_, fun i hi => ?_, h2, h3, h.news, h.notin⟩
  · rw [List.getElem?_set_ne (by omega)]; exact h.e0
  · rw [List.getElem?_set_ne (by omega)]; exact h.e1
  · rw [List.getElem?_set_ne (by omega)]; exact h.e2
  · rw [List.getElem?_set_self (List.getElem?_eq_some_iff.1 h.e3).1]
  · rw [List.getElem?_set_ne (by omega)]; exact h.oth i hi
theorem KS.tail {g o cap g' o' cap' n : Nat} (h : KS w gb off t cs S ob wx (.slice (some ⟨g, o, none⟩) n cap) (.slice (some ⟨g', o', none⟩) n cap') held xs SL SM cs' S') (hn : 1 < n) :
    KS w gb off t cs S ob ((wx.setCell ⟨gb, off, none⟩ (.slice (some ⟨g, o + 1, none⟩) (n - 1) (cap - 1))).setCell ⟨gb, off + 1, none⟩ (.slice (some ⟨g', o' + 1, none⟩) (n - 1) (cap' - 1))) (.slice (some ⟨g, o + 1, none⟩) (n - 1) (cap - 1)) (.slice (some ⟨g', o' + 1, none⟩) (n - 1) (cap' - 1)) held xs.tail SL SM ((cs'.set off (.slice (some ⟨g, o + 1, none⟩) (n - 1) (cap - 1))).set (off + 1) (.slice (some ⟨g', o' + 1, none⟩) (n - 1) (cap' - 1))) S' := by
  have hc : Chg [gb] wx ((wx.setCell ⟨gb, off, none⟩ (.slice (some ⟨g, o + 1, none⟩) (n - 1) (cap - 1))).setCell ⟨gb, off + 1, none⟩ (.slice (some ⟨g', o' + 1, none⟩) (n - 1) (cap' - 1))) := ((Chg.refl [gb] wx).set_ (p := ⟨gb, off, none⟩) (.inl (by simp)) _).set_ (p := ⟨gb, off + 1, none⟩) (.inl (by simp)) _
  have hl : off < cs'.length := (List.getElem?_eq_some_iff.1 h.e0).1
  have hl1 : off + 1 < cs'.length := (List.getElem?_eq_some_iff.1 h.e1).1
  refine ⟨(h.row.set_ off _).set_ (off + 1) _, ?_, ?_, ?_, ?_, fun i hi => ?_, (h.kept.tail hn).chg hc fun k hk hm => h.notin (by
      obtain rfl : k = gb := by simpa using hm
      exact hk), h.chg.trans (hc.wide (T := gb :: S) (by simp)) (fun x hx => .inl hx), h.news, h.notin⟩
  · rw [List.getElem?_set_ne (by omega), List.getElem?_set_self hl]
  · rw [List.getElem?_set_self (by simpa using hl1)]
  · rw [List.getElem?_set_ne (by omega), List.getElem?_set_ne (by omega)]; exact h.e2
  · rw [List.getElem?_set_ne (by omega), List.getElem?_set_ne (by omega)]; exact h.e3
  · rw [List.getElem?_set_ne (by omega), List.getElem?_set_ne (by omega)]; exact h.oth i hi
theorem KS.book (h : KS w gb off t cs S ob wx L M held xs SL SM cs' S') (ht : t ≠ 48 ∧ t ≠ 47) (hN : xs.length ≤ 4000) : Bk wx gb off t cs' S' := ⟨h.row, ht, h.notin, xs, L, M, held, SL, SM, h.e0, h.e1, h.e2, h.e3, hN, h.kept⟩
/-- how the lists lie -/
theorem Kept.slices (h : Kept w L M xs SL SM S) : ∃ A c A' c', L = .slice A xs.length c ∧ M = .slice A' xs.length c' := by
  obtain ⟨A, c, e, _⟩ := h.lists.form
  obtain ⟨A', c', e', _⟩ := h.was.form
  exact ⟨A, c, A', c', e, e'⟩
theorem Kept.slots (h : Kept w L M xs SL SM S) (h0 : 0 < xs.length) : ∃ g o c g' o' c', L = .slice (some ⟨g, o, none⟩) xs.length c ∧ M = .slice (some ⟨g', o', none⟩) xs.length c' ∧ xs.length ≤ c ∧ xs.length ≤ c' ∧ c ≤ 9223372036854775807 ∧ c' ≤ 9223372036854775807 ∧ g ∈ SL ∧ g' ∈ SM ∧ g < w.heap.size ∧ g' < w.heap.size ∧ (∀ k, k < xs.length → w.cell? ⟨g, o + k, none⟩ = (xs.map Itm.v)[k]?) ∧ (∀ k, k < xs.length → w.cell? ⟨g', o' + k, none⟩ = (xs.map Itm.u)[k]?) := by
  have hl := h.lists
  have hm := h.was
  obtain ⟨A, c, e, hc, hA, g, o, hf, hg⟩ := hl.form
  obtain ⟨A', c', e', hc', hA', g', o', hf', hg'⟩ := hm.form
  obtain ⟨rfl, hsl, hcell⟩ := hf.out h0
  obtain ⟨rfl, hsm, hcell'⟩ := hf'.out h0
  have cm : c ≤ 9223372036854775807 := by
    rcases hl.2 with ⟨hv, _⟩ | ⟨_, _, _, _, hv, _, _, _, hcm, _⟩
    · rw [e] at hv; cases hv
    · rw [e] at hv; injection hv with _ _ h3; rw [h3]; unfold maxLen at hcm; exact hcm
  have cm' : c' ≤ 9223372036854775807 := by
    rcases hm.2 with ⟨hv, _⟩ | ⟨_, _, _, _, hv, _, _, _, hcm, _⟩
    · rw [e'] at hv; cases hv
    · rw [e'] at hv; injection hv with _ _ h3; rw [h3]; unfold maxLen at hcm; exact hcm
  exact ⟨g, o, c, g', o', c', e, e', hc, hc', cm, cm', by rw [hsl]; simp, by rw [hsm]; simp, hg h0, hg' h0, hcell, hcell'⟩
end
/-- behind the first append -/
structure Mid1 (w w2 : World) (gb : Nat) (t : TypeId) (cs1 : List Value) (L1 M : Value) (xs : List Itm) (SL S1 SM S : List Nat) (A : Option Addr) (n c : Nat) (bs : List Pg.Lf) : Prop where
  row : Row w2 gb t cs1
  lists : Tl w2 48 L1 (xs.length + 1) (xs.map Itm.v ++ [.slice A n c]) S1
  was : Tl w2 48 M xs.length (xs.map Itm.u) SM
  it : ∀ y ∈ xs, y.In w2 S
  own : Own w2 0 A n c bs
  chg : Chg (gb :: S) w w2
  s1 : S1 = SL ∨ ∀ k ∈ S1, w.heap.size ≤ k
theorem keep1 {w w1 : World} {gb off n c : Nat} {t : TypeId} {cs : List Value} {L M L1 : Value} {xs : List Itm} {SL SM S1 S : List Nat} {A : Option Addr} {bs : List Pg.Lf} (hk : Kept w L M xs SL SM S) (hrow : Row w gb t cs) (ht1 : t ≠ 48) (ht2 : t ≠ 47) (hnot : gb ∉ S) (ho : Own w 0 A n c bs) (o : Obj)
    (hl : Tl w1 48 L1 (xs.length + 1) (xs.map Itm.v ++ [.slice A n c]) S1) (hc : Chg SL (w.alloc o) w1) (hs : S1 = SL ∨ S1 = [(w.alloc o).heap.size]) :
    Row w1 gb t cs ∧ Mid1 w (w1.setCell ⟨gb, off, none⟩ L1) gb t (cs.set off L1) L1 M xs SL S1 SM S A n c bs := by
  have ca : Chg SL w (w.alloc o) := (Chg.refl _ _).alloc o
  have c1 : Chg SL w w1 := ca.trans hc (fun x hx => .inl hx)
  have hr1 : Row w1 gb t cs := c1.row hrow (fun h => hnot (hk.sl _ h))
  have c2 : Chg (gb :: S) w (w1.setCell ⟨gb, off, none⟩ L1) := (c1.wide (fun k h => by simp; exact .inr (hk.sl k h))).set_ (p := ⟨gb, off, none⟩) (.inl (by simp)) L1
  have c3 : Chg (gb :: SL) w (w1.setCell ⟨gb, off, none⟩ L1) := (c1.wide (fun k h => by simp; exact .inr h)).set_ (p := ⟨gb, off, none⟩) (.inl (by simp)) L1
  have hT : ∀ k ∈ gb :: SL, ∃ e cur, (47 : TypeId) ≠ e ∧ Blk w k e cur := by
    intro k h
    rcases List.mem_cons.1 h with rfl | h
    · exact ⟨t, _, fun h => ht2 h.symm, hrow⟩
    · obtain ⟨cur, hb⟩ := hk.lists.blk k h
      exact ⟨_, cur, by decide, hb⟩
  have hgs1 : gb ∉ S1 := by
    rcases hs with rfl | rfl
    · exact fun h => hnot (hk.sl _ h)
    · have := hrow.lt
      simp only [List.mem_singleton]
      intro h
      rw [h] at this
      simp at this
      omega
  refine ⟨hr1, hr1.set_ off L1, ?_, ?_, fun y hy => (hk.it y hy).other c3 hT, own_other ho c3 hT, c2, ?_⟩
  · exact hl.keep fun k hk' => Below.heap_setCell w1 _ L1 k (fun e => hgs1 (by have e : k = gb := e; rw [← e]; exact hk'))
  · exact hk.was.chg c3 fun k h hm => by
      rcases List.mem_cons.1 hm with rfl | hm
      · exact hnot (hk.sm _ h)
      · exact hk.lm k hm h
  · rcases hs with rfl | rfl
    · exact .inl rfl
    · refine .inr fun k hk' => ?_
      obtain rfl : k = (w.alloc o).heap.size := by simpa using hk'
      simp
theorem keep2 {w w2 w3 w4 : World} {gb off n c c2 : Nat} {t : TypeId} {cs : List Value} {L M L1 M1 : Value} {held : Int} {xs : List Itm} {SL SM S1 S4 S : List Nat} {A A2 : Option Addr} {bs : List Pg.Lf} (hk : Kept w L M xs SL SM S) (hrow : Row w gb t cs) (ht1 : t ≠ 48) (ht2 : t ≠ 47) (hnot : gb ∉ S)
    (hf : ∀ k, (Value.slice A n c).ownBlock = some k → k ∉ S ∧ k ≠ gb) (h0 : cs[off]? = some L) (h1 : cs[off + 1]? = some M) (hh : cs[off + 2]? = some (.int .i64 held)) (hbad : cs[off + 3]? = some (.bool false)) (m : Mid1 w w2 gb t (cs.set off L1) L1 M xs SL S1 SM S A n c bs)
    (ho3 : w3.ownsRow 0 47 6 (.slice A2 n c2) n (lall bs)) (hg3 : w2.drew.grownBy w3 none) (hat : (Value.slice A2 n c2).ownBlock = none ∨ (Value.slice A2 n c2).ownBlock = some w2.drew.heap.size) (o : Obj)
    (hl4 : Tl w4 48 M1 (xs.length + 1) (xs.map Itm.u ++ [.slice A2 n c2]) S4) (hc4 : Chg SM (w3.alloc o) w4) (hs4 : S4 = SM ∨ S4 = [(w3.alloc o).heap.size]) (N : Nat) (hN : xs.length + 1 ≤ N) :
    Row w4 gb t (cs.set off L1) ∧ KeepInv w gb off t cs S (Value.slice A n c).ownBlock N (w4.setCell ⟨gb, off + 1, none⟩ M1) := by
  have c23 : Chg [] w2 w3 := ⟨hg3.os, hg3.tape, hg3.output, hg3.size, fun k hk _ => hg3.block k hk (by simp)⟩
  have c24 : Chg SM w2 w4 := ((c23.alloc o).wide (fun k h => by cases h)).trans hc4 (fun x hx => .inl hx)
  have hr4 : Row w4 gb t (cs.set off L1) := c24.row m.row (fun h => hnot (hk.sm _ h))
  have c25 : Chg (gb :: SM) w2 (w4.setCell ⟨gb, off + 1, none⟩ M1) := (c24.wide (fun k h => by simp; exact .inr h)).set_ (p := ⟨gb, off + 1, none⟩) (.inl (by simp)) M1
  have ca : Chg (gb :: S) w (w4.setCell ⟨gb, off + 1, none⟩ M1) := m.chg.trans (c25.wide (fun k h => by
    simp at h ⊢
    rcases h with h | h
    · exact .inl h
    · exact .inr (hk.sm k h))) (fun x hx => .inl hx)
  have hT : ∀ k ∈ gb :: SM, ∃ e cur, (47 : TypeId) ≠ e ∧ Blk w2 k e cur := by
    intro k h
    rcases List.mem_cons.1 h with rfl | h
    · exact ⟨t, _, fun h => ht2 h.symm, m.row⟩
    · obtain ⟨cur, hb⟩ := m.was.blk k h
      exact ⟨_, cur, by decide, hb⟩
  have hsz : w.heap.size ≤ w2.heap.size := m.chg.size
  have hglt := hrow.lt
  have hs1lt : ∀ k ∈ S1, k < w2.heap.size := m.lists.lt
  have hs4lt : ∀ k ∈ S4, k < w4.heap.size := hl4.lt
  have h24 : w2.heap.size ≤ w4.heap.size := c24.size
  have hw3 : w2.heap.size ≤ w3.heap.size := c23.size
  have hs1n : ∀ k ∈ S1, k ∈ SL ∨ w.heap.size ≤ k := by
    intro k h
    rcases m.s1 with e | e
    · exact .inl (by rw [← e]; exact h)
    · exact .inr (e k h)
  have hs4n : ∀ k ∈ S4, k ∈ SM ∨ w3.heap.size < k := by
    intro k h
    rcases hs4 with e | e
    · exact .inl (by rw [← e]; exact h)
    · rw [e] at h
      obtain rfl : k = (w3.alloc o).heap.size := by simpa using h
      exact .inr (by simp)
  have hgs4 : gb ∉ S4 := by
    intro h
    rcases hs4n _ h with h | h
    · exact hnot (hk.sm _ h)
    · omega
  have hgs1 : gb ∉ S1 := by
    intro h
    rcases hs1n _ h with h | h
    · exact hnot (hk.sl _ h)
    · omega
  have hatk : ∀ k, (Value.slice A2 n c2).ownBlock = some k → k = w2.heap.size := by
    intro k h
    rcases hat with e | e
    · rw [e] at h; cases h
    · rw [e] at h
      injection h with h
      rw [← h]; rfl
  have hown4 : Own (w4.setCell ⟨gb, off + 1, none⟩ M1) 0 A2 n c2 bs := by
    have h3 : Own w3 0 A2 n c2 bs := ⟨ho3, m.own.2⟩
    have c35 : Chg (gb :: SM) w3 (w4.setCell ⟨gb, off + 1, none⟩ M1) := ((((Chg.refl SM w3).alloc o).trans hc4 (fun x hx => .inl hx)).wide (fun k h => by simp; exact .inr h)).set_ (p := ⟨gb, off + 1, none⟩) (.inl (by simp)) M1
    refine own_chg h3 c35 fun k hk' hm => ?_
    have := hatk k hk'
    rcases List.mem_cons.1 hm with h | h
    · omega
    · have := hk.lt k (hk.sm k h)
      omega
  have ho5 : (cs.set off L1).length = cs.length := by simp
  have hlen : off + 3 < cs.length := (List.getElem?_eq_some_iff.1 hbad).1
  refine ⟨hr4, xs ++ [⟨A, n, c, bs, A2, c2⟩], L1, M1, held, S1, S4, _, S1 ++ S4 ++ S ++ (Value.slice A n c).ownBlock.toList ++ (Value.slice A2 n c2).ownBlock.toList, ⟨hr4.set_ (off + 1) M1, ?_, ?_, ?_, ?_, ?_, ?_, ca, ?_, ?_⟩, ?_⟩
  · rw [List.getElem?_set_ne (by omega), List.getElem?_set_self (by omega)]
  · rw [List.getElem?_set_self (by rw [ho5]; omega)]
  · rw [List.getElem?_set_ne (by omega), List.getElem?_set_ne (by omega)]; exact hh
  · rw [List.getElem?_set_ne (by omega), List.getElem?_set_ne (by omega)]; exact hbad
  · intro i hi
    rw [List.getElem?_set_ne (by omega), List.getElem?_set_ne (by omega)]
  · have hgA : ∀ k, (Value.slice A n c).ownBlock = some k → k ≠ gb := fun k h => (hf k h).2
    have hgA2 : ∀ k, (Value.slice A2 n c2).ownBlock = some k → k ≠ gb := fun k h e => by have := hatk k h; omega
    refine Kept.snoc (S := S) (fun y hy => (m.it y hy).other c25 hT) hk.ap ?_ ?_ ?_ ?_ ?_ ?_ ⟨?_, hown4, ?_, ?_⟩ ?_ ?_
    · exact m.lists.chg c25 fun k h hm => by
        rcases List.mem_cons.1 hm with rfl | hm
        · exact hgs1 h
        · rcases hs1n k h with h2 | h2
          · exact hk.lm k h2 hm
          · have := hk.lt k (hk.sm k hm); omega
    · exact hl4.keep fun k hk' => Below.heap_setCell w4 _ M1 k (fun e => hgs4 (by have e : k = gb := e; rw [← e]; exact hk'))
    · intro k h h'
      rcases hs1n k h with h2 | h2 <;> rcases hs4n k h' with h3 | h3
      · exact hk.lm k h2 h3
      · have := hk.lt k (hk.sl k h2); omega
      · have := hk.lt k (hk.sm k h3); omega
      · have := hs1lt k h; omega
    · intro k h
      simp [h]
    · intro k h
      simp [h]
    · intro k h
      simp [h]
    · exact own_other m.own c25 hT
    · intro k h
      have h : (Value.slice A n c).ownBlock = some k := h
      simp [h]
    · intro k h
      have h : (Value.slice A2 n c2).ownBlock = some k := h
      simp [h]
    · intro y hy k h h'
      exact (hf k h').1 ((hk.it y hy).vs k h)
    · intro k h
      have e5 : (w4.setCell ⟨gb, off + 1, none⟩ M1).heap.size = w4.heap.size := by simp [World.setCell]
      rw [e5]
      simp only [List.mem_append, Option.mem_toList] at h
      rcases h with (((h | h) | h) | h) | h
      · have := hs1lt k h; omega
      · exact hs4lt k h
      · have := hk.lt k h; omega
      · obtain ⟨cur, hb⟩ := own_ne' m.own.1 k h
        have := Blk.lt (cs := cur) hb
        omega
      · have := hatk k h
        obtain ⟨cur, hb⟩ := own_ne' hown4.1 k h
        have := Blk.lt (cs := cur) hb
        rw [e5] at this
        exact this
  · intro k h
    simp only [List.mem_append, Option.mem_toList] at h
    rcases h with (((h | h) | h) | h) | h
    · rcases hs1n k h with h | h
      · exact .inl (hk.sl k h)
      · exact .inr (.inl h)
    · rcases hs4n k h with h | h
      · exact .inl (hk.sm k h)
      · exact .inr (.inl (by omega))
    · exact .inl h
    · exact .inr (.inr h)
    · have := hatk k h
      exact .inr (.inl (by omega))
  · intro h
    simp only [List.mem_append, Option.mem_toList] at h
    rcases h with (((h | h) | h) | h) | h
    · exact hgs1 h
    · exact hgs4 h
    · exact hnot h
    · exact (hf _ h).2 rfl
    · have := hatk _ h; omega
  · simpa using hN


set_option maxRecDepth 100000 in
set_option maxHeartbeats 2000000 in
theorem keep_any (gb off : Nat) (t : TypeId) (cs : List Value) (S : List Nat) (A : Option Addr) (n c : Nat) (bs : List Pg.Lf) (w : World) (hb : Bk w gb off t cs S) (ho : Own w 0 A n c bs) (hn : n ≤ 17179869184)
    (hf : ∀ k, (Value.slice A n c).ownBlock = some k → k ∉ S ∧ k ≠ gb) :
    Calls Try.prog 48 #[.pointer (some ⟨gb, off, none⟩), .slice A n c] w fun e w' => e = .returned (.tuple #[]) ∧
      ∃ cs' S', Bk w' gb off t cs' S' ∧ Chg (gb :: S) w w' ∧ (∀ k ∈ S', k ∈ S ∨ w.heap.size ≤ k ∨ (Value.slice A n c).ownBlock = some k) ∧ ∀ i, (i < off ∨ off + 4 ≤ i) → cs'[i]? = cs[i]? := by
  obtain ⟨i0, hi0, hz1, hz2, hz3⟩ := info_parts infoE
  have HI := Lib.hid hi0; have HZ1 := Lib.hid hz1; have HZ2 := Lib.hid hz2; have HZ3 := Lib.hid hz3
  obtain ⟨i1, hi1, hy1, hy2, hy3⟩ := info_parts info22
  have HJ := Lib.hid hi1; have HY1 := Lib.hid hy1; have HY2 := Lib.hid hy2; have HY3 := Lib.hid hy3
  obtain ⟨hrow, ⟨ht1, ht2⟩, hnot, xs, L, M, held, SL, SM, e0, e1, e2, e3, hfew, hk⟩ := hb
  have c0 := (hrow.cell off).trans e0
  have c1 := (hrow.cell (off + 1)).trans e1
  have c2 := (hrow.cell (off + 2)).trans e2
  have c3 := (hrow.cell (off + 3)).trans e3
  have f0 := hrow.frozen off
  have f1 := hrow.frozen (off + 1)
  have f2 := hrow.frozen (off + 2)
  have f3 := hrow.frozen (off + 3)
  have hlt := hrow.lt
  have HROW := Lib.hid hrow; have HK := Lib.hid hk; have HO := Lib.hid ho; have HF := Lib.hid hf; have HNOT := Lib.hid hnot; have HT1 := Lib.hid ht1; have HT2 := Lib.hid ht2
  have E0 := Lib.hid e0; have E1 := Lib.hid e1; have E2 := Lib.hid e2; have E3 := Lib.hid e3
  clear hi0 hz1 hz2 hz3 hi1 hy1 hy2 hy3 hrow hk ho hf hnot ht1 ht2 e0 e1 e2 e3
  go_enter Try.func48, Try.ntmps48
  go_upto_region 1 with (at_builtin; refine wpList_append_tl _ (by rfl) (.tmp 8) (.tmp 10) 57 rfl 48 i1 _ 24 Try.underlying57 HJ.out HY1.out HY2.out HY3.out rfl L xs.length (xs.map Itm.v) SL rfl (HK.out.lists.chg ((Chg.refl [] w).alloc _) (by simp)) ⟨w.heap.size, 0, none⟩ 1 (.slice A n c) rfl ((Row.new w 48 [.slice A n c]).cell 0) rfl (by unfold maxLen; omega) (by omega) ?_; intro A1 c1' S1 w1 HL1 HC1 HS1; have hk1 := keep1 (off := off) HK.out HROW.out HT1.out HT2.out HNOT.out HO.out _ HL1.out HC1.out HS1.out; have d0 := (hk1.1.cell off).trans E0.out; have d1 := hk1.1.frozen off; have HK1 := Lib.hid hk1.2; clear hk1)
  obtain ⟨w2, hw2⟩ : ∃ w2, w2 = w1.setCell ⟨gb, off, none⟩ (.slice A1 (xs.length + 1) c1') := ⟨_, rfl⟩
  rw [← hw2] at HK1 ⊢
  have hrow2 := HK1.out.row
  have g1 : w2.cell? ⟨gb, off + 1, none⟩ = some M := by rw [hrow2.cell, List.getElem?_set_ne (by omega)]; exact E1.out
  have hlt2 := hrow2.lt
  have HROW2 := Lib.hid hrow2
  have HOWN2 := Lib.hid HK1.out.own
  clear hw2 d0 d1 hrow2 c0 c1 c2 c3 f0 f1 f2 f3
  go_cut [] (fun wx => Hid (KeepInv w gb off t cs S (Value.slice A n c).ownBlock 4001 wx))
  case first =>
    first | go_region_law (first
      | (refine step_append_sl _ (by rfl) (.const (.slice none 0 0)) (.tmp 19) 48 (by rfl) 0 47 i0 _ 6 32 Try.underlying48 HI.out HZ1.out HZ2.out HZ3.out rfl (by omega) (.slice none 0 0) 0 [] (by simp [Act.eval, Act.put]) (World.ownsRow_nil _ _ _ _) w2.heap.size A n c (lall bs) (by simp [Act.eval, Act.put]) (Reads.drew (Reads.of_own HOWN2.out.1)) (oneE bs) (by unfold maxLen; omega) (by omega) (Nat.zero_le _) ?_; intro A2 c2' w3 hown3 hg3 hat3; simp only [Nat.zero_add, List.nil_append] at hown3 hat3; have HO3 := Lib.hid hown3; have HG3 := Lib.hid hg3; have HAT3 := Lib.hid hat3; have hr3 := row_grown HROW2.out.drew hg3 (by simp [Value.ownBlock]); have HR3 := Lib.hid hr3; have j1 : w3.cell? ⟨gb, off + 1, none⟩ = some M := (by rw [hr3.cell, List.getElem?_set_ne (by omega)]; exact E1.out); have hl3 := hr3.lt; clear hown3 hg3 hat3 hr3)
      | (refine step_append_tl _ (by rfl) (.tmp 18) (.tmp 21) 57 (by rfl) 48 i1 _ 24 Try.underlying57 HJ.out HY1.out HY2.out HY3.out rfl M xs.length (xs.map Itm.u) SM (by simp [Act.eval, Act.put]) ((HK1.out.was.chg (grown_chg0 HG3.out) (by simp)).chg ((Chg.refl [] w3).alloc _) (by simp)) ⟨w3.heap.size, 0, none⟩ 1 (.slice A2 n c2') (by simp [Act.eval, Act.put]) ((Row.new w3 48 [.slice A2 n c2']).cell 0) rfl (by unfold maxLen; omega) (by omega) ?_; intro A3 c3' S4 w4 HL4 HC4 HS4; have hk2 := keep2 (N := 4001) HK.out HROW.out HT1.out HT2.out HNOT.out HF.out E0.out E1.out E2.out E3.out HK1.out HO3.out HG3.out HAT3.out _ HL4.out HC4.out HS4.out (by omega); have HK2 := Lib.hid hk2.2; have hr4 := hk2.1; have d0 : w4.cell? ⟨gb, off + 1, none⟩ = some M := (by rw [hr4.cell, List.getElem?_set_ne (by omega)]; exact E1.out); have d1 := hr4.frozen (off + 1); clear hk2 hr4)) | fail
    all_goals
      go_wp2_with fail
      go_meet
      case rel => exact HK2
  case rest =>
    clear HK HL1 HC1 HS1 HK1 g1 hlt2 HROW2 HOWN2 E0 E1 E2 E3 HROW
    obtain ⟨ys, L2, M2, held2, SL2, SM2, cs2, S2, hks, hys⟩ := hcut.out
    have c0 := (hks.row.cell off).trans hks.e0
    have c2 := (hks.row.cell (off + 2)).trans hks.e2
    have f2 := hks.row.frozen (off + 2)
    have hltc := hks.row.lt
    have HKS := Lib.hid hks
    clear hks hcut
    go_wp2_with fail
    have HI0 : Hid (KeepInv w gb off t cs S (Value.slice A n c).ownBlock 4001 (wc.setCell ⟨gb, off + 2, none⟩ (.int .i64 (wrap64 (wrap64 (held2 + (c : Int)) + 1))))) := Lib.hid ⟨ys, L2, M2, _, SL2, SM2, _, S2, HKS.out.holds _, hys⟩
    clear HKS c0 c2 f2 hltc
    go_loopg [] 4001 (fun k wr => Hid (KeepInv w gb off t cs S (Value.slice A n c).ownBlock k wr))
    case atStart => exact HI0
    case round =>
      clear HI0
      obtain ⟨zs, L3, M3, held3, SL3, SM3, cs3, S3, hks, hz⟩ := hrel.out
      obtain ⟨m, hm⟩ : ∃ m, m = zs.length := ⟨_, rfl⟩
      have c0 := (hks.row.cell off).trans hks.e0
      have c1 := (hks.row.cell (off + 1)).trans hks.e1
      have c2 := (hks.row.cell (off + 2)).trans hks.e2
      have c3 := (hks.row.cell (off + 3)).trans hks.e3
      have f0 := hks.row.frozen off
      have f1 := hks.row.frozen (off + 1)
      have f2 := hks.row.frozen (off + 2)
      have f3 := hks.row.frozen (off + 3)
      have hltc := hks.row.lt
      by_cases hgo : 1 < m ∧ (1000000 < held3 ∨ 4000 < m)
      · obtain ⟨hm1, hor⟩ := hgo
        obtain ⟨g, o, d, g', o', d', rfl, rfl, hd1, hd2, hd3, hd4, hgs, hgs', hg, hg', hcl, hcl'⟩ := hks.kept.slots (by omega)
        obtain ⟨z, hz0⟩ : ∃ z, zs[0]? = some z := ⟨_, List.getElem?_eq_getElem (show 0 < zs.length by omega)⟩
        have hin := hks.kept.it z (List.mem_of_getElem? hz0)
        have l0 := hcl 0 (by omega)
        have l0' := hcl' 0 (by omega)
        rw [List.getElem?_map, hz0] at l0 l0'
        simp only [Nat.add_zero, Option.map_some, Itm.v, Itm.u] at l0 l0'
        rw [← hm] at c0 c1 hks hd1 hd2 hz
        have hgb : ¬ (g = gb) := fun h => hks.notin (by rw [← h]; exact hks.kept.sl _ hgs)
        have hgb' : ¬ (g' = gb) := fun h => hks.notin (by rw [← h]; exact hks.kept.sm _ hgs')
        clear hgs hgs'
        have HKS := Lib.hid hks
        have HIN := Lib.hid hin
        have HM := Lib.hid hm
        have HZ0 := Lib.hid hz0
        clear hks hin hcl hcl' hz0 hrel hm
        have e1 : decide ((1 : Int) < (m : Int)) = true := decide_eq_true (by omega)
        have key : decide ((1000000 : Int) < held3) = true ∨ (decide ((1000000 : Int) < held3) = false ∧ decide ((4000 : Int) < (m : Int)) = true) := by
          by_cases h : 1000000 < held3
          · exact .inl (by simpa using h)
          · exact .inr ⟨by simpa using h, decide_eq_true (by omega)⟩
        clear hor
        have KEEP : ∀ w' : World, (w'.cell? ⟨gb, off + 3, none⟩ = some (.bool false) ∧ w'.cell? ⟨gb, off, none⟩ = some (.slice (some ⟨g, o, none⟩) m d) ∧ w'.cell? ⟨gb, off + 1, none⟩ = some (.slice (some ⟨g', o', none⟩) m d') ∧ w'.cell? ⟨g, o, none⟩ = some (.slice z.A z.n z.c) ∧ w'.cell? ⟨g', o', none⟩ = some (.slice z.B z.n z.d)) →
            ((w'.setCell ⟨gb, off + 3, none⟩ (.bool false)).cell? ⟨gb, off + 3, none⟩ = some (.bool false) ∧ (w'.setCell ⟨gb, off + 3, none⟩ (.bool false)).cell? ⟨gb, off, none⟩ = some (.slice (some ⟨g, o, none⟩) m d) ∧ (w'.setCell ⟨gb, off + 3, none⟩ (.bool false)).cell? ⟨gb, off + 1, none⟩ = some (.slice (some ⟨g', o', none⟩) m d') ∧ (w'.setCell ⟨gb, off + 3, none⟩ (.bool false)).cell? ⟨g, o, none⟩ = some (.slice z.A z.n z.c) ∧ (w'.setCell ⟨gb, off + 3, none⟩ (.bool false)).cell? ⟨g', o', none⟩ = some (.slice z.B z.n z.d)) := by
          rintro w' ⟨a0, a1, a2, a3, a4⟩
          exact ⟨World.cell?_setCell_same' _ _ _ (by rw [a0]; rfl), (World.cell?_setCell_other _ _ _ _ (by simp)).trans a1, (World.cell?_setCell_other _ _ _ _ (by simp)).trans a2, (World.cell?_setCell_other _ _ _ _ (by simp [hgb, Ne.symm hgb])).trans a3, (World.cell?_setCell_other _ _ _ _ (by simp [hgb', Ne.symm hgb'])).trans a4⟩
        have KEEP := Lib.hid KEEP
        have h0i : (0 : Int) < (m : Int) := by omega
        have h0n : 0 < m := by omega
        go_upto_region 3 with fail
        go_cut [56] (fun v wx => v = .bool true ∧ wr = wx)
        case first =>
          rcases key with k1 | ⟨k1, k2⟩
          all_goals
            go_wp2_with fail
            go_meet
            case rel => exact ⟨rfl, rfl⟩
        case rest =>
          obtain ⟨rfl, rfl⟩ := hcut
          clear key e1
          go_upto_region 4 with fail
          go_cut [] (fun wx => Hid (∃ cs4, KS w gb off t cs S (Value.slice A n c).ownBlock wx (.slice (some ⟨g, o, none⟩) m d) (.slice (some ⟨g', o', none⟩) m d') held3 zs SL3 SM3 cs4 S3))
          case first =>
            go_region_held3 (fun w' => w'.cell? ⟨gb, off + 3, none⟩ = some (.bool false) ∧ w'.cell? ⟨gb, off, none⟩ = some (.slice (some ⟨g, o, none⟩) m d) ∧ w'.cell? ⟨gb, off + 1, none⟩ = some (.slice (some ⟨g', o', none⟩) m d') ∧ w'.cell? ⟨g, o, none⟩ = some (.slice z.A z.n z.c) ∧ w'.cell? ⟨g', o', none⟩ = some (.slice z.B z.n z.d))
              (first | exact ⟨c3, c0, c1, l0, l0'⟩ | exact KEEP.out _ (by assumption))
              (first | (go_at_call 30; refine (sameE_yes z.A z.B z.n z.c z.d z.bs wr.drew (HIN.out.own.isB.drew1) (HIN.out.copy.isB.drew1)).mono ?_; rintro e w' ⟨rfl, mm, rfl⟩))
            all_goals
              go_wp2_with fail
              go_meet
              case rel => exact Lib.hid ⟨_, (HKS.out.drewN _).bad⟩
          case rest =>
            clear KEEP c0 c1 c2 c3 f0 f1 f2 f3 l0 l0' hltc HKS HIN
            obtain ⟨cs4, hks⟩ := hcut.out
            have c0 := (hks.row.cell off).trans hks.e0
            have c1 := (hks.row.cell (off + 1)).trans hks.e1
            have c2 := (hks.row.cell (off + 2)).trans hks.e2
            have f0 := hks.row.frozen off
            have f1 := hks.row.frozen (off + 1)
            have f2 := hks.row.frozen (off + 2)
            have hltc := hks.row.lt
            obtain ⟨g2, o2, d2, g2', o2', d2', q1, q2, _, _, _, _, _, _, _, _, hcl, _⟩ := hks.kept.slots (by have := HM.out; omega)
            injection q1 with q1 qm q1'
            injection q1 with q1
            injection q1 with q1 q1''
            clear qm
            subst q1 q1' q1''
            have l0 := hcl 0 (by have := HM.out; omega)
            rw [List.getElem?_map, HZ0.out] at l0
            simp only [Nat.add_zero, Option.map_some, Itm.v] at l0
            have HKS := Lib.hid hks
            clear hks hcl q2
            go_upto_region 5 with fail
            go_cut [] (fun wx => Hid (∃ x cs5, KS w gb off t cs S (Value.slice A n c).ownBlock wx (.slice (some ⟨g, o, none⟩) m d) (.slice (some ⟨g', o', none⟩) m d') x zs SL3 SM3 cs5 S3))
            case first =>
              first | go_region_law (fail) | fail
              all_goals
                go_wp2_with fail
                go_meet
                case rel => first | exact Lib.hid ⟨_, _, (HKS.out.holds _).drew⟩ | exact Lib.hid ⟨_, _, HKS.out.drew.holds _⟩
            case rest =>
              clear c0 c1 c2 f0 f1 f2 l0 hltc HKS
              obtain ⟨x, cs5, hks⟩ := hcut.out
              clear hcut
              have c0 := (hks.row.cell off).trans hks.e0
              have c1 := (hks.row.cell (off + 1)).trans hks.e1
              have f0 := hks.row.frozen off
              have f1 := hks.row.frozen (off + 1)
              have hltc := hks.row.lt
              have HKS := Lib.hid hks
              have hd1' : ¬ (d = 1) := by omega
              have hd2' : ¬ (d' = 1) := by omega
              clear hks
              go_wp2_with fail
              go_roundg (gk - 1)
              case measure => omega
              case rel => exact Lib.hid ⟨_, _, _, _, _, _, _, _, HKS.out.tail hm1, by have := HM.out; simp; omega⟩
      · have HHM : Hid (zs.length ≤ 4000) := Lib.hid (by omega)
        obtain ⟨A9, d9, A9', d9', rfl, rfl⟩ := hks.kept.slices
        rw [← hm] at c0 c1 hks
        have HKS := Lib.hid hks
        clear hks hrel hz hm
        by_cases hm1 : 1 < m
        · have e1 : decide ((1 : Int) < (m : Int)) = true := decide_eq_true (by omega)
          have e2 : decide ((1000000 : Int) < held3) = false := decide_eq_false (fun h => hgo ⟨hm1, .inl h⟩)
          have e3 : decide ((4000 : Int) < (m : Int)) = false := decide_eq_false (fun h => hgo ⟨hm1, .inr (by omega)⟩)
          clear hgo
          go_wp2_with fail
          go_end0
          refine ⟨rfl, _, _, HKS.out.book ⟨HT1.out, HT2.out⟩ HHM.out, HKS.out.chg, HKS.out.news, HKS.out.oth⟩
        · have e1 : decide ((1 : Int) < (m : Int)) = false := decide_eq_false (by omega)
          clear hgo
          go_wp2_with fail
          go_end0
          refine ⟨rfl, _, _, HKS.out.book ⟨HT1.out, HT2.out⟩ HHM.out, HKS.out.chg, HKS.out.news, HKS.out.oth⟩


set_option maxRecDepth 100000 in
set_option maxHeartbeats 4000000 in
theorem stays_any (w0 : World) (gb off : Nat) (t : TypeId) (cs : List Value) (S : List Nat) (ob : Option Nat) (w : World) (L M : Value) (held : Int) (xs : List Itm) (SL SM : List Nat) (cs' : List Value) (S' : List Nat) (hks : KS w0 gb off t cs S ob w L M held xs SL SM cs' S') (hfew : xs.length ≤ 4000) :
    Calls Try.prog 52 #[.pointer (some ⟨gb, off, none⟩)] w fun e w' => e = .returned (.bool true) ∧ ∃ cs'', KS w0 gb off t cs S ob w' L M held xs SL SM cs'' S' := by
  obtain ⟨A1, d1, A1', d1', hL, hM⟩ := hks.kept.slices
  obtain ⟨n, hn⟩ : ∃ n, n = xs.length := ⟨_, rfl⟩
  rw [← hn] at hL hM hfew
  have HI0 : Hid (∃ cs'', KS w0 gb off t cs S ob w L M held xs SL SM cs'' S') := Lib.hid ⟨_, hks⟩
  have HN := Lib.hid hn
  have HL := Lib.hid hL; have HM := Lib.hid hM
  clear hks hn hL hM
  go_enter Try.func52, Try.ntmps52
  go_wp2_with fail
  go_loopw [3] (fun i wr => ∃ j : Nat, j ≤ n ∧ i = .int .i64 j ∧ Hid (∃ cs'', KS w0 gb off t cs S ob wr L M held xs SL SM cs'' S')) (fun i _ => n - (intOf i).toNat)
  case atStart => exact ⟨0, by omega, rfl, HI0⟩
  case round =>
    clear HI0
    obtain ⟨j, hj, rfl, HI⟩ := hrel
    obtain ⟨cs2, hks⟩ := HI.out
    have c0 := (hks.row.cell off).trans hks.e0
    have c1 := (hks.row.cell (off + 1)).trans hks.e1
    have c3 := (hks.row.cell (off + 3)).trans hks.e3
    have f3 := hks.row.frozen (off + 3)
    have hltc := hks.row.lt
    by_cases hjn : j < n
    · obtain ⟨g, o, d, g', o', d', q1, q2, hd1, hd2, hd3, hd4, hgs, hgs', hg, hg', hcl, hcl'⟩ := hks.kept.slots (by have := HN.out; omega)
      obtain ⟨z, hz0⟩ : ∃ z, xs[j]? = some z := ⟨_, List.getElem?_eq_getElem (show j < xs.length by have := HN.out; omega)⟩
      have hin := hks.kept.it z (List.mem_of_getElem? hz0)
      have l0 := hcl j (by have := HN.out; omega)
      have l0' := hcl' j (by have := HN.out; omega)
      rw [List.getElem?_map, hz0] at l0 l0'
      simp only [Option.map_some, Itm.v, Itm.u] at l0 l0'
      rw [q1, ← HN.out] at c0
      rw [q2, ← HN.out] at c1
      have hgb : ¬ (g = gb) := fun h => hks.notin (by rw [← h]; exact hks.kept.sl _ hgs)
      have hgb' : ¬ (g' = gb) := fun h => hks.notin (by rw [← h]; exact hks.kept.sm _ hgs')
      have HKS := Lib.hid hks
      have HIN := Lib.hid hin
      have hjj : (j : Int) < (n : Int) := by omega
      clear hks hin hcl hcl' hz0 hgs hgs' q1 q2 HI hd1 hd2
      have KEEP : ∀ w' : World, (w'.cell? ⟨gb, off + 3, none⟩ = some (.bool false) ∧ w'.cell? ⟨gb, off, none⟩ = some (.slice (some ⟨g, o, none⟩) n d) ∧ w'.cell? ⟨gb, off + 1, none⟩ = some (.slice (some ⟨g', o', none⟩) n d') ∧ w'.cell? ⟨g, o + j, none⟩ = some (.slice z.A z.n z.c) ∧ w'.cell? ⟨g', o' + j, none⟩ = some (.slice z.B z.n z.d)) →
          ((w'.setCell ⟨gb, off + 3, none⟩ (.bool false)).cell? ⟨gb, off + 3, none⟩ = some (.bool false) ∧ (w'.setCell ⟨gb, off + 3, none⟩ (.bool false)).cell? ⟨gb, off, none⟩ = some (.slice (some ⟨g, o, none⟩) n d) ∧ (w'.setCell ⟨gb, off + 3, none⟩ (.bool false)).cell? ⟨gb, off + 1, none⟩ = some (.slice (some ⟨g', o', none⟩) n d') ∧ (w'.setCell ⟨gb, off + 3, none⟩ (.bool false)).cell? ⟨g, o + j, none⟩ = some (.slice z.A z.n z.c) ∧ (w'.setCell ⟨gb, off + 3, none⟩ (.bool false)).cell? ⟨g', o' + j, none⟩ = some (.slice z.B z.n z.d)) := by
        rintro w' ⟨a0, a1, a2, a3, a4⟩
        exact ⟨World.cell?_setCell_same' _ _ _ (by rw [a0]; rfl), (World.cell?_setCell_other _ _ _ _ (by simp)).trans a1, (World.cell?_setCell_other _ _ _ _ (by simp)).trans a2, (World.cell?_setCell_other _ _ _ _ (by simp [hgb, Ne.symm hgb])).trans a3, (World.cell?_setCell_other _ _ _ _ (by simp [hgb', Ne.symm hgb'])).trans a4⟩
      have KEEP := Lib.hid KEEP
      go_wp2_with fail
      go_region_held3 (fun w' => w'.cell? ⟨gb, off + 3, none⟩ = some (.bool false) ∧ w'.cell? ⟨gb, off, none⟩ = some (.slice (some ⟨g, o, none⟩) n d) ∧ w'.cell? ⟨gb, off + 1, none⟩ = some (.slice (some ⟨g', o', none⟩) n d') ∧ w'.cell? ⟨g, o + j, none⟩ = some (.slice z.A z.n z.c) ∧ w'.cell? ⟨g', o' + j, none⟩ = some (.slice z.B z.n z.d))
        (first | exact ⟨c3, c0, c1, l0, l0'⟩ | exact KEEP.out _ (by assumption))
        (first | (go_at_call 30; refine (sameE_yes z.A z.B z.n z.c z.d z.bs wr.drew (HIN.out.own.isB.drew1) (HIN.out.copy.isB.drew1)).mono ?_; rintro e w' ⟨rfl, mm, rfl⟩))
      go_wp2_with fail
      go_roundw
      case rel => exact ⟨j + 1, by omega, by go_num, Lib.hid ⟨_, (HKS.out.drewN _).bad⟩⟩
      case measure => simp [intOf]; omega
    · rw [HL.out] at c0
      have hjj : ¬ ((j : Int) < (n : Int)) := by omega
      have HKS := Lib.hid hks
      clear hks
      go_wp2_with fail
      go_ret
      exact ⟨rfl, _, HKS.out⟩
/-- the mark of a place, as cells -/
def mkc (i j : Nat) : List Value := lcells ⟨0, 0, -1000 - (i : Int), false, false, false⟩
theorem mkc_len (i j : Nat) : (mkc i j).length = 6 := by rfl
theorem mkc_one (i j : Nat) : ∀ v ∈ mkc i j, v.oneCell' = true := by exact fun v hv => oneCell_leaf _ v hv
/-- it lies in a block of its own, with its spare room -/
structure Room (w : World) (x : Itm) : Prop where
  none_ : x.v.ownBlock = none → x.A = none ∧ x.c = 0
  some_ : ∀ g, x.v.ownBlock = some g → x.A = some ⟨g, 0, none⟩
  row : ∀ g, x.v.ownBlock = some g → ∃ l, Row w g 47 l ∧ l.length = x.c * 6
  le : x.c ≤ 9223372036854775807 ∧ x.n ≤ x.c
def Marked (w : World) (x : Itm) (n : Nat) (f : Nat → List Value) : Prop := ∀ g, x.v.ownBlock = some g → ∃ l, Row w g 47 l ∧ l.length = x.c * 6 ∧ ∀ j, j < n → ∀ d, d < 6 → l[j * 6 + d]? = (f j)[d]?
theorem Own.room {w : World} {base : Nat} {x : Itm} (h : Own w base x.A x.n x.c x.bs) : Room w x := by
  obtain ⟨A, n, c, bs, B, d⟩ := x
  rcases h.1.2 with ⟨hv, h0⟩ | ⟨g, cap, cur, hv, _, hh, hnc, hcm, hsz, _⟩
  · have h0 : n = 0 := h0
    injection hv with h1 _ h2
    have h1 : A = none := h1
    have h2 : c = 0 := h2
    subst h0 h1 h2
    exact ⟨fun _ => ⟨rfl, rfl⟩, fun g h => by simp [Itm.v, Value.ownBlock] at h, fun g h => by simp [Itm.v, Value.ownBlock] at h, by simp⟩
  · injection hv with h1 _ h2
    have h1 : A = some ⟨g, 0, none⟩ := h1
    have h2 : c = cap := h2
    subst h1 h2
    have e : ∀ g', (Itm.v ⟨some ⟨g, 0, none⟩, n, c, bs, B, d⟩).ownBlock = some g' → g' = g := by
      intro g' h
      simp [Itm.v, Value.ownBlock] at h
      exact h.symm
    refine ⟨fun h => by simp [Itm.v, Value.ownBlock] at h, fun g' h => by rw [e g' h], fun g' h => ?_, ?_⟩
    · rw [e g' h]
      exact ⟨cur.toList, by unfold Row; rw [hh], by simpa using hsz⟩
    · unfold maxLen at hcm
      exact ⟨hcm, hnc⟩
theorem Room.set_ {w : World} {x : Itm} (h : Room w x) (g j : Nat) (u : Value) : Room (w.setCell ⟨g, j, none⟩ u) x := by
  refine ⟨h.none_, h.some_, fun k hk => ?_, h.le⟩
  obtain ⟨l, h1, h2⟩ := h.row k hk
  by_cases e : k = g
  · subst e
    exact ⟨_, h1.set_ j u, by simpa using h2⟩
  · exact ⟨l, h1.far (p := ⟨g, j, none⟩) e u, h2⟩
theorem Marked.far {w : World} {x : Itm} {n : Nat} {f : Nat → List Value} (h : Marked w x n f) {g : Nat} (hg : x.v.ownBlock ≠ some g) (j : Nat) (u : Value) : Marked (w.setCell ⟨g, j, none⟩ u) x n f := by
  intro k hk
  obtain ⟨l, h1, h2⟩ := h k hk
  exact ⟨l, h1.far (p := ⟨g, j, none⟩) (fun e => hg (by rw [hk]; exact congrArg some e)) u, h2⟩
theorem Marked.next {w : World} {x : Itm} {n : Nat} {f : Nat → List Value} (h : Marked w x n f) {g : Nat} (hg : x.v.ownBlock = some g) (hn : n < x.c) (hl : (f n).length = 6) : Marked (w.setCells g (n * 6) (f n)) x (n + 1) f := by
  intro k hk
  obtain rfl : g = k := by rw [hg] at hk; injection hk
  obtain ⟨l, h1, h2, h3⟩ := h g hk
  refine ⟨_, h1.sets (f n) (n * 6), by rw [setL_len]; exact h2, fun j hj d hd => ?_⟩
  rw [setL_at _ _ _ _ (by rw [h2, hl]; omega)]
  by_cases e : j = n
  · subst e
    rw [if_pos (by rw [hl]; omega), Nat.add_sub_cancel_left]
  · rw [if_neg (by rw [hl]; omega)]
    exact h3 j (by omega) d hd
theorem Marked.range {w : World} {x : Itm} {n : Nat} {f : Nat → List Value} (h : Marked w x n f) {g : Nat} (hg : x.v.ownBlock = some g) {j : Nat} (hj : j < n) (hl : (f j).length = 6) : w.rangeAt g (j * 6) (f j) := by
  intro d v hv
  obtain ⟨l, h1, h2, h3⟩ := h g hg
  rw [h1.cell (j * 6 + d), h3 j hj d (by rw [← hl]; exact (List.getElem?_eq_some_iff.1 hv).1), hv]
theorem Room.chg_ {w w' : World} {x : Itm} (h : Room w x) (hc : Chg [] w w') : Room w' x := ⟨h.none_, h.some_, fun g hg => by
  obtain ⟨l, h1, h2⟩ := h.row g hg
  exact ⟨l, hc.row h1 (by simp), h2⟩, h.le⟩
theorem Marked.chg_ {w w' : World} {x : Itm} {n : Nat} {f : Nat → List Value} (h : Marked w x n f) (hc : Chg [] w w') : Marked w' x n f := fun g hg => by
  obtain ⟨l, h1, h2⟩ := h g hg
  exact ⟨l, hc.row h1 (by simp), h2⟩
/-- what Apart keeps true: the lists up to i are marked -/
structure ApI (w0 wx : World) (gb off : Nat) (t : TypeId) (cs : List Value) (L : Value) (xs : List Itm) (SL S : List Nat) (i : Nat) : Prop where
  row : Row wx gb t cs
  lists : Tl wx 48 L xs.length (xs.map Itm.v) SL
  room : ∀ x ∈ xs, Room wx x
  marks : ∀ k x, xs[k]? = some x → k < i → Marked wx x x.c (mkc k)
  chg : Chg S w0 wx
section
variable {w0 wx : World} {gb off : Nat} {t : TypeId} {cs : List Value} {L : Value} {xs : List Itm} {SL S : List Nat} {i : Nat}
theorem ApI.drewN (h : ApI w0 wx gb off t cs L xs SL S i) (m : Nat) : ApI w0 (wx.drewN m) gb off t cs L xs SL S i :=
  ⟨h.row, h.lists.chg ((Chg.refl [] wx).drewN m) (by simp), fun x hx => ⟨(h.room x hx).none_, (h.room x hx).some_, (h.room x hx).row, (h.room x hx).le⟩, h.marks, h.chg.drewN m⟩
theorem ApI.store (h : ApI w0 wx gb off t cs L xs SL S i) (ht : t ≠ 47) (hap : xs.Pairwise fun x y => ∀ k, x.v.ownBlock = some k → y.v.ownBlock ≠ some k) {x : Itm} (hx : xs[i]? = some x) {g : Nat} (hg : x.v.ownBlock = some g) (hs : g ∈ S) (j : Nat) (u : Value) :
    ApI w0 (wx.setCell ⟨g, j, none⟩ u) gb off t cs L xs SL S i := by
  obtain ⟨l, hl, _⟩ := (h.room x (List.mem_of_getElem? hx)).row g hg
  have hgb : gb ≠ g := fun e => Blk.ne_ (cs := cs.toArray) (cs' := l.toArray) h.row hl ht e
  have hsl : ∀ k ∈ SL, k ≠ g := by
    intro k hk e
    obtain ⟨cur, hb⟩ := h.lists.blk k hk
    exact Blk.ne_ (cs := cur) (cs' := l.toArray) hb hl (by decide) e
  refine ⟨h.row.far (p := ⟨g, j, none⟩) hgb u, h.lists.keep fun k hk => Below.heap_setCell wx _ u k (hsl k hk), fun y hy => (h.room y hy).set_ g j u, fun k y hy hk => (h.marks k y hy hk).far ?_ j u, h.chg.set_ (p := ⟨g, j, none⟩) (.inl hs) u⟩
  have hk1 := (List.getElem?_eq_some_iff.1 hy)
  have hi1 := (List.getElem?_eq_some_iff.1 hx)
  have := List.pairwise_iff_getElem.1 hap k i hk1.1 hi1.1 hk
  rw [hk1.2, hi1.2] at this
  exact fun e => this g e hg
theorem ApI.stores (ht : t ≠ 47) (hap : xs.Pairwise fun x y => ∀ k, x.v.ownBlock = some k → y.v.ownBlock ≠ some k) {x : Itm} (hx : xs[i]? = some x) {g : Nat} (hg : x.v.ownBlock = some g) (hs : g ∈ S) : ∀ (vs : List Value) (o : Nat) (wx : World), ApI w0 wx gb off t cs L xs SL S i → ApI w0 (wx.setCells g o vs) gb off t cs L xs SL S i
  | [], o, wx, h => h
  | v :: r, o, wx, h => ApI.stores ht hap hx hg hs r (o + 1) _ (h.store ht hap hx hg hs o v)
theorem ApI.next (h : ApI w0 wx gb off t cs L xs SL S i) {x : Itm} (hx : xs[i]? = some x) (hm : Marked wx x x.c (mkc i)) : ApI w0 wx gb off t cs L xs SL S (i + 1) := by
  refine ⟨h.row, h.lists, h.room, fun k y hy hk => ?_, h.chg⟩
  by_cases e : k = i
  · subst e
    rw [hx] at hy
    injection hy with hy
    subst hy
    exact hm
  · exact h.marks k y hy (by omega)
theorem ApI.chg_ (h : ApI w0 wx gb off t cs L xs SL S i) {wy : World} (hc : Chg [] wx wy) : ApI w0 wy gb off t cs L xs SL S i :=
  ⟨hc.row h.row (by simp), h.lists.chg hc (by simp), fun x hx => (h.room x hx).chg_ hc, fun k x hx hk => (h.marks k x hx hk).chg_ hc, h.chg.trans hc (by simp)⟩
end
set_option maxRecDepth 100000 in
set_option maxHeartbeats 400000 in
theorem marks_any (i j : Nat) (w : World) (hi : i ≤ 4000) (hj : j ≤ 9223372036854775807) :
    Calls Try.prog 27 #[.int .i64 i, .int .i64 j] w fun e w' => e = .returned (.agg (mkc i j).toArray) ∧ Chg [] w w' := by
  have e1 : IntKind.i64.wrap (-1000 - (i : Int)) = -1000 - (i : Int) := by rw [IntKind.wrap_i64]; omega
  go_enter Try.func27, Try.ntmps27
  go_wp2_with fail
  refine bodyPost_ret (v := .agg (mkc i j).toArray) (by simp [results, Try.results27, go_sem]; rfl) rfl ⟨rfl, ?_⟩
  exact Chg.of_below ((Below.refl _ _).alloc (Nat.le_refl _) _)
theorem hold_six {w w1 w2 : World} {g o : Nat} {k : Int} (h : w1.cell? ⟨g, o, none⟩ = some (.int .u64 0) ∧ w1.cell? ⟨g, o + 1, none⟩ = some (.int .u64 0) ∧ w1.cell? ⟨g, o + 2, none⟩ = some (.int .i64 k) ∧ w1.cell? ⟨g, o + 3, none⟩ = some (.bool false) ∧ w1.cell? ⟨g, o + 4, none⟩ = some (.bool false) ∧ w1.cell? ⟨g, o + 5, none⟩ = some (.bool false) ∧ Chg [] w w1) (hc : Chg [] w1 w2) (hg : g < w.heap.size) :
    w2.cell? ⟨g, o, none⟩ = some (.int .u64 0) ∧ w2.cell? ⟨g, o + 1, none⟩ = some (.int .u64 0) ∧ w2.cell? ⟨g, o + 2, none⟩ = some (.int .i64 k) ∧ w2.cell? ⟨g, o + 3, none⟩ = some (.bool false) ∧ w2.cell? ⟨g, o + 4, none⟩ = some (.bool false) ∧ w2.cell? ⟨g, o + 5, none⟩ = some (.bool false) ∧ Chg [] w w2 := by
  obtain ⟨h0, h1, h2, h3, h4, h5, h6⟩ := h
  have hl := Nat.lt_of_lt_of_le hg h6.size
  exact ⟨(hc.cell_ hl).trans h0, (hc.cell_ hl).trans h1, (hc.cell_ hl).trans h2, (hc.cell_ hl).trans h3, (hc.cell_ hl).trans h4, (hc.cell_ hl).trans h5, h6.trans hc (by simp)⟩
theorem hold_6 {w w1 : World} {g o : Nat} {k : Int} (h : w1.cell? ⟨g, o, none⟩ = some (.int .u64 0) ∧ w1.cell? ⟨g, o + 1, none⟩ = some (.int .u64 0) ∧ w1.cell? ⟨g, o + 2, none⟩ = some (.int .i64 k) ∧ w1.cell? ⟨g, o + 3, none⟩ = some (.bool false) ∧ w1.cell? ⟨g, o + 4, none⟩ = some (.bool false) ∧ w1.cell? ⟨g, o + 5, none⟩ = some (.bool false) ∧ Chg [] w w1) : Chg [] w w1 := h.2.2.2.2.2.2
set_option maxRecDepth 100000 in
set_option maxHeartbeats 4000000 in
theorem apart_any (gb off : Nat) (t : TypeId) (cs : List Value) (S : List Nat) (w : World) (hb : Bk w gb off t cs S) :
    Calls Try.prog 26 #[.pointer (some ⟨gb, off, none⟩), .func (.func 27) #[] #[]] w fun e w' => e = .returned (.bool true) ∧ Chg (gb :: S) w w' := by
  obtain ⟨hrow, ⟨ht1, ht2⟩, hnot, xs, L, M, held, SL, SM, e0, e1, e2, e3, hfew, hk⟩ := hb
  have hks : KS w gb off t cs S none w L M held xs SL SM cs S := ⟨hrow, e0, e1, e2, e3, fun _ _ => rfl, hk, Chg.refl _ _, fun k h => .inl h, hnot⟩
  have HS := Lib.hid (stays_any w gb off t cs S none w L M held xs SL SM cs S hks hfew)
  obtain ⟨n, hn⟩ : ∃ n, n = xs.length := ⟨_, rfl⟩
  rw [← hn] at hfew
  have HN := Lib.hid hn
  have HT1 := Lib.hid ht1; have HT2 := Lib.hid ht2; have HNOT := Lib.hid hnot
  clear hrow hnot e0 e1 e2 e3 hk hks hn ht1 ht2
  go_enter Try.func26, Try.ntmps26
  go_wp2_with fail
  refine HS.out.mono ?_
  rintro e w1 ⟨rfl, cs1, hks⟩
  have hap0 : ApI w w1 gb off t cs1 L xs SL (gb :: S) 0 := ⟨hks.row, hks.kept.lists, fun x hx => (hks.kept.it x hx).own.room, fun k x _ h => absurd h (by omega), hks.chg⟩
  have HI0 := Lib.hid hap0
  have HE0 := Lib.hid hks.e0
  have HE1 := Lib.hid hks.e1
  have HE2 := Lib.hid hks.e2
  have HAP := Lib.hid hks.kept.ap
  have HVS : Hid (∀ x ∈ xs, ∀ k, x.v.ownBlock = some k → k ∈ gb :: S) := Lib.hid fun x hx k hk => by simp; exact .inr ((hks.kept.it x hx).vs k hk)
  obtain ⟨A1, d1, A1', d1', hL, hM⟩ := hks.kept.slices
  rw [← HN.out] at hL
  have HL := Lib.hid hL
  clear hap0 hks hL hM HS
  go_wp2_with fail
  go_loopw [5] (fun i wr => ∃ k : Nat, k ≤ n ∧ i = .int .i64 k ∧ Hid (ApI w wr gb off t cs1 L xs SL (gb :: S) k)) (fun i _ => n - (intOf i).toNat)
  case atStart => exact ⟨0, by omega, rfl, HI0⟩
  case round =>
    clear HI0
    obtain ⟨k, hkn, rfl, HI⟩ := hrel
    have c0 := (HI.out.row.cell off).trans HE0.out
    rw [HL.out] at c0
    by_cases hlt : k < n
    · have hx0 : ∃ x, xs[k]? = some x := ⟨_, List.getElem?_eq_getElem (show k < xs.length by have := HN.out; omega)⟩
      obtain ⟨x, hx⟩ := hx0
      have hroom := HI.out.room x (List.mem_of_getElem? hx)
      obtain ⟨A2, c2, q1, hd, _, g, o, hf, hg⟩ := HI.out.lists.form
      have hf := hf.out (by have := HN.out; omega)
      have hg := hg (by have := HN.out; omega)
      obtain ⟨rfl, _, hcl⟩ := hf
      have l0 := hcl k (by have := HN.out; omega)
      rw [List.getElem?_map, hx] at l0
      simp only [Option.map_some, Itm.v] at l0
      rw [← HL.out, q1, ← HN.out] at c0
      have hki : (k : Int) < (n : Int) := by omega
      have hk0 : (0 : Int) ≤ (k : Int) := by omega
      have hcle := hroom.le
      obtain ⟨c, hc⟩ : ∃ c, c = x.c := ⟨_, rfl⟩
      obtain ⟨Ax, hAx⟩ : ∃ Ax, Ax = x.A := ⟨_, rfl⟩
      rw [← hc, ← hAx] at l0
      rw [← hc] at hcle
      have HC := Lib.hid hc
      have HAX := Lib.hid hAx
      have HX := Lib.hid hx
      have HR := Lib.hid hroom
      clear hx hroom hcl q1 hc hd hAx
      go_wp2_with fail
      go_quiet (fail)
      have HI1 := Lib.hid (HI.out.drewN nq)
      clear HI c0 l0
      go_wp2_with fail
      go_loopw [7] (fun j wq => ∃ i : Nat, i ≤ c ∧ j = .int .i64 i ∧ Hid (ApI w wq gb off t cs1 L xs SL (gb :: S) k) ∧ Hid (Marked wq x i (mkc k))) (fun j _ => c - (intOf j).toNat)
      case atStart =>
        refine ⟨0, by omega, rfl, HI1, Lib.hid ?_⟩
        intro g' hg'
        obtain ⟨l, h1, h2⟩ := HR.out.row g' hg'
        exact ⟨l, h1, h2, fun j hj => absurd hj (by omega)⟩
      case round =>
        clear HI1
        obtain ⟨i, hic, rfl, HI, HM⟩ := hrel
        by_cases hil : i < c
        · have hob : ∃ gx, x.v.ownBlock = some gx := by
            rcases h : x.v.ownBlock with _ | gx
            · have := (HR.out.none_ h).2
              have := HC.out
              omega
            · exact ⟨gx, rfl⟩
          obtain ⟨gx, hgx⟩ := hob
          have hA := HR.out.some_ gx hgx
          rw [← HAX.out] at hA
          have HTH : Hid (∀ wy, Chg [] wr wy → wy.there gx (i * 6) 6) := Lib.hid (by
            intro wy hc
            obtain ⟨l, hl1, hl2, _⟩ := HM.out gx hgx
            refine (hc.row hl1 (by simp)).there ?_
            rw [hl2, ← HC.out]
            omega)
          have HGX := Lib.hid hgx
          have hii : (i : Int) < (c : Int) := by omega
          subst hA
          obtain ⟨V, hV⟩ : ∃ V, V = mkc k i := ⟨_, rfl⟩
          have HVL : Hid (V.length = 6) := Lib.hid (by rw [hV, mkc_len])
          have HV1 : Hid (∀ v ∈ V, v.oneCell' = true) := Lib.hid (by rw [hV]; exact mkc_one k i)
          have HMK : Hid (Calls Try.prog 27 #[.int .i64 k, .int .i64 i] wr fun e w' => e = .returned (.agg V.toArray) ∧ Chg [] wr w') := Lib.hid (by rw [hV]; exact marks_any k i wr (by omega) (by omega))
          have HV := Lib.hid hV
          clear hgx hV
          go_wp2_with (first | (go_at_call 27; refine HMK.out.mono ?_; rintro e w' ⟨rfl, hcc⟩; have HCC := Lib.hid hcc; clear hcc) | refine wpList_store_mid (by rfl) _ _ _ rfl gx (i * 6) V.toArray (by rfl) (by rfl) (by rw [List.size_toArray, HVL.out]; exact HTH.out _ HCC.out) (by rw [List.size_toArray, HVL.out]; rfl) (all_oneCell_toArray HV1.out) ?_)
          go_roundw
          case rel =>
            refine ⟨i + 1, by omega, by go_num, Lib.hid (ApI.stores HT2.out HAP.out HX.out HGX.out (HVS.out x (List.mem_of_getElem? HX.out) _ HGX.out) _ _ _ (HI.out.chg_ HCC.out)), Lib.hid ?_⟩
            have := (HM.out.chg_ HCC.out).next HGX.out (by have := HC.out; omega) (mkc_len k i)
            rw [← HV.out] at this
            exact this
          case measure => simp [intOf]; omega
        · have HIC : Hid (i = x.c) := Lib.hid (by have := HC.out; omega)
          go_wp2_with fail
          go_roundw
          case rel => exact ⟨k + 1, by omega, by go_num, Lib.hid (HI.out.next HX.out (by have := HM.out; rwa [HIC.out] at this))⟩
          case measure => simp [intOf]; omega
    · have HKN : Hid (k = n) := Lib.hid (by omega)
      go_wp2_with fail
      have HI2 : Hid (ApI w wr gb off t cs1 L xs SL (gb :: S) n) := Lib.hid (by have := HI.out; rwa [HKN.out] at this)
      clear HI c0 HKN
      go_loopw [8] (fun i wq => ∃ k : Nat, k ≤ n ∧ i = .int .i64 k ∧ Hid (ApI w wq gb off t cs1 L xs SL (gb :: S) n)) (fun i _ => n - (intOf i).toNat)
      case atStart => exact ⟨0, by omega, rfl, HI2⟩
      case round =>
        clear HI2
        obtain ⟨k2, hkn2, rfl, HI⟩ := hrel
        have c0 := (HI.out.row.cell off).trans HE0.out
        by_cases hlt2 : k2 < n
        · have hx0 : ∃ x, xs[k2]? = some x := ⟨_, List.getElem?_eq_getElem (show k2 < xs.length by have := HN.out; omega)⟩
          obtain ⟨x, hx⟩ := hx0
          have hroom := HI.out.room x (List.mem_of_getElem? hx)
          obtain ⟨A2, c2, q1, hd, _, g, o, hf, hg⟩ := HI.out.lists.form
          have hf := hf.out (by have := HN.out; omega)
          have hg := hg (by have := HN.out; omega)
          obtain ⟨rfl, _, hcl⟩ := hf
          have l0 := hcl k2 (by have := HN.out; omega)
          rw [List.getElem?_map, hx] at l0
          simp only [Option.map_some, Itm.v] at l0
          rw [q1, ← HN.out] at c0
          have hki : (k2 : Int) < (n : Int) := by omega
          have hk0 : (0 : Int) ≤ (k2 : Int) := by omega
          have hcle := hroom.le
          obtain ⟨c, hc⟩ : ∃ c, c = x.c := ⟨_, rfl⟩
          obtain ⟨Ax, hAx⟩ : ∃ Ax, Ax = x.A := ⟨_, rfl⟩
          rw [← hc, ← hAx] at l0
          rw [← hc] at hcle
          have HC := Lib.hid hc
          have HAX := Lib.hid hAx
          have HX := Lib.hid hx
          have HR := Lib.hid hroom
          clear hx hroom hcl q1 hc hd hAx
          go_wp2_with fail
          go_quiet (fail)
          have HI1 := Lib.hid (HI.out.drewN nq)
          clear c0 l0
          go_wp2_with fail
          go_loopw [10] (fun j wq => ∃ i : Nat, i ≤ c ∧ j = .int .i64 i ∧ Hid (ApI w wq gb off t cs1 L xs SL (gb :: S) n)) (fun j _ => c - (intOf j).toNat)
          case atStart => exact ⟨0, by omega, rfl, HI1⟩
          case round =>
            clear HI1 HI
            obtain ⟨i, hic, rfl, HI⟩ := hrel
            have HM := Lib.hid (HI.out.marks k2 x HX.out hlt2)
            by_cases hil : i < c
            · have hob : ∃ gx, x.v.ownBlock = some gx := by
                rcases h : x.v.ownBlock with _ | gx
                · have := (HR.out.none_ h).2
                  have := HC.out
                  omega
                · exact ⟨gx, rfl⟩
              obtain ⟨gx, hgx⟩ := hob
              have hA := HR.out.some_ gx hgx
              rw [← HAX.out] at hA
              have hii : (i : Int) < (c : Int) := by omega
              have hi0 : (0 : Int) ≤ (i : Int) := by omega
              subst hA
              have hrg := HM.out.range hgx (j := i) (by have := HC.out; omega) (mkc_len k2 i)
              have hgl : gx < wr.heap.size := by
                obtain ⟨l, hl1, _⟩ := HM.out gx hgx
                exact hl1.lt
              clear hgx HM
              have hc0 : wr.cell? ⟨gx, i * 6, none⟩ = some (.int .u64 0) := hrg 0 _ rfl
              have hc1 : wr.cell? ⟨gx, i * 6 + 1, none⟩ = some (.int .u64 0) := hrg 1 _ rfl
              have hc2 : wr.cell? ⟨gx, i * 6 + 2, none⟩ = some (.int .i64 (-1000 - (k2 : Int))) := hrg 2 _ rfl
              have hc3 : wr.cell? ⟨gx, i * 6 + 3, none⟩ = some (.bool false) := hrg 3 _ rfl
              have hc4 : wr.cell? ⟨gx, i * 6 + 4, none⟩ = some (.bool false) := hrg 4 _ rfl
              have hc5 : wr.cell? ⟨gx, i * 6 + 5, none⟩ = some (.bool false) := hrg 5 _ rfl
              have HMK : Hid (∀ wx, Calls Try.prog 27 #[.int .i64 k2, .int .i64 i] wx fun e w' => e = .returned (.agg #[.int .u64 0, .int .u64 0, .int .i64 (-1000 - (k2 : Int)), .bool false, .bool false, .bool false]) ∧ Chg [] wx w') := Lib.hid (fun wx => marks_any k2 i wx (by omega) (by omega))
              have H6 := Lib.hid (And.intro hc0 (And.intro hc1 (And.intro hc2 (And.intro hc3 (And.intro hc4 hc5)))))
              clear hrg hc0 hc1 hc2 hc3 hc4 hc5
              go_upto_region 18 with fail
              go_region_held3 (fun w' => w'.cell? ⟨gx, i * 6, none⟩ = some (.int .u64 0) ∧ w'.cell? ⟨gx, i * 6 + 1, none⟩ = some (.int .u64 0) ∧ w'.cell? ⟨gx, i * 6 + 2, none⟩ = some (.int .i64 (-1000 - (k2 : Int))) ∧ w'.cell? ⟨gx, i * 6 + 3, none⟩ = some (.bool false) ∧ w'.cell? ⟨gx, i * 6 + 4, none⟩ = some (.bool false) ∧ w'.cell? ⟨gx, i * 6 + 5, none⟩ = some (.bool false) ∧ Chg [] wr w')
                (first | exact ⟨H6.out.1, H6.out.2.1, H6.out.2.2.1, H6.out.2.2.2.1, H6.out.2.2.2.2.1, H6.out.2.2.2.2.2, (Chg.refl [] wr).drew⟩ | (refine hold_six (w := wr) (g := gx) (o := i * 6) (k := -1000 - (k2 : Int)) ?_ hcc hgl; assumption))
                (first | (go_at_call 27; refine (HMK.out _).mono ?_; rintro e w' ⟨rfl, hcc⟩))
              all_goals
                go_wp2_with fail
                go_roundw
                case rel =>
                  refine ⟨i + 1, by omega, by go_num, Lib.hid (HI.out.chg_ ?_)⟩
                  refine hold_6 (g := gx) (o := i * 6) (k := -1000 - (k2 : Int)) ?_; assumption
                case measure => simp [intOf]; omega
            · go_wp2_with fail
              go_roundw
              case rel => exact ⟨k2 + 1, by omega, by go_num, HI⟩
              case measure => simp [intOf]; omega
        · rw [HL.out] at c0
          have f0 := HI.out.row.frozen off
          have f1 := HI.out.row.frozen (off + 1)
          have f2 := HI.out.row.frozen (off + 2)
          have c1 := (HI.out.row.cell (off + 1)).trans HE1.out
          have c2 := (HI.out.row.cell (off + 2)).trans HE2.out
          have hlt3 := HI.out.row.lt
          go_wp2_with fail
          go_ret
          exact ⟨rfl, ((HI.out.chg.set_ (p := ⟨gb, off, none⟩) (.inl (by simp)) _).set_ (p := ⟨gb, off + 1, none⟩) (.inl (by simp)) _).set_ (p := ⟨gb, off + 2, none⟩) (.inl (by simp)) _⟩

end BL
end Go.Proofs.Ytblfagmoilhdnaa
