/- A book of lists of bytes in memory: what it holds, and what keeps it. -/
import Derived.Test.YtblfagmoilhdnaaTail
import Derived.Test.YtblfagmoilhdnaaBook
import Derived.Test.YtblfagmoilhdnaaReader
import Derived.Deep.RegionHeld3
set_option linter.unusedVariables false
set_option linter.unusedSimpArgs false
namespace Go.Proofs.Ytblfagmoilhdnaa
open Go.RowKit

/-- a list that was kept, and its copy -/
structure Itm where
  A : Option Addr
  n : Nat
  c : Nat
  bs : List Nat
  B : Option Addr
  d : Nat
def Itm.v (x : Itm) : Value := .slice x.A x.n x.c
def Itm.u (x : Itm) : Value := .slice x.B x.n x.d
/-- it lies there, in blocks of S -/
structure Itm.In (w : World) (S : List Nat) (x : Itm) : Prop where
  own : Own w 0 x.A x.n x.c x.bs
  copy : Own w 0 x.B x.n x.d x.bs
  vs : ∀ k, x.v.ownBlock = some k → k ∈ S
  us : ∀ k, x.u.ownBlock = some k → k ∈ S
theorem own_chg {T : List Nat} {w w' : World} {base n c : Nat} {A : Option Addr} {bs : List Nat} (h : Own w base A n c bs) (hc : Chg T w w') (hr : ∀ k, (Value.slice A n c).ownBlock = some k → k ∉ T) : Own w' base A n c bs := ⟨owns_chg h.1 hc hr, h.2⟩
theorem Itm.In.chg {T S : List Nat} {w w' : World} {x : Itm} (h : x.In w S) (hc : Chg T w w') (hd : ∀ k ∈ S, k ∉ T) : x.In w' S :=
  ⟨own_chg h.own hc fun k hk => hd k (h.vs k hk), own_chg h.copy hc fun k hk => hd k (h.us k hk), h.vs, h.us⟩
theorem Itm.In.more {S S' : List Nat} {w : World} {x : Itm} (h : x.In w S) (hs : ∀ k ∈ S, k ∈ S') : x.In w S' := ⟨h.own, h.copy, fun k hk => hs k (h.vs k hk), fun k hk => hs k (h.us k hk)⟩
/-- the lists of the book, apart from one another, each beside its copy -/
structure Kept (w : World) (L M : Value) (xs : List Itm) (SL SM S : List Nat) : Prop where
  lists : Tl w 25 L xs.length (xs.map Itm.v) SL
  was : Tl w 25 M xs.length (xs.map Itm.u) SM
  lm : ∀ k ∈ SL, k ∉ SM
  sl : ∀ k ∈ SL, k ∈ S
  sm : ∀ k ∈ SM, k ∈ S
  it : ∀ x ∈ xs, x.In w S
  ap : xs.Pairwise fun x y => ∀ k, x.v.ownBlock = some k → y.v.ownBlock ≠ some k
  lt : ∀ k ∈ S, k < w.heap.size
theorem Kept.chg {T S SL SM : List Nat} {w w' : World} {L M : Value} {xs : List Itm} (h : Kept w L M xs SL SM S) (hc : Chg T w w') (hd : ∀ k ∈ S, k ∉ T) : Kept w' L M xs SL SM S :=
  ⟨h.lists.chg hc fun k hk => hd k (h.sl k hk), h.was.chg hc fun k hk => hd k (h.sm k hk), h.lm, h.sl, h.sm, fun x hx => (h.it x hx).chg hc hd, h.ap, fun k hk => Nat.lt_of_lt_of_le (h.lt k hk) hc.size⟩
/-- a book in memory: at a place in a row -/
structure Bk (w : World) (gb off : Nat) (t : TypeId) (cs : List Value) (S : List Nat) : Prop where
  row : Row w gb t cs
  ht : t ≠ 25 ∧ t ≠ 5
  notin : gb ∉ S
  rest : ∃ xs L M held SL SM, cs[off]? = some L ∧ cs[off + 1]? = some M ∧ cs[off + 2]? = some (.int .i64 held) ∧ cs[off + 3]? = some (.bool false) ∧ xs.length ≤ 4000 ∧ Kept w L M xs SL SM S
theorem Bk.chg {T S : List Nat} {w w' : World} {gb off : Nat} {t : TypeId} {cs : List Value} (h : Bk w gb off t cs S) (hc : Chg T w w') (hd : ∀ k ∈ S, k ∉ T) (hg : gb ∉ T) : Bk w' gb off t cs S := by
  obtain ⟨xs, L, M, held, SL, SM, h0, h1, h2, h3, h4, h5⟩ := h.rest
  exact ⟨hc.row h.row hg, h.ht, h.notin, xs, L, M, held, SL, SM, h0, h1, h2, h3, h4, h5.chg hc hd⟩
theorem info22 : (Try.prog.info? 25).map (fun i => (i.zero, i.size, i.bytes)) = some (some (.slice none 0 0), 1, 24) := by kernel_rfl
/-- a list and its copy are put behind the others -/
theorem Kept.snoc {w : World} {L M : Value} {xs : List Itm} {x : Itm} {SL SM S S' : List Nat} (h : ∀ y ∈ xs, y.In w S) (ha : xs.Pairwise fun x y => ∀ k, x.v.ownBlock = some k → y.v.ownBlock ≠ some k)
    (hl : Tl w 25 L (xs.length + 1) (xs.map Itm.v ++ [x.v]) SL) (hm : Tl w 25 M (xs.length + 1) (xs.map Itm.u ++ [x.u]) SM) (hlm : ∀ k ∈ SL, k ∉ SM)
    (hs : ∀ k ∈ S, k ∈ S') (hsl : ∀ k ∈ SL, k ∈ S') (hsm : ∀ k ∈ SM, k ∈ S') (hx : x.In w S') (hf : ∀ y ∈ xs, ∀ k, y.v.ownBlock = some k → x.v.ownBlock ≠ some k) (hlt : ∀ k ∈ S', k < w.heap.size) :
    Kept w L M (xs ++ [x]) SL SM S' := by
  refine ⟨by simpa using hl, by simpa using hm, hlm, hsl, hsm, fun y hy => ?_, ?_, hlt⟩
  · rcases List.mem_append.1 hy with h1 | h1
    · exact (h y h1).more hs
    · obtain rfl : y = x := by simpa using h1
      exact hx
  · rw [List.pairwise_append]
    refine ⟨ha, by simp, fun y hy z hz => ?_⟩
    obtain rfl : z = x := by simpa using hz
    exact hf y hy
/-- the first is let go -/
theorem Kept.tail {w : World} {g off cap g' off' cap' : Nat} {xs : List Itm} {SL SM S : List Nat} {n : Nat} (h : Kept w (.slice (some ⟨g, off, none⟩) n cap) (.slice (some ⟨g', off', none⟩) n cap') xs SL SM S) (hn : 1 < n) :
    Kept w (.slice (some ⟨g, off + 1, none⟩) (n - 1) (cap - 1)) (.slice (some ⟨g', off' + 1, none⟩) (n - 1) (cap' - 1)) xs.tail SL SM S := by
  have hl := h.lists
  have hm := h.was
  have hxn : xs.length = n := by
    rcases hl.2 with ⟨h, _⟩ | ⟨_, _, _, _, h, _⟩
    · cases h
    · injection h with _ h2; exact h2.symm
  rw [hxn] at hl hm
  have hl2 := hl.behind hn
  have hm2 := hm.behind hn
  have et : xs.tail.length = n - 1 := by simp [hxn]
  refine ⟨?_, ?_, h.lm, h.sl, h.sm, fun x hx => h.it x (List.mem_of_mem_tail hx), h.ap.tail, h.lt⟩
  · rw [et, List.map_tail]; exact hl2
  · rw [et, List.map_tail]; exact hm2
theorem Chg.wide {S T : List Nat} {w w' : World} (h : Chg S w w') (hs : ∀ k ∈ S, k ∈ T) : Chg T w w' := ⟨h.os, h.tape, h.output, h.size, fun k hk hn => h.block k hk fun hm => hn (hs k hm)⟩
theorem own_ne' {w : World} {base n size : Nat} {e : TypeId} {v : Value} {xs : List Value} (h : w.ownsRow base e size v n xs) : ∀ k, v.ownBlock = some k → ∃ cur, Blk w k e cur := by
  intro k hk
  rcases h.2 with ⟨rfl, _⟩ | ⟨g, cap, cur, rfl, _, hh, _⟩
  · cases hk
  · simp [Value.ownBlock] at hk
    subst hk
    exact ⟨cur, hh⟩
theorem Tl.blk {w : World} {e : TypeId} {v : Value} {n : Nat} {xs : List Value} {S : List Nat} (h : Tl w e v n xs S) : ∀ k ∈ S, ∃ cur, Blk w k e cur := by
  rcases h.2 with ⟨_, _, rfl⟩ | ⟨g, off, cap, cur, hv, rfl, hg, r⟩
  · simp
  · intro k hk
    obtain rfl : k = g := by simpa using hk
    exact ⟨cur, hg⟩
theorem own_other {w w' : World} {T : List Nat} {base n c : Nat} {A : Option Addr} {bs : List Nat} (h : Own w base A n c bs) (hc : Chg T w w') (hT : ∀ k ∈ T, ∃ e cur, (5 : TypeId) ≠ e ∧ Blk w k e cur) : Own w' base A n c bs :=
  own_chg h hc fun k hk hm => by
    obtain ⟨e, cur, he, hb⟩ := hT k hm
    obtain ⟨cur', hb'⟩ := own_ne' h.1 k hk
    exact Blk.ne_ hb' hb he rfl
theorem Itm.In.other {T S : List Nat} {w w' : World} {x : Itm} (h : x.In w S) (hc : Chg T w w') (hT : ∀ k ∈ T, ∃ e cur, (5 : TypeId) ≠ e ∧ Blk w k e cur) : x.In w' S :=
  ⟨own_other h.own hc hT, own_other h.copy hc hT, h.vs, h.us⟩
/-- what Keep keeps true -/
structure KS (w : World) (gb off : Nat) (t : TypeId) (cs : List Value) (S : List Nat) (ob : Option Nat) (wx : World) (L M : Value) (held : Int) (xs : List Itm) (SL SM : List Nat) (cs' : List Value) (S' : List Nat) : Prop where
  row : Row wx gb t cs'
  e0 : cs'[off]? = some L
  e1 : cs'[off + 1]? = some M
  e2 : cs'[off + 2]? = some (.int .i64 held)
  e3 : cs'[off + 3]? = some (.bool false)
  oth : ∀ i, (i < off ∨ off + 4 ≤ i) → cs'[i]? = cs[i]?
  kept : Kept wx L M xs SL SM S'
  chg : Chg (gb :: S) w wx
  news : ∀ k ∈ S', k ∈ S ∨ w.heap.size ≤ k ∨ ob = some k
  notin : gb ∉ S'
def KeepInv (w : World) (gb off : Nat) (t : TypeId) (cs : List Value) (S : List Nat) (ob : Option Nat) (N : Nat) (wx : World) : Prop :=
  ∃ xs L M held SL SM cs' S', KS w gb off t cs S ob wx L M held xs SL SM cs' S' ∧ xs.length ≤ N
section
variable {w : World} {gb off : Nat} {t : TypeId} {cs : List Value} {S : List Nat} {ob : Option Nat} {wx : World} {L M : Value} {held : Int} {xs : List Itm} {SL SM : List Nat} {cs' : List Value} {S' : List Nat}
theorem KS.drewN (h : KS w gb off t cs S ob wx L M held xs SL SM cs' S') (m : Nat) : KS w gb off t cs S ob (wx.drewN m) L M held xs SL SM cs' S' :=
  ⟨h.row, h.e0, h.e1, h.e2, h.e3, h.oth, h.kept.chg ((Chg.refl [] wx).drewN m) (by simp), h.chg.drewN m, h.news, h.notin⟩
theorem KS.drew (h : KS w gb off t cs S ob wx L M held xs SL SM cs' S') : KS w gb off t cs S ob wx.drew L M held xs SL SM cs' S' := h.drewN 1
theorem KS.set_ (h : KS w gb off t cs S ob wx L M held xs SL SM cs' S') (i : Nat) (u : Value) :
    Row (wx.setCell ⟨gb, i, none⟩ u) gb t (cs'.set i u) ∧ Kept (wx.setCell ⟨gb, i, none⟩ u) L M xs SL SM S' ∧ Chg (gb :: S) w (wx.setCell ⟨gb, i, none⟩ u) :=
  ⟨h.row.set_ i u, h.kept.chg ((Chg.refl [gb] wx).set_ (p := ⟨gb, i, none⟩) (.inl (by simp)) u) (fun k hk hm => h.notin (by
      obtain rfl : k = gb := by simpa using hm
      exact hk)), h.chg.set_ (p := ⟨gb, i, none⟩) (.inl (by simp)) u⟩
theorem KS.holds (h : KS w gb off t cs S ob wx L M held xs SL SM cs' S') (x : Int) : KS w gb off t cs S ob (wx.setCell ⟨gb, off + 2, none⟩ (.int .i64 x)) L M x xs SL SM (cs'.set (off + 2) (.int .i64 x)) S' := by
  obtain ⟨h1, h2, h3⟩ := h.set_ (off + 2) (.int .i64 x)
  refine ⟨h1, ?_, ?_, ?_, ?_, fun i hi => ?_, h2, h3, h.news, h.notin⟩
  · rw [List.getElem?_set_ne (by omega)]; exact h.e0
  · rw [List.getElem?_set_ne (by omega)]; exact h.e1
  · rw [List.getElem?_set_self (List.getElem?_eq_some_iff.1 h.e2).1]
  · rw [List.getElem?_set_ne (by omega)]; exact h.e3
  · rw [List.getElem?_set_ne (by omega)]; exact h.oth i hi
theorem KS.bad (h : KS w gb off t cs S ob wx L M held xs SL SM cs' S') : KS w gb off t cs S ob (wx.setCell ⟨gb, off + 3, none⟩ (.bool false)) L M held xs SL SM (cs'.set (off + 3) (.bool false)) S' := by
  obtain ⟨h1, h2, h3⟩ := h.set_ (off + 3) (.bool false)
  refine ⟨h1, ?_, ?_, ?_, ?_, fun i hi => ?_, h2, h3, h.news, h.notin⟩
  · rw [List.getElem?_set_ne (by omega)]; exact h.e0
  · rw [List.getElem?_set_ne (by omega)]; exact h.e1
  · rw [List.getElem?_set_ne (by omega)]; exact h.e2
  · rw [List.getElem?_set_self (List.getElem?_eq_some_iff.1 h.e3).1]
  · rw [List.getElem?_set_ne (by omega)]; exact h.oth i hi
theorem KS.tail {g o cap g' o' cap' n : Nat} (h : KS w gb off t cs S ob wx (.slice (some ⟨g, o, none⟩) n cap) (.slice (some ⟨g', o', none⟩) n cap') held xs SL SM cs' S') (hn : 1 < n) :
    KS w gb off t cs S ob ((wx.setCell ⟨gb, off, none⟩ (.slice (some ⟨g, o + 1, none⟩) (n - 1) (cap - 1))).setCell ⟨gb, off + 1, none⟩ (.slice (some ⟨g', o' + 1, none⟩) (n - 1) (cap' - 1))) (.slice (some ⟨g, o + 1, none⟩) (n - 1) (cap - 1)) (.slice (some ⟨g', o' + 1, none⟩) (n - 1) (cap' - 1)) held xs.tail SL SM ((cs'.set off (.slice (some ⟨g, o + 1, none⟩) (n - 1) (cap - 1))).set (off + 1) (.slice (some ⟨g', o' + 1, none⟩) (n - 1) (cap' - 1))) S' := by
  have hc : Chg [gb] wx ((wx.setCell ⟨gb, off, none⟩ (.slice (some ⟨g, o + 1, none⟩) (n - 1) (cap - 1))).setCell ⟨gb, off + 1, none⟩ (.slice (some ⟨g', o' + 1, none⟩) (n - 1) (cap' - 1))) := ((Chg.refl [gb] wx).set_ (p := ⟨gb, off, none⟩) (.inl (by simp)) _).set_ (p := ⟨gb, off + 1, none⟩) (.inl (by simp)) _
  have hl : off < cs'.length := (List.getElem?_eq_some_iff.1 h.e0).1
  have hl1 : off + 1 < cs'.length := (List.getElem?_eq_some_iff.1 h.e1).1
  refine ⟨(h.row.set_ off _).set_ (off + 1) _, ?_, ?_, ?_, ?_, fun i hi => ?_, (h.kept.tail hn).chg hc fun k hk hm => h.notin (by
      obtain rfl : k = gb := by simpa using hm
      exact hk), h.chg.trans (hc.wide (T := gb :: S) (by simp)) (fun x hx => .inl hx), h.news, h.notin⟩
  · rw [List.getElem?_set_ne (by omega), List.getElem?_set_self hl]
  · rw [List.getElem?_set_self (by simpa using hl1)]
  · rw [List.getElem?_set_ne (by omega), List.getElem?_set_ne (by omega)]; exact h.e2
  · rw [List.getElem?_set_ne (by omega), List.getElem?_set_ne (by omega)]; exact h.e3
  · rw [List.getElem?_set_ne (by omega), List.getElem?_set_ne (by omega)]; exact h.oth i hi
theorem KS.book (h : KS w gb off t cs S ob wx L M held xs SL SM cs' S') (ht : t ≠ 25 ∧ t ≠ 5) (hN : xs.length ≤ 4000) : Bk wx gb off t cs' S' := ⟨h.row, ht, h.notin, xs, L, M, held, SL, SM, h.e0, h.e1, h.e2, h.e3, hN, h.kept⟩
/-- how the lists lie -/
theorem Kept.slices (h : Kept w L M xs SL SM S) : ∃ A c A' c', L = .slice A xs.length c ∧ M = .slice A' xs.length c' := by
  obtain ⟨A, c, e, _⟩ := h.lists.form
  obtain ⟨A', c', e', _⟩ := h.was.form
  exact ⟨A, c, A', c', e, e'⟩
theorem Kept.slots (h : Kept w L M xs SL SM S) (h0 : 0 < xs.length) : ∃ g o c g' o' c', L = .slice (some ⟨g, o, none⟩) xs.length c ∧ M = .slice (some ⟨g', o', none⟩) xs.length c' ∧ xs.length ≤ c ∧ xs.length ≤ c' ∧ c ≤ 9223372036854775807 ∧ c' ≤ 9223372036854775807 ∧ g ∈ SL ∧ g' ∈ SM ∧ g < w.heap.size ∧ g' < w.heap.size ∧ (∀ k, k < xs.length → w.cell? ⟨g, o + k, none⟩ = (xs.map Itm.v)[k]?) ∧ (∀ k, k < xs.length → w.cell? ⟨g', o' + k, none⟩ = (xs.map Itm.u)[k]?) := by
  have hl := h.lists
  have hm := h.was
  obtain ⟨A, c, e, hc, hA, g, o, hf, hg⟩ := hl.form
  obtain ⟨A', c', e', hc', hA', g', o', hf', hg'⟩ := hm.form
  obtain ⟨rfl, hsl, hcell⟩ := hf.out h0
  obtain ⟨rfl, hsm, hcell'⟩ := hf'.out h0
  have cm : c ≤ 9223372036854775807 := by
    rcases hl.2 with ⟨hv, _⟩ | ⟨_, _, _, _, hv, _, _, _, hcm, _⟩
    · rw [e] at hv; cases hv
    · rw [e] at hv; injection hv with _ _ h3; rw [h3]; unfold maxLen at hcm; exact hcm
  have cm' : c' ≤ 9223372036854775807 := by
    rcases hm.2 with ⟨hv, _⟩ | ⟨_, _, _, _, hv, _, _, _, hcm, _⟩
    · rw [e'] at hv; cases hv
    · rw [e'] at hv; injection hv with _ _ h3; rw [h3]; unfold maxLen at hcm; exact hcm
  exact ⟨g, o, c, g', o', c', e, e', hc, hc', cm, cm', by rw [hsl]; simp, by rw [hsm]; simp, hg h0, hg' h0, hcell, hcell'⟩
end
/-- behind the first append -/
structure Mid1 (w w2 : World) (gb : Nat) (t : TypeId) (cs1 : List Value) (L1 M : Value) (xs : List Itm) (SL S1 SM S : List Nat) (A : Option Addr) (n c : Nat) (bs : List Nat) : Prop where
  row : Row w2 gb t cs1
  lists : Tl w2 25 L1 (xs.length + 1) (xs.map Itm.v ++ [.slice A n c]) S1
  was : Tl w2 25 M xs.length (xs.map Itm.u) SM
  it : ∀ y ∈ xs, y.In w2 S
  own : Own w2 0 A n c bs
  chg : Chg (gb :: S) w w2
  s1 : S1 = SL ∨ ∀ k ∈ S1, w.heap.size ≤ k
theorem keep1 {w w1 : World} {gb off n c : Nat} {t : TypeId} {cs : List Value} {L M L1 : Value} {xs : List Itm} {SL SM S1 S : List Nat} {A : Option Addr} {bs : List Nat} (hk : Kept w L M xs SL SM S) (hrow : Row w gb t cs) (ht1 : t ≠ 25) (ht2 : t ≠ 5) (hnot : gb ∉ S) (ho : Own w 0 A n c bs) (o : Obj)
    (hl : Tl w1 25 L1 (xs.length + 1) (xs.map Itm.v ++ [.slice A n c]) S1) (hc : Chg SL (w.alloc o) w1) (hs : S1 = SL ∨ S1 = [(w.alloc o).heap.size]) :
    Row w1 gb t cs ∧ Mid1 w (w1.setCell ⟨gb, off, none⟩ L1) gb t (cs.set off L1) L1 M xs SL S1 SM S A n c bs := by
  have ca : Chg SL w (w.alloc o) := (Chg.refl _ _).alloc o
  have c1 : Chg SL w w1 := ca.trans hc (fun x hx => .inl hx)
  have hr1 : Row w1 gb t cs := c1.row hrow (fun h => hnot (hk.sl _ h))
  have c2 : Chg (gb :: S) w (w1.setCell ⟨gb, off, none⟩ L1) := (c1.wide (fun k h => by simp; exact .inr (hk.sl k h))).set_ (p := ⟨gb, off, none⟩) (.inl (by simp)) L1
  have c3 : Chg (gb :: SL) w (w1.setCell ⟨gb, off, none⟩ L1) := (c1.wide (fun k h => by simp; exact .inr h)).set_ (p := ⟨gb, off, none⟩) (.inl (by simp)) L1
  have hT : ∀ k ∈ gb :: SL, ∃ e cur, (5 : TypeId) ≠ e ∧ Blk w k e cur := by
    intro k h
    rcases List.mem_cons.1 h with rfl | h
    · exact ⟨t, _, fun h => ht2 h.symm, hrow⟩
    · obtain ⟨cur, hb⟩ := hk.lists.blk k h
      exact ⟨_, cur, by decide, hb⟩
  have hgs1 : gb ∉ S1 := by
    rcases hs with rfl | rfl
    · exact fun h => hnot (hk.sl _ h)
    · have := hrow.lt
      simp only [List.mem_singleton]
      intro h
      rw [h] at this
      simp at this
      omega
  refine ⟨hr1, hr1.set_ off L1, ?_, ?_, fun y hy => (hk.it y hy).other c3 hT, own_other ho c3 hT, c2, ?_⟩
  · exact hl.keep fun k hk' => Below.heap_setCell w1 _ L1 k (fun e => hgs1 (by have e : k = gb := e; rw [← e]; exact hk'))
  · exact hk.was.chg c3 fun k h hm => by
      rcases List.mem_cons.1 hm with rfl | hm
      · exact hnot (hk.sm _ h)
      · exact hk.lm k hm h
  · rcases hs with rfl | rfl
    · exact .inl rfl
    · refine .inr fun k hk' => ?_
      obtain rfl : k = (w.alloc o).heap.size := by simpa using hk'
      simp
theorem keep2 {w w2 w3 w4 : World} {gb off n c c2 : Nat} {t : TypeId} {cs : List Value} {L M L1 M1 : Value} {held : Int} {xs : List Itm} {SL SM S1 S4 S : List Nat} {A A2 : Option Addr} {bs : List Nat} (hk : Kept w L M xs SL SM S) (hrow : Row w gb t cs) (ht1 : t ≠ 25) (ht2 : t ≠ 5) (hnot : gb ∉ S)
    (hf : ∀ k, (Value.slice A n c).ownBlock = some k → k ∉ S ∧ k ≠ gb) (h0 : cs[off]? = some L) (h1 : cs[off + 1]? = some M) (hh : cs[off + 2]? = some (.int .i64 held)) (hbad : cs[off + 3]? = some (.bool false)) (m : Mid1 w w2 gb t (cs.set off L1) L1 M xs SL S1 SM S A n c bs)
    (ho3 : w3.ownsRow 0 5 1 (.slice A2 n c2) n (bs.map u8)) (hg3 : w2.drew.grownBy w3 none) (hat : (Value.slice A2 n c2).ownBlock = none ∨ (Value.slice A2 n c2).ownBlock = some w2.drew.heap.size) (o : Obj)
    (hl4 : Tl w4 25 M1 (xs.length + 1) (xs.map Itm.u ++ [.slice A2 n c2]) S4) (hc4 : Chg SM (w3.alloc o) w4) (hs4 : S4 = SM ∨ S4 = [(w3.alloc o).heap.size]) (N : Nat) (hN : xs.length + 1 ≤ N) :
    Row w4 gb t (cs.set off L1) ∧ KeepInv w gb off t cs S (Value.slice A n c).ownBlock N (w4.setCell ⟨gb, off + 1, none⟩ M1) := by
  have c23 : Chg [] w2 w3 := ⟨hg3.os, hg3.tape, hg3.output, hg3.size, fun k hk _ => hg3.block k hk (by simp)⟩
  have c24 : Chg SM w2 w4 := ((c23.alloc o).wide (fun k h => by cases h)).trans hc4 (fun x hx => .inl hx)
  have hr4 : Row w4 gb t (cs.set off L1) := c24.row m.row (fun h => hnot (hk.sm _ h))
  have c25 : Chg (gb :: SM) w2 (w4.setCell ⟨gb, off + 1, none⟩ M1) := (c24.wide (fun k h => by simp; exact .inr h)).set_ (p := ⟨gb, off + 1, none⟩) (.inl (by simp)) M1
  have ca : Chg (gb :: S) w (w4.setCell ⟨gb, off + 1, none⟩ M1) := m.chg.trans (c25.wide (fun k h => by
    simp at h ⊢
    rcases h with h | h
    · exact .inl h
    · exact .inr (hk.sm k h))) (fun x hx => .inl hx)
  have hT : ∀ k ∈ gb :: SM, ∃ e cur, (5 : TypeId) ≠ e ∧ Blk w2 k e cur := by
    intro k h
    rcases List.mem_cons.1 h with rfl | h
    · exact ⟨t, _, fun h => ht2 h.symm, m.row⟩
    · obtain ⟨cur, hb⟩ := m.was.blk k h
      exact ⟨_, cur, by decide, hb⟩
  have hsz : w.heap.size ≤ w2.heap.size := m.chg.size
  have hglt := hrow.lt
  have hs1lt : ∀ k ∈ S1, k < w2.heap.size := m.lists.lt
  have hs4lt : ∀ k ∈ S4, k < w4.heap.size := hl4.lt
  have h24 : w2.heap.size ≤ w4.heap.size := c24.size
  have hw3 : w2.heap.size ≤ w3.heap.size := c23.size
  have hs1n : ∀ k ∈ S1, k ∈ SL ∨ w.heap.size ≤ k := by
    intro k h
    rcases m.s1 with e | e
    · exact .inl (by rw [← e]; exact h)
    · exact .inr (e k h)
  have hs4n : ∀ k ∈ S4, k ∈ SM ∨ w3.heap.size < k := by
    intro k h
    rcases hs4 with e | e
    · exact .inl (by rw [← e]; exact h)
    · rw [e] at h
      obtain rfl : k = (w3.alloc o).heap.size := by simpa using h
      exact .inr (by simp)
  have hgs4 : gb ∉ S4 := by
    intro h
    rcases hs4n _ h with h | h
    · exact hnot (hk.sm _ h)
    · omega
  have hgs1 : gb ∉ S1 := by
    intro h
    rcases hs1n _ h with h | h
    · exact hnot (hk.sl _ h)
    · omega
  have hatk : ∀ k, (Value.slice A2 n c2).ownBlock = some k → k = w2.heap.size := by
    intro k h
    rcases hat with e | e
    · rw [e] at h; cases h
    · rw [e] at h
      injection h with h
      rw [← h]; rfl
  have hown4 : Own (w4.setCell ⟨gb, off + 1, none⟩ M1) 0 A2 n c2 bs := by
    have h3 : Own w3 0 A2 n c2 bs := ⟨ho3, m.own.2⟩
    have c35 : Chg (gb :: SM) w3 (w4.setCell ⟨gb, off + 1, none⟩ M1) := ((((Chg.refl SM w3).alloc o).trans hc4 (fun x hx => .inl hx)).wide (fun k h => by simp; exact .inr h)).set_ (p := ⟨gb, off + 1, none⟩) (.inl (by simp)) M1
    refine own_chg h3 c35 fun k hk' hm => ?_
    have := hatk k hk'
    rcases List.mem_cons.1 hm with h | h
    · omega
    · have := hk.lt k (hk.sm k h)
      omega
  have ho5 : (cs.set off L1).length = cs.length := by simp
  have hlen : off + 3 < cs.length := (List.getElem?_eq_some_iff.1 hbad).1
  refine ⟨hr4, xs ++ [⟨A, n, c, bs, A2, c2⟩], L1, M1, held, S1, S4, _, S1 ++ S4 ++ S ++ (Value.slice A n c).ownBlock.toList ++ (Value.slice A2 n c2).ownBlock.toList, ⟨hr4.set_ (off + 1) M1, ?_, ?_, ?_, ?_, ?_, ?_, ca, ?_, ?_⟩, ?_⟩
  · rw [List.getElem?_set_ne (by omega), List.getElem?_set_self (by omega)]
  · rw [List.getElem?_set_self (by rw [ho5]; omega)]
  · rw [List.getElem?_set_ne (by omega), List.getElem?_set_ne (by omega)]; exact hh
  · rw [List.getElem?_set_ne (by omega), List.getElem?_set_ne (by omega)]; exact hbad
  · intro i hi
    rw [List.getElem?_set_ne (by omega), List.getElem?_set_ne (by omega)]
  · have hgA : ∀ k, (Value.slice A n c).ownBlock = some k → k ≠ gb := fun k h => (hf k h).2
    have hgA2 : ∀ k, (Value.slice A2 n c2).ownBlock = some k → k ≠ gb := fun k h e => by have := hatk k h; omega
    refine Kept.snoc (S := S) (fun y hy => (m.it y hy).other c25 hT) hk.ap ?_ ?_ ?_ ?_ ?_ ?_ ⟨?_, hown4, ?_, ?_⟩ ?_ ?_
    · exact m.lists.chg c25 fun k h hm => by
        rcases List.mem_cons.1 hm with rfl | hm
        · exact hgs1 h
        · rcases hs1n k h with h2 | h2
          · exact hk.lm k h2 hm
          · have := hk.lt k (hk.sm k hm); omega
    · exact hl4.keep fun k hk' => Below.heap_setCell w4 _ M1 k (fun e => hgs4 (by have e : k = gb := e; rw [← e]; exact hk'))
    · intro k h h'
      rcases hs1n k h with h2 | h2 <;> rcases hs4n k h' with h3 | h3
      · exact hk.lm k h2 h3
      · have := hk.lt k (hk.sl k h2); omega
      · have := hk.lt k (hk.sm k h3); omega
      · have := hs1lt k h; omega
    · intro k h
      simp [h]
    · intro k h
      simp [h]
    · intro k h
      simp [h]
    · exact own_other m.own c25 hT
    · intro k h
      have h : (Value.slice A n c).ownBlock = some k := h
      simp [h]
    · intro k h
      have h : (Value.slice A2 n c2).ownBlock = some k := h
      simp [h]
    · intro y hy k h h'
      exact (hf k h').1 ((hk.it y hy).vs k h)
    · intro k h
      have e5 : (w4.setCell ⟨gb, off + 1, none⟩ M1).heap.size = w4.heap.size := by simp [World.setCell]
      rw [e5]
      simp only [List.mem_append, Option.mem_toList] at h
      rcases h with (((h | h) | h) | h) | h
      · have := hs1lt k h; omega
      · exact hs4lt k h
      · have := hk.lt k h; omega
      · obtain ⟨cur, hb⟩ := own_ne' m.own.1 k h
        have := Blk.lt (cs := cur) hb
        omega
      · have := hatk k h
        obtain ⟨cur, hb⟩ := own_ne' hown4.1 k h
        have := Blk.lt (cs := cur) hb
        rw [e5] at this
        exact this
  · intro k h
    simp only [List.mem_append, Option.mem_toList] at h
    rcases h with (((h | h) | h) | h) | h
    · rcases hs1n k h with h | h
      · exact .inl (hk.sl k h)
      · exact .inr (.inl h)
    · rcases hs4n k h with h | h
      · exact .inl (hk.sm k h)
      · exact .inr (.inl (by omega))
    · exact .inl h
    · exact .inr (.inr h)
    · have := hatk k h
      exact .inr (.inl (by omega))
  · intro h
    simp only [List.mem_append, Option.mem_toList] at h
    rcases h with (((h | h) | h) | h) | h
    · exact hgs1 h
    · exact hgs4 h
    · exact hnot h
    · exact (hf _ h).2 rfl
    · have := hatk _ h; omega
  · simpa using hN
end Go.Proofs.Ytblfagmoilhdnaa
