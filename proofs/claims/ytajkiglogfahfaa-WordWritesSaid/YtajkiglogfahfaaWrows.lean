/- A row of writers beside the document's, and the book of what they told. -/
import Derived.Test.YtajkiglogfahfaaLays5
import Derived.Test.YtajkiglogfahfaaKeep
import Derived.Test.YtajkiglogfahfaaApart
set_option linter.unusedVariables false
set_option linter.unusedSimpArgs false
namespace Go.Proofs.Ytajkiglogfahfaa
open Go.RowKit

/-- one writer of the row -/
structure En where
  gw : Nat
  rw : Option Nat
  gr : Nat
  rr : Option Nat
  s : Wd.W
def En.blocks (x : En) : List Nat := x.gw :: x.rw.toList ++ x.gr :: x.rr.toList
def En.pw (x : En) : Value := .pointer (some ⟨x.gw, 0, none⟩)
def En.pr (x : En) : Value := .pointer (some ⟨x.gr, 0, none⟩)
def En.Ok (w : World) (x : En) : Prop := Pr w x.gw x.rw x.gr x.rr x.s
theorem En.Ok.types {w : World} {x : En} (h : x.Ok w) : ∀ k ∈ x.blocks, ∃ e cur, (e = 108 ∨ e = 104 ∨ e = 5) ∧ Blk w k e cur := by
  intro k hk
  obtain ⟨⟨c1, h1⟩, h2⟩ := h.wr.blk
  obtain ⟨⟨c3, h3⟩, h4⟩ := h.rf.blk
  simp only [En.blocks, List.cons_append, List.mem_cons, List.mem_append, Option.mem_toList] at hk
  rcases hk with rfl | hk | rfl | hk
  · exact ⟨_, c1.toArray, .inl rfl, h1⟩
  · obtain ⟨cur, hb⟩ := h2 k hk; exact ⟨5, cur, .inr (.inr rfl), hb⟩
  · exact ⟨_, c3.toArray, .inr (.inl rfl), h3⟩
  · obtain ⟨cur, hb⟩ := h4 k hk; exact ⟨5, cur, .inr (.inr rfl), hb⟩
theorem En.Ok.lt {w : World} {x : En} (h : x.Ok w) : ∀ k ∈ x.blocks, k < w.heap.size := by
  intro k hk
  obtain ⟨e, cur, _, hb⟩ := h.types k hk
  exact Blk.lt (cs := cur) hb
theorem En.Ok.chg {T : List Nat} {w w' : World} {x : En} (h : x.Ok w) (hc : Chg T w w') (hd : ∀ k ∈ x.blocks, k ∉ T) : x.Ok w' := Pr.chg h hc hd
/-- the row, with its book -/
structure Wrow (w : World) (B gx : Nat) (es : List En) (cs : List Value) (L M : Value) (SL SM S : List Nat) : Prop where
  bk : Bk w gx 2 51 cs S
  c0 : cs[0]? = some L
  c1 : cs[1]? = some M
  ws : Tl w 58 L es.length (es.map En.pw) SL
  is : Tl w 102 M es.length (es.map En.pr) SM
  ok : ∀ x ∈ es, x.Ok w
  ap : es.Pairwise fun x y => ∀ k ∈ x.blocks, k ∉ y.blocks
  sb : ∀ x ∈ es, ∀ k ∈ x.blocks, k ∉ S
  sl : ∀ k ∈ SL, k ∉ S
  sm : ∀ k ∈ SM, k ∉ S
  bs : B ≤ gx ∧ (∀ k ∈ S, B ≤ k) ∧ (∀ x ∈ es, ∀ k ∈ x.blocks, B ≤ k) ∧ (∀ k ∈ SL, B ≤ k) ∧ ∀ k ∈ SM, B ≤ k
theorem Bk.lt {w : World} {gb off : Nat} {t : TypeId} {cs : List Value} {S : List Nat} (h : Bk w gb off t cs S) : ∀ k ∈ S, k < w.heap.size := by
  obtain ⟨xs, L, M, held, SL, SM, _, _, _, _, _, hk⟩ := h.rest
  exact hk.lt
section
variable {w w' : World} {B gx : Nat} {es : List En} {cs : List Value} {L M : Value} {SL SM S : List Nat}
theorem Wrow.types (h : Wrow w B gx es cs L M SL SM S) : (∀ k ∈ SL, ∃ cur, Blk w k 58 cur) ∧ (∀ k ∈ SM, ∃ cur, Blk w k 102 cur) ∧ Blk w gx 51 cs.toArray := ⟨h.ws.blk, h.is.blk, h.bk.row⟩
/-- nothing of it is touched -/
theorem Wrow.chg {T : List Nat} (h : Wrow w B gx es cs L M SL SM S) (hc : Chg T w w') (h1 : gx ∉ T) (h2 : ∀ k ∈ S, k ∉ T) (h3 : ∀ k ∈ SL, k ∉ T) (h4 : ∀ k ∈ SM, k ∉ T) (h5 : ∀ x ∈ es, ∀ k ∈ x.blocks, k ∉ T) : Wrow w' B gx es cs L M SL SM S :=
  ⟨h.bk.chg hc h2 h1, h.c0, h.c1, h.ws.chg hc h3, h.is.chg hc h4, fun x hx => (h.ok x hx).chg hc (h5 x hx), h.ap, h.sb, h.sl, h.sm, h.bs⟩
theorem Wrow.below (h : Wrow w B gx es cs L M SL SM S) (hb : Below w.heap.size w w') : Wrow w' B gx es cs L M SL SM S :=
  h.chg (T := []) (Chg.of_below hb) (by simp) (by simp) (by simp) (by simp) (by simp)
theorem Wrow.drewN (h : Wrow w B gx es cs L M SL SM S) (m : Nat) : Wrow (w.drewN m) B gx es cs L M SL SM S :=
  h.chg (T := []) ((Chg.refl [] w).drewN m) (by simp) (by simp) (by simp) (by simp) (by simp)
/-- where the writers lie -/
theorem Wrow.at_ (h : Wrow w B gx es cs L M SL SM S) {i : Nat} {x : En} (hx : es[i]? = some x) : ∃ g o c g' o' c', L = .slice (some ⟨g, o, none⟩) es.length c ∧ M = .slice (some ⟨g', o', none⟩) es.length c' ∧ g < w.heap.size ∧ g' < w.heap.size ∧ w.cell? ⟨g, o + i, none⟩ = some (.pointer (some ⟨x.gw, 0, none⟩)) ∧ w.cell? ⟨g', o' + i, none⟩ = some (.pointer (some ⟨x.gr, 0, none⟩)) := by
  have hi := (List.getElem?_eq_some_iff.1 hx).1
  obtain ⟨A, c, e, hc, hA, g, o, hf, hg⟩ := h.ws.form
  obtain ⟨A', c', e', hc', hA', g', o', hf', hg'⟩ := h.is.form
  obtain ⟨rfl, hsl, hcell⟩ := hf.out (by omega)
  obtain ⟨rfl, hsm, hcell'⟩ := hf'.out (by omega)
  refine ⟨g, o, c, g', o', c', e, e', hg (by omega), hg' (by omega), ?_, ?_⟩
  · rw [hcell i hi, List.getElem?_map, hx]; rfl
  · rw [hcell' i hi, List.getElem?_map, hx]; rfl
theorem Wrow.cells (h : Wrow w B gx es cs L M SL SM S) : w.cell? ⟨gx, 0, none⟩ = some L ∧ w.cell? ⟨gx, 1, none⟩ = some M ∧ w.frozen? ⟨gx, 0, none⟩ = false ∧ w.frozen? ⟨gx, 1, none⟩ = false ∧ gx < w.heap.size :=
  ⟨(h.bk.row.cell 0).trans h.c0, (h.bk.row.cell 1).trans h.c1, h.bk.row.frozen 0, h.bk.row.frozen 1, h.bk.row.lt⟩
theorem Wrow.slices (h : Wrow w B gx es cs L M SL SM S) : ∃ A c A' c', L = .slice A es.length c ∧ M = .slice A' es.length c' := by
  obtain ⟨A, c, e, _⟩ := h.ws.form
  obtain ⟨A', c', e', _⟩ := h.is.form
  exact ⟨A, c, A', c', e, e'⟩
/-- one writer has gone on -/
theorem Wrow.step (h : Wrow w B gx es cs L M SL SM S) {i : Nat} {x : En} (hx : es[i]? = some x) {rw1 rr1 : Option Nat} {s1 : Wd.W} (hp : Pr w' x.gw rw1 x.gr rr1 s1) (hc : Chg x.blocks w w') (m1 : Moved w x.rw rw1) (m2 : Moved w x.rr rr1) (hB : B ≤ w.heap.size) :
    Wrow w' B gx (es.set i ⟨x.gw, rw1, x.gr, rr1, s1⟩) cs L M SL SM S := by
  have hi := List.getElem?_eq_some_iff.1 hx
  have hmem := List.mem_of_getElem? hx
  have hok := h.ok x hmem
  obtain ⟨t1, t2, t3⟩ := h.types
  have ht := hok.types
  have hgx : gx ∉ x.blocks := by
    intro hk
    obtain ⟨e, cur, he, hb⟩ := ht gx hk
    refine Blk.ne_ (cs := cs.toArray) (cs' := cur) t3 hb ?_ rfl
    rcases he with rfl | rfl | rfl <;> decide
  have hSL : ∀ k ∈ SL, k ∉ x.blocks := by
    intro k hk hm
    obtain ⟨cur1, hb1⟩ := t1 k hk
    obtain ⟨e, cur, he, hb⟩ := ht k hm
    refine Blk.ne_ (cs := cur1) (cs' := cur) hb1 hb ?_ rfl
    rcases he with rfl | rfl | rfl <;> decide
  have hSM : ∀ k ∈ SM, k ∉ x.blocks := by
    intro k hk hm
    obtain ⟨cur1, hb1⟩ := t2 k hk
    obtain ⟨e, cur, he, hb⟩ := ht k hm
    refine Blk.ne_ (cs := cur1) (cs' := cur) hb1 hb ?_ rfl
    rcases he with rfl | rfl | rfl <;> decide
  have hnew : ∀ k ∈ (En.mk x.gw rw1 x.gr rr1 s1).blocks, k ∈ x.blocks ∨ w.heap.size ≤ k := by
    intro k hk
    simp only [En.blocks, List.cons_append, List.mem_cons, List.mem_append, Option.mem_toList] at hk ⊢
    rcases hk with hk | hk | hk | hk
    · exact .inl (.inl hk)
    · rcases m1 with rfl | ⟨k', rfl, hk'⟩
      · exact .inl (.inr (.inl hk))
      · injection hk with hk; exact .inr (by omega)
    · exact .inl (.inr (.inr (.inl hk)))
    · rcases m2 with rfl | ⟨k', rfl, hk'⟩
      · exact .inl (.inr (.inr (.inr hk)))
      · injection hk with hk; exact .inr (by omega)
  have hother : ∀ j y, es[j]? = some y → j ≠ i → (∀ k ∈ y.blocks, k ∉ x.blocks) := by
    intro j y hy hj k hk hm
    have hj1 := List.getElem?_eq_some_iff.1 hy
    have hpw := List.pairwise_iff_getElem.1 h.ap
    rcases Nat.lt_or_gt_of_ne hj with hlt | hlt
    · have := hpw j i hj1.1 hi.1 hlt k (by rw [hj1.2]; exact hk)
      rw [hi.2] at this; exact this hm
    · have := hpw i j hi.1 hj1.1 hlt k (by rw [hi.2]; exact hm)
      rw [hj1.2] at this; exact this hk
  have hset : ∀ y ∈ es.set i ⟨x.gw, rw1, x.gr, rr1, s1⟩, y = ⟨x.gw, rw1, x.gr, rr1, s1⟩ ∨ ∃ j, es[j]? = some y ∧ j ≠ i := by
    intro y hy
    obtain ⟨j, hj, rfl⟩ := List.mem_iff_getElem.1 hy
    rw [List.length_set] at hj
    by_cases e : j = i
    · subst e; left; simp
    · right
      refine ⟨j, ?_, e⟩
      rw [List.getElem_set_ne (by omega), List.getElem?_eq_getElem hj]
  have hmapw : (es.set i ⟨x.gw, rw1, x.gr, rr1, s1⟩).map En.pw = es.map En.pw := by
    rw [List.map_set]
    refine List.ext_getElem? fun j => ?_
    by_cases e : j = i
    · subst e; rw [List.getElem?_set_self (by simpa using hi.1), List.getElem?_map, hx]; rfl
    · rw [List.getElem?_set_ne (by omega)]
  have hmapr : (es.set i ⟨x.gw, rw1, x.gr, rr1, s1⟩).map En.pr = es.map En.pr := by
    rw [List.map_set]
    refine List.ext_getElem? fun j => ?_
    by_cases e : j = i
    · subst e; rw [List.getElem?_set_self (by simpa using hi.1), List.getElem?_map, hx]; rfl
    · rw [List.getElem?_set_ne (by omega)]
  refine ⟨h.bk.chg hc (fun k hk hm => h.sb x hmem k hm hk) hgx, h.c0, h.c1, ?_, ?_, fun y hy => ?_, ?_, fun y hy k hk hks => ?_, h.sl, h.sm, h.bs.1, h.bs.2.1, fun y hy k hk => ?_, h.bs.2.2.2⟩
  · rw [hmapw, List.length_set]; exact h.ws.chg hc hSL
  · rw [hmapr, List.length_set]; exact h.is.chg hc hSM
  · rcases hset y hy with rfl | ⟨j, hj, hji⟩
    · exact hp
    · exact (h.ok y (List.mem_of_getElem? hj)).chg hc (hother j y hj hji)
  · rw [List.pairwise_iff_getElem]
    intro a b ha hb hab
    have ha' : a < es.length := by simpa using ha
    have hb' : b < es.length := by simpa using hb
    have hpw := List.pairwise_iff_getElem.1 h.ap a b ha' hb' hab
    by_cases ea : a = i
    · subst ea
      rw [List.getElem_set_self, List.getElem_set_ne (by omega)]
      intro k hk hm
      rcases hnew k hk with h1 | h1
      · exact hother b _ (List.getElem?_eq_getElem hb') (by omega) k hm h1
      · have := (h.ok _ (List.getElem_mem hb')).lt k hm; omega
    · by_cases eb : b = i
      · subst eb
        rw [List.getElem_set_self, List.getElem_set_ne (by omega)]
        intro k hk hm
        rcases hnew k hm with h1 | h1
        · exact hother a _ (List.getElem?_eq_getElem ha') (by omega) k hk h1
        · have := (h.ok _ (List.getElem_mem ha')).lt k hk; omega
      · rw [List.getElem_set_ne (by omega), List.getElem_set_ne (by omega)]
        exact hpw
  · rcases hset y hy with rfl | ⟨j, hj, hji⟩
    · rcases hnew k hk with h1 | h1
      · exact h.sb x hmem k h1 hks
      · have := h.bk.lt k hks; omega
    · exact h.sb y (List.mem_of_getElem? hj) k hk hks
  · rcases hset y hy with rfl | ⟨j, hj, hji⟩
    · rcases hnew k hk with h1 | h1
      · exact h.bs.2.2.1 x hmem k h1
      · omega
    · exact h.bs.2.2.1 y (List.mem_of_getElem? hj) k hk
/-- the book has kept a list -/
theorem Wrow.kept {w1 w2 : World} (h : Wrow w B gx es cs L M SL SM S) (hb : Below w.heap.size w w1) {cs' : List Value} {S' : List Nat} (hbk : Bk w2 gx 2 51 cs' S') (hc : Chg (gx :: S) w1 w2) (hn : ∀ k ∈ S', k ∈ S ∨ w.heap.size ≤ k) (ho : ∀ i, (i < 2 ∨ 2 + 4 ≤ i) → cs'[i]? = cs[i]?) (hB : B ≤ w.heap.size) :
    Wrow w2 B gx es cs' L M SL SM S' := by
  have h1 := h.below hb
  obtain ⟨t1, t2, t3⟩ := h1.types
  have hgx : ∀ x ∈ es, gx ∉ x.blocks := by
    intro x hx hk
    obtain ⟨e, cur, he, hb⟩ := (h1.ok x hx).types gx hk
    refine Blk.ne_ (cs := cs.toArray) (cs' := cur) t3 hb ?_ rfl
    rcases he with rfl | rfl | rfl <;> decide
  have hgl : gx ∉ SL := fun hk => by
    obtain ⟨cur, hb⟩ := t1 gx hk
    exact Blk.ne_ (cs := cs.toArray) (cs' := cur) t3 hb (by decide) rfl
  have hgm : gx ∉ SM := fun hk => by
    obtain ⟨cur, hb⟩ := t2 gx hk
    exact Blk.ne_ (cs := cs.toArray) (cs' := cur) t3 hb (by decide) rfl
  refine ⟨hbk, (ho 0 (by omega)).trans h.c0, (ho 1 (by omega)).trans h.c1, h1.ws.chg hc fun k hk hm => ?_, h1.is.chg hc fun k hk hm => ?_, fun x hx => (h1.ok x hx).chg hc fun k hk hm => ?_, h.ap, fun x hx k hk hm => ?_, fun k hk hm => ?_, fun k hk hm => ?_, h.bs.1, fun k hk => ?_, h.bs.2.2⟩
  · rcases List.mem_cons.1 hm with rfl | hm
    · exact hgl hk
    · exact h.sl k hk hm
  · rcases List.mem_cons.1 hm with rfl | hm
    · exact hgm hk
    · exact h.sm k hk hm
  · rcases List.mem_cons.1 hm with rfl | hm
    · exact hgx x hx hk
    · exact h.sb x hx k hk hm
  · rcases hn k hm with h2 | h2
    · exact h.sb x hx k hk h2
    · have := (h.ok x hx).lt k hk; omega
  · rcases hn k hm with h2 | h2
    · exact h.sl k hk h2
    · have := h.ws.lt k hk; omega
  · rcases hn k hm with h2 | h2
    · exact h.sm k hk h2
    · have := h.is.lt k hk; omega
  · rcases hn k hk with h2 | h2
    · exact h.bs.2.1 k h2
    · omega
end
end Go.Proofs.Ytajkiglogfahfaa
