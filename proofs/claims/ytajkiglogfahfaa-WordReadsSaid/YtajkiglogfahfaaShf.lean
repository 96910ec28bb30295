/- A shelf of readers beside the document's, and the book of what they answered. -/
import Derived.Test.YtajkiglogfahfaaTakes5
import Derived.Test.YtajkiglogfahfaaApart
set_option linter.unusedVariables false
set_option linter.unusedSimpArgs false
namespace Go.Proofs.Ytajkiglogfahfaa
open Go.RowKit

/-- one reader of the shelf -/
structure Sn where
  gr : Nat
  rr : Option Nat
  gv : Nat
  s : Wd.R
def Sn.blocks (x : Sn) : List Nat := x.gr :: x.gv :: x.rr.toList
def Sn.pr (x : Sn) : Value := .pointer (some ⟨x.gr, 0, none⟩)
def Sn.pv (x : Sn) : Value := .pointer (some ⟨x.gv, 0, none⟩)
def Sn.Ok (w : World) (B : Nat) (A : Option Addr) (c : Nat) (bs : List Nat) (x : Sn) : Prop := Pd w B x.gr x.rr x.gv A c x.s ∧ x.s.b = bs
theorem Sn.Ok.types {w : World} {B c : Nat} {A : Option Addr} {bs : List Nat} {x : Sn} (h : x.Ok w B A c bs) : ∀ k ∈ x.blocks, ∃ e cur, (e = 112 ∨ e = 117 ∨ e = 5) ∧ Blk w k e cur := by
  intro k hk
  obtain ⟨⟨c1, h1⟩, h2⟩ := h.1.rd.blk
  have h3 := h.1.ry.1
  simp only [Sn.blocks, List.mem_cons, Option.mem_toList] at hk
  rcases hk with rfl | rfl | hk
  · exact ⟨_, c1.toArray, .inl rfl, h1⟩
  · exact ⟨_, _, .inr (.inl rfl), h3⟩
  · obtain ⟨cur, hb⟩ := h2 k hk; exact ⟨5, cur, .inr (.inr rfl), hb⟩
theorem Sn.Ok.lt {w : World} {B c : Nat} {A : Option Addr} {bs : List Nat} {x : Sn} (h : x.Ok w B A c bs) : ∀ k ∈ x.blocks, k < w.heap.size := by
  intro k hk
  obtain ⟨e, cur, _, hb⟩ := h.types k hk
  exact Blk.lt (cs := cur) hb
theorem Sn.Ok.chg {T : List Nat} {w w' : World} {B c : Nat} {A : Option Addr} {bs : List Nat} {x : Sn} (h : x.Ok w B A c bs) (hc : Chg T w w') (hd : ∀ k ∈ x.blocks, k ∉ T) (hT : ∀ k ∈ T, B ≤ k) (hB : B ≤ w.heap.size) : x.Ok w' B A c bs :=
  ⟨h.1.chg hc (hd _ (by simp [Sn.blocks])) (hd _ (by simp [Sn.blocks])) (fun k hk => hd k (by simp [Sn.blocks, hk])) hT hB, h.2⟩
/-- the shelf, with its book -/
structure Shf (w : World) (B gx : Nat) (A : Option Addr) (n c : Nat) (bs : List Nat) (es : List Sn) (cs : List Value) (L M : Value) (SL SM S : List Nat) : Prop where
  bk : Bk w gx 3 75 cs S
  c0 : cs[0]? = some (.slice A n c)
  c1 : cs[1]? = some L
  c2 : cs[2]? = some M
  ib : IsB w B A n bs ∧ n ≤ c ∧ (A = none → c = 0)
  rs : Tl w 65 L es.length (es.map Sn.pr) SL
  is : Tl w 78 M es.length (es.map Sn.pv) SM
  ok : ∀ x ∈ es, x.Ok w B A c bs
  ap : es.Pairwise fun x y => ∀ k ∈ x.blocks, k ∉ y.blocks
  sb : ∀ x ∈ es, ∀ k ∈ x.blocks, k ∉ S
  sl : ∀ k ∈ SL, k ∉ S
  sm : ∀ k ∈ SM, k ∉ S
  bs_ : B ≤ gx ∧ (∀ k ∈ S, B ≤ k) ∧ (∀ x ∈ es, ∀ k ∈ x.blocks, B ≤ k) ∧ (∀ k ∈ SL, B ≤ k) ∧ ∀ k ∈ SM, B ≤ k
theorem Bk.lt' {w : World} {gb off : Nat} {t : TypeId} {cs : List Value} {S : List Nat} (h : Bk w gb off t cs S) : ∀ k ∈ S, k < w.heap.size := by
  obtain ⟨xs, L, M, held, SL, SM, _, _, _, _, _, hk⟩ := h.rest
  exact hk.lt
section
variable {w w' : World} {B gx n c : Nat} {A : Option Addr} {bs : List Nat} {es : List Sn} {cs : List Value} {L M : Value} {SL SM S : List Nat}
theorem Shf.types (h : Shf w B gx A n c bs es cs L M SL SM S) : (∀ k ∈ SL, ∃ cur, Blk w k 65 cur) ∧ (∀ k ∈ SM, ∃ cur, Blk w k 78 cur) ∧ Blk w gx 75 cs.toArray := ⟨h.rs.blk, h.is.blk, h.bk.row⟩
theorem Shf.chg {T : List Nat} (h : Shf w B gx A n c bs es cs L M SL SM S) (hc : Chg T w w') (h1 : gx ∉ T) (h2 : ∀ k ∈ S, k ∉ T) (h3 : ∀ k ∈ SL, k ∉ T) (h4 : ∀ k ∈ SM, k ∉ T) (h5 : ∀ x ∈ es, ∀ k ∈ x.blocks, k ∉ T) (hT : ∀ k ∈ T, B ≤ k) (hB : B ≤ w.heap.size) : Shf w' B gx A n c bs es cs L M SL SM S :=
  ⟨h.bk.chg hc h2 h1, h.c0, h.c1, h.c2, ⟨h.ib.1.below (hc.below hB hT), h.ib.2⟩, h.rs.chg hc h3, h.is.chg hc h4, fun x hx => (h.ok x hx).chg hc (h5 x hx) hT hB, h.ap, h.sb, h.sl, h.sm, h.bs_⟩
theorem Shf.below (h : Shf w B gx A n c bs es cs L M SL SM S) (hb : Below w.heap.size w w') (hB : B ≤ w.heap.size) : Shf w' B gx A n c bs es cs L M SL SM S :=
  h.chg (T := []) (Chg.of_below hb) (by simp) (by simp) (by simp) (by simp) (by simp) (by simp) hB
theorem Shf.drewN (h : Shf w B gx A n c bs es cs L M SL SM S) (m : Nat) (hB : B ≤ w.heap.size) : Shf (w.drewN m) B gx A n c bs es cs L M SL SM S :=
  h.chg (T := []) ((Chg.refl [] w).drewN m) (by simp) (by simp) (by simp) (by simp) (by simp) (by simp) hB
theorem Shf.at_ (h : Shf w B gx A n c bs es cs L M SL SM S) {i : Nat} {x : Sn} (hx : es[i]? = some x) : ∃ g o d g' o' d', L = .slice (some ⟨g, o, none⟩) es.length d ∧ M = .slice (some ⟨g', o', none⟩) es.length d' ∧ g < w.heap.size ∧ g' < w.heap.size ∧ w.cell? ⟨g, o + i, none⟩ = some (.pointer (some ⟨x.gr, 0, none⟩)) ∧ w.cell? ⟨g', o' + i, none⟩ = some (.pointer (some ⟨x.gv, 0, none⟩)) ∧ g ∈ SL ∧ g' ∈ SM := by
  have hi := (List.getElem?_eq_some_iff.1 hx).1
  obtain ⟨A1, c1, e, hc, hA, g, o, hf, hg⟩ := h.rs.form
  obtain ⟨A', c', e', hc', hA', g', o', hf', hg'⟩ := h.is.form
  obtain ⟨rfl, hsl, hcell⟩ := hf.out (by omega)
  obtain ⟨rfl, hsm, hcell'⟩ := hf'.out (by omega)
  refine ⟨g, o, c1, g', o', c', e, e', hg (by omega), hg' (by omega), ?_, ?_, by rw [hsl]; simp, by rw [hsm]; simp⟩
  · rw [hcell i hi, List.getElem?_map, hx]; rfl
  · rw [hcell' i hi, List.getElem?_map, hx]; rfl
theorem Shf.cells (h : Shf w B gx A n c bs es cs L M SL SM S) : w.cell? ⟨gx, 0, none⟩ = some (.slice A n c) ∧ w.cell? ⟨gx, 1, none⟩ = some L ∧ w.cell? ⟨gx, 2, none⟩ = some M ∧ w.frozen? ⟨gx, 1, none⟩ = false ∧ w.frozen? ⟨gx, 2, none⟩ = false ∧ gx < w.heap.size :=
  ⟨(h.bk.row.cell 0).trans h.c0, (h.bk.row.cell 1).trans h.c1, (h.bk.row.cell 2).trans h.c2, h.bk.row.frozen 1, h.bk.row.frozen 2, h.bk.row.lt⟩
theorem Shf.slices (h : Shf w B gx A n c bs es cs L M SL SM S) : ∃ A1 c1 A' c', L = .slice A1 es.length c1 ∧ M = .slice A' es.length c' := by
  obtain ⟨A1, c1, e, _⟩ := h.rs.form
  obtain ⟨A', c', e', _⟩ := h.is.form
  exact ⟨A1, c1, A', c', e, e'⟩
theorem Shf.away (h : Shf w B gx A n c bs es cs L M SL SM S) {x : Sn} (hx : x ∈ es) : gx ∉ x.blocks ∧ (∀ k ∈ SL, k ∉ x.blocks) ∧ ∀ k ∈ SM, k ∉ x.blocks := by
  obtain ⟨t1, t2, t3⟩ := h.types
  have ht := (h.ok x hx).types
  refine ⟨fun hk => ?_, fun k hk hm => ?_, fun k hk hm => ?_⟩
  · obtain ⟨e, cur, he, hb⟩ := ht gx hk
    refine Blk.ne_ (cs := cs.toArray) (cs' := cur) t3 hb ?_ rfl
    rcases he with rfl | rfl | rfl <;> decide
  · obtain ⟨cur1, hb1⟩ := t1 k hk
    obtain ⟨e, cur, he, hb⟩ := ht k hm
    refine Blk.ne_ (cs := cur1) (cs' := cur) hb1 hb ?_ rfl
    rcases he with rfl | rfl | rfl <;> decide
  · obtain ⟨cur1, hb1⟩ := t2 k hk
    obtain ⟨e, cur, he, hb⟩ := ht k hm
    refine Blk.ne_ (cs := cur1) (cs' := cur) hb1 hb ?_ rfl
    rcases he with rfl | rfl | rfl <;> decide
theorem Shf.apart (h : Shf w B gx A n c bs es cs L M SL SM S) : gx ∉ SL ∧ gx ∉ SM ∧ ∀ k ∈ SL, k ∉ SM := by
  obtain ⟨t1, t2, t3⟩ := h.types
  refine ⟨fun hk => ?_, fun hk => ?_, fun k hk hm => ?_⟩
  · obtain ⟨cur, hb⟩ := t1 gx hk
    exact Blk.ne_ (cs := cs.toArray) (cs' := cur) t3 hb (by decide) rfl
  · obtain ⟨cur, hb⟩ := t2 gx hk
    exact Blk.ne_ (cs := cs.toArray) (cs' := cur) t3 hb (by decide) rfl
  · obtain ⟨cur, hb⟩ := t1 k hk
    obtain ⟨cur', hb'⟩ := t2 k hm
    exact Blk.ne_ (cs := cur) (cs' := cur') hb hb' (by decide) rfl
/-- one reader has gone on -/
theorem Shf.step (h : Shf w B gx A n c bs es cs L M SL SM S) {i : Nat} {x : Sn} (hx : es[i]? = some x) {s' : Wd.R} {cs' : List Value} {S' : List Nat} (hp : Pd w' B x.gr x.rr x.gv A c s') (hbk : Bk w' gx 3 75 cs' S') (hc : Chg (x.gr :: x.gv :: gx :: S) w w') (hn : ∀ k ∈ S', k ∈ S ∨ w.heap.size ≤ k) (ho : ∀ i, (i < 3 ∨ 3 + 4 ≤ i) → cs'[i]? = cs[i]?) (hsb : s'.b = bs) (hB : B ≤ w.heap.size) :
    Shf w' B gx A n c bs (es.set i ⟨x.gr, x.rr, x.gv, s'⟩) cs' L M SL SM S' := by
  have hi := List.getElem?_eq_some_iff.1 hx
  have hmem := List.mem_of_getElem? hx
  obtain ⟨a1, a2, a3⟩ := h.away hmem
  obtain ⟨p1, p2, _⟩ := h.apart
  have hTB : ∀ k ∈ x.gr :: x.gv :: gx :: S, B ≤ k := by
    intro k hk
    simp only [List.mem_cons] at hk
    rcases hk with rfl | rfl | rfl | hk
    · exact h.bs_.2.2.1 x hmem _ (by simp [Sn.blocks])
    · exact h.bs_.2.2.1 x hmem _ (by simp [Sn.blocks])
    · exact h.bs_.1
    · exact h.bs_.2.1 k hk
  have hSL : ∀ k ∈ SL, k ∉ x.gr :: x.gv :: gx :: S := by
    intro k hk hm
    simp only [List.mem_cons] at hm
    rcases hm with rfl | rfl | rfl | hm
    · exact a2 _ hk (by simp [Sn.blocks])
    · exact a2 _ hk (by simp [Sn.blocks])
    · exact p1 hk
    · exact h.sl k hk hm
  have hSM : ∀ k ∈ SM, k ∉ x.gr :: x.gv :: gx :: S := by
    intro k hk hm
    simp only [List.mem_cons] at hm
    rcases hm with rfl | rfl | rfl | hm
    · exact a3 _ hk (by simp [Sn.blocks])
    · exact a3 _ hk (by simp [Sn.blocks])
    · exact p2 hk
    · exact h.sm k hk hm
  have hother : ∀ j y, es[j]? = some y → j ≠ i → (∀ k ∈ y.blocks, k ∉ x.blocks) := by
    intro j y hy hj k hk hm
    have hj1 := List.getElem?_eq_some_iff.1 hy
    have hpw := List.pairwise_iff_getElem.1 h.ap
    rcases Nat.lt_or_gt_of_ne hj with hlt | hlt
    · have := hpw j i hj1.1 hi.1 hlt k (by rw [hj1.2]; exact hk)
      rw [hi.2] at this; exact this hm
    · have := hpw i j hi.1 hj1.1 hlt k (by rw [hi.2]; exact hm)
      rw [hj1.2] at this; exact this hk
  have hset : ∀ y ∈ es.set i ⟨x.gr, x.rr, x.gv, s'⟩, y = ⟨x.gr, x.rr, x.gv, s'⟩ ∨ ∃ j, es[j]? = some y ∧ j ≠ i := by
    intro y hy
    obtain ⟨j, hj, rfl⟩ := List.mem_iff_getElem.1 hy
    rw [List.length_set] at hj
    by_cases e : j = i
    · subst e; left; simp
    · right
      refine ⟨j, ?_, e⟩
      rw [List.getElem_set_ne (by omega), List.getElem?_eq_getElem hj]
  have hblk : (Sn.mk x.gr x.rr x.gv s').blocks = x.blocks := rfl
  have hmapw : (es.set i ⟨x.gr, x.rr, x.gv, s'⟩).map Sn.pr = es.map Sn.pr := by
    rw [List.map_set]
    refine List.ext_getElem? fun j => ?_
    by_cases e : j = i
    · subst e; rw [List.getElem?_set_self (by simpa using hi.1), List.getElem?_map, hx]; rfl
    · rw [List.getElem?_set_ne (by omega)]
  have hmapr : (es.set i ⟨x.gr, x.rr, x.gv, s'⟩).map Sn.pv = es.map Sn.pv := by
    rw [List.map_set]
    refine List.ext_getElem? fun j => ?_
    by_cases e : j = i
    · subst e; rw [List.getElem?_set_self (by simpa using hi.1), List.getElem?_map, hx]; rfl
    · rw [List.getElem?_set_ne (by omega)]
  have hnS : ∀ y ∈ es, ∀ k ∈ y.blocks, k ∉ S' := by
    intro y hy k hk hm
    rcases hn k hm with h2 | h2
    · exact h.sb y hy k hk h2
    · have := (h.ok y hy).lt k hk; omega
  refine ⟨hbk, (ho 0 (by omega)).trans h.c0, (ho 1 (by omega)).trans h.c1, (ho 2 (by omega)).trans h.c2, ⟨h.ib.1.below (hc.below hB hTB), h.ib.2⟩, ?_, ?_, fun y hy => ?_, ?_, fun y hy k hk hks => ?_, fun k hk hm => ?_, fun k hk hm => ?_, h.bs_.1, fun k hk => ?_, fun y hy k hk => ?_, h.bs_.2.2.2⟩
  · rw [hmapw, List.length_set]; exact h.rs.chg hc hSL
  · rw [hmapr, List.length_set]; exact h.is.chg hc hSM
  · rcases hset y hy with rfl | ⟨j, hj, hji⟩
    · exact ⟨hp, hsb⟩
    · refine (h.ok y (List.mem_of_getElem? hj)).chg hc (fun k hk hm => ?_) hTB hB
      simp only [List.mem_cons] at hm
      rcases hm with rfl | rfl | rfl | hm
      · exact hother j y hj hji _ hk (by simp [Sn.blocks])
      · exact hother j y hj hji _ hk (by simp [Sn.blocks])
      · exact (h.away (List.mem_of_getElem? hj)).1 hk
      · exact h.sb y (List.mem_of_getElem? hj) k hk hm
  · rw [List.pairwise_iff_getElem]
    intro a b ha hb hab
    have ha' : a < es.length := by simpa using ha
    have hb' : b < es.length := by simpa using hb
    have hpw := List.pairwise_iff_getElem.1 h.ap a b ha' hb' hab
    by_cases ea : a = i
    · subst ea
      rw [List.getElem_set_self, List.getElem_set_ne (by omega), hblk]
      rw [hi.2] at hpw
      exact hpw
    · by_cases eb : b = i
      · subst eb
        rw [List.getElem_set_self, List.getElem_set_ne (by omega), hblk]
        rw [hi.2] at hpw
        exact hpw
      · rw [List.getElem_set_ne (by omega), List.getElem_set_ne (by omega)]
        exact hpw
  · rcases hset y hy with rfl | ⟨j, hj, hji⟩
    · exact hnS x hmem k hk hks
    · exact hnS y (List.mem_of_getElem? hj) k hk hks
  · rcases hn k hm with h2 | h2
    · exact h.sl k hk h2
    · have := h.rs.lt k hk; omega
  · rcases hn k hm with h2 | h2
    · exact h.sm k hk h2
    · have := h.is.lt k hk; omega
  · rcases hn k hk with h2 | h2
    · exact h.bs_.2.1 k h2
    · omega
  · rcases hset y hy with rfl | ⟨j, hj, hji⟩
    · exact h.bs_.2.2.1 x hmem k hk
    · exact h.bs_.2.2.1 y (List.mem_of_getElem? hj) k hk
end
end Go.Proofs.Ytajkiglogfahfaa
