/- Texts of this claim, one behind the other: PgP, PgQ, PgR, PgU, PgV, PgX, PrA, PrB, PrC. -/
import Derived.Test.YtblfagmoilhdnaaJPagesBuilds2
import Derived.Test.YtblfagmoilhdnaaJPagesBuilds3
import Derived.Deep.QuietTactic
import Derived.Deep.Cut
import Derived.Deep.DeepCutAuto
import Derived.Deep.RegionHeld3
import Derived.Deep.RegionWith
/- Plain law: the builder's tables are told by the pages: each table has a label, each entry is a page's number or names a table. -/
set_option linter.unusedVariables false
set_option linter.unusedSimpArgs false
namespace Go.Proofs.Ytblfagmoilhdnaa
namespace Pg
def bu (b : Bool) : Nat := if b then 2097152 else 4096
theorem Pge.u_bu (q : Pge) : q.u = bu q.b := rfl
/-- the page that has an index among the pages of its size -/
def pageAt (qs : List Pge) (b : Bool) (k : Nat) : Nat := match qs.find? (fun q => q.b == b && q.v / bu b == k) with
  | some q => q.num
  | none => 0
def entry (base : Nat) (L : List Lab) (qs : List Pge) (t : Lab) (e : Nat) : Nat :=
  if t.1 = 0 then (if (1, e) ∈ L then ptr base (L.idxOf (1, e)) else 0)
  else if t.1 = 1 then (if (2, t.2 * 512 + e) ∈ L then ptr base (L.idxOf (2, t.2 * 512 + e)) else pageAt qs true (t.2 * 512 + e))
  else pageAt qs false (t.2 * 512 + e)
def cell (a : List (List Nat)) (i e : Nat) : Nat := (a.getD i []).getD e 0
theorem cell_setE {a : List (List Nat)} {t e x : Nat} (ht : t < a.length) (hl : (a.getD t []).length = 512) (he : e < 512) (i e' : Nat) : cell (setE a t e x) i e' = if i = t ∧ e' = e then x else cell a i e' := by
  unfold cell setE
  by_cases h : i = t
  · subst h
    rw [List.getD_eq_getElem?_getD (l := a.set i _), List.getElem?_set_self ht]
    simp only [Option.getD_some]
    rw [List.getD_eq_getElem?_getD (l := List.set _ _ _), List.getElem?_set]
    by_cases h2 : e = e'
    · subst h2
      rw [if_pos rfl, if_pos (by rw [hl]; exact he)]
      simp
    · rw [if_neg h2, if_neg (by rintro ⟨_, h⟩; exact h2 h.symm), List.getD_eq_getElem?_getD (l := a.getD i [])]
  · rw [if_neg (by rintro ⟨h', _⟩; exact h h'), List.getD_eq_getElem?_getD (l := a.set t _), List.getElem?_set_ne (fun h' => h h'.symm), ← List.getD_eq_getElem?_getD]
theorem tab_setE {a : List (List Nat)} {t e x : Nat} (h : ∀ i, i < a.length → (a.getD i []).length = 512) : ∀ i, i < (setE a t e x).length → ((setE a t e x).getD i []).length = 512 := by
  intro i hi
  rw [setE_len] at hi
  unfold setE
  by_cases h1 : i = t
  · subst h1
    rw [List.getD_eq_getElem?_getD, List.getElem?_set_self hi]
    simp only [Option.getD_some, List.length_set]
    exact h i hi
  · rw [List.getD_eq_getElem?_getD, List.getElem?_set_ne (fun h' => h1 h'.symm), ← List.getD_eq_getElem?_getD]
    exact h i hi
theorem cell_snoc {a : List (List Nat)} (i e : Nat) : cell (a ++ [zero512]) i e = if i < a.length then cell a i e else 0 := by
  unfold cell
  by_cases h : i < a.length
  · rw [if_pos h, List.getD_eq_getElem?_getD (l := a ++ _), List.getElem?_append_left h, ← List.getD_eq_getElem?_getD]
  · rw [if_neg h, List.getD_eq_getElem?_getD (l := a ++ _), List.getElem?_append_right (by omega)]
    by_cases h2 : i - a.length = 0
    · rw [h2]
      show (List.replicate 512 0).getD e 0 = 0
      rw [List.getD_eq_getElem?_getD, List.getElem?_replicate]
      split <;> rfl
    · rw [List.getElem?_eq_none (by simp; omega)]
      rfl
theorem tab_snoc {a : List (List Nat)} (h : ∀ i, i < a.length → (a.getD i []).length = 512) : ∀ i, i < (a ++ [zero512]).length → ((a ++ [zero512]).getD i []).length = 512 := by
  intro i hi
  rw [List.length_append] at hi
  by_cases h1 : i < a.length
  · rw [List.getD_eq_getElem?_getD, List.getElem?_append_left h1, ← List.getD_eq_getElem?_getD]
    exact h i h1
  · have : i = a.length := by simp at hi; omega
    subst this
    rw [List.getD_eq_getElem?_getD, List.getElem?_append_right (Nat.le_refl _)]
    rw [Nat.sub_self]
    exact List.length_replicate
/-- tables with labels and pages -/
structure Rep (base : Nat) (L : List Lab) (qs : List Pge) (all : List (List Nat)) : Prop where
  len : all.length = L.length
  tab : ∀ i, i < all.length → (all.getD i []).length = 512
  ent : ∀ i t, L[i]? = some t → ∀ e, e < 512 → cell all i e = entry base L qs t e
theorem entry_more {base : Nat} {L : List Lab} {qs : List Pge} {t s : Lab} {e : Nat} (h : ¬ (t.1 = 0 ∧ s = (1, e))) (h2 : ¬ (t.1 = 1 ∧ s = (2, t.2 * 512 + e))) : entry base (L ++ [s]) qs t e = entry base L qs t e := by
  have key : ∀ x : Lab, x ≠ s → ((x ∈ L ++ [s]) ↔ x ∈ L) ∧ (x ∈ L → (L ++ [s]).idxOf x = L.idxOf x) := fun x hx => by
    refine ⟨by simp [hx], fun hm => ?_⟩
    rw [List.idxOf_append, if_pos hm]
  unfold entry
  by_cases h0 : t.1 = 0
  · rw [if_pos h0, if_pos h0]
    have k := key (1, e) (fun h' => h ⟨h0, h'.symm⟩)
    by_cases hm : (1, e) ∈ L
    · rw [if_pos (k.1.2 hm), if_pos hm, k.2 hm]
    · rw [if_neg (fun h' => hm (k.1.1 h')), if_neg hm]
  · rw [if_neg h0, if_neg h0]
    by_cases h1 : t.1 = 1
    · rw [if_pos h1, if_pos h1]
      have k := key (2, t.2 * 512 + e) (fun h' => h2 ⟨h1, h'.symm⟩)
      by_cases hm : (2, t.2 * 512 + e) ∈ L
      · rw [if_pos (k.1.2 hm), if_pos hm, k.2 hm]
      · rw [if_neg (fun h' => hm (k.1.1 h')), if_neg hm]
    · rw [if_neg h1, if_neg h1]
theorem idxOf_snoc {L : List Lab} {s : Lab} (h : s ∉ L) : (L ++ [s]).idxOf s = L.length := by
  rw [List.idxOf_append, if_neg h]; simp
theorem nodup_at {L : List Lab} (h : L.Nodup) {i j : Nat} {t : Lab} (hi : L[i]? = some t) (hj : L[j]? = some t) : i = j := by
  obtain ⟨h1, e1⟩ := List.getElem?_eq_some_iff.1 hi
  obtain ⟨h2, e2⟩ := List.getElem?_eq_some_iff.1 hj
  exact (List.getElem_inj h).1 (e1.trans e2.symm)
/-- a new table -/
theorem Rep.child {base : Nat} {L : List Lab} {qs : List Pge} {all : List (List Nat)} (h : Rep base L qs all) (hg : Good L) {s p : Lab} {ip e : Nat} (hs : s ∉ L) (hp : L[ip]? = some p) (he : e < 512)
    (hname : p.1 = 0 ∧ s = (1, e) ∨ p.1 = 1 ∧ s = (2, p.2 * 512 + e)) (hnew : ∀ x, x < 512 → entry base (L ++ [s]) qs s x = 0) :
    Rep base (L ++ [s]) qs (childE base all ip e) := by
  have hil : ip < L.length := (List.getElem?_eq_some_iff.1 hp).1
  have hia : ip < (all ++ [zero512]).length := by rw [List.length_append, h.len]; simp; omega
  have htab := tab_snoc h.tab
  refine ⟨by rw [childE_len, h.len]; simp, ?_, ?_⟩
  · unfold childE
    exact tab_setE htab
  · intro i t hi x hx
    unfold childE
    rw [cell_setE hia (htab _ hia) he, cell_snoc]
    by_cases hit : i = ip ∧ x = e
    · obtain ⟨rfl, rfl⟩ := hit
      rw [if_pos ⟨rfl, rfl⟩]
      rw [List.getElem?_append_left hil, hp] at hi
      injection hi with hi
      subst hi
      unfold entry
      rcases hname with ⟨h0, rfl⟩ | ⟨h1, rfl⟩
      · rw [if_pos h0, if_pos (by simp), idxOf_snoc hs, h.len]
      · rw [if_neg (by omega), if_pos h1, if_pos (by simp), idxOf_snoc hs, h.len]
    · rw [if_neg hit]
      by_cases hl : i < all.length
      · rw [if_pos hl]
        rw [List.getElem?_append_left (by rw [← h.len]; exact hl)] at hi
        rw [h.ent i t hi x hx, entry_more]
        · rintro ⟨a, b⟩
          rcases hname with ⟨h0, hs'⟩ | ⟨h1, hs'⟩
          · rw [hs'] at b; injection b with _ b
            have e1 := hg.lev t (List.mem_of_getElem? hi) a
            have e2 := hg.lev p (List.mem_of_getElem? hp) h0
            subst e1 e2
            exact hit ⟨nodup_at hg.nd hi hp, b.symm⟩
          · rw [hs'] at b; injection b with b _; omega
        · rintro ⟨a, b⟩
          rcases hname with ⟨h0, hs'⟩ | ⟨h1, hs'⟩
          · rw [hs'] at b; injection b with b _; omega
          · rw [hs'] at b; injection b with _ b
            have e1 : t = p := by
              obtain ⟨t1, t2⟩ := t
              obtain ⟨p1, p2⟩ := p
              simp only at a h1 b
              subst a h1
              have : t2 = p2 := by omega
              rw [this]
            subst e1
            exact hit ⟨nodup_at hg.nd hi hp, by omega⟩
      · rw [if_neg hl]
        have hi2 : i = L.length := by
          have := (List.getElem?_eq_some_iff.1 hi).1
          rw [List.length_append] at this
          have h3 := h.len
          simp at this
          omega
        subst hi2
        simp at hi
        subst hi
        exact (hnew x hx).symm
theorem pageAt_snoc {qs : List Pge} {q : Pge} {b : Bool} {k : Nat} (h : ¬ (q.b = b ∧ q.v / bu b = k)) : pageAt (qs ++ [q]) b k = pageAt qs b k := by
  unfold pageAt
  rw [List.find?_append]
  cases hf : qs.find? (fun q => q.b == b && q.v / bu b == k) with
  | some x => simp
  | none =>
    have : ¬ ((q.b == b && q.v / bu b == k) = true) := by simpa using h
    simp [List.find?_cons, this]
theorem pageAt_new {qs : List Pge} {q : Pge} (h : ∀ x ∈ qs, ¬ (x.b = q.b ∧ x.v / q.u = q.v / q.u)) : pageAt (qs ++ [q]) q.b (q.v / q.u) = q.num := by
  unfold pageAt
  rw [List.find?_append, List.find?_eq_none.2 (by
    intro x hx
    have := h x hx
    rw [Pge.u_bu] at this
    simpa [Pge.u_bu] using this)]
  simp [List.find?_cons, Pge.u_bu]
theorem entry_page {base : Nat} {L : List Lab} {qs : List Pge} {q : Pge} {t : Lab} {e : Nat} (h : ¬ (t.1 = 1 ∧ q.b = true ∧ q.v / 2097152 = t.2 * 512 + e)) (h2 : ¬ (t.1 ≠ 0 ∧ t.1 ≠ 1 ∧ q.b = false ∧ q.v / 4096 = t.2 * 512 + e)) : entry base L (qs ++ [q]) t e = entry base L qs t e := by
  unfold entry
  by_cases h0 : t.1 = 0
  · rw [if_pos h0, if_pos h0]
  · rw [if_neg h0, if_neg h0]
    by_cases h1 : t.1 = 1
    · rw [if_pos h1, if_pos h1, pageAt_snoc (fun hx => h ⟨h1, hx.1, hx.2⟩)]
    · rw [if_neg h1, if_neg h1, pageAt_snoc (fun hx => h2 ⟨h0, h1, hx.1, hx.2⟩)]
/-- a new page -/
theorem Rep.page {base : Nat} {L : List Lab} {qs : List Pge} {all : List (List Nat)} (h : Rep base L qs all) (hg : Good L) (hlev : ∀ t ∈ L, t.1 ≤ 2) {q : Pge} {i0 : Nat}
    (hi0 : L[i0]? = some (if q.b then (1, q.v / 1073741824) else (2, q.v / 2097152))) (hfree : q.b = true → (2, q.v / 2097152) ∉ L) (hnew : ∀ x ∈ qs, ¬ (x.b = q.b ∧ x.v / q.u = q.v / q.u)) :
    Rep base L (qs ++ [q]) (setE all i0 (if q.b then q.v / 2097152 % 512 else q.v / 4096 % 512) q.num) := by
  have hil : i0 < all.length := by rw [h.len]; exact (List.getElem?_eq_some_iff.1 hi0).1
  have hnew' := pageAt_new hnew
  refine ⟨by rw [setE_len, h.len], tab_setE h.tab, ?_⟩
  intro i t hi x hx
  cases hb : q.b
  · rw [hb] at hi0 hnew'
    simp only [Pge.u, hb, Bool.false_eq_true, if_false] at hi0 hnew' ⊢
    rw [cell_setE hil (h.tab _ hil) (by omega)]
    by_cases hit : i = i0 ∧ x = q.v / 4096 % 512
    · obtain ⟨rfl, rfl⟩ := hit
      rw [if_pos ⟨rfl, rfl⟩]
      rw [hi0] at hi
      injection hi with hi
      subst hi
      unfold entry
      rw [if_neg (by simp), if_neg (by simp), show (2, q.v / 2097152).2 * 512 + q.v / 4096 % 512 = q.v / 4096 by show q.v / 2097152 * 512 + q.v / 4096 % 512 = _; omega]
      exact hnew'.symm
    · rw [if_neg hit, h.ent i t hi x hx, entry_page]
      · rintro ⟨_, hq, _⟩; rw [hb] at hq; cases hq
      · rintro ⟨h0, h1, _, h2⟩
        have h3 : t = (2, q.v / 2097152) := by
          have := hlev t (List.mem_of_getElem? hi)
          obtain ⟨t1, t2⟩ := t
          simp only at h0 h1 h2 this
          have e1 : t1 = 2 := by omega
          have e2 : t2 = q.v / 2097152 := by omega
          rw [e1, e2]
        subst h3
        exact hit ⟨nodup_at hg.nd hi hi0, by simp only at h2; omega⟩
  · rw [hb] at hi0 hnew'
    simp only [Pge.u, hb, if_true] at hi0 hnew' ⊢
    rw [cell_setE hil (h.tab _ hil) (by omega)]
    by_cases hit : i = i0 ∧ x = q.v / 2097152 % 512
    · obtain ⟨rfl, rfl⟩ := hit
      rw [if_pos ⟨rfl, rfl⟩]
      rw [hi0] at hi
      injection hi with hi
      subst hi
      unfold entry
      rw [if_neg (by simp), if_pos rfl, show (1, q.v / 1073741824).2 * 512 + q.v / 2097152 % 512 = q.v / 2097152 by show q.v / 1073741824 * 512 + q.v / 2097152 % 512 = _; omega, if_neg (hfree hb)]
      exact hnew'.symm
    · rw [if_neg hit, h.ent i t hi x hx, entry_page]
      · rintro ⟨h1, _, h2⟩
        have h3 : t = (1, q.v / 1073741824) := by
          obtain ⟨t1, t2⟩ := t
          simp only at h1 h2
          have e2 : t2 = q.v / 1073741824 := by omega
          rw [h1, e2]
        subst h3
        exact hit ⟨nodup_at hg.nd hi hi0, by simp only at h2; omega⟩
      · rintro ⟨_, _, hq, _⟩; rw [hb] at hq; cases hq
end Pg
end Go.Proofs.Ytblfagmoilhdnaa

/- Plain law: what the builder makes page after page is told by the pages. -/
set_option linter.unusedVariables false
set_option linter.unusedSimpArgs false
namespace Go.Proofs.Ytblfagmoilhdnaa
namespace Pg
structure Known (base : Nat) (qs : List Pge) (s : St) : Prop where
  rep : Rep base (tabs qs) qs s.all
  opn : (qs = [] ∧ s.mid = 0) ∨ ∃ q, qs.getLast? = some q ∧ s.virt = q.v ∧ s.mid ≠ 0 ∧ (tabs qs)[s.mid]? = some (1, q.v / 1073741824) ∧ (q.b = true ∧ s.low = 0 ∨ q.b = false ∧ s.low ≠ 0 ∧ (tabs qs)[s.low]? = some (2, q.v / 2097152))
theorem lev_tabs (qs : List Pge) : ∀ t ∈ tabs qs, t.1 ≤ 2 := by
  intro t ht
  rcases mem_tabs.1 ht with rfl | ⟨q, _, rfl | ⟨_, rfl⟩⟩ <;> simp
theorem chain_snoc {qs : List Pge} {q : Pge} (h : Chain (qs ++ [q])) : Chain qs ∧ q.Ok ∧ ∀ x ∈ qs, x.v + x.u ≤ q.v := by
  obtain ⟨h1, h2⟩ := h
  rw [List.pairwise_append] at h1
  exact ⟨⟨h1.1, fun x hx => h2 x (by simp [hx])⟩, h2 q (by simp), fun x hx => h1.2.2 x hx q (by simp)⟩
theorem chain_last {qs : List Pge} {q : Pge} (h : Chain qs) (hl : qs.getLast? = some q) : q ∈ qs ∧ ∀ x ∈ qs, x.v ≤ q.v := by
  obtain ⟨ys, rfl⟩ := List.getLast?_eq_some_iff.1 hl
  refine ⟨by simp, fun x hx => ?_⟩
  rcases List.mem_append.1 hx with hx | hx
  · have := (chain_snoc h).2.2 x hx; omega
  · simp at hx; rw [hx]; exact Nat.le_refl _
theorem pageAt_none {qs : List Pge} {b : Bool} {k : Nat} (h : ∀ x ∈ qs, ¬ (x.b = b ∧ x.v / bu b = k)) : pageAt qs b k = 0 := by
  unfold pageAt
  rw [List.find?_eq_none.2 (by
    intro x hx
    have := h x hx
    simpa using this)]
theorem Good.ens {L : List Lab} (h : Good L) {t : Lab} (ht : t.1 ≠ 0) : Good (ens L t) := by
  unfold Pg.ens
  split
  · exact h
  · rename_i hn
    refine ⟨?_, ?_, ?_⟩
    · rw [List.nodup_append]
      exact ⟨h.nd, by simp, fun a ha b hb e => hn (by simp at hb; subst hb; subst e; exact ha)⟩
    · rw [List.getElem?_append_left (List.getElem?_eq_some_iff.1 h.root).1]; exact h.root
    · intro s hs h0
      rcases List.mem_append.1 hs with hs | hs
      · exact h.lev s hs h0
      · simp at hs; subst hs; exact absurd h0 ht
theorem known_init (base : Nat) : Known base [] init := by
  refine ⟨⟨rfl, ?_, ?_⟩, .inl ⟨rfl, rfl⟩⟩
  · intro i hi
    have : i = 0 := by simp [init] at hi; omega
    subst this
    exact List.length_replicate
  · intro i t hi e he
    have : i = 0 := by
      have := (List.getElem?_eq_some_iff.1 hi).1
      simp [tabs] at this; omega
    subst this
    simp [tabs] at hi
    subst hi
    have h0 : cell init.all 0 e = 0 := by
      show (List.replicate 512 0).getD e 0 = 0
      rw [List.getD_eq_getElem?_getD, List.getElem?_replicate]
      split <;> rfl
    rw [h0]
    unfold entry
    rw [if_pos rfl, if_neg (by simp [tabs])]
/-- the first opening -/
theorem Known.mid {base : Nat} {qs : List Pge} {s : St} {q : Pge} (h : Known base qs s) (hc : Chain (qs ++ [q])) :
    Rep base (ens (tabs qs) (1, q.v / 1073741824)) qs (openMid base s q.v).all ∧ (ens (tabs qs) (1, q.v / 1073741824))[(openMid base s q.v).mid]? = some (1, q.v / 1073741824) ∧
    ((1, q.v / 1073741824) ∈ tabs qs → openMid base s q.v = s) ∧ ((1, q.v / 1073741824) ∉ tabs qs → (openMid base s q.v).low = 0) := by
  obtain ⟨hcq, hq, hlt⟩ := chain_snoc hc
  have hvl := hq.lt.1
  have key : (s.mid = 0 ∨ q.v / 1073741824 ≠ s.virt / 1073741824) ↔ (1, q.v / 1073741824) ∉ tabs qs := by
    rcases h.opn with ⟨rfl, h0⟩ | ⟨ql, hl, hv, hm0, hm, _⟩
    · simp [h0, tabs]
    · constructor
      · rintro (h0 | h0)
        · exact absurd h0 hm0
        · intro hin
          rcases mem_tabs.1 hin with h1 | ⟨x, hx, h1 | ⟨_, h1⟩⟩
          · injection h1 with h1 _; cases h1
          · injection h1 with _ h1
            have := (chain_last hcq hl).2 x hx
            have := hlt ql (chain_last hcq hl).1
            rw [hv] at h0
            omega
          · injection h1 with h1 _; cases h1
      · intro hni
        by_cases h0 : q.v / 1073741824 = s.virt / 1073741824
        · rw [h0, hv] at hni
          exact absurd (List.mem_of_getElem? hm) hni
        · exact .inr h0
  by_cases hin : (1, q.v / 1073741824) ∈ tabs qs
  · have hcond : ¬ (s.mid = 0 ∨ q.v / 1073741824 ≠ s.virt / 1073741824) := fun h' => key.1 h' hin
    have hop : openMid base s q.v = s := by unfold openMid; rw [if_neg hcond]
    have hens : ens (tabs qs) (1, q.v / 1073741824) = tabs qs := by unfold Pg.ens; rw [if_pos hin]
    rw [hop, hens]
    refine ⟨h.rep, ?_, fun _ => rfl, fun h' => absurd hin h'⟩
    rcases h.opn with ⟨rfl, h0⟩ | ⟨ql, hl, hv, hm0, hm, _⟩
    · exact absurd (.inl h0) hcond
    · rw [hm]
      have : q.v / 1073741824 = ql.v / 1073741824 := by
        rw [← hv]
        rcases Nat.decEq (q.v / 1073741824) (s.virt / 1073741824) with h' | h'
        · exact absurd (.inr h') hcond
        · exact h'
      rw [this]
  · have hop : openMid base s q.v = ⟨childE base s.all 0 (q.v / 1073741824), s.all.length, 0, s.virt⟩ := by unfold openMid; rw [if_pos (key.2 hin)]
    have hens : ens (tabs qs) (1, q.v / 1073741824) = tabs qs ++ [(1, q.v / 1073741824)] := by unfold Pg.ens; rw [if_neg hin]
    rw [hop, hens]
    refine ⟨?_, ?_, fun h' => absurd h' hin, fun _ => rfl⟩
    · refine h.rep.child (good_tabs qs) hin (good_tabs qs).root (by omega) (.inl ⟨rfl, rfl⟩) ?_
      intro x hx
      unfold entry
      rw [if_neg (by simp), if_pos rfl, if_neg, pageAt_none]
      · rintro y hy ⟨hb, hk⟩
        refine hin (mem_tabs.2 (.inr ⟨y, hy, .inl ?_⟩))
        unfold bu at hk
        simp only [if_true] at hk
        rw [show y.v / 1073741824 = q.v / 1073741824 by omega]
      · intro hm
        simp only [List.mem_append, List.mem_singleton, Prod.mk.injEq] at hm
        rcases hm with hm | hm
        · rcases mem_tabs.1 hm with h1 | ⟨y, hy, h1 | ⟨_, h1⟩⟩
          · injection h1 with h1 _; cases h1
          · injection h1 with h1 _; cases h1
          · injection h1 with _ h1
            refine hin (mem_tabs.2 (.inr ⟨y, hy, .inl ?_⟩))
            rw [show y.v / 1073741824 = q.v / 1073741824 by omega]
        · omega
    · show (tabs qs ++ _)[s.all.length]? = _
      rw [h.rep.len]
      simp
theorem ens_in {L : List Lab} {t : Lab} (h : t ∈ L) : ens L t = L := by unfold Pg.ens; rw [if_pos h]
theorem ens_out {L : List Lab} {t : Lab} (h : t ∉ L) : ens L t = L ++ [t] := by unfold Pg.ens; rw [if_neg h]
theorem ens_idx {L : List Lab} {t s : Lab} {i : Nat} (h : L[i]? = some s) : (ens L t)[i]? = some s := by
  unfold Pg.ens
  split
  · exact h
  · rw [List.getElem?_append_left (List.getElem?_eq_some_iff.1 h).1]; exact h
theorem Known.step {base : Nat} {qs : List Pge} {s : St} {q : Pge} (h : Known base qs s) (hc : Chain (qs ++ [q])) : Known base (qs ++ [q]) (step base s q) := by
  obtain ⟨hrep, hmid, hold, hnewl⟩ := h.mid hc
  obtain ⟨hcq, hq, hlt⟩ := chain_snoc hc
  have hvl := hq.lt.1
  have hva := hq.va
  have hg1 : Good (ens (tabs qs) (1, q.v / 1073741824)) := (good_tabs qs).ens (by simp)
  have hlev1 : ∀ t ∈ ens (tabs qs) (1, q.v / 1073741824), t.1 ≤ 2 := fun t ht => by
    rcases mem_ens.1 ht with ht | rfl
    · exact lev_tabs qs t ht
    · simp
  obtain ⟨s1, hs1⟩ : ∃ s1, s1 = openMid base s q.v := ⟨_, rfl⟩
  rw [← hs1] at hrep hmid hold hnewl
  have hm0 : s1.mid ≠ 0 := fun h0 => by rw [h0, hg1.root] at hmid; cases hmid
  have hlast : (qs ++ [q]).getLast? = some q := by simp
  cases hb : q.b with
  | true =>
    have htabs : tabs (qs ++ [q]) = ens (tabs qs) (1, q.v / 1073741824) := by rw [tabs_snoc]; unfold tab1; rw [if_pos hb]
    have hst : Pg.step base s q = ⟨setE s1.all s1.mid (q.v / 2097152 % 512) q.num, s1.mid, 0, q.v⟩ := by unfold Pg.step; rw [if_pos hb, hs1]
    have hu : q.u = 2097152 := by unfold Pge.u; rw [if_pos hb]
    have hp := hrep.page hg1 hlev1 (q := q) (i0 := s1.mid) (by rw [if_pos hb]; exact hmid) (fun _ hin => by
      rcases mem_ens.1 hin with hin | hin
      · rcases mem_tabs.1 hin with h1 | ⟨y, hy, h1 | ⟨hyb, h1⟩⟩
        · injection h1 with h1 _; cases h1
        · injection h1 with h1 _; cases h1
        · injection h1 with _ h1
          have := hlt y hy
          have hyu : y.u = 4096 := by unfold Pge.u; rw [hyb]; rfl
          rw [hu] at hva
          omega
      · injection hin with h1 _; cases h1) (fun x hx ⟨hxb, hxv⟩ => by
        have := hlt x hx
        have hxu : x.u = 2097152 := by unfold Pge.u; rw [hxb, hb]; rfl
        rw [hu] at hxv
        omega)
    rw [if_pos hb] at hp
    refine ⟨?_, .inr ⟨q, hlast, ?_, ?_, ?_, ?_⟩⟩
    · rw [htabs, hst]; exact hp
    · rw [hst]
    · rw [hst]; exact hm0
    · rw [hst, htabs]; exact hmid
    · rw [hst]; exact .inl ⟨hb, rfl⟩
  | false =>
    have htabs : tabs (qs ++ [q]) = ens (ens (tabs qs) (1, q.v / 1073741824)) (2, q.v / 2097152) := by rw [tabs_snoc]; unfold tab1; rw [if_neg (by rw [hb]; simp)]
    have hst : Pg.step base s q = ⟨setE (openLow base s1 q.v).all (openLow base s1 q.v).low (q.v / 4096 % 512) q.num, (openLow base s1 q.v).mid, (openLow base s1 q.v).low, q.v⟩ := by unfold Pg.step; rw [if_neg (by rw [hb]; simp), hs1]
    have hu : q.u = 4096 := by unfold Pge.u; rw [hb]; rfl
    have hg2 : Good (ens (ens (tabs qs) (1, q.v / 1073741824)) (2, q.v / 2097152)) := hg1.ens (by simp)
    have hlev2 : ∀ t ∈ ens (ens (tabs qs) (1, q.v / 1073741824)) (2, q.v / 2097152), t.1 ≤ 2 := fun t ht => by
      rcases mem_ens.1 ht with ht | rfl
      · exact hlev1 t ht
      · simp
    -- the second opening
    have hlow : Rep base (ens (ens (tabs qs) (1, q.v / 1073741824)) (2, q.v / 2097152)) qs (openLow base s1 q.v).all ∧ (ens (ens (tabs qs) (1, q.v / 1073741824)) (2, q.v / 2097152))[(openLow base s1 q.v).low]? = some (2, q.v / 2097152) ∧ (openLow base s1 q.v).mid = s1.mid := by
      by_cases hin : (2, q.v / 2097152) ∈ ens (tabs qs) (1, q.v / 1073741824)
      · have hin' : (2, q.v / 2097152) ∈ tabs qs := by
          rcases mem_ens.1 hin with h1 | h1
          · exact h1
          · injection h1 with h1 _; cases h1
        obtain ⟨y, hy, hyb, hyv⟩ : ∃ y ∈ qs, y.b = false ∧ q.v / 2097152 = y.v / 2097152 := by
          rcases mem_tabs.1 hin' with h1 | ⟨y, hy, h1 | ⟨hyb, h1⟩⟩
          · injection h1 with h1 _; cases h1
          · injection h1 with h1 _; cases h1
          · injection h1 with _ h1
            exact ⟨y, hy, hyb, h1⟩
        have hinm : (1, q.v / 1073741824) ∈ tabs qs := mem_tabs.2 (.inr ⟨y, hy, .inl (by rw [show q.v / 1073741824 = y.v / 1073741824 by omega])⟩)
        have hss := hold hinm
        rcases h.opn with ⟨rfl, _⟩ | ⟨ql, hl, hv, _, hm, hlo⟩
        · cases hy
        · have h1 := (chain_last hcq hl).2 y hy
          have h2 := hlt ql (chain_last hcq hl).1
          have h3 : ql.v / 2097152 = q.v / 2097152 := by omega
          rcases hlo with ⟨hqb, _⟩ | ⟨hqb, hl0, hlow⟩
          · have h4 := (hcq.2 ql (chain_last hcq hl).1).va
            have h5 : ql.u = 2097152 := by unfold Pge.u; rw [hqb]; rfl
            rw [h5] at h4 h2
            omega
          · have hop : openLow base s1 q.v = s1 := by
              unfold openLow
              rw [if_neg]
              rintro (h' | h')
              · rw [hss] at h'; exact hl0 h'
              · rw [hss, hv] at h'; exact h' h3.symm
            have hens : ens (ens (tabs qs) (1, q.v / 1073741824)) (2, q.v / 2097152) = ens (tabs qs) (1, q.v / 1073741824) := ens_in hin
            rw [hop, hens]
            refine ⟨hrep, ?_, rfl⟩
            rw [hss, ← h3]
            exact ens_idx hlow
      · have hcond : s1.low = 0 ∨ q.v / 2097152 ≠ s1.virt / 2097152 := by
          by_cases h0 : s1.low = 0
          · exact .inl h0
          · refine .inr fun h1 => ?_
            by_cases hinm : (1, q.v / 1073741824) ∈ tabs qs
            · have hss := hold hinm
              rw [hss] at h0 h1
              rcases h.opn with ⟨rfl, hm⟩ | ⟨ql, hl, hv, _, hm, hlo⟩
              · simp [tabs] at hinm
              · rcases hlo with ⟨_, hl0⟩ | ⟨hqb, hl0, hlow⟩
                · exact h0 hl0
                · rw [hv] at h1
                  rw [← h1] at hlow
                  exact hin (mem_ens.2 (.inl (List.mem_of_getElem? hlow)))
            · exact h0 (hnewl hinm)
        have hop : openLow base s1 q.v = ⟨childE base s1.all s1.mid (q.v / 2097152 % 512), s1.mid, s1.all.length, s1.virt⟩ := by unfold openLow; rw [if_pos hcond]
        have hens : ens (ens (tabs qs) (1, q.v / 1073741824)) (2, q.v / 2097152) = ens (tabs qs) (1, q.v / 1073741824) ++ [(2, q.v / 2097152)] := ens_out hin
        rw [hop, hens]
        refine ⟨?_, ?_, rfl⟩
        · refine hrep.child hg1 hin hmid (by omega) (.inr ⟨rfl, ?_⟩) ?_
          · show (2, q.v / 2097152) = (2, q.v / 1073741824 * 512 + q.v / 2097152 % 512)
            rw [show q.v / 1073741824 * 512 + q.v / 2097152 % 512 = q.v / 2097152 by omega]
          · intro x hx
            unfold entry
            rw [if_neg (by simp), if_neg (by simp), pageAt_none]
            rintro y hy ⟨hyb, hk⟩
            unfold bu at hk
            simp only [Bool.false_eq_true, if_false] at hk
            refine hin (mem_ens.2 (.inl (mem_tabs.2 (.inr ⟨y, hy, .inr ⟨hyb, ?_⟩⟩))))
            rw [show q.v / 2097152 = y.v / 2097152 by omega]
        · show (ens (tabs qs) (1, q.v / 1073741824) ++ _)[s1.all.length]? = _
          rw [hrep.len]
          simp
    obtain ⟨hrep2, hlow2, hmid2⟩ := hlow
    obtain ⟨s2, hs2⟩ : ∃ s2, s2 = openLow base s1 q.v := ⟨_, rfl⟩
    rw [← hs2] at hrep2 hlow2 hmid2 hst
    have hl0 : s2.low ≠ 0 := fun h0 => by rw [h0, hg2.root] at hlow2; cases hlow2
    have hp := hrep2.page hg2 hlev2 (q := q) (i0 := s2.low) (by rw [if_neg (by rw [hb]; simp)]; exact hlow2) (fun h' => by rw [hb] at h'; cases h') (fun x hx ⟨hxb, hxv⟩ => by
        have := hlt x hx
        have hxu : x.u = 4096 := by unfold Pge.u; rw [hxb, hb]; rfl
        rw [hu] at hxv
        omega)
    rw [if_neg (by rw [hb]; simp)] at hp
    refine ⟨?_, .inr ⟨q, hlast, ?_, ?_, ?_, ?_⟩⟩
    · rw [htabs, hst]; exact hp
    · rw [hst]
    · rw [hst]; show s2.mid ≠ 0; rw [hmid2]; exact hm0
    · rw [hst, htabs]; show _[s2.mid]? = _; rw [hmid2]; exact ens_idx hmid
    · rw [hst, htabs]; exact .inr ⟨hb, hl0, hlow2⟩
theorem runP_known {base : Nat} : ∀ (qs ps : List Pge) (s s' : St), Known base ps s → Chain (ps ++ qs) → runP base s qs = some s' → Known base (ps ++ qs) s'
  | [], ps, s, s', h, hc, hr => by cases hr; simpa using h
  | q :: r, ps, s, s', h, hc, hr => by
    rw [runP_cons] at hr
    split at hr
    · cases hr
    · have hc' : Chain ((ps ++ [q]) ++ r) := by simpa using hc
      have hc1 : Chain (ps ++ [q]) := ⟨(List.pairwise_append.1 hc'.1).1, fun x hx => hc'.2 x (List.mem_append.2 (.inl hx))⟩
      have := runP_known r (ps ++ [q]) _ s' (h.step hc1) hc' hr
      simpa using this
end Pg
end Go.Proofs.Ytblfagmoilhdnaa

/- Plain law: the tables lie in pre-order. -/
set_option linter.unusedVariables false
set_option linter.unusedSimpArgs false
namespace Go.Proofs.Ytblfagmoilhdnaa
namespace Pg
theorem ans_known {rows : List Lf} {base : Nat} (h : (ans rows base).2 = 0) : right 0 rows = 0 ∧ Chain (pagesOf rows) ∧ ∃ s, runP base init (pagesOf rows) = some s ∧ Known base (pagesOf rows) s ∧ (ans rows base).1 = s.all := by
  unfold ans at h ⊢
  by_cases h0 : right 0 rows = 0
  · rw [if_neg (by simp [h0])] at h
    rw [if_neg (by simp [h0])]
    cases hr : runP base init (pagesOf rows) with
    | none => rw [hr] at h; cases h
    | some s =>
      have hc := (right_pages rows 0 h0).1
      exact ⟨h0, hc, s, rfl, by simpa using runP_known (pagesOf rows) [] init s (known_init base) (by simpa using hc) hr, rfl⟩
  · rw [if_pos h0] at h
    exact absurd h h0
/-- the place of a table in pre-order -/
def key (t : Lab) : Nat := if t.1 = 0 then 0 else if t.1 = 1 then 2048 * t.2 + 1 else 2048 * (t.2 / 512) + 2 + t.2 % 512
theorem key0 : key (0, 0) = 0 := rfl
theorem key1 (j : Nat) : key (1, j) = 2048 * j + 1 := rfl
theorem key2 (m : Nat) : key (2, m) = 2048 * (m / 512) + 2 + m % 512 := rfl
def Sorted (L : List Lab) : Prop := L.Pairwise (fun a b => key a < key b)
theorem sorted_ens {L : List Lab} {t : Lab} (h : Sorted L) (ht : t ∉ L → ∀ s ∈ L, key s < key t) : Sorted (ens L t) := by
  unfold ens
  split
  · exact h
  · rename_i hn
    unfold Sorted
    rw [List.pairwise_append]
    refine ⟨h, by simp, fun a ha b hb => ?_⟩
    simp at hb
    subst hb
    exact ht hn a ha
theorem sorted_tabs {qs : List Pge} (hc : Chain qs) : Sorted (tabs qs) := by
  have aux : ∀ (n : Nat) (qs : List Pge), qs.length = n → Chain qs → Sorted (tabs qs) := by
    intro n
    induction n with
    | zero =>
      intro qs hl _
      obtain rfl := List.length_eq_zero_iff.1 hl
      simp [tabs, Sorted]
    | succ n ih =>
      intro qs hl hc
      obtain ⟨ys, q, rfl⟩ : ∃ ys q, qs = ys ++ [q] := by
        have hne : qs ≠ [] := by intro h; rw [h] at hl; cases hl
        exact ⟨qs.dropLast, qs.getLast hne, (List.dropLast_concat_getLast hne).symm⟩
      obtain ⟨hcy, hq, hlt⟩ := chain_snoc hc
      have hs := ih ys (by simpa using hl) hcy
      rw [tabs_snoc]
      have h1 : Sorted (ens (tabs ys) (1, q.v / 1073741824)) := by
        refine sorted_ens hs fun hn s hs => ?_
        rcases mem_tabs.1 hs with rfl | ⟨y, hy, rfl | ⟨hb, rfl⟩⟩
        · rw [key0, key1]; omega
        · have := hlt y hy
          have h2 : y.v / 1073741824 ≠ q.v / 1073741824 := fun e => hn (mem_tabs.2 (.inr ⟨y, hy, .inl (by rw [e])⟩))
          rw [key1, key1]; omega
        · have := hlt y hy
          have h2 : y.v / 1073741824 ≠ q.v / 1073741824 := fun e => hn (mem_tabs.2 (.inr ⟨y, hy, .inl (by rw [e])⟩))
          rw [key1, key2]; omega
      unfold tab1
      split
      · exact h1
      · refine sorted_ens h1 fun hn s hs => ?_
        rcases mem_ens.1 hs with hs | rfl
        · rcases mem_tabs.1 hs with rfl | ⟨y, hy, rfl | ⟨hb, rfl⟩⟩
          · rw [key0, key2]; omega
          · have := hlt y hy
            rw [key1, key2]; omega
          · have := hlt y hy
            have h2 : y.v / 2097152 ≠ q.v / 2097152 := fun e => hn (mem_ens.2 (.inl (mem_tabs.2 (.inr ⟨y, hy, .inr ⟨hb, by rw [e]⟩⟩))))
            rw [key2, key2]; omega
        · rw [key1, key2]; omega
  exact aux _ qs rfl hc
/-- so many tables lie ahead of a place -/
def ahead (L : List Lab) (k : Nat) : Nat := L.countP (fun t => decide (key t < k))
theorem ahead_idx : ∀ {L : List Lab} {t : Lab}, Sorted L → t ∈ L → L.idxOf t = ahead L (key t)
  | [], t, _, h => by cases h
  | s :: L, t, hs, h => by
    have hp := List.pairwise_cons.1 hs
    by_cases hst : s = t
    · subst hst
      rw [List.idxOf_cons_self]
      unfold ahead
      rw [List.countP_cons_of_neg (by simp), eq_comm, List.countP_eq_zero]
      intro x hx
      have := hp.1 x hx
      simp; omega
    · have hm : t ∈ L := by
        rcases List.mem_cons.1 h with h | h
        · exact absurd h.symm hst
        · exact h
      rw [List.idxOf_cons, show (s == t) = false by simpa using hst, cond_false, ahead_idx hp.2 hm]
      unfold ahead
      rw [List.countP_cons_of_pos (by simpa using hp.1 t hm)]
theorem ahead_split (L : List Lab) (k : Nat) : ahead L (k + 1) = ahead L k + L.countP (fun t => decide (key t = k)) := by
  unfold ahead
  induction L with
  | nil => rfl
  | cons s L ih =>
    rw [List.countP_cons, List.countP_cons, List.countP_cons, ih]
    by_cases h1 : key s < k
    · rw [if_pos (by simp; omega), if_pos (by simpa using h1), if_neg (by simp; omega)]; omega
    · by_cases h2 : key s = k
      · rw [if_pos (by simp; omega), if_neg (by simpa using h1), if_pos (by simpa using h2)]; omega
      · rw [if_neg (by simp; omega), if_neg (by simpa using h1), if_neg (by simpa using h2)]; omega
theorem ahead_same {L : List Lab} {k k' : Nat} (hk : k ≤ k') (h : ∀ t ∈ L, ¬ (k ≤ key t ∧ key t < k')) : ahead L k' = ahead L k := by
  unfold ahead
  refine List.countP_congr fun t ht => ?_
  have := h t ht
  simp only [decide_eq_true_iff]
  omega
theorem ahead_one {L : List Lab} {t : Lab} (hs : Sorted L) (ht : t ∈ L) : ahead L (key t + 1) = ahead L (key t) + 1 := by
  rw [ahead_split]
  congr 1
  have aux : ∀ {L : List Lab}, Sorted L → t ∈ L → L.countP (fun s => decide (key s = key t)) = 1 := by
    intro L
    induction L with
    | nil => intro _ h; cases h
    | cons s L ih =>
      intro hs h
      have hp := List.pairwise_cons.1 hs
      by_cases hst : s = t
      · subst hst
        rw [List.countP_cons_of_pos (by simp), List.countP_eq_zero.2]
        intro x hx
        have := hp.1 x hx
        simp; omega
      · have hm : t ∈ L := by
          rcases List.mem_cons.1 h with h | h
          · exact absurd h.symm hst
          · exact h
        rw [List.countP_cons_of_neg (by have := hp.1 t hm; simp; omega), ih hp.2 hm]
  exact aux hs ht
theorem ahead_all {L : List Lab} {k : Nat} (h : ∀ t ∈ L, key t < k) : ahead L k = L.length := by
  unfold ahead
  rw [List.countP_eq_length]
  intro t ht
  simpa using h t ht
/-- a low table lies under a middle one -/
theorem low_mid {qs : List Pge} {m : Nat} (h : (2, m) ∈ tabs qs) : (1, m / 512) ∈ tabs qs := by
  rcases mem_tabs.1 h with h1 | ⟨y, hy, h1 | ⟨hb, h1⟩⟩
  · injection h1 with h1 _; cases h1
  · injection h1 with h1 _; cases h1
  · injection h1 with _ h1
    refine mem_tabs.2 (.inr ⟨y, hy, .inl ?_⟩)
    rw [h1, show y.v / 2097152 / 512 = y.v / 1073741824 by omega]
theorem tabs_small {qs : List Pge} (hc : Chain qs) {t : Lab} (h : t ∈ tabs qs) : t = (0, 0) ∨ (t.1 = 1 ∧ t.2 < 512) ∨ (t.1 = 2 ∧ t.2 < 262144) := by
  rcases mem_tabs.1 h with h1 | ⟨y, hy, rfl | ⟨hb, rfl⟩⟩
  · exact .inl h1
  · have := (hc.2 y hy).lt.1
    exact .inr (.inl ⟨rfl, by show y.v / 1073741824 < 512; omega⟩)
  · have := (hc.2 y hy).lt.1
    exact .inr (.inr ⟨rfl, by show y.v / 2097152 < 262144; omega⟩)
/-- what the walk over the root finds -/
theorem ahead_root {qs : List Pge} : ahead (tabs qs) 1 = 1 := by
  have hg := good_tabs qs
  cases hL : tabs qs with
  | nil => have := hg.root; rw [hL] at this; cases this
  | cons s L =>
    rw [hL] at hg
    have h0 : s = (0, 0) := by have := hg.root; simpa using this
    unfold ahead
    rw [List.countP_cons_of_pos (by rw [h0]; decide), List.countP_eq_zero.2]
    intro t ht
    simp only [decide_eq_true_iff]
    intro hk
    have hz : t.1 = 0 := by
      unfold key at hk
      split at hk
      · assumption
      · split at hk <;> omega
    have := hg.lev t (by simp [ht]) hz
    subst this
    subst h0
    have := List.nodup_cons.1 hg.nd
    exact this.1 ht
theorem ahead_mid_no {qs : List Pge} (hc : Chain qs) {j : Nat} (h : (1, j) ∉ tabs qs) : ahead (tabs qs) (2048 * (j + 1) + 1) = ahead (tabs qs) (2048 * j + 1) := by
  refine ahead_same (by omega) fun t ht => ?_
  rcases mem_tabs.1 ht with rfl | ⟨y, hy, rfl | ⟨hb, rfl⟩⟩
  · rw [key0]; omega
  · rw [key1]
    intro hk
    have : y.v / 1073741824 = j := by omega
    exact h (mem_tabs.2 (.inr ⟨y, hy, .inl (by rw [this])⟩))
  · rw [key2]
    intro hk
    have : y.v / 1073741824 = j := by omega
    exact h (mem_tabs.2 (.inr ⟨y, hy, .inl (by rw [this])⟩))
theorem ahead_low_no {qs : List Pge} (hc : Chain qs) {j k : Nat} (hk : k < 512) (h : (2, j * 512 + k) ∉ tabs qs) : ahead (tabs qs) (2048 * j + 2 + (k + 1)) = ahead (tabs qs) (2048 * j + 2 + k) := by
  refine ahead_same (by omega) fun t ht => ?_
  rcases mem_tabs.1 ht with rfl | ⟨y, hy, rfl | ⟨hb, rfl⟩⟩
  · rw [key0]; omega
  · rw [key1]; omega
  · rw [key2]
    intro hk2
    have : y.v / 2097152 = j * 512 + k := by omega
    exact h (by rw [← this]; exact ht)
theorem ahead_low_end {qs : List Pge} (hc : Chain qs) (j : Nat) : ahead (tabs qs) (2048 * (j + 1) + 1) = ahead (tabs qs) (2048 * j + 2 + 512) := by
  refine ahead_same (by omega) fun t ht => ?_
  rcases mem_tabs.1 ht with rfl | ⟨y, hy, rfl | ⟨hb, rfl⟩⟩
  · rw [key0]; omega
  · rw [key1]; omega
  · rw [key2]; omega
theorem ahead_low_yes {qs : List Pge} (hc : Chain qs) {j k : Nat} (hk : k < 512) (h : (2, j * 512 + k) ∈ tabs qs) : (tabs qs).idxOf (2, j * 512 + k) = ahead (tabs qs) (2048 * j + 2 + k) ∧ ahead (tabs qs) (2048 * j + 2 + (k + 1)) = ahead (tabs qs) (2048 * j + 2 + k) + 1 := by
  have hs := sorted_tabs hc
  have e : key (2, j * 512 + k) = 2048 * j + 2 + k := by rw [key2]; omega
  refine ⟨by rw [ahead_idx hs h, e], ?_⟩
  have := ahead_one hs h
  rw [e] at this
  exact this
theorem ahead_mid_yes {qs : List Pge} (hc : Chain qs) {j : Nat} (h : (1, j) ∈ tabs qs) : (tabs qs).idxOf (1, j) = ahead (tabs qs) (2048 * j + 1) ∧ ahead (tabs qs) (2048 * j + 2 + 0) = ahead (tabs qs) (2048 * j + 1) + 1 := by
  have hs := sorted_tabs hc
  exact ⟨ahead_idx hs h, ahead_one hs h⟩
theorem ahead_end {qs : List Pge} (hc : Chain qs) : ahead (tabs qs) (2048 * 512 + 1) = (tabs qs).length := by
  refine ahead_all fun t ht => ?_
  obtain ⟨t1, t2⟩ := t
  rcases tabs_small hc ht with h | ⟨h1, h2⟩ | ⟨h1, h2⟩
  · injection h with h1 h2; subst h1 h2; rw [key0]; omega
  · simp only at h1 h2; subst h1; rw [key1]; omega
  · simp only at h1 h2; subst h1; rw [key2]; omega
end Pg
end Go.Proofs.Ytblfagmoilhdnaa

/- The walks of Same over tables and rows, and of few. -/
set_option linter.unusedVariables false
set_option linter.unusedSimpArgs false
namespace Go.Proofs.Ytblfagmoilhdnaa
open Go.RowKit

theorem quiet_wanted {P : Program} {ops : Array Oper} {C : World → Prop} {Q : Act → Prop} {a : Act} {o : Oper} {rest : List Oper} (hw : Region.wanted o (yielded ops a.tmps) = true) (h : ∀ K : Act → Prop, (∀ a, wpQuiet P ops C Q rest a → K a) → o.quiet P a C K) : wpQuiet P ops C Q (o :: rest) a :=
  wpQuiet_step fun K hK => by rw [if_pos hw]; exact h K hK
theorem quiet_load_mid {P : Program} {o : Oper} {a : Act} {C : World → Prop} {K : Act → Prop} (ty : TypeId) (x : Operand) (ho : o.op = .load ty x) (b k : Nat) (hx : a.eval x = .pointer (some ⟨b, k, none⟩)) (cs : List Value) (d : TypeDesc) (hc : ∀ w, C w → w.rangeAt b k cs)
    (hu : P.underlying ty = some d) (hd : d.isRow = true) (hi : (P.info? ty).map (·.size) = some cs.length) (hk : K (a.put o.dst (.agg cs.toArray))) : o.quiet P a C K :=
  ⟨_, fun w hw => by
    unfold Oper.quietAt execOp
    simp only [ho, hx, Instr.loadAt, Instr.sureAddr, Sem.run_bind, Sem.run_pure, Result.andThen_ok, run_loadVar_mid w b k ty cs d (hc w hw) hu hd hi]
    exact ⟨rfl, rfl⟩, hk⟩
theorem quiet_bin {P : Program} {o : Oper} {a : Act} {C : World → Prop} {K : Act → Prop} (b : BinOp) (t : TypeId) (x y : Operand) (s : TypeId) (ho : o.op = .binOp b t x y s) {xs ys : Array Value} {v : Value} (hx : a.eval x = .agg xs) (hy : a.eval y = .agg ys) (hm : P.eqGuardType P.depth t = false)
    (hrun : ∀ w, (binOp b t (.agg xs) (.agg ys)).run P w = .ok v w) (hk : K (a.put o.dst v)) : o.quiet P a C K :=
  ⟨_, fun w hw => by
    unfold Oper.quietAt execOp
    simp only [ho, hx, hy, Sem.run_bind, run_eqGuard_agg (hm := hm), hrun, Result.andThen_ok, Sem.run_pure]
    exact ⟨rfl, rfl⟩, hk⟩
theorem guardTab : Try.prog.eqGuardType Try.prog.depth 24 = false := by kernel_rfl
theorem neqT (V : List Value) (hV : ∀ i, i < V.length → ∃ n, V[i]? = some (.int .u64 n)) (hl : V.length = 512) (w : World) : (binOp .neq 24 (.agg V.toArray) (.agg V.toArray)).run Try.prog w = .ok (.bool false) w := by
  have heq := tab_eq_self V hV hl w
  go_simp
theorem neqL (w : World) (a : Pg.Lf) : (binOp .neq 47 (lfV a) (lfV a)).run Try.prog w = .ok (.bool false) w := by
  obtain ⟨a1, a2, a3, a4, a5, a6⟩ := a
  unfold lfV
  go_simp
theorem u64V_at (t : List Nat) (i : Nat) (h : i < (t.map u64v).length) : ∃ n, (t.map u64v)[i]? = some (.int .u64 n) := by
  rw [List.length_map] at h
  exact ⟨_, by rw [List.getElem?_map, List.getElem?_eq_getElem h]; rfl⟩
/-- a list of tables, read -/
def HasT (w : World) (A : Option Addr) (l : List (List Nat)) : Prop := Tabs l ∧ l.length ≤ 9223372036854775807 ∧ (0 < l.length → ∃ g, A = some ⟨g, 0, none⟩ ∧ g < w.heap.size ∧ ∀ t, t < l.length → w.rangeAt g (t * 512) ((l.getD t []).map u64v))
theorem IsT.has {w w' : World} {A : Option Addr} {c : Nat} {l : List (List Nat)} (h : IsT w w' A c l) (hl : l.length ≤ 9223372036854775807) : HasT w' A l := by
  refine ⟨h.2.1, hl, fun h0 => ?_⟩
  obtain ⟨g, rfl, _, h2, _, _, hc⟩ := h.form h0
  refine ⟨g, rfl, h2, fun t ht j v hv => ?_⟩
  have hm : l.getD t [] ∈ l := by simp [List.getD_eq_getElem?_getD, ht]
  have hlen := (h.2.1 _ hm).1
  have hj : j < 512 := by have := (List.getElem?_eq_some_iff.1 hv).1; rw [List.length_map, hlen] at this; exact this
  rw [hc t j ht hj, ← hv, List.getElem?_map, List.getD_eq_getElem?_getD (l := l.getD t []), List.getElem?_eq_getElem (by rw [hlen]; exact hj)]
  rfl
theorem HasT.below {w w' : World} {A : Option Addr} {l : List (List Nat)} (h : HasT w A l) (hb : Below w.heap.size w w') : HasT w' A l := by
  refine ⟨h.1, h.2.1, fun h0 => ?_⟩
  obtain ⟨g, rfl, h2, hc⟩ := h.2.2 h0
  exact ⟨g, rfl, Nat.lt_of_lt_of_le h2 hb.size, fun t ht j v hv => (hb.cell (p := ⟨g, t * 512 + j, none⟩) h2).trans (hc t ht j v hv)⟩
set_option maxRecDepth 100000 in
set_option maxHeartbeats 1000000 in
theorem sameT_yes (A A' : Option Addr) (n c c' : Nat) (l : List (List Nat)) (w : World) (hn : n = l.length) (ha : HasT w A l) (hb : HasT w A' l) :
    Calls Try.prog 29 #[.slice A n c, .slice A' n c'] w fun e w' => e = .returned (.bool true) ∧ ∃ m, w' = w.drewN m := by
  have HN := Lib.hid hn
  have HA := Lib.hid ha
  have HB := Lib.hid hb
  have hn63 := ha.2.1
  rw [← hn] at hn63
  clear hn ha hb
  go_enter Try.func29, Try.ntmps29
  go_wp2
  go_loopw [5] (fun i wr => ∃ j m : Nat, j ≤ n ∧ i = .int .i64 j ∧ wr = w.drewN m) (fun i _ => n - (intOf i).toNat)
  case atStart => exact ⟨0, 0, by omega, rfl, rfl⟩
  case round =>
    obtain ⟨j, m, hj, rfl, rfl⟩ := hrel
    by_cases hjn : j < n
    · obtain ⟨g, rfl, hg, hc⟩ := HA.out.2.2 (by rw [← HN.out]; omega)
      obtain ⟨g', rfl, hg', hc'⟩ := HB.out.2.2 (by rw [← HN.out]; omega)
      have h1 := hc j (by rw [← HN.out]; omega)
      have h2 := hc' j (by rw [← HN.out]; omega)
      have hm : l.getD j [] ∈ l := by simp [List.getD_eq_getElem?_getD, show j < l.length by rw [← HN.out]; omega]
      have hlen := (HA.out.1 _ hm).1
      have hne := fun wx => neqT ((l.getD j []).map u64v) (u64V_at _) (by rw [List.length_map, hlen]) wx
      obtain ⟨V, hV⟩ : ∃ V, V = (l.getD j []).map u64v := ⟨_, rfl⟩
      rw [← hV] at h1 h2 hne
      have HVL : Hid (V.length = 512) := Lib.hid (by rw [hV, List.length_map, hlen])
      have HNE := Lib.hid hne
      have H1 : Hid (∀ w' : World, (∃ k, w' = (w.drewN m).drewN k) → w'.rangeAt g (j * 512) V) := Lib.hid (by rintro w' ⟨k, rfl⟩; exact h1)
      have H2 : Hid (∀ w' : World, (∃ k, w' = (w.drewN m).drewN k) → w'.rangeAt g' (j * 512) V) := Lib.hid (by rintro w' ⟨k, rfl⟩; exact h2)
      clear hc hc' h1 h2 hm hlen hne hV HA HB
      go_wp2_with fail
      refine wp_region_quiet_lit (by kernel_rfl) (by kernel_rfl) ?_
      repeat (first
        | (refine quiet_wanted (by rfl) (fun K hK => ?_)
           first
             | refine quiet_load_mid _ _ rfl _ _ (by rfl) V (.array 512 22) H1.out Try.underlying24 rfl (by rw [infoTab, HVL.out]) (hK _ ?_)
             | refine quiet_load_mid _ _ rfl _ _ (by rfl) V (.array 512 22) H2.out Try.underlying24 rfl (by rw [infoTab, HVL.out]) (hK _ ?_)
             | refine quiet_bin .neq 24 (.tmp 20) (.tmp 24) _ rfl (by rfl) (by rfl) guardTab HNE.out (hK _ ?_))
        | quiet_step (fail))
      refine wpQuiet_nil ?_
      rintro w' ⟨nq, rfl⟩
      go_wp2
      go_roundw
      case rel => exact ⟨j + 1, _, by omega, by go_num, rfl⟩
      case measure => simp [intOf]; omega
    · have HJ : Hid (j = n) := Lib.hid (by omega)
      go_wp2
      go_ret
      exact ⟨rfl, _, rfl⟩
theorem OwnL.isL {w : World} {B c : Nat} {A : Option Addr} {l : List Pg.Lf} (h : OwnL w B A c l) (hi : ∀ r ∈ l, r.In) (hl : l.length ≤ 9223372036854775807) : IsL w w.heap.size A l.length l := ⟨Reads.of_own h, hi, rfl, hl⟩
set_option maxRecDepth 100000 in
set_option maxHeartbeats 1000000 in
theorem sameL_yes (A A' : Option Addr) (n c c' : Nat) (l : List Pg.Lf) (w : World) (ha : IsL w w.heap.size A n l) (hb : IsL w w.heap.size A' n l) :
    Calls Try.prog 30 #[.slice A n c, .slice A' n c'] w fun e w' => e = .returned (.bool true) ∧ ∃ m, w' = w.drewN m := by
  obtain ⟨b, off, HA⟩ := ha.form
  obtain ⟨b', off', HB⟩ := hb.form
  have HL := Lib.hid ha.2.2.1
  have hn63 := ha.2.2.2
  clear ha hb
  go_enter Try.func30, Try.ntmps30
  go_wp2
  go_loopw [5] (fun i wr => ∃ j m : Nat, j ≤ n ∧ i = .int .i64 j ∧ wr = w.drewN m) (fun i _ => n - (intOf i).toNat)
  case atStart => exact ⟨0, 0, by omega, rfl, rfl⟩
  case round =>
    obtain ⟨j, m, hj, rfl, rfl⟩ := hrel
    by_cases hjn : j < n
    · obtain ⟨rfl, hg, hc⟩ := HA.out (by omega)
      obtain ⟨rfl, hg', hc'⟩ := HB.out (by omega)
      obtain ⟨r, hrk⟩ : ∃ r, l[j]? = some r := ⟨_, List.getElem?_eq_getElem (by have := HL.out; omega)⟩
      have c0 := hc j r hrk 0 _ rfl
      have c1 := hc j r hrk 1 _ rfl
      have c2 := hc j r hrk 2 _ rfl
      have c3 := hc j r hrk 3 _ rfl
      have c4 := hc j r hrk 4 _ rfl
      have c5 := hc j r hrk 5 _ rfl
      have d0 := hc' j r hrk 0 _ rfl
      have d1 := hc' j r hrk 1 _ rfl
      have d2 := hc' j r hrk 2 _ rfl
      have d3 := hc' j r hrk 3 _ rfl
      have d4 := hc' j r hrk 4 _ rfl
      have d5 := hc' j r hrk 5 _ rfl
      obtain ⟨v, p, q, bg, wt, ex⟩ := r
      have hne := fun wx => neqL wx ⟨v, p, q, bg, wt, ex⟩
      unfold lfV at hne
      simp only [Nat.add_zero] at c0 d0 hne
      clear hc hc' HA HB
      go_wp2_with fail
      go_quiet (fail)
      go_wp2
      go_roundw
      case rel => exact ⟨j + 1, _, by omega, by go_num, rfl⟩
      case measure => simp [intOf]; omega
    · have HJ : Hid (j = n) := Lib.hid (by omega)
      go_wp2
      go_ret
      exact ⟨rfl, _, rfl⟩
def AnyBool (e : Ending) : Prop := ∃ b, e = .returned (.bool b)
/-- few: either answer -/
theorem few_some (A : Option Addr) (n c : Nat) (rows : List Pg.Lf) (w : World) (hr : IsL w w.heap.size A n rows) (hrt : Pg.right 0 rows = 0) :
    Calls Try.prog 22 #[.slice A n c] w fun e w' => AnyBool e ∧ w' = w := by
  obtain ⟨b, off, HF⟩ := hr.form
  have HL := Lib.hid hr.2.2.1
  have hn := hr.2.2.2
  have HRT := Lib.hid hrt
  clear hr hrt
  go_enter Try.func22, Try.ntmps22
  go_wp2
  go_loopw [3, 4] (fun x i wr => ∃ j X : Nat, j ≤ n ∧ i = .int .i64 j ∧ x = .int .i64 X ∧ X ≤ 135266304 ∧ wr = w) (fun _ i _ => n - (intOf i).toNat)
  case atStart => exact ⟨0, 0, by omega, rfl, rfl, by omega, rfl⟩
  case round =>
    obtain ⟨j, X, hj, rfl, rfl, hX, rfl⟩ := hrel
    by_cases hjn : j < n
    · obtain ⟨rfl, hg, hc⟩ := HF.out (by omega)
      obtain ⟨r, hrk⟩ : ∃ r, rows[j]? = some r := ⟨_, List.getElem?_eq_getElem (by have := HL.out; omega)⟩
      have hok := Pg.right_all HRT.out r (List.mem_of_getElem? hrk)
      have c2 := hc j r hrk 2 _ rfl
      have h1 := hok.n1
      have h5 := hok.vl
      obtain ⟨v, p, q, bg, wt, ex⟩ := r
      simp only at h1 h5
      obtain ⟨xn, rfl⟩ : ∃ xn : Nat, q = xn := ⟨q.toNat, by omega⟩
      simp only [Int.toNat_natCast] at h1 h5
      have h6 : xn ≤ 134217728 := by omega
      clear hc HF HRT hrk hok h5
      by_cases hx : X ≤ 1048576
      · go_wp2
        go_roundw
        case rel => exact ⟨j + 1, X + xn, by omega, by go_num, by go_num, by omega, trivial⟩
        case measure => simp [intOf]; omega
      · go_wp2
        go_ret
        first | exact ⟨_, rfl⟩ | exact ⟨⟨_, rfl⟩, rfl⟩
    · go_wp2
      all_goals
        go_ret
        first | exact ⟨_, rfl⟩ | exact ⟨⟨_, rfl⟩, rfl⟩
end Go.Proofs.Ytblfagmoilhdnaa

/- The walk of the law's tree: the tables are named once each, in pre-order. -/
set_option linter.unusedVariables false
set_option linter.unusedSimpArgs false
namespace Go.Proofs.Ytblfagmoilhdnaa
open Go.RowKit

namespace Pg
theorem at_idx {L : List Lab} {t : Lab} (h : t ∈ L) : L[L.idxOf t]? = some t := by
  have hl := List.idxOf_lt_length_of_mem h
  rw [List.getElem?_eq_getElem hl, List.getElem_idxOf]
theorem ahead_le (L : List Lab) (k : Nat) : ahead L k ≤ L.length := List.countP_le_length
theorem say_ptr {base n lv : Nat} (hb : base % 4096 = 0) (hf : base + n * 4096 < 4294967296) (hl : lv < 2) : ptr base n = base + n * 4096 + 1 ∧ Ent.say (base + n * 4096 + 1) lv = (⟨base + n * 4096, true, false, false, false⟩, 0) := by
  refine ⟨by unfold ptr; omega, ?_⟩
  have h := say_add (F := base + n * 4096) (by omega) hf lv false false false (by unfold Ent.wrong; simp)
  simpa [hl] using h
theorem say_bigp {q : Pge} (hq : q.Ok) (hb : q.b = true) : Ent.say q.num 1 = (⟨q.p, false, true, q.w, q.x⟩, 0) := by
  have hu : q.u = 2097152 := by rcases q.u_or with ⟨h, _⟩ | ⟨_, h⟩; exact h; rw [hb] at h; cases h
  have h1 := hq.pa; have h2 := hq.pl
  rw [hu] at h1 h2
  have h := say_add (F := q.p) (by omega) (by omega) 1 q.b q.w q.x (by unfold Ent.wrong; rw [hb]; simp; omega)
  rw [hb] at h
  unfold Pge.num
  rw [hb]
  simpa using h
theorem pageAt_some {qs : List Pge} {b : Bool} {k : Nat} : pageAt qs b k = 0 ∨ ∃ q ∈ qs, q.b = b ∧ q.v / bu b = k ∧ pageAt qs b k = q.num := by
  unfold pageAt
  cases hf : qs.find? (fun q => q.b == b && q.v / bu b == k) with
  | none => exact .inl rfl
  | some q =>
    have h1 := List.mem_of_find?_eq_some hf
    have h2 := List.find?_some hf
    simp at h2
    exact .inr ⟨q, h1, h2.1, h2.2, rfl⟩
end Pg
/-- an entry's value, seen -/
theorem HasT.cell_at {w : World} {A : Option Addr} {l : List (List Nat)} (h : HasT w A l) {t e : Nat} (ht : t < l.length) (he : e < 512) : ∃ g, A = some ⟨g, 0, none⟩ ∧ g < w.heap.size ∧ w.cell? ⟨g, t * 512 + e, none⟩ = some (.int .u64 (Pg.cell l t e : Nat)) ∧ Pg.cell l t e < 18446744073709551616 := by
  obtain ⟨g, rfl, hg, hc⟩ := h.2.2 (by omega)
  have hm : l.getD t [] ∈ l := by simp [List.getD_eq_getElem?_getD, ht]
  obtain ⟨hl, hx⟩ := h.1 _ hm
  have he' : e < (l.getD t []).length := by omega
  have h1 : (l.getD t [])[e]? = some (Pg.cell l t e) := by
    unfold Pg.cell
    rw [List.getD_eq_getElem?_getD (l := l.getD t []), List.getElem?_eq_getElem he']; rfl
  refine ⟨g, rfl, hg, hc t ht e _ (by rw [List.getElem?_map, h1]; rfl), hx _ (List.mem_of_getElem? h1)⟩
theorem entry_say (e lv : Nat) (W : World) (F : Nat) (t b v x : Bool) (n : Nat) (he : e < 18446744073709551616) (hl : lv < 3) (hs : Ent.say e lv = (⟨F, t, b, v, x⟩, n)) :
    Calls Try.prog 54 #[.int .u64 (e : Nat), .int .i64 (lv : Nat)] W fun en w' => en = .returned (.tuple #[.agg #[.int .u64 (F : Nat), .bool t, .bool b, .bool v, .bool x], .int .i64 (n : Nat)]) ∧ Below W.heap.size W w' := by
  have h := entry_any e lv W he hl
  rw [hs] at h
  exact h
set_option maxRecDepth 100000 in
set_option maxHeartbeats 1000000 in
theorem tree_yes (A : Option Addr) (n c base : Nat) (l : List (List Nat)) (qs : List Pg.Pge) (w : World) (hl : HasT w A l) (hn : n = l.length) (hc : Pg.Chain qs) (hrep : Pg.Rep base (Pg.tabs qs) qs l) (hb : base % 4096 = 0) (hfit : base + l.length * 4096 ≤ 4294967296) :
    Calls Try.prog 31 #[.slice A n c, .int .u64 (base : Nat)] w fun e w' => e = .returned (.bool true) ∧ Below w.heap.size w w' := by
  obtain ⟨L, hL⟩ : ∃ L, L = Pg.tabs qs := ⟨_, rfl⟩
  have hlen := hrep.len
  have h0 := (List.getElem?_eq_some_iff.1 (Pg.good_tabs qs).root).1
  rw [← hL] at hrep hlen h0
  have hA := hl.cell_at (t := 0) (e := 0) (by omega) (by omega)
  obtain ⟨g, rfl, hg, _⟩ := hA
  have HL := Lib.hid hL; have HN := Lib.hid hn; have HC := Lib.hid hc; have HREP := Lib.hid hrep; have HT := Lib.hid hl; have HLEN := Lib.hid hlen
  have HB4 := Lib.hid hb
  rw [← hn] at hfit
  have hn0 : 0 < n := by omega
  have hn1 : n ≤ 1048576 := by omega
  clear hL hn hc hrep hl hlen h0 hb
  go_enter Try.func31, Try.ntmps31
  go_wp2_with fail
  go_loopw [5, 6] (fun x i wr => ∃ j nx : Nat, j ≤ 512 ∧ i = .int .i64 j ∧ x = .int .i64 nx ∧ nx ≤ n ∧ Hid (nx = Pg.ahead L (2048 * j + 1)) ∧ Hid (Below w.heap.size w wr)) (fun _ i _ => 512 - (intOf i).toNat)
  case atStart => exact ⟨0, 1, by omega, rfl, rfl, by omega, Lib.hid (by rw [HL.out]; exact Pg.ahead_root.symm), Lib.hid (Below.refl _ _)⟩
  case round =>
    obtain ⟨j, nx, hj, rfl, rfl, hnx, HNX, HB⟩ := hrel
    by_cases hj5 : j < 512
    · obtain ⟨X, hX⟩ : ∃ X, X = Pg.cell l 0 j := ⟨_, rfl⟩
      obtain ⟨_, hga, _, hcell, hx64⟩ := HT.out.cell_at (t := 0) (e := j) (by rw [← HN.out]; omega) hj5
      cases hga
      rw [← hX, Nat.zero_mul, Nat.zero_add] at hcell
      rw [← hX] at hx64
      have hcr := (HB.out.cell (p := ⟨g, j, none⟩) hg).trans hcell
      have hent : X = Pg.entry base L qs (0, 0) j := by
        rw [hX]
        exact HREP.out.ent 0 (0, 0) (by rw [HL.out]; exact (Pg.good_tabs qs).root) j hj5
      have hjl : (j : Int) < 512 := by omega
      have hj0 : (0 : Int) ≤ (j : Int) := by omega
      have hgr : g < wr.heap.size := Nat.lt_of_lt_of_le hg HB.out.size
      have hn0i : (0 : Int) < (n : Int) := by omega
      clear hcell
      by_cases hm : (1, j) ∈ L
      · -- a table
        have hyes := Pg.ahead_mid_yes HC.out (j := j) (by rw [← HL.out]; exact hm)
        rw [← HL.out, ← HNX.out] at hyes
        have hnl : nx < n := by rw [← hyes.1, HN.out, HLEN.out]; exact List.idxOf_lt_length_of_mem hm
        have hsp := Pg.say_ptr (base := base) (n := nx) (lv := 0) HB4.out (by omega) (by decide)
        have hxe : X = base + nx * 4096 + 1 := by
          rw [hent]
          unfold Pg.entry
          rw [if_pos rfl, if_pos hm, hyes.1, hsp.1]
        have hmid : L[nx]? = some (1, j) := by rw [← hyes.1]; exact Pg.at_idx hm
        have HMID := Lib.hid hmid
        have HYES := Lib.hid hyes.2
        obtain ⟨F, hF⟩ : ∃ F, F = base + nx * 4096 := ⟨_, rfl⟩
        have hen := entry_say X 0 wr F true false false false 0 hx64 (by decide) (by rw [hxe, hsp.2, hF])
        have e1 : IntKind.u64.wrap (nx : Int) = (nx : Int) := by rw [IntKind.wrap_u64]; omega
        have e2 : (nx : Int) * 4096 % 18446744073709551616 = (nx : Int) * 4096 := by omega
        have e3 : IntKind.u64.wrap ((nx : Int) * 4096) = (nx : Int) * 4096 := by rw [IntKind.wrap_u64]; omega
        have e4 : ((base : Int) + (nx : Int) * 4096) % 18446744073709551616 = (F : Int) := by omega
        have e5 : IntKind.u64.wrap ((base : Int) + (nx : Int) * 4096) = (F : Int) := by rw [IntKind.wrap_u64]; omega
        have e6 : (base : Int) + (nx : Int) * 4096 = (F : Int) := by omega
        have e7 : decide (n ≤ nx) = false := decide_eq_false (by omega)
        have HEN := Lib.hid hen
        clear hX hent hm hyes hsp hxe hmid hF hen HNX
        go_wp2_with fail
        refine HEN.out.mono ?_
        rintro e w2 ⟨rfl, hb2⟩
        have hcr2 := (hb2.cell (p := ⟨g, j, none⟩) hgr).trans hcr
        have HB2 := Lib.hid (HB.out.trans (hb2.mono HB.out.size))
        have hgr2 := Nat.lt_of_lt_of_le hgr hb2.size
        clear hb2 hcr hgr HB HEN
        go_wp2_with fail
        have HB3 : Hid (Below w.heap.size w (w2.alloc (.cells #[.int .u64 (F : Nat), .bool true, .bool false, .bool false, .bool false] 100))) := Lib.hid (HB2.out.alloc HB2.out.size _)
        generalize w2.alloc (.cells #[.int .u64 (F : Nat), .bool true, .bool false, .bool false, .bool false] 100) = w3 at *
        clear hcr2 HB2 hgr2 hx64 e1 e2 e3 e4 e5 e6 e7
        go_loopw [5, 10] (fun x i wr => ∃ k ny : Nat, k ≤ 512 ∧ i = .int .i64 k ∧ x = .int .i64 ny ∧ ny ≤ n ∧ Hid (ny = Pg.ahead L (2048 * j + 2 + k)) ∧ Hid (Below w.heap.size w wr)) (fun _ i _ => 512 - (intOf i).toNat)
        case atStart => exact ⟨0, nx + 1, by omega, rfl, by go_num, by omega, Lib.hid HYES.out.symm, HB3⟩
        case round =>
          clear HB3 HYES
          obtain ⟨k, ny, hk, rfl, rfl, hny, HNY, HB⟩ := hrel
          have hnxi : (nx : Int) < (n : Int) := by omega
          have hnx0 : (0 : Int) ≤ (nx : Int) := by omega
          by_cases hk5 : k < 512
          · obtain ⟨X, hX⟩ : ∃ X, X = Pg.cell l nx k := ⟨_, rfl⟩
            obtain ⟨_, hga, _, hcell, hx64⟩ := HT.out.cell_at (t := nx) (e := k) (by rw [← HN.out]; omega) hk5
            cases hga
            rw [← hX] at hx64 hcell
            have hcr := (HB.out.cell (p := ⟨g, nx * 512 + k, none⟩) hg).trans hcell
            have hent : X = Pg.entry base L qs (1, j) k := by
              rw [hX]
              exact HREP.out.ent nx (1, j) HMID.out k hk5
            have hkl : (k : Int) < 512 := by omega
            have hk0 : (0 : Int) ≤ (k : Int) := by omega
            have hgr : g < wr.heap.size := Nat.lt_of_lt_of_le hg HB.out.size
            clear hcell
            by_cases hm : (2, j * 512 + k) ∈ L
            · have hyes := Pg.ahead_low_yes HC.out (j := j) (k := k) hk5 (by rw [← HL.out]; exact hm)
              rw [← HL.out, ← HNY.out] at hyes
              have hnl : ny < n := by rw [← hyes.1, HN.out, HLEN.out]; exact List.idxOf_lt_length_of_mem hm
              have hsp := Pg.say_ptr (base := base) (n := ny) (lv := 1) HB4.out (by omega) (by decide)
              have hxe : X = base + ny * 4096 + 1 := by
                rw [hent]
                unfold Pg.entry
                rw [if_neg (by simp), if_pos rfl, if_pos hm, hyes.1, hsp.1]
              have HYES := Lib.hid hyes.2
              obtain ⟨G, hG⟩ : ∃ F, F = base + ny * 4096 := ⟨_, rfl⟩
              have hen := entry_say X 1 wr G true false false false 0 hx64 (by decide) (by rw [hxe, hsp.2, hG])
              have e1 : IntKind.u64.wrap (ny : Int) = (ny : Int) := by rw [IntKind.wrap_u64]; omega
              have e2 : (ny : Int) * 4096 % 18446744073709551616 = (ny : Int) * 4096 := by omega
              have e3 : IntKind.u64.wrap ((ny : Int) * 4096) = (ny : Int) * 4096 := by rw [IntKind.wrap_u64]; omega
              have e4 : ((base : Int) + (ny : Int) * 4096) % 18446744073709551616 = (G : Int) := by omega
              have e5 : IntKind.u64.wrap ((base : Int) + (ny : Int) * 4096) = (G : Int) := by rw [IntKind.wrap_u64]; omega
              have e6 : (base : Int) + (ny : Int) * 4096 = (G : Int) := by omega
              have e7 : decide (n ≤ ny) = false := decide_eq_false (by omega)
              have HEN := Lib.hid hen
              clear hX hent hm hyes hsp hxe hG hen HNY
              go_wp2_with fail
              refine HEN.out.mono ?_
              rintro e w4 ⟨rfl, hb4⟩
              have hcr2 := (hb4.cell (p := ⟨g, nx * 512 + k, none⟩) hgr).trans hcr
              have HB2 := Lib.hid (HB.out.trans (hb4.mono HB.out.size))
              have hgr2 := Nat.lt_of_lt_of_le hgr hb4.size
              clear hb4 hcr hgr HB HEN
              go_wp2_with fail
              go_roundw
              case rel => exact ⟨k + 1, ny + 1, by omega, by go_num, by go_num, by omega, Lib.hid HYES.out.symm, Lib.hid (HB2.out.alloc HB2.out.size _)⟩
              case measure => simp [intOf]; omega
            · have hno := Pg.ahead_low_no HC.out (j := j) (k := k) hk5 (by rw [← HL.out]; exact hm)
              rw [← HL.out, ← HNY.out] at hno
              have HNO := Lib.hid hno
              have hxe : X = Pg.pageAt qs true (j * 512 + k) := by
                rw [hent]
                unfold Pg.entry
                rw [if_neg (by simp), if_pos rfl, if_neg hm]
              rcases Pg.pageAt_some (qs := qs) (b := true) (k := j * 512 + k) with hp | ⟨q, hq, hqb, _, hp⟩
              · rw [hp] at hxe
                have hen := entry_say 0 1 wr 0 false false false false 41 (by decide) (by decide) rfl
                have HEN := Lib.hid hen
                rw [hxe] at hcr
                clear hX hent hm hxe hno hen HNY hx64 hp
                go_wp2_with fail
                refine HEN.out.mono ?_
                rintro e w4 ⟨rfl, hb4⟩
                have hcr2 := (hb4.cell (p := ⟨g, nx * 512 + k, none⟩) hgr).trans hcr
                have HB2 := Lib.hid (HB.out.trans (hb4.mono HB.out.size))
                have hgr2 := Nat.lt_of_lt_of_le hgr hb4.size
                clear hb4 hcr hgr HB HEN
                go_wp2_with fail
                go_roundw
                case rel => exact ⟨k + 1, ny, by omega, by go_num, rfl, hny, Lib.hid HNO.out.symm, Lib.hid (HB2.out.alloc HB2.out.size _)⟩
                case measure => simp [intOf]; omega
              · have hen := entry_say X 1 wr q.p false true q.w q.x 0 hx64 (by decide) (by rw [hxe, hp]; exact Pg.say_bigp (HC.out.2 q hq) hqb)
                have HEN := Lib.hid hen
                obtain ⟨qv, qp, qb, qw, qx⟩ := q
                clear hX hent hm hxe hno hen HNY hp hq hqb
                go_wp2_with fail
                refine HEN.out.mono ?_
                rintro e w4 ⟨rfl, hb4⟩
                have hcr2 := (hb4.cell (p := ⟨g, nx * 512 + k, none⟩) hgr).trans hcr
                have HB2 := Lib.hid (HB.out.trans (hb4.mono HB.out.size))
                have hgr2 := Nat.lt_of_lt_of_le hgr hb4.size
                clear hb4 hcr hgr HB HEN
                go_wp2_with fail
                go_roundw
                case rel => exact ⟨k + 1, ny, by omega, by go_num, rfl, hny, Lib.hid HNO.out.symm, Lib.hid (HB2.out.alloc HB2.out.size _)⟩
                case measure => simp [intOf]; omega
          · have HK : Hid (k = 512) := Lib.hid (by omega)
            have HNE : Hid (ny = Pg.ahead L (2048 * (j + 1) + 1)) := Lib.hid (by
              rw [HNY.out, HK.out, HL.out]
              exact (Pg.ahead_low_end HC.out j).symm)
            clear HNY
            go_wp2_with fail
            go_roundw
            case rel => exact ⟨j + 1, ny, by omega, by go_num, rfl, hny, HNE, HB⟩
            case measure => simp [intOf]; omega
      · -- nothing
        have hx0 : X = 0 := by
          rw [hent]
          unfold Pg.entry
          rw [if_pos rfl, if_neg hm]
        have hno := Pg.ahead_mid_no HC.out (j := j) (by rw [← HL.out]; exact hm)
        rw [← HL.out, ← HNX.out] at hno
        have HNO := Lib.hid hno
        have hen := entry_say 0 0 wr 0 false false false false 41 (by decide) (by decide) rfl
        have HEN := Lib.hid hen
        rw [hx0] at hcr
        clear hX hent hm hx0 hno hen HNX hx64
        go_wp2_with fail
        refine HEN.out.mono ?_
        rintro e w2 ⟨rfl, hb2⟩
        have hcr2 := (hb2.cell (p := ⟨g, j, none⟩) hgr).trans hcr
        have HB2 := Lib.hid (HB.out.trans (hb2.mono HB.out.size))
        have hgr2 := Nat.lt_of_lt_of_le hgr hb2.size
        clear hb2 hcr hgr HB HEN
        go_wp2_with fail
        go_roundw
        case rel => exact ⟨j + 1, nx, by omega, by go_num, rfl, hnx, Lib.hid HNO.out.symm, Lib.hid (HB2.out.alloc HB2.out.size _)⟩
        case measure => simp [intOf]; omega
    · have HJ : Hid (j = 512) := Lib.hid (by omega)
      have hne : nx = n := by
        rw [HNX.out, HJ.out, HL.out, Pg.ahead_end HC.out, HN.out, HLEN.out, HL.out]
      have hne2 : ((nx : Int) == (n : Int)) = true := by rw [beq_iff_eq]; omega
      have HNE := Lib.hid hne
      clear hne HNX
      go_wp2_with fail
      go_ret
      exact ⟨by first | rfl | (rw [hne2]), HB.out⟩
end Go.Proofs.Ytblfagmoilhdnaa

/- Plain law for PagesAlike: what Build tells depends on the pages alone. -/
set_option linter.unusedVariables false
set_option linter.unusedSimpArgs false
namespace Go.Proofs.Ytblfagmoilhdnaa
namespace Pg
theorem ans_same {a b : List Lf} (ha : right 0 a = 0) (hb : right 0 b = 0) (h : pagesOf a = pagesOf b) (base : Nat) : ans a base = ans b base := by
  unfold ans
  rw [if_neg (by simp [ha]), if_neg (by simp [hb]), h]
theorem ansB_same {a b : List Lf} (ha : right 0 a = 0) (hb : right 0 b = 0) (h : pagesOf a = pagesOf b) (base : Nat) : ansB a base = ansB b base := by
  unfold ansB
  rw [ans_same ha hb h]
/-- the builders of two bases go alike -/
def Sim (s t : St) : Prop := s.all.length = t.all.length ∧ s.mid = t.mid ∧ s.low = t.low ∧ s.virt = t.virt
theorem Sim.step {b b' : Nat} {s t : St} (h : Sim s t) (q : Pge) : Sim (step b s q) (step b' t q) := by
  obtain ⟨h1, h2, h3, h4⟩ := h
  have hm : Sim (openMid b s q.v) (openMid b' t q.v) := by
    unfold openMid
    rw [h2, h4]
    split
    · exact ⟨by simp [childE_len, h1], by simp [h1], rfl, rfl⟩
    · exact ⟨h1, h2, h3, h4⟩
  have hl : ∀ s t : St, Sim s t → Sim (openLow b s q.v) (openLow b' t q.v) := by
    rintro s t ⟨h1, h2, h3, h4⟩
    unfold openLow
    rw [h3, h4]
    split
    · exact ⟨by simp [childE_len, h1], h2, by simp [h1], rfl⟩
    · exact ⟨h1, h2, h3, h4⟩
  unfold Pg.step
  cases q.b
  · obtain ⟨k1, k2, k3, k4⟩ := hl _ _ hm
    exact ⟨by simp [setE_len, k1], k2, k3, rfl⟩
  · obtain ⟨k1, k2, k3, k4⟩ := hm
    exact ⟨by simp [setE_len, k1], k2, rfl, rfl⟩
theorem runP_sim {b b' : Nat} : ∀ (qs : List Pge) (s t s' : St), Sim s t → runP b s qs = some s' → ∃ t', runP b' t qs = some t' ∧ Sim s' t'
  | [], s, t, s', h, hr => by cases hr; exact ⟨t, rfl, h⟩
  | q :: r, s, t, s', h, hr => by
    rw [runP_cons] at hr ⊢
    have hs := h.step (b := b) (b' := b') q
    split at hr
    · cases hr
    · rename_i hl
      rw [if_neg (by rw [← hs.1]; exact hl)]
      exact runP_sim r _ _ s' hs hr
theorem ans_base {rows : List Lf} {b : Nat} (b' : Nat) (h : (ans rows b).2 = 0) : (ans rows b').2 = 0 ∧ (ans rows b').1.length = (ans rows b).1.length := by
  obtain ⟨hr, hc, s, hs, _, hl⟩ := ans_known h
  obtain ⟨t, ht, hst⟩ := runP_sim (b' := b') _ init init s ⟨rfl, rfl, rfl, rfl⟩ hs
  rw [hl]
  unfold ans
  rw [if_neg (by simp [hr]), ht]
  exact ⟨rfl, hst.1.symm⟩
theorem ansB_ok {rows : List Lf} {base : Nat} (h : (ansB rows base).2 = 0) : (ans rows base).2 = 0 ∧ ansB rows base = ans rows base ∧ base % 4096 = 0 ∧ base + (ans rows base).1.length * 4096 ≤ 4294967296 := by
  unfold ansB at h ⊢
  simp only at h ⊢
  split at h
  · rename_i h0; exact absurd h h0
  · rename_i h0
    split at h
    · cases h
    · rename_i h1
      split at h
      · cases h
      · rename_i h2
        have hb : base / 4096 * 4096 % 4294967296 = base := by omega
        rw [hb] at h0 h2 h ⊢
        rw [if_neg h0, if_neg h1, if_neg h2]
        refine ⟨h, rfl, by omega, by omega⟩
theorem In_of {r : Lf} (h : r.Ok) : r.In := by
  obtain ⟨h1, h2, h3, h4, h5, h6⟩ := h
  unfold Lf.In
  omega
/-- the one page that is asked ahead -/
def farRow : Lf := ⟨1073741824, 0, 1, false, false, false⟩
theorem ansB_far (b : Nat) (h : b % 4096 = 0) (hl : b < 2147483648) : (ansB [farRow] b).2 = 0 ∧ (ansB [farRow] b).1.length = 3 := by
  have h0 : (ans [farRow] 0).2 = 0 ∧ (ans [farRow] 0).1.length = 3 := by
    have : ((ans [farRow] 0).2, (ans [farRow] 0).1.length) = (0, 3) := by kernel_rfl
    injection this with h1 h2
    exact ⟨h1, h2⟩
  obtain ⟨h1, h2⟩ := ans_base b h0.1
  have hb : b / 4096 * 4096 % 4294967296 = b := by omega
  unfold ansB
  simp only
  rw [hb, if_neg (by simp [h1]), if_neg (by simp [h]), if_neg (by rw [h2, h0.2]; omega)]
  exact ⟨h1, by rw [h2, h0.2]⟩
end Pg
end Go.Proofs.Ytblfagmoilhdnaa

/- Plain law: the document's tables, step after step with a cap, are the builder's. -/
set_option linter.unusedVariables false
set_option linter.unusedSimpArgs false
namespace Go.Proofs.Ytblfagmoilhdnaa
namespace Pg
/-- what one window of two megabytes wants -/
def tabM (l : List Lab) (b : Bool) (m : Nat) : List Lab := if b then ens l (1, m / 512) else ens (ens l (1, m / 512)) (2, m)
theorem tab1_tabM (l : List Lab) (q : Pge) : tab1 l q = tabM l q.b (q.v / 2097152) := by
  unfold tab1 tabM
  rw [show q.v / 1073741824 = q.v / 2097152 / 512 by omega]
def capF : List (Bool × Nat) → List Lab → List Lab
  | [], l => l
  | s :: r, l => if 1024 < l.length then l else capF r (tabM l s.1 s.2)
def unF (s : List (Bool × Nat)) (l : List Lab) : List Lab := s.foldl (fun l s => tabM l s.1 s.2) l
def stepsR (b : Bool) (m k : Nat) : List (Bool × Nat) := (List.range' m k).map (fun i => (b, i))
/-- how many windows a row reaches to -/
def Lf.win (r : Lf) : Nat := (r.v + r.n.toNat * 4096 + 2097151) / 2097152
def Lf.steps (r : Lf) : List (Bool × Nat) := stepsR r.b (r.v / 2097152) (r.win - r.v / 2097152)
def stepsOf (rows : List Lf) : List (Bool × Nat) := rows.flatMap Lf.steps
theorem stepsR_cons (b : Bool) (m k : Nat) : stepsR b m (k + 1) = (b, m) :: stepsR b (m + 1) k := by simp [stepsR, List.range'_succ]
theorem stepsR_snoc (b : Bool) (m k : Nat) : stepsR b m (k + 1) = stepsR b m k ++ [(b, m + k)] := by simp [stepsR, List.range'_concat]
theorem capF_full {s : List (Bool × Nat)} {l : List Lab} (h : 1024 < l.length) : capF s l = l := by
  cases s with
  | nil => rfl
  | cons a r => unfold capF; rw [if_pos h]
theorem capF_app (a b : List (Bool × Nat)) : ∀ l, capF (a ++ b) l = capF b (capF a l) := by
  induction a with
  | nil => intro l; rfl
  | cons s r ih =>
    intro l
    rw [List.cons_append]
    by_cases h : 1024 < l.length
    · rw [capF_full h, capF_full (s := s :: r) h, capF_full h]
    · show (if 1024 < l.length then l else capF (r ++ b) (tabM l s.1 s.2)) = capF b (if 1024 < l.length then l else capF r (tabM l s.1 s.2))
      rw [if_neg h, if_neg h]
      exact ih _
theorem ens_len (l : List Lab) (t : Lab) : l.length ≤ (ens l t).length ∧ (ens l t).length ≤ l.length + 1 := by
  unfold ens; split <;> simp
theorem tabM_len (l : List Lab) (b : Bool) (m : Nat) : l.length ≤ (tabM l b m).length ∧ (tabM l b m).length ≤ l.length + 2 := by
  have h1 := ens_len l (1, m / 512)
  have h2 := ens_len (ens l (1, m / 512)) (2, m)
  unfold tabM
  split <;> omega
theorem unF_len (s : List (Bool × Nat)) : ∀ l, l.length ≤ (unF s l).length := by
  induction s with
  | nil => intro l; exact Nat.le_refl _
  | cons a r ih => intro l; exact Nat.le_trans (tabM_len l a.1 a.2).1 (ih _)
theorem cap_le (s : List (Bool × Nat)) : ∀ l, (unF s l).length ≤ 1024 → capF s l = unF s l := by
  induction s with
  | nil => intro l _; rfl
  | cons a r ih =>
    intro l h
    have h1 := unF_len (a :: r) l
    unfold capF
    rw [if_neg (by omega)]
    exact ih _ h
theorem cap_gt (s : List (Bool × Nat)) : ∀ l, 1024 < (unF s l).length → 1024 < (capF s l).length := by
  induction s with
  | nil => intro l h; exact h
  | cons a r ih =>
    intro l h
    unfold capF
    split
    · assumption
    · exact ih _ h
theorem cap_most (s : List (Bool × Nat)) : ∀ l, l.length ≤ 1026 → (capF s l).length ≤ 1026 := by
  induction s with
  | nil => intro l h; exact h
  | cons a r ih =>
    intro l h
    unfold capF
    split
    · exact h
    · have := (tabM_len l a.1 a.2).2
      exact ih _ (by omega)
theorem unF_app (a b : List (Bool × Nat)) (l : List Lab) : unF (a ++ b) l = unF b (unF a l) := by simp [unF, List.foldl_append]
theorem tabM_in {l : List Lab} {b : Bool} {m : Nat} (h1 : (1, m / 512) ∈ l) (h2 : b = false → (2, m) ∈ l) : tabM l b m = l := by
  unfold tabM
  rw [ens_in h1]
  cases b
  · rw [ens_in (h2 rfl)]; rfl
  · rfl
theorem tabM_mem (l : List Lab) (b : Bool) (m : Nat) : (1, m / 512) ∈ tabM l b m ∧ (b = false → (2, m) ∈ tabM l b m) := by
  unfold tabM
  cases b
  · simp [mem_ens]
  · simp [mem_ens]
theorem tabM_idem (l : List Lab) (b : Bool) (m : Nat) : tabM (tabM l b m) b m = tabM l b m := tabM_in (tabM_mem l b m).1 (tabM_mem l b m).2
/-- a row's pages want what its windows want -/
theorem row_tabs {r : Lf} (h : r.Ok) (l : List Lab) : r.pages.foldl tab1 l = unF r.steps l := by
  have hu := h.cnt_u
  have hp := h.cnt_pos
  have hva := h.va
  have key : ∀ c, 1 ≤ c → ((List.range c).map r.page).foldl tab1 l = unF (stepsR r.b (r.v / 2097152) ((r.v + (c - 1) * r.u) / 2097152 - r.v / 2097152 + 1)) l := by
    intro c hc
    induction c with
    | zero => omega
    | succ c ih =>
      rw [List.range_succ, List.map_append, List.foldl_append]
      simp only [List.map_cons, List.map_nil, List.foldl_cons, List.foldl_nil]
      rw [tab1_tabM]
      show tabM _ r.b ((r.v + c * r.u) / 2097152) = _
      rcases Nat.eq_zero_or_pos c with h0 | h0
      · subst h0
        simp only [List.range_zero, List.map_nil, List.foldl_nil, Nat.zero_mul, Nat.add_zero]
        rw [show 0 + 1 - 1 = 0 by omega, Nat.zero_mul]
        simp only [Nat.add_zero, Nat.sub_self]
        rfl
      · rw [ih h0, Nat.add_sub_cancel]
        obtain ⟨d, hd⟩ : ∃ d, d = (r.v + (c - 1) * r.u) / 2097152 - r.v / 2097152 := ⟨_, rfl⟩
        have hm : (c - 1) * r.u + r.u = c * r.u := by rw [← Nat.succ_mul]; congr 1; omega
        have hd2 : r.v / 2097152 + d = (r.v + (c - 1) * r.u) / 2097152 := by omega
        rw [← hd]
        have hlast : ∀ k, unF (stepsR r.b (r.v / 2097152) (k + 1)) l = tabM (unF (stepsR r.b (r.v / 2097152) k) l) r.b (r.v / 2097152 + k) := by
          intro k; rw [stepsR_snoc, unF_app]; rfl
        by_cases he : (r.v + c * r.u) / 2097152 = (r.v + (c - 1) * r.u) / 2097152
        · rw [he, ← hd2, hlast d, tabM_idem, show r.v / 2097152 + d - r.v / 2097152 = d by omega, hlast d]
        · have hn : (r.v + c * r.u) / 2097152 = r.v / 2097152 + d + 1 := by
            have : r.u ≤ 2097152 := by rcases r.u_or with h | h <;> omega
            omega
          rw [hn, show r.v / 2097152 + d + 1 - r.v / 2097152 + 1 = d + 1 + 1 by omega, hlast (d + 1)]
          congr 1
  have := key r.cnt hp
  unfold Lf.steps Lf.pages
  rw [this]
  congr 2
  have hm : (r.cnt - 1) * r.u + r.u = r.cnt * r.u := by rw [← Nat.succ_mul]; congr 1; omega
  unfold Lf.win
  rcases r.u_or with h | h
  · rw [h] at hm hu hva ⊢
    omega
  · rw [h] at hm hu hva ⊢
    omega
theorem tabs_steps {rows : List Lf} (h : ∀ r ∈ rows, r.Ok) : tabs (pagesOf rows) = unF (stepsOf rows) [(0, 0)] := by
  have aux : ∀ (rows : List Lf) (l : List Lab), (∀ r ∈ rows, r.Ok) → (pagesOf rows).foldl tab1 l = unF (stepsOf rows) l := by
    intro rows
    induction rows with
    | nil =>
      intro l _
      unfold pagesOf stepsOf unF
      simp only [List.flatMap_nil, List.foldl_nil]
    | cons r rs ih =>
      intro l h
      have e1 : pagesOf (r :: rs) = r.pages ++ pagesOf rs := by unfold pagesOf; rw [List.flatMap_cons]
      have e2 : stepsOf (r :: rs) = r.steps ++ stepsOf rs := by unfold stepsOf; rw [List.flatMap_cons]
      rw [e1, e2, List.foldl_append, unF_app, row_tabs (h r (by simp)), ih _ fun x hx => h x (by simp [hx])]
  unfold tabs
  exact aux rows _ h
theorem tabs_mono (a b : List Pge) : (tabs a).length ≤ (tabs (a ++ b)).length := by
  induction b generalizing a with
  | nil => simp
  | cons q r ih =>
    have h1 := ih (a ++ [q])
    rw [List.append_assoc] at h1
    refine Nat.le_trans ?_ h1
    rw [tabs_snoc]
    obtain ⟨m, hm⟩ := tab1_pre (tabs a) q
    rw [hm, List.length_append]
    omega
/-- the builder runs out of tables where too many are wanted -/
theorem runP_none {base : Nat} : ∀ (qs ps : List Pge) (s : St), Known base ps s → Chain (ps ++ qs) → s.all.length ≤ 1024 → (runP base s qs = none ↔ 1024 < (tabs (ps ++ qs)).length)
  | [], ps, s, h, hc, hl => by
    have := h.rep.len
    simp only [List.append_nil]
    unfold runP
    constructor
    · intro h; cases h
    · intro h; omega
  | q :: r, ps, s, h, hc, hl => by
    rw [runP_cons]
    have hc' : Chain ((ps ++ [q]) ++ r) := by simpa using hc
    have hc1 : Chain (ps ++ [q]) := ⟨(List.pairwise_append.1 hc'.1).1, fun x hx => hc'.2 x (List.mem_append.2 (.inl hx))⟩
    have hk := h.step hc1
    have hlen := hk.rep.len
    have hmono := tabs_mono (ps ++ [q]) r
    rw [List.append_assoc] at hmono
    by_cases hgt : 1024 < (step base s q).all.length
    · rw [if_pos hgt]
      refine ⟨fun _ => ?_, fun _ => rfl⟩
      have : [q] ++ r = q :: r := rfl
      rw [this] at hmono
      omega
    · rw [if_neg hgt]
      have := runP_none r (ps ++ [q]) _ hk hc' (by omega)
      simpa using this
/-- the tables that the document tells -/
def refT (rows : List Lf) : List Lab := capF (stepsOf rows) [(0, 0)]
theorem refT_len {rows : List Lf} (h : right 0 rows = 0) (base : Nat) : (1024 < (refT rows).length ↔ runP base init (pagesOf rows) = none) ∧ ((refT rows).length ≤ 1024 → refT rows = tabs (pagesOf rows)) := by
  have hok := right_all h
  have hc := (right_pages rows 0 h).1
  have ht := tabs_steps hok
  have hn := runP_none (base := base) (pagesOf rows) [] init (known_init base) (by simpa using hc) (by decide)
  rw [List.nil_append, ht] at hn
  unfold refT
  rw [ht]
  by_cases hg : 1024 < (unF (stepsOf rows) [(0, 0)]).length
  · have := cap_gt _ _ hg
    exact ⟨⟨fun _ => hn.2 hg, fun _ => this⟩, fun h => by omega⟩
  · have := cap_le (stepsOf rows) [(0, 0)] (by omega)
    rw [this]
    exact ⟨⟨fun h => absurd h hg, fun h => absurd (hn.1 h) hg⟩, fun _ => rfl⟩
/-- what the document's Count tells -/
def refC (rows : List Lf) : Nat × Nat := if right 0 rows ≠ 0 then (0, right 0 rows) else if 1024 < (refT rows).length then (0, 4) else ((refT rows).length, 0)
theorem refC_ans (rows : List Lf) (base : Nat) : refC rows = ((ans rows base).1.length, (ans rows base).2) := by
  obtain ⟨h1, h2⟩ : (right 0 rows = 0 → (1024 < (refT rows).length ↔ runP base init (pagesOf rows) = none)) ∧ (right 0 rows = 0 → (refT rows).length ≤ 1024 → refT rows = tabs (pagesOf rows)) := ⟨fun h => (refT_len h base).1, fun h => (refT_len h base).2⟩
  by_cases h : right 0 rows = 0
  · have e0 : refC rows = if 1024 < (refT rows).length then (0, 4) else ((refT rows).length, 0) := by unfold refC; rw [if_neg (by simp [h])]
    have en : runP base init (pagesOf rows) = none → ans rows base = ([], 4) := fun hr => by unfold ans; rw [if_neg (by simp [h]), hr]
    have es : ∀ s, runP base init (pagesOf rows) = some s → ans rows base = (s.all, 0) := fun s hr => by unfold ans; rw [if_neg (by simp [h]), hr]
    rw [e0]
    by_cases hg : 1024 < (refT rows).length
    · rw [if_pos hg, en ((h1 h).1 hg)]; rfl
    · have hg2 : (refT rows).length ≤ 1024 := Nat.le_of_not_lt hg
      rw [if_neg hg]
      cases hr : runP base init (pagesOf rows) with
      | none => exact absurd ((h1 h).2 hr) hg
      | some s =>
        have hc := (right_pages rows 0 h).1
        have hk := runP_known (pagesOf rows) [] init s (known_init base) (by simpa using hc) hr
        rw [List.nil_append] at hk
        rw [h2 h hg2, es s hr]
        show _ = (s.all.length, 0)
        rw [hk.rep.len]
  · have e0 : refC rows = (0, right 0 rows) := by unfold refC; rw [if_pos (by simpa using h)]
    have e1 : ans rows base = ([], right 0 rows) := by unfold ans; rw [if_pos (by simpa using h)]
    rw [e0, e1]; rfl
end Pg
end Go.Proofs.Ytblfagmoilhdnaa

/- Plain law: tables that are named first and filled then are the builder's. -/
set_option linter.unusedVariables false
set_option linter.unusedSimpArgs false
namespace Go.Proofs.Ytblfagmoilhdnaa
namespace Pg
/-- a table's number where it is one of the first k -/
def nameAt (base : Nat) (L : List Lab) (k : Nat) (s : Lab) : Nat := if s ∈ L ∧ L.idxOf s < k then ptr base (L.idxOf s) else 0
def ent0 (base : Nat) (L : List Lab) (k : Nat) (t : Lab) (e : Nat) : Nat :=
  if t.1 = 0 then nameAt base L k (1, e) else if t.1 = 1 then nameAt base L k (2, t.2 * 512 + e) else 0
/-- the first k tables are named -/
structure Ptrs (base : Nat) (L : List Lab) (k : Nat) (all : List (List Nat)) : Prop where
  len : all.length = L.length
  tab : ∀ i, i < all.length → (all.getD i []).length = 512
  ent : ∀ i t, L[i]? = some t → ∀ e, e < 512 → cell all i e = ent0 base L k t e
theorem cell_zeros {a : List (List Nat)} {n i e : Nat} (h : a = List.replicate n zero512) : cell a i e = 0 := by
  subst h
  unfold cell
  rw [List.getD_eq_getElem?_getD, List.getD_eq_getElem?_getD, List.getElem?_replicate]
  split
  · show ((List.replicate 512 0)[e]?).getD 0 = 0
    rw [List.getElem?_replicate]
    split <;> rfl
  · rfl
theorem idx_at {L : List Lab} (h : L.Nodup) {k : Nat} {s : Lab} (hs : L[k]? = some s) : s ∈ L ∧ L.idxOf s = k := by
  have hm := List.mem_of_getElem? hs
  refine ⟨hm, nodup_at h ?_ hs⟩
  rw [List.getElem?_eq_getElem (List.idxOf_lt_length_iff.2 hm), List.getElem_idxOf]
theorem at_idxOf {L : List Lab} {s : Lab} (hm : s ∈ L) : L[L.idxOf s]? = some s := by
  rw [List.getElem?_eq_getElem (List.idxOf_lt_length_iff.2 hm), List.getElem_idxOf]
theorem Ptrs.init {base : Nat} {L : List Lab} (hg : Good L) : Ptrs base L 1 (List.replicate L.length zero512) := by
  have hz : ∀ s : Lab, s.1 ≠ 0 → nameAt base L 1 s = 0 := by
    intro s hs
    unfold nameAt
    rw [if_neg]
    rintro ⟨hm, h1⟩
    have h0 : L.idxOf s = 0 := by omega
    have h2 := at_idxOf hm
    rw [h0, hg.root] at h2
    injection h2 with h2
    subst h2
    exact hs rfl
  refine ⟨List.length_replicate, ?_, ?_⟩
  · intro i hi
    rw [List.length_replicate] at hi
    rw [List.getD_eq_getElem?_getD, List.getElem?_replicate, if_pos hi]
    exact List.length_replicate
  · intro i t hi e he
    rw [cell_zeros rfl]
    unfold ent0
    by_cases h0 : t.1 = 0
    · rw [if_pos h0, hz _ (by simp)]
    · rw [if_neg h0]
      by_cases h1 : t.1 = 1
      · rw [if_pos h1, hz _ (by simp)]
      · rw [if_neg h1]
/-- the table that names a table -/
def par (L : List Lab) (s : Lab) : Nat := if s.1 = 1 then 0 else L.idxOf (1, s.2 / 512)
theorem nameAt_next {base : Nat} {L : List Lab} {k : Nat} {s : Lab} (hg : L.Nodup) (hs : L[k]? = some s) (u : Lab) : nameAt base L (k + 1) u = if u = s then ptr base k else nameAt base L k u := by
  obtain ⟨hm, hi⟩ := idx_at hg hs
  unfold nameAt
  by_cases hu : u = s
  · subst hu
    rw [if_pos rfl, if_pos ⟨hm, by omega⟩, hi]
  · rw [if_neg hu]
    by_cases h : u ∈ L ∧ L.idxOf u < k + 1
    · have h2 : L.idxOf u ≠ k := fun h2 => by
        have := at_idxOf h.1
        rw [h2, hs] at this
        injection this with this
        exact hu this.symm
      rw [if_pos h, if_pos ⟨h.1, by omega⟩]
    · rw [if_neg h, if_neg (fun h' => h ⟨h'.1, by omega⟩)]
theorem Ptrs.next {base : Nat} {L : List Lab} {k : Nat} {all : List (List Nat)} (h : Ptrs base L k all) (hg : Good L) {s : Lab} (hs : L[k]? = some s) (h12 : s.1 = 1 ∧ s.2 < 512 ∨ s.1 = 2 ∧ (1, s.2 / 512) ∈ L) :
    Ptrs base L (k + 1) (setE all (par L s) (s.2 % 512) (ptr base k)) := by
  have hp : ∃ p, L[par L s]? = some p ∧ (p.1 = 0 ∧ s = (1, s.2 % 512) ∨ p.1 = 1 ∧ s = (2, p.2 * 512 + s.2 % 512)) := by
    obtain ⟨s1, s2⟩ := s
    rcases h12 with ⟨h1, h2⟩ | ⟨h1, h2⟩
    · refine ⟨(0, 0), ?_, .inl ⟨rfl, ?_⟩⟩
      · unfold par; rw [if_pos h1]; exact hg.root
      · simp only at h1 h2 ⊢; subst h1; rw [Nat.mod_eq_of_lt h2]
    · refine ⟨(1, s2 / 512), ?_, .inr ⟨rfl, ?_⟩⟩
      · unfold par; rw [if_neg (by simp only at h1 ⊢; omega)]; exact at_idxOf h2
      · simp only at h1 h2 ⊢
        subst h1
        rw [show s2 / 512 * 512 + s2 % 512 = s2 by omega]
  obtain ⟨p, hp1, hp2⟩ := hp
  have hia : par L s < all.length := by rw [h.len]; exact (List.getElem?_eq_some_iff.1 hp1).1
  refine ⟨by rw [setE_len, h.len], tab_setE h.tab, ?_⟩
  intro i t hi e he
  rw [cell_setE hia (h.tab _ hia) (by omega), h.ent i t hi e he]
  by_cases hit : i = par L s ∧ e = s.2 % 512
  · obtain ⟨rfl, rfl⟩ := hit
    rw [if_pos ⟨rfl, rfl⟩]
    rw [hp1] at hi
    injection hi with hi
    subst hi
    unfold ent0
    rcases hp2 with ⟨h0, h1⟩ | ⟨h0, h1⟩
    · rw [if_pos h0, nameAt_next hg.nd hs, ← h1, if_pos rfl]
    · rw [if_neg (by omega), if_pos h0, nameAt_next hg.nd hs, ← h1, if_pos rfl]
  · rw [if_neg hit]
    unfold ent0
    by_cases h0 : t.1 = 0
    · rw [if_pos h0, if_pos h0, nameAt_next hg.nd hs, if_neg]
      intro h1
      have e1 := hg.lev t (List.mem_of_getElem? hi) h0
      rcases hp2 with ⟨a, b⟩ | ⟨a, b⟩
      · have e2 := hg.lev p (List.mem_of_getElem? hp1) a
        subst e1 e2
        rw [← h1] at b
        injection b with _ b
        exact hit ⟨nodup_at hg.nd hi hp1, by rw [← h1]; omega⟩
      · rw [← h1] at b; injection b with b _; omega
    · rw [if_neg h0, if_neg h0]
      by_cases h1 : t.1 = 1
      · rw [if_pos h1, if_pos h1, nameAt_next hg.nd hs, if_neg]
        intro h2
        rcases hp2 with ⟨a, b⟩ | ⟨a, b⟩
        · rw [← h2] at b; injection b with b _; omega
        · have e1 : t = p := by
            rw [← h2] at b
            injection b with _ b
            obtain ⟨t1, t2⟩ := t
            obtain ⟨p1, p2⟩ := p
            simp only at a h1 b
            subst a h1
            have : t2 = p2 := by omega
            rw [this]
          subst e1
          refine hit ⟨nodup_at hg.nd hi hp1, ?_⟩
          rw [← h2]
          show e = (t.2 * 512 + e) % 512
          omega
      · rw [if_neg h1, if_neg h1]
theorem Ptrs.rep {base : Nat} {L : List Lab} {all : List (List Nat)} (h : Ptrs base L L.length all) : Rep base L [] all := by
  refine ⟨h.len, h.tab, ?_⟩
  intro i t hi e he
  rw [h.ent i t hi e he]
  have hn : ∀ s, nameAt base L L.length s = if s ∈ L then ptr base (L.idxOf s) else 0 := by
    intro s
    unfold nameAt
    by_cases hs : s ∈ L
    · rw [if_pos ⟨hs, List.idxOf_lt_length_iff.2 hs⟩, if_pos hs]
    · rw [if_neg (fun h => hs h.1), if_neg hs]
  have hp : ∀ b k, pageAt [] b k = 0 := fun b k => pageAt_none (by simp)
  unfold ent0 entry
  by_cases h0 : t.1 = 0
  · rw [if_pos h0, if_pos h0, hn]
  · rw [if_neg h0, if_neg h0]
    by_cases h1 : t.1 = 1
    · rw [if_pos h1, if_pos h1, hn, hp]
    · rw [if_neg h1, if_neg h1, hp]
theorem Rep.ext {base : Nat} {L : List Lab} {qs : List Pge} {a c : List (List Nat)} (h : Rep base L qs a) (h2 : Rep base L qs c) : a = c := by
  have hl : a.length = c.length := by rw [h.len, h2.len]
  have gd : ∀ (z : List (List Nat)) (i : Nat) (hi : i < z.length), z.getD i [] = z[i] := by
    intro z i hi
    rw [List.getD_eq_getElem?_getD, List.getElem?_eq_getElem hi]; rfl
  have gd2 : ∀ (z : List Nat) (i : Nat) (hi : i < z.length), z.getD i 0 = z[i] := by
    intro z i hi
    rw [List.getD_eq_getElem?_getD, List.getElem?_eq_getElem hi]; rfl
  refine List.ext_getElem hl fun i hi hi2 => ?_
  have t1 := h.tab i hi
  have t2 := h2.tab i hi2
  rw [gd a i hi] at t1
  rw [gd c i hi2] at t2
  refine List.ext_getElem (t1.trans t2.symm) fun e he he2 => ?_
  have hLi : i < L.length := by rw [← h.len]; exact hi
  have e1 := h.ent i L[i] (List.getElem?_eq_getElem hLi) e (by omega)
  have e2 := h2.ent i L[i] (List.getElem?_eq_getElem hLi) e (by omega)
  unfold cell at e1 e2
  rw [gd a i hi, gd2 _ e he] at e1
  rw [gd c i hi2, gd2 _ e he2] at e2
  rw [e1, e2]
/-- what the pages want of the tables, all at once -/
structure Wanted (L : List Lab) (qs : List Pge) : Prop where
  good : Good L
  lev : ∀ t ∈ L, t.1 ≤ 2
  up : ∀ t ∈ L, t.1 = 1 ∧ t.2 < 512 ∨ t.1 = 2 ∧ (1, t.2 / 512) ∈ L ∨ t = (0, 0)
  big : ∀ q ∈ qs, q.b = true → (1, q.v / 1073741824) ∈ L ∧ (2, q.v / 2097152) ∉ L
  small : ∀ q ∈ qs, q.b = false → (2, q.v / 2097152) ∈ L
theorem chain_far {qs : List Pge} (hc : Chain qs) {x q : Pge} (hx : x ∈ qs) (hq : q ∈ qs) : x = q ∨ x.v + x.u ≤ q.v ∨ q.v + q.u ≤ x.v := by
  obtain ⟨i, hi, rfl⟩ := List.getElem_of_mem hx
  obtain ⟨j, hj, rfl⟩ := List.getElem_of_mem hq
  have hp := List.pairwise_iff_getElem.1 hc.1
  rcases Nat.lt_trichotomy i j with h | h | h
  · exact .inr (.inl (hp i j hi hj h))
  · subst h; exact .inl rfl
  · exact .inr (.inr (hp j i hj hi h))
theorem wanted_of {qs : List Pge} (hc : Chain qs) : Wanted (tabs qs) qs := by
  refine ⟨good_tabs qs, lev_tabs qs, ?_, ?_, ?_⟩
  · intro t ht
    rcases mem_tabs.1 ht with rfl | ⟨q, hq, rfl | ⟨hb, rfl⟩⟩
    · exact .inr (.inr rfl)
    · refine .inl ⟨rfl, ?_⟩
      have := (hc.2 q hq).vl
      have : q.u ≥ 4096 := by rcases q.u_or with h | h <;> omega
      show q.v / 1073741824 < 512
      omega
    · refine .inr (.inl ⟨rfl, mem_tabs.2 (.inr ⟨q, hq, .inl ?_⟩)⟩)
      show (1, q.v / 2097152 / 512) = _
      rw [show q.v / 2097152 / 512 = q.v / 1073741824 by omega]
  · intro q hq hb
    refine ⟨mem_tabs.2 (.inr ⟨q, hq, .inl rfl⟩), fun hm => ?_⟩
    rcases mem_tabs.1 hm with h | ⟨x, hx, h | ⟨hxb, h⟩⟩
    · injection h with h _; cases h
    · injection h with h _; cases h
    · injection h with _ h
      have h1 := (hc.2 q hq).va
      have h2 : q.u = 2097152 := by unfold Pge.u; rw [hb]; rfl
      have h3 : x.u = 4096 := by unfold Pge.u; rw [hxb]; rfl
      have h4 := (hc.2 x hx).va
      rcases chain_far hc hx hq with he | he | he
      · subst he; rw [hb] at hxb; cases hxb
      · rw [h3] at he; rw [h2] at h1; omega
      · rw [h2] at he h1; omega
  · intro q hq hb
    exact mem_tabs.2 (.inr ⟨q, hq, .inr ⟨hb, rfl⟩⟩)
/-- the table that a page lies in -/
def pOf (L : List Lab) (q : Pge) : Nat := L.idxOf (if q.b then (1, q.v / 1073741824) else (2, q.v / 2097152))
def eOf (q : Pge) : Nat := if q.b then q.v / 2097152 % 512 else q.v / 4096 % 512
theorem Rep.lay {base : Nat} {L : List Lab} {qs pages : List Pge} {all : List (List Nat)} (h : Rep base L qs all) (hw : Wanted L pages) {q : Pge} (hq : q ∈ pages) (hc : Chain (qs ++ [q])) :
    Rep base L (qs ++ [q]) (setE all (pOf L q) (eOf q) q.num) := by
  obtain ⟨hcq, hok, hlt⟩ := chain_snoc hc
  refine h.page hw.good hw.lev ?_ (fun hb => (hw.big q hq hb).2) ?_
  · unfold pOf
    cases hb : q.b
    · exact at_idxOf (hw.small q hq hb)
    · exact at_idxOf (hw.big q hq hb).1
  · rintro x hx ⟨hb, he⟩
    have h1 := hlt x hx
    have hu : x.u = q.u := by unfold Pge.u; rw [hb]
    have h2 := (hcq.2 x hx).va
    have h3 := hok.va
    rw [hu] at h1 h2
    rcases q.u_or with ⟨h4, _⟩ | ⟨h4, _⟩
    · rw [h4] at h1 h2 h3 he; omega
    · rw [h4] at h1 h2 h3 he; omega
theorem rep_ans {rows : List Lf} {base : Nat} {all : List (List Nat)} (hr : right 0 rows = 0) (hl : (refT rows).length ≤ 1024) (h : Rep base (refT rows) (pagesOf rows) all) : ans rows base = (all, 0) := by
  have hc := (right_pages rows 0 hr).1
  obtain ⟨h1, h2⟩ := refT_len hr base
  cases hp : runP base Pg.init (pagesOf rows) with
  | none => exact absurd (h1.2 hp) (by omega)
  | some s =>
    have hk := runP_known (pagesOf rows) [] Pg.init s (known_init base) (by simpa using hc) hp
    rw [List.nil_append] at hk
    rw [h2 hl] at h
    have he := h.ext hk.rep
    have es : ans rows base = (s.all, 0) := by unfold ans; rw [if_neg (by simp [hr]), hp]
    rw [es, he]
theorem ptr_of {base k : Nat} (h4 : base % 4096 = 0) (hl : base + k * 4096 < 4294967296) : (base + k * 4096) ||| 1 = ptr base k := by
  unfold ptr
  rw [Nat.mod_eq_of_lt hl]
  have : (base + k * 4096) % 2 = 0 := by omega
  obtain ⟨z, hz⟩ : ∃ z, base + k * 4096 = 2 * z := ⟨(base + k * 4096) / 2, by omega⟩
  rw [hz]
  rw [show (1:Nat) = 2 * 0 + 1 from rfl]
  apply Nat.eq_of_testBit_eq
  intro i
  cases i with
  | zero => simp
  | succ i =>
    rw [Nat.testBit_or, Nat.testBit_succ, Nat.testBit_succ, Nat.testBit_succ]
    rw [show 2 * z / 2 = z by omega, show (2 * 0 + 1) / 2 = 0 by omega, show (2 * z + (2 * 0 + 1)) / 2 = z by omega]
    simp
end Pg
end Go.Proofs.Ytblfagmoilhdnaa

/- The walks of the document's unit and Refuses. -/
set_option linter.unusedVariables false
set_option linter.unusedSimpArgs false
namespace Go.Proofs.Ytblfagmoilhdnaa
open Go.RowKit

set_option maxRecDepth 100000 in
theorem runit_any (r : Pg.Lf) (w : World) : Calls Try.prog 49 #[lfV r] w fun e w' => e = .returned (.int .u64 (r.u : Nat)) ∧ Below w.heap.size w w' := by
  unfold lfV
  have hu : r.u = if r.b then 2097152 else 4096 := rfl
  cases hb : r.b
  · rw [hb] at hu
    have HU := Lib.hid hu
    clear hu hb
    go_enter Try.func49, Try.ntmps49
    go_wp2
    go_ret
    exact ⟨by rw [HU.out]; rfl, (Below.refl _ _).alloc (Nat.le_refl _) _⟩
  · rw [hb] at hu
    have HU := Lib.hid hu
    clear hu hb
    go_enter Try.func49, Try.ntmps49
    go_wp2
    go_ret
    exact ⟨by rw [HU.out]; rfl, (Below.refl _ _).alloc (Nat.le_refl _) _⟩
/-- six cells, and that what is older stays -/
def Six (g v p : Nat) (m : Int) (bg wt ex : Bool) (w1 w' : World) : Prop := w'.cell? ⟨g, 0, none⟩ = some (.int .u64 (v : Nat)) ∧ w'.cell? ⟨g, 1, none⟩ = some (.int .u64 (p : Nat)) ∧ w'.cell? ⟨g, 2, none⟩ = some (.int .i64 m) ∧ w'.cell? ⟨g, 3, none⟩ = some (.bool bg) ∧ w'.cell? ⟨g, 4, none⟩ = some (.bool wt) ∧ w'.cell? ⟨g, 5, none⟩ = some (.bool ex) ∧ Hid (Below (g + 1) w1 w' ∧ g < w1.heap.size)
theorem Six.below {g v p : Nat} {m : Int} {bg wt ex : Bool} {w1 w' w2 : World} (h : Six g v p m bg wt ex w1 w') (hb : Below w'.heap.size w' w2) : Six g v p m bg wt ex w1 w2 := by
  obtain ⟨a0, a1, a2, a3, a4, a5, hh⟩ := h
  have hl := Nat.lt_of_lt_of_le hh.out.2 hh.out.1.size
  exact ⟨(hb.cell (p := ⟨g, 0, none⟩) hl).trans a0, (hb.cell (p := ⟨g, 1, none⟩) hl).trans a1, (hb.cell (p := ⟨g, 2, none⟩) hl).trans a2, (hb.cell (p := ⟨g, 3, none⟩) hl).trans a3, (hb.cell (p := ⟨g, 4, none⟩) hl).trans a4, (hb.cell (p := ⟨g, 5, none⟩) hl).trans a5, Lib.hid ⟨hh.out.1.trans (hb.mono hl), hh.out.2⟩⟩
theorem small_never (bg : Bool) (n : Nat) (v p : Nat) (wt ex : Bool) : (n * 4096 % Pg.Lf.u ⟨v, p, (n : Nat), bg, wt, ex⟩ ≠ 0) ↔ (bg = true ∧ n % 512 ≠ 0) := by
  unfold Pg.Lf.u
  cases bg
  · simp
  · simp only [if_true, true_and]
    omega
set_option maxRecDepth 100000 in
set_option maxHeartbeats 1000000 in
theorem refuses_any (A : Option Addr) (n c : Nat) (rows : List Pg.Lf) (w : World) (hr : IsL w w.heap.size A n rows) :
    Calls Try.prog 21 #[.slice A n c] w fun e w' => e = .returned (.int .i64 (Pg.right 0 rows : Nat)) ∧ Below w.heap.size w w' := by
  obtain ⟨b, off, HF⟩ := hr.form
  have HL := Lib.hid hr.2.2.1
  have HIN := Lib.hid hr.2.1
  have hn := hr.2.2.2
  clear hr
  go_enter Try.func21, Try.ntmps21
  go_wp2
  go_loopw [3, 4] (fun h i wr => ∃ k bh : Nat, k ≤ n ∧ i = .int .i64 k ∧ h = .int .u64 bh ∧ Hid (bh ≤ 549755813888) ∧ Hid (Pg.right bh (rows.drop k) = Pg.right 0 rows) ∧ Hid (Below w.heap.size w wr)) (fun _ i _ => n - (intOf i).toNat)
  case atStart => exact ⟨0, 0, by omega, rfl, rfl, Lib.hid (by omega), Lib.hid rfl, Lib.hid (Below.refl _ _)⟩
  case round =>
    obtain ⟨k, bh, hk, rfl, rfl, HBH, HR, HB⟩ := hrel
    by_cases hkn : k < n
    · obtain ⟨hA, hbB, hc⟩ := HF.out (by omega)
      subst hA
      obtain ⟨r, hrk⟩ : ∃ r, rows[k]? = some r := ⟨_, List.getElem?_eq_getElem (by have := HL.out; omega)⟩
      have hIn := HIN.out r (List.mem_of_getElem? hrk)
      have hd : rows.drop k = r :: rows.drop (k + 1) := by
        obtain ⟨hlt, he⟩ := List.getElem?_eq_some_iff.1 hrk
        rw [List.drop_eq_getElem_cons hlt, he]
      have c0 := (HB.out.cell (p := ⟨b, off + k * 6, none⟩) hbB).trans (hc k r hrk 0 _ rfl)
      have c1 := (HB.out.cell (p := ⟨b, off + k * 6 + 1, none⟩) hbB).trans (hc k r hrk 1 _ rfl)
      have c2 := (HB.out.cell (p := ⟨b, off + k * 6 + 2, none⟩) hbB).trans (hc k r hrk 2 _ rfl)
      have c3 := (HB.out.cell (p := ⟨b, off + k * 6 + 3, none⟩) hbB).trans (hc k r hrk 3 _ rfl)
      have c4 := (HB.out.cell (p := ⟨b, off + k * 6 + 4, none⟩) hbB).trans (hc k r hrk 4 _ rfl)
      have c5 := (HB.out.cell (p := ⟨b, off + k * 6 + 5, none⟩) hbB).trans (hc k r hrk 5 _ rfl)
      obtain ⟨v, p, m, bg, wt, ex⟩ := r
      have hrow := Row.new wr 47 (lcells ⟨v, p, m, bg, wt, ex⟩)
      have hba : Below w.heap.size w (wr.alloc (.cells (lcells ⟨v, p, m, bg, wt, ex⟩).toArray 47)) := HB.out.alloc HB.out.size _
      unfold lcells at hrow hba
      go_upto_region 6 with fail
      obtain ⟨w1, hw1⟩ : ∃ w1, w1 = wr.alloc (.cells #[.int .u64 (v : Nat), .int .u64 (p : Nat), .int .i64 m, .bool bg, .bool wt, .bool ex] 47) := ⟨_, rfl⟩
      simp only [] at hrow hba
      obtain ⟨g, hg⟩ : ∃ g, g = wr.heap.size := ⟨_, rfl⟩
      rw [← hw1] at hrow hba ⊢
      rw [← hg] at hrow ⊢
      have d0 := hrow.cell 0
      have d1 := hrow.cell 1
      have d2 := hrow.cell 2
      have d3 := hrow.cell 3
      have d4 := hrow.cell 4
      have d5 := hrow.cell 5
      simp at d0 d1 d2 d3 d4 d5
      have hgl := hrow.lt
      have h6 : Six g v p m bg wt ex w1 w1 := ⟨d0, d1, d2, d3, d4, d5, Lib.hid ⟨Below.refl _ _, hgl⟩⟩
      have HBS := HB.out.size
      have H6 := Lib.hid h6
      have HBA := Lib.hid hba
      have HGW : Hid (w.heap.size ≤ g) := Lib.hid (by rw [hg]; exact HB.out.size)
      have HRK := Lib.hid hrk
      have HD := Lib.hid hd
      have hIn1 := hIn.1; have hIn2 := hIn.2.1; have hIn3 := hIn.2.2.1; have hIn4 := hIn.2.2.2
      simp only at hIn1 hIn2 hIn3 hIn4
      clear hrow hba h6 hrk hd hIn hg hw1 c0 c1 c2 c3 c4 c5 hc HF HB
      obtain ⟨U, hU⟩ : ∃ U, U = Pg.Lf.u ⟨v, p, m, bg, wt, ex⟩ := ⟨_, rfl⟩
      have hU0 : 0 < U := by rw [hU]; rcases Pg.Lf.u_or ⟨v, p, m, bg, wt, ex⟩ with h | h <;> rw [h] <;> omega
      have HU := Lib.hid hU
      clear hU
      obtain ⟨B6, hB6⟩ : ∃ B6, B6 = (decide (m < 1) || (bg && decide (m.toNat % 512 ≠ 0))) := ⟨_, rfl⟩
      have HB6 := Lib.hid hB6
      clear hB6
      go_cut [16] (fun x wx => x = .bool B6 ∧ w1 = wx)
      case first =>
        by_cases q1 : m < 1
        · go_wp2_with fail
          go_meet
          case rel => exact ⟨by rw [HB6.out]; simp [q1], rfl⟩
        · obtain ⟨nm, rfl⟩ : ∃ nm : Nat, m = nm := ⟨m.toNat, by omega⟩
          have q1' : decide ((nm : Int) < 1) = false := decide_eq_false q1
          have e1 : (nm : Int).tmod 512 = ((nm % 512 : Nat) : Int) := by rw [Int.tmod_eq_emod_of_nonneg (by omega)]; omega
          obtain ⟨M, hM⟩ : ∃ M, M = nm % 512 := ⟨_, rfl⟩
          rw [← hM] at e1
          have HM := Lib.hid hM
          clear hM q1
          cases bg
          · go_wp2_with fail
            go_meet
            case rel => exact ⟨by rw [HB6.out, q1']; rfl, rfl⟩
          · have f1 : ((M : Int) != 0) = decide (M ≠ 0) := by by_cases h : M = 0 <;> simp [h]
            go_wp2_with fail
            go_meet
            case rel => exact ⟨by rw [HB6.out, q1', Int.toNat_natCast, ← HM.out]; simp, rfl⟩
      case rest =>
        obtain ⟨rfl, rfl⟩ := hcut
        rcases Bool.eq_false_or_eq_true B6 with hb6 | hb6
        · subst hb6
          go_wp2_with fail
          go_ret
          refine ⟨?_, HBA.out⟩
          rw [← HR.out, HD.out]
          have h6 := HB6.out
          rw [eq_comm, Bool.or_eq_true, Bool.and_eq_true, decide_eq_true_iff, decide_eq_true_iff] at h6
          unfold Pg.right
          rw [if_pos]
          · rfl
          · rcases h6 with h | ⟨h, h'⟩
            · exact .inl h
            · by_cases q : m < 1
              · exact .inl q
              · obtain ⟨nm, rfl⟩ : ∃ nm : Nat, m = nm := ⟨m.toNat, by omega⟩
                exact .inr ((small_never bg nm v p wt ex).2 ⟨h, h'⟩)
        · subst hb6
          have h6 := HB6.out
          rw [eq_comm, Bool.or_eq_false_iff, decide_eq_false_iff_not] at h6
          obtain ⟨nm, rfl⟩ : ∃ nm : Nat, m = nm := ⟨m.toNat, by omega⟩
          have g1 : Hid (¬ (((nm : Nat) : Int) < 1 ∨ nm * 4096 % Pg.Lf.u ⟨v, p, nm, bg, wt, ex⟩ ≠ 0)) := Lib.hid (by
            rintro (h | h)
            · exact h6.1 h
            · obtain ⟨h1, h2⟩ := (small_never bg nm v p wt ex).1 h
              have := h6.2
              rw [h1, Int.toNat_natCast] at this
              simp at this
              exact h2 this)
          have hn1 : 1 ≤ nm := by omega
          clear h6 HB6
          have hvm : (v : Int).tmod (U : Int) = ((v % U : Nat) : Int) := by rw [Int.tmod_eq_emod_of_nonneg (by omega)]; simp
          have hpm : (p : Int).tmod (U : Int) = ((p % U : Nat) : Int) := by rw [Int.tmod_eq_emod_of_nonneg (by omega)]; simp
          have hUn : ¬ (U = 0) := by omega
          obtain ⟨z2, hz2⟩ : ∃ z, z = v % U := ⟨_, rfl⟩
          obtain ⟨z3, hz3⟩ : ∃ z, z = p % U := ⟨_, rfl⟩
          rw [← hz2] at hvm
          rw [← hz3] at hpm
          have HZ2 := Lib.hid hz2
          have HZ3 := Lib.hid hz3
          clear hz2 hz3
          obtain ⟨B8, hB8⟩ : ∃ B8, B8 = (decide (0 < z2) || decide (0 < z3)) := ⟨_, rfl⟩
          have HB8 := Lib.hid hB8
          clear hB8
          go_upto_region 8 with fail
          go_cut [30] (fun x wx => x = .bool B8 ∧ Hid (Six g v p nm bg wt ex w1 wx))
          case first =>
            by_cases q2 : 0 < z2
            · have f2 : decide ((0 : Int) < (z2 : Int)) = true := decide_eq_true (by omega)
              have HK := Lib.hid (Six.below H6.out (Below.refl _ _).drew)
              obtain ⟨x0, x1, x2, x3, x4, x5, x6⟩ := HK.out
              first | go_region_with (first | (go_at_call 49; refine (runit_any ⟨v, p, nm, bg, wt, ex⟩ _).mono ?_; rintro e w' ⟨rfl, hb'⟩; rw [← HU.out]; have hk2 := Six.below HK.out hb'; have HK2 := Lib.hid hk2; obtain ⟨y0, y1, y2, y3, y4, y5, y6⟩ := hk2; clear hb')) | fail
              all_goals
                go_wp2_with fail
                go_meet
                case rel => exact ⟨by rw [HB8.out]; simp [q2], HK2⟩
            · have f2 : decide ((0 : Int) < (z2 : Int)) = false := decide_eq_false (by omega)
              have f3 : decide ((0 : Int) < (z3 : Int)) = decide (0 < z3) := by simp
              first | go_region_held3 (fun w' => w'.cell? ⟨g, 0, none⟩ = some (.int .u64 (v : Nat)) ∧ w'.cell? ⟨g, 1, none⟩ = some (.int .u64 (p : Nat)) ∧ w'.cell? ⟨g, 2, none⟩ = some (.int .i64 nm) ∧ w'.cell? ⟨g, 3, none⟩ = some (.bool bg) ∧ w'.cell? ⟨g, 4, none⟩ = some (.bool wt) ∧ w'.cell? ⟨g, 5, none⟩ = some (.bool ex) ∧ Hid (Below (g + 1) w1 w' ∧ g < w1.heap.size))
                (first | assumption | exact Six.below H6.out (Below.refl _ _).drew | (refine Six.below (g := g) (v := v) (p := p) (m := nm) (bg := bg) (wt := wt) (ex := ex) (w1 := w1) ?_ hb'; assumption))
                (first | (go_at_call 49; refine (runit_any ⟨v, p, nm, bg, wt, ex⟩ _).mono ?_; rintro e w' ⟨rfl, hb'⟩; rw [← HU.out])) | fail
              all_goals
                go_wp2_with fail
                go_meet
                case rel => exact ⟨by rw [HB8.out]; simp [q2], Lib.hid (by assumption)⟩
          case rest =>
            obtain ⟨rfl, h6⟩ := hcut
            obtain ⟨d0, d1, d2, d3, d4, d5, hh⟩ := h6.out
            have HBC : Hid (Below w.heap.size w wc) := Lib.hid (HBA.out.trans (hh.out.1.mono (Nat.le_succ_of_le HGW.out)))
            have hgl := Nat.lt_of_lt_of_le hh.out.2 hh.out.1.size
            rcases Bool.eq_false_or_eq_true B8 with hb8 | hb8
            · subst hb8
              have h8 := HB8.out
              rw [eq_comm, Bool.or_eq_true, decide_eq_true_iff, decide_eq_true_iff] at h8
              have H8 : Hid (v % Pg.Lf.u ⟨v, p, nm, bg, wt, ex⟩ ≠ 0 ∨ p % Pg.Lf.u ⟨v, p, nm, bg, wt, ex⟩ ≠ 0) := Lib.hid (by
                rw [← HU.out, ← HZ2.out, ← HZ3.out]; omega)
              clear h8 HB8 h6 hh
              go_wp2_with fail
              go_ret
              refine ⟨?_, HBC.out⟩
              rw [← HR.out, HD.out, right_eq, if_neg g1.out, if_pos H8.out]
              rfl
            · subst hb8
              have h8 := HB8.out
              rw [eq_comm, Bool.or_eq_false_iff, decide_eq_false_iff_not, decide_eq_false_iff_not] at h8
              have H8 : Hid (¬ (v % Pg.Lf.u ⟨v, p, nm, bg, wt, ex⟩ ≠ 0 ∨ p % Pg.Lf.u ⟨v, p, nm, bg, wt, ex⟩ ≠ 0)) := Lib.hid (by
                rw [← HU.out, ← HZ2.out, ← HZ3.out]; omega)
              clear h8 HB8 h6 hh hvm hpm HZ2 HZ3
              have e1 : IntKind.u64.wrap (nm : Int) = (nm : Int) := by rw [IntKind.wrap_u64]; omega
              by_cases q3 : 549755813888 ≤ v ∨ (549755813888 - v) / 4096 < nm
              · have Q3 := Lib.hid q3
                by_cases q4 : 549755813888 ≤ v
                · have f4 : decide ((549755813888 : Int) ≤ (v : Int)) = true := decide_eq_true (by omega)
                  clear q3 q4
                  go_wp2_with fail
                  go_ret
                  refine ⟨?_, HBC.out⟩
                  rw [← HR.out, HD.out, right_eq, if_neg g1.out, if_neg H8.out, if_pos Q3.out]
                  rfl
                · have q5 : (549755813888 - v) / 4096 < nm := by omega
                  obtain ⟨Dv, hDv⟩ : ∃ D, D = 549755813888 - v := ⟨_, rfl⟩
                  have e2v : IntKind.u64.wrap ((549755813888 : Int) - (v : Int)) = (Dv : Int) := by rw [IntKind.wrap_u64]; omega
                  obtain ⟨Zv, hZv⟩ : ∃ Z, Z = Dv / 4096 := ⟨_, rfl⟩
                  have e3v : (Dv : Int) / 4096 = (Zv : Int) := by omega
                  have e6v : IntKind.u64.wrap (Zv : Int) = (Zv : Int) := by rw [IntKind.wrap_u64]; omega
                  have e4v : decide (Zv < nm) = true := decide_eq_true (by omega)
                  have e5v : decide ((549755813888 : Int) ≤ (v : Int)) = false := decide_eq_false (by omega)
                  clear q3 q4 q5 hDv hZv
                  go_wp2_with fail
                  all_goals
                    go_ret
                    refine ⟨?_, HBC.out⟩
                    rw [← HR.out, HD.out, right_eq, if_neg g1.out, if_neg H8.out, if_pos Q3.out]
                    rfl
              · have Q3 := Lib.hid q3
                have HV : Hid (v + nm * 4096 ≤ 549755813888) := Lib.hid (by omega)
                obtain ⟨Dv, hDv⟩ : ∃ D, D = 549755813888 - v := ⟨_, rfl⟩
                have e2v : IntKind.u64.wrap ((549755813888 : Int) - (v : Int)) = (Dv : Int) := by rw [IntKind.wrap_u64]; omega
                obtain ⟨Zv, hZv⟩ : ∃ Z, Z = Dv / 4096 := ⟨_, rfl⟩
                have e3v : (Dv : Int) / 4096 = (Zv : Int) := by omega
                have e6v : IntKind.u64.wrap (Zv : Int) = (Zv : Int) := by rw [IntKind.wrap_u64]; omega
                have e4v : decide (Zv < nm) = false := decide_eq_false (by omega)
                have e5v : decide ((549755813888 : Int) ≤ (v : Int)) = false := decide_eq_false (by omega)
                clear q3 hDv hZv
                by_cases q5 : 4294967296 ≤ p ∨ (4294967296 - p) / 4096 < nm
                · have Q5 := Lib.hid q5
                  by_cases q6 : 4294967296 ≤ p
                  · have f6 : decide ((4294967296 : Int) ≤ (p : Int)) = true := decide_eq_true (by omega)
                    clear q5 q6
                    go_wp2_with fail
                    go_ret
                    refine ⟨?_, HBC.out⟩
                    rw [← HR.out, HD.out, right_eq, if_neg g1.out, if_neg H8.out, if_neg Q3.out, if_pos Q5.out]
                    rfl
                  · have q7 : (4294967296 - p) / 4096 < nm := by omega
                    obtain ⟨Dp, hDp⟩ : ∃ D, D = 4294967296 - p := ⟨_, rfl⟩
                    have e2p : IntKind.u64.wrap ((4294967296 : Int) - (p : Int)) = (Dp : Int) := by rw [IntKind.wrap_u64]; omega
                    obtain ⟨Zp, hZp⟩ : ∃ Z, Z = Dp / 4096 := ⟨_, rfl⟩
                    have e3p : (Dp : Int) / 4096 = (Zp : Int) := by omega
                    have e6p : IntKind.u64.wrap (Zp : Int) = (Zp : Int) := by rw [IntKind.wrap_u64]; omega
                    have e4p : decide (Zp < nm) = true := decide_eq_true (by omega)
                    have e5p : decide ((4294967296 : Int) ≤ (p : Int)) = false := decide_eq_false (by omega)
                    clear q5 q6 q7 hDp hZp
                    go_wp2_with fail
                    all_goals
                      go_ret
                      refine ⟨?_, HBC.out⟩
                      rw [← HR.out, HD.out, right_eq, if_neg g1.out, if_neg H8.out, if_neg Q3.out, if_pos Q5.out]
                      rfl
                · have Q5 := Lib.hid q5
                  obtain ⟨Dp, hDp⟩ : ∃ D, D = 4294967296 - p := ⟨_, rfl⟩
                  have e2p : IntKind.u64.wrap ((4294967296 : Int) - (p : Int)) = (Dp : Int) := by rw [IntKind.wrap_u64]; omega
                  obtain ⟨Zp, hZp⟩ : ∃ Z, Z = Dp / 4096 := ⟨_, rfl⟩
                  have e3p : (Dp : Int) / 4096 = (Zp : Int) := by omega
                  have e6p : IntKind.u64.wrap (Zp : Int) = (Zp : Int) := by rw [IntKind.wrap_u64]; omega
                  have e4p : decide (Zp < nm) = false := decide_eq_false (by omega)
                  have e5p : decide ((4294967296 : Int) ≤ (p : Int)) = false := decide_eq_false (by omega)
                  clear q5 hDp hZp
                  by_cases q7 : v < bh
                  · have f7 : decide ((v : Nat) < bh) = true := decide_eq_true q7
                    have Q7 := Lib.hid q7
                    clear q7
                    go_wp2_with fail
                    go_ret
                    refine ⟨?_, HBC.out⟩
                    rw [← HR.out, HD.out, right_eq, if_neg g1.out, if_neg H8.out, if_neg Q3.out, if_neg Q5.out, if_pos Q7.out]
                    rfl
                  · have f7 : decide ((v : Nat) < bh) = false := decide_eq_false q7
                    have Q7 := Lib.hid q7
                    have HV2 := HV.out
                    have e8 : IntKind.u64.wrap ((nm : Int) * 4096) = ((nm * 4096 : Nat) : Int) := by rw [IntKind.wrap_u64]; omega
                    obtain ⟨X2, hX2⟩ : ∃ X, X = v + nm * 4096 := ⟨_, rfl⟩
                    have e9 : (v : Int) + (nm : Int) * 4096 = (X2 : Int) := by omega
                    have e10 : (nm : Int) * 4096 % 18446744073709551616 = (nm : Int) * 4096 := by omega
                    have e11 : (X2 : Int) % 18446744073709551616 = (X2 : Int) := by omega
                    have HX2 := Lib.hid hX2
                    clear HV2 hX2
                    clear q7
                    go_wp2_with fail
                    go_roundw
                    case rel =>
                      refine ⟨k + 1, v + nm * 4096, by omega, by go_num, by first | (rw [← HX2.out]; go_num) | go_num, HV, Lib.hid ?_, HBC⟩
                      have := HR.out
                      rw [HD.out, right_eq, if_neg g1.out, if_neg H8.out, if_neg Q3.out, if_neg Q5.out, if_neg Q7.out] at this
                      exact this
                    case measure => simp [intOf]; omega
    · have HK : Hid (k = n) := Lib.hid (by omega)
      go_wp2
      go_ret
      refine ⟨?_, HB.out⟩
      rw [← HR.out, HK.out, List.drop_of_length_le (Nat.le_of_eq HL.out)]
      rfl
end Go.Proofs.Ytblfagmoilhdnaa
