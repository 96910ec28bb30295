/- Plain law: the builder's tables are told by the pages: each table has a label, each entry is a page's number or names a table. -/
import Derived.Test.YtblfagmoilhdnaaPgL
set_option linter.unusedVariables false
set_option linter.unusedSimpArgs false
namespace Go.Proofs.Ytblfagmoilhdnaa
namespace Pg
def bu (b : Bool) : Nat := if b then 2097152 else 4096
theorem Pge.u_bu (q : Pge) : q.u = bu q.b := rfl
/-- the page that has an index among the pages of its size -/
def pageAt (qs : List Pge) (b : Bool) (k : Nat) : Nat := match qs.find? (fun q => q.b == b && q.v / bu b == k) with
  | some q => q.num
  | none => 0
def entry (base : Nat) (L : List Lab) (qs : List Pge) (t : Lab) (e : Nat) : Nat :=
  if t.1 = 0 then (if (1, e) ∈ L then ptr base (L.idxOf (1, e)) else 0)
  else if t.1 = 1 then (if (2, t.2 * 512 + e) ∈ L then ptr base (L.idxOf (2, t.2 * 512 + e)) else pageAt qs true (t.2 * 512 + e))
  else pageAt qs false (t.2 * 512 + e)
def cell (a : List (List Nat)) (i e : Nat) : Nat := (a.getD i []).getD e 0
theorem cell_setE {a : List (List Nat)} {t e x : Nat} (ht : t < a.length) (hl : (a.getD t []).length = 512) (he : e < 512) (i e' : Nat) : cell (setE a t e x) i e' = if i = t ∧ e' = e then x else cell a i e' := by
  unfold cell setE
  by_cases h : i = t
  · subst h
    rw [List.getD_eq_getElem?_getD (l := a.set i _), List.getElem?_set_self ht]
    simp only [Option.getD_some]
    rw [List.getD_eq_getElem?_getD (l := List.set _ _ _), List.getElem?_set]
    by_cases h2 : e = e'
    · subst h2
      rw [if_pos rfl, if_pos (by rw [hl]; exact he)]
      simp
    · rw [if_neg h2, if_neg (by rintro ⟨_, h⟩; exact h2 h.symm), List.getD_eq_getElem?_getD (l := a.getD i [])]
  · rw [if_neg (by rintro ⟨h', _⟩; exact h h'), List.getD_eq_getElem?_getD (l := a.set t _), List.getElem?_set_ne (fun h' => h h'.symm), ← List.getD_eq_getElem?_getD]
theorem tab_setE {a : List (List Nat)} {t e x : Nat} (h : ∀ i, i < a.length → (a.getD i []).length = 512) : ∀ i, i < (setE a t e x).length → ((setE a t e x).getD i []).length = 512 := by
  intro i hi
  rw [setE_len] at hi
  unfold setE
  by_cases h1 : i = t
  · subst h1
    rw [List.getD_eq_getElem?_getD, List.getElem?_set_self hi]
    simp only [Option.getD_some, List.length_set]
    exact h i hi
  · rw [List.getD_eq_getElem?_getD, List.getElem?_set_ne (fun h' => h1 h'.symm), ← List.getD_eq_getElem?_getD]
    exact h i hi
theorem cell_snoc {a : List (List Nat)} (i e : Nat) : cell (a ++ [zero512]) i e = if i < a.length then cell a i e else 0 := by
  unfold cell
  by_cases h : i < a.length
  · rw [if_pos h, List.getD_eq_getElem?_getD (l := a ++ _), List.getElem?_append_left h, ← List.getD_eq_getElem?_getD]
  · rw [if_neg h, List.getD_eq_getElem?_getD (l := a ++ _), List.getElem?_append_right (by omega)]
    by_cases h2 : i - a.length = 0
    · rw [h2]
      show (List.replicate 512 0).getD e 0 = 0
      rw [List.getD_eq_getElem?_getD, List.getElem?_replicate]
      split <;> rfl
    · rw [List.getElem?_eq_none (by simp; omega)]
      rfl
theorem tab_snoc {a : List (List Nat)} (h : ∀ i, i < a.length → (a.getD i []).length = 512) : ∀ i, i < (a ++ [zero512]).length → ((a ++ [zero512]).getD i []).length = 512 := by
  intro i hi
  rw [List.length_append] at hi
  by_cases h1 : i < a.length
  · rw [List.getD_eq_getElem?_getD, List.getElem?_append_left h1, ← List.getD_eq_getElem?_getD]
    exact h i h1
  · have : i = a.length := by simp at hi; omega
    subst this
    rw [List.getD_eq_getElem?_getD, List.getElem?_append_right (Nat.le_refl _)]
    rw [Nat.sub_self]
    exact List.length_replicate
/-- tables with labels and pages -/
structure Rep (base : Nat) (L : List Lab) (qs : List Pge) (all : List (List Nat)) : Prop where
  len : all.length = L.length
  tab : ∀ i, i < all.length → (all.getD i []).length = 512
  ent : ∀ i t, L[i]? = some t → ∀ e, e < 512 → cell all i e = entry base L qs t e
theorem entry_more {base : Nat} {L : List Lab} {qs : List Pge} {t s : Lab} {e : Nat} (h : ¬ (t.1 = 0 ∧ s = (1, e))) (h2 : ¬ (t.1 = 1 ∧ s = (2, t.2 * 512 + e))) : entry base (L ++ [s]) qs t e = entry base L qs t e := by
  have key : ∀ x : Lab, x ≠ s → ((x ∈ L ++ [s]) ↔ x ∈ L) ∧ (x ∈ L → (L ++ [s]).idxOf x = L.idxOf x) := fun x hx => by
    refine ⟨by simp [hx], fun hm => ?_⟩
    rw [List.idxOf_append, if_pos hm]
  unfold entry
  by_cases h0 : t.1 = 0
  · rw [if_pos h0, if_pos h0]
    have k := key (1, e) (fun h' => h ⟨h0, h'.symm⟩)
    by_cases hm : (1, e) ∈ L
    · rw [if_pos (k.1.2 hm), if_pos hm, k.2 hm]
    · rw [if_neg (fun h' => hm (k.1.1 h')), if_neg hm]
  · rw [if_neg h0, if_neg h0]
    by_cases h1 : t.1 = 1
    · rw [if_pos h1, if_pos h1]
      have k := key (2, t.2 * 512 + e) (fun h' => h2 ⟨h1, h'.symm⟩)
      by_cases hm : (2, t.2 * 512 + e) ∈ L
      · rw [if_pos (k.1.2 hm), if_pos hm, k.2 hm]
      · rw [if_neg (fun h' => hm (k.1.1 h')), if_neg hm]
    · rw [if_neg h1, if_neg h1]
theorem idxOf_snoc {L : List Lab} {s : Lab} (h : s ∉ L) : (L ++ [s]).idxOf s = L.length := by
  rw [List.idxOf_append, if_neg h]; simp
theorem nodup_at {L : List Lab} (h : L.Nodup) {i j : Nat} {t : Lab} (hi : L[i]? = some t) (hj : L[j]? = some t) : i = j := by
  obtain ⟨h1, e1⟩ := List.getElem?_eq_some_iff.1 hi
  obtain ⟨h2, e2⟩ := List.getElem?_eq_some_iff.1 hj
  exact (List.getElem_inj h).1 (e1.trans e2.symm)
/-- a new table -/
theorem Rep.child {base : Nat} {L : List Lab} {qs : List Pge} {all : List (List Nat)} (h : Rep base L qs all) (hg : Good L) {s p : Lab} {ip e : Nat} (hs : s ∉ L) (hp : L[ip]? = some p) (he : e < 512)
    (hname : p.1 = 0 ∧ s = (1, e) ∨ p.1 = 1 ∧ s = (2, p.2 * 512 + e)) (hnew : ∀ x, x < 512 → entry base (L ++ [s]) qs s x = 0) :
    Rep base (L ++ [s]) qs (childE base all ip e) := by
  have hil : ip < L.length := (List.getElem?_eq_some_iff.1 hp).1
  have hia : ip < (all ++ [zero512]).length := by rw [List.length_append, h.len]; simp; omega
  have htab := tab_snoc h.tab
  refine ⟨by rw [childE_len, h.len]; simp, ?_, ?_⟩
  · unfold childE
    exact tab_setE htab
  · intro i t hi x hx
    unfold childE
    rw [cell_setE hia (htab _ hia) he, cell_snoc]
    by_cases hit : i = ip ∧ x = e
    · obtain ⟨rfl, rfl⟩ := hit
      rw [if_pos ⟨rfl, rfl⟩]
      rw [List.getElem?_append_left hil, hp] at hi
      injection hi with hi
      subst hi
      unfold entry
      rcases hname with ⟨h0, rfl⟩ | ⟨h1, rfl⟩
      · rw [if_pos h0, if_pos (by simp), idxOf_snoc hs, h.len]
      · rw [if_neg (by omega), if_pos h1, if_pos (by simp), idxOf_snoc hs, h.len]
    · rw [if_neg hit]
      by_cases hl : i < all.length
      · rw [if_pos hl]
        rw [List.getElem?_append_left (by rw [← h.len]; exact hl)] at hi
        rw [h.ent i t hi x hx, entry_more]
        · rintro ⟨a, b⟩
          rcases hname with ⟨h0, hs'⟩ | ⟨h1, hs'⟩
          · rw [hs'] at b; injection b with _ b
            have e1 := hg.lev t (List.mem_of_getElem? hi) a
            have e2 := hg.lev p (List.mem_of_getElem? hp) h0
            subst e1 e2
            exact hit ⟨nodup_at hg.nd hi hp, b.symm⟩
          · rw [hs'] at b; injection b with b _; omega
        · rintro ⟨a, b⟩
          rcases hname with ⟨h0, hs'⟩ | ⟨h1, hs'⟩
          · rw [hs'] at b; injection b with b _; omega
          · rw [hs'] at b; injection b with _ b
            have e1 : t = p := by
              obtain ⟨t1, t2⟩ := t
              obtain ⟨p1, p2⟩ := p
              simp only at a h1 b
              subst a h1
              have : t2 = p2 := by omega
              rw [this]
            subst e1
            exact hit ⟨nodup_at hg.nd hi hp, by omega⟩
      · rw [if_neg hl]
        have hi2 : i = L.length := by
          have := (List.getElem?_eq_some_iff.1 hi).1
          rw [List.length_append] at this
          have h3 := h.len
          simp at this
          omega
        subst hi2
        simp at hi
        subst hi
        exact (hnew x hx).symm
theorem pageAt_snoc {qs : List Pge} {q : Pge} {b : Bool} {k : Nat} (h : ¬ (q.b = b ∧ q.v / bu b = k)) : pageAt (qs ++ [q]) b k = pageAt qs b k := by
  unfold pageAt
  rw [List.find?_append]
  cases hf : qs.find? (fun q => q.b == b && q.v / bu b == k) with
  | some x => simp
  | none =>
    have : ¬ ((q.b == b && q.v / bu b == k) = true) := by simpa using h
    simp [List.find?_cons, this]
theorem pageAt_new {qs : List Pge} {q : Pge} (h : ∀ x ∈ qs, ¬ (x.b = q.b ∧ x.v / q.u = q.v / q.u)) : pageAt (qs ++ [q]) q.b (q.v / q.u) = q.num := by
  unfold pageAt
  rw [List.find?_append, List.find?_eq_none.2 (by
    intro x hx
    have := h x hx
    rw [Pge.u_bu] at this
    simpa [Pge.u_bu] using this)]
  simp [List.find?_cons, Pge.u_bu]
theorem entry_page {base : Nat} {L : List Lab} {qs : List Pge} {q : Pge} {t : Lab} {e : Nat} (h : ¬ (t.1 = 1 ∧ q.b = true ∧ q.v / 2097152 = t.2 * 512 + e)) (h2 : ¬ (t.1 ≠ 0 ∧ t.1 ≠ 1 ∧ q.b = false ∧ q.v / 4096 = t.2 * 512 + e)) : entry base L (qs ++ [q]) t e = entry base L qs t e := by
  unfold entry
  by_cases h0 : t.1 = 0
  · rw [if_pos h0, if_pos h0]
  · rw [if_neg h0, if_neg h0]
    by_cases h1 : t.1 = 1
    · rw [if_pos h1, if_pos h1, pageAt_snoc (fun hx => h ⟨h1, hx.1, hx.2⟩)]
    · rw [if_neg h1, if_neg h1, pageAt_snoc (fun hx => h2 ⟨h0, h1, hx.1, hx.2⟩)]
/-- a new page -/
theorem Rep.page {base : Nat} {L : List Lab} {qs : List Pge} {all : List (List Nat)} (h : Rep base L qs all) (hg : Good L) (hlev : ∀ t ∈ L, t.1 ≤ 2) {q : Pge} {i0 : Nat}
    (hi0 : L[i0]? = some (if q.b then (1, q.v / 1073741824) else (2, q.v / 2097152))) (hfree : q.b = true → (2, q.v / 2097152) ∉ L) (hnew : ∀ x ∈ qs, ¬ (x.b = q.b ∧ x.v / q.u = q.v / q.u)) :
    Rep base L (qs ++ [q]) (setE all i0 (if q.b then q.v / 2097152 % 512 else q.v / 4096 % 512) q.num) := by
  have hil : i0 < all.length := by rw [h.len]; exact (List.getElem?_eq_some_iff.1 hi0).1
  have hnew' := pageAt_new hnew
  refine ⟨by rw [setE_len, h.len], tab_setE h.tab, ?_⟩
  intro i t hi x hx
  cases hb : q.b
  · rw [hb] at hi0 hnew'
    simp only [Pge.u, hb, Bool.false_eq_true, if_false] at hi0 hnew' ⊢
    rw [cell_setE hil (h.tab _ hil) (by omega)]
    by_cases hit : i = i0 ∧ x = q.v / 4096 % 512
    · obtain ⟨rfl, rfl⟩ := hit
      rw [if_pos ⟨rfl, rfl⟩]
      rw [hi0] at hi
      injection hi with hi
      subst hi
      unfold entry
      rw [if_neg (by simp), if_neg (by simp), show (2, q.v / 2097152).2 * 512 + q.v / 4096 % 512 = q.v / 4096 by show q.v / 2097152 * 512 + q.v / 4096 % 512 = _; omega]
      exact hnew'.symm
    · rw [if_neg hit, h.ent i t hi x hx, entry_page]
      · rintro ⟨_, hq, _⟩; rw [hb] at hq; cases hq
      · rintro ⟨h0, h1, _, h2⟩
        have h3 : t = (2, q.v / 2097152) := by
          have := hlev t (List.mem_of_getElem? hi)
          obtain ⟨t1, t2⟩ := t
          simp only at h0 h1 h2 this
          have e1 : t1 = 2 := by omega
          have e2 : t2 = q.v / 2097152 := by omega
          rw [e1, e2]
        subst h3
        exact hit ⟨nodup_at hg.nd hi hi0, by simp only at h2; omega⟩
  · rw [hb] at hi0 hnew'
    simp only [Pge.u, hb, if_true] at hi0 hnew' ⊢
    rw [cell_setE hil (h.tab _ hil) (by omega)]
    by_cases hit : i = i0 ∧ x = q.v / 2097152 % 512
    · obtain ⟨rfl, rfl⟩ := hit
      rw [if_pos ⟨rfl, rfl⟩]
      rw [hi0] at hi
      injection hi with hi
      subst hi
      unfold entry
      rw [if_neg (by simp), if_pos rfl, show (1, q.v / 1073741824).2 * 512 + q.v / 2097152 % 512 = q.v / 2097152 by show q.v / 1073741824 * 512 + q.v / 2097152 % 512 = _; omega, if_neg (hfree hb)]
      exact hnew'.symm
    · rw [if_neg hit, h.ent i t hi x hx, entry_page]
      · rintro ⟨h1, _, h2⟩
        have h3 : t = (1, q.v / 1073741824) := by
          obtain ⟨t1, t2⟩ := t
          simp only at h1 h2
          have e2 : t2 = q.v / 1073741824 := by omega
          rw [h1, e2]
        subst h3
        exact hit ⟨nodup_at hg.nd hi hi0, by simp only at h2; omega⟩
      · rintro ⟨_, _, hq, _⟩; rw [hb] at hq; cases hq
end Pg
end Go.Proofs.Ytblfagmoilhdnaa
