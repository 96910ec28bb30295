/- Texts of this claim, one behind the other: PgP, PgQ, PgR. -/
import Derived.Test.YtblfagmoilhdnaaJPagesTold20
import Derived.Test.YtblfagmoilhdnaaJPagesTold23
/- Plain law: the builder's tables are told by the pages: each table has a label, each entry is a page's number or names a table. -/
set_option linter.unusedVariables false
set_option linter.unusedSimpArgs false
namespace Go.Proofs.Ytblfagmoilhdnaa
namespace Pg
def bu (b : Bool) : Nat := if b then 2097152 else 4096
theorem Pge.u_bu (q : Pge) : q.u = bu q.b := rfl
/-- the page that has an index among the pages of its size -/
def pageAt (qs : List Pge) (b : Bool) (k : Nat) : Nat := match qs.find? (fun q => q.b == b && q.v / bu b == k) with
  | some q => q.num
  | none => 0
def entry (base : Nat) (L : List Lab) (qs : List Pge) (t : Lab) (e : Nat) : Nat :=
  if t.1 = 0 then (if (1, e) ∈ L then ptr base (L.idxOf (1, e)) else 0)
  else if t.1 = 1 then (if (2, t.2 * 512 + e) ∈ L then ptr base (L.idxOf (2, t.2 * 512 + e)) else pageAt qs true (t.2 * 512 + e))
  else pageAt qs false (t.2 * 512 + e)
def cell (a : List (List Nat)) (i e : Nat) : Nat := (a.getD i []).getD e 0
theorem cell_setE {a : List (List Nat)} {t e x : Nat} (ht : t < a.length) (hl : (a.getD t []).length = 512) (he : e < 512) (i e' : Nat) : cell (setE a t e x) i e' = if i = t ∧ e' = e then x else cell a i e' := by
  unfold cell setE
  by_cases h : i = t
  · subst h
    rw [List.getD_eq_getElem?_getD (l := a.set i _), List.getElem?_set_self ht]
    simp only [Option.getD_some]
    rw [List.getD_eq_getElem?_getD (l := List.set _ _ _), List.getElem?_set]
    by_cases h2 : e = e'
    · subst h2
      rw [if_pos rfl, if_pos (by rw [hl]; exact he)]
      simp
    · rw [if_neg h2, if_neg (by rintro ⟨_, h⟩; exact h2 h.symm), List.getD_eq_getElem?_getD (l := a.getD i [])]
  · rw [if_neg (by rintro ⟨h', _⟩; exact h h'), List.getD_eq_getElem?_getD (l := a.set t _), List.getElem?_set_ne (fun h' => h h'.symm), ← List.getD_eq_getElem?_getD]
theorem tab_setE {a : List (List Nat)} {t e x : Nat} (h : ∀ i, i < a.length → (a.getD i []).length = 512) : ∀ i, i < (setE a t e x).length → ((setE a t e x).getD i []).length = 512 := by
  intro i hi
  rw [setE_len] at hi
  unfold setE
  by_cases h1 : i = t
  · subst h1
    rw [List.getD_eq_getElem?_getD, List.getElem?_set_self hi]
    simp only [Option.getD_some, List.length_set]
    exact h i hi
  · rw [List.getD_eq_getElem?_getD, List.getElem?_set_ne (fun h' => h1 h'.symm), ← List.getD_eq_getElem?_getD]
    exact h i hi
theorem cell_snoc {a : List (List Nat)} (i e : Nat) : cell (a ++ [zero512]) i e = if i < a.length then cell a i e else 0 := by
  unfold cell
  by_cases h : i < a.length
  · rw [if_pos h, List.getD_eq_getElem?_getD (l := a ++ _), List.getElem?_append_left h, ← List.getD_eq_getElem?_getD]
  · rw [if_neg h, List.getD_eq_getElem?_getD (l := a ++ _), List.getElem?_append_right (by omega)]
    by_cases h2 : i - a.length = 0
    · rw [h2]
      show (List.replicate 512 0).getD e 0 = 0
      rw [List.getD_eq_getElem?_getD, List.getElem?_replicate]
      split <;> rfl
    · rw [List.getElem?_eq_none (by simp; omega)]
      rfl
theorem tab_snoc {a : List (List Nat)} (h : ∀ i, i < a.length → (a.getD i []).length = 512) : ∀ i, i < (a ++ [zero512]).length → ((a ++ [zero512]).getD i []).length = 512 := by
  intro i hi
  rw [List.length_append] at hi
  by_cases h1 : i < a.length
  · rw [List.getD_eq_getElem?_getD, List.getElem?_append_left h1, ← List.getD_eq_getElem?_getD]
    exact h i h1
  · have : i = a.length := by simp at hi; omega
    subst this
    rw [List.getD_eq_getElem?_getD, List.getElem?_append_right (Nat.le_refl _)]
    rw [Nat.sub_self]
    exact List.length_replicate
/-- tables with labels and pages -/
structure Rep (base : Nat) (L : List Lab) (qs : List Pge) (all : List (List Nat)) : Prop where
  len : all.length = L.length
  tab : ∀ i, i < all.length → (all.getD i []).length = 512
  ent : ∀ i t, L[i]? = some t → ∀ e, e < 512 → cell all i e = entry base L qs t e
theorem entry_more {base : Nat} {L : List Lab} {qs : List Pge} {t s : Lab} {e : Nat} (h : ¬ (t.1 = 0 ∧ s = (1, e))) (h2 : ¬ (t.1 = 1 ∧ s = (2, t.2 * 512 + e))) : entry base (L ++ [s]) qs t e = entry base L qs t e := by
  have key : ∀ x : Lab, x ≠ s → ((x ∈ L ++ [s]) ↔ x ∈ L) ∧ (x ∈ L → (L ++ [s]).idxOf x = L.idxOf x) := fun x hx => by
    refine ⟨by simp [hx], fun hm => ?_⟩
    rw [List.idxOf_append, if_pos hm]
  unfold entry
  by_cases h0 : t.1 = 0
  · rw [if_pos h0, if_pos h0]
    have k := key (1, e) (fun h' => h ⟨h0, h'.symm⟩)
    by_cases hm : (1, e) ∈ L
    · rw [if_pos (k.1.2 hm), if_pos hm, k.2 hm]
    · rw [if_neg (fun h' => hm (k.1.1 h')), if_neg hm]
  · rw [if_neg h0, if_neg h0]
    by_cases h1 : t.1 = 1
    · rw [if_pos h1, if_pos h1]
      have k := key (2, t.2 * 512 + e) (fun h' => h2 ⟨h1, h'.symm⟩)
      by_cases hm : (2, t.2 * 512 + e) ∈ L
      · rw [if_pos (k.1.2 hm), if_pos hm, k.2 hm]
      · rw [if_neg (fun h' => hm (k.1.1 h')), if_neg hm]
    · rw [if_neg h1, if_neg h1]
theorem idxOf_snoc {L : List Lab} {s : Lab} (h : s ∉ L) : (L ++ [s]).idxOf s = L.length := by
  rw [List.idxOf_append, if_neg h]; simp
theorem nodup_at {L : List Lab} (h : L.Nodup) {i j : Nat} {t : Lab} (hi : L[i]? = some t) (hj : L[j]? = some t) : i = j := by
  obtain ⟨h1, e1⟩ := List.getElem?_eq_some_iff.1 hi
  obtain ⟨h2, e2⟩ := List.getElem?_eq_some_iff.1 hj
  exact (List.getElem_inj h).1 (e1.trans e2.symm)
/-- a new table -/
theorem Rep.child {base : Nat} {L : List Lab} {qs : List Pge} {all : List (List Nat)} (h : Rep base L qs all) (hg : Good L) {s p : Lab} {ip e : Nat} (hs : s ∉ L) (hp : L[ip]? = some p) (he : e < 512)
    (hname : p.1 = 0 ∧ s = (1, e) ∨ p.1 = 1 ∧ s = (2, p.2 * 512 + e)) (hnew : ∀ x, x < 512 → entry base (L ++ [s]) qs s x = 0) :
    Rep base (L ++ [s]) qs (childE base all ip e) := by
  have hil : ip < L.length := (List.getElem?_eq_some_iff.1 hp).1
  have hia : ip < (all ++ [zero512]).length := by rw [List.length_append, h.len]; simp; omega
  have htab := tab_snoc h.tab
  refine ⟨by rw [childE_len, h.len]; simp, ?_, ?_⟩
  · unfold childE
    exact tab_setE htab
  · intro i t hi x hx
    unfold childE
    rw [cell_setE hia (htab _ hia) he, cell_snoc]
    by_cases hit : i = ip ∧ x = e
    · obtain ⟨rfl, rfl⟩ := hit
      rw [if_pos ⟨rfl, rfl⟩]
      rw [List.getElem?_append_left hil, hp] at hi
      injection hi with hi
      subst hi
      unfold entry
      rcases hname with ⟨h0, rfl⟩ | ⟨h1, rfl⟩
      · rw [if_pos h0, if_pos (by simp), idxOf_snoc hs, h.len]
      · rw [if_neg (by omega), if_pos h1, if_pos (by simp), idxOf_snoc hs, h.len]
    · rw [if_neg hit]
      by_cases hl : i < all.length
      · rw [if_pos hl]
        rw [List.getElem?_append_left (by rw [← h.len]; exact hl)] at hi
        rw [h.ent i t hi x hx, entry_more]
        · rintro ⟨a, b⟩
          rcases hname with ⟨h0, hs'⟩ | ⟨h1, hs'⟩
          · rw [hs'] at b; injection b with _ b
            have e1 := hg.lev t (List.mem_of_getElem? hi) a
            have e2 := hg.lev p (List.mem_of_getElem? hp) h0
            subst e1 e2
            exact hit ⟨nodup_at hg.nd hi hp, b.symm⟩
          · rw [hs'] at b; injection b with b _; omega
        · rintro ⟨a, b⟩
          rcases hname with ⟨h0, hs'⟩ | ⟨h1, hs'⟩
          · rw [hs'] at b; injection b with b _; omega
          · rw [hs'] at b; injection b with _ b
            have e1 : t = p := by
              obtain ⟨t1, t2⟩ := t
              obtain ⟨p1, p2⟩ := p
              simp only at a h1 b
              subst a h1
              have : t2 = p2 := by omega
              rw [this]
            subst e1
            exact hit ⟨nodup_at hg.nd hi hp, by omega⟩
      · rw [if_neg hl]
        have hi2 : i = L.length := by
          have := (List.getElem?_eq_some_iff.1 hi).1
          rw [List.length_append] at this
          have h3 := h.len
          simp at this
          omega
        subst hi2
        simp at hi
        subst hi
        exact (hnew x hx).symm
theorem pageAt_snoc {qs : List Pge} {q : Pge} {b : Bool} {k : Nat} (h : ¬ (q.b = b ∧ q.v / bu b = k)) : pageAt (qs ++ [q]) b k = pageAt qs b k := by
  unfold pageAt
  rw [List.find?_append]
  cases hf : qs.find? (fun q => q.b == b && q.v / bu b == k) with
  | some x => simp
  | none =>
    have : ¬ ((q.b == b && q.v / bu b == k) = true) := by simpa using h
    simp [List.find?_cons, this]
theorem pageAt_new {qs : List Pge} {q : Pge} (h : ∀ x ∈ qs, ¬ (x.b = q.b ∧ x.v / q.u = q.v / q.u)) : pageAt (qs ++ [q]) q.b (q.v / q.u) = q.num := by
  unfold pageAt
  rw [List.find?_append, List.find?_eq_none.2 (by
    intro x hx
    have := h x hx
    rw [Pge.u_bu] at this
    simpa [Pge.u_bu] using this)]
  simp [List.find?_cons, Pge.u_bu]
theorem entry_page {base : Nat} {L : List Lab} {qs : List Pge} {q : Pge} {t : Lab} {e : Nat} (h : ¬ (t.1 = 1 ∧ q.b = true ∧ q.v / 2097152 = t.2 * 512 + e)) (h2 : ¬ (t.1 ≠ 0 ∧ t.1 ≠ 1 ∧ q.b = false ∧ q.v / 4096 = t.2 * 512 + e)) : entry base L (qs ++ [q]) t e = entry base L qs t e := by
  unfold entry
  by_cases h0 : t.1 = 0
  · rw [if_pos h0, if_pos h0]
  · rw [if_neg h0, if_neg h0]
    by_cases h1 : t.1 = 1
    · rw [if_pos h1, if_pos h1, pageAt_snoc (fun hx => h ⟨h1, hx.1, hx.2⟩)]
    · rw [if_neg h1, if_neg h1, pageAt_snoc (fun hx => h2 ⟨h0, h1, hx.1, hx.2⟩)]
/-- a new page -/
theorem Rep.page {base : Nat} {L : List Lab} {qs : List Pge} {all : List (List Nat)} (h : Rep base L qs all) (hg : Good L) (hlev : ∀ t ∈ L, t.1 ≤ 2) {q : Pge} {i0 : Nat}
    (hi0 : L[i0]? = some (if q.b then (1, q.v / 1073741824) else (2, q.v / 2097152))) (hfree : q.b = true → (2, q.v / 2097152) ∉ L) (hnew : ∀ x ∈ qs, ¬ (x.b = q.b ∧ x.v / q.u = q.v / q.u)) :
    Rep base L (qs ++ [q]) (setE all i0 (if q.b then q.v / 2097152 % 512 else q.v / 4096 % 512) q.num) := by
  have hil : i0 < all.length := by rw [h.len]; exact (List.getElem?_eq_some_iff.1 hi0).1
  have hnew' := pageAt_new hnew
  refine ⟨by rw [setE_len, h.len], tab_setE h.tab, ?_⟩
  intro i t hi x hx
  cases hb : q.b
  · rw [hb] at hi0 hnew'
    simp only [Pge.u, hb, Bool.false_eq_true, if_false] at hi0 hnew' ⊢
    rw [cell_setE hil (h.tab _ hil) (by omega)]
    by_cases hit : i = i0 ∧ x = q.v / 4096 % 512
    · obtain ⟨rfl, rfl⟩ := hit
      rw [if_pos ⟨rfl, rfl⟩]
      rw [hi0] at hi
      injection hi with hi
      subst hi
      unfold entry
      rw [if_neg (by simp), if_neg (by simp), show (2, q.v / 2097152).2 * 512 + q.v / 4096 % 512 = q.v / 4096 by show q.v / 2097152 * 512 + q.v / 4096 % 512 = _; omega]
      exact hnew'.symm
    · rw [if_neg hit, h.ent i t hi x hx, entry_page]
      · rintro ⟨_, hq, _⟩; rw [hb] at hq; cases hq
      · rintro ⟨h0, h1, _, h2⟩
        have h3 : t = (2, q.v / 2097152) := by
          have := hlev t (List.mem_of_getElem? hi)
          obtain ⟨t1, t2⟩ := t
          simp only at h0 h1 h2 this
          have e1 : t1 = 2 := by omega
          have e2 : t2 = q.v / 2097152 := by omega
          rw [e1, e2]
        subst h3
        exact hit ⟨nodup_at hg.nd hi hi0, by simp only at h2; omega⟩
  · rw [hb] at hi0 hnew'
    simp only [Pge.u, hb, if_true] at hi0 hnew' ⊢
    rw [cell_setE hil (h.tab _ hil) (by omega)]
    by_cases hit : i = i0 ∧ x = q.v / 2097152 % 512
    · obtain ⟨rfl, rfl⟩ := hit
      rw [if_pos ⟨rfl, rfl⟩]
      rw [hi0] at hi
      injection hi with hi
      subst hi
      unfold entry
      rw [if_neg (by simp), if_pos rfl, show (1, q.v / 1073741824).2 * 512 + q.v / 2097152 % 512 = q.v / 2097152 by show q.v / 1073741824 * 512 + q.v / 2097152 % 512 = _; omega, if_neg (hfree hb)]
      exact hnew'.symm
    · rw [if_neg hit, h.ent i t hi x hx, entry_page]
      · rintro ⟨h1, _, h2⟩
        have h3 : t = (1, q.v / 1073741824) := by
          obtain ⟨t1, t2⟩ := t
          simp only at h1 h2
          have e2 : t2 = q.v / 1073741824 := by omega
          rw [h1, e2]
        subst h3
        exact hit ⟨nodup_at hg.nd hi hi0, by simp only at h2; omega⟩
      · rintro ⟨_, _, hq, _⟩; rw [hb] at hq; cases hq
end Pg
end Go.Proofs.Ytblfagmoilhdnaa

/- Plain law: what the builder makes page after page is told by the pages. -/
set_option linter.unusedVariables false
set_option linter.unusedSimpArgs false
namespace Go.Proofs.Ytblfagmoilhdnaa
namespace Pg
structure Known (base : Nat) (qs : List Pge) (s : St) : Prop where
  rep : Rep base (tabs qs) qs s.all
  opn : (qs = [] ∧ s.mid = 0) ∨ ∃ q, qs.getLast? = some q ∧ s.virt = q.v ∧ s.mid ≠ 0 ∧ (tabs qs)[s.mid]? = some (1, q.v / 1073741824) ∧ (q.b = true ∧ s.low = 0 ∨ q.b = false ∧ s.low ≠ 0 ∧ (tabs qs)[s.low]? = some (2, q.v / 2097152))
theorem lev_tabs (qs : List Pge) : ∀ t ∈ tabs qs, t.1 ≤ 2 := by
  intro t ht
  rcases mem_tabs.1 ht with rfl | ⟨q, _, rfl | ⟨_, rfl⟩⟩ <;> simp
theorem chain_snoc {qs : List Pge} {q : Pge} (h : Chain (qs ++ [q])) : Chain qs ∧ q.Ok ∧ ∀ x ∈ qs, x.v + x.u ≤ q.v := by
  obtain ⟨h1, h2⟩ := h
  rw [List.pairwise_append] at h1
  exact ⟨⟨h1.1, fun x hx => h2 x (by simp [hx])⟩, h2 q (by simp), fun x hx => h1.2.2 x hx q (by simp)⟩
theorem chain_last {qs : List Pge} {q : Pge} (h : Chain qs) (hl : qs.getLast? = some q) : q ∈ qs ∧ ∀ x ∈ qs, x.v ≤ q.v := by
  obtain ⟨ys, rfl⟩ := List.getLast?_eq_some_iff.1 hl
  refine ⟨by simp, fun x hx => ?_⟩
  rcases List.mem_append.1 hx with hx | hx
  · have := (chain_snoc h).2.2 x hx; omega
  · simp at hx; rw [hx]; exact Nat.le_refl _
theorem pageAt_none {qs : List Pge} {b : Bool} {k : Nat} (h : ∀ x ∈ qs, ¬ (x.b = b ∧ x.v / bu b = k)) : pageAt qs b k = 0 := by
  unfold pageAt
  rw [List.find?_eq_none.2 (by
    intro x hx
    have := h x hx
    simpa using this)]
theorem Good.ens {L : List Lab} (h : Good L) {t : Lab} (ht : t.1 ≠ 0) : Good (ens L t) := by
  unfold Pg.ens
  split
  · exact h
  · rename_i hn
    refine ⟨?_, ?_, ?_⟩
    · rw [List.nodup_append]
      exact ⟨h.nd, by simp, fun a ha b hb e => hn (by simp at hb; subst hb; subst e; exact ha)⟩
    · rw [List.getElem?_append_left (List.getElem?_eq_some_iff.1 h.root).1]; exact h.root
    · intro s hs h0
      rcases List.mem_append.1 hs with hs | hs
      · exact h.lev s hs h0
      · simp at hs; subst hs; exact absurd h0 ht
theorem known_init (base : Nat) : Known base [] init := by
  refine ⟨⟨rfl, ?_, ?_⟩, .inl ⟨rfl, rfl⟩⟩
  · intro i hi
    have : i = 0 := by simp [init] at hi; omega
    subst this
    exact List.length_replicate
  · intro i t hi e he
    have : i = 0 := by
      have := (List.getElem?_eq_some_iff.1 hi).1
      simp [tabs] at this; omega
    subst this
    simp [tabs] at hi
    subst hi
    have h0 : cell init.all 0 e = 0 := by
      show (List.replicate 512 0).getD e 0 = 0
      rw [List.getD_eq_getElem?_getD, List.getElem?_replicate]
      split <;> rfl
    rw [h0]
    unfold entry
    rw [if_pos rfl, if_neg (by simp [tabs])]
/-- the first opening -/
theorem Known.mid {base : Nat} {qs : List Pge} {s : St} {q : Pge} (h : Known base qs s) (hc : Chain (qs ++ [q])) :
    Rep base (ens (tabs qs) (1, q.v / 1073741824)) qs (openMid base s q.v).all ∧ (ens (tabs qs) (1, q.v / 1073741824))[(openMid base s q.v).mid]? = some (1, q.v / 1073741824) ∧
    ((1, q.v / 1073741824) ∈ tabs qs → openMid base s q.v = s) ∧ ((1, q.v / 1073741824) ∉ tabs qs → (openMid base s q.v).low = 0) := by
  obtain ⟨hcq, hq, hlt⟩ := chain_snoc hc
  have hvl := hq.lt.1
  have key : (s.mid = 0 ∨ q.v / 1073741824 ≠ s.virt / 1073741824) ↔ (1, q.v / 1073741824) ∉ tabs qs := by
    rcases h.opn with ⟨rfl, h0⟩ | ⟨ql, hl, hv, hm0, hm, _⟩
    · simp [h0, tabs]
    · constructor
      · rintro (h0 | h0)
        · exact absurd h0 hm0
        · intro hin
          rcases mem_tabs.1 hin with h1 | ⟨x, hx, h1 | ⟨_, h1⟩⟩
          · injection h1 with h1 _; cases h1
          · injection h1 with _ h1
            have := (chain_last hcq hl).2 x hx
            have := hlt ql (chain_last hcq hl).1
            rw [hv] at h0
            omega
          · injection h1 with h1 _; cases h1
      · intro hni
        by_cases h0 : q.v / 1073741824 = s.virt / 1073741824
        · rw [h0, hv] at hni
          exact absurd (List.mem_of_getElem? hm) hni
        · exact .inr h0
  by_cases hin : (1, q.v / 1073741824) ∈ tabs qs
  · have hcond : ¬ (s.mid = 0 ∨ q.v / 1073741824 ≠ s.virt / 1073741824) := fun h' => key.1 h' hin
    have hop : openMid base s q.v = s := by unfold openMid; rw [if_neg hcond]
    have hens : ens (tabs qs) (1, q.v / 1073741824) = tabs qs := by unfold Pg.ens; rw [if_pos hin]
    rw [hop, hens]
    refine ⟨h.rep, ?_, fun _ => rfl, fun h' => absurd hin h'⟩
    rcases h.opn with ⟨rfl, h0⟩ | ⟨ql, hl, hv, hm0, hm, _⟩
    · exact absurd (.inl h0) hcond
    · rw [hm]
      have : q.v / 1073741824 = ql.v / 1073741824 := by
        rw [← hv]
        rcases Nat.decEq (q.v / 1073741824) (s.virt / 1073741824) with h' | h'
        · exact absurd (.inr h') hcond
        · exact h'
      rw [this]
  · have hop : openMid base s q.v = ⟨childE base s.all 0 (q.v / 1073741824), s.all.length, 0, s.virt⟩ := by unfold openMid; rw [if_pos (key.2 hin)]
    have hens : ens (tabs qs) (1, q.v / 1073741824) = tabs qs ++ [(1, q.v / 1073741824)] := by unfold Pg.ens; rw [if_neg hin]
    rw [hop, hens]
    refine ⟨?_, ?_, fun h' => absurd h' hin, fun _ => rfl⟩
    · refine h.rep.child (good_tabs qs) hin (good_tabs qs).root (by omega) (.inl ⟨rfl, rfl⟩) ?_
      intro x hx
      unfold entry
      rw [if_neg (by simp), if_pos rfl, if_neg, pageAt_none]
      · rintro y hy ⟨hb, hk⟩
        refine hin (mem_tabs.2 (.inr ⟨y, hy, .inl ?_⟩))
        unfold bu at hk
        simp only [if_true] at hk
        rw [show y.v / 1073741824 = q.v / 1073741824 by omega]
      · intro hm
        simp only [List.mem_append, List.mem_singleton, Prod.mk.injEq] at hm
        rcases hm with hm | hm
        · rcases mem_tabs.1 hm with h1 | ⟨y, hy, h1 | ⟨_, h1⟩⟩
          · injection h1 with h1 _; cases h1
          · injection h1 with h1 _; cases h1
          · injection h1 with _ h1
            refine hin (mem_tabs.2 (.inr ⟨y, hy, .inl ?_⟩))
            rw [show y.v / 1073741824 = q.v / 1073741824 by omega]
        · omega
    · show (tabs qs ++ _)[s.all.length]? = _
      rw [h.rep.len]
      simp
theorem ens_in {L : List Lab} {t : Lab} (h : t ∈ L) : ens L t = L := by unfold Pg.ens; rw [if_pos h]
theorem ens_out {L : List Lab} {t : Lab} (h : t ∉ L) : ens L t = L ++ [t] := by unfold Pg.ens; rw [if_neg h]
theorem ens_idx {L : List Lab} {t s : Lab} {i : Nat} (h : L[i]? = some s) : (ens L t)[i]? = some s := by
  unfold Pg.ens
  split
  · exact h
  · rw [List.getElem?_append_left (List.getElem?_eq_some_iff.1 h).1]; exact h
theorem Known.step {base : Nat} {qs : List Pge} {s : St} {q : Pge} (h : Known base qs s) (hc : Chain (qs ++ [q])) : Known base (qs ++ [q]) (step base s q) := by
  obtain ⟨hrep, hmid, hold, hnewl⟩ := h.mid hc
  obtain ⟨hcq, hq, hlt⟩ := chain_snoc hc
  have hvl := hq.lt.1
  have hva := hq.va
  have hg1 : Good (ens (tabs qs) (1, q.v / 1073741824)) := (good_tabs qs).ens (by simp)
  have hlev1 : ∀ t ∈ ens (tabs qs) (1, q.v / 1073741824), t.1 ≤ 2 := fun t ht => by
    rcases mem_ens.1 ht with ht | rfl
    · exact lev_tabs qs t ht
    · simp
  obtain ⟨s1, hs1⟩ : ∃ s1, s1 = openMid base s q.v := ⟨_, rfl⟩
  rw [← hs1] at hrep hmid hold hnewl
  have hm0 : s1.mid ≠ 0 := fun h0 => by rw [h0, hg1.root] at hmid; cases hmid
  have hlast : (qs ++ [q]).getLast? = some q := by simp
  cases hb : q.b with
  | true =>
    have htabs : tabs (qs ++ [q]) = ens (tabs qs) (1, q.v / 1073741824) := by rw [tabs_snoc]; unfold tab1; rw [if_pos hb]
    have hst : Pg.step base s q = ⟨setE s1.all s1.mid (q.v / 2097152 % 512) q.num, s1.mid, 0, q.v⟩ := by unfold Pg.step; rw [if_pos hb, hs1]
    have hu : q.u = 2097152 := by unfold Pge.u; rw [if_pos hb]
    have hp := hrep.page hg1 hlev1 (q := q) (i0 := s1.mid) (by rw [if_pos hb]; exact hmid) (fun _ hin => by
      rcases mem_ens.1 hin with hin | hin
      · rcases mem_tabs.1 hin with h1 | ⟨y, hy, h1 | ⟨hyb, h1⟩⟩
        · injection h1 with h1 _; cases h1
        · injection h1 with h1 _; cases h1
        · injection h1 with _ h1
          have := hlt y hy
          have hyu : y.u = 4096 := by unfold Pge.u; rw [hyb]; rfl
          rw [hu] at hva
          omega
      · injection hin with h1 _; cases h1) (fun x hx ⟨hxb, hxv⟩ => by
        have := hlt x hx
        have hxu : x.u = 2097152 := by unfold Pge.u; rw [hxb, hb]; rfl
        rw [hu] at hxv
        omega)
    rw [if_pos hb] at hp
    refine ⟨?_, .inr ⟨q, hlast, ?_, ?_, ?_, ?_⟩⟩
    · rw [htabs, hst]; exact hp
    · rw [hst]
    · rw [hst]; exact hm0
    · rw [hst, htabs]; exact hmid
    · rw [hst]; exact .inl ⟨hb, rfl⟩
  | false =>
    have htabs : tabs (qs ++ [q]) = ens (ens (tabs qs) (1, q.v / 1073741824)) (2, q.v / 2097152) := by rw [tabs_snoc]; unfold tab1; rw [if_neg (by rw [hb]; simp)]
    have hst : Pg.step base s q = ⟨setE (openLow base s1 q.v).all (openLow base s1 q.v).low (q.v / 4096 % 512) q.num, (openLow base s1 q.v).mid, (openLow base s1 q.v).low, q.v⟩ := by unfold Pg.step; rw [if_neg (by rw [hb]; simp), hs1]
    have hu : q.u = 4096 := by unfold Pge.u; rw [hb]; rfl
    have hg2 : Good (ens (ens (tabs qs) (1, q.v / 1073741824)) (2, q.v / 2097152)) := hg1.ens (by simp)
    have hlev2 : ∀ t ∈ ens (ens (tabs qs) (1, q.v / 1073741824)) (2, q.v / 2097152), t.1 ≤ 2 := fun t ht => by
      rcases mem_ens.1 ht with ht | rfl
      · exact hlev1 t ht
      · simp
    -- the second opening
    have hlow : Rep base (ens (ens (tabs qs) (1, q.v / 1073741824)) (2, q.v / 2097152)) qs (openLow base s1 q.v).all ∧ (ens (ens (tabs qs) (1, q.v / 1073741824)) (2, q.v / 2097152))[(openLow base s1 q.v).low]? = some (2, q.v / 2097152) ∧ (openLow base s1 q.v).mid = s1.mid := by
      by_cases hin : (2, q.v / 2097152) ∈ ens (tabs qs) (1, q.v / 1073741824)
      · have hin' : (2, q.v / 2097152) ∈ tabs qs := by
          rcases mem_ens.1 hin with h1 | h1
          · exact h1
          · injection h1 with h1 _; cases h1
        obtain ⟨y, hy, hyb, hyv⟩ : ∃ y ∈ qs, y.b = false ∧ q.v / 2097152 = y.v / 2097152 := by
          rcases mem_tabs.1 hin' with h1 | ⟨y, hy, h1 | ⟨hyb, h1⟩⟩
          · injection h1 with h1 _; cases h1
          · injection h1 with h1 _; cases h1
          · injection h1 with _ h1
            exact ⟨y, hy, hyb, h1⟩
        have hinm : (1, q.v / 1073741824) ∈ tabs qs := mem_tabs.2 (.inr ⟨y, hy, .inl (by rw [show q.v / 1073741824 = y.v / 1073741824 by omega])⟩)
        have hss := hold hinm
        rcases h.opn with ⟨rfl, _⟩ | ⟨ql, hl, hv, _, hm, hlo⟩
        · cases hy
        · have h1 := (chain_last hcq hl).2 y hy
          have h2 := hlt ql (chain_last hcq hl).1
          have h3 : ql.v / 2097152 = q.v / 2097152 := by omega
          rcases hlo with ⟨hqb, _⟩ | ⟨hqb, hl0, hlow⟩
          · have h4 := (hcq.2 ql (chain_last hcq hl).1).va
            have h5 : ql.u = 2097152 := by unfold Pge.u; rw [hqb]; rfl
            rw [h5] at h4 h2
            omega
          · have hop : openLow base s1 q.v = s1 := by
              unfold openLow
              rw [if_neg]
              rintro (h' | h')
              · rw [hss] at h'; exact hl0 h'
              · rw [hss, hv] at h'; exact h' h3.symm
            have hens : ens (ens (tabs qs) (1, q.v / 1073741824)) (2, q.v / 2097152) = ens (tabs qs) (1, q.v / 1073741824) := ens_in hin
            rw [hop, hens]
            refine ⟨hrep, ?_, rfl⟩
            rw [hss, ← h3]
            exact ens_idx hlow
      · have hcond : s1.low = 0 ∨ q.v / 2097152 ≠ s1.virt / 2097152 := by
          by_cases h0 : s1.low = 0
          · exact .inl h0
          · refine .inr fun h1 => ?_
            by_cases hinm : (1, q.v / 1073741824) ∈ tabs qs
            · have hss := hold hinm
              rw [hss] at h0 h1
              rcases h.opn with ⟨rfl, hm⟩ | ⟨ql, hl, hv, _, hm, hlo⟩
              · simp [tabs] at hinm
              · rcases hlo with ⟨_, hl0⟩ | ⟨hqb, hl0, hlow⟩
                · exact h0 hl0
                · rw [hv] at h1
                  rw [← h1] at hlow
                  exact hin (mem_ens.2 (.inl (List.mem_of_getElem? hlow)))
            · exact h0 (hnewl hinm)
        have hop : openLow base s1 q.v = ⟨childE base s1.all s1.mid (q.v / 2097152 % 512), s1.mid, s1.all.length, s1.virt⟩ := by unfold openLow; rw [if_pos hcond]
        have hens : ens (ens (tabs qs) (1, q.v / 1073741824)) (2, q.v / 2097152) = ens (tabs qs) (1, q.v / 1073741824) ++ [(2, q.v / 2097152)] := ens_out hin
        rw [hop, hens]
        refine ⟨?_, ?_, rfl⟩
        · refine hrep.child hg1 hin hmid (by omega) (.inr ⟨rfl, ?_⟩) ?_
          · show (2, q.v / 2097152) = (2, q.v / 1073741824 * 512 + q.v / 2097152 % 512)
            rw [show q.v / 1073741824 * 512 + q.v / 2097152 % 512 = q.v / 2097152 by omega]
          · intro x hx
            unfold entry
            rw [if_neg (by simp), if_neg (by simp), pageAt_none]
            rintro y hy ⟨hyb, hk⟩
            unfold bu at hk
            simp only [Bool.false_eq_true, if_false] at hk
            refine hin (mem_ens.2 (.inl (mem_tabs.2 (.inr ⟨y, hy, .inr ⟨hyb, ?_⟩⟩))))
            rw [show q.v / 2097152 = y.v / 2097152 by omega]
        · show (ens (tabs qs) (1, q.v / 1073741824) ++ _)[s1.all.length]? = _
          rw [hrep.len]
          simp
    obtain ⟨hrep2, hlow2, hmid2⟩ := hlow
    obtain ⟨s2, hs2⟩ : ∃ s2, s2 = openLow base s1 q.v := ⟨_, rfl⟩
    rw [← hs2] at hrep2 hlow2 hmid2 hst
    have hl0 : s2.low ≠ 0 := fun h0 => by rw [h0, hg2.root] at hlow2; cases hlow2
    have hp := hrep2.page hg2 hlev2 (q := q) (i0 := s2.low) (by rw [if_neg (by rw [hb]; simp)]; exact hlow2) (fun h' => by rw [hb] at h'; cases h') (fun x hx ⟨hxb, hxv⟩ => by
        have := hlt x hx
        have hxu : x.u = 4096 := by unfold Pge.u; rw [hxb, hb]; rfl
        rw [hu] at hxv
        omega)
    rw [if_neg (by rw [hb]; simp)] at hp
    refine ⟨?_, .inr ⟨q, hlast, ?_, ?_, ?_, ?_⟩⟩
    · rw [htabs, hst]; exact hp
    · rw [hst]
    · rw [hst]; show s2.mid ≠ 0; rw [hmid2]; exact hm0
    · rw [hst, htabs]; show _[s2.mid]? = _; rw [hmid2]; exact ens_idx hmid
    · rw [hst, htabs]; exact .inr ⟨hb, hl0, hlow2⟩
theorem runP_known {base : Nat} : ∀ (qs ps : List Pge) (s s' : St), Known base ps s → Chain (ps ++ qs) → runP base s qs = some s' → Known base (ps ++ qs) s'
  | [], ps, s, s', h, hc, hr => by cases hr; simpa using h
  | q :: r, ps, s, s', h, hc, hr => by
    rw [runP_cons] at hr
    split at hr
    · cases hr
    · have hc' : Chain ((ps ++ [q]) ++ r) := by simpa using hc
      have hc1 : Chain (ps ++ [q]) := ⟨(List.pairwise_append.1 hc'.1).1, fun x hx => hc'.2 x (List.mem_append.2 (.inl hx))⟩
      have := runP_known r (ps ++ [q]) _ s' (h.step hc1) hc' hr
      simpa using this
end Pg
end Go.Proofs.Ytblfagmoilhdnaa

/- Plain law: the tables lie in pre-order. -/
set_option linter.unusedVariables false
set_option linter.unusedSimpArgs false
namespace Go.Proofs.Ytblfagmoilhdnaa
namespace Pg
theorem ans_known {rows : List Lf} {base : Nat} (h : (ans rows base).2 = 0) : right 0 rows = 0 ∧ Chain (pagesOf rows) ∧ ∃ s, runP base init (pagesOf rows) = some s ∧ Known base (pagesOf rows) s ∧ (ans rows base).1 = s.all := by
  unfold ans at h ⊢
  by_cases h0 : right 0 rows = 0
  · rw [if_neg (by simp [h0])] at h
    rw [if_neg (by simp [h0])]
    cases hr : runP base init (pagesOf rows) with
    | none => rw [hr] at h; cases h
    | some s =>
      have hc := (right_pages rows 0 h0).1
      exact ⟨h0, hc, s, rfl, by simpa using runP_known (pagesOf rows) [] init s (known_init base) (by simpa using hc) hr, rfl⟩
  · rw [if_pos h0] at h
    exact absurd h h0
/-- the place of a table in pre-order -/
def key (t : Lab) : Nat := if t.1 = 0 then 0 else if t.1 = 1 then 2048 * t.2 + 1 else 2048 * (t.2 / 512) + 2 + t.2 % 512
theorem key0 : key (0, 0) = 0 := rfl
theorem key1 (j : Nat) : key (1, j) = 2048 * j + 1 := rfl
theorem key2 (m : Nat) : key (2, m) = 2048 * (m / 512) + 2 + m % 512 := rfl
def Sorted (L : List Lab) : Prop := L.Pairwise (fun a b => key a < key b)
theorem sorted_ens {L : List Lab} {t : Lab} (h : Sorted L) (ht : t ∉ L → ∀ s ∈ L, key s < key t) : Sorted (ens L t) := by
  unfold ens
  split
  · exact h
  · rename_i hn
    unfold Sorted
    rw [List.pairwise_append]
    refine ⟨h, by simp, fun a ha b hb => ?_⟩
    simp at hb
    subst hb
    exact ht hn a ha
theorem sorted_tabs {qs : List Pge} (hc : Chain qs) : Sorted (tabs qs) := by
  have aux : ∀ (n : Nat) (qs : List Pge), qs.length = n → Chain qs → Sorted (tabs qs) := by
    intro n
    induction n with
    | zero =>
      intro qs hl _
      obtain rfl := List.length_eq_zero_iff.1 hl
      simp [tabs, Sorted]
    | succ n ih =>
      intro qs hl hc
      obtain ⟨ys, q, rfl⟩ : ∃ ys q, qs = ys ++ [q] := by
        have hne : qs ≠ [] := by intro h; rw [h] at hl; cases hl
        exact ⟨qs.dropLast, qs.getLast hne, (List.dropLast_concat_getLast hne).symm⟩
      obtain ⟨hcy, hq, hlt⟩ := chain_snoc hc
      have hs := ih ys (by simpa using hl) hcy
      rw [tabs_snoc]
      have h1 : Sorted (ens (tabs ys) (1, q.v / 1073741824)) := by
        refine sorted_ens hs fun hn s hs => ?_
        rcases mem_tabs.1 hs with rfl | ⟨y, hy, rfl | ⟨hb, rfl⟩⟩
        · rw [key0, key1]; omega
        · have := hlt y hy
          have h2 : y.v / 1073741824 ≠ q.v / 1073741824 := fun e => hn (mem_tabs.2 (.inr ⟨y, hy, .inl (by rw [e])⟩))
          rw [key1, key1]; omega
        · have := hlt y hy
          have h2 : y.v / 1073741824 ≠ q.v / 1073741824 := fun e => hn (mem_tabs.2 (.inr ⟨y, hy, .inl (by rw [e])⟩))
          rw [key1, key2]; omega
      unfold tab1
      split
      · exact h1
      · refine sorted_ens h1 fun hn s hs => ?_
        rcases mem_ens.1 hs with hs | rfl
        · rcases mem_tabs.1 hs with rfl | ⟨y, hy, rfl | ⟨hb, rfl⟩⟩
          · rw [key0, key2]; omega
          · have := hlt y hy
            rw [key1, key2]; omega
          · have := hlt y hy
            have h2 : y.v / 2097152 ≠ q.v / 2097152 := fun e => hn (mem_ens.2 (.inl (mem_tabs.2 (.inr ⟨y, hy, .inr ⟨hb, by rw [e]⟩⟩))))
            rw [key2, key2]; omega
        · rw [key1, key2]; omega
  exact aux _ qs rfl hc
/-- so many tables lie ahead of a place -/
def ahead (L : List Lab) (k : Nat) : Nat := L.countP (fun t => decide (key t < k))
theorem ahead_idx : ∀ {L : List Lab} {t : Lab}, Sorted L → t ∈ L → L.idxOf t = ahead L (key t)
  | [], t, _, h => by cases h
  | s :: L, t, hs, h => by
    have hp := List.pairwise_cons.1 hs
    by_cases hst : s = t
    · subst hst
      rw [List.idxOf_cons_self]
      unfold ahead
      rw [List.countP_cons_of_neg (by simp), eq_comm, List.countP_eq_zero]
      intro x hx
      have := hp.1 x hx
      simp; omega
    · have hm : t ∈ L := by
        rcases List.mem_cons.1 h with h | h
        · exact absurd h.symm hst
        · exact h
      rw [List.idxOf_cons, show (s == t) = false by simpa using hst, cond_false, ahead_idx hp.2 hm]
      unfold ahead
      rw [List.countP_cons_of_pos (by simpa using hp.1 t hm)]
theorem ahead_split (L : List Lab) (k : Nat) : ahead L (k + 1) = ahead L k + L.countP (fun t => decide (key t = k)) := by
  unfold ahead
  induction L with
  | nil => rfl
  | cons s L ih =>
    rw [List.countP_cons, List.countP_cons, List.countP_cons, ih]
    by_cases h1 : key s < k
    · rw [if_pos (by simp; omega), if_pos (by simpa using h1), if_neg (by simp; omega)]; omega
    · by_cases h2 : key s = k
      · rw [if_pos (by simp; omega), if_neg (by simpa using h1), if_pos (by simpa using h2)]; omega
      · rw [if_neg (by simp; omega), if_neg (by simpa using h1), if_neg (by simpa using h2)]; omega
theorem ahead_same {L : List Lab} {k k' : Nat} (hk : k ≤ k') (h : ∀ t ∈ L, ¬ (k ≤ key t ∧ key t < k')) : ahead L k' = ahead L k := by
  unfold ahead
  refine List.countP_congr fun t ht => ?_
  have := h t ht
  simp only [decide_eq_true_iff]
  omega
theorem ahead_one {L : List Lab} {t : Lab} (hs : Sorted L) (ht : t ∈ L) : ahead L (key t + 1) = ahead L (key t) + 1 := by
  rw [ahead_split]
  congr 1
  have aux : ∀ {L : List Lab}, Sorted L → t ∈ L → L.countP (fun s => decide (key s = key t)) = 1 := by
    intro L
    induction L with
    | nil => intro _ h; cases h
    | cons s L ih =>
      intro hs h
      have hp := List.pairwise_cons.1 hs
      by_cases hst : s = t
      · subst hst
        rw [List.countP_cons_of_pos (by simp), List.countP_eq_zero.2]
        intro x hx
        have := hp.1 x hx
        simp; omega
      · have hm : t ∈ L := by
          rcases List.mem_cons.1 h with h | h
          · exact absurd h.symm hst
          · exact h
        rw [List.countP_cons_of_neg (by have := hp.1 t hm; simp; omega), ih hp.2 hm]
  exact aux hs ht
theorem ahead_all {L : List Lab} {k : Nat} (h : ∀ t ∈ L, key t < k) : ahead L k = L.length := by
  unfold ahead
  rw [List.countP_eq_length]
  intro t ht
  simpa using h t ht
/-- a low table lies under a middle one -/
theorem low_mid {qs : List Pge} {m : Nat} (h : (2, m) ∈ tabs qs) : (1, m / 512) ∈ tabs qs := by
  rcases mem_tabs.1 h with h1 | ⟨y, hy, h1 | ⟨hb, h1⟩⟩
  · injection h1 with h1 _; cases h1
  · injection h1 with h1 _; cases h1
  · injection h1 with _ h1
    refine mem_tabs.2 (.inr ⟨y, hy, .inl ?_⟩)
    rw [h1, show y.v / 2097152 / 512 = y.v / 1073741824 by omega]
theorem tabs_small {qs : List Pge} (hc : Chain qs) {t : Lab} (h : t ∈ tabs qs) : t = (0, 0) ∨ (t.1 = 1 ∧ t.2 < 512) ∨ (t.1 = 2 ∧ t.2 < 262144) := by
  rcases mem_tabs.1 h with h1 | ⟨y, hy, rfl | ⟨hb, rfl⟩⟩
  · exact .inl h1
  · have := (hc.2 y hy).lt.1
    exact .inr (.inl ⟨rfl, by show y.v / 1073741824 < 512; omega⟩)
  · have := (hc.2 y hy).lt.1
    exact .inr (.inr ⟨rfl, by show y.v / 2097152 < 262144; omega⟩)
/-- what the walk over the root finds -/
theorem ahead_root {qs : List Pge} : ahead (tabs qs) 1 = 1 := by
  have hg := good_tabs qs
  cases hL : tabs qs with
  | nil => have := hg.root; rw [hL] at this; cases this
  | cons s L =>
    rw [hL] at hg
    have h0 : s = (0, 0) := by have := hg.root; simpa using this
    unfold ahead
    rw [List.countP_cons_of_pos (by rw [h0]; decide), List.countP_eq_zero.2]
    intro t ht
    simp only [decide_eq_true_iff]
    intro hk
    have hz : t.1 = 0 := by
      unfold key at hk
      split at hk
      · assumption
      · split at hk <;> omega
    have := hg.lev t (by simp [ht]) hz
    subst this
    subst h0
    have := List.nodup_cons.1 hg.nd
    exact this.1 ht
theorem ahead_mid_no {qs : List Pge} (hc : Chain qs) {j : Nat} (h : (1, j) ∉ tabs qs) : ahead (tabs qs) (2048 * (j + 1) + 1) = ahead (tabs qs) (2048 * j + 1) := by
  refine ahead_same (by omega) fun t ht => ?_
  rcases mem_tabs.1 ht with rfl | ⟨y, hy, rfl | ⟨hb, rfl⟩⟩
  · rw [key0]; omega
  · rw [key1]
    intro hk
    have : y.v / 1073741824 = j := by omega
    exact h (mem_tabs.2 (.inr ⟨y, hy, .inl (by rw [this])⟩))
  · rw [key2]
    intro hk
    have : y.v / 1073741824 = j := by omega
    exact h (mem_tabs.2 (.inr ⟨y, hy, .inl (by rw [this])⟩))
theorem ahead_low_no {qs : List Pge} (hc : Chain qs) {j k : Nat} (hk : k < 512) (h : (2, j * 512 + k) ∉ tabs qs) : ahead (tabs qs) (2048 * j + 2 + (k + 1)) = ahead (tabs qs) (2048 * j + 2 + k) := by
  refine ahead_same (by omega) fun t ht => ?_
  rcases mem_tabs.1 ht with rfl | ⟨y, hy, rfl | ⟨hb, rfl⟩⟩
  · rw [key0]; omega
  · rw [key1]; omega
  · rw [key2]
    intro hk2
    have : y.v / 2097152 = j * 512 + k := by omega
    exact h (by rw [← this]; exact ht)
theorem ahead_low_end {qs : List Pge} (hc : Chain qs) (j : Nat) : ahead (tabs qs) (2048 * (j + 1) + 1) = ahead (tabs qs) (2048 * j + 2 + 512) := by
  refine ahead_same (by omega) fun t ht => ?_
  rcases mem_tabs.1 ht with rfl | ⟨y, hy, rfl | ⟨hb, rfl⟩⟩
  · rw [key0]; omega
  · rw [key1]; omega
  · rw [key2]; omega
theorem ahead_low_yes {qs : List Pge} (hc : Chain qs) {j k : Nat} (hk : k < 512) (h : (2, j * 512 + k) ∈ tabs qs) : (tabs qs).idxOf (2, j * 512 + k) = ahead (tabs qs) (2048 * j + 2 + k) ∧ ahead (tabs qs) (2048 * j + 2 + (k + 1)) = ahead (tabs qs) (2048 * j + 2 + k) + 1 := by
  have hs := sorted_tabs hc
  have e : key (2, j * 512 + k) = 2048 * j + 2 + k := by rw [key2]; omega
  refine ⟨by rw [ahead_idx hs h, e], ?_⟩
  have := ahead_one hs h
  rw [e] at this
  exact this
theorem ahead_mid_yes {qs : List Pge} (hc : Chain qs) {j : Nat} (h : (1, j) ∈ tabs qs) : (tabs qs).idxOf (1, j) = ahead (tabs qs) (2048 * j + 1) ∧ ahead (tabs qs) (2048 * j + 2 + 0) = ahead (tabs qs) (2048 * j + 1) + 1 := by
  have hs := sorted_tabs hc
  exact ⟨ahead_idx hs h, ahead_one hs h⟩
theorem ahead_end {qs : List Pge} (hc : Chain qs) : ahead (tabs qs) (2048 * 512 + 1) = (tabs qs).length := by
  refine ahead_all fun t ht => ?_
  obtain ⟨t1, t2⟩ := t
  rcases tabs_small hc ht with h | ⟨h1, h2⟩ | ⟨h1, h2⟩
  · injection h with h1 h2; subst h1 h2; rw [key0]; omega
  · simp only at h1 h2; subst h1; rw [key1]; omega
  · simp only at h1 h2; subst h1; rw [key2]; omega
end Pg
end Go.Proofs.Ytblfagmoilhdnaa
