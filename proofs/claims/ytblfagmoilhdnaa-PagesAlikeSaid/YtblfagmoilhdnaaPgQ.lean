/- Plain law: what the builder makes page after page is told by the pages. -/
import Derived.Test.YtblfagmoilhdnaaPgP
import Derived.Test.YtblfagmoilhdnaaPgF
set_option linter.unusedVariables false
set_option linter.unusedSimpArgs false
namespace Go.Proofs.Ytblfagmoilhdnaa
namespace Pg
structure Known (base : Nat) (qs : List Pge) (s : St) : Prop where
  rep : Rep base (tabs qs) qs s.all
  opn : (qs = [] ∧ s.mid = 0) ∨ ∃ q, qs.getLast? = some q ∧ s.virt = q.v ∧ s.mid ≠ 0 ∧ (tabs qs)[s.mid]? = some (1, q.v / 1073741824) ∧ (q.b = true ∧ s.low = 0 ∨ q.b = false ∧ s.low ≠ 0 ∧ (tabs qs)[s.low]? = some (2, q.v / 2097152))
theorem lev_tabs (qs : List Pge) : ∀ t ∈ tabs qs, t.1 ≤ 2 := by
  intro t ht
  rcases mem_tabs.1 ht with rfl | ⟨q, _, rfl | ⟨_, rfl⟩⟩ <;> simp
theorem chain_snoc {qs : List Pge} {q : Pge} (h : Chain (qs ++ [q])) : Chain qs ∧ q.Ok ∧ ∀ x ∈ qs, x.v + x.u ≤ q.v := by
  obtain ⟨h1, h2⟩ := h
  rw [List.pairwise_append] at h1
  exact ⟨⟨h1.1, fun x hx => h2 x (by simp [hx])⟩, h2 q (by simp), fun x hx => h1.2.2 x hx q (by simp)⟩
theorem chain_last {qs : List Pge} {q : Pge} (h : Chain qs) (hl : qs.getLast? = some q) : q ∈ qs ∧ ∀ x ∈ qs, x.v ≤ q.v := by
  obtain ⟨ys, rfl⟩ := List.getLast?_eq_some_iff.1 hl
  refine ⟨by simp, fun x hx => ?_⟩
  rcases List.mem_append.1 hx with hx | hx
  · have := (chain_snoc h).2.2 x hx; omega
  · simp at hx; rw [hx]; exact Nat.le_refl _
theorem pageAt_none {qs : List Pge} {b : Bool} {k : Nat} (h : ∀ x ∈ qs, ¬ (x.b = b ∧ x.v / bu b = k)) : pageAt qs b k = 0 := by
  unfold pageAt
  rw [List.find?_eq_none.2 (by
    intro x hx
    have := h x hx
    simpa using this)]
theorem Good.ens {L : List Lab} (h : Good L) {t : Lab} (ht : t.1 ≠ 0) : Good (ens L t) := by
  unfold Pg.ens
  split
  · exact h
  · rename_i hn
    refine ⟨?_, ?_, ?_⟩
    · rw [List.nodup_append]
      exact ⟨h.nd, by simp, fun a ha b hb e => hn (by simp at hb; subst hb; subst e; exact ha)⟩
    · rw [List.getElem?_append_left (List.getElem?_eq_some_iff.1 h.root).1]; exact h.root
    · intro s hs h0
      rcases List.mem_append.1 hs with hs | hs
      · exact h.lev s hs h0
      · simp at hs; subst hs; exact absurd h0 ht
theorem known_init (base : Nat) : Known base [] init := by
  refine ⟨⟨rfl, ?_, ?_⟩, .inl ⟨rfl, rfl⟩⟩
  · intro i hi
    have : i = 0 := by simp [init] at hi; omega
    subst this
    exact List.length_replicate
  · intro i t hi e he
    have : i = 0 := by
      have := (List.getElem?_eq_some_iff.1 hi).1
      simp [tabs] at this; omega
    subst this
    simp [tabs] at hi
    subst hi
    have h0 : cell init.all 0 e = 0 := by
      show (List.replicate 512 0).getD e 0 = 0
      rw [List.getD_eq_getElem?_getD, List.getElem?_replicate]
      split <;> rfl
    rw [h0]
    unfold entry
    rw [if_pos rfl, if_neg (by simp [tabs])]
/-- the first opening -/
theorem Known.mid {base : Nat} {qs : List Pge} {s : St} {q : Pge} (h : Known base qs s) (hc : Chain (qs ++ [q])) :
    Rep base (ens (tabs qs) (1, q.v / 1073741824)) qs (openMid base s q.v).all ∧ (ens (tabs qs) (1, q.v / 1073741824))[(openMid base s q.v).mid]? = some (1, q.v / 1073741824) ∧
    ((1, q.v / 1073741824) ∈ tabs qs → openMid base s q.v = s) ∧ ((1, q.v / 1073741824) ∉ tabs qs → (openMid base s q.v).low = 0) := by
  obtain ⟨hcq, hq, hlt⟩ := chain_snoc hc
  have hvl := hq.lt.1
  have key : (s.mid = 0 ∨ q.v / 1073741824 ≠ s.virt / 1073741824) ↔ (1, q.v / 1073741824) ∉ tabs qs := by
    rcases h.opn with ⟨rfl, h0⟩ | ⟨ql, hl, hv, hm0, hm, _⟩
    · simp [h0, tabs]
    · constructor
      · rintro (h0 | h0)
        · exact absurd h0 hm0
        · intro hin
          rcases mem_tabs.1 hin with h1 | ⟨x, hx, h1 | ⟨_, h1⟩⟩
          · injection h1 with h1 _; cases h1
          · injection h1 with _ h1
            have := (chain_last hcq hl).2 x hx
            have := hlt ql (chain_last hcq hl).1
            rw [hv] at h0
            omega
          · injection h1 with h1 _; cases h1
      · intro hni
        by_cases h0 : q.v / 1073741824 = s.virt / 1073741824
        · rw [h0, hv] at hni
          exact absurd (List.mem_of_getElem? hm) hni
        · exact .inr h0
  by_cases hin : (1, q.v / 1073741824) ∈ tabs qs
  · have hcond : ¬ (s.mid = 0 ∨ q.v / 1073741824 ≠ s.virt / 1073741824) := fun h' => key.1 h' hin
    have hop : openMid base s q.v = s := by unfold openMid; rw [if_neg hcond]
    have hens : ens (tabs qs) (1, q.v / 1073741824) = tabs qs := by unfold Pg.ens; rw [if_pos hin]
    rw [hop, hens]
    refine ⟨h.rep, ?_, fun _ => rfl, fun h' => absurd hin h'⟩
    rcases h.opn with ⟨rfl, h0⟩ | ⟨ql, hl, hv, hm0, hm, _⟩
    · exact absurd (.inl h0) hcond
    · rw [hm]
      have : q.v / 1073741824 = ql.v / 1073741824 := by
        rw [← hv]
        rcases Nat.decEq (q.v / 1073741824) (s.virt / 1073741824) with h' | h'
        · exact absurd (.inr h') hcond
        · exact h'
      rw [this]
  · have hop : openMid base s q.v = ⟨childE base s.all 0 (q.v / 1073741824), s.all.length, 0, s.virt⟩ := by unfold openMid; rw [if_pos (key.2 hin)]
    have hens : ens (tabs qs) (1, q.v / 1073741824) = tabs qs ++ [(1, q.v / 1073741824)] := by unfold Pg.ens; rw [if_neg hin]
    rw [hop, hens]
    refine ⟨?_, ?_, fun h' => absurd h' hin, fun _ => rfl⟩
    · refine h.rep.child (good_tabs qs) hin (good_tabs qs).root (by omega) (.inl ⟨rfl, rfl⟩) ?_
      intro x hx
      unfold entry
      rw [if_neg (by simp), if_pos rfl, if_neg, pageAt_none]
      · rintro y hy ⟨hb, hk⟩
        refine hin (mem_tabs.2 (.inr ⟨y, hy, .inl ?_⟩))
        unfold bu at hk
        simp only [if_true] at hk
        rw [show y.v / 1073741824 = q.v / 1073741824 by omega]
      · intro hm
        simp only [List.mem_append, List.mem_singleton, Prod.mk.injEq] at hm
        rcases hm with hm | hm
        · rcases mem_tabs.1 hm with h1 | ⟨y, hy, h1 | ⟨_, h1⟩⟩
          · injection h1 with h1 _; cases h1
          · injection h1 with h1 _; cases h1
          · injection h1 with _ h1
            refine hin (mem_tabs.2 (.inr ⟨y, hy, .inl ?_⟩))
            rw [show y.v / 1073741824 = q.v / 1073741824 by omega]
        · omega
    · show (tabs qs ++ _)[s.all.length]? = _
      rw [h.rep.len]
      simp
theorem ens_in {L : List Lab} {t : Lab} (h : t ∈ L) : ens L t = L := by unfold Pg.ens; rw [if_pos h]
theorem ens_out {L : List Lab} {t : Lab} (h : t ∉ L) : ens L t = L ++ [t] := by unfold Pg.ens; rw [if_neg h]
theorem ens_idx {L : List Lab} {t s : Lab} {i : Nat} (h : L[i]? = some s) : (ens L t)[i]? = some s := by
  unfold Pg.ens
  split
  · exact h
  · rw [List.getElem?_append_left (List.getElem?_eq_some_iff.1 h).1]; exact h
theorem Known.step {base : Nat} {qs : List Pge} {s : St} {q : Pge} (h : Known base qs s) (hc : Chain (qs ++ [q])) : Known base (qs ++ [q]) (step base s q) := by
  obtain ⟨hrep, hmid, hold, hnewl⟩ := h.mid hc
  obtain ⟨hcq, hq, hlt⟩ := chain_snoc hc
  have hvl := hq.lt.1
  have hva := hq.va
  have hg1 : Good (ens (tabs qs) (1, q.v / 1073741824)) := (good_tabs qs).ens (by simp)
  have hlev1 : ∀ t ∈ ens (tabs qs) (1, q.v / 1073741824), t.1 ≤ 2 := fun t ht => by
    rcases mem_ens.1 ht with ht | rfl
    · exact lev_tabs qs t ht
    · simp
  obtain ⟨s1, hs1⟩ : ∃ s1, s1 = openMid base s q.v := ⟨_, rfl⟩
  rw [← hs1] at hrep hmid hold hnewl
  have hm0 : s1.mid ≠ 0 := fun h0 => by rw [h0, hg1.root] at hmid; cases hmid
  have hlast : (qs ++ [q]).getLast? = some q := by simp
  cases hb : q.b with
  | true =>
    have htabs : tabs (qs ++ [q]) = ens (tabs qs) (1, q.v / 1073741824) := by rw [tabs_snoc]; unfold tab1; rw [if_pos hb]
    have hst : Pg.step base s q = ⟨setE s1.all s1.mid (q.v / 2097152 % 512) q.num, s1.mid, 0, q.v⟩ := by unfold Pg.step; rw [if_pos hb, hs1]
    have hu : q.u = 2097152 := by unfold Pge.u; rw [if_pos hb]
    have hp := hrep.page hg1 hlev1 (q := q) (i0 := s1.mid) (by rw [if_pos hb]; exact hmid) (fun _ hin => by
      rcases mem_ens.1 hin with hin | hin
      · rcases mem_tabs.1 hin with h1 | ⟨y, hy, h1 | ⟨hyb, h1⟩⟩
        · injection h1 with h1 _; cases h1
        · injection h1 with h1 _; cases h1
        · injection h1 with _ h1
          have := hlt y hy
          have hyu : y.u = 4096 := by unfold Pge.u; rw [hyb]; rfl
          rw [hu] at hva
          omega
      · injection hin with h1 _; cases h1) (fun x hx ⟨hxb, hxv⟩ => by
        have := hlt x hx
        have hxu : x.u = 2097152 := by unfold Pge.u; rw [hxb, hb]; rfl
        rw [hu] at hxv
        omega)
    rw [if_pos hb] at hp
    refine ⟨?_, .inr ⟨q, hlast, ?_, ?_, ?_, ?_⟩⟩
    · rw [htabs, hst]; exact hp
    · rw [hst]
    · rw [hst]; exact hm0
    · rw [hst, htabs]; exact hmid
    · rw [hst]; exact .inl ⟨hb, rfl⟩
  | false =>
    have htabs : tabs (qs ++ [q]) = ens (ens (tabs qs) (1, q.v / 1073741824)) (2, q.v / 2097152) := by rw [tabs_snoc]; unfold tab1; rw [if_neg (by rw [hb]; simp)]
    have hst : Pg.step base s q = ⟨setE (openLow base s1 q.v).all (openLow base s1 q.v).low (q.v / 4096 % 512) q.num, (openLow base s1 q.v).mid, (openLow base s1 q.v).low, q.v⟩ := by unfold Pg.step; rw [if_neg (by rw [hb]; simp), hs1]
    have hu : q.u = 4096 := by unfold Pge.u; rw [hb]; rfl
    have hg2 : Good (ens (ens (tabs qs) (1, q.v / 1073741824)) (2, q.v / 2097152)) := hg1.ens (by simp)
    have hlev2 : ∀ t ∈ ens (ens (tabs qs) (1, q.v / 1073741824)) (2, q.v / 2097152), t.1 ≤ 2 := fun t ht => by
      rcases mem_ens.1 ht with ht | rfl
      · exact hlev1 t ht
      · simp
    -- the second opening
    have hlow : Rep base (ens (ens (tabs qs) (1, q.v / 1073741824)) (2, q.v / 2097152)) qs (openLow base s1 q.v).all ∧ (ens (ens (tabs qs) (1, q.v / 1073741824)) (2, q.v / 2097152))[(openLow base s1 q.v).low]? = some (2, q.v / 2097152) ∧ (openLow base s1 q.v).mid = s1.mid := by
      by_cases hin : (2, q.v / 2097152) ∈ ens (tabs qs) (1, q.v / 1073741824)
      · have hin' : (2, q.v / 2097152) ∈ tabs qs := by
          rcases mem_ens.1 hin with h1 | h1
          · exact h1
          · injection h1 with h1 _; cases h1
        obtain ⟨y, hy, hyb, hyv⟩ : ∃ y ∈ qs, y.b = false ∧ q.v / 2097152 = y.v / 2097152 := by
          rcases mem_tabs.1 hin' with h1 | ⟨y, hy, h1 | ⟨hyb, h1⟩⟩
          · injection h1 with h1 _; cases h1
          · injection h1 with h1 _; cases h1
          · injection h1 with _ h1
            exact ⟨y, hy, hyb, h1⟩
        have hinm : (1, q.v / 1073741824) ∈ tabs qs := mem_tabs.2 (.inr ⟨y, hy, .inl (by rw [show q.v / 1073741824 = y.v / 1073741824 by omega])⟩)
        have hss := hold hinm
        rcases h.opn with ⟨rfl, _⟩ | ⟨ql, hl, hv, _, hm, hlo⟩
        · cases hy
        · have h1 := (chain_last hcq hl).2 y hy
          have h2 := hlt ql (chain_last hcq hl).1
          have h3 : ql.v / 2097152 = q.v / 2097152 := by omega
          rcases hlo with ⟨hqb, _⟩ | ⟨hqb, hl0, hlow⟩
          · have h4 := (hcq.2 ql (chain_last hcq hl).1).va
            have h5 : ql.u = 2097152 := by unfold Pge.u; rw [hqb]; rfl
            rw [h5] at h4 h2
            omega
          · have hop : openLow base s1 q.v = s1 := by
              unfold openLow
              rw [if_neg]
              rintro (h' | h')
              · rw [hss] at h'; exact hl0 h'
              · rw [hss, hv] at h'; exact h' h3.symm
            have hens : ens (ens (tabs qs) (1, q.v / 1073741824)) (2, q.v / 2097152) = ens (tabs qs) (1, q.v / 1073741824) := ens_in hin
            rw [hop, hens]
            refine ⟨hrep, ?_, rfl⟩
            rw [hss, ← h3]
            exact ens_idx hlow
      · have hcond : s1.low = 0 ∨ q.v / 2097152 ≠ s1.virt / 2097152 := by
          by_cases h0 : s1.low = 0
          · exact .inl h0
          · refine .inr fun h1 => ?_
            by_cases hinm : (1, q.v / 1073741824) ∈ tabs qs
            · have hss := hold hinm
              rw [hss] at h0 h1
              rcases h.opn with ⟨rfl, hm⟩ | ⟨ql, hl, hv, _, hm, hlo⟩
              · simp [tabs] at hinm
              · rcases hlo with ⟨_, hl0⟩ | ⟨hqb, hl0, hlow⟩
                · exact h0 hl0
                · rw [hv] at h1
                  rw [← h1] at hlow
                  exact hin (mem_ens.2 (.inl (List.mem_of_getElem? hlow)))
            · exact h0 (hnewl hinm)
        have hop : openLow base s1 q.v = ⟨childE base s1.all s1.mid (q.v / 2097152 % 512), s1.mid, s1.all.length, s1.virt⟩ := by unfold openLow; rw [if_pos hcond]
        have hens : ens (ens (tabs qs) (1, q.v / 1073741824)) (2, q.v / 2097152) = ens (tabs qs) (1, q.v / 1073741824) ++ [(2, q.v / 2097152)] := ens_out hin
        rw [hop, hens]
        refine ⟨?_, ?_, rfl⟩
        · refine hrep.child hg1 hin hmid (by omega) (.inr ⟨rfl, ?_⟩) ?_
          · show (2, q.v / 2097152) = (2, q.v / 1073741824 * 512 + q.v / 2097152 % 512)
            rw [show q.v / 1073741824 * 512 + q.v / 2097152 % 512 = q.v / 2097152 by omega]
          · intro x hx
            unfold entry
            rw [if_neg (by simp), if_neg (by simp), pageAt_none]
            rintro y hy ⟨hyb, hk⟩
            unfold bu at hk
            simp only [Bool.false_eq_true, if_false] at hk
            refine hin (mem_ens.2 (.inl (mem_tabs.2 (.inr ⟨y, hy, .inr ⟨hyb, ?_⟩⟩))))
            rw [show q.v / 2097152 = y.v / 2097152 by omega]
        · show (ens (tabs qs) (1, q.v / 1073741824) ++ _)[s1.all.length]? = _
          rw [hrep.len]
          simp
    obtain ⟨hrep2, hlow2, hmid2⟩ := hlow
    obtain ⟨s2, hs2⟩ : ∃ s2, s2 = openLow base s1 q.v := ⟨_, rfl⟩
    rw [← hs2] at hrep2 hlow2 hmid2 hst
    have hl0 : s2.low ≠ 0 := fun h0 => by rw [h0, hg2.root] at hlow2; cases hlow2
    have hp := hrep2.page hg2 hlev2 (q := q) (i0 := s2.low) (by rw [if_neg (by rw [hb]; simp)]; exact hlow2) (fun h' => by rw [hb] at h'; cases h') (fun x hx ⟨hxb, hxv⟩ => by
        have := hlt x hx
        have hxu : x.u = 4096 := by unfold Pge.u; rw [hxb, hb]; rfl
        rw [hu] at hxv
        omega)
    rw [if_neg (by rw [hb]; simp)] at hp
    refine ⟨?_, .inr ⟨q, hlast, ?_, ?_, ?_, ?_⟩⟩
    · rw [htabs, hst]; exact hp
    · rw [hst]
    · rw [hst]; show s2.mid ≠ 0; rw [hmid2]; exact hm0
    · rw [hst, htabs]; show _[s2.mid]? = _; rw [hmid2]; exact ens_idx hmid
    · rw [hst, htabs]; exact .inr ⟨hb, hl0, hlow2⟩
theorem runP_known {base : Nat} : ∀ (qs ps : List Pge) (s s' : St), Known base ps s → Chain (ps ++ qs) → runP base s qs = some s' → Known base (ps ++ qs) s'
  | [], ps, s, s', h, hc, hr => by cases hr; simpa using h
  | q :: r, ps, s, s', h, hc, hr => by
    rw [runP_cons] at hr
    split at hr
    · cases hr
    · have hc' : Chain ((ps ++ [q]) ++ r) := by simpa using hc
      have hc1 : Chain (ps ++ [q]) := ⟨(List.pairwise_append.1 hc'.1).1, fun x hx => hc'.2 x (List.mem_append.2 (.inl hx))⟩
      have := runP_known r (ps ++ [q]) _ s' (h.step hc1) hc' hr
      simpa using this
end Pg
end Go.Proofs.Ytblfagmoilhdnaa
