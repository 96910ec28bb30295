/- Plain law for PagesAlike: what Build tells depends on the pages alone. -/
import Derived.Test.YtblfagmoilhdnaaPgV
set_option linter.unusedVariables false
set_option linter.unusedSimpArgs false
namespace Go.Proofs.Ytblfagmoilhdnaa
namespace Pg
theorem ans_same {a b : List Lf} (ha : right 0 a = 0) (hb : right 0 b = 0) (h : pagesOf a = pagesOf b) (base : Nat) : ans a base = ans b base := by
  unfold ans
  rw [if_neg (by simp [ha]), if_neg (by simp [hb]), h]
theorem ansB_same {a b : List Lf} (ha : right 0 a = 0) (hb : right 0 b = 0) (h : pagesOf a = pagesOf b) (base : Nat) : ansB a base = ansB b base := by
  unfold ansB
  rw [ans_same ha hb h]
/-- the builders of two bases go alike -/
def Sim (s t : St) : Prop := s.all.length = t.all.length ∧ s.mid = t.mid ∧ s.low = t.low ∧ s.virt = t.virt
theorem Sim.step {b b' : Nat} {s t : St} (h : Sim s t) (q : Pge) : Sim (step b s q) (step b' t q) := by
  obtain ⟨h1, h2, h3, h4⟩ := h
  have hm : Sim (openMid b s q.v) (openMid b' t q.v) := by
    unfold openMid
    rw [h2, h4]
    split
    · exact ⟨by simp [childE_len, h1], by simp [h1], rfl, rfl⟩
    · exact ⟨h1, h2, h3, h4⟩
  have hl : ∀ s t : St, Sim s t → Sim (openLow b s q.v) (openLow b' t q.v) := by
    rintro s t ⟨h1, h2, h3, h4⟩
    unfold openLow
    rw [h3, h4]
    split
    · exact ⟨by simp [childE_len, h1], h2, by simp [h1], rfl⟩
    · exact ⟨h1, h2, h3, h4⟩
  unfold Pg.step
  cases q.b
  · obtain ⟨k1, k2, k3, k4⟩ := hl _ _ hm
    exact ⟨by simp [setE_len, k1], k2, k3, rfl⟩
  · obtain ⟨k1, k2, k3, k4⟩ := hm
    exact ⟨by simp [setE_len, k1], k2, rfl, rfl⟩
theorem runP_sim {b b' : Nat} : ∀ (qs : List Pge) (s t s' : St), Sim s t → runP b s qs = some s' → ∃ t', runP b' t qs = some t' ∧ Sim s' t'
  | [], s, t, s', h, hr => by cases hr; exact ⟨t, rfl, h⟩
  | q :: r, s, t, s', h, hr => by
    rw [runP_cons] at hr ⊢
    have hs := h.step (b := b) (b' := b') q
    split at hr
    · cases hr
    · rename_i hl
      rw [if_neg (by rw [← hs.1]; exact hl)]
      exact runP_sim r _ _ s' hs hr
theorem ans_base {rows : List Lf} {b : Nat} (b' : Nat) (h : (ans rows b).2 = 0) : (ans rows b').2 = 0 ∧ (ans rows b').1.length = (ans rows b).1.length := by
  obtain ⟨hr, hc, s, hs, _, hl⟩ := ans_known h
  obtain ⟨t, ht, hst⟩ := runP_sim (b' := b') _ init init s ⟨rfl, rfl, rfl, rfl⟩ hs
  rw [hl]
  unfold ans
  rw [if_neg (by simp [hr]), ht]
  exact ⟨rfl, hst.1.symm⟩
theorem ansB_ok {rows : List Lf} {base : Nat} (h : (ansB rows base).2 = 0) : (ans rows base).2 = 0 ∧ ansB rows base = ans rows base ∧ base % 4096 = 0 ∧ base + (ans rows base).1.length * 4096 ≤ 4294967296 := by
  unfold ansB at h ⊢
  simp only at h ⊢
  split at h
  · rename_i h0; exact absurd h h0
  · rename_i h0
    split at h
    · cases h
    · rename_i h1
      split at h
      · cases h
      · rename_i h2
        have hb : base / 4096 * 4096 % 4294967296 = base := by omega
        rw [hb] at h0 h2 h ⊢
        rw [if_neg h0, if_neg h1, if_neg h2]
        refine ⟨h, rfl, by omega, by omega⟩
theorem In_of {r : Lf} (h : r.Ok) : r.In := by
  obtain ⟨h1, h2, h3, h4, h5, h6⟩ := h
  unfold Lf.In
  omega
/-- the one page that is asked ahead -/
def farRow : Lf := ⟨1073741824, 0, 1, false, false, false⟩
theorem ansB_far (b : Nat) (h : b % 4096 = 0) (hl : b < 2147483648) : (ansB [farRow] b).2 = 0 ∧ (ansB [farRow] b).1.length = 3 := by
  have h0 : (ans [farRow] 0).2 = 0 ∧ (ans [farRow] 0).1.length = 3 := by
    have : ((ans [farRow] 0).2, (ans [farRow] 0).1.length) = (0, 3) := by kernel_rfl
    injection this with h1 h2
    exact ⟨h1, h2⟩
  obtain ⟨h1, h2⟩ := ans_base b h0.1
  have hb : b / 4096 * 4096 % 4294967296 = b := by omega
  unfold ansB
  simp only
  rw [hb, if_neg (by simp [h1]), if_neg (by simp [h]), if_neg (by rw [h2, h0.2]; omega)]
  exact ⟨h1, by rw [h2, h0.2]⟩
end Pg
end Go.Proofs.Ytblfagmoilhdnaa
