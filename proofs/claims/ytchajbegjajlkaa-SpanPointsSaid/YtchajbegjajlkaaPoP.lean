/- The plain law of SpanFits: what Fit tells is the least multiple behind which so many points lie; the longest span. -/
import Derived.Test.YtchajbegjajlkaaPoF
set_option linter.unusedVariables false
set_option linter.unusedSimpArgs false
namespace Go.Proofs.Ytchajbegjajlkaa
open Go.RowKit
open S8
theorem nup_least {n al q : Nat} (h0 : al ≠ 0) (hd : al ∣ q) (hq : n ≤ q) (h8 : q ≤ 255) : (nup n al).2 = true ∧ (nup n al).1 ≤ q := by
  unfold nup nadd
  rw [if_neg h0]
  by_cases hm : n % al = 0
  · rw [if_pos hm]; exact ⟨rfl, hq⟩
  · rw [if_neg hm]
    obtain ⟨k, rfl⟩ := hd
    have hlt : n % al < al := Nat.mod_lt _ (by omega)
    have hdm := Nat.div_add_mod n al
    have h1 : n / al < k := by
      apply Nat.lt_of_mul_lt_mul_left (a := al)
      have : n % al ≠ 0 := hm
      omega
    have h2 : al * (n / al + 1) ≤ al * k := Nat.mul_le_mul_left _ h1
    rw [Nat.mul_add, Nat.mul_one] at h2
    have h3 : n - n % al + al ≤ al * k := by omega
    rw [if_pos (by omega)]
    exact ⟨rfl, h3⟩
theorem nup_true {n al : Nat} (h : (nup n al).2 = true) : al ≠ 0 ∧ al ∣ (nup n al).1 ∧ n ≤ (nup n al).1 := by
  unfold nup nadd at h ⊢
  by_cases h0 : al = 0
  · rw [if_pos h0] at h; cases h
  · rw [if_neg h0] at h ⊢
    by_cases hm : n % al = 0
    · rw [if_pos hm]; exact ⟨h0, Nat.dvd_of_mod_eq_zero hm, Nat.le_refl _⟩
    · rw [if_neg hm] at h ⊢
      have hlt : n % al < al := Nat.mod_lt _ (by omega)
      have hdm := Nat.div_add_mod n al
      by_cases h2 : n - n % al + al < 256
      · rw [if_pos h2]
        refine ⟨h0, ?_, by simp only; omega⟩
        simp only
        rw [show n - n % al = al * (n / al) by omega]
        exact Nat.dvd_add (Nat.dvd_mul_right _ _) (Nat.dvd_refl _)
      · rw [if_neg h2] at h; cases h
/-- a row of points lies in one span -/
theorem one_span {s : Sp.S} (hn : Sp.Nrm 255 s) {q sz : Nat} (h0 : sz ≠ 0) (ho : okF (fun i => Sp.has s i) q sz) : ∃ pre y r, s = pre ++ y :: r ∧ y.1 ≤ q ∧ q + (sz - 1) ≤ y.2 := by
  have hc : S8.cov s q (q + (sz - 1)) = true := (S8.cov_iff hn).2 (fun p h1 h2 => by
    have := (ho (p - q) (by omega)).2
    rw [show q + (p - q) = p by omega] at this
    exact this)
  unfold S8.cov at hc
  rw [if_neg (by omega)] at hc
  cases hf : Sp.from_ s q with
  | nil => rw [hf] at hc; cases hc
  | cons y r =>
    rw [hf] at hc
    simp only [Bool.and_eq_true, decide_eq_true_eq] at hc
    have hsf : Sp.from_ s q <:+ s := List.dropWhile_suffix _
    obtain ⟨pre, hp⟩ := hsf
    rw [hf] at hp
    exact ⟨pre, y, r, hp.symm, hc.1, hc.2⟩
theorem nrm_mid {M : Nat} {pre r : Sp.S} {y z : Nat × Nat} (hn : Sp.Nrm M (pre ++ y :: r)) : (z ∈ r → y.2 + 1 < z.1) ∧ (z ∈ pre → z.2 + 1 < y.1) := by
  have h := hn.up
  rw [List.pairwise_append] at h
  exact ⟨fun hz => (List.pairwise_cons.1 h.2.1).1 z hz, fun hz => h.2.2 z hz y (by simp)⟩
theorem fit_eq {s : Sp.S} (hn : Sp.Nrm 255 s) {sz al : Nat} {R : Nat × Bool} (hR : FitL (fun i => Sp.has s i) sz al R) : S8.fitS s sz al = R := by
  by_cases h0 : sz = 0
  · rw [hR.1 (.inl h0)]; unfold S8.fitS; rw [if_pos h0]
  by_cases h1 : al = 0
  · rw [hR.1 (.inr h1)]
    refine S8.fitS_none (fun x hx => ?_)
    unfold S8.fit1 S8.nup
    rw [if_pos h1]; rfl
  have hyes : ∀ {x : Nat × Nat} {q : Nat}, al ∣ q → x.1 ≤ q → q + (sz - 1) ≤ x.2 → x.2 ≤ 255 → S8.fit1 sz al x = true := fun hd h2 h3 h4 => by
    obtain ⟨a, b⟩ := nup_least h1 hd h2 (by omega)
    unfold S8.fit1
    rw [a, decide_eq_true (by omega), decide_eq_true (by omega)]; rfl
  rcases hR.2 h0 h1 with ⟨rfl, hno⟩ | ⟨p, rfl, hp8, hpd, hok, hleast⟩
  · refine S8.fitS_none (fun x hx => ?_)
    cases hf : S8.fit1 sz al x with
    | false => rfl
    | true =>
      unfold S8.fit1 at hf
      simp only [Bool.and_eq_true, decide_eq_true_eq] at hf
      obtain ⟨⟨f1, f2⟩, f3⟩ := hf
      obtain ⟨n1, n2, n3⟩ := nup_true f1
      have hxo := hn.ok x hx
      exfalso
      refine hno (S8.nup x.1 al).1 (by omega) n2 (fun i hi => ⟨by omega, ?_⟩)
      exact Sp.has_iff.2 ⟨x, hx, by omega, by omega⟩
  · obtain ⟨pre, y, r, rfl, hy1, hy2⟩ := one_span hn h0 hok
    have hyo := hn.ok y (by simp)
    obtain ⟨u1, u2⟩ := nup_least h1 hpd hy1 (by omega)
    obtain ⟨_, u3, u4⟩ := nup_true u1
    have hpe : (S8.nup y.1 al).1 = p := by
      rcases Nat.lt_or_ge (S8.nup y.1 al).1 p with h | h
      · exfalso
        refine hleast _ h u3 (fun i hi => ⟨by omega, ?_⟩)
        exact Sp.has_iff.2 ⟨y, by simp, by omega, by omega⟩
      · omega
    rw [← hpe]
    refine S8.fitS_some (pre := pre) (x := y) h0 ⟨r, by simp⟩ (fun z hz => ?_) (hyes hpd hy1 hy2 hyo.2)
    cases hf : S8.fit1 sz al z with
    | false => rfl
    | true =>
      unfold S8.fit1 at hf
      simp only [Bool.and_eq_true, decide_eq_true_eq] at hf
      obtain ⟨⟨f1, f2⟩, f3⟩ := hf
      obtain ⟨n1, n2, n3⟩ := nup_true f1
      have hzo := hn.ok z (by simp [hz])
      have hzy := (nrm_mid (z := z) hn).2 hz
      exfalso
      refine hleast (S8.nup z.1 al).1 (by omega) n2 (fun i hi => ⟨by omega, ?_⟩)
      exact Sp.has_iff.2 ⟨z, by simp [hz], by omega, by omega⟩
/-- the longest span: none is longer, and it is the first of its length -/
theorem larg_first (l : Sp.S) : ∀ k, k ≤ l.length → (∀ x ∈ l.take k, x.2 - x.1 ≤ (S8.larg (l.take k)).2 - (S8.larg (l.take k)).1) ∧
    ∀ j x, j < k → l[j]? = some x → x.2 - x.1 = (S8.larg (l.take k)).2 - (S8.larg (l.take k)).1 → ∃ i, i ≤ j ∧ l[i]? = some (S8.larg (l.take k)) := by
  intro k
  induction k with
  | zero => intro _; exact ⟨by simp, fun j x hj => by omega⟩
  | succ k ih =>
    intro hk
    obtain ⟨h1, h2⟩ := ih (by omega)
    obtain ⟨y, hy⟩ : ∃ y, l[k]? = some y := ⟨_, List.getElem?_eq_getElem (by omega)⟩
    have htk : l.take (k + 1) = l.take k ++ [y] := by rw [List.take_add_one, hy]; rfl
    rw [htk, S8.larg_snoc]
    have hmem : ∀ {x : Nat × Nat} {j : Nat}, j < k → l[j]? = some x → x ∈ l.take k := fun {x j} hj hx => by
      refine List.mem_of_getElem? (i := j) ?_
      rw [List.getElem?_take, if_pos hj]; exact hx
    by_cases he : l.take k = []
    · rw [if_pos he, he]
      have hk0 : k = 0 := by
        have := congrArg List.length he
        rw [List.length_take, List.length_nil] at this
        omega
      refine ⟨fun x hx => by rw [List.mem_singleton.1 (by simpa using hx : x ∈ [y])]; exact Nat.le_refl _, fun j x hj hx _ => ⟨j, Nat.le_refl _, ?_⟩⟩
      rw [show j = k by omega]; exact hy
    · rw [if_neg he]
      by_cases hlt : (S8.larg (l.take k)).2 - (S8.larg (l.take k)).1 < y.2 - y.1
      · rw [if_pos hlt]
        refine ⟨fun x hx => ?_, fun j x hj hx hxe => ?_⟩
        · rcases List.mem_append.1 hx with hx | hx
          · have := h1 x hx; omega
          · rw [List.mem_singleton.1 hx]; exact Nat.le_refl _
        · by_cases e : j = k
          · exact ⟨k, by omega, hy⟩
          · have := h1 x (hmem (by omega) hx); omega
      · rw [if_neg hlt]
        refine ⟨fun x hx => ?_, fun j x hj hx hxe => ?_⟩
        · rcases List.mem_append.1 hx with hx | hx
          · exact h1 x hx
          · rw [List.mem_singleton.1 hx]; omega
        · by_cases e : j = k
          · obtain ⟨i, hi⟩ := List.getElem?_of_mem (S8.larg_mem he)
            rw [List.getElem?_take] at hi
            split at hi
            · exact ⟨i, by omega, hi⟩
            · cases hi
          · exact h2 j x (by omega) hx hxe
end Go.Proofs.Ytchajbegjajlkaa
