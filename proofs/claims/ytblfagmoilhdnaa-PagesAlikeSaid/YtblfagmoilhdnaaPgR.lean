/- Plain law: the tables lie in pre-order. -/
import Derived.Test.YtblfagmoilhdnaaPgG
import Derived.Test.YtblfagmoilhdnaaPgQ
set_option linter.unusedVariables false
set_option linter.unusedSimpArgs false
namespace Go.Proofs.Ytblfagmoilhdnaa
namespace Pg
theorem ans_known {rows : List Lf} {base : Nat} (h : (ans rows base).2 = 0) : right 0 rows = 0 ∧ Chain (pagesOf rows) ∧ ∃ s, runP base init (pagesOf rows) = some s ∧ Known base (pagesOf rows) s ∧ (ans rows base).1 = s.all := by
  unfold ans at h ⊢
  by_cases h0 : right 0 rows = 0
  · rw [if_neg (by simp [h0])] at h
    rw [if_neg (by simp [h0])]
    cases hr : runP base init (pagesOf rows) with
    | none => rw [hr] at h; cases h
    | some s =>
      have hc := (right_pages rows 0 h0).1
      exact ⟨h0, hc, s, rfl, by simpa using runP_known (pagesOf rows) [] init s (known_init base) (by simpa using hc) hr, rfl⟩
  · rw [if_pos h0] at h
    exact absurd h h0
/-- the place of a table in pre-order -/
def key (t : Lab) : Nat := if t.1 = 0 then 0 else if t.1 = 1 then 2048 * t.2 + 1 else 2048 * (t.2 / 512) + 2 + t.2 % 512
theorem key0 : key (0, 0) = 0 := rfl
theorem key1 (j : Nat) : key (1, j) = 2048 * j + 1 := rfl
theorem key2 (m : Nat) : key (2, m) = 2048 * (m / 512) + 2 + m % 512 := rfl
def Sorted (L : List Lab) : Prop := L.Pairwise (fun a b => key a < key b)
theorem sorted_ens {L : List Lab} {t : Lab} (h : Sorted L) (ht : t ∉ L → ∀ s ∈ L, key s < key t) : Sorted (ens L t) := by
  unfold ens
  split
  · exact h
  · rename_i hn
    unfold Sorted
    rw [List.pairwise_append]
    refine ⟨h, by simp, fun a ha b hb => ?_⟩
    simp at hb
    subst hb
    exact ht hn a ha
theorem sorted_tabs {qs : List Pge} (hc : Chain qs) : Sorted (tabs qs) := by
  have aux : ∀ (n : Nat) (qs : List Pge), qs.length = n → Chain qs → Sorted (tabs qs) := by
    intro n
    induction n with
    | zero =>
      intro qs hl _
      obtain rfl := List.length_eq_zero_iff.1 hl
      simp [tabs, Sorted]
    | succ n ih =>
      intro qs hl hc
      obtain ⟨ys, q, rfl⟩ : ∃ ys q, qs = ys ++ [q] := by
        have hne : qs ≠ [] := by intro h; rw [h] at hl; cases hl
        exact ⟨qs.dropLast, qs.getLast hne, (List.dropLast_concat_getLast hne).symm⟩
      obtain ⟨hcy, hq, hlt⟩ := chain_snoc hc
      have hs := ih ys (by simpa using hl) hcy
      rw [tabs_snoc]
      have h1 : Sorted (ens (tabs ys) (1, q.v / 1073741824)) := by
        refine sorted_ens hs fun hn s hs => ?_
        rcases mem_tabs.1 hs with rfl | ⟨y, hy, rfl | ⟨hb, rfl⟩⟩
        · rw [key0, key1]; omega
        · have := hlt y hy
          have h2 : y.v / 1073741824 ≠ q.v / 1073741824 := fun e => hn (mem_tabs.2 (.inr ⟨y, hy, .inl (by rw [e])⟩))
          rw [key1, key1]; omega
        · have := hlt y hy
          have h2 : y.v / 1073741824 ≠ q.v / 1073741824 := fun e => hn (mem_tabs.2 (.inr ⟨y, hy, .inl (by rw [e])⟩))
          rw [key1, key2]; omega
      unfold tab1
      split
      · exact h1
      · refine sorted_ens h1 fun hn s hs => ?_
        rcases mem_ens.1 hs with hs | rfl
        · rcases mem_tabs.1 hs with rfl | ⟨y, hy, rfl | ⟨hb, rfl⟩⟩
          · rw [key0, key2]; omega
          · have := hlt y hy
            rw [key1, key2]; omega
          · have := hlt y hy
            have h2 : y.v / 2097152 ≠ q.v / 2097152 := fun e => hn (mem_ens.2 (.inl (mem_tabs.2 (.inr ⟨y, hy, .inr ⟨hb, by rw [e]⟩⟩))))
            rw [key2, key2]; omega
        · rw [key1, key2]; omega
  exact aux _ qs rfl hc
/-- so many tables lie ahead of a place -/
def ahead (L : List Lab) (k : Nat) : Nat := L.countP (fun t => decide (key t < k))
theorem ahead_idx : ∀ {L : List Lab} {t : Lab}, Sorted L → t ∈ L → L.idxOf t = ahead L (key t)
  | [], t, _, h => by cases h
  | s :: L, t, hs, h => by
    have hp := List.pairwise_cons.1 hs
    by_cases hst : s = t
    · subst hst
      rw [List.idxOf_cons_self]
      unfold ahead
      rw [List.countP_cons_of_neg (by simp), eq_comm, List.countP_eq_zero]
      intro x hx
      have := hp.1 x hx
      simp; omega
    · have hm : t ∈ L := by
        rcases List.mem_cons.1 h with h | h
        · exact absurd h.symm hst
        · exact h
      rw [List.idxOf_cons, show (s == t) = false by simpa using hst, cond_false, ahead_idx hp.2 hm]
      unfold ahead
      rw [List.countP_cons_of_pos (by simpa using hp.1 t hm)]
theorem ahead_split (L : List Lab) (k : Nat) : ahead L (k + 1) = ahead L k + L.countP (fun t => decide (key t = k)) := by
  unfold ahead
  induction L with
  | nil => rfl
  | cons s L ih =>
    rw [List.countP_cons, List.countP_cons, List.countP_cons, ih]
    by_cases h1 : key s < k
    · rw [if_pos (by simp; omega), if_pos (by simpa using h1), if_neg (by simp; omega)]; omega
    · by_cases h2 : key s = k
      · rw [if_pos (by simp; omega), if_neg (by simpa using h1), if_pos (by simpa using h2)]; omega
      · rw [if_neg (by simp; omega), if_neg (by simpa using h1), if_neg (by simpa using h2)]; omega
theorem ahead_same {L : List Lab} {k k' : Nat} (hk : k ≤ k') (h : ∀ t ∈ L, ¬ (k ≤ key t ∧ key t < k')) : ahead L k' = ahead L k := by
  unfold ahead
  refine List.countP_congr fun t ht => ?_
  have := h t ht
  simp only [decide_eq_true_iff]
  omega
theorem ahead_one {L : List Lab} {t : Lab} (hs : Sorted L) (ht : t ∈ L) : ahead L (key t + 1) = ahead L (key t) + 1 := by
  rw [ahead_split]
  congr 1
  have aux : ∀ {L : List Lab}, Sorted L → t ∈ L → L.countP (fun s => decide (key s = key t)) = 1 := by
    intro L
    induction L with
    | nil => intro _ h; cases h
    | cons s L ih =>
      intro hs h
      have hp := List.pairwise_cons.1 hs
      by_cases hst : s = t
      · subst hst
        rw [List.countP_cons_of_pos (by simp), List.countP_eq_zero.2]
        intro x hx
        have := hp.1 x hx
        simp; omega
      · have hm : t ∈ L := by
          rcases List.mem_cons.1 h with h | h
          · exact absurd h.symm hst
          · exact h
        rw [List.countP_cons_of_neg (by have := hp.1 t hm; simp; omega), ih hp.2 hm]
  exact aux hs ht
theorem ahead_all {L : List Lab} {k : Nat} (h : ∀ t ∈ L, key t < k) : ahead L k = L.length := by
  unfold ahead
  rw [List.countP_eq_length]
  intro t ht
  simpa using h t ht
/-- a low table lies under a middle one -/
theorem low_mid {qs : List Pge} {m : Nat} (h : (2, m) ∈ tabs qs) : (1, m / 512) ∈ tabs qs := by
  rcases mem_tabs.1 h with h1 | ⟨y, hy, h1 | ⟨hb, h1⟩⟩
  · injection h1 with h1 _; cases h1
  · injection h1 with h1 _; cases h1
  · injection h1 with _ h1
    refine mem_tabs.2 (.inr ⟨y, hy, .inl ?_⟩)
    rw [h1, show y.v / 2097152 / 512 = y.v / 1073741824 by omega]
theorem tabs_small {qs : List Pge} (hc : Chain qs) {t : Lab} (h : t ∈ tabs qs) : t = (0, 0) ∨ (t.1 = 1 ∧ t.2 < 512) ∨ (t.1 = 2 ∧ t.2 < 262144) := by
  rcases mem_tabs.1 h with h1 | ⟨y, hy, rfl | ⟨hb, rfl⟩⟩
  · exact .inl h1
  · have := (hc.2 y hy).lt.1
    exact .inr (.inl ⟨rfl, by show y.v / 1073741824 < 512; omega⟩)
  · have := (hc.2 y hy).lt.1
    exact .inr (.inr ⟨rfl, by show y.v / 2097152 < 262144; omega⟩)
/-- what the walk over the root finds -/
theorem ahead_root {qs : List Pge} : ahead (tabs qs) 1 = 1 := by
  have hg := good_tabs qs
  cases hL : tabs qs with
  | nil => have := hg.root; rw [hL] at this; cases this
  | cons s L =>
    rw [hL] at hg
    have h0 : s = (0, 0) := by have := hg.root; simpa using this
    unfold ahead
    rw [List.countP_cons_of_pos (by rw [h0]; decide), List.countP_eq_zero.2]
    intro t ht
    simp only [decide_eq_true_iff]
    intro hk
    have hz : t.1 = 0 := by
      unfold key at hk
      split at hk
      · assumption
      · split at hk <;> omega
    have := hg.lev t (by simp [ht]) hz
    subst this
    subst h0
    have := List.nodup_cons.1 hg.nd
    exact this.1 ht
theorem ahead_mid_no {qs : List Pge} (hc : Chain qs) {j : Nat} (h : (1, j) ∉ tabs qs) : ahead (tabs qs) (2048 * (j + 1) + 1) = ahead (tabs qs) (2048 * j + 1) := by
  refine ahead_same (by omega) fun t ht => ?_
  rcases mem_tabs.1 ht with rfl | ⟨y, hy, rfl | ⟨hb, rfl⟩⟩
  · rw [key0]; omega
  · rw [key1]
    intro hk
    have : y.v / 1073741824 = j := by omega
    exact h (mem_tabs.2 (.inr ⟨y, hy, .inl (by rw [this])⟩))
  · rw [key2]
    intro hk
    have : y.v / 1073741824 = j := by omega
    exact h (mem_tabs.2 (.inr ⟨y, hy, .inl (by rw [this])⟩))
theorem ahead_low_no {qs : List Pge} (hc : Chain qs) {j k : Nat} (hk : k < 512) (h : (2, j * 512 + k) ∉ tabs qs) : ahead (tabs qs) (2048 * j + 2 + (k + 1)) = ahead (tabs qs) (2048 * j + 2 + k) := by
  refine ahead_same (by omega) fun t ht => ?_
  rcases mem_tabs.1 ht with rfl | ⟨y, hy, rfl | ⟨hb, rfl⟩⟩
  · rw [key0]; omega
  · rw [key1]; omega
  · rw [key2]
    intro hk2
    have : y.v / 2097152 = j * 512 + k := by omega
    exact h (by rw [← this]; exact ht)
theorem ahead_low_end {qs : List Pge} (hc : Chain qs) (j : Nat) : ahead (tabs qs) (2048 * (j + 1) + 1) = ahead (tabs qs) (2048 * j + 2 + 512) := by
  refine ahead_same (by omega) fun t ht => ?_
  rcases mem_tabs.1 ht with rfl | ⟨y, hy, rfl | ⟨hb, rfl⟩⟩
  · rw [key0]; omega
  · rw [key1]; omega
  · rw [key2]; omega
theorem ahead_low_yes {qs : List Pge} (hc : Chain qs) {j k : Nat} (hk : k < 512) (h : (2, j * 512 + k) ∈ tabs qs) : (tabs qs).idxOf (2, j * 512 + k) = ahead (tabs qs) (2048 * j + 2 + k) ∧ ahead (tabs qs) (2048 * j + 2 + (k + 1)) = ahead (tabs qs) (2048 * j + 2 + k) + 1 := by
  have hs := sorted_tabs hc
  have e : key (2, j * 512 + k) = 2048 * j + 2 + k := by rw [key2]; omega
  refine ⟨by rw [ahead_idx hs h, e], ?_⟩
  have := ahead_one hs h
  rw [e] at this
  exact this
theorem ahead_mid_yes {qs : List Pge} (hc : Chain qs) {j : Nat} (h : (1, j) ∈ tabs qs) : (tabs qs).idxOf (1, j) = ahead (tabs qs) (2048 * j + 1) ∧ ahead (tabs qs) (2048 * j + 2 + 0) = ahead (tabs qs) (2048 * j + 1) + 1 := by
  have hs := sorted_tabs hc
  exact ⟨ahead_idx hs h, ahead_one hs h⟩
theorem ahead_end {qs : List Pge} (hc : Chain qs) : ahead (tabs qs) (2048 * 512 + 1) = (tabs qs).length := by
  refine ahead_all fun t ht => ?_
  obtain ⟨t1, t2⟩ := t
  rcases tabs_small hc ht with h | ⟨h1, h2⟩ | ⟨h1, h2⟩
  · injection h with h1 h2; subst h1 h2; rw [key0]; omega
  · simp only at h1 h2; subst h1; rw [key1]; omega
  · simp only at h1 h2; subst h1; rw [key2]; omega
end Pg
end Go.Proofs.Ytblfagmoilhdnaa
