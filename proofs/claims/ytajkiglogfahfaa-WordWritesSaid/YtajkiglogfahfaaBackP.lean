/- Plain law: what a row of steps has laid, the same row of steps takes back. No program in sight. -/
import Derived.Test.YtajkiglogfahfaaOps
set_option linter.unusedVariables false
set_option linter.unusedSimpArgs false
namespace Go.Proofs.Ytajkiglogfahfaa.Wd
def runW (s : W) (ops : List Op) : W := ops.foldl W.op s
theorem runW_snoc (s : W) (ops : List Op) (o : Op) : runW s (ops ++ [o]) = (runW s ops).op o := by simp [runW]
theorem lay_length (s : W) (x : List Nat) : (s.lay x).b.length ≤ s.b.length + x.length := by unfold W.lay; split <;> simp
theorem op_length (s : W) (o : Op) : (s.op o).b.length ≤ s.b.length + 4097 + o.p.length + o.s.length := by
  unfold W.op
  repeat' split
  all_goals first
    | (have := lay_length s (le 1 (o.n % 256)); rw [le_len] at this; omega)
    | (have := lay_length s (le 2 (o.n % 65536)); rw [le_len] at this; omega)
    | (have := lay_length s (le 4 (o.n % 4294967296)); rw [le_len] at this; omega)
    | (have := lay_length s (le 8 o.n); rw [le_len] at this; omega)
    | (have := lay_length s o.p; omega)
    | (unfold W.text; repeat' split
       all_goals first
         | (simp only [List.length_append, le_len]; omega)
         | (simp only; omega)
         | omega)
    | (unfold W.pad; repeat' split
       all_goals first
         | (rename_i h1 h2; simp only [List.length_append, List.length_replicate]; have := gap_lt s.b.length o.num.toNat (by omega); omega)
         | (simp only; omega)
         | omega)
    | (unfold W.sealUp; repeat' split
       all_goals first
         | (simp only [List.length_append, le_len]; omega)
         | (simp only; omega)
         | omega)
    | omega
theorem op_refused (b : List Nat) (o : Op) (h : (W.op ⟨b, 0⟩ o).e ≠ 0) : ∃ e, W.op ⟨b, 0⟩ o = ⟨b, e⟩ ∧ e ≠ 0 := by
  refine ⟨_, ?_, h⟩
  unfold W.op at h ⊢
  by_cases k1 : o.kind = 1
  · simp only [k1, if_true] at h; rw [lay_ok] at h; exact absurd rfl h
  by_cases k2 : o.kind = 2
  · simp only [k2, kd, if_true, if_false] at h; rw [lay_ok] at h; exact absurd rfl h
  by_cases k3 : o.kind = 3
  · simp only [k3, kd, if_true, if_false] at h; rw [lay_ok] at h; exact absurd rfl h
  by_cases k4 : o.kind = 4
  · simp only [k4, kd, if_true, if_false] at h; rw [lay_ok] at h; exact absurd rfl h
  by_cases k5 : o.kind = 5
  · simp only [k5, kd, if_true, if_false] at h; rw [lay_ok] at h; exact absurd rfl h
  by_cases k6 : o.kind = 6
  · simp only [k6, kd, if_true, if_false] at h ⊢
    unfold W.text at h ⊢
    simp only [if_true] at h ⊢
    split
    · rename_i hl; rw [if_pos hl] at h; exact absurd rfl h
    · rfl
  by_cases k7 : o.kind = 7
  · simp only [k7, kd, if_true, if_false] at h ⊢
    unfold W.pad at h ⊢
    simp only [if_true] at h ⊢
    split
    · rename_i hl; rw [if_pos hl] at h; exact absurd rfl h
    · rfl
  by_cases k8 : o.kind = 8
  · simp only [k8, kd, if_true, if_false] at h ⊢
    unfold W.sealUp at h ⊢
    simp only [if_true] at h ⊢
    split
    · rename_i hl; rw [if_pos hl] at h; exact absurd rfl h
    · rfl
  · simp only [k1, k2, k3, k4, k5, k6, k7, k8, if_false] at h
    exact absurd rfl h
theorem runW_e (ops : List Op) (s : W) (h : s.e ≠ 0) : (runW s ops).e ≠ 0 := by
  induction ops generalizing s with
  | nil => exact h
  | cons o r ih => exact ih _ (by rw [op_no s o h]; exact h)
/-- what every beginning of a row has laid -/
theorem run_begin (L : List Op) (b : List Nat) (hok : ∀ o ∈ L, o.ok) (h : runW ⟨[], 0⟩ L = ⟨b, 0⟩) (i : Nat) (hi : i ≤ L.length) : ∃ c, runW ⟨[], 0⟩ (L.take i) = ⟨c, 0⟩ ∧ b.take c.length = c ∧ (∀ x ∈ c, x < 256) := by
  have main : ∀ (n : Nat) (L : List Op) (b : List Nat), L.length = n → (∀ o ∈ L, o.ok) → runW ⟨[], 0⟩ L = ⟨b, 0⟩ → (∀ x ∈ b, x < 256) ∧ ∀ i, i ≤ L.length → ∃ c, runW ⟨[], 0⟩ (L.take i) = ⟨c, 0⟩ ∧ b.take c.length = c ∧ (∀ x ∈ c, x < 256) := by
    intro n
    induction n with
    | zero =>
      intro L b hl hok h
      obtain rfl := List.eq_nil_of_length_eq_zero hl
      have hb : b = [] := by simp [runW] at h; exact h
      subst hb
      exact ⟨by simp, fun i hi => ⟨[], by simp [runW], by simp, by simp⟩⟩
    | succ n ih =>
      intro L b hl hok h
      have hne : L ≠ [] := by intro h0; subst h0; simp at hl
      obtain ⟨L', o, rfl⟩ : ∃ L' o, L = L' ++ [o] := ⟨L.dropLast, L.getLast hne, (List.dropLast_concat_getLast hne).symm⟩
      rw [runW_snoc] at h
      have he : (runW ⟨[], 0⟩ L').e = 0 := by
        rcases Nat.eq_zero_or_pos (runW ⟨[], 0⟩ L').e with h0 | h0
        · exact h0
        · have h1 : (runW ⟨[], 0⟩ L').e ≠ 0 := by omega
          rw [op_no _ o h1] at h
          rw [h] at h1
          exact absurd rfl h1
      obtain ⟨c, hc⟩ : ∃ c, runW ⟨[], 0⟩ L' = ⟨c, 0⟩ := by
        obtain ⟨s, hs⟩ : ∃ s, s = runW ⟨[], 0⟩ L' := ⟨_, rfl⟩
        rw [← hs] at he ⊢
        obtain ⟨sb, se⟩ := s
        simp only at he
        subst he
        exact ⟨sb, rfl⟩
      obtain ⟨hcb, hpre⟩ := ih L' c (by simpa using hl) (fun o ho => hok o (by simp [ho])) hc
      rw [hc] at h
      obtain ⟨x, hx, hxb, _⟩ := op_lays c o hcb (hok o (by simp)) (by rw [h])
      rw [h] at hx
      obtain rfl : b = c ++ x := by injection hx
      have hall : ∀ y ∈ c ++ x, y < 256 := by
        intro y hy
        rcases List.mem_append.1 hy with h | h
        · exact hcb y h
        · exact hxb y h
      refine ⟨hall, fun i hi => ?_⟩
      by_cases hil : i ≤ L'.length
      · rw [List.take_append_of_le_length hil]
        obtain ⟨d, h1, h2, h3⟩ := hpre i hil
        refine ⟨d, h1, ?_, h3⟩
        have hdl : d.length ≤ c.length := by rw [← h2]; simp; omega
        rw [List.take_append_of_le_length hdl, h2]
      · have : i = L'.length + 1 := by simp at hi; omega
        subst this
        rw [List.take_of_length_le (by simp), runW_snoc, hc, h]
        exact ⟨_, rfl, List.take_of_length_le (Nat.le_refl _), hall⟩
  exact (main L.length L b rfl hok h).2 i hi
/-- one step taken back -/
theorem back_step (L : List Op) (b : List Nat) (hok : ∀ o ∈ L, o.ok) (h : runW ⟨[], 0⟩ L = ⟨b, 0⟩) (i : Nat) (o : Op) (ho : L[i]? = some o) (c : List Nat) (hc : runW ⟨[], 0⟩ (L.take i) = ⟨c, 0⟩) :
    ∃ c' o', runW ⟨[], 0⟩ (L.take (i + 1)) = ⟨c', 0⟩ ∧ R.op ⟨b, c.length, 0⟩ o = (⟨b, c'.length, 0⟩, o') ∧ alike o o' = true ∧ c'.length ≤ b.length := by
  have hil := (List.getElem?_eq_some_iff.1 ho).1
  obtain ⟨c0, h1, h2, h3⟩ := run_begin L b hok h i (by omega)
  rw [hc] at h1
  obtain rfl : c = c0 := by injection h1
  obtain ⟨c', g1, g2, g3⟩ := run_begin L b hok h (i + 1) (by omega)
  have e : L.take (i + 1) = L.take i ++ [o] := by
    rw [List.take_succ_eq_append_getElem hil, (List.getElem?_eq_some_iff.1 ho).2]
  have g := g1
  rw [e, runW_snoc, hc] at g
  obtain ⟨x, hx, hxb, hback, _⟩ := op_lays c o h3 (hok o (List.mem_of_getElem? ho)) (by rw [g])
  rw [g] at hx
  obtain rfl : c' = c ++ x := by injection hx
  rw [List.length_append] at g2
  obtain ⟨o', q1, q2⟩ := hback b g2
  refine ⟨c ++ x, o', g1, by rw [q1, List.length_append], q2, ?_⟩
  rw [List.length_append]
  have := congrArg List.length g2
  rw [List.length_take, List.length_append] at this
  omega
/-- one step that does not lie whole in a beginning -/
theorem cut_step (L : List Op) (b : List Nat) (hok : ∀ o ∈ L, o.ok) (h : runW ⟨[], 0⟩ L = ⟨b, 0⟩) (i : Nat) (o : Op) (ho : L[i]? = some o) (c c' : List Nat) (hc : runW ⟨[], 0⟩ (L.take i) = ⟨c, 0⟩) (hc' : runW ⟨[], 0⟩ (L.take (i + 1)) = ⟨c', 0⟩) (n : Nat) (hn : n ≤ b.length) (h1 : c.length ≤ n) (h2 : n < c'.length) :
    (R.op ⟨b.take n, c.length, 0⟩ o).1 = ⟨b.take n, c.length, 10⟩ := by
  have hil := (List.getElem?_eq_some_iff.1 ho).1
  obtain ⟨c0, k1, k2, k3⟩ := run_begin L b hok h i (by omega)
  rw [hc] at k1
  obtain rfl : c = c0 := by injection k1
  obtain ⟨c1, g1, g2, g3⟩ := run_begin L b hok h (i + 1) (by omega)
  rw [hc'] at g1
  obtain rfl : c' = c1 := by injection g1
  have e : L.take (i + 1) = L.take i ++ [o] := by
    rw [List.take_succ_eq_append_getElem hil, (List.getElem?_eq_some_iff.1 ho).2]
  have g := hc'
  rw [e, runW_snoc, hc] at g
  obtain ⟨x, hx, hxb, _, hcut⟩ := op_lays c o k3 (hok o (List.mem_of_getElem? ho)) (by rw [g])
  rw [g] at hx
  obtain rfl : c' = c ++ x := by injection hx
  have hl : (b.take n).length = n := by simp; omega
  refine hcut (b.take n) (by omega) ?_ (by rw [hl]; simpa using h2)
  rw [hl]
  rw [← g2, List.take_take, Nat.min_eq_left (by omega)]
/-- one step that lies whole in a beginning -/
theorem cut_whole (L : List Op) (b : List Nat) (hok : ∀ o ∈ L, o.ok) (h : runW ⟨[], 0⟩ L = ⟨b, 0⟩) (i : Nat) (o : Op) (ho : L[i]? = some o) (c c' : List Nat) (hc : runW ⟨[], 0⟩ (L.take i) = ⟨c, 0⟩) (hc' : runW ⟨[], 0⟩ (L.take (i + 1)) = ⟨c', 0⟩) (n : Nat) (hn : n ≤ b.length) (h2 : c'.length ≤ n) :
    ∃ o', R.op ⟨b.take n, c.length, 0⟩ o = (⟨b.take n, c'.length, 0⟩, o') ∧ alike o o' = true := by
  have hil := (List.getElem?_eq_some_iff.1 ho).1
  obtain ⟨c0, k1, k2, k3⟩ := run_begin L b hok h i (by omega)
  rw [hc] at k1
  obtain rfl : c = c0 := by injection k1
  obtain ⟨c1, g1, g2, g3⟩ := run_begin L b hok h (i + 1) (by omega)
  rw [hc'] at g1
  obtain rfl : c' = c1 := by injection g1
  have e : L.take (i + 1) = L.take i ++ [o] := by
    rw [List.take_succ_eq_append_getElem hil, (List.getElem?_eq_some_iff.1 ho).2]
  have g := hc'
  rw [e, runW_snoc, hc] at g
  obtain ⟨x, hx, hxb, hback, _⟩ := op_lays c o k3 (hok o (List.mem_of_getElem? ho)) (by rw [g])
  rw [g] at hx
  obtain rfl : c' = c ++ x := by injection hx
  rw [List.length_append] at g2 h2 ⊢
  exact hback (b.take n) (by rw [List.take_take, Nat.min_eq_left h2]; exact g2)
end Go.Proofs.Ytajkiglogfahfaa.Wd
