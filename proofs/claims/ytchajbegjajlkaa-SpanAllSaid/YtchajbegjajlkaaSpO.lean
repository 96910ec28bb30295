/- The plain law of sets made of any spans: sorted, then joined. -/
import Derived.Test.YtchajbegjajlkaaSpM
set_option linter.unusedVariables false
set_option linter.unusedSimpArgs false
namespace Go.Proofs.Ytchajbegjajlkaa
namespace Sp
def join1 (out : S) (x : Nat × Nat) : S := match out.getLast? with
  | none => [x]
  | some y => if x.1 ≤ y.2 ∨ x.1 = y.2 + 1 then out.dropLast ++ [(y.1, max y.2 x.2)] else out ++ [x]
theorem join1_nil (x : Nat × Nat) : join1 [] x = [x] := rfl
theorem join1_snoc (a : S) (y x : Nat × Nat) : join1 (a ++ [y]) x = if x.1 ≤ y.2 ∨ x.1 = y.2 + 1 then a ++ [(y.1, max y.2 x.2)] else a ++ [y] ++ [x] := by
  unfold join1
  rw [List.getLast?_concat, List.dropLast_concat]
theorem join1_ok {M : Nat} {out : S} (h : Nrm M out) {x : Nat × Nat} (hx : x.1 ≤ x.2) (hM : x.2 ≤ M) (hb : ∀ y ∈ out, y.1 ≤ x.1) : Nrm M (join1 out x) ∧ (∀ y ∈ join1 out x, y.1 ≤ x.1) ∧ ∀ q, has (join1 out x) q = (has out q || decide (x.1 ≤ q ∧ q ≤ x.2)) := by
  rcases snoc_or out with rfl | ⟨a, y, rfl⟩
  · rw [join1_nil]
    obtain ⟨xa, xb⟩ := x
    exact ⟨Nrm.one hx hM, by simp, fun q => by simp [has]⟩
  · rw [join1_snoc]
    have hy := hb y (by simp)
    have hyo := h.ok y (by simp)
    have hap := List.pairwise_append.1 h.up
    have hay : ∀ z ∈ a, z.2 + 1 < y.1 := fun z hz => hap.2.2 z hz y (by simp)
    by_cases he : x.1 ≤ y.2 ∨ x.1 = y.2 + 1
    · rw [if_pos he]
      refine ⟨⟨fun z hz => ?_, List.pairwise_append.2 ⟨hap.1, by simp, fun z hz u hu => ?_⟩⟩, fun z hz => ?_, fun q => ?_⟩
      · rcases List.mem_append.1 hz with hz | hz
        · exact h.ok z (by simp [hz])
        · obtain rfl := List.mem_singleton.1 hz
          exact ⟨by simp only; omega, by simp only; omega⟩
      · obtain rfl := List.mem_singleton.1 hu; exact hay z hz
      · rcases List.mem_append.1 hz with hz | hz
        · exact hb z (by simp [hz])
        · obtain rfl := List.mem_singleton.1 hz; exact hy
      · rw [has_app, has_app, Bool.or_assoc]
        congr 1
        simp only [has, List.any_cons, List.any_nil, Bool.or_false]
        rw [← Bool.decide_or]
        congr 1
        apply propext
        omega
    · rw [if_neg he]
      refine ⟨⟨fun z hz => ?_, List.pairwise_append.2 ⟨h.up, by simp, fun z hz u hu => ?_⟩⟩, fun z hz => ?_, fun q => ?_⟩
      · rcases List.mem_append.1 hz with hz | hz
        · exact h.ok z hz
        · obtain rfl := List.mem_singleton.1 hz; exact ⟨hx, hM⟩
      · obtain rfl := List.mem_singleton.1 hu
        rcases List.mem_append.1 hz with hz | hz
        · have := hay z hz; omega
        · obtain rfl := List.mem_singleton.1 hz; omega
      · rcases List.mem_append.1 hz with hz | hz
        · exact hb z hz
        · obtain rfl := List.mem_singleton.1 hz; exact Nat.le_refl _
      · rw [has_app]
        simp only [has, List.any_cons, List.any_nil, Bool.or_false]
theorem joins_ok {M : Nat} : ∀ (l out : S), Nrm M out → (∀ x ∈ l, x.1 ≤ x.2 ∧ x.2 ≤ M) → l.Pairwise (fun a b => a.1 ≤ b.1) → (∀ y ∈ out, ∀ x ∈ l, y.1 ≤ x.1) → Nrm M (l.foldl join1 out) ∧ ∀ q, has (l.foldl join1 out) q = (has out q || has l q)
  | [], out, h, _, _, _ => ⟨h, fun q => by simp [has]⟩
  | x :: l, out, h, hl, hp, hb => by
    obtain ⟨p1, p2⟩ := List.pairwise_cons.1 hp
    obtain ⟨a1, a2, a3⟩ := join1_ok h (hl x (by simp)).1 (hl x (by simp)).2 (fun y hy => hb y hy x (by simp))
    obtain ⟨b1, b2⟩ := joins_ok l (join1 out x) a1 (fun y hy => hl y (by simp [hy])) p2 (fun y hy z hz => Nat.le_trans (a2 y hy) (p1 z hz))
    refine ⟨b1, fun q => ?_⟩
    rw [List.foldl_cons, b2, a3, has_cons, Bool.or_assoc]
/-- the spans that are not empty -/
def some_ (l : S) : S := l.filter fun x => decide (x.1 ≤ x.2)
theorem has_some (l : S) (q : Nat) : has (some_ l) q = has l q := by
  unfold has some_
  induction l with
  | nil => rfl
  | cons x l ih =>
    rw [List.filter_cons]
    by_cases hx : x.1 ≤ x.2
    · rw [if_pos (by simpa using hx), List.any_cons, List.any_cons, ih]
    · rw [if_neg (by simpa using hx), List.any_cons, ih, decide_eq_false (by omega)]
      rfl
theorem has_perm {a b : S} (h : a.Perm b) (q : Nat) : has a q = has b q := by
  have : has a q = true ↔ has b q = true := by
    rw [has_iff, has_iff]
    constructor
    · rintro ⟨x, hx, h1⟩; exact ⟨x, h.mem_iff.1 hx, h1⟩
    · rintro ⟨x, hx, h1⟩; exact ⟨x, h.mem_iff.2 hx, h1⟩
  cases ha : has a q <;> cases hb : has b q <;> simp_all
/-- a set of spans: the spans that have their points -/
structure Of (M : Nat) (l out : S) : Prop where
  nrm : Nrm M out
  pts : ∀ q, q ≤ M → has out q = has l q
theorem Of.uniq {M : Nat} {l a b : S} (h : Of M l a) (k : Of M l b) : a = b := ext h.nrm k.nrm fun p hp => by rw [h.pts p hp, k.pts p hp]
theorem of_sorted {M : Nat} {l s : S} (hp : s.Perm (some_ l)) (hs : s.Pairwise fun a b => a.1 ≤ b.1) (hl : ∀ x ∈ l, x.2 ≤ M) : Of M l (s.foldl join1 []) := by
  obtain ⟨h1, h2⟩ := joins_ok s [] (Nrm.nil M) (fun x hx => by
    have := hp.mem_iff.1 hx
    unfold some_ at this
    rw [List.mem_filter] at this
    exact ⟨by simpa using this.2, hl x this.1⟩) hs (by simp)
  exact ⟨h1, fun q _ => by rw [h2, has_nil, Bool.false_or, has_perm hp, has_some]⟩
theorem of_one {M a b : Nat} (h : a ≤ b) (hb : b ≤ M) : Of M [(a, b)] [(a, b)] := ⟨Nrm.one h hb, fun _ _ => rfl⟩
theorem of_none {M a b : Nat} (h : b < a) : Of M [(a, b)] [] := ⟨Nrm.nil M, fun q _ => by
  rw [has_nil, has_cons, decide_eq_false (by omega)]; rfl⟩
end Sp
end Go.Proofs.Ytchajbegjajlkaa
