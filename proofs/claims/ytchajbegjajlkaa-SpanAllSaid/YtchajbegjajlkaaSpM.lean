/- The plain law of sets of numbers: rising spans that do not touch; the points; that the points tell the spans. -/
set_option linter.unusedVariables false
set_option linter.unusedSimpArgs false
namespace Go.Proofs.Ytchajbegjajlkaa
namespace Sp
abbrev S := List (Nat × Nat)
/-- is a point in one of the spans? -/
def has (s : S) (p : Nat) : Bool := s.any fun x => decide (x.1 ≤ p ∧ p ≤ x.2)
theorem has_iff {s : S} {p : Nat} : has s p = true ↔ ∃ x ∈ s, x.1 ≤ p ∧ p ≤ x.2 := by simp [has]
theorem has_nil (p : Nat) : has [] p = false := rfl
theorem has_cons (x : Nat × Nat) (s : S) (p : Nat) : has (x :: s) p = (decide (x.1 ≤ p ∧ p ≤ x.2) || has s p) := rfl
theorem has_app (a b : S) (p : Nat) : has (a ++ b) p = (has a p || has b p) := by simp [has]
/-- rising, not touching, none empty, all within the type -/
structure Nrm (M : Nat) (s : S) : Prop where
  ok : ∀ x ∈ s, x.1 ≤ x.2 ∧ x.2 ≤ M
  up : s.Pairwise fun a b => a.2 + 1 < b.1
theorem Nrm.nil (M : Nat) : Nrm M [] := ⟨by simp, by simp⟩
theorem Nrm.tail {M : Nat} {x : Nat × Nat} {s : S} (h : Nrm M (x :: s)) : Nrm M s := ⟨fun y hy => h.ok y (by simp [hy]), (List.pairwise_cons.1 h.up).2⟩
theorem Nrm.head {M : Nat} {x : Nat × Nat} {s : S} (h : Nrm M (x :: s)) : x.1 ≤ x.2 ∧ x.2 ≤ M ∧ ∀ y ∈ s, x.2 + 1 < y.1 := ⟨(h.ok x (by simp)).1, (h.ok x (by simp)).2, (List.pairwise_cons.1 h.up).1⟩
theorem Nrm.one {M a b : Nat} (h : a ≤ b) (hb : b ≤ M) : Nrm M [(a, b)] := ⟨by simp; omega, by simp⟩
/-- a point below all spans -/
theorem has_low {s : S} {p : Nat} (h : ∀ x ∈ s, p < x.1) : has s p = false := by
  rw [Bool.eq_false_iff]
  intro hc
  obtain ⟨x, hx, h1, _⟩ := has_iff.1 hc
  have := h x hx
  omega
theorem has_high {s : S} {p : Nat} (h : ∀ x ∈ s, x.2 < p) : has s p = false := by
  rw [Bool.eq_false_iff]
  intro hc
  obtain ⟨x, hx, _, h1⟩ := has_iff.1 hc
  have := h x hx
  omega
/-- the points tell the spans -/
theorem ext {M : Nat} : ∀ {s t : S}, Nrm M s → Nrm M t → (∀ p, p ≤ M → has s p = has t p) → s = t
  | [], [], _, _, _ => rfl
  | [], y :: t, _, ht, h => by
    have hy := ht.head
    have := h y.1 (by omega)
    rw [has_nil, has_cons, decide_eq_true ⟨Nat.le_refl _, hy.1⟩] at this
    simp at this
  | x :: s, [], hs, _, h => by
    have hx := hs.head
    have := h x.1 (by omega)
    rw [has_nil, has_cons, decide_eq_true ⟨Nat.le_refl _, hx.1⟩] at this
    simp at this
  | x :: s, y :: t, hs, ht, h => by
    obtain ⟨x1, x2, x3⟩ := hs.head
    obtain ⟨y1, y2, y3⟩ := ht.head
    have key : ∀ {a b : Nat × Nat} {u v : S}, (∀ z ∈ v, b.2 + 1 < z.1) → b.1 ≤ b.2 → has (b :: v) a.1 = true → b.1 ≤ a.1 := by
      intro a b u v hv hb hh
      rw [has_cons] at hh
      rcases Bool.or_eq_true_iff.1 hh with h1 | h1
      · exact (of_decide_eq_true h1).1
      · obtain ⟨z, hz, h2, _⟩ := has_iff.1 h1
        have := hv z hz
        omega
    have e1 : x.1 = y.1 := by
      have h1 : y.1 ≤ x.1 := key (a := x) (u := s) y3 y1 (by rw [← h x.1 (by omega), has_cons, decide_eq_true ⟨Nat.le_refl _, x1⟩]; rfl)
      have h2 : x.1 ≤ y.1 := key (a := y) (u := s) x3 x1 (by rw [h y.1 (by omega), has_cons, decide_eq_true ⟨Nat.le_refl _, y1⟩]; rfl)
      omega
    have no : ∀ {b : Nat × Nat} {v : S}, (∀ z ∈ v, b.2 + 1 < z.1) → has (b :: v) (b.2 + 1) = false := by
      intro b v hv
      rw [has_cons, has_low (s := v) hv, decide_eq_false (by omega)]
      rfl
    have yes : ∀ {b : Nat × Nat} {v : S} {p : Nat}, b.1 ≤ p → p ≤ b.2 → has (b :: v) p = true := by
      intro b v p h1 h2
      rw [has_cons, decide_eq_true ⟨h1, h2⟩]
      rfl
    have e2 : x.2 = y.2 := by
      rcases Nat.lt_trichotomy x.2 y.2 with hl | hl | hl
      · have := h (x.2 + 1) (by omega)
        rw [no x3, yes (by omega) (by omega)] at this
        cases this
      · exact hl
      · have := h (y.2 + 1) (by omega)
        rw [no y3, yes (by omega) (by omega)] at this
        cases this
    obtain ⟨xa, xb⟩ := x
    obtain ⟨ya, yb⟩ := y
    simp only at e1 e2 x1 x2 x3 y1 y2 y3
    subst e1 e2
    congr 1
    refine ext hs.tail ht.tail fun p hp => ?_
    by_cases hin : xa ≤ p ∧ p ≤ xb
    · rw [has_low (s := s) fun z hz => by have := x3 z hz; omega, has_low (s := t) fun z hz => by have := y3 z hz; omega]
    · have := h p hp
      rw [has_cons, has_cons, decide_eq_false hin] at this
      simpa using this
/-- what is left of a set behind a point: the spans that end at it or behind it -/
def from_ (s : S) (p : Nat) : S := s.dropWhile fun x => decide (x.2 < p)
theorem from_has {M : Nat} {s : S} (hs : Nrm M s) {p q : Nat} (h : p ≤ q) : has (from_ s p) q = has s q := by
  induction s with
  | nil => rfl
  | cons x s ih =>
    unfold from_ at ih ⊢
    rw [List.dropWhile_cons]
    by_cases hx : x.2 < p
    · rw [if_pos (by simpa using hx), ih hs.tail, has_cons, decide_eq_false (by omega)]
      rfl
    · rw [if_neg (by simpa using hx)]
theorem from_nrm {M : Nat} {s : S} (hs : Nrm M s) (p : Nat) : Nrm M (from_ s p) :=
  ⟨fun x hx => hs.ok x (List.IsSuffix.mem hx (List.dropWhile_suffix _)), hs.up.sublist (List.IsSuffix.sublist (List.dropWhile_suffix _))⟩
theorem from_head {s : S} {p : Nat} {x : Nat × Nat} {r : S} (h : from_ s p = x :: r) : p ≤ x.2 := by
  induction s with
  | nil => cases h
  | cons y s ih =>
    unfold from_ at ih h
    rw [List.dropWhile_cons] at h
    by_cases hy : y.2 < p
    · rw [if_pos (by simpa using hy)] at h; exact ih h
    · rw [if_neg (by simpa using hy)] at h
      injection h with h _
      rw [← h]
      omega
/-- what is known at a point: is it in, and up to where that is so -/
def look (M : Nat) (s : S) (p : Nat) : Bool × Nat := match from_ s p with
  | [] => (false, M)
  | x :: _ => if p < x.1 then (false, x.1 - 1) else (true, x.2)
theorem look_ok {M : Nat} {s : S} (hs : Nrm M s) {p : Nat} (hp : p ≤ M) : p ≤ (look M s p).2 ∧ (look M s p).2 ≤ M ∧ ∀ q, p ≤ q → q ≤ (look M s p).2 → has s q = (look M s p).1 := by
  unfold look
  cases hf : from_ s p with
  | nil =>
    refine ⟨hp, Nat.le_refl _, fun q h1 h2 => ?_⟩
    rw [← from_has hs h1, hf]; rfl
  | cons x r =>
    have hn := from_nrm hs p
    rw [hf] at hn
    have h1 := from_head hf
    obtain ⟨h2, h3, h4⟩ := hn.head
    simp only
    by_cases hx : p < x.1
    · rw [if_pos hx]
      refine ⟨by simp only; omega, by simp only; omega, fun q h5 h6 => ?_⟩
      simp only at h6 ⊢
      rw [← from_has hs h5, hf]
      exact has_low (fun y hy => by
        rcases List.mem_cons.1 hy with rfl | hy
        · omega
        · have := h4 y hy; omega)
    · rw [if_neg hx]
      refine ⟨h1, h3, fun q h5 h6 => ?_⟩
      simp only at h6 ⊢
      rw [← from_has hs h5, hf, has_cons, decide_eq_true ⟨by omega, h6⟩]
      rfl
/-- one more piece behind the others, joined if it touches -/
def push (out : S) (p last : Nat) : S := match out.getLast? with
  | none => [(p, last)]
  | some y => if y.2 + 1 = p then out.dropLast ++ [(y.1, last)] else out ++ [(p, last)]
theorem push_nil (p l : Nat) : push [] p l = [(p, l)] := rfl
theorem push_snoc (a : S) (y : Nat × Nat) (p l : Nat) : push (a ++ [y]) p l = if y.2 + 1 = p then a ++ [(y.1, l)] else a ++ [y] ++ [(p, l)] := by
  unfold push
  rw [List.getLast?_concat, List.dropLast_concat]
theorem snoc_or (out : S) : out = [] ∨ ∃ a y, out = a ++ [y] := by
  rcases List.eq_nil_or_concat out with h | ⟨a, y, h⟩
  · exact .inl h
  · exact .inr ⟨a, y, by rw [h, List.concat_eq_append]⟩
theorem push_ok {M : Nat} {out : S} (h : Nrm M out) {p l : Nat} (hb : ∀ x ∈ out, x.2 < p) (hp : p ≤ l) (hl : l ≤ M) : Nrm M (push out p l) ∧ (∀ x ∈ push out p l, x.2 ≤ l) ∧ ∀ q, has (push out p l) q = (has out q || decide (p ≤ q ∧ q ≤ l)) := by
  rcases snoc_or out with rfl | ⟨a, y, rfl⟩
  · rw [push_nil]
    exact ⟨Nrm.one hp hl, by simp, fun q => by simp [has]⟩
  · rw [push_snoc]
    have hy := hb y (by simp)
    have hyo := h.ok y (by simp)
    have hap := List.pairwise_append.1 h.up
    have hay : ∀ x ∈ a, x.2 + 1 < y.1 := fun x hx => hap.2.2 x hx y (by simp)
    by_cases he : y.2 + 1 = p
    · rw [if_pos he]
      refine ⟨⟨fun x hx => ?_, List.pairwise_append.2 ⟨hap.1, by simp, fun x hx z hz => ?_⟩⟩, fun x hx => ?_, fun q => ?_⟩
      · rcases List.mem_append.1 hx with hx | hx
        · exact h.ok x (by simp [hx])
        · obtain rfl := List.mem_singleton.1 hx; exact ⟨by simp only; omega, hl⟩
      · obtain rfl := List.mem_singleton.1 hz; exact hay x hx
      · rcases List.mem_append.1 hx with hx | hx
        · have := hb x (by simp [hx]); omega
        · obtain rfl := List.mem_singleton.1 hx; exact Nat.le_refl _
      · rw [has_app, has_app, Bool.or_assoc]
        congr 1
        simp only [has, List.any_cons, List.any_nil, Bool.or_false]
        rw [← Bool.decide_or]
        congr 1
        apply propext
        omega
    · rw [if_neg he]
      refine ⟨⟨fun x hx => ?_, List.pairwise_append.2 ⟨h.up, by simp, fun x hx z hz => ?_⟩⟩, fun x hx => ?_, fun q => ?_⟩
      · rcases List.mem_append.1 hx with hx | hx
        · exact h.ok x hx
        · obtain rfl := List.mem_singleton.1 hx; exact ⟨hp, hl⟩
      · obtain rfl := List.mem_singleton.1 hz
        rcases List.mem_append.1 hx with hx | hx
        · have := hay x hx; simp only; omega
        · obtain rfl := List.mem_singleton.1 hx; simp only; omega
      · rcases List.mem_append.1 hx with hx | hx
        · have := hb x hx; omega
        · obtain rfl := List.mem_singleton.1 hx; exact Nat.le_refl _
      · rw [has_app]
        simp only [has, List.any_cons, List.any_nil, Bool.or_false]
/-- one round of the walk over two sets -/
def piece (f : Bool → Bool → Bool) (M : Nat) (s t out : S) (p : Nat) : S :=
  if f (look M s p).1 (look M t p).1 then push out p (min (look M s p).2 (look M t p).2) else out
theorem piece_ok {f : Bool → Bool → Bool} {M : Nat} {s t out : S} (hs : Nrm M s) (ht : Nrm M t) (h : Nrm M out) {p : Nat} (hp : p ≤ M) (hb : ∀ x ∈ out, x.2 < p) (hq : ∀ q, q < p → has out q = f (has s q) (has t q)) :
    Nrm M (piece f M s t out p) ∧ (∀ x ∈ piece f M s t out p, x.2 ≤ min (look M s p).2 (look M t p).2) ∧ (p ≤ min (look M s p).2 (look M t p).2 ∧ min (look M s p).2 (look M t p).2 ≤ M) ∧ ∀ q, q ≤ min (look M s p).2 (look M t p).2 → has (piece f M s t out p) q = f (has s q) (has t q) := by
  obtain ⟨s1, s2, s3⟩ := look_ok hs hp
  obtain ⟨t1, t2, t3⟩ := look_ok ht hp
  have hl1 : p ≤ min (look M s p).2 (look M t p).2 := by omega
  have hl2 : min (look M s p).2 (look M t p).2 ≤ M := by omega
  obtain ⟨a1, a2, a3⟩ := push_ok h hb hl1 hl2
  unfold piece
  by_cases hf : f (look M s p).1 (look M t p).1 = true
  · rw [if_pos hf]
    refine ⟨a1, a2, ⟨hl1, hl2⟩, fun q h1 => ?_⟩
    rw [a3]
    by_cases h2 : q < p
    · rw [hq q h2, decide_eq_false (by omega), Bool.or_false]
    · rw [decide_eq_true ⟨by omega, h1⟩, Bool.or_true, s3 q (by omega) (by omega), t3 q (by omega) (by omega), hf]
  · rw [if_neg hf]
    refine ⟨h, fun x hx => by have := hb x hx; omega, ⟨hl1, hl2⟩, fun q h1 => ?_⟩
    by_cases h2 : q < p
    · exact hq q h2
    · rw [has_high (fun x hx => by have := hb x hx; omega), s3 q (by omega) (by omega), t3 q (by omega) (by omega)]
      exact (Bool.eq_false_iff.2 hf).symm
/-- how many boundaries are to come: each round but the last goes past one -/
def phiL : S → Nat → Nat
  | [], _ => 0
  | x :: r, p => if p < x.1 then 2 * r.length + 2 else 2 * r.length + 1
def phi (s : S) (p : Nat) : Nat := phiL (from_ s p) p
theorem phiL_le (l : S) (p : Nat) : phiL l p ≤ 2 * l.length := by
  cases l with
  | nil => exact Nat.le_refl _
  | cons x r =>
    show (if p < x.1 then 2 * r.length + 2 else 2 * r.length + 1) ≤ 2 * (r.length + 1)
    split <;> omega
theorem from_le (s : S) (p : Nat) : (from_ s p).length ≤ s.length := (List.dropWhile_suffix _).length_le
theorem phi_le (s : S) (p : Nat) : phi s p ≤ 2 * s.length := by
  have h := from_le s p
  have h2 := phiL_le (from_ s p) p
  unfold phi
  omega
theorem from_mono {s : S} {p q : Nat} (h : p ≤ q) : from_ (from_ s p) q = from_ s q := by
  induction s with
  | nil => rfl
  | cons x r ih =>
    unfold from_ at ih ⊢
    by_cases hx : x.2 < p
    · rw [List.dropWhile_cons, if_pos (by simpa using hx), ih, List.dropWhile_cons, if_pos (by simp; omega)]
    · rw [List.dropWhile_cons, if_neg (by simpa using hx)]
theorem phi_mono {M : Nat} {s : S} (hs : Nrm M s) {p q : Nat} (h : p ≤ q) : phi s q ≤ phi s p := by
  unfold phi
  rw [← from_mono h]
  have hn := from_nrm hs p
  cases hf : from_ s p with
  | nil => exact Nat.le_refl _
  | cons x r =>
    rw [hf] at hn
    by_cases hx : x.2 < q
    · have e : from_ (x :: r) q = from_ r q := by unfold from_; rw [List.dropWhile_cons, if_pos (by simpa using hx)]
      rw [e]
      have h2 := phiL_le (from_ r q) q
      have h3 := from_le r q
      show _ ≤ if p < x.1 then 2 * r.length + 2 else 2 * r.length + 1
      split <;> omega
    · have e : from_ (x :: r) q = x :: r := by unfold from_; rw [List.dropWhile_cons, if_neg (by simpa using hx)]
      rw [e]
      show (if q < x.1 then 2 * r.length + 2 else 2 * r.length + 1) ≤ if p < x.1 then 2 * r.length + 2 else 2 * r.length + 1
      split <;> split <;> omega
theorem phi_step {M : Nat} {s : S} (hs : Nrm M s) {p q : Nat} (hl : (look M s p).2 < M) (hq : (look M s p).2 < q) (hp : p ≤ (look M s p).2) : phi s q < phi s p := by
  have hm := phi_mono hs (show (look M s p).2 + 1 ≤ q by omega)
  refine Nat.lt_of_le_of_lt hm ?_
  have hn := from_nrm hs p
  unfold look at hl hp ⊢
  cases hf : from_ s p with
  | nil => rw [hf] at hl; exact absurd hl (Nat.lt_irrefl _)
  | cons x r =>
    rw [hf] at hl hp hn
    obtain ⟨h1, h2, h3⟩ := hn.head
    simp only at hl hp ⊢
    have hpp : phi s p = if p < x.1 then 2 * r.length + 2 else 2 * r.length + 1 := by unfold phi; rw [hf]; rfl
    rw [hpp]
    have hx2 := from_head hf
    by_cases hx : p < x.1
    · rw [if_pos hx] at hl hp ⊢
      rw [if_pos hx]
      simp only at hl hp ⊢
      have e : from_ s (x.1 - 1 + 1) = x :: r := by
        rw [← from_mono (show p ≤ x.1 - 1 + 1 by omega), hf]
        unfold from_
        rw [List.dropWhile_cons, if_neg (by simp; omega)]
      unfold phi
      rw [e]
      show (if x.1 - 1 + 1 < x.1 then 2 * r.length + 2 else 2 * r.length + 1) < _
      rw [if_neg (by omega)]
      omega
    · rw [if_neg hx] at hl hp ⊢
      rw [if_neg hx]
      simp only at hl hp ⊢
      have e : from_ s (x.2 + 1) = from_ r (x.2 + 1) := by
        rw [← from_mono (show p ≤ x.2 + 1 by omega), hf]
        unfold from_
        rw [List.dropWhile_cons, if_pos (by simp)]
      have h4 : phi s (x.2 + 1) = phi r (x.2 + 1) := by unfold phi; rw [e]
      rw [h4]
      have := phi_le r (x.2 + 1)
      omega
theorem push_len (out : S) (p l : Nat) : (push out p l).length ≤ out.length + 1 := by
  rcases snoc_or out with rfl | ⟨a, y, rfl⟩
  · simp [push_nil]
  · rw [push_snoc]
    split <;> simp
theorem piece_len (f : Bool → Bool → Bool) (M : Nat) (s t out : S) (p : Nat) : (piece f M s t out p).length ≤ out.length + 1 := by
  unfold piece
  split
  · exact push_len _ _ _
  · omega
/-- a round that is not the last goes past a boundary -/
theorem round_phi {M : Nat} {s t : S} (hs : Nrm M s) (ht : Nrm M t) {p : Nat} (hp : p ≤ M) (hl : min (look M s p).2 (look M t p).2 < M) : phi s (min (look M s p).2 (look M t p).2 + 1) + phi t (min (look M s p).2 (look M t p).2 + 1) + 1 ≤ phi s p + phi t p := by
  obtain ⟨s1, s2, _⟩ := look_ok hs hp
  obtain ⟨t1, t2, _⟩ := look_ok ht hp
  rcases Nat.le_total (look M s p).2 (look M t p).2 with h | h
  · rw [Nat.min_eq_left h] at hl ⊢
    have a := phi_step (q := (look M s p).2 + 1) hs hl (by omega) s1
    have b := phi_mono ht (show p ≤ (look M s p).2 + 1 by omega)
    omega
  · rw [Nat.min_eq_right h] at hl ⊢
    have a := phi_step (q := (look M t p).2 + 1) ht hl (by omega) t1
    have b := phi_mono hs (show p ≤ (look M t p).2 + 1 by omega)
    omega
/-- a set that two make: the spans that have these points -/
structure Mk (M : Nat) (f : Bool → Bool → Bool) (s t out : S) : Prop where
  nrm : Nrm M out
  pts : ∀ q, q ≤ M → has out q = f (has s q) (has t q)
theorem Mk.uniq {M : Nat} {f : Bool → Bool → Bool} {s t a b : S} (h : Mk M f s t a) (k : Mk M f s t b) : a = b := ext h.nrm k.nrm fun p hp => by rw [h.pts p hp, k.pts p hp]
theorem nodup_le {α : Type} [DecidableEq α] : ∀ {a b : List α}, a.Nodup → (∀ x ∈ a, x ∈ b) → a.length ≤ b.length
  | [], b, _, _ => Nat.zero_le _
  | x :: a, b, h, hs => by
    obtain ⟨h1, h2⟩ := List.nodup_cons.1 h
    have hx := hs x (by simp)
    have := nodup_le (a := a) (b := b.erase x) h2 (fun y hy => by
      refine (List.mem_erase_of_ne (fun e => h1 (by rw [← e]; exact hy))).2 (hs y (by simp [hy])))
    rw [List.length_erase_of_mem hx] at this
    have hp : 0 < b.length := List.length_pos_of_mem hx
    rw [List.length_cons]
    omega
/-- where a span of a set begins: the point is in, and none right ahead of it -/
theorem start_in {M : Nat} {s : S} (h : Nrm M s) {x : Nat × Nat} (hx : x ∈ s) : has s x.1 = true ∧ (0 < x.1 → has s (x.1 - 1) = false) := by
  refine ⟨has_iff.2 ⟨x, hx, Nat.le_refl _, (h.ok x hx).1⟩, fun h0 => ?_⟩
  rw [Bool.eq_false_iff]
  intro hc
  obtain ⟨y, hy, h1, h2⟩ := has_iff.1 hc
  obtain ⟨i, hi, rfl⟩ := List.getElem_of_mem hx
  obtain ⟨j, hj, rfl⟩ := List.getElem_of_mem hy
  have hp := List.pairwise_iff_getElem.1 h.up
  have oi := h.ok _ hx
  have oj := h.ok _ hy
  rcases Nat.lt_trichotomy i j with hl | hl | hl
  · have := hp i j hi hj hl; omega
  · subst hl; omega
  · have := hp j i hj hi hl; omega
theorem start_of {s : S} {p : Nat} (h1 : has s p = true) (h2 : 0 < p → has s (p - 1) = false) : ∃ x ∈ s, x.1 = p := by
  obtain ⟨x, hx, a, b⟩ := has_iff.1 h1
  refine ⟨x, hx, ?_⟩
  rcases Nat.eq_or_lt_of_le a with e | e
  · exact e
  · have := h2 (by omega)
    rw [Bool.eq_false_iff] at this
    exact absurd (has_iff.2 ⟨x, hx, by omega, by omega⟩) this
theorem starts_nodup {M : Nat} {s : S} (h : Nrm M s) : (s.map (·.1)).Nodup := by
  unfold List.Nodup
  rw [List.pairwise_map]
  refine List.Pairwise.imp_of_mem ?_ h.up
  intro a b ha hb hab e
  have := (h.ok a ha).1
  omega
theorem or_len {M : Nat} {s t out : S} (h : Mk M (fun a b => a || b) s t out) : out.length ≤ s.length + t.length := by
  have := nodup_le (a := out.map (·.1)) (b := s.map (·.1) ++ t.map (·.1)) (starts_nodup h.nrm) (by
    intro p hp
    obtain ⟨x, hx, rfl⟩ := List.mem_map.1 hp
    obtain ⟨h1, h2⟩ := start_in h.nrm hx
    have hxM : x.1 ≤ M := by have := h.nrm.ok x hx; omega
    rw [h.pts x.1 hxM] at h1
    have h3 : 0 < x.1 → has s (x.1 - 1) = false ∧ has t (x.1 - 1) = false := fun h0 => by
      have := h2 h0
      rw [h.pts _ (by omega)] at this
      simpa using this
    rcases Bool.or_eq_true_iff.1 h1 with h4 | h4
    · obtain ⟨y, hy, e⟩ := start_of h4 (fun h0 => (h3 h0).1)
      exact List.mem_append.2 (.inl (List.mem_map.2 ⟨y, hy, e⟩))
    · obtain ⟨y, hy, e⟩ := start_of h4 (fun h0 => (h3 h0).2)
      exact List.mem_append.2 (.inr (List.mem_map.2 ⟨y, hy, e⟩)))
  simpa using this
/-- what two sets make has no more spans than they have ends -/
theorem mk_len {M : Nat} {f : Bool → Bool → Bool} {s t out : S} (hs : Nrm M s) (ht : Nrm M t) (h0 : f false false = false) (h : Mk M f s t out) : out.length ≤ 2 * s.length + 2 * t.length := by
  have := nodup_le (a := out.map (·.1)) (b := s.map (·.1) ++ s.map (fun x => x.2 + 1) ++ (t.map (·.1) ++ t.map (fun x => x.2 + 1))) (starts_nodup h.nrm) (by
    intro p hp
    obtain ⟨x, hx, rfl⟩ := List.mem_map.1 hp
    obtain ⟨h1, h2⟩ := start_in h.nrm hx
    have hxM : x.1 ≤ M := by have := h.nrm.ok x hx; omega
    have key : ∀ (u : S), Nrm M u → (0 < x.1 ∧ has u x.1 ≠ has u (x.1 - 1) ∨ x.1 = 0 ∧ has u x.1 = true) → x.1 ∈ u.map (·.1) ++ u.map (fun x => x.2 + 1) := by
      rintro u hu (⟨hp, hne⟩ | ⟨hp, hh⟩)
      · cases ha : has u x.1
        · cases hb : has u (x.1 - 1)
          · exact absurd (by rw [ha, hb]) hne
          · obtain ⟨y, hy, a, b⟩ := has_iff.1 hb
            refine List.mem_append.2 (.inr (List.mem_map.2 ⟨y, hy, ?_⟩))
            rw [Bool.eq_false_iff] at ha
            rcases Nat.lt_or_ge y.2 x.1 with h | h
            · omega
            · exact absurd (has_iff.2 ⟨y, hy, by omega, h⟩) ha
        · cases hb : has u (x.1 - 1)
          · obtain ⟨y, hy, e⟩ := start_of ha (fun _ => hb)
            exact List.mem_append.2 (.inl (List.mem_map.2 ⟨y, hy, e⟩))
          · exact absurd (by rw [ha, hb]) hne
      · obtain ⟨y, hy, e⟩ := start_of hh (fun h => absurd h (by omega))
        exact List.mem_append.2 (.inl (List.mem_map.2 ⟨y, hy, e⟩))
    rw [h.pts x.1 hxM] at h1
    rcases Nat.eq_zero_or_pos x.1 with hz | hz
    · cases ha : has s x.1
      · cases hb : has t x.1
        · rw [ha, hb, h0] at h1; cases h1
        · exact List.mem_append.2 (.inr (key t ht (.inr ⟨hz, hb⟩)))
      · exact List.mem_append.2 (.inl (key s hs (.inr ⟨hz, ha⟩)))
    · have h3 := h2 hz
      rw [h.pts _ (by omega)] at h3
      by_cases ha : has s x.1 = has s (x.1 - 1)
      · by_cases hb : has t x.1 = has t (x.1 - 1)
        · rw [ha, hb, h3] at h1; cases h1
        · exact List.mem_append.2 (.inr (key t ht (.inl ⟨hz, hb⟩)))
      · exact List.mem_append.2 (.inl (key s hs (.inl ⟨hz, ha⟩))))
  simp at this
  omega
/-- the least point that is not below p -/
def next (s : S) (p : Nat) : Nat × Bool := match from_ s p with
  | [] => (0, false)
  | x :: _ => (max p x.1, true)
theorem next_some {M : Nat} {s : S} (hs : Nrm M s) {p m : Nat} (h : next s p = (m, true)) : p ≤ m ∧ has s m = true ∧ ∀ q, p ≤ q → q < m → has s q = false := by
  unfold next at h
  cases hf : from_ s p with
  | nil => rw [hf] at h; cases h
  | cons x r =>
    rw [hf] at h
    injection h with h _
    have hn := from_nrm hs p
    rw [hf] at hn
    obtain ⟨h2, h3, h4⟩ := hn.head
    have h1 := from_head hf
    refine ⟨by omega, ?_, fun q h5 h6 => ?_⟩
    · rw [← from_has hs (show p ≤ m by omega), hf, has_cons, decide_eq_true ⟨by omega, by omega⟩]; rfl
    · rw [← from_has hs h5, hf]
      exact has_low fun y hy => by
        rcases List.mem_cons.1 hy with rfl | hy
        · omega
        · have := h4 y hy; omega
theorem next_none {M : Nat} {s : S} (hs : Nrm M s) {p : Nat} (h : (next s p).2 = false) : next s p = (0, false) ∧ ∀ q, p ≤ q → has s q = false := by
  unfold next at h ⊢
  cases hf : from_ s p with
  | nil => exact ⟨rfl, fun q h1 => by rw [← from_has hs h1, hf]; rfl⟩
  | cons x r => rw [hf] at h; cases h
end Sp
end Go.Proofs.Ytchajbegjajlkaa
