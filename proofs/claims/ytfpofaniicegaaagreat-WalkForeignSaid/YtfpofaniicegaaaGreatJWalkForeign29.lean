/- Texts of this claim, one behind the other: WlA. -/
import Derived.Test.YtfpofaniicegaaaGreatJWalkForeign28
/- Plain law for WalkLeaves: what Leaves tells rises, and says what a walk answers. -/
set_option linter.unusedVariables false
set_option linter.unusedSimpArgs false
namespace Go.Proofs.YtfpofaniicegaaaGreat
namespace Bu
def Lv.hi (l : Lv) : Nat := l.v + l.n * 4096
def Lv.has (l : Lv) (virt : Nat) : Bool := decide (l.v ≤ virt ∧ virt < l.hi)
/-- what a leaf says of an address that it has -/
def Lv.say (l : Lv) (virt : Nat) (access : Int) : Nat × Nat :=
  if l.no ≠ 0 then (0, l.no) else if access = 2 ∧ l.w = false then (0, 43) else if access = 3 ∧ l.x = false then (0, 44) else (l.p + (virt - l.v), 0)
/-- what leaves say of an address -/
def askL (L : List Lv) (virt : Nat) (access : Int) : Nat × Nat := match L.find? (·.has virt) with
  | none => (0, 41)
  | some l => l.say virt access
/-- leaves that lie in a range, one behind the other -/
def Rises (a b : Nat) (L : List Lv) : Prop := L.Pairwise (fun x y => x.hi ≤ y.v) ∧ ∀ l ∈ L, a ≤ l.v ∧ l.hi ≤ b ∧ 1 ≤ l.n ∧ (l.no = 0 ∨ l.no = 42)
theorem Rises.nil (a b : Nat) : Rises a b [] := ⟨List.Pairwise.nil, by simp⟩
theorem Rises.app {a m b : Nat} {L K : List Lv} (h1 : Rises a m L) (h2 : Rises m b K) (ham : a ≤ m) (hmb : m ≤ b) : Rises a b (L ++ K) := by
  refine ⟨List.pairwise_append.2 ⟨h1.1, h2.1, fun x hx y hy => Nat.le_trans (h1.2 x hx).2.1 (h2.2 y hy).1⟩, fun l hl => ?_⟩
  rcases List.mem_append.1 hl with hl | hl
  · have := h1.2 l hl; exact ⟨this.1, Nat.le_trans this.2.1 hmb, this.2.2⟩
  · have := h2.2 l hl; exact ⟨Nat.le_trans ham this.1, this.2⟩
theorem Rises.one {a b : Nat} {l : Lv} (h1 : a ≤ l.v) (h2 : l.hi ≤ b) (h3 : 1 ≤ l.n) (h4 : l.no = 0 ∨ l.no = 42) : Rises a b [l] := ⟨List.pairwise_singleton _ _, fun x hx => by simp at hx; subst hx; exact ⟨h1, h2, h3, h4⟩⟩
theorem Rises.wide {a b a' b' : Nat} {L : List Lv} (h : Rises a b L) (h1 : a' ≤ a) (h2 : b ≤ b') : Rises a' b' L := ⟨h.1, fun l hl => by have := h.2 l hl; exact ⟨Nat.le_trans h1 this.1, Nat.le_trans this.2.1 h2, this.2.2⟩⟩
theorem find_out {a b : Nat} {L : List Lv} (h : Rises a b L) {virt : Nat} (hv : virt < a ∨ b ≤ virt) : L.find? (·.has virt) = none := by
  rw [List.find?_eq_none]
  intro l hl
  have := h.2 l hl
  unfold Lv.has
  simp
  omega
theorem askL_left {a m b : Nat} {L K : List Lv} (h1 : Rises a m L) (h2 : Rises m b K) {virt : Nat} {access : Int} (hv : virt < m) : askL (L ++ K) virt access = askL L virt access := by
  unfold askL
  rw [List.find?_append, find_out h2 (.inl hv)]
  cases L.find? (·.has virt) <;> rfl
theorem askL_right {a m b : Nat} {L K : List Lv} (h1 : Rises a m L) (h2 : Rises m b K) {virt : Nat} {access : Int} (hv : m ≤ virt) : askL (L ++ K) virt access = askL K virt access := by
  unfold askL
  rw [List.find?_append, find_out h1 (.inr hv)]
  rfl
theorem rch_or (lv : Nat) (h : lv < 3) : rch lv = 1073741824 ∧ lv = 0 ∨ rch lv = 2097152 ∧ lv = 1 ∨ rch lv = 4096 ∧ lv = 2 := by
  rcases (show lv = 0 ∨ lv = 1 ∨ lv = 2 by omega) with rfl | rfl | rfl
  · exact .inl ⟨rfl, rfl⟩
  · exact .inr (.inl ⟨rfl, rfl⟩)
  · exact .inr (.inr ⟨rfl, rfl⟩)
theorem entM_nos (M : PM) (tab i lv : Nat) : (entM M tab i lv).2 = 0 ∨ (entM M tab i lv).2 = 41 ∨ (entM M tab i lv).2 = 42 := by
  unfold entM
  split
  · exact .inr (.inr rfl)
  · unfold Ent.say
    split
    · exact .inr (.inl rfl)
    · split
      · exact .inr (.inr rfl)
      · split
        · exact .inr (.inr rfl)
        · exact .inl rfl
/-- the whole of a table: what is told rises, and says what a walk from there answers -/
theorem lvR_says {M : PM} {k lv tab V : Nat} (hlv : lv < 3) (hV : V % (512 * rch lv) = 0)
    (hsub : ∀ i, i < 512 → ∀ left L l', (entM M tab i lv).2 = 0 → (entM M tab i lv).1.t = true → lvT M k (lv + 1) (entM M tab i lv).1.F (V + i * rch lv) left = (L, l', true) →
      Rises (V + i * rch lv) (V + (i + 1) * rch lv) L ∧ ∀ virt, V + i * rch lv ≤ virt → virt < V + (i + 1) * rch lv → ∀ access, trw M virt access k (lv + 1) (entM M tab i lv).1.F = askL L virt access) :
    ∀ d, d ≤ 512 → ∀ left L l', lvR M (lvT M k (lv + 1)) lv tab V d left = (L, l', true) →
      Rises (V + (512 - d) * rch lv) (V + 512 * rch lv) L ∧ ∀ virt, V + (512 - d) * rch lv ≤ virt → virt < V + 512 * rch lv → ∀ access, trw M virt access (k + 1) lv tab = askL L virt access := by
  intro d
  induction d with
  | zero =>
    intro _ left L l' h
    simp only [lvR, Prod.mk.injEq] at h
    obtain ⟨rfl, _, _⟩ := h
    exact ⟨Rises.nil _ _, fun virt h1 h2 => by omega⟩
  | succ d ih =>
    intro hd left L l' h
    obtain ⟨i, hi⟩ : ∃ i, i = 511 - d := ⟨_, rfl⟩
    have hi5 : i < 512 := by omega
    have hstep : ∀ virt, V + i * rch lv ≤ virt → virt < V + (i + 1) * rch lv → ixv virt lv = i ∧ virt % rch lv = virt - (V + i * rch lv) := fun virt h1 h2 => by
      unfold ixv
      rcases rch_or lv hlv with ⟨hr, _⟩ | ⟨hr, _⟩ | ⟨hr, _⟩ <;> rw [hr] at hV h1 h2 ⊢ <;> omega
    have hlo : V + (512 - (d + 1)) * rch lv = V + i * rch lv := by rw [show 512 - (d + 1) = i by omega]
    have hmi : V + (512 - d) * rch lv = V + (i + 1) * rch lv := by rw [show 512 - d = i + 1 by omega]
    have hle1 : V + i * rch lv ≤ V + (i + 1) * rch lv := Nat.add_le_add_left (Nat.mul_le_mul_right _ (by omega)) _
    have hle2 : V + (i + 1) * rch lv ≤ V + 512 * rch lv := Nat.add_le_add_left (Nat.mul_le_mul_right _ (by omega)) _
    rw [hlo]
    rw [hmi] at ih
    have htr : ∀ virt, V + i * rch lv ≤ virt → virt < V + (i + 1) * rch lv → ∀ access, trw M virt access (k + 1) lv tab =
        if (entM M tab i lv).2 ≠ 0 then (0, (entM M tab i lv).2) else if (entM M tab i lv).1.t = true then trw M virt access k (lv + 1) (entM M tab i lv).1.F else if access = 2 ∧ (entM M tab i lv).1.w = false then (0, 43) else if access = 3 ∧ (entM M tab i lv).1.x = false then (0, 44) else ((entM M tab i lv).1.F + virt % rch lv, 0) := fun virt h1 h2 access => by
      rw [trw, (hstep virt h1 h2).1]
    -- two parts
    have two : ∀ (L1 L2 : List Lv), L = L1 ++ L2 → Rises (V + i * rch lv) (V + (i + 1) * rch lv) L1 → (∀ virt, V + i * rch lv ≤ virt → virt < V + (i + 1) * rch lv → ∀ access, trw M virt access (k + 1) lv tab = askL L1 virt access) →
        (Rises (V + (i + 1) * rch lv) (V + 512 * rch lv) L2 ∧ ∀ virt, V + (i + 1) * rch lv ≤ virt → virt < V + 512 * rch lv → ∀ access, trw M virt access (k + 1) lv tab = askL L2 virt access) →
        Rises (V + i * rch lv) (V + 512 * rch lv) L ∧ ∀ virt, V + i * rch lv ≤ virt → virt < V + 512 * rch lv → ∀ access, trw M virt access (k + 1) lv tab = askL L virt access := by
      rintro L1 L2 rfl h1 h2 ⟨h3, h4⟩
      refine ⟨h1.app h3 hle1 hle2, fun virt ha hb access => ?_⟩
      by_cases hm : virt < V + (i + 1) * rch lv
      · rw [askL_left h1 h3 hm, h2 virt ha hm]
      · rw [askL_right h1 h3 (by omega), h4 virt (by omega) hb]
    have hs := h
    rw [lvR, ← hi] at hs
    rcases entM_nos M tab i lv with hn | hn | hn
    · by_cases ht : (entM M tab i lv).1.t = true
      · rw [if_neg (by omega), if_pos ⟨hn, ht⟩] at hs
        split at hs
        · simp at hs
        · split at hs
          · rename_i hg
            obtain ⟨s, hs0⟩ : ∃ s, s = lvT M k (lv + 1) (entM M tab i lv).1.F (V + i * rch lv) (left - 1) := ⟨_, rfl⟩
            rw [← hs0] at hs hg
            obtain ⟨t1, l1, g1⟩ := s
            simp only at hs hg
            subst hg
            obtain ⟨h1, h2⟩ := hsub i hi5 _ _ _ hn ht hs0.symm
            obtain ⟨z, hz⟩ : ∃ z, z = lvR M (lvT M k (lv + 1)) lv tab V d l1 := ⟨_, rfl⟩
            rw [← hz] at hs
            obtain ⟨t2, l2, g2⟩ := z
            simp only [Prod.mk.injEq] at hs
            obtain ⟨rfl, rfl, rfl⟩ := hs
            refine two _ _ rfl h1 (fun virt ha hb access => ?_) (ih (by omega) _ _ _ hz.symm)
            rw [htr virt ha hb, if_neg (by omega), if_pos ht, h2 virt ha hb]
          · simp at hs
      · rw [if_neg (by omega), if_neg (fun hc => ht hc.2)] at hs
        split at hs
        · simp at hs
        · obtain ⟨z, hz⟩ : ∃ z, z = lvR M (lvT M k (lv + 1)) lv tab V d (left - 1) := ⟨_, rfl⟩
          rw [← hz] at hs
          obtain ⟨t2, l2, g2⟩ := z
          simp only [Prod.mk.injEq] at hs
          obtain ⟨rfl, rfl, rfl⟩ := hs
          have hlf : leafAt lv (V + i * rch lv) (entM M tab i lv) = ⟨V + i * rch lv, (entM M tab i lv).1.F, rch lv / 4096, (entM M tab i lv).1.b, (entM M tab i lv).1.w, (entM M tab i lv).1.x, 0⟩ := by unfold leafAt; rw [if_pos hn]
          have hhi : rch lv / 4096 * 4096 = rch lv ∧ 1 ≤ rch lv / 4096 := by rcases rch_or lv hlv with ⟨hr, _⟩ | ⟨hr, _⟩ | ⟨hr, _⟩ <;> rw [hr] <;> decide
          have hr1 : Rises (V + i * rch lv) (V + (i + 1) * rch lv) [leafAt lv (V + i * rch lv) (entM M tab i lv)] := by
            rw [hlf]
            refine Rises.one (Nat.le_refl _) ?_ hhi.2 (.inl rfl)
            show V + i * rch lv + rch lv / 4096 * 4096 ≤ _
            rw [hhi.1, Nat.add_mul]; omega
          refine two [_] _ rfl hr1 (fun virt ha hb access => ?_) (ih (by omega) _ _ _ hz.symm)
          rw [htr virt ha hb, if_neg (by omega), if_neg ht, hlf]
          unfold askL
          rw [List.find?_cons]
          have hh : Lv.has ⟨V + i * rch lv, (entM M tab i lv).1.F, rch lv / 4096, (entM M tab i lv).1.b, (entM M tab i lv).1.w, (entM M tab i lv).1.x, 0⟩ virt = true := by
            unfold Lv.has Lv.hi
            simp only [decide_eq_true_eq]
            rw [hhi.1]
            rw [Nat.add_mul] at hb
            omega
          rw [hh]
          unfold Lv.say
          simp only [ne_eq, not_true, if_false, (hstep virt ha hb).2]
    · rw [if_pos hn] at hs
      have := ih (by omega) _ _ _ hs
      refine two [] L rfl (Rises.nil _ _) (fun virt ha hb access => ?_) this
      rw [htr virt ha hb, hn, if_pos (by decide)]
      rfl
    · rw [if_neg (by omega), if_neg (fun hc => by omega)] at hs
      split at hs
      · simp at hs
      · obtain ⟨z, hz⟩ : ∃ z, z = lvR M (lvT M k (lv + 1)) lv tab V d (left - 1) := ⟨_, rfl⟩
        rw [← hz] at hs
        obtain ⟨t2, l2, g2⟩ := z
        simp only [Prod.mk.injEq] at hs
        obtain ⟨rfl, rfl, rfl⟩ := hs
        have hlf : leafAt lv (V + i * rch lv) (entM M tab i lv) = ⟨V + i * rch lv, 0, rch lv / 4096, false, false, false, 42⟩ := by unfold leafAt; rw [if_neg (by omega), hn]
        have hhi : rch lv / 4096 * 4096 = rch lv ∧ 1 ≤ rch lv / 4096 := by rcases rch_or lv hlv with ⟨hr, _⟩ | ⟨hr, _⟩ | ⟨hr, _⟩ <;> rw [hr] <;> decide
        have hr1 : Rises (V + i * rch lv) (V + (i + 1) * rch lv) [leafAt lv (V + i * rch lv) (entM M tab i lv)] := by
          rw [hlf]
          refine Rises.one (Nat.le_refl _) ?_ hhi.2 (.inr rfl)
          show V + i * rch lv + rch lv / 4096 * 4096 ≤ _
          rw [hhi.1, Nat.add_mul]; omega
        refine two [_] _ rfl hr1 (fun virt ha hb access => ?_) (ih (by omega) _ _ _ hz.symm)
        rw [htr virt ha hb, hn, if_pos (by decide), hlf]
        unfold askL
        rw [List.find?_cons]
        have hh : Lv.has ⟨V + i * rch lv, 0, rch lv / 4096, false, false, false, 42⟩ virt = true := by
          unfold Lv.has Lv.hi
          simp only [decide_eq_true_eq]
          rw [hhi.1]
          rw [Nat.add_mul] at hb
          omega
        rw [hh]
        rfl
theorem lvT_says {M : PM} : ∀ k lv tab V left L l', lv + k = 3 → lv < 3 → V % (512 * rch lv) = 0 → lvT M k lv tab V left = (L, l', true) →
    Rises V (V + 512 * rch lv) L ∧ ∀ virt, V ≤ virt → virt < V + 512 * rch lv → ∀ access, trw M virt access k lv tab = askL L virt access := by
  intro k
  induction k with
  | zero => intro lv tab V left L l' h1 h2; omega
  | succ k ih =>
    intro lv tab V left L l' h1 h2 hV h
    have hmain := lvR_says (M := M) (k := k) (lv := lv) (tab := tab) (V := V) h2 hV (fun i hi left L l' hn ht hh => by
      have hlt := (entM_t (M := M) (tab := tab) (i := i) (lv := lv) (y := (entM M tab i lv).1) (by rw [← hn])).1 ht
      have hup : 512 * rch (lv + 1) = rch lv := by
        unfold rch
        rcases (show lv = 0 ∨ lv = 1 by omega) with rfl | rfl <;> decide
      have hr := ih (lv + 1) _ (V + i * rch lv) left L l' (by omega) (by omega) (by
        rw [hup]
        have h3 : rch lv ∣ V := Nat.dvd_trans ⟨512, by rw [Nat.mul_comm]⟩ (Nat.dvd_of_mod_eq_zero hV)
        exact Nat.mod_eq_zero_of_dvd (Nat.dvd_add h3 (Nat.dvd_mul_left _ _))) hh
      rw [hup] at hr
      rw [Nat.add_mul, Nat.one_mul, ← Nat.add_assoc]
      exact hr) 512 (Nat.le_refl _) left L l' h
    rw [show V + (512 - 512) * rch lv = V by simp] at hmain
    exact hmain
/-- how Leaves ends: left is spent just where it stops -/
theorem lvR_stop {M : PM} {sub : Nat → Nat → Nat → List Lv × Nat × Bool} {lv tab virt : Nat} (hs : ∀ a b l, (sub a b l).2.2 = false → (sub a b l).2.1 = 0) : ∀ d left, (lvR M sub lv tab virt d left).2.2 = false → (lvR M sub lv tab virt d left).2.1 = 0 := by
  intro d
  induction d with
  | zero => intro left h; simp [lvR] at h
  | succ d ih =>
    intro left h
    unfold lvR at h ⊢
    split
    · rename_i h1; rw [if_pos h1] at h; exact ih _ h
    · rename_i h1
      rw [if_neg h1] at h
      split
      · rename_i h2
        rw [if_pos h2] at h
        split
        · rfl
        · rename_i h3
          rw [if_neg h3] at h
          split
          · rename_i h4; rw [if_pos h4] at h; exact ih _ h
          · rename_i h4; exact hs _ _ _ (by simpa using h4)
      · rename_i h2
        rw [if_neg h2] at h
        split
        · rfl
        · rename_i h3; rw [if_neg h3] at h; exact ih _ h
theorem lvT_stop {M : PM} : ∀ k lv tab virt left, (lvT M k lv tab virt left).2.2 = false → (lvT M k lv tab virt left).2.1 = 0 := by
  intro k
  induction k with
  | zero => intro lv tab virt left h; simp [lvT] at h
  | succ k ih => intro lv tab virt left h; exact lvR_stop (fun a b l => ih (lv + 1) a b l) 512 left h
/-- does Leaves come to the end? -/
def lvEnds (M : PM) (root most : Nat) : Bool := if root % 4096 ≠ 0 then true else (lvT M 3 0 root 0 most).2.2
theorem lvs_says {M : PM} {root most : Nat} (hm : 1 ≤ most) (h : lvEnds M root most = true) : Rises 0 549755813888 (lvs M root (most : Int)) ∧ ∀ virt, virt < 549755813888 → ∀ access, 1 ≤ access ∧ access ≤ 3 → trI M root virt access = askL (lvs M root (most : Int)) virt access := by
  unfold lvs trI
  rw [if_neg (by omega)]
  by_cases hr : root % 4096 ≠ 0
  · rw [if_pos hr]
    refine ⟨Rises.one (by decide) (by decide) (by decide) (.inr rfl), fun virt hv access ha => ?_⟩
    rw [if_neg (by omega), if_neg (by omega), if_pos hr]
    unfold askL
    rw [List.find?_cons]
    have hh : Lv.has ⟨0, 0, 134217728, false, false, false, 42⟩ virt = true := by
      unfold Lv.has Lv.hi
      simp only [decide_eq_true_eq]
      omega
    rw [hh]
    rfl
  · rw [if_neg hr]
    unfold lvEnds at h
    rw [if_neg hr] at h
    obtain ⟨z, hz⟩ : ∃ z, z = lvT M 3 0 root 0 most := ⟨_, rfl⟩
    rw [← hz] at h
    obtain ⟨L, l', g⟩ := z
    simp only at h
    subst h
    have hs := lvT_says 3 0 root 0 most L l' rfl (by decide) (by decide) hz.symm
    rw [Int.toNat_natCast, ← hz]
    rw [show (0 : Nat) + 512 * rch 0 = 549755813888 by decide] at hs
    refine ⟨hs.1, fun virt hv access ha => ?_⟩
    rw [if_neg (by omega), if_neg (by omega), if_neg hr]
    exact hs.2 virt (by omega) hv access
end Bu
end Go.Proofs.YtfpofaniicegaaaGreat
