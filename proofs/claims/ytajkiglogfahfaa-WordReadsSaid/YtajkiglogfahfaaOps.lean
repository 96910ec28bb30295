/- Plain law of layer 1's scripts: what a step lays, what it takes, there and back. No program in sight. -/
import Derived.Test.YtajkiglogfahfaaWd
set_option linter.unusedVariables false
set_option linter.unusedSimpArgs false
namespace Go.Proofs.Ytajkiglogfahfaa.Wd
/-- one step: its kind, its number, how many (align, from, most), its bytes, its text -/
structure Op where
  kind : Int
  n : Nat
  num : Int
  p : List Nat
  s : List Nat
def Op.ok (o : Op) : Prop := o.n < 18446744073709551616 ∧ (∀ b ∈ o.p, b < 256) ∧ (∀ b ∈ o.s, b < 256)
def W.op (w : W) (o : Op) : W :=
  if o.kind = 1 then w.lay (le 1 (o.n % 256)) else if o.kind = 2 then w.lay (le 2 (o.n % 65536)) else if o.kind = 3 then w.lay (le 4 (o.n % 4294967296)) else if o.kind = 4 then w.lay (le 8 o.n)
  else if o.kind = 5 then w.lay o.p else if o.kind = 6 then w.text o.s else if o.kind = 7 then w.pad o.num else if o.kind = 8 then w.sealUp o.num else w
def R.op (r : R) (o : Op) : R × Op :=
  if o.kind = 1 then ((r.take 1).1, ⟨o.kind, (r.take 1).2, o.num, [], []⟩) else if o.kind = 2 then ((r.take 2).1, ⟨o.kind, (r.take 2).2, o.num, [], []⟩)
  else if o.kind = 3 then ((r.take 4).1, ⟨o.kind, (r.take 4).2, o.num, [], []⟩) else if o.kind = 4 then ((r.take 8).1, ⟨o.kind, (r.take 8).2, o.num, [], []⟩)
  else if o.kind = 5 then ((r.bytes o.p.length).1, ⟨o.kind, 0, o.num, (r.bytes o.p.length).2, []⟩) else if o.kind = 6 then ((r.text o.s.length).1, ⟨o.kind, 0, o.num, [], (r.text o.s.length).2⟩)
  else if o.kind = 7 then (r.pad o.num, ⟨o.kind, 0, o.num, [], []⟩) else if o.kind = 8 then (r.sealUp o.num, ⟨o.kind, 0, o.num, [], []⟩) else (r, ⟨o.kind, 0, o.num, [], []⟩)
def alike (a b : Op) : Bool :=
  if a.kind = 1 then decide (a.n % 256 = b.n) else if a.kind = 2 then decide (a.n % 65536 = b.n) else if a.kind = 3 then decide (a.n % 4294967296 = b.n) else if a.kind = 4 then decide (a.n = b.n)
  else if a.kind = 5 then decide (a.p = b.p) else if a.kind = 6 then decide (a.s = b.s) else true
theorem kd : ((2 : Int) = 1) = False ∧ ((3 : Int) = 1) = False ∧ ((3 : Int) = 2) = False ∧ ((4 : Int) = 1) = False ∧ ((4 : Int) = 2) = False ∧ ((4 : Int) = 3) = False ∧ ((5 : Int) = 1) = False ∧ ((5 : Int) = 2) = False ∧ ((5 : Int) = 3) = False ∧ ((5 : Int) = 4) = False ∧ ((6 : Int) = 1) = False ∧ ((6 : Int) = 2) = False ∧ ((6 : Int) = 3) = False ∧ ((6 : Int) = 4) = False ∧ ((6 : Int) = 5) = False ∧ ((7 : Int) = 1) = False ∧ ((7 : Int) = 2) = False ∧ ((7 : Int) = 3) = False ∧ ((7 : Int) = 4) = False ∧ ((7 : Int) = 5) = False ∧ ((7 : Int) = 6) = False ∧ ((8 : Int) = 1) = False ∧ ((8 : Int) = 2) = False ∧ ((8 : Int) = 3) = False ∧ ((8 : Int) = 4) = False ∧ ((8 : Int) = 5) = False ∧ ((8 : Int) = 6) = False ∧ ((8 : Int) = 7) = False := by
  refine ⟨?_, ?_, ?_, ?_, ?_, ?_, ?_, ?_, ?_, ?_, ?_, ?_, ?_, ?_, ?_, ?_, ?_, ?_, ?_, ?_, ?_, ?_, ?_, ?_, ?_, ?_, ?_, ?_⟩ <;> exact eq_false (by decide)
theorem lay_ok (b x : List Nat) : W.lay ⟨b, 0⟩ x = ⟨b ++ x, 0⟩ := by simp [W.lay]
theorem lay_no (w : W) (x : List Nat) (h : w.e ≠ 0) : w.lay x = w := by simp [W.lay, h]
theorem op_no (w : W) (o : Op) (h : w.e ≠ 0) : w.op o = w := by
  unfold W.op
  simp only [lay_no w _ h]
  repeat' split
  all_goals first
    | rfl
    | (simp [W.text, h])
    | (simp [W.pad, h])
    | (simp [W.sealUp, h])
theorem mid {full b x : List Nat} (h : full.take (b.length + x.length) = b ++ x) : (full.drop b.length).take x.length = x ∧ b.length + x.length ≤ full.length := by
  constructor
  · have := congrArg (List.drop b.length) h
    rw [List.drop_left, List.drop_take] at this
    simpa using this
  · have := congrArg List.length h
    simp at this
    omega
theorem part {full b x y : List Nat} (h : full.take (b.length + (x ++ y).length) = b ++ (x ++ y)) : full.take (b.length + x.length) = b ++ x ∧ (full.drop (b.length + x.length)).take y.length = y := by
  have hm := mid h
  have e : (full.drop b.length).take (x.length + y.length) = x ++ y := by simpa using hm.1
  have hl := hm.2
  rw [List.length_append] at hl
  constructor
  · have := congrArg (List.take (b.length + x.length)) h
    rw [List.take_take, ← List.append_assoc, List.take_append_of_le_length (by simp), Nat.min_eq_left (by simp)] at this
    rw [this, List.take_of_length_le (by simp)]
  · have := congrArg (List.drop x.length) e
    rw [List.drop_left, List.drop_take, List.drop_drop] at this
    simpa using this
theorem take_back (full b x : List Nat) (h : full.take (b.length + x.length) = b ++ x) : R.take ⟨full, b.length, 0⟩ x.length = (⟨full, b.length + x.length, 0⟩, unle x) := by
  have hm := mid h
  unfold R.take R.next
  rw [if_neg (by simp), if_neg (by simp only; omega)]
  simp only [Nat.add_zero, hm.1]
theorem take_cut (full b : List Nat) (k : Nat) (h : full.length < b.length + k) : (R.take ⟨full, b.length, 0⟩ k).1 = ⟨full, b.length, 10⟩ := by
  unfold R.take R.next
  rw [if_neg (by simp), if_pos (by simp only; omega)]
theorem gap_lt (a al : Nat) (h : 0 < al) : gap a al < al := Nat.mod_lt _ h
/-- what a step that is laid lays -/
theorem op_lays (b : List Nat) (o : Op) (hb : ∀ c ∈ b, c < 256) (ho : o.ok) (h : (W.op ⟨b, 0⟩ o).e = 0) : ∃ x, W.op ⟨b, 0⟩ o = ⟨b ++ x, 0⟩ ∧ (∀ c ∈ x, c < 256) ∧
    (∀ full, full.take (b.length + x.length) = b ++ x → ∃ o', R.op ⟨full, b.length, 0⟩ o = (⟨full, b.length + x.length, 0⟩, o') ∧ alike o o' = true) ∧
    (∀ full, b.length ≤ full.length → full = (b ++ x).take full.length → full.length < b.length + x.length → (R.op ⟨full, b.length, 0⟩ o).1 = ⟨full, b.length, 10⟩) := by
  have num : ∀ (k m : Nat), ∃ x, W.lay ⟨b, 0⟩ (le k m) = ⟨b ++ x, 0⟩ ∧ x = le k m ∧ (∀ c ∈ x, c < 256) ∧
      (∀ full, full.take (b.length + x.length) = b ++ x → R.take ⟨full, b.length, 0⟩ k = (⟨full, b.length + x.length, 0⟩, m % 256 ^ k)) ∧
      (∀ full, full.length < b.length + x.length → (R.take ⟨full, b.length, 0⟩ k).1 = ⟨full, b.length, 10⟩) := by
    intro k m
    refine ⟨le k m, lay_ok _ _, rfl, le_lt k m, fun full hf => ?_, fun full hf => ?_⟩
    · have := take_back full b (le k m) hf
      rw [unle_le, le_len] at this
      rw [le_len]
      exact this
    · exact take_cut full b k (by rw [le_len] at hf; exact hf)
  unfold W.op at h ⊢
  unfold R.op alike
  by_cases k1 : o.kind = 1
  · simp only [k1, if_true] at h ⊢
    obtain ⟨x, e, rfl, hx, h1, h2⟩ := num 1 (o.n % 256)
    exact ⟨_, e, hx, fun full hf => by rw [h1 full hf]; exact ⟨_, rfl, by simp⟩, fun full _ _ hf => h2 full hf⟩
  by_cases k2 : o.kind = 2
  · simp only [k2, kd, if_true, if_false] at h ⊢
    obtain ⟨x, e, rfl, hx, h1, h2⟩ := num 2 (o.n % 65536)
    exact ⟨_, e, hx, fun full hf => by simp only [h1 full hf]; exact ⟨_, rfl, by simp⟩, fun full _ _ hf => h2 full hf⟩
  by_cases k3 : o.kind = 3
  · simp only [k3, kd, if_true, if_false] at h ⊢
    obtain ⟨x, e, rfl, hx, h1, h2⟩ := num 4 (o.n % 4294967296)
    exact ⟨_, e, hx, fun full hf => by simp only [h1 full hf]; exact ⟨_, rfl, by simp⟩, fun full _ _ hf => h2 full hf⟩
  by_cases k4 : o.kind = 4
  · simp only [k4, kd, if_true, if_false] at h ⊢
    obtain ⟨x, e, rfl, hx, h1, h2⟩ := num 8 o.n
    have := ho.1
    exact ⟨_, e, hx, fun full hf => by simp only [h1 full hf]; exact ⟨_, rfl, by simp; omega⟩, fun full _ _ hf => h2 full hf⟩
  by_cases k5 : o.kind = 5
  · simp only [k5, kd, if_true, if_false] at h ⊢
    refine ⟨o.p, lay_ok _ _, ho.2.1, fun full hf => ?_, fun full hlo hfx hf => ?_⟩
    · have hm := mid hf
      refine ⟨⟨5, 0, o.num, o.p, []⟩, ?_, by simp⟩
      unfold R.bytes R.next
      rw [if_neg (by simp), if_neg (by omega), if_neg (by simp), if_neg (by simp only; omega)]
      simp only [Int.toNat_natCast, Nat.add_zero, hm.1]
    · unfold R.bytes R.next
      rw [if_neg (by simp), if_neg (by omega), if_neg (by simp), if_pos (by simp only; omega)]
  by_cases k6 : o.kind = 6
  · simp only [k6, kd, if_true, if_false] at h ⊢
    have hl : o.s.length < 65536 := by
      unfold W.text at h
      simp only [if_true] at h
      split at h
      · assumption
      · cases h
    have hu : unle (le 2 o.s.length) = o.s.length := by rw [unle_le]; omega
    refine ⟨le 2 o.s.length ++ o.s, ?_, ?_, fun full hf => ?_, fun full hlo hfx hf => ?_⟩
    · simp [W.text, hl]
    · intro c hc
      rcases List.mem_append.1 hc with h | h
      · exact le_lt _ _ c h
      · exact ho.2.2 c h
    · have hp := part hf
      have hm := mid hp.1
      have hm2 := (mid hf).2
      rw [le_len] at hm hp
      rw [List.length_append, le_len] at hm2
      refine ⟨⟨6, 0, o.num, [], o.s⟩, ?_, by simp⟩
      have e : R.text ⟨full, b.length, 0⟩ (o.s.length : Int) = (⟨full, b.length + (le 2 o.s.length ++ o.s).length, 0⟩, o.s) := by
        unfold R.text R.next
        rw [if_neg (by simp), if_neg (by simp only; omega)]
        simp only [Nat.add_zero, hm.1, hu]
        rw [if_neg (by omega), if_neg (by simp), if_neg (by omega)]
        simp only [hp.2]
        rw [List.length_append, le_len, Nat.add_assoc]
      rw [e]
    · rw [List.length_append, le_len] at hf
      unfold R.text R.next
      rw [if_neg (by simp)]
      by_cases h2 : full.length < b.length + 0 + 2
      · rw [if_pos h2]
      · rw [if_neg h2]
        have hx : (full.drop (b.length + 0)).take 2 = le 2 o.s.length := by
          rw [hfx, Nat.add_zero, List.drop_take, List.take_take, List.drop_left]
          rw [Nat.min_eq_left (by omega), List.take_append_of_le_length (by rw [le_len]; omega), List.take_of_length_le (by rw [le_len]; omega)]
        simp only [hx, hu]
        rw [if_neg (by omega), if_neg (by simp), if_pos (by omega)]
  by_cases k7 : o.kind = 7
  · simp only [k7, kd, if_true, if_false] at h ⊢
    have ha : 1 ≤ o.num ∧ o.num ≤ 4096 := by
      unfold W.pad at h
      simp only [if_true] at h
      split at h
      · assumption
      · cases h
    refine ⟨List.replicate (gap b.length o.num.toNat) 0, ?_, ?_, fun full hf => ?_, fun full hlo hfx hf => ?_⟩
    · simp [W.pad, ha]
    · intro c hc
      rw [(List.mem_replicate.1 hc).2]; omega
    · have hm := mid hf
      refine ⟨⟨7, 0, o.num, [], []⟩, ?_, by simp⟩
      rw [List.length_replicate] at hm
      have e : R.pad ⟨full, b.length, 0⟩ o.num = ⟨full, b.length + (List.replicate (gap b.length o.num.toNat) 0).length, 0⟩ := by
        unfold R.pad R.next
        rw [if_neg (by simp), if_pos ha, if_neg (by simp), if_neg (by simp only; omega)]
        simp only [Nat.add_zero, hm.1]
        rw [if_pos (by simp)]
      rw [e]
    · rw [List.length_replicate] at hf
      unfold R.pad R.next
      rw [if_neg (by simp), if_pos ha, if_neg (by simp), if_pos (by simp only; omega)]
  by_cases k8 : o.kind = 8
  · simp only [k8, kd, if_true, if_false] at h ⊢
    have ha : 0 ≤ o.num ∧ o.num ≤ b.length := by
      unfold W.sealUp at h
      simp only [if_true] at h
      split at h
      · assumption
      · cases h
    have hlt : Crc.more 0 (b.drop o.num.toNat) < 4294967296 := Crc.more_lt _ (by decide) (fun c hc => hb c (List.mem_of_mem_drop hc))
    refine ⟨le 4 (Crc.more 0 (b.drop o.num.toNat)), ?_, le_lt _ _, fun full hf => ?_, fun full hlo hfx hf => ?_⟩
    · simp [W.sealUp, ha]
    · have hm := mid hf
      rw [le_len] at hm
      have hb' : full.take b.length = b := by
        have := congrArg (List.take b.length) hf
        rw [List.take_take, Nat.min_eq_left (by omega), List.take_left] at this
        exact this
      refine ⟨⟨8, 0, o.num, [], []⟩, ?_, by simp⟩
      have e : R.sealUp ⟨full, b.length, 0⟩ o.num = ⟨full, b.length + (le 4 (Crc.more 0 (b.drop o.num.toNat))).length, 0⟩ := by
        unfold R.sealUp R.next
        rw [if_neg (by simp), if_pos ha, if_neg (by simp), if_neg (by simp only; omega)]
        simp only [Nat.add_zero, hm.1, hb']
        rw [if_pos (by rw [unle_le]; omega), le_len]
      rw [e]
    · rw [le_len] at hf
      unfold R.sealUp R.next
      rw [if_neg (by simp), if_pos ha, if_neg (by simp), if_pos (by simp only; omega)]
  · simp only [k1, k2, k3, k4, k5, k6, k7, k8, if_false] at h ⊢
    exact ⟨[], by simp, by simp, fun full hf => ⟨_, rfl, by simp⟩, fun full hlo hfx hf => by simp at hf; omega⟩
theorem take_forth (b : List Nat) (a k : Nat) (hk : a ≤ b.length) (hb : ∀ c ∈ b, c < 256) (h : (R.take ⟨b, a, 0⟩ k).1.e = 0) :
    a + k ≤ b.length ∧ (R.take ⟨b, a, 0⟩ k).1 = ⟨b, a + k, 0⟩ ∧ b.take a ++ le k (R.take ⟨b, a, 0⟩ k).2 = b.take (a + k) ∧ (R.take ⟨b, a, 0⟩ k).2 < 256 ^ k := by
  unfold R.take R.next at h ⊢
  rw [if_neg (by simp)] at h ⊢
  by_cases hs : b.length < a + 0 + k
  · rw [if_pos hs] at h
    cases h
  · rw [if_neg hs]
    have hl : ((b.drop (a + 0)).take k).length = k := by simp; omega
    have hlt : ∀ c ∈ (b.drop (a + 0)).take k, c < 256 := fun c hc => hb c (List.mem_of_mem_drop (List.mem_of_mem_take hc))
    refine ⟨by omega, rfl, ?_, ?_⟩
    · have := le_unle _ hlt
      rw [hl] at this
      simp only [Nat.add_zero] at this ⊢
      rw [this, List.take_add]
    · have := unle_lt _ hlt
      rwa [hl] at this
/-- what a step that is taken lays again -/
theorem op_forth (b : List Nat) (a : Nat) (o : Op) (hk : a ≤ b.length) (hb : ∀ c ∈ b, c < 256) (hbl : b.length < 18446744073709551616) (h : (R.op ⟨b, a, 0⟩ o).1.e = 0) :
    ∃ a', a ≤ a' ∧ a' ≤ b.length ∧ (R.op ⟨b, a, 0⟩ o).1 = ⟨b, a', 0⟩ ∧ W.op ⟨b.take a, 0⟩ (R.op ⟨b, a, 0⟩ o).2 = ⟨b.take a', 0⟩ ∧ (R.op ⟨b, a, 0⟩ o).2.ok := by
  have hla : (b.take a).length = a := by simp; omega
  unfold R.op at h ⊢
  unfold W.op Op.ok
  by_cases k1 : o.kind = 1
  · simp only [k1, if_true] at h ⊢
    obtain ⟨q1, q2, q3, q4⟩ := take_forth b a 1 hk hb h
    exact ⟨a + 1, by omega, q1, q2, by rw [lay_ok, Nat.mod_eq_of_lt q4, q3], by have q5 := q4; simp at q5; exact ⟨by omega, by simp, by simp⟩⟩
  by_cases k2 : o.kind = 2
  · simp only [k2, kd, if_true, if_false] at h ⊢
    obtain ⟨q1, q2, q3, q4⟩ := take_forth b a 2 hk hb h
    exact ⟨a + 2, by omega, q1, q2, by rw [lay_ok, Nat.mod_eq_of_lt q4, q3], by have q5 := q4; simp at q5; exact ⟨by omega, by simp, by simp⟩⟩
  by_cases k3 : o.kind = 3
  · simp only [k3, kd, if_true, if_false] at h ⊢
    obtain ⟨q1, q2, q3, q4⟩ := take_forth b a 4 hk hb h
    exact ⟨a + 4, by omega, q1, q2, by rw [lay_ok, Nat.mod_eq_of_lt q4, q3], by have q5 := q4; simp at q5; exact ⟨by omega, by simp, by simp⟩⟩
  by_cases k4 : o.kind = 4
  · simp only [k4, kd, if_true, if_false] at h ⊢
    obtain ⟨q1, q2, q3, q4⟩ := take_forth b a 8 hk hb h
    exact ⟨a + 8, by omega, q1, q2, by rw [lay_ok, q3], by have q5 := q4; simp at q5; exact ⟨by omega, by simp, by simp⟩⟩
  by_cases k5 : o.kind = 5
  · simp only [k5, kd, if_true, if_false] at h ⊢
    unfold R.bytes R.next at h ⊢
    rw [if_neg (by simp), if_neg (by omega), if_neg (by simp)] at h ⊢
    by_cases hs : b.length < a + 0 + (o.p.length : Int).toNat
    · rw [if_pos hs] at h; cases h
    · rw [if_neg hs]
      simp only [Int.toNat_natCast] at hs ⊢
      exact ⟨a + o.p.length, by omega, by omega, rfl, by rw [lay_ok, Nat.add_zero, List.take_add], by omega, fun c hc => hb c (List.mem_of_mem_drop (List.mem_of_mem_take hc)), by simp⟩
  by_cases k6 : o.kind = 6
  · simp only [k6, kd, if_true, if_false] at h ⊢
    unfold R.text R.next at h ⊢
    rw [if_neg (by simp)] at h ⊢
    by_cases h2 : b.length < a + 0 + 2
    · rw [if_pos h2] at h; cases h
    · rw [if_neg h2] at h ⊢
      simp only [Nat.add_zero] at h ⊢
      have hl2 : ((b.drop a).take 2).length = 2 := by simp; omega
      have hlt2 : ∀ c ∈ (b.drop a).take 2, c < 256 := fun c hc => hb c (List.mem_of_mem_drop (List.mem_of_mem_take hc))
      obtain ⟨m, hm⟩ : ∃ m, m = unle ((b.drop a).take 2) := ⟨_, rfl⟩
      have hml : m < 65536 := by have := unle_lt _ hlt2; rw [hl2] at this; rw [hm]; simpa using this
      have hle : le 2 m = (b.drop a).take 2 := by have := le_unle _ hlt2; rw [hl2] at this; rw [hm]; exact this
      rw [← hm] at h ⊢
      by_cases h3 : (o.s.length : Int) < m
      · rw [if_pos h3] at h; cases h
      · rw [if_neg h3] at h ⊢
        rw [if_neg (by simp)] at h ⊢
        by_cases h4 : b.length < a + 2 + m
        · rw [if_pos h4] at h; cases h
        · rw [if_neg h4]
          have hll : ((b.drop (a + 2)).take m).length = m := by simp; omega
          refine ⟨a + 2 + m, by omega, by omega, rfl, ?_, by omega, by simp, fun c hc => hb c (List.mem_of_mem_drop (List.mem_of_mem_take hc))⟩
          unfold W.text
          simp only [hll, if_true]
          rw [if_pos hml, hle]
          rw [List.take_add, List.take_add, List.append_assoc]
  by_cases k7 : o.kind = 7
  · simp only [k7, kd, if_true, if_false] at h ⊢
    unfold R.pad R.next at h ⊢
    rw [if_neg (by simp)] at h ⊢
    by_cases ha : 1 ≤ o.num ∧ o.num ≤ 4096
    · rw [if_pos ha, if_neg (by simp)] at h ⊢
      by_cases hs : b.length < a + 0 + gap a o.num.toNat
      · rw [if_pos hs] at h; cases h
      · rw [if_neg hs] at h ⊢
        simp only [Nat.add_zero] at h ⊢
        have hll : ((b.drop a).take (gap a o.num.toNat)).length = gap a o.num.toNat := by simp; omega
        by_cases hz : ((b.drop a).take (gap a o.num.toNat)).all (· == 0) = true
        · rw [if_pos hz]
          refine ⟨a + gap a o.num.toNat, by omega, by omega, by rw [hll], ?_, by omega, by simp, by simp⟩
          unfold W.pad
          simp only [if_true, hla]
          rw [if_pos ha, List.take_add]
          congr 2
          refine (List.eq_replicate_iff.2 ⟨hll, fun c hc => ?_⟩).symm
          have := List.all_eq_true.1 hz c hc
          simpa using this
        · rw [if_neg hz] at h; cases h
    · rw [if_neg ha] at h; cases h
  by_cases k8 : o.kind = 8
  · simp only [k8, kd, if_true, if_false] at h ⊢
    unfold R.sealUp R.next at h ⊢
    rw [if_neg (by simp)] at h ⊢
    by_cases ha : 0 ≤ o.num ∧ o.num ≤ a
    · simp only at h ⊢
      rw [if_pos ha, if_neg (by simp)] at h ⊢
      by_cases hs : b.length < a + 0 + 4
      · rw [if_pos hs] at h; cases h
      · rw [if_neg hs] at h ⊢
        simp only [Nat.add_zero] at h ⊢
        have hl4 : ((b.drop a).take 4).length = 4 := by simp; omega
        have hlt4 : ∀ c ∈ (b.drop a).take 4, c < 256 := fun c hc => hb c (List.mem_of_mem_drop (List.mem_of_mem_take hc))
        by_cases hz : unle ((b.drop a).take 4) = Crc.more 0 ((b.take a).drop o.num.toNat)
        · rw [if_pos hz]
          refine ⟨a + 4, by omega, by omega, rfl, ?_, by omega, by simp, by simp⟩
          unfold W.sealUp
          simp only [if_true, hla]
          rw [if_pos ha, ← hz]
          have := le_unle _ hlt4
          rw [hl4] at this
          rw [this, List.take_add]
        · rw [if_neg hz] at h; cases h
    · simp only at h
      rw [if_neg ha] at h; cases h
  · simp only [k1, k2, k3, k4, k5, k6, k7, k8, if_false] at h ⊢
    exact ⟨a, by omega, hk, rfl, rfl, by simp⟩
end Go.Proofs.Ytajkiglogfahfaa.Wd
