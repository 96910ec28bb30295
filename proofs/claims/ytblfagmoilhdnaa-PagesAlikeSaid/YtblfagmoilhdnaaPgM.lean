/- The plain law of page tables: what a builder that keeps its last tables open makes, page by page, is what the document's tables say. -/
set_option linter.unusedVariables false
set_option linter.unusedSimpArgs false
namespace Go.Proofs.Ytblfagmoilhdnaa
namespace Pg
structure Lf where
  v : Nat
  p : Nat
  n : Int
  b : Bool
  w : Bool
  x : Bool
def Lf.u (r : Lf) : Nat := if r.b then 2097152 else 4096
/-- what the document asks of rows: the number of the refusal -/
def right : Nat → List Lf → Nat
  | _, [] => 0
  | bh, r :: rs =>
    if r.n < 1 ∨ r.n.toNat * 4096 % r.u ≠ 0 then 32
    else if r.v % r.u ≠ 0 ∨ r.p % r.u ≠ 0 then 33
    else if 549755813888 ≤ r.v ∨ (549755813888 - r.v) / 4096 < r.n.toNat then 40
    else if 4294967296 ≤ r.p ∨ (4294967296 - r.p) / 4096 < r.n.toNat then 34
    else if r.v < bh then 120
    else right (r.v + r.n.toNat * 4096) rs
structure Pge where
  v : Nat
  p : Nat
  b : Bool
  w : Bool
  x : Bool
def Pge.u (q : Pge) : Nat := if q.b then 2097152 else 4096
def Pge.num (q : Pge) : Nat := q.p + (1 + (if q.w then 2 else 0) + (if q.x then 4 else 0) + (if q.b then 8 else 0))
def Lf.page (r : Lf) (i : Nat) : Pge := ⟨r.v + i * r.u, r.p + i * r.u, r.b, r.w, r.x⟩
def Lf.cnt (r : Lf) : Nat := r.n.toNat * 4096 / r.u
def Lf.pages (r : Lf) : List Pge := (List.range r.cnt).map r.page
def pagesOf (rows : List Lf) : List Pge := rows.flatMap Lf.pages
/-- a page that may be laid -/
structure Pge.Ok (q : Pge) : Prop where
  va : q.v % q.u = 0
  pa : q.p % q.u = 0
  vl : q.v + q.u ≤ 549755813888
  pl : q.p + q.u ≤ 4294967296
def Chain (qs : List Pge) : Prop := qs.Pairwise (fun a c => a.v + a.u ≤ c.v) ∧ ∀ q ∈ qs, q.Ok
theorem Lf.u_or (r : Lf) : r.u = 2097152 ∨ r.u = 4096 := by unfold Lf.u; cases r.b <;> simp
theorem Pge.u_or (q : Pge) : q.u = 2097152 ∧ q.b = true ∨ q.u = 4096 ∧ q.b = false := by unfold Pge.u; cases q.b <;> simp
theorem Lf.page_u (r : Lf) (i : Nat) : (r.page i).u = r.u := rfl
/-- what a row that is right says -/
structure Lf.Ok (r : Lf) : Prop where
  n1 : 1 ≤ r.n
  nu : r.n.toNat * 4096 % r.u = 0
  va : r.v % r.u = 0
  pa : r.p % r.u = 0
  vl : r.v + r.n.toNat * 4096 ≤ 549755813888
  pl : r.p + r.n.toNat * 4096 ≤ 4294967296
theorem right_cons {bh : Nat} {r : Lf} {rs : List Lf} (h : right bh (r :: rs) = 0) : r.Ok ∧ bh ≤ r.v ∧ right (r.v + r.n.toNat * 4096) rs = 0 := by
  unfold right at h
  by_cases h1 : r.n < 1 ∨ r.n.toNat * 4096 % r.u ≠ 0
  · rw [if_pos h1] at h; cases h
  rw [if_neg h1] at h
  by_cases h2 : r.v % r.u ≠ 0 ∨ r.p % r.u ≠ 0
  · rw [if_pos h2] at h; cases h
  rw [if_neg h2] at h
  by_cases h3 : 549755813888 ≤ r.v ∨ (549755813888 - r.v) / 4096 < r.n.toNat
  · rw [if_pos h3] at h; cases h
  rw [if_neg h3] at h
  by_cases h4 : 4294967296 ≤ r.p ∨ (4294967296 - r.p) / 4096 < r.n.toNat
  · rw [if_pos h4] at h; cases h
  rw [if_neg h4] at h
  by_cases h5 : r.v < bh
  · rw [if_pos h5] at h; cases h
  rw [if_neg h5] at h
  exact ⟨⟨by omega, by omega, by omega, by omega, by omega, by omega⟩, by omega, h⟩
theorem right_mk {bh : Nat} {r : Lf} {rs : List Lf} (hr : r.Ok) (hb : bh ≤ r.v) (h : right (r.v + r.n.toNat * 4096) rs = 0) : right bh (r :: rs) = 0 := by
  obtain ⟨a1, a2, a3, a4, a5, a6⟩ := hr
  unfold right
  rw [if_neg (by omega), if_neg (by omega), if_neg (by omega), if_neg (by omega), if_neg (by omega)]
  exact h
theorem Lf.Ok.cnt_u {r : Lf} (h : r.Ok) : r.cnt * r.u = r.n.toNat * 4096 := by
  unfold Lf.cnt
  exact Nat.div_mul_cancel (Nat.dvd_of_mod_eq_zero h.nu)
theorem Lf.Ok.cnt_pos {r : Lf} (h : r.Ok) : 1 ≤ r.cnt := by
  have h1 := h.cnt_u
  have h2 := h.n1
  rcases Nat.eq_zero_or_pos r.cnt with h0 | h0
  · rw [h0] at h1; omega
  · exact h0
theorem Lf.Ok.page_ok {r : Lf} (h : r.Ok) {i : Nat} (hi : i < r.cnt) : (r.page i).Ok := by
  have h1 := h.cnt_u
  have hm : i * r.u + r.u ≤ r.cnt * r.u := by rw [← Nat.succ_mul]; exact Nat.mul_le_mul_right _ hi
  obtain ⟨a1, a2, a3, a4, a5, a6⟩ := h
  refine ⟨?_, ?_, ?_, ?_⟩
  · show (r.v + i * r.u) % r.u = 0
    rw [Nat.add_mul_mod_self_right]; exact a3
  · show (r.p + i * r.u) % r.u = 0
    rw [Nat.add_mul_mod_self_right]; exact a4
  · show r.v + i * r.u + r.u ≤ _
    omega
  · show r.p + i * r.u + r.u ≤ _
    omega
theorem mem_pages {r : Lf} {q : Pge} (h : q ∈ r.pages) : ∃ i, i < r.cnt ∧ q = r.page i := by
  obtain ⟨i, hi, rfl⟩ := List.mem_map.1 h
  exact ⟨i, List.mem_range.1 hi, rfl⟩
theorem pages_span {r : Lf} (h : r.Ok) {q : Pge} (hq : q ∈ r.pages) : r.v ≤ q.v ∧ q.v + q.u ≤ r.v + r.n.toNat * 4096 := by
  obtain ⟨i, hi, rfl⟩ := mem_pages hq
  have h1 := h.cnt_u
  have hm : i * r.u + r.u ≤ r.cnt * r.u := by rw [← Nat.succ_mul]; exact Nat.mul_le_mul_right _ hi
  show r.v ≤ r.v + i * r.u ∧ r.v + i * r.u + r.u ≤ _
  omega
theorem right_pages : ∀ (rows : List Lf) (bh : Nat), right bh rows = 0 → Chain (pagesOf rows) ∧ ∀ q ∈ pagesOf rows, bh ≤ q.v
  | [], bh, _ => ⟨⟨by simp [pagesOf], by simp [pagesOf]⟩, by simp [pagesOf]⟩
  | r :: rs, bh, h => by
    obtain ⟨hr, hb, hrs⟩ := right_cons h
    obtain ⟨⟨hp, hok⟩, hge⟩ := right_pages rs _ hrs
    have e : pagesOf (r :: rs) = r.pages ++ pagesOf rs := rfl
    rw [e]
    refine ⟨⟨List.pairwise_append.2 ⟨?_, hp, fun a ha c hc => Nat.le_trans (pages_span hr ha).2 (hge c hc)⟩, fun q hq => ?_⟩, fun q hq => ?_⟩
    · unfold Lf.pages
      rw [List.pairwise_map]
      refine List.Pairwise.imp ?_ List.pairwise_lt_range
      intro a c hac
      show r.v + a * r.u + r.u ≤ r.v + c * r.u
      have : a * r.u + r.u ≤ c * r.u := by rw [← Nat.succ_mul]; exact Nat.mul_le_mul_right _ hac
      omega
    · rcases List.mem_append.1 hq with hq | hq
      · obtain ⟨i, hi, rfl⟩ := mem_pages hq
        exact hr.page_ok hi
      · exact hok q hq
    · rcases List.mem_append.1 hq with hq | hq
      · exact Nat.le_trans hb (pages_span hr hq).1
      · have := hge q hq
        have := hr.vl
        omega

/-- a table's level and number -/
abbrev Lab := Nat × Nat
def ens (l : List Lab) (t : Lab) : List Lab := if t ∈ l then l else l ++ [t]
def tab1 (l : List Lab) (q : Pge) : List Lab := if q.b then ens l (1, q.v / 1073741824) else ens (ens l (1, q.v / 1073741824)) (2, q.v / 2097152)
def tabs (qs : List Pge) : List Lab := qs.foldl tab1 [(0, 0)]
theorem tabs_snoc (qs : List Pge) (q : Pge) : tabs (qs ++ [q]) = tab1 (tabs qs) q := by simp [tabs, List.foldl_append]
theorem mem_ens {l : List Lab} {t s : Lab} : s ∈ ens l t ↔ s ∈ l ∨ s = t := by
  unfold ens
  split
  · rename_i h
    constructor
    · exact .inl
    · rintro (h' | rfl)
      · exact h'
      · exact h
  · simp
theorem mem_tab1 {l : List Lab} {q : Pge} {s : Lab} : s ∈ tab1 l q ↔ s ∈ l ∨ s = (1, q.v / 1073741824) ∨ (q.b = false ∧ s = (2, q.v / 2097152)) := by
  unfold tab1
  cases hb : q.b
  · simp [mem_ens, or_assoc]
  · simp [mem_ens]
theorem mem_tabs {qs : List Pge} {s : Lab} : s ∈ tabs qs ↔ s = (0, 0) ∨ ∃ q ∈ qs, s = (1, q.v / 1073741824) ∨ (q.b = false ∧ s = (2, q.v / 2097152)) := by
  have aux : ∀ (qs : List Pge) (l : List Lab), s ∈ qs.foldl tab1 l ↔ s ∈ l ∨ ∃ q ∈ qs, s = (1, q.v / 1073741824) ∨ (q.b = false ∧ s = (2, q.v / 2097152)) := by
    intro qs
    induction qs with
    | nil => intro l; simp
    | cons q r ih =>
      intro l
      rw [List.foldl_cons, ih, mem_tab1]
      constructor
      · rintro ((h | h) | ⟨q', hq', h⟩)
        · exact .inl h
        · exact .inr ⟨q, by simp, h⟩
        · exact .inr ⟨q', by simp [hq'], h⟩
      · rintro (h | ⟨q', hq', h⟩)
        · exact .inl (.inl h)
        · rcases List.mem_cons.1 hq' with rfl | hq'
          · exact .inl (.inr h)
          · exact .inr ⟨q', hq', h⟩
  unfold tabs
  rw [aux]
  simp
theorem ens_nodup {l : List Lab} {t : Lab} (h : l.Nodup) : (ens l t).Nodup := by
  unfold ens
  split
  · exact h
  · rename_i hn
    rw [List.nodup_append]
    exact ⟨h, by simp, fun a ha b hb e => hn (by simp at hb; subst hb; subst e; exact ha)⟩
theorem ens_pre (l : List Lab) (t : Lab) : ∃ m, ens l t = l ++ m := by
  unfold ens; split
  · exact ⟨[], by simp⟩
  · exact ⟨[t], rfl⟩
theorem tab1_pre (l : List Lab) (q : Pge) : ∃ m, tab1 l q = l ++ m := by
  unfold tab1
  obtain ⟨m, hm⟩ := ens_pre l (1, q.v / 1073741824)
  split
  · exact ⟨m, hm⟩
  · obtain ⟨m2, hm2⟩ := ens_pre (ens l (1, q.v / 1073741824)) (2, q.v / 2097152)
    exact ⟨m ++ m2, by rw [hm2, hm, List.append_assoc]⟩
theorem tab1_nodup {l : List Lab} {q : Pge} (h : l.Nodup) : (tab1 l q).Nodup := by
  unfold tab1
  split
  · exact ens_nodup h
  · exact ens_nodup (ens_nodup h)
/-- a list of labels as it may be: the root ahead, none twice -/
structure Good (l : List Lab) : Prop where
  nd : l.Nodup
  root : l[0]? = some (0, 0)
  lev : ∀ t ∈ l, t.1 = 0 → t = (0, 0)
theorem Good.tab1 {l : List Lab} {q : Pge} (h : Good l) : Good (tab1 l q) := by
  refine ⟨tab1_nodup h.nd, ?_, fun t ht h0 => ?_⟩
  · obtain ⟨m, hm⟩ := tab1_pre l q
    rw [hm, List.getElem?_append_left (List.getElem?_eq_some_iff.1 h.root).1]
    exact h.root
  · rcases mem_tab1.1 ht with h1 | rfl | ⟨_, rfl⟩
    · exact h.lev t h1 h0
    · cases h0
    · cases h0
theorem good_tabs (qs : List Pge) : Good (tabs qs) := by
  have aux : ∀ (qs : List Pge) (l : List Lab), Good l → Good (qs.foldl Pg.tab1 l) := by
    intro qs
    induction qs with
    | nil => intro l h; exact h
    | cons q r ih => intro l h; exact ih _ h.tab1
  refine aux qs _ ⟨by simp, rfl, ?_⟩
  intro t ht _
  simpa using ht

/-- what a builder holds: its tables, the numbers of the open ones, the last page -/
structure St where
  all : List (List Nat)
  mid : Nat
  low : Nat
  virt : Nat
def setE (a : List (List Nat)) (t e x : Nat) : List (List Nat) := a.set t ((a.getD t []).set e x)
def zero512 : List Nat := List.replicate 512 0
def ptr (base n : Nat) : Nat := (base + n * 4096) % 4294967296 + 1
def childE (base : Nat) (all : List (List Nat)) (tof e : Nat) : List (List Nat) := setE (all ++ [zero512]) tof e (ptr base all.length)
/-- the open table of a gigabyte -/
def openMid (base : Nat) (s : St) (v : Nat) : St := if s.mid = 0 ∨ v / 1073741824 ≠ s.virt / 1073741824 then ⟨childE base s.all 0 (v / 1073741824), s.all.length, 0, s.virt⟩ else s
def openLow (base : Nat) (s : St) (v : Nat) : St := if s.low = 0 ∨ v / 2097152 ≠ s.virt / 2097152 then ⟨childE base s.all s.mid (v / 2097152 % 512), s.mid, s.all.length, s.virt⟩ else s
def step (base : Nat) (s : St) (q : Pge) : St :=
  let s1 := openMid base s q.v
  if q.b then ⟨setE s1.all s1.mid (q.v / 2097152 % 512) q.num, s1.mid, 0, q.v⟩
  else
    let s2 := openLow base s1 q.v
    ⟨setE s2.all s2.low (q.v / 4096 % 512) q.num, s2.mid, s2.low, q.v⟩
end Pg
end Go.Proofs.Ytblfagmoilhdnaa
