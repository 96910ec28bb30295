/- Texts of this claim, one behind the other: PgM, PgL, PgZ, PgW. -/
import Derived.Test.YtblfagmoilhdnaaJPagesTold15
import Derived.Test.YtblfagmoilhdnaaJPagesTold19
import Derived.Great.BuildSlice
/- The plain law of page tables: what a builder that keeps its last tables open makes, page by page, is what the document's tables say. -/
set_option linter.unusedVariables false
set_option linter.unusedSimpArgs false
namespace Go.Proofs.Ytblfagmoilhdnaa
namespace Pg
structure Lf where
  v : Nat
  p : Nat
  n : Int
  b : Bool
  w : Bool
  x : Bool
def Lf.u (r : Lf) : Nat := if r.b then 2097152 else 4096
/-- what the document asks of rows: the number of the refusal -/
def right : Nat → List Lf → Nat
  | _, [] => 0
  | bh, r :: rs =>
    if r.n < 1 ∨ r.n.toNat * 4096 % r.u ≠ 0 then 32
    else if r.v % r.u ≠ 0 ∨ r.p % r.u ≠ 0 then 33
    else if 549755813888 ≤ r.v ∨ (549755813888 - r.v) / 4096 < r.n.toNat then 40
    else if 4294967296 ≤ r.p ∨ (4294967296 - r.p) / 4096 < r.n.toNat then 34
    else if r.v < bh then 120
    else right (r.v + r.n.toNat * 4096) rs
structure Pge where
  v : Nat
  p : Nat
  b : Bool
  w : Bool
  x : Bool
def Pge.u (q : Pge) : Nat := if q.b then 2097152 else 4096
def Pge.num (q : Pge) : Nat := q.p + (1 + (if q.w then 2 else 0) + (if q.x then 4 else 0) + (if q.b then 8 else 0))
def Lf.page (r : Lf) (i : Nat) : Pge := ⟨r.v + i * r.u, r.p + i * r.u, r.b, r.w, r.x⟩
def Lf.cnt (r : Lf) : Nat := r.n.toNat * 4096 / r.u
def Lf.pages (r : Lf) : List Pge := (List.range r.cnt).map r.page
def pagesOf (rows : List Lf) : List Pge := rows.flatMap Lf.pages
/-- a page that may be laid -/
structure Pge.Ok (q : Pge) : Prop where
  va : q.v % q.u = 0
  pa : q.p % q.u = 0
  vl : q.v + q.u ≤ 549755813888
  pl : q.p + q.u ≤ 4294967296
def Chain (qs : List Pge) : Prop := qs.Pairwise (fun a c => a.v + a.u ≤ c.v) ∧ ∀ q ∈ qs, q.Ok
theorem Lf.u_or (r : Lf) : r.u = 2097152 ∨ r.u = 4096 := by unfold Lf.u; cases r.b <;> simp
theorem Pge.u_or (q : Pge) : q.u = 2097152 ∧ q.b = true ∨ q.u = 4096 ∧ q.b = false := by unfold Pge.u; cases q.b <;> simp
theorem Lf.page_u (r : Lf) (i : Nat) : (r.page i).u = r.u := rfl
/-- what a row that is right says -/
structure Lf.Ok (r : Lf) : Prop where
  n1 : 1 ≤ r.n
  nu : r.n.toNat * 4096 % r.u = 0
  va : r.v % r.u = 0
  pa : r.p % r.u = 0
  vl : r.v + r.n.toNat * 4096 ≤ 549755813888
  pl : r.p + r.n.toNat * 4096 ≤ 4294967296
theorem right_cons {bh : Nat} {r : Lf} {rs : List Lf} (h : right bh (r :: rs) = 0) : r.Ok ∧ bh ≤ r.v ∧ right (r.v + r.n.toNat * 4096) rs = 0 := by
  unfold right at h
  by_cases h1 : r.n < 1 ∨ r.n.toNat * 4096 % r.u ≠ 0
  · rw [if_pos h1] at h; cases h
  rw [if_neg h1] at h
  by_cases h2 : r.v % r.u ≠ 0 ∨ r.p % r.u ≠ 0
  · rw [if_pos h2] at h; cases h
  rw [if_neg h2] at h
  by_cases h3 : 549755813888 ≤ r.v ∨ (549755813888 - r.v) / 4096 < r.n.toNat
  · rw [if_pos h3] at h; cases h
  rw [if_neg h3] at h
  by_cases h4 : 4294967296 ≤ r.p ∨ (4294967296 - r.p) / 4096 < r.n.toNat
  · rw [if_pos h4] at h; cases h
  rw [if_neg h4] at h
  by_cases h5 : r.v < bh
  · rw [if_pos h5] at h; cases h
  rw [if_neg h5] at h
  exact ⟨⟨by omega, by omega, by omega, by omega, by omega, by omega⟩, by omega, h⟩
theorem right_mk {bh : Nat} {r : Lf} {rs : List Lf} (hr : r.Ok) (hb : bh ≤ r.v) (h : right (r.v + r.n.toNat * 4096) rs = 0) : right bh (r :: rs) = 0 := by
  obtain ⟨a1, a2, a3, a4, a5, a6⟩ := hr
  unfold right
  rw [if_neg (by omega), if_neg (by omega), if_neg (by omega), if_neg (by omega), if_neg (by omega)]
  exact h
theorem Lf.Ok.cnt_u {r : Lf} (h : r.Ok) : r.cnt * r.u = r.n.toNat * 4096 := by
  unfold Lf.cnt
  exact Nat.div_mul_cancel (Nat.dvd_of_mod_eq_zero h.nu)
theorem Lf.Ok.cnt_pos {r : Lf} (h : r.Ok) : 1 ≤ r.cnt := by
  have h1 := h.cnt_u
  have h2 := h.n1
  rcases Nat.eq_zero_or_pos r.cnt with h0 | h0
  · rw [h0] at h1; omega
  · exact h0
theorem Lf.Ok.page_ok {r : Lf} (h : r.Ok) {i : Nat} (hi : i < r.cnt) : (r.page i).Ok := by
  have h1 := h.cnt_u
  have hm : i * r.u + r.u ≤ r.cnt * r.u := by rw [← Nat.succ_mul]; exact Nat.mul_le_mul_right _ hi
  obtain ⟨a1, a2, a3, a4, a5, a6⟩ := h
  refine ⟨?_, ?_, ?_, ?_⟩
  · show (r.v + i * r.u) % r.u = 0
    rw [Nat.add_mul_mod_self_right]; exact a3
  · show (r.p + i * r.u) % r.u = 0
    rw [Nat.add_mul_mod_self_right]; exact a4
  · show r.v + i * r.u + r.u ≤ _
    omega
  · show r.p + i * r.u + r.u ≤ _
    omega
theorem mem_pages {r : Lf} {q : Pge} (h : q ∈ r.pages) : ∃ i, i < r.cnt ∧ q = r.page i := by
  obtain ⟨i, hi, rfl⟩ := List.mem_map.1 h
  exact ⟨i, List.mem_range.1 hi, rfl⟩
theorem pages_span {r : Lf} (h : r.Ok) {q : Pge} (hq : q ∈ r.pages) : r.v ≤ q.v ∧ q.v + q.u ≤ r.v + r.n.toNat * 4096 := by
  obtain ⟨i, hi, rfl⟩ := mem_pages hq
  have h1 := h.cnt_u
  have hm : i * r.u + r.u ≤ r.cnt * r.u := by rw [← Nat.succ_mul]; exact Nat.mul_le_mul_right _ hi
  show r.v ≤ r.v + i * r.u ∧ r.v + i * r.u + r.u ≤ _
  omega
theorem right_pages : ∀ (rows : List Lf) (bh : Nat), right bh rows = 0 → Chain (pagesOf rows) ∧ ∀ q ∈ pagesOf rows, bh ≤ q.v
  | [], bh, _ => ⟨⟨by simp [pagesOf], by simp [pagesOf]⟩, by simp [pagesOf]⟩
  | r :: rs, bh, h => by
    obtain ⟨hr, hb, hrs⟩ := right_cons h
    obtain ⟨⟨hp, hok⟩, hge⟩ := right_pages rs _ hrs
    have e : pagesOf (r :: rs) = r.pages ++ pagesOf rs := rfl
    rw [e]
    refine ⟨⟨List.pairwise_append.2 ⟨?_, hp, fun a ha c hc => Nat.le_trans (pages_span hr ha).2 (hge c hc)⟩, fun q hq => ?_⟩, fun q hq => ?_⟩
    · unfold Lf.pages
      rw [List.pairwise_map]
      refine List.Pairwise.imp ?_ List.pairwise_lt_range
      intro a c hac
      show r.v + a * r.u + r.u ≤ r.v + c * r.u
      have : a * r.u + r.u ≤ c * r.u := by rw [← Nat.succ_mul]; exact Nat.mul_le_mul_right _ hac
      omega
    · rcases List.mem_append.1 hq with hq | hq
      · obtain ⟨i, hi, rfl⟩ := mem_pages hq
        exact hr.page_ok hi
      · exact hok q hq
    · rcases List.mem_append.1 hq with hq | hq
      · exact Nat.le_trans hb (pages_span hr hq).1
      · have := hge q hq
        have := hr.vl
        omega

/-- a table's level and number -/
abbrev Lab := Nat × Nat
def ens (l : List Lab) (t : Lab) : List Lab := if t ∈ l then l else l ++ [t]
def tab1 (l : List Lab) (q : Pge) : List Lab := if q.b then ens l (1, q.v / 1073741824) else ens (ens l (1, q.v / 1073741824)) (2, q.v / 2097152)
def tabs (qs : List Pge) : List Lab := qs.foldl tab1 [(0, 0)]
theorem tabs_snoc (qs : List Pge) (q : Pge) : tabs (qs ++ [q]) = tab1 (tabs qs) q := by simp [tabs, List.foldl_append]
theorem mem_ens {l : List Lab} {t s : Lab} : s ∈ ens l t ↔ s ∈ l ∨ s = t := by
  unfold ens
  split
  · rename_i h
    constructor
    · exact .inl
    · rintro (h' | rfl)
      · exact h'
      · exact h
  · simp
theorem mem_tab1 {l : List Lab} {q : Pge} {s : Lab} : s ∈ tab1 l q ↔ s ∈ l ∨ s = (1, q.v / 1073741824) ∨ (q.b = false ∧ s = (2, q.v / 2097152)) := by
  unfold tab1
  cases hb : q.b
  · simp [mem_ens, or_assoc]
  · simp [mem_ens]
theorem mem_tabs {qs : List Pge} {s : Lab} : s ∈ tabs qs ↔ s = (0, 0) ∨ ∃ q ∈ qs, s = (1, q.v / 1073741824) ∨ (q.b = false ∧ s = (2, q.v / 2097152)) := by
  have aux : ∀ (qs : List Pge) (l : List Lab), s ∈ qs.foldl tab1 l ↔ s ∈ l ∨ ∃ q ∈ qs, s = (1, q.v / 1073741824) ∨ (q.b = false ∧ s = (2, q.v / 2097152)) := by
    intro qs
    induction qs with
    | nil => intro l; simp
    | cons q r ih =>
      intro l
      rw [List.foldl_cons, ih, mem_tab1]
      constructor
      · rintro ((h | h) | ⟨q', hq', h⟩)
        · exact .inl h
        · exact .inr ⟨q, by simp, h⟩
        · exact .inr ⟨q', by simp [hq'], h⟩
      · rintro (h | ⟨q', hq', h⟩)
        · exact .inl (.inl h)
        · rcases List.mem_cons.1 hq' with rfl | hq'
          · exact .inl (.inr h)
          · exact .inr ⟨q', hq', h⟩
  unfold tabs
  rw [aux]
  simp
theorem ens_nodup {l : List Lab} {t : Lab} (h : l.Nodup) : (ens l t).Nodup := by
  unfold ens
  split
  · exact h
  · rename_i hn
    rw [List.nodup_append]
    exact ⟨h, by simp, fun a ha b hb e => hn (by simp at hb; subst hb; subst e; exact ha)⟩
theorem ens_pre (l : List Lab) (t : Lab) : ∃ m, ens l t = l ++ m := by
  unfold ens; split
  · exact ⟨[], by simp⟩
  · exact ⟨[t], rfl⟩
theorem tab1_pre (l : List Lab) (q : Pge) : ∃ m, tab1 l q = l ++ m := by
  unfold tab1
  obtain ⟨m, hm⟩ := ens_pre l (1, q.v / 1073741824)
  split
  · exact ⟨m, hm⟩
  · obtain ⟨m2, hm2⟩ := ens_pre (ens l (1, q.v / 1073741824)) (2, q.v / 2097152)
    exact ⟨m ++ m2, by rw [hm2, hm, List.append_assoc]⟩
theorem tab1_nodup {l : List Lab} {q : Pge} (h : l.Nodup) : (tab1 l q).Nodup := by
  unfold tab1
  split
  · exact ens_nodup h
  · exact ens_nodup (ens_nodup h)
/-- a list of labels as it may be: the root ahead, none twice -/
structure Good (l : List Lab) : Prop where
  nd : l.Nodup
  root : l[0]? = some (0, 0)
  lev : ∀ t ∈ l, t.1 = 0 → t = (0, 0)
theorem Good.tab1 {l : List Lab} {q : Pge} (h : Good l) : Good (tab1 l q) := by
  refine ⟨tab1_nodup h.nd, ?_, fun t ht h0 => ?_⟩
  · obtain ⟨m, hm⟩ := tab1_pre l q
    rw [hm, List.getElem?_append_left (List.getElem?_eq_some_iff.1 h.root).1]
    exact h.root
  · rcases mem_tab1.1 ht with h1 | rfl | ⟨_, rfl⟩
    · exact h.lev t h1 h0
    · cases h0
    · cases h0
theorem good_tabs (qs : List Pge) : Good (tabs qs) := by
  have aux : ∀ (qs : List Pge) (l : List Lab), Good l → Good (qs.foldl Pg.tab1 l) := by
    intro qs
    induction qs with
    | nil => intro l h; exact h
    | cons q r ih => intro l h; exact ih _ h.tab1
  refine aux qs _ ⟨by simp, rfl, ?_⟩
  intro t ht _
  simpa using ht

/-- what a builder holds: its tables, the numbers of the open ones, the last page -/
structure St where
  all : List (List Nat)
  mid : Nat
  low : Nat
  virt : Nat
def setE (a : List (List Nat)) (t e x : Nat) : List (List Nat) := a.set t ((a.getD t []).set e x)
def zero512 : List Nat := List.replicate 512 0
def ptr (base n : Nat) : Nat := (base + n * 4096) % 4294967296 + 1
def childE (base : Nat) (all : List (List Nat)) (tof e : Nat) : List (List Nat) := setE (all ++ [zero512]) tof e (ptr base all.length)
/-- the open table of a gigabyte -/
def openMid (base : Nat) (s : St) (v : Nat) : St := if s.mid = 0 ∨ v / 1073741824 ≠ s.virt / 1073741824 then ⟨childE base s.all 0 (v / 1073741824), s.all.length, 0, s.virt⟩ else s
def openLow (base : Nat) (s : St) (v : Nat) : St := if s.low = 0 ∨ v / 2097152 ≠ s.virt / 2097152 then ⟨childE base s.all s.mid (v / 2097152 % 512), s.mid, s.all.length, s.virt⟩ else s
def step (base : Nat) (s : St) (q : Pge) : St :=
  let s1 := openMid base s q.v
  if q.b then ⟨setE s1.all s1.mid (q.v / 2097152 % 512) q.num, s1.mid, 0, q.v⟩
  else
    let s2 := openLow base s1 q.v
    ⟨setE s2.all s2.low (q.v / 4096 % 512) q.num, s2.mid, s2.low, q.v⟩
end Pg
end Go.Proofs.Ytblfagmoilhdnaa

/- Plain law: the entries that a builder makes. -/
set_option linter.unusedVariables false
set_option linter.unusedSimpArgs false
namespace Go.Proofs.Ytblfagmoilhdnaa
namespace Pg
theorem or_add {F k : Nat} (h : F % 4096 = 0) (hk : k < 4096) : F ||| k = F + k := by
  have e : F = 2 ^ 12 * (F / 4096) := by omega
  rw [e]
  exact (Nat.two_pow_add_eq_or_of_lt (i := 12) (by simpa using hk) (F / 4096)).symm
theorem num_add {F : Nat} (h : F % 4096 = 0) (t b w x : Bool) : Ent.num ⟨F, t, b, w, x⟩ = F + (1 + (if w then 2 else 0) + (if x then 4 else 0) + (if b then 8 else 0)) := by
  unfold Ent.num
  cases w <;> cases x <;> cases b <;> simp only [Bool.false_eq_true, if_true, if_false, Nat.or_zero, Nat.or_assoc]
  all_goals
    first
    | exact or_add h (by decide)
    | (rw [show (1 ||| (2 ||| (4 ||| 8)) : Nat) = 15 from rfl]; exact or_add h (by decide))
    | (rw [show (1 ||| (2 ||| 4) : Nat) = 7 from rfl]; exact or_add h (by decide))
    | (rw [show (1 ||| (2 ||| 8) : Nat) = 11 from rfl]; exact or_add h (by decide))
    | (rw [show (1 ||| (4 ||| 8) : Nat) = 13 from rfl]; exact or_add h (by decide))
    | (rw [show (1 ||| 2 : Nat) = 3 from rfl]; exact or_add h (by decide))
    | (rw [show (1 ||| 4 : Nat) = 5 from rfl]; exact or_add h (by decide))
    | (rw [show (1 ||| 8 : Nat) = 9 from rfl]; exact or_add h (by decide))
theorem say_add {F : Nat} (h : F % 4096 = 0) (hl : F < 4294967296) (lv : Nat) (b w x : Bool) (hw : Ent.wrong F lv b w x = false) :
    Ent.say (F + (1 + (if w then 2 else 0) + (if x then 4 else 0) + (if b then 8 else 0))) lv = (⟨F, decide (lv < 2) && !b, b, w, x⟩, 0) := by
  obtain ⟨k, hk⟩ : ∃ k, k = 1 + (if w then 2 else 0) + (if x then 4 else 0) + (if b then 8 else 0) := ⟨_, rfl⟩
  rw [← hk]
  have hk16 : k < 16 ∧ k % 2 = 1 := by rw [hk]; cases w <;> cases x <;> cases b <;> decide
  have hb : (k / 8 % 2 = 1) ↔ b = true := by rw [hk]; cases w <;> cases x <;> cases b <;> decide
  have hw2 : (k / 2 % 2 = 1) ↔ w = true := by rw [hk]; cases w <;> cases x <;> cases b <;> decide
  have hx : (k / 4 % 2 = 1) ↔ x = true := by rw [hk]; cases w <;> cases x <;> cases b <;> decide
  have ef : Ent.frame (F + k) = F := by unfold Ent.frame; omega
  have e8 : Ent.bit (F + k) 8 = b := by
    unfold Ent.bit
    rw [Bool.eq_iff_iff, decide_eq_true_iff, ← hb]
    omega
  have e2 : Ent.bit (F + k) 2 = w := by
    unfold Ent.bit
    rw [Bool.eq_iff_iff, decide_eq_true_iff, ← hw2]
    omega
  have e4 : Ent.bit (F + k) 4 = x := by
    unfold Ent.bit
    rw [Bool.eq_iff_iff, decide_eq_true_iff, ← hx]
    omega
  unfold Ent.say
  rw [if_neg (by omega), ef, if_neg (by omega), e8, e2, e4, if_neg (by rw [hw]; simp)]
theorem make_of {F : Nat} (h : F % 4096 = 0) (hl : F < 4294967296) (lv : Nat) (t b w x : Bool) (ht : t = (decide (lv < 2) && !b)) (hw : Ent.wrong F lv b w x = false) :
    Ent.make ⟨F, t, b, w, x⟩ lv = (F + (1 + (if w then 2 else 0) + (if x then 4 else 0) + (if b then 8 else 0)), 0) := by
  unfold Ent.make
  rw [num_add h, say_add h hl lv b w x hw, if_pos (by rw [ht])]
theorem make_table {F : Nat} (h : F % 4096 = 0) (hl : F < 4294967296) : Ent.make ⟨F, true, false, false, false⟩ 0 = (F + 1, 0) := make_of h hl 0 true false false false rfl rfl
theorem make_small {q : Pge} (hq : q.Ok) (hb : q.b = false) : Ent.make ⟨q.p, false, q.b, q.w, q.x⟩ 2 = (q.num, 0) := by
  have hu : q.u = 4096 := by rcases q.u_or with ⟨_, h⟩ | ⟨h, _⟩; rw [hb] at h; cases h; exact h
  have h1 := hq.pa; have h2 := hq.pl
  rw [hu] at h1 h2
  exact make_of h1 (by omega) 2 false q.b q.w q.x (by simp) (by unfold Ent.wrong; rw [hb]; simp)
theorem make_big {q : Pge} (hq : q.Ok) (hb : q.b = true) : Ent.make ⟨q.p, false, q.b, q.w, q.x⟩ 1 = (q.num, 0) := by
  have hu : q.u = 2097152 := by rcases q.u_or with ⟨h, _⟩ | ⟨_, h⟩; exact h; rw [hb] at h; cases h
  have h1 := hq.pa; have h2 := hq.pl
  rw [hu] at h1 h2
  exact make_of (by omega) (by omega) 1 false q.b q.w q.x (by simp [hb]) (by unfold Ent.wrong; rw [hb]; simp; omega)
/-- numbers of an entry -/
theorem num_lt {q : Pge} (hq : q.Ok) : q.num < 18446744073709551616 := by
  have h2 := hq.pl
  unfold Pge.num
  cases q.w <;> cases q.x <;> cases q.b <;> simp <;> omega
theorem ptr_lt (base n : Nat) : ptr base n < 18446744073709551616 := by unfold ptr; omega
theorem setE_len (a : List (List Nat)) (t e x : Nat) : (setE a t e x).length = a.length := by simp [setE]
theorem childE_len (base : Nat) (a : List (List Nat)) (t e : Nat) : (childE base a t e).length = a.length + 1 := by simp [childE, setE_len]
end Pg
end Go.Proofs.Ytblfagmoilhdnaa

/- Closed facts on new tables. -/
set_option linter.unusedVariables false
set_option linter.unusedSimpArgs false
namespace Go.Proofs.Ytblfagmoilhdnaa
open Go.RowKit

theorem tab_built (w : World) : (Instr.buildSlice 42 1 #[(0, .agg (zeros 512).toArray)]).run Try.prog w = .ok (.slice (some ⟨w.heap.size, 0, none⟩) 1 1) (w.alloc (.cells (zeros 512).toArray 24)) := by
  kernel_rfl
theorem tab_made (w : World) : (Instr.makeSlice 42 (.int .i64 1) (.int .i64 1)).run Try.prog w = .ok (.slice (some ⟨w.heap.size, 0, none⟩) 1 1) (w.alloc (.cells (zeros 512).toArray 24)) := by
  kernel_rfl
theorem infoTabA : (Try.prog.info? 24).map (fun i => (i.zero, i.size, i.bytes)) = some (some (.agg (zeros 512).toArray), 512, 4096) := by kernel_rfl
end Go.Proofs.Ytblfagmoilhdnaa

/- The walks of pages.unit, ends, right. -/
set_option linter.unusedVariables false
set_option linter.unusedSimpArgs false
namespace Go.Proofs.Ytblfagmoilhdnaa
open Go.RowKit

def lcells (r : Pg.Lf) : List Value := [.int .u64 (r.v : Nat), .int .u64 (r.p : Nat), .int .i64 r.n, .bool r.b, .bool r.w, .bool r.x]
def lfV (r : Pg.Lf) : Value := .agg #[.int .u64 (r.v : Nat), .int .u64 (r.p : Nat), .int .i64 r.n, .bool r.b, .bool r.w, .bool r.x]
/-- numbers as their fields hold them -/
def Pg.Lf.In (r : Pg.Lf) : Prop := r.v < 18446744073709551616 ∧ r.p < 18446744073709551616 ∧ -9223372036854775808 ≤ r.n ∧ r.n < 9223372036854775808
/-- the slice reads as these rows -/
def IsL (w : World) (B : Nat) (A : Option Addr) (n : Nat) (rows : List Pg.Lf) : Prop := Reads w B 6 A n (rows.flatMap lcells) ∧ (∀ r ∈ rows, r.In) ∧ rows.length = n ∧ n ≤ 9223372036854775807
theorem IsL.below {w w' : World} {B n : Nat} {A : Option Addr} {rows : List Pg.Lf} (h : IsL w B A n rows) (hb : Below B w w') : IsL w' B A n rows := ⟨h.1.below hb, h.2⟩
theorem IsL.more {w : World} {B B' n : Nat} {A : Option Addr} {rows : List Pg.Lf} (h : IsL w B A n rows) (hb : B ≤ B') : IsL w B' A n rows := ⟨h.1.more hb, h.2⟩
theorem lcells_len (r : Pg.Lf) : (lcells r).length = 6 := rfl
theorem flat_at {α β : Type} (f : α → List β) (sz : Nat) (hf : ∀ a, (f a).length = sz) : ∀ (xs : List α) (k j : Nat) (a : α), xs[k]? = some a → j < sz → (xs.flatMap f)[sz * k + j]? = (f a)[j]?
  | [], k, j, a, h, _ => by simp at h
  | x :: xs, 0, j, a, h, hj => by
    simp at h; subst h
    rw [List.flatMap_cons, Nat.mul_zero, Nat.zero_add, List.getElem?_append_left (by rw [hf]; exact hj)]
  | x :: xs, k + 1, j, a, h, hj => by
    rw [List.flatMap_cons, List.getElem?_append_right (by rw [hf, Nat.mul_succ]; omega), hf, Nat.mul_succ, show sz * k + sz + j - sz = sz * k + j by omega]
    exact flat_at f sz hf xs k j a (by simpa using h) hj
/-- where its cells lie -/
theorem IsL.form {w : World} {B n : Nat} {A : Option Addr} {rows : List Pg.Lf} (h : IsL w B A n rows) :
    ∃ b off, Hid (0 < n → A = some ⟨b, off, none⟩ ∧ b < B ∧ ∀ k r, rows[k]? = some r → ∀ j u, (lcells r)[j]? = some u → w.cell? ⟨b, off + k * 6 + j, none⟩ = some u) := by
  rcases Nat.eq_zero_or_pos n with h0 | h0
  · exact ⟨0, 0, fun h => absurd h (by omega)⟩
  · obtain ⟨⟨b, off, sp⟩, rfl, hb, hc⟩ := h.1.2 h0
    have hx : ∀ k r, rows[k]? = some r → ∀ j u, (lcells r)[j]? = some u → (rows.flatMap lcells)[6 * k + j]? = some u := fun k r hr j u hu => by
      rw [flat_at lcells 6 lcells_len rows k j r hr (List.getElem?_eq_some_iff.1 hu).1, hu]
    have hl := h.2.2.1
    have hs : sp = none := by
      have h0r : ∃ r, rows[0]? = some r := ⟨_, List.getElem?_eq_getElem (by omega)⟩
      obtain ⟨r, hr⟩ := h0r
      have := World.cell?_spot (hc 0 _ (hx 0 r hr 0 _ rfl))
      simpa [Addr.add] using this
    subst hs
    refine ⟨b, off, fun _ => ⟨rfl, hb, fun k r hr j u hu => ?_⟩⟩
    have := hc _ _ (hx k r hr j u hu)
    rw [show off + k * 6 + j = off + (6 * k + j) by omega]
    unfold Addr.add at this
    split at this
    · rename_i h0; rw [h0, Nat.add_zero]; exact this
    · exact this
set_option maxRecDepth 100000 in
theorem unit_any (r : Pg.Lf) (w : World) : Calls Try.prog 66 #[lfV r] w fun e w' => e = .returned (.int .u64 (r.u : Nat)) ∧ Below w.heap.size w w' := by
  unfold lfV
  have hu : r.u = if r.b then 2097152 else 4096 := rfl
  cases hb : r.b
  · rw [hb] at hu
    have HU := Lib.hid hu
    clear hu hb
    go_enter Try.func66, Try.ntmps66
    go_wp2
    go_ret
    exact ⟨by rw [HU.out]; rfl, (Below.refl _ _).alloc (Nat.le_refl _) _⟩
  · rw [hb] at hu
    have HU := Lib.hid hu
    clear hu hb
    go_enter Try.func66, Try.ntmps66
    go_wp2
    go_ret
    exact ⟨by rw [HU.out]; rfl, (Below.refl _ _).alloc (Nat.le_refl _) _⟩
def Pg.endsB (a : Nat) (n most : Nat) : Bool := !(decide (most ≤ a) || decide ((most - a) / 4096 < n))
theorem ends_ok (a n most : Nat) (w : World) (h1 : a < most) (h2 : n ≤ (most - a) / 4096) (hm : most ≤ 549755813888) :
    Calls Try.prog 42 #[.int .u64 (a : Nat), .int .i64 (n : Nat), .int .u64 (most : Nat)] w fun e w' => e = .returned (.tuple #[.int .u64 ((a + n * 4096 : Nat) : Int), .bool true]) ∧ w = w' := by
  have e0 : decide ((most : Nat) ≤ a) = false := decide_eq_false (by omega)
  have e1 : IntKind.u64.wrap (n : Int) = (n : Int) := by rw [IntKind.wrap_u64]; omega
  have e2 : ((most : Int) - (a : Int)) % 18446744073709551616 = ((most - a : Nat) : Int) := by omega
  have HA : Hid ((a : Int) + (n : Int) * 4096 = ((a + n * 4096 : Nat) : Int)) := Lib.hid (by omega)
  go_enter Try.func42, Try.ntmps42
  go_wp2
  go_ret2
  exact ⟨by rw [← HA.out]; rfl, rfl⟩
theorem ends_no (a n most : Nat) (w : World) (h : most ≤ a ∨ (most - a) / 4096 < n) (hm : most ≤ 549755813888) (ha : a < 18446744073709551616) (hn : n < 9223372036854775808) :
    Calls Try.prog 42 #[.int .u64 (a : Nat), .int .i64 (n : Nat), .int .u64 (most : Nat)] w fun e w' => e = .returned (.tuple #[.int .u64 0, .bool false]) ∧ w = w' := by
  by_cases h1 : most ≤ a
  · have e0 : decide ((most : Nat) ≤ a) = true := decide_eq_true h1
    clear h
    go_enter Try.func42, Try.ntmps42
    go_wp2
    go_ret2
    exact ⟨rfl, rfl⟩
  · have e0 : decide ((most : Nat) ≤ a) = false := decide_eq_false h1
    have h2 : (most - a) / 4096 < n := by omega
    have e1 : IntKind.u64.wrap (n : Int) = (n : Int) := by rw [IntKind.wrap_u64]; omega
    have e2 : ((most : Int) - (a : Int)) % 18446744073709551616 = ((most - a : Nat) : Int) := by omega
    have e3 : decide (((most : Int) - (a : Int)) / 4096 < (n : Int)) = true := decide_eq_true (by omega)
    clear h
    go_enter Try.func42, Try.ntmps42
    go_wp2
    all_goals
      go_ret2
      exact ⟨rfl, rfl⟩
theorem right_eq (bh v p nm : Nat) (b w x : Bool) (rs : List Pg.Lf) : Pg.right bh (⟨v, p, (nm : Nat), b, w, x⟩ :: rs) =
    if (nm : Int) < 1 ∨ nm * 4096 % Pg.Lf.u ⟨v, p, (nm : Nat), b, w, x⟩ ≠ 0 then 32
    else if v % Pg.Lf.u ⟨v, p, (nm : Nat), b, w, x⟩ ≠ 0 ∨ p % Pg.Lf.u ⟨v, p, (nm : Nat), b, w, x⟩ ≠ 0 then 33
    else if 549755813888 ≤ v ∨ (549755813888 - v) / 4096 < nm then 40
    else if 4294967296 ≤ p ∨ (4294967296 - p) / 4096 < nm then 34
    else if v < bh then 120
    else Pg.right (v + nm * 4096) rs := rfl
set_option maxRecDepth 100000 in
set_option maxHeartbeats 1000000 in
theorem right_any (A : Option Addr) (n c : Nat) (rows : List Pg.Lf) (w : World) (hr : IsL w w.heap.size A n rows) :
    Calls Try.prog 53 #[.slice A n c] w fun e w' => e = .returned (.int .i64 (Pg.right 0 rows : Nat)) ∧ Below w.heap.size w w' := by
  obtain ⟨b, off, HF⟩ := hr.form
  have HL := Lib.hid hr.2.2.1
  have HIN := Lib.hid hr.2.1
  have hn := hr.2.2.2
  clear hr
  go_enter Try.func53, Try.ntmps53
  go_wp2
  go_loopw [3, 13] (fun h i wr => ∃ k bh : Nat, k ≤ n ∧ i = .int .i64 k ∧ h = .int .u64 bh ∧ Hid (bh ≤ 549755813888) ∧ Hid (Pg.right bh (rows.drop k) = Pg.right 0 rows) ∧ Hid (Below w.heap.size w wr)) (fun _ i _ => n - (intOf i).toNat)
  case atStart => exact ⟨0, 0, by omega, rfl, rfl, Lib.hid (by omega), Lib.hid rfl, Lib.hid (Below.refl _ _)⟩
  case round =>
    obtain ⟨k, bh, hk, rfl, rfl, HBH, HR, HB⟩ := hrel
    by_cases hkn : k < n
    · obtain ⟨hA, hbB, hc⟩ := HF.out (by omega)
      subst hA
      obtain ⟨r, hrk⟩ : ∃ r, rows[k]? = some r := ⟨_, List.getElem?_eq_getElem (by have := HL.out; omega)⟩
      have hIn := HIN.out r (List.mem_of_getElem? hrk)
      have hd : rows.drop k = r :: rows.drop (k + 1) := by
        obtain ⟨hlt, he⟩ := List.getElem?_eq_some_iff.1 hrk
        rw [List.drop_eq_getElem_cons hlt, he]
      have c0 := (HB.out.cell (p := ⟨b, off + k * 6, none⟩) hbB).trans (hc k r hrk 0 _ rfl)
      have c1 := (HB.out.cell (p := ⟨b, off + k * 6 + 1, none⟩) hbB).trans (hc k r hrk 1 _ rfl)
      have c2 := (HB.out.cell (p := ⟨b, off + k * 6 + 2, none⟩) hbB).trans (hc k r hrk 2 _ rfl)
      have c3 := (HB.out.cell (p := ⟨b, off + k * 6 + 3, none⟩) hbB).trans (hc k r hrk 3 _ rfl)
      have c4 := (HB.out.cell (p := ⟨b, off + k * 6 + 4, none⟩) hbB).trans (hc k r hrk 4 _ rfl)
      have c5 := (HB.out.cell (p := ⟨b, off + k * 6 + 5, none⟩) hbB).trans (hc k r hrk 5 _ rfl)
      obtain ⟨v, p, m, bg, wt, ex⟩ := r
      clear hc
      go_wp2_with fail
      obtain ⟨g, hg⟩ : ∃ g, g = wr.heap.size := ⟨_, rfl⟩
      have hrow := Row.new wr 47 (lcells ⟨v, p, m, bg, wt, ex⟩)
      have hba : Below w.heap.size w (wr.alloc (.cells (lcells ⟨v, p, m, bg, wt, ex⟩).toArray 47)) := HB.out.alloc HB.out.size _
      have hbs := HB.out.size
      unfold lcells at hrow hba
      refine (unit_any ⟨v, p, m, bg, wt, ex⟩ _).mono ?_
      rintro e w2 ⟨rfl, hb2⟩
      have hrow2 := hrow.below hb2 hrow.lt
      have hba2 := hba.trans (hb2.mono (Nat.le_trans HB.out.size (by simp)))
      rw [← hg] at hrow2 ⊢
      have d0 := hrow2.cell 0
      have d1 := hrow2.cell 1
      have d2 := hrow2.cell 2
      have d3 := hrow2.cell 3
      have d4 := hrow2.cell 4
      have d5 := hrow2.cell 5
      simp at d0 d1 d2 d3 d4 d5
      have hgl := hrow2.lt
      obtain ⟨U, hU⟩ : ∃ U, U = Pg.Lf.u ⟨v, p, m, bg, wt, ex⟩ := ⟨_, rfl⟩
      have hU0 : 0 < U := by rw [hU]; rcases Pg.Lf.u_or ⟨v, p, m, bg, wt, ex⟩ with h | h <;> rw [h] <;> omega
      have hUU : U = 2097152 ∨ U = 4096 := by rw [hU]; exact Pg.Lf.u_or _
      rw [← hU]
      have HU := Lib.hid hU
      have HB2 := Lib.hid hba2
      have HUU := Lib.hid hUU
      have HRK := Lib.hid hrk
      have HD := Lib.hid hd
      have HI := Lib.hid hIn
      have hIn1 := hIn.1; have hIn2 := hIn.2.1; have hIn3 := hIn.2.2.1; have hIn4 := hIn.2.2.2
      simp only at hIn1 hIn2 hIn3 hIn4
      clear hrow hba hb2 hrow2 hba2 hU hUU hrk hd hIn hg c0 c1 c2 c3 c4 c5 HF HB
      by_cases q1 : m < 1
      · go_wp2_with fail
        go_ret
        refine ⟨?_, HB2.out⟩
        rw [← HR.out, HD.out]
        unfold Pg.right
        rw [if_pos (.inl q1)]
        rfl
      obtain ⟨nm, rfl⟩ : ∃ nm : Nat, m = nm := ⟨m.toNat, by omega⟩
      have q1' : decide ((nm : Int) < 1) = false := decide_eq_false q1
      have e1 : IntKind.u64.wrap (nm : Int) = (nm : Int) := by rw [IntKind.wrap_u64]; omega
      obtain ⟨Y, hY⟩ : ∃ Y, Y = nm * 4096 % 18446744073709551616 := ⟨_, rfl⟩
      have e2 : (nm : Int) * 4096 % 18446744073709551616 = (Y : Int) := by rw [hY]; omega
      have e2' : IntKind.u64.wrap ((nm : Int) * 4096) = (Y : Int) := by rw [IntKind.wrap_u64]; exact e2
      have hYU : Y % U = nm * 4096 % U := by
        rw [hY]
        rcases HUU.out with h | h <;> rw [h] <;> omega
      have HYU := Lib.hid hYU
      have hYm : (Y : Int) % (U : Int) = ((Y % U : Nat) : Int) := by simp
      obtain ⟨z1, hz1⟩ : ∃ z, z = Y % U := ⟨_, rfl⟩
      rw [← hz1] at hYm
      have HZ1 := Lib.hid hz1
      clear hY hYU hz1 q1
      by_cases q2 : z1 ≠ 0
      · have f2 : ((z1 : Int) != 0) = true := by rw [bne_iff_ne]; omega
        go_wp2_with fail
        go_ret
        refine ⟨?_, HB2.out⟩
        rw [← HR.out, HD.out]
        have h0 : nm * 4096 % Pg.Lf.u ⟨v, p, nm, bg, wt, ex⟩ ≠ 0 := by rw [← HU.out, ← HYU.out, ← HZ1.out]; exact q2
        rw [right_eq, if_pos (.inr h0)]
        rfl
      have g1 : Hid (¬ (((nm : Nat) : Int) < 1 ∨ nm * 4096 % Pg.Lf.u ⟨v, p, nm, bg, wt, ex⟩ ≠ 0)) := Lib.hid (by
        rintro (h | h)
        · exact (of_decide_eq_false q1') h
        · rw [← HU.out, ← HYU.out, ← HZ1.out] at h; exact q2 h)
      have f2 : ((z1 : Int) != 0) = false := by rw [bne_eq_false_iff_eq]; omega
      clear q2
      have hvm : (v : Int) % (U : Int) = ((v % U : Nat) : Int) := by simp
      have hpm : (p : Int) % (U : Int) = ((p % U : Nat) : Int) := by simp
      obtain ⟨z2, hz2⟩ : ∃ z, z = v % U := ⟨_, rfl⟩
      obtain ⟨z3, hz3⟩ : ∃ z, z = p % U := ⟨_, rfl⟩
      rw [← hz2] at hvm
      rw [← hz3] at hpm
      have HZ2 := Lib.hid hz2
      have HZ3 := Lib.hid hz3
      clear hz2 hz3
      by_cases q3 : z2 ≠ 0
      · have f3 : ((z2 : Int) != 0) = true := by rw [bne_iff_ne]; omega
        go_wp2_with fail
        go_ret
        refine ⟨?_, HB2.out⟩
        rw [← HR.out, HD.out]
        have h0 : v % Pg.Lf.u ⟨v, p, nm, bg, wt, ex⟩ ≠ 0 := by rw [← HU.out, ← HZ2.out]; exact q3
        rw [right_eq, if_neg g1.out, if_pos (.inl h0)]
        rfl
      have f3 : ((z2 : Int) != 0) = false := by rw [bne_eq_false_iff_eq]; omega
      by_cases q4 : z3 ≠ 0
      · have f4 : ((z3 : Int) != 0) = true := by rw [bne_iff_ne]; omega
        have Q3 := Lib.hid q3
        clear q3
        go_wp2_with fail
        go_ret
        refine ⟨?_, HB2.out⟩
        rw [← HR.out, HD.out]
        have h0 : p % Pg.Lf.u ⟨v, p, nm, bg, wt, ex⟩ ≠ 0 := by rw [← HU.out, ← HZ3.out]; exact q4
        rw [right_eq, if_neg g1.out, if_pos (.inr h0)]
        rfl
      have f4 : ((z3 : Int) != 0) = false := by rw [bne_eq_false_iff_eq]; omega
      have g2 : Hid (¬ (v % Pg.Lf.u ⟨v, p, nm, bg, wt, ex⟩ ≠ 0 ∨ p % Pg.Lf.u ⟨v, p, nm, bg, wt, ex⟩ ≠ 0)) := Lib.hid (by
        rintro (h | h)
        · rw [← HU.out, ← HZ2.out] at h; exact q3 h
        · rw [← HU.out, ← HZ3.out] at h; exact q4 h)
      clear q3 q4
      by_cases q5 : 549755813888 ≤ v ∨ (549755813888 - v) / 4096 < nm
      · have Q5 := Lib.hid q5
        have HE := Lib.hid (ends_no v nm 549755813888 w2 q5 (by omega) (by omega) (by omega))
        clear q5
        go_wp2_with fail
        refine HE.out.mono ?_
        rintro e w3 ⟨rfl, rfl⟩
        go_wp2_with fail
        go_ret
        refine ⟨?_, HB2.out⟩
        rw [← HR.out, HD.out]
        rw [right_eq, if_neg g1.out, if_neg g2.out, if_pos Q5.out]
        rfl
      have HE := Lib.hid (ends_ok v nm 549755813888 w2 (by omega) (by omega) (by omega))
      have Q5 := Lib.hid q5
      have HV : Hid (v + nm * 4096 ≤ 549755813888) := Lib.hid (by omega)
      clear q5
      by_cases q6 : 4294967296 ≤ p ∨ (4294967296 - p) / 4096 < nm
      · have Q6 := Lib.hid q6
        have HE2 := Lib.hid (ends_no p nm 4294967296 w2 q6 (by omega) (by omega) (by omega))
        clear q6
        go_wp2_with fail
        refine HE.out.mono ?_
        rintro e w3 ⟨rfl, rfl⟩
        go_wp2_with fail
        refine HE2.out.mono ?_
        rintro e w3 ⟨rfl, rfl⟩
        go_wp2_with fail
        go_ret
        refine ⟨?_, HB2.out⟩
        rw [← HR.out, HD.out]
        rw [right_eq, if_neg g1.out, if_neg g2.out, if_neg Q5.out, if_pos Q6.out]
        rfl
      have HE2 := Lib.hid (ends_ok p nm 4294967296 w2 (by omega) (by omega) (by omega))
      have Q6 := Lib.hid q6
      clear q6
      by_cases q7 : v < bh
      · have f7 : decide ((v : Nat) < bh) = true := decide_eq_true q7
        have Q7 := Lib.hid q7
        clear q7
        go_wp2_with fail
        refine HE.out.mono ?_
        rintro e w3 ⟨rfl, rfl⟩
        go_wp2_with fail
        refine HE2.out.mono ?_
        rintro e w3 ⟨rfl, rfl⟩
        go_wp2_with fail
        go_ret
        refine ⟨?_, HB2.out⟩
        rw [← HR.out, HD.out]
        rw [right_eq, if_neg g1.out, if_neg g2.out, if_neg Q5.out, if_neg Q6.out, if_pos Q7.out]
        rfl
      · have f7 : decide ((v : Nat) < bh) = false := decide_eq_false q7
        have Q7 := Lib.hid q7
        clear q7
        go_wp2_with fail
        refine HE.out.mono ?_
        rintro e w3 ⟨rfl, rfl⟩
        go_wp2_with fail
        refine HE2.out.mono ?_
        rintro e w3 ⟨rfl, rfl⟩
        go_wp2_with fail
        go_roundw
        case rel =>
          refine ⟨k + 1, v + nm * 4096, by omega, by go_num, rfl, HV, Lib.hid ?_, HB2⟩
          have := HR.out
          rw [HD.out] at this
          rw [right_eq, if_neg g1.out, if_neg g2.out, if_neg Q5.out, if_neg Q6.out, if_neg Q7.out] at this
          exact this
        case measure => simp [intOf]; omega
    · have HK : Hid (k = n) := Lib.hid (by omega)
      go_wp2
      go_ret
      refine ⟨?_, HB.out⟩
      rw [← HR.out, HK.out, List.drop_of_length_le (Nat.le_of_eq HL.out)]
      rfl
end Go.Proofs.Ytblfagmoilhdnaa
