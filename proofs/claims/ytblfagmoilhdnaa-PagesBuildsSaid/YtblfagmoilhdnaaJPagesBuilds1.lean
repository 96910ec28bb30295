/- Texts of this claim, one behind the other: PgM, Crc, Wd, Mem, Bytes, Put, Clone, More, Chg, Writer, WriterB, Get, PgB, Book. -/
import Derived.Below
import Derived.Laws.OwnMore
import Derived.Laws.Rows
import Derived.Deep.AppendLies
import Derived.Deep.Draws
import Derived.Maps.AppendAt
import Derived.RegionTactic
import Derived.OwnWalk
import Derived.Test.YtblfagmoilhdnaaRows
import Derived.WalkKit
import Derived.WalkSpells
import Derived.WalkLawsBesides
import Derived.Lib.Hide
import Derived.OpenShut
import Derived.Laws.CopyOwn
import Derived.Deep.OwnRows
import Derived.Deep.RegionHeld3
import Derived.Deep.RegionLaw
import Derived.Deep.RegionLawGrows
import Derived.Laws.Bits64b
import Derived.Deep.MidRow
import Derived.Deep.WholeRow
import Derived.ChangeKeysEq
import Derived.Deep.Cut
import Derived.Deep.DeepCutAuto
import Derived.Deep.QuietTactic
import Derived.BigQuiet
/- The plain law of page tables: what a builder that keeps its last tables open makes, page by page, is what the document's tables say. -/
set_option linter.unusedVariables false
set_option linter.unusedSimpArgs false
namespace Go.Proofs.Ytblfagmoilhdnaa
namespace Pg
structure Lf where
  v : Nat
  p : Nat
  n : Int
  b : Bool
  w : Bool
  x : Bool
def Lf.u (r : Lf) : Nat := if r.b then 2097152 else 4096
/-- what the document asks of rows: the number of the refusal -/
def right : Nat → List Lf → Nat
  | _, [] => 0
  | bh, r :: rs =>
    if r.n < 1 ∨ r.n.toNat * 4096 % r.u ≠ 0 then 32
    else if r.v % r.u ≠ 0 ∨ r.p % r.u ≠ 0 then 33
    else if 549755813888 ≤ r.v ∨ (549755813888 - r.v) / 4096 < r.n.toNat then 40
    else if 4294967296 ≤ r.p ∨ (4294967296 - r.p) / 4096 < r.n.toNat then 34
    else if r.v < bh then 120
    else right (r.v + r.n.toNat * 4096) rs
structure Pge where
  v : Nat
  p : Nat
  b : Bool
  w : Bool
  x : Bool
def Pge.u (q : Pge) : Nat := if q.b then 2097152 else 4096
def Pge.num (q : Pge) : Nat := q.p + (1 + (if q.w then 2 else 0) + (if q.x then 4 else 0) + (if q.b then 8 else 0))
def Lf.page (r : Lf) (i : Nat) : Pge := ⟨r.v + i * r.u, r.p + i * r.u, r.b, r.w, r.x⟩
def Lf.cnt (r : Lf) : Nat := r.n.toNat * 4096 / r.u
def Lf.pages (r : Lf) : List Pge := (List.range r.cnt).map r.page
def pagesOf (rows : List Lf) : List Pge := rows.flatMap Lf.pages
/-- a page that may be laid -/
structure Pge.Ok (q : Pge) : Prop where
  va : q.v % q.u = 0
  pa : q.p % q.u = 0
  vl : q.v + q.u ≤ 549755813888
  pl : q.p + q.u ≤ 4294967296
def Chain (qs : List Pge) : Prop := qs.Pairwise (fun a c => a.v + a.u ≤ c.v) ∧ ∀ q ∈ qs, q.Ok
theorem Lf.u_or (r : Lf) : r.u = 2097152 ∨ r.u = 4096 := by unfold Lf.u; cases r.b <;> simp
theorem Pge.u_or (q : Pge) : q.u = 2097152 ∧ q.b = true ∨ q.u = 4096 ∧ q.b = false := by unfold Pge.u; cases q.b <;> simp
theorem Lf.page_u (r : Lf) (i : Nat) : (r.page i).u = r.u := rfl
/-- what a row that is right says -/
structure Lf.Ok (r : Lf) : Prop where
  n1 : 1 ≤ r.n
  nu : r.n.toNat * 4096 % r.u = 0
  va : r.v % r.u = 0
  pa : r.p % r.u = 0
  vl : r.v + r.n.toNat * 4096 ≤ 549755813888
  pl : r.p + r.n.toNat * 4096 ≤ 4294967296
theorem right_cons {bh : Nat} {r : Lf} {rs : List Lf} (h : right bh (r :: rs) = 0) : r.Ok ∧ bh ≤ r.v ∧ right (r.v + r.n.toNat * 4096) rs = 0 := by
  unfold right at h
  by_cases h1 : r.n < 1 ∨ r.n.toNat * 4096 % r.u ≠ 0
  · rw [if_pos h1] at h; cases h
  rw [if_neg h1] at h
  by_cases h2 : r.v % r.u ≠ 0 ∨ r.p % r.u ≠ 0
  · rw [if_pos h2] at h; cases h
  rw [if_neg h2] at h
  by_cases h3 : 549755813888 ≤ r.v ∨ (549755813888 - r.v) / 4096 < r.n.toNat
  · rw [if_pos h3] at h; cases h
  rw [if_neg h3] at h
  by_cases h4 : 4294967296 ≤ r.p ∨ (4294967296 - r.p) / 4096 < r.n.toNat
  · rw [if_pos h4] at h; cases h
  rw [if_neg h4] at h
  by_cases h5 : r.v < bh
  · rw [if_pos h5] at h; cases h
  rw [if_neg h5] at h
  exact ⟨⟨by omega, by omega, by omega, by omega, by omega, by omega⟩, by omega, h⟩
theorem right_mk {bh : Nat} {r : Lf} {rs : List Lf} (hr : r.Ok) (hb : bh ≤ r.v) (h : right (r.v + r.n.toNat * 4096) rs = 0) : right bh (r :: rs) = 0 := by
  obtain ⟨a1, a2, a3, a4, a5, a6⟩ := hr
  unfold right
  rw [if_neg (by omega), if_neg (by omega), if_neg (by omega), if_neg (by omega), if_neg (by omega)]
  exact h
theorem Lf.Ok.cnt_u {r : Lf} (h : r.Ok) : r.cnt * r.u = r.n.toNat * 4096 := by
  unfold Lf.cnt
  exact Nat.div_mul_cancel (Nat.dvd_of_mod_eq_zero h.nu)
theorem Lf.Ok.cnt_pos {r : Lf} (h : r.Ok) : 1 ≤ r.cnt := by
  have h1 := h.cnt_u
  have h2 := h.n1
  rcases Nat.eq_zero_or_pos r.cnt with h0 | h0
  · rw [h0] at h1; omega
  · exact h0
theorem Lf.Ok.page_ok {r : Lf} (h : r.Ok) {i : Nat} (hi : i < r.cnt) : (r.page i).Ok := by
  have h1 := h.cnt_u
  have hm : i * r.u + r.u ≤ r.cnt * r.u := by rw [← Nat.succ_mul]; exact Nat.mul_le_mul_right _ hi
  obtain ⟨a1, a2, a3, a4, a5, a6⟩ := h
  refine ⟨?_, ?_, ?_, ?_⟩
  · show (r.v + i * r.u) % r.u = 0
    rw [Nat.add_mul_mod_self_right]; exact a3
  · show (r.p + i * r.u) % r.u = 0
    rw [Nat.add_mul_mod_self_right]; exact a4
  · show r.v + i * r.u + r.u ≤ _
    omega
  · show r.p + i * r.u + r.u ≤ _
    omega
theorem mem_pages {r : Lf} {q : Pge} (h : q ∈ r.pages) : ∃ i, i < r.cnt ∧ q = r.page i := by
  obtain ⟨i, hi, rfl⟩ := List.mem_map.1 h
  exact ⟨i, List.mem_range.1 hi, rfl⟩
theorem pages_span {r : Lf} (h : r.Ok) {q : Pge} (hq : q ∈ r.pages) : r.v ≤ q.v ∧ q.v + q.u ≤ r.v + r.n.toNat * 4096 := by
  obtain ⟨i, hi, rfl⟩ := mem_pages hq
  have h1 := h.cnt_u
  have hm : i * r.u + r.u ≤ r.cnt * r.u := by rw [← Nat.succ_mul]; exact Nat.mul_le_mul_right _ hi
  show r.v ≤ r.v + i * r.u ∧ r.v + i * r.u + r.u ≤ _
  omega
theorem right_pages : ∀ (rows : List Lf) (bh : Nat), right bh rows = 0 → Chain (pagesOf rows) ∧ ∀ q ∈ pagesOf rows, bh ≤ q.v
  | [], bh, _ => ⟨⟨by simp [pagesOf], by simp [pagesOf]⟩, by simp [pagesOf]⟩
  | r :: rs, bh, h => by
    obtain ⟨hr, hb, hrs⟩ := right_cons h
    obtain ⟨⟨hp, hok⟩, hge⟩ := right_pages rs _ hrs
    have e : pagesOf (r :: rs) = r.pages ++ pagesOf rs := rfl
    rw [e]
    refine ⟨⟨List.pairwise_append.2 ⟨?_, hp, fun a ha c hc => Nat.le_trans (pages_span hr ha).2 (hge c hc)⟩, fun q hq => ?_⟩, fun q hq => ?_⟩
    · unfold Lf.pages
      rw [List.pairwise_map]
      refine List.Pairwise.imp ?_ List.pairwise_lt_range
      intro a c hac
      show r.v + a * r.u + r.u ≤ r.v + c * r.u
      have : a * r.u + r.u ≤ c * r.u := by rw [← Nat.succ_mul]; exact Nat.mul_le_mul_right _ hac
      omega
    · rcases List.mem_append.1 hq with hq | hq
      · obtain ⟨i, hi, rfl⟩ := mem_pages hq
        exact hr.page_ok hi
      · exact hok q hq
    · rcases List.mem_append.1 hq with hq | hq
      · exact Nat.le_trans hb (pages_span hr hq).1
      · have := hge q hq
        have := hr.vl
        omega

/-- a table's level and number -/
abbrev Lab := Nat × Nat
def ens (l : List Lab) (t : Lab) : List Lab := if t ∈ l then l else l ++ [t]
def tab1 (l : List Lab) (q : Pge) : List Lab := if q.b then ens l (1, q.v / 1073741824) else ens (ens l (1, q.v / 1073741824)) (2, q.v / 2097152)
def tabs (qs : List Pge) : List Lab := qs.foldl tab1 [(0, 0)]
theorem tabs_snoc (qs : List Pge) (q : Pge) : tabs (qs ++ [q]) = tab1 (tabs qs) q := by simp [tabs, List.foldl_append]
theorem mem_ens {l : List Lab} {t s : Lab} : s ∈ ens l t ↔ s ∈ l ∨ s = t := by
  unfold ens
  split
  · rename_i h
    constructor
    · exact .inl
    · rintro (h' | rfl)
      · exact h'
      · exact h
  · simp
theorem mem_tab1 {l : List Lab} {q : Pge} {s : Lab} : s ∈ tab1 l q ↔ s ∈ l ∨ s = (1, q.v / 1073741824) ∨ (q.b = false ∧ s = (2, q.v / 2097152)) := by
  unfold tab1
  cases hb : q.b
  · simp [mem_ens, or_assoc]
  · simp [mem_ens]
theorem mem_tabs {qs : List Pge} {s : Lab} : s ∈ tabs qs ↔ s = (0, 0) ∨ ∃ q ∈ qs, s = (1, q.v / 1073741824) ∨ (q.b = false ∧ s = (2, q.v / 2097152)) := by
  have aux : ∀ (qs : List Pge) (l : List Lab), s ∈ qs.foldl tab1 l ↔ s ∈ l ∨ ∃ q ∈ qs, s = (1, q.v / 1073741824) ∨ (q.b = false ∧ s = (2, q.v / 2097152)) := by
    intro qs
    induction qs with
    | nil => intro l; simp
    | cons q r ih =>
      intro l
      rw [List.foldl_cons, ih, mem_tab1]
      constructor
      · rintro ((h | h) | ⟨q', hq', h⟩)
        · exact .inl h
        · exact .inr ⟨q, by simp, h⟩
        · exact .inr ⟨q', by simp [hq'], h⟩
      · rintro (h | ⟨q', hq', h⟩)
        · exact .inl (.inl h)
        · rcases List.mem_cons.1 hq' with rfl | hq'
          · exact .inl (.inr h)
          · exact .inr ⟨q', hq', h⟩
  unfold tabs
  rw [aux]
  simp
theorem ens_nodup {l : List Lab} {t : Lab} (h : l.Nodup) : (ens l t).Nodup := by
  unfold ens
  split
  · exact h
  · rename_i hn
    rw [List.nodup_append]
    exact ⟨h, by simp, fun a ha b hb e => hn (by simp at hb; subst hb; subst e; exact ha)⟩
theorem ens_pre (l : List Lab) (t : Lab) : ∃ m, ens l t = l ++ m := by
  unfold ens; split
  · exact ⟨[], by simp⟩
  · exact ⟨[t], rfl⟩
theorem tab1_pre (l : List Lab) (q : Pge) : ∃ m, tab1 l q = l ++ m := by
  unfold tab1
  obtain ⟨m, hm⟩ := ens_pre l (1, q.v / 1073741824)
  split
  · exact ⟨m, hm⟩
  · obtain ⟨m2, hm2⟩ := ens_pre (ens l (1, q.v / 1073741824)) (2, q.v / 2097152)
    exact ⟨m ++ m2, by rw [hm2, hm, List.append_assoc]⟩
theorem tab1_nodup {l : List Lab} {q : Pge} (h : l.Nodup) : (tab1 l q).Nodup := by
  unfold tab1
  split
  · exact ens_nodup h
  · exact ens_nodup (ens_nodup h)
/-- a list of labels as it may be: the root ahead, none twice -/
structure Good (l : List Lab) : Prop where
  nd : l.Nodup
  root : l[0]? = some (0, 0)
  lev : ∀ t ∈ l, t.1 = 0 → t = (0, 0)
theorem Good.tab1 {l : List Lab} {q : Pge} (h : Good l) : Good (tab1 l q) := by
  refine ⟨tab1_nodup h.nd, ?_, fun t ht h0 => ?_⟩
  · obtain ⟨m, hm⟩ := tab1_pre l q
    rw [hm, List.getElem?_append_left (List.getElem?_eq_some_iff.1 h.root).1]
    exact h.root
  · rcases mem_tab1.1 ht with h1 | rfl | ⟨_, rfl⟩
    · exact h.lev t h1 h0
    · cases h0
    · cases h0
theorem good_tabs (qs : List Pge) : Good (tabs qs) := by
  have aux : ∀ (qs : List Pge) (l : List Lab), Good l → Good (qs.foldl Pg.tab1 l) := by
    intro qs
    induction qs with
    | nil => intro l h; exact h
    | cons q r ih => intro l h; exact ih _ h.tab1
  refine aux qs _ ⟨by simp, rfl, ?_⟩
  intro t ht _
  simpa using ht

/-- what a builder holds: its tables, the numbers of the open ones, the last page -/
structure St where
  all : List (List Nat)
  mid : Nat
  low : Nat
  virt : Nat
def setE (a : List (List Nat)) (t e x : Nat) : List (List Nat) := a.set t ((a.getD t []).set e x)
def zero512 : List Nat := List.replicate 512 0
def ptr (base n : Nat) : Nat := (base + n * 4096) % 4294967296 + 1
def childE (base : Nat) (all : List (List Nat)) (tof e : Nat) : List (List Nat) := setE (all ++ [zero512]) tof e (ptr base all.length)
/-- the open table of a gigabyte -/
def openMid (base : Nat) (s : St) (v : Nat) : St := if s.mid = 0 ∨ v / 1073741824 ≠ s.virt / 1073741824 then ⟨childE base s.all 0 (v / 1073741824), s.all.length, 0, s.virt⟩ else s
def openLow (base : Nat) (s : St) (v : Nat) : St := if s.low = 0 ∨ v / 2097152 ≠ s.virt / 2097152 then ⟨childE base s.all s.mid (v / 2097152 % 512), s.mid, s.all.length, s.virt⟩ else s
def step (base : Nat) (s : St) (q : Pge) : St :=
  let s1 := openMid base s q.v
  if q.b then ⟨setE s1.all s1.mid (q.v / 2097152 % 512) q.num, s1.mid, 0, q.v⟩
  else
    let s2 := openLow base s1 q.v
    ⟨setE s2.all s2.low (q.v / 4096 % 512) q.num, s2.mid, s2.low, q.v⟩
end Pg
end Go.Proofs.Ytblfagmoilhdnaa

/- Plain law: the check sum, one bit at a time and four bits at a time. No program in sight. -/
set_option linter.unusedVariables false
set_option linter.unusedSimpArgs false
namespace Go.Proofs.Ytblfagmoilhdnaa.Crc
def poly : Nat := 2197175160
/-- one bit of the register -/
def st (r : Nat) : Nat := (r >>> 1) ^^^ (if r % 2 = 1 then poly else 0)
def stN : Nat → Nat → Nat
  | 0, r => r
  | n + 1, r => stN n (st r)
def upd (r c : Nat) : Nat := stN 8 (r ^^^ c)
def run (r : Nat) (bs : List Nat) : Nat := bs.foldl upd r
def ones : Nat := 4294967295
def more (sum : Nat) (bs : List Nat) : Nat := run (sum ^^^ ones) bs ^^^ ones

theorem st_xor (a b : Nat) : st (a ^^^ b) = st a ^^^ st b := by
  unfold st
  have h : (a ^^^ b) % 2 = (a % 2 + b % 2) % 2 := by
    have := Nat.xor_mod_two_pow (a := a) (b := b) (n := 1)
    simp at this
    rw [this]
    rcases Nat.mod_two_eq_zero_or_one a with ha | ha <;> rcases Nat.mod_two_eq_zero_or_one b with hb | hb <;> simp [ha, hb]
  rw [Nat.shiftRight_xor_distrib, h]
  rcases Nat.mod_two_eq_zero_or_one a with ha | ha <;> rcases Nat.mod_two_eq_zero_or_one b with hb | hb <;> simp only [ha, hb]
  · simp
  · simp; rw [Nat.xor_assoc]
  · simp; rw [Nat.xor_assoc, Nat.xor_assoc, Nat.xor_comm poly]
  · simp
    rw [Nat.xor_assoc, ← Nat.xor_assoc poly, Nat.xor_comm poly (b >>> 1), Nat.xor_assoc (b >>> 1), Nat.xor_self, Nat.xor_zero]
theorem stN_xor (n a b : Nat) : stN n (a ^^^ b) = stN n a ^^^ stN n b := by
  induction n generalizing a b with
  | zero => rfl
  | succ n ih => simp only [stN]; rw [st_xor, ih]
theorem stN_add (m n r : Nat) : stN (m + n) r = stN n (stN m r) := by
  induction m generalizing r with
  | zero => simp [stN]
  | succ m ih => rw [Nat.succ_add]; simp only [stN]; exact ih _
theorem st_lt {r : Nat} (h : r < 4294967296) : st r < 4294967296 := by
  unfold st
  refine Nat.xor_lt_two_pow (n := 32) ?_ ?_
  · rw [Nat.shiftRight_eq_div_pow]; omega
  · split <;> simp [poly]
theorem stN_lt {r : Nat} (n : Nat) (h : r < 4294967296) : stN n r < 4294967296 := by
  induction n generalizing r with
  | zero => exact h
  | succ n ih => exact ih (st_lt h)
theorem stN_even (n x : Nat) : stN n (x <<< n) = x := by
  induction n with
  | zero => simp [stN]
  | succ n ih =>
    simp only [stN]
    have : st (x <<< (n + 1)) = x <<< n := by
      unfold st
      have h2 : x <<< (n + 1) = 2 * (x <<< n) := by rw [Nat.shiftLeft_succ]
      rw [h2]
      have : ¬ (2 * (x <<< n)) % 2 = 1 := by omega
      rw [if_neg this, Nat.shiftRight_eq_div_pow]
      simp
    rw [this, ih]
/-- four bits at a time -/
theorem st4 (r : Nat) : stN 4 r = (r >>> 4) ^^^ stN 4 (r &&& 15) := by
  have h : r = ((r >>> 4) <<< 4) ^^^ (r &&& 15) := by
    apply Nat.eq_of_testBit_eq
    intro i
    have h15 : (15 : Nat) = 2 ^ 4 - 1 := rfl
    rw [Nat.testBit_xor, Nat.testBit_shiftLeft, Nat.testBit_and, h15, Nat.testBit_two_pow_sub_one, Nat.testBit_shiftRight]
    by_cases hi : i < 4
    · have : ¬ 4 ≤ i := by omega
      simp [hi, this]
    · have : 4 ≤ i := by omega
      simp [hi, this, show 4 + (i - 4) = i by omega]
  conv => lhs; rw [h]
  rw [stN_xor, stN_even]
theorem upd_two (r c : Nat) : upd r c = (let a := r ^^^ c; let b := (a >>> 4) ^^^ stN 4 (a &&& 15); (b >>> 4) ^^^ stN 4 (b &&& 15)) := by
  unfold upd
  rw [show (8 : Nat) = 4 + 4 from rfl, stN_add, st4, st4 (r ^^^ c)]
theorem upd_lt {r c : Nat} (h : r < 4294967296) (hc : c < 4294967296) : upd r c < 4294967296 := stN_lt 8 (Nat.xor_lt_two_pow (n := 32) h hc)
theorem run_lt {r : Nat} (bs : List Nat) (h : r < 4294967296) (hb : ∀ c ∈ bs, c < 256) : run r bs < 4294967296 := by
  induction bs generalizing r with
  | nil => exact h
  | cons c bs ih => exact ih (upd_lt h (by have := hb c (by simp); omega)) (fun x hx => hb x (by simp [hx]))
theorem run_snoc (r : Nat) (bs : List Nat) (c : Nat) : run r (bs ++ [c]) = upd (run r bs) c := by simp [run]
theorem run_append (r : Nat) (bs cs : List Nat) : run r (bs ++ cs) = run (run r bs) cs := by simp [run]
theorem more_append (s : Nat) (bs cs : List Nat) : more (more s bs) cs = more s (bs ++ cs) := by
  unfold more
  rw [run_append, Nat.xor_assoc, Nat.xor_self, Nat.xor_zero]
theorem more_lt {s : Nat} (bs : List Nat) (h : s < 4294967296) (hb : ∀ c ∈ bs, c < 256) : more s bs < 4294967296 :=
  Nat.xor_lt_two_pow (n := 32) (run_lt bs (Nat.xor_lt_two_pow (n := 32) h (by decide)) hb) (by decide)
theorem more_zero : more 0 [0] = 0x527D5351 := by decide
end Go.Proofs.Ytblfagmoilhdnaa.Crc

/- Plain law of layer 1: numbers as bytes, what a writer lays and a reader takes. No program in sight. -/
set_option linter.unusedVariables false
set_option linter.unusedSimpArgs false
namespace Go.Proofs.Ytblfagmoilhdnaa.Wd
def le : Nat → Nat → List Nat
  | 0, _ => []
  | k + 1, n => n % 256 :: le k (n / 256)
def unle : List Nat → Nat
  | [] => 0
  | b :: r => b + 256 * unle r
theorem le_len (k n : Nat) : (le k n).length = k := by
  induction k generalizing n with
  | zero => rfl
  | succ k ih => simp [le, ih]
theorem le_lt (k n : Nat) : ∀ b ∈ le k n, b < 256 := by
  induction k generalizing n with
  | zero => simp [le]
  | succ k ih =>
    intro b hb
    simp only [le, List.mem_cons] at hb
    rcases hb with rfl | hb
    · omega
    · exact ih _ b hb
theorem unle_le (k n : Nat) : unle (le k n) = n % 256 ^ k := by
  induction k generalizing n with
  | zero => simp [le, unle, Nat.mod_one]
  | succ k ih =>
    simp only [le, unle, ih]
    rw [Nat.pow_succ, Nat.mul_comm (256 ^ k), Nat.mod_mul]
theorem le_unle (bs : List Nat) (h : ∀ b ∈ bs, b < 256) : le bs.length (unle bs) = bs := by
  induction bs with
  | nil => rfl
  | cons b r ih =>
    have hb := h b (by simp)
    simp only [List.length_cons, le, unle]
    rw [show (b + 256 * unle r) % 256 = b by omega, show (b + 256 * unle r) / 256 = unle r by omega, ih (fun x hx => h x (by simp [hx]))]
theorem unle_lt (bs : List Nat) (h : ∀ b ∈ bs, b < 256) : unle bs < 256 ^ bs.length := by
  induction bs with
  | nil => simp [unle]
  | cons b r ih =>
    have hb := h b (by simp)
    have := ih (fun x hx => h x (by simp [hx]))
    simp only [List.length_cons, unle, Nat.pow_succ]
    omega
theorem le_succ (k n : Nat) : le (k + 1) n = le k n ++ [n / 256 ^ k % 256] := by
  induction k generalizing n with
  | zero => simp [le]
  | succ k ih =>
    rw [le, ih (n / 256)]
    simp only [le, List.cons_append, Nat.div_div_eq_div_mul, Nat.pow_succ]
    rw [Nat.mul_comm 256]
theorem unle_append (a b : List Nat) : unle (a ++ b) = unle a + 256 ^ a.length * unle b := by
  induction a with
  | nil => simp [unle]
  | cons x r ih => simp only [List.cons_append, unle, ih, List.length_cons, Nat.pow_succ]; rw [Nat.mul_add, Nat.add_assoc, ← Nat.mul_assoc, Nat.mul_comm (256 ^ r.length) 256]
def gap (at_ align : Nat) : Nat := (align - at_ % align) % align
/-- a writer: what it has, its first refusal -/
structure W where
  b : List Nat
  e : Nat
deriving DecidableEq
def W.lay (s : W) (x : List Nat) : W := if s.e = 0 then ⟨s.b ++ x, 0⟩ else s
def W.text (s : W) (t : List Nat) : W := if s.e = 0 then (if t.length < 65536 then ⟨s.b ++ le 2 t.length ++ t, 0⟩ else ⟨s.b, 3⟩) else s
def W.pad (s : W) (al : Int) : W := if s.e = 0 then (if 1 ≤ al ∧ al ≤ 4096 then ⟨s.b ++ List.replicate (gap s.b.length al.toNat) 0, 0⟩ else ⟨s.b, 1⟩) else s
def W.sealUp (s : W) (fr : Int) : W := if s.e = 0 then (if 0 ≤ fr ∧ fr ≤ s.b.length then ⟨s.b ++ le 4 (Crc.more 0 (s.b.drop fr.toNat)), 0⟩ else ⟨s.b, 1⟩) else s
/-- a reader: its bytes, its place, its first refusal -/
structure R where
  b : List Nat
  at_ : Nat
  e : Nat
deriving DecidableEq
/-- the next n bytes, skip of them left out: there they are, or the reader is refused -/
def R.next (s : R) (skip n : Nat) : R × Option (List Nat) :=
  if s.e ≠ 0 then (s, none) else if s.b.length < s.at_ + skip + n then (⟨s.b, s.at_, 10⟩, none) else (s, some ((s.b.drop (s.at_ + skip)).take n))
def R.take (s : R) (k : Nat) : R × Nat := match s.next 0 k with
  | (s', none) => (s', 0)
  | (s', some x) => (⟨s'.b, s'.at_ + k, s'.e⟩, unle x)
def R.bytes (s : R) (n : Int) : R × List Nat :=
  if s.e ≠ 0 then (s, []) else if n < 0 then (⟨s.b, s.at_, 1⟩, []) else match s.next 0 n.toNat with
  | (s', none) => (s', [])
  | (s', some x) => (⟨s'.b, s'.at_ + n.toNat, s'.e⟩, x)
def R.text (s : R) (most : Int) : R × List Nat := match s.next 0 2 with
  | (s', none) => (s', [])
  | (s', some x) => if most < (unle x : Int) then (⟨s'.b, s'.at_, 3⟩, []) else match s'.next 2 (unle x) with
    | (s'', none) => (s'', [])
    | (s'', some y) => (⟨s''.b, s''.at_ + 2 + unle x, s''.e⟩, y)
def R.pad (s : R) (al : Int) : R :=
  if s.e ≠ 0 then s else if 1 ≤ al ∧ al ≤ 4096 then match s.next 0 (gap s.at_ al.toNat) with
    | (s', none) => s'
    | (s', some x) => if x.all (· == 0) then ⟨s'.b, s'.at_ + x.length, s'.e⟩ else ⟨s'.b, s'.at_, 5⟩
  else ⟨s.b, s.at_, 1⟩
def R.sealUp (s : R) (fr : Int) : R :=
  if s.e ≠ 0 then s else if 0 ≤ fr ∧ fr ≤ s.at_ then match s.next 0 4 with
    | (s', none) => s'
    | (s', some x) => if unle x = Crc.more 0 ((s'.b.take s'.at_).drop fr.toNat) then ⟨s'.b, s'.at_ + 4, s'.e⟩ else ⟨s'.b, s'.at_, 11⟩
  else ⟨s.b, s.at_, 1⟩
def R.end_ (s : R) : Nat := if s.e = 0 ∧ s.at_ < s.b.length then 12 else s.e
end Go.Proofs.Ytblfagmoilhdnaa.Wd

/- Plain words for memory: a slice that reads as a list, a block that is known whole, an append onto a row of the call's own. (From the guide's page extra-words, turned to this seat.) -/
set_option linter.unusedVariables false
set_option linter.unusedSimpArgs false
namespace Go.Proofs.Ytblfagmoilhdnaa
open Go.RowKit
theorem block_of_add (a : Addr) (n : Nat) : (a.add n).block = a.block := by unfold Addr.add; split <;> rfl
theorem add_of_add (a : Addr) (i j : Nat) : (a.add i).add j = a.add (i + j) := by
  unfold Addr.add
  by_cases hi : i = 0 <;> by_cases hj : j = 0 <;> simp [hi, hj, Nat.add_assoc]

def Reads (w : World) (B size : Nat) (A : Option Addr) (n : Nat) (xs : List Value) : Prop :=
  xs.length = n * size ∧ (0 < n → ∃ ad, A = some ad ∧ ad.block < B ∧ ∀ j u, xs[j]? = some u → w.cell? (ad.add j) = some u)

section
variable {w w' : World} {B B' size n : Nat} {A : Option Addr} {xs : List Value}
theorem Reads.none_ : Reads w B size A 0 [] := ⟨by simp, fun h => absurd h (by omega)⟩
theorem Reads.at_ {k : Nat} (h : Reads w B 1 A n xs) (hk : k < n) : ∃ ad u, A = some ad ∧ ad.block < B ∧ xs[k]? = some u ∧ w.cell? (ad.add k) = some u := by
  obtain ⟨ad, e, hb, hc⟩ := h.2 (by omega)
  have hl : k < xs.length := by have := h.1; omega
  exact ⟨ad, xs[k], e, hb, List.getElem?_eq_getElem hl, hc k _ (List.getElem?_eq_getElem hl)⟩
theorem Reads.keep (h : Reads w B size A n xs) (hk : ∀ p : Addr, p.block < B → w'.cell? p = w.cell? p) : Reads w' B size A n xs :=
  ⟨h.1, fun hn => by
    obtain ⟨ad, e, hb, hc⟩ := h.2 hn
    exact ⟨ad, e, hb, fun j u hu => (hk _ (by rw [block_of_add]; exact hb)).trans (hc j u hu)⟩⟩
theorem Reads.more (h : Reads w B size A n xs) (hB : B ≤ B') : Reads w B' size A n xs :=
  ⟨h.1, fun hn => by
    obtain ⟨ad, e, hb, hc⟩ := h.2 hn
    exact ⟨ad, e, by omega, hc⟩⟩
theorem Reads.below (h : Reads w B size A n xs) (hb : Below B w w') : Reads w' B size A n xs := h.keep fun _ hp => hb.cell hp
theorem Reads.drew (h : Reads w B size A n xs) : Reads w.drew B size A n xs := h
theorem Reads.drewN (h : Reads w B size A n xs) (k : Nat) : Reads (w.drewN k) B size A n xs := h
theorem Reads.alloc (h : Reads w B size A n xs) (hB : B ≤ w.heap.size) (o : Obj) : Reads (w.alloc o) B size A n xs := h.keep fun p hp => World.cell?_alloc_lt w o p (by omega)
theorem Reads.setCell (h : Reads w B size A n xs) {p : Addr} (hB : B ≤ p.block) (u : Value) : Reads (w.setCell p u) B size A n xs :=
  h.keep fun q hq => World.cell?_setCell_other w p q u (fun e => by subst e; omega)
theorem Reads.grown (h : Reads w B size A n xs) {row : Option Nat} (hg : w.grownBy w' row) (hB : B ≤ w.heap.size) (hr : ∀ g, row = some g → B ≤ g) : Reads w' B size A n xs :=
  h.keep fun p hp => World.cell?_of_block (hg.block p.block (by omega) (fun e => by have := hr _ e.symm; omega))
theorem Reads.cut (h : Reads w B size A n xs) {k cap : Nat} (hk : k ≤ n) (hc : n ≤ cap) :
    Reads w B size (if cap = k then A else A.map (·.add (k * size))) (n - k) (xs.drop (k * size)) := by
  refine ⟨by rw [List.length_drop, h.1, Nat.sub_mul], fun hn => ?_⟩
  obtain ⟨ad, rfl, hb, hcell⟩ := h.2 (by omega)
  rw [if_neg (by omega)]
  refine ⟨ad.add (k * size), rfl, by rw [block_of_add]; exact hb, fun j u hu => ?_⟩
  rw [add_of_add]
  exact hcell _ u (by rw [← hu, List.getElem?_drop])
theorem Reads.of_own {base : Nat} {e : TypeId} {c : Nat} (h : w.ownsRow base e size (.slice A n c) n xs) : Reads w w.heap.size size A n xs := by
  refine ⟨h.1, fun hn => ?_⟩
  obtain ⟨g, cap, hv, _, hlt⟩ := h.form hn
  have hA : A = some ⟨g, 0, none⟩ := by injection hv
  subst hA
  exact ⟨_, rfl, hlt, h.cells (g := g) rfl⟩
end

def Blk (w : World) (g : Nat) (t : TypeId) (cs : Array Value) : Prop := w.heap[g]? = some (.cells cs t (0, 0))

section
variable {w w' : World} {g : Nat} {t : TypeId} {cs : Array Value}
theorem Blk.lt (h : Blk w g t cs) : g < w.heap.size := by
  rcases Nat.lt_or_ge g w.heap.size with hlt | hge
  · exact hlt
  · unfold Blk at h; rw [Array.getElem?_eq_none hge] at h; cases h
theorem Blk.cell (h : Blk w g t cs) (i : Nat) : w.cell? ⟨g, i, none⟩ = cs[i]? := cell_of_row w g i cs t (0, 0) h
theorem Blk.frozen (h : Blk w g t cs) (i : Nat) : w.frozen? ⟨g, i, none⟩ = false := by
  unfold Blk at h
  simp [World.frozen?, h]
theorem Blk.new (w : World) (t : TypeId) (cs : Array Value) : Blk (w.alloc (.cells cs t)) w.heap.size t cs := heap_alloc_new w _
theorem Blk.drew (h : Blk w g t cs) : Blk w.drew g t cs := h
theorem Blk.drewN (h : Blk w g t cs) (n : Nat) : Blk (w.drewN n) g t cs := h
theorem Blk.alloc (h : Blk w g t cs) (o : Obj) : Blk (w.alloc o) g t cs := (Below.heap_alloc w o g h.lt).trans h
theorem Blk.set_ (h : Blk w g t cs) (i : Nat) (u : Value) : Blk (w.setCell ⟨g, i, none⟩ u) g t (cs.setIfInBounds i u) := by
  unfold Blk at h ⊢
  simp [World.setCell, Array.getElem?_modify, h]
theorem Blk.far (h : Blk w g t cs) {p : Addr} (hp : g ≠ p.block) (u : Value) : Blk (w.setCell p u) g t cs := (Below.heap_setCell w p u g hp).trans h
theorem Blk.below {B : Nat} (h : Blk w g t cs) (hb : Below B w w') (hg : g < B) : Blk w' g t cs := (hb.block g hg).trans h
theorem Blk.grown {row : Option Nat} (h : Blk w g t cs) (hb : w.grownBy w' row) (hg : some g ≠ row) : Blk w' g t cs := (hb.block g h.lt hg).trans h
theorem Blk.ne_ {g' : Nat} {t' : TypeId} {cs' : Array Value} (h : Blk w g t cs) (h' : Blk w g' t' cs') (hne : t ≠ t') : g ≠ g' := by
  rintro rfl
  unfold Blk at h h'
  rw [h] at h'
  injection h' with h'
  injection h' with _ ht
  exact hne ht
theorem own_blk_ne {base : Nat} {e : TypeId} {size n : Nat} {v : Value} {xs : List Value} (h : w.ownsRow base e size v n xs) (hg : Blk w g t cs) (hne : e ≠ t) : v.ownBlock ≠ some g := by
  rcases h.2 with ⟨rfl, _⟩ | ⟨g', cap, cur, rfl, _, hh, _⟩
  · simp [Value.ownBlock]
  · intro he
    have : g' = g := by simpa [Value.ownBlock] using he
    subst this
    exact Blk.ne_ (t := e) hh hg hne rfl
end

section
variable {P : Program} (w : World)

theorem run_append_of_nil (base : Nat) (t ty e : TypeId) (i : TypeInfo) (size : Nat) (ht : P.underlying t = some (.slice e)) (hi : P.info? e = some i)
    (v : Value) (n : Nat) (xs : List Value) (hown : w.ownsRow base e size v n xs) (c : Nat) : (Builtin.append_ #[t, t] ty #[v, .slice none 0 c]).run P w = .ok v w := by
  rcases hown.2 with ⟨rfl, rfl⟩ | ⟨g, cap, cur, rfl, _, _, hnc, _⟩
  · simp [Builtin.append_, run_underlying ht, sizeOf, typeInfo, hi, Builtin.lenOf, Builtin.firstCells]
  · simp [Builtin.append_, run_underlying ht, sizeOf, typeInfo, hi, Builtin.lenOf, Builtin.firstCells, hnc, storeCells]

theorem run_append_any (base : Nat) (t ty e : TypeId) (i : TypeInfo) (z : Value) (size bytes : Nat) (ht : P.underlying t = some (.slice e)) (hi : P.info? e = some i) (hz : i.zero = some z)
    (hsize : i.size = size) (hby : i.bytes = bytes) (hzs : z.cells.size = size) (hsz : 0 < size)
    (v : Value) (n : Nat) (xs : List Value) (hown : w.ownsRow base e size v n xs)
    (B : Nat) (A : Option Addr) (m c : Nat) (news : List Value) (hr : Reads w B size A m news) (h1 : ∀ u ∈ news, u.oneCell' = true)
    (h63 : n + m ≤ maxLen) (hbytes : (n + m) * bytes ≤ 140737488355328) (hbase : base ≤ w.heap.size) :
    ∃ v' w', (Builtin.append_ #[t, t] ty #[v, .slice A m c]).run P w = .ok v' w' ∧ w'.ownsRow base e size v' (n + m) (xs ++ news) ∧ w.grownBy w' v.ownBlock ∧
      (v'.ownBlock = v.ownBlock ∨ v'.ownBlock = some w.heap.size) := by
  rcases A with _ | ad
  · have hm : m = 0 := by
      rcases Nat.eq_zero_or_pos m with h0 | h0
      · exact h0
      · obtain ⟨ad, h, _⟩ := hr.2 h0
        cases h
    subst hm
    have hn : news = [] := List.eq_nil_of_length_eq_zero (by simpa using hr.1)
    subst hn
    exact ⟨v, w, run_append_of_nil w base t ty e i size ht hi v n xs hown c, by simpa using hown, World.grownBy.refl w _, .inl rfl⟩
  · have hcells : ∀ j u, news[j]? = some u → w.cell? (ad.add j) = some u := by
      intro j u hu
      rcases Nat.eq_zero_or_pos m with h0 | h0
      · subst h0
        have hn : news = [] := List.eq_nil_of_length_eq_zero (by simpa using hr.1)
        subst hn
        simp at hu
      · obtain ⟨ad', h, _, hc⟩ := hr.2 h0
        injection h with h
        subst h
        exact hc j u hu
    obtain ⟨v', w', hrun, h2, h3, _, h5⟩ := run_append_own_at (P := P) w base t ty e i z size bytes ht hi hz hsize hby hzs hsz v n xs hown ad m c news hr.1 hcells h1 h63 hbytes hbase
    exact ⟨v', w', hrun, h2, h3, h5⟩

theorem wp_append_any {o : Oper} {a : Act} {K : Act → World → Prop} {Q : Exit → Act → World → Prop} (s x : Operand) (t : TypeId)
    (ho : o.op = .call { callee := .builtin .append, args := #[s, x], argTypes := #[t, t] })
    (base : Nat) (e : TypeId) (i : TypeInfo) (z : Value) (size bytes : Nat) (ht : P.underlying t = some (.slice e)) (hi : P.info? e = some i) (hz : i.zero = some z)
    (hsize : i.size = size) (hby : i.bytes = bytes) (hzs : z.cells.size = size) (hsz : 0 < size)
    (v : Value) (n : Nat) (xs : List Value) (hs : a.eval s = v) (hown : w.ownsRow base e size v n xs)
    (B : Nat) (A : Option Addr) (m c : Nat) (news : List Value) (hx : a.eval x = .slice A m c) (hr : Reads w B size A m news) (h1 : ∀ u ∈ news, u.oneCell' = true)
    (h63 : n + m ≤ maxLen) (hbytes : (n + m) * bytes ≤ 140737488355328) (hbase : base ≤ w.heap.size)
    (h : ∀ v' w', w'.ownsRow base e size v' (n + m) (xs ++ news) → w.grownBy w' v.ownBlock → (v'.ownBlock = v.ownBlock ∨ v'.ownBlock = some w.heap.size) → K (a.put o.dst v') w') : o.wp P a w K Q := by
  obtain ⟨v', w', hrun, h2, h3, h4⟩ := run_append_any (P := P) w base t o.type e i z size bytes ht hi hz hsize hby hzs hsz v n xs hown B A m c news hr h1 h63 hbytes hbase
  unfold Oper.wp execOp
  simp only [ho, resolve, invoke, builtin, Sem.run_bind, Sem.run_pure, Result.andThen_ok, List.map_toArray, List.map_cons, List.map_nil, hs, hx, hrun]
  exact h v' w' h2 h3 h4

theorem wpList_append_any {ops : Array Oper} {rest : List Oper} {o : Oper} {a : Act} {Q : Exit → Act → World → Prop} (hgd : o.guard = none) (s x : Operand) (t : TypeId)
    (ho : o.op = .call { callee := .builtin .append, args := #[s, x], argTypes := #[t, t] })
    (base : Nat) (e : TypeId) (i : TypeInfo) (z : Value) (size bytes : Nat) (ht : P.underlying t = some (.slice e)) (hi : P.info? e = some i) (hz : i.zero = some z)
    (hsize : i.size = size) (hby : i.bytes = bytes) (hzs : z.cells.size = size) (hsz : 0 < size)
    (v : Value) (n : Nat) (xs : List Value) (hs : a.eval s = v) (hown : w.ownsRow base e size v n xs)
    (B : Nat) (A : Option Addr) (m c : Nat) (news : List Value) (hx : a.eval x = .slice A m c) (hr : Reads w B size A m news) (h1 : ∀ u ∈ news, u.oneCell' = true)
    (h63 : n + m ≤ maxLen) (hbytes : (n + m) * bytes ≤ 140737488355328) (hbase : base ≤ w.heap.size)
    (h : ∀ v' w', w'.ownsRow base e size v' (n + m) (xs ++ news) → w.grownBy w' v.ownBlock → (v'.ownBlock = v.ownBlock ∨ v'.ownBlock = some w.heap.size) → wpList P ops Q rest (a.put o.dst v') w') : wpList P ops Q (o :: rest) a w :=
  wpList_plain hgd fun _ hK => wp_append_any w s x t ho base e i z size bytes ht hi hz hsize hby hzs hsz v n xs hs hown B A m c news hx hr h1 h63 hbytes hbase fun v' w' h2 h3 h4 => hK _ _ (h v' w' h2 h3 h4)

theorem step_append_any {ops : Array Oper} {o : Oper} {a : Act} {K : Act → World → Prop} {Q : Exit → Act → World → Prop} {E : Prop} (hgd : o.guard = none) (s x : Operand) (t : TypeId)
    (ho : o.op = .call { callee := .builtin .append, args := #[s, x], argTypes := #[t, t] })
    (base : Nat) (e : TypeId) (i : TypeInfo) (z : Value) (size bytes : Nat) (ht : P.underlying t = some (.slice e)) (hi : P.info? e = some i) (hz : i.zero = some z)
    (hsize : i.size = size) (hby : i.bytes = bytes) (hzs : z.cells.size = size) (hsz : 0 < size)
    (v : Value) (n : Nat) (xs : List Value) (hs : a.eval s = v) (hown : w.ownsRow base e size v n xs)
    (B : Nat) (A : Option Addr) (m c : Nat) (news : List Value) (hx : a.eval x = .slice A m c) (hr : Reads w B size A m news) (h1 : ∀ u ∈ news, u.oneCell' = true)
    (h63 : n + m ≤ maxLen) (hbytes : (n + m) * bytes ≤ 140737488355328) (hbase : base ≤ w.heap.size)
    (h : ∀ v' w', w'.ownsRow base e size v' (n + m) (xs ++ news) → w.grownBy w' v.ownBlock → (v'.ownBlock = v.ownBlock ∨ v'.ownBlock = some w.heap.size) → K (a.put o.dst v') w') :
    if Region.wanted o (yielded ops a.tmps) = true then Oper.wp P o a w K Q else E := by
  have hw : Region.wanted o (yielded ops a.tmps) = true := by simp [Region.wanted, hgd]
  rw [if_pos hw]
  exact wp_append_any w s x t ho base e i z size bytes ht hi hz hsize hby hzs hsz v n xs hs hown B A m c news hx hr h1 h63 hbytes hbase h
end

/-- an owned row, as a slice value written out -/
theorem own_slice {w : World} {base : Nat} {e : TypeId} {size n : Nat} {v : Value} {xs : List Value} (h : w.ownsRow base e size v n xs) : ∃ A c, v = .slice A n c ∧ Reads w w.heap.size size A n xs := by
  rcases h.2 with ⟨rfl, rfl⟩ | ⟨g, cap, cur, rfl, _⟩
  · exact ⟨none, 0, rfl, Reads.of_own h⟩
  · exact ⟨_, cap, rfl, Reads.of_own h⟩
theorem wpList_wanted {P : Program} {ops : Array Oper} {Q : Exit → Act → World → Prop} {a : Act} {w : World} {rest : List Oper} {o : Oper} (hw : Region.wanted o (yielded ops a.tmps) = true)
    (h : ∀ K : Act → World → Prop, (∀ a w, wpList P ops Q rest a w → K a w) → o.wp P a w K Q) : wpList P ops Q (o :: rest) a w :=
  wpList_step fun K hK => by rw [if_pos hw]; exact h K hK
/-- append onto nil or onto a row of the call's own, the source whatever: the new slice is written out -/
theorem wpList_append_sl {P : Program} (w : World) {ops : Array Oper} {rest : List Oper} {o : Oper} {a : Act} {Q : Exit → Act → World → Prop} (hgd : Region.wanted o (yielded ops a.tmps) = true) (s x : Operand) (t : TypeId)
    (ho : o.op = .call { callee := .builtin .append, args := #[s, x], argTypes := #[t, t] })
    (base : Nat) (e : TypeId) (i : TypeInfo) (z : Value) (size bytes : Nat) (ht : P.underlying t = some (.slice e)) (hi : P.info? e = some i) (hz : i.zero = some z)
    (hsize : i.size = size) (hby : i.bytes = bytes) (hzs : z.cells.size = size) (hsz : 0 < size)
    (v : Value) (n : Nat) (xs : List Value) (hs : a.eval s = v) (hown : w.ownsRow base e size v n xs)
    (B : Nat) (A : Option Addr) (m c : Nat) (news : List Value) (hx : a.eval x = .slice A m c) (hr : Reads w B size A m news) (h1 : ∀ u ∈ news, u.oneCell' = true)
    (h63 : n + m ≤ maxLen) (hbytes : (n + m) * bytes ≤ 140737488355328) (hbase : base ≤ w.heap.size)
    (h : ∀ A' c' w', w'.ownsRow base e size (.slice A' (n + m) c') (n + m) (xs ++ news) → Reads w' w'.heap.size size A' (n + m) (xs ++ news) → w.grownBy w' v.ownBlock →
      ((Value.slice A' (n + m) c').ownBlock = v.ownBlock ∨ (Value.slice A' (n + m) c').ownBlock = some w.heap.size) → wpList P ops Q rest (a.put o.dst (.slice A' (n + m) c')) w') : wpList P ops Q (o :: rest) a w := by
  refine wpList_wanted hgd fun _ hK => wp_append_any w s x t ho base e i z size bytes ht hi hz hsize hby hzs hsz v n xs hs hown B A m c news hx hr h1 h63 hbytes hbase fun v' w' h2 h3 h4 => ?_
  obtain ⟨A', c', rfl, hR⟩ := own_slice h2
  exact hK _ _ (h A' c' w' h2 hR h3 h4)
/-- what an append onto nil leaves: a new slice of just these cells, in a block of its own if there is any -/
def NewSl (w w' : World) (e : TypeId) (size : Nat) (A : Option Addr) (m c : Nat) (news : List Value) : Prop :=
  w'.ownsRow w.heap.size e size (.slice A m c) m news ∧ Reads w' w'.heap.size size A m news ∧ w.grownBy w' none ∧ ((Value.slice A m c).ownBlock = none ∨ (Value.slice A m c).ownBlock = some w.heap.size)
theorem NewSl.below {w w' : World} {e : TypeId} {size m c : Nat} {A : Option Addr} {news : List Value} (h : NewSl w w' e size A m c news) : Below w.heap.size w w' :=
  ⟨h.2.2.1.os, h.2.2.1.tape, h.2.2.1.output, h.2.2.1.size, fun k hk => h.2.2.1.block k hk (by simp)⟩
theorem NewSl.reads {w w' : World} {e : TypeId} {size m c : Nat} {A : Option Addr} {news : List Value} (h : NewSl w w' e size A m c news) : Reads w' w'.heap.size size A m news := h.2.1
/-- append([]T(nil), xs...) -/
theorem wpList_append_nil {P : Program} (w : World) {ops : Array Oper} {rest : List Oper} {o : Oper} {a : Act} {Q : Exit → Act → World → Prop} (hgd : Region.wanted o (yielded ops a.tmps) = true) (s x : Operand) (t : TypeId)
    (ho : o.op = .call { callee := .builtin .append, args := #[s, x], argTypes := #[t, t] })
    (e : TypeId) (i : TypeInfo) (z : Value) (size bytes : Nat) (ht : P.underlying t = some (.slice e)) (hi : P.info? e = some i) (hz : i.zero = some z)
    (hsize : i.size = size) (hby : i.bytes = bytes) (hzs : z.cells.size = size) (hsz : 0 < size) (hs : a.eval s = .slice none 0 0)
    (B : Nat) (A : Option Addr) (m c : Nat) (news : List Value) (hx : a.eval x = .slice A m c) (hr : Reads w B size A m news) (h1 : ∀ u ∈ news, u.oneCell' = true)
    (h63 : m ≤ maxLen) (hbytes : m * bytes ≤ 140737488355328)
    (h : ∀ A' c' w', Hid (NewSl w w' e size A' m c' news) → wpList P ops Q rest (a.put o.dst (.slice A' m c')) w') : wpList P ops Q (o :: rest) a w := by
  refine wpList_append_sl w hgd s x t ho w.heap.size e i z size bytes ht hi hz hsize hby hzs hsz _ 0 [] hs (World.ownsRow_nil _ _ _ _) B A m c news hx hr h1 (by omega) (by simpa using hbytes) (Nat.le_refl _) fun A' c' w' h2 h3 h4 h5 => ?_
  rw [Nat.zero_add] at h2 h3 h5 ⊢
  rw [List.nil_append] at h2 h3
  exact h A' c' w' ⟨h2, h3, h4, h5⟩
/-- append(own, xs...) where own was made in this call from block 'base' on -/
theorem wpList_append_more {P : Program} (w : World) {ops : Array Oper} {rest : List Oper} {o : Oper} {a : Act} {Q : Exit → Act → World → Prop} (hgd : Region.wanted o (yielded ops a.tmps) = true) (s x : Operand) (t : TypeId)
    (ho : o.op = .call { callee := .builtin .append, args := #[s, x], argTypes := #[t, t] })
    (base : Nat) (e : TypeId) (i : TypeInfo) (z : Value) (size bytes : Nat) (ht : P.underlying t = some (.slice e)) (hi : P.info? e = some i) (hz : i.zero = some z)
    (hsize : i.size = size) (hby : i.bytes = bytes) (hzs : z.cells.size = size) (hsz : 0 < size)
    (A0 : Option Addr) (n c0 : Nat) (xs : List Value) (hs : a.eval s = .slice A0 n c0) (hown : w.ownsRow base e size (.slice A0 n c0) n xs)
    (B : Nat) (A : Option Addr) (m c : Nat) (news : List Value) (hx : a.eval x = .slice A m c) (hr : Reads w B size A m news) (h1 : ∀ u ∈ news, u.oneCell' = true)
    (h63 : n + m ≤ maxLen) (hbytes : (n + m) * bytes ≤ 140737488355328) (hbase : base ≤ w.heap.size)
    (h : ∀ A' c' w', Hid (w'.ownsRow base e size (.slice A' (n + m) c') (n + m) (xs ++ news) ∧ Reads w' w'.heap.size size A' (n + m) (xs ++ news) ∧ Below base w w') → wpList P ops Q rest (a.put o.dst (.slice A' (n + m) c')) w') : wpList P ops Q (o :: rest) a w := by
  refine wpList_append_sl w hgd s x t ho base e i z size bytes ht hi hz hsize hby hzs hsz _ n xs hs hown B A m c news hx hr h1 h63 hbytes hbase fun A' c' w' h2 h3 h4 h5 => ?_
  exact h A' c' w' ⟨h2, h3, (Below.refl _ _).grown h4 hbase fun k hk => (hown.lt k hk).1⟩
end Go.Proofs.Ytblfagmoilhdnaa

/- Words for a slice of bytes that reads as a list of numbers, and for a block that is known whole. -/
set_option linter.unusedVariables false
set_option linter.unusedSimpArgs false
namespace Go.Proofs.Ytblfagmoilhdnaa
open Go.RowKit

def u8 (b : Nat) : Value := .int .u8 (b : Int)
/-- the slice reads as these bytes -/
def IsB (w : World) (B : Nat) (A : Option Addr) (n : Nat) (bs : List Nat) : Prop := Reads w B 1 A n (bs.map u8) ∧ (∀ b ∈ bs, b < 256) ∧ n ≤ 9223372036854775807
theorem IsB.len {w : World} {B n : Nat} {A : Option Addr} {bs : List Nat} (h : IsB w B A n bs) : bs.length = n := by have := h.1.1; simpa using this
theorem IsB.below {w w' : World} {B n : Nat} {A : Option Addr} {bs : List Nat} (h : IsB w B A n bs) (hb : Below B w w') : IsB w' B A n bs := ⟨h.1.below hb, h.2⟩
theorem IsB.more {w : World} {B B' n : Nat} {A : Option Addr} {bs : List Nat} (h : IsB w B A n bs) (hb : B ≤ B') : IsB w B' A n bs := ⟨h.1.more hb, h.2⟩
theorem IsB.alloc {w : World} {B n : Nat} {A : Option Addr} {bs : List Nat} (h : IsB w B A n bs) (hB : B ≤ w.heap.size) (o : Obj) : IsB (w.alloc o) B A n bs := ⟨h.1.alloc hB o, h.2⟩
theorem take_snoc (bs : List Nat) (k : Nat) (h : k < bs.length) : bs.take (k + 1) = bs.take k ++ [bs.getD k 0] := by
  rw [List.take_succ_eq_append_getElem h]; simp [List.getD_eq_getElem?_getD, h]
theorem getD_mem (bs : List Nat) (k : Nat) (h : k < bs.length) : bs.getD k 0 ∈ bs := by
  simp [List.getD_eq_getElem?_getD, h]
/-- where its bytes lie -/
theorem IsB.form {w : World} {B n : Nat} {A : Option Addr} {bs : List Nat} (h : IsB w B A n bs) :
    ∃ b off, Hid (0 < n → A = some ⟨b, off, none⟩ ∧ b < B ∧ ∀ k, k < n → w.cell? ⟨b, off + k, none⟩ = some (.int .u8 ((bs.getD k 0 : Nat) : Int))) := by
  rcases Nat.eq_zero_or_pos n with h0 | h0
  · exact ⟨0, 0, fun h => absurd h (by omega)⟩
  · obtain ⟨⟨b, off, sp⟩, rfl, hb, hc⟩ := h.1.2 h0
    have hl := h.len
    have hx : ∀ k, k < n → (bs.map u8)[k]? = some (.int .u8 ((bs.getD k 0 : Nat) : Int)) := fun k hk => by
      simp [List.getD_eq_getElem?_getD, show k < bs.length by omega, u8]
    have hs : sp = none := by
      have := World.cell?_spot (hc 0 _ (hx 0 h0))
      simpa [Addr.add] using this
    subst hs
    refine ⟨b, off, fun _ => ⟨rfl, hb, fun k hk => ?_⟩⟩
    have := hc k _ (hx k hk)
    unfold Addr.add at this
    split at this
    · rename_i h0; subst h0; simpa using this
    · simpa using this

/-- what the row's step tells of a slice of integers that came in (the shell's own word) -/
def IsRow (k : IntKind) (w : World) (a : Option Addr) (len cap : Nat) (zs : List Int) : Prop :=
  (a = none ∧ len = 0 ∧ cap = 0 ∧ zs = []) ∨
  ∃ x, a = some x ∧ len ≤ cap ∧ cap ≤ maxLen ∧ zs.length = cap ∧ (∀ i, i < zs.length → w.cell? (x.add i) = some (.int k (zs.getD i 0))) ∧ ∀ n ∈ zs, (Lit.int k n).wf = true
theorem nat_of_u8 {a : Int} (h : (Lit.int .u8 a).wf = true) : ∃ s : Nat, a = s ∧ s < 256 := by
  have := bounds_u8 h
  exact ⟨a.toNat, by omega, by omega⟩
theorem nat_of_u32 {a : Int} (h : (Lit.int .u32 a).wf = true) : ∃ s : Nat, a = s ∧ s < 4294967296 := by
  have := bounds_u32 h
  exact ⟨a.toNat, by omega, by omega⟩
theorem nat_of_u64 {a : Int} (h : (Lit.int .u64 a).wf = true) : ∃ s : Nat, a = s ∧ s < 18446744073709551616 := by
  have := bounds_u64 h
  exact ⟨a.toNat, by omega, by omega⟩
theorem IsRow.isB {w : World} {a : Option Addr} {len cap : Nat} {zs : List Int} (h : IsRow .u8 w a len cap zs) : ∃ bs, IsB w w.heap.size a len bs := by
  rcases h with ⟨rfl, rfl, rfl, rfl⟩ | ⟨x, rfl, hl, hm, hz, hc, hw⟩
  · exact ⟨[], ⟨by simp, fun h => absurd h (by omega)⟩, by simp, by omega⟩
  · refine ⟨(zs.take len).map Int.toNat, ⟨by simp; omega, fun h0 => ⟨x, rfl, ?_, fun j u hu => ?_⟩⟩, ?_, by unfold maxLen at hm; omega⟩
    · have := World.block_lt_of_cell? w _ (hc 0 (by omega))
      rwa [block_of_add] at this
    · have hj : j < len := by have := (List.getElem?_eq_some_iff.1 hu).1; simp at this; omega
      rw [hc j (by omega)]
      have hz0 := hw (zs.getD j 0) (by rw [List.getD_eq_getElem?_getD]; simp [show j < zs.length by omega])
      have hb := bounds_u8 hz0
      simp [hj, show j < zs.length by omega] at hu
      rw [← hu]
      unfold u8
      have e : zs.getD j 0 = zs[j]'(by omega) := by simp [List.getD_eq_getElem?_getD, show j < zs.length by omega]
      rw [e] at hb ⊢
      congr 2
      omega
    · intro b hb
      obtain ⟨z, hz1, rfl⟩ := List.mem_map.1 hb
      have := bounds_u8 (hw z (List.mem_of_mem_take hz1))
      omega
theorem ret_bool {a b : Bool} (h : a = b) : Ending.returned (.bool a) = .returned (.bool b) := by rw [h]
theorem below_drewN {B : Nat} {a w : World} (h : Below B a w) (n : Nat) : Below B a (w.drewN n) := ⟨h.os, h.tape, h.output, h.size, h.block⟩
/-- block g is just these cells -/
def Row (w : World) (g : Nat) (t : TypeId) (cs : List Value) : Prop := w.heap[g]? = some (.cells cs.toArray t (0, 0))
section
variable {w w' : World} {g : Nat} {t : TypeId} {cs : List Value}
theorem Row.out (h : Row w g t cs) : w.heap[g]? = some (.cells cs.toArray t (0, 0)) := h
theorem Row.lt (h : Row w g t cs) : g < w.heap.size := Blk.lt (cs := cs.toArray) h
theorem Row.cell (h : Row w g t cs) (i : Nat) : w.cell? ⟨g, i, none⟩ = cs[i]? := by rw [Blk.cell (cs := cs.toArray) h]; simp
theorem Row.frozen (h : Row w g t cs) (i : Nat) : w.frozen? ⟨g, i, none⟩ = false := Blk.frozen (cs := cs.toArray) h i
theorem Row.new (w : World) (t : TypeId) (cs : List Value) : Row (w.alloc (.cells cs.toArray t)) w.heap.size t cs := heap_alloc_new w _
theorem Row.drew (h : Row w g t cs) : Row w.drew g t cs := h
theorem Row.drewN (h : Row w g t cs) (n : Nat) : Row (w.drewN n) g t cs := h
theorem Row.alloc (h : Row w g t cs) (o : Obj) : Row (w.alloc o) g t cs := Blk.alloc (cs := cs.toArray) h o
theorem Row.set_ (h : Row w g t cs) (i : Nat) (u : Value) : Row (w.setCell ⟨g, i, none⟩ u) g t (cs.set i u) := by
  have := Blk.set_ (cs := cs.toArray) h i u
  unfold Blk at this; unfold Row
  rw [this]; simp
theorem Row.far (h : Row w g t cs) {p : Addr} (hp : g ≠ p.block) (u : Value) : Row (w.setCell p u) g t cs := Blk.far (cs := cs.toArray) h hp u
theorem Row.below {B : Nat} (h : Row w g t cs) (hb : Below B w w') (hg : g < B) : Row w' g t cs := Blk.below (cs := cs.toArray) h hb hg
theorem Row.reads {B : Nat} (h : Row w g t cs) (off n : Nat) (hn : off + n ≤ cs.length) (hB : g < B) : Reads w B 1 (some ⟨g, off, none⟩) n ((cs.drop off).take n) := by
  refine ⟨by simp; omega, fun _ => ⟨_, rfl, hB, fun j u hu => ?_⟩⟩
  have hj : j < n := by have := (List.getElem?_eq_some_iff.1 hu).1; simp at this; omega
  have : w.cell? ⟨g, off + j, none⟩ = some u := by rw [h.cell, ← hu]; simp [hj]
  unfold Addr.add
  split
  · rename_i h0; subst h0; simpa using this
  · simpa using this
end
theorem IsB.of_row {w : World} {B g off n : Nat} {t : TypeId} {cs : List Value} {bs : List Nat} (h : Row w g t cs) (hcs : (cs.drop off).take n = bs.map u8) (hn : bs.length = n) (hb : ∀ b ∈ bs, b < 256) (hB : g < B) (hmax : n ≤ 9223372036854775807)
    (hl : off + n ≤ cs.length) : IsB w B (some ⟨g, off, none⟩) n bs := by
  have := h.reads (B := B) off n hl hB
  rw [hcs] at this
  exact ⟨this, hb, hmax⟩
end Go.Proofs.Ytblfagmoilhdnaa

/- The walks of word.width and word.Put over numbers of each type: a number's bytes are laid behind the list, in new memory. -/
set_option linter.unusedVariables false
set_option linter.unusedSimpArgs false
namespace Go.Proofs.Ytblfagmoilhdnaa
open Go.RowKit

/-- a slice of bytes that the call has made, in a row of its own from block 'base' on -/
def Own (w : World) (base : Nat) (A : Option Addr) (n c : Nat) (bs : List Nat) : Prop := w.ownsRow base 5 1 (.slice A n c) n (bs.map u8) ∧ (∀ b ∈ bs, b < 256) ∧ n ≤ 9223372036854775807
theorem Own.isB {w : World} {base n c : Nat} {A : Option Addr} {bs : List Nat} (h : Own w base A n c bs) : IsB w w.heap.size A n bs := ⟨Reads.of_own h.1, h.2⟩
theorem Own.len {w : World} {base n c : Nat} {A : Option Addr} {bs : List Nat} (h : Own w base A n c bs) : bs.length = n := by have := h.1.1; simpa using this
theorem Own.below {w w' : World} {base n c : Nat} {A : Option Addr} {bs : List Nat} (h : Own w base A n c bs) (hb : Below w.heap.size w w') : Own w' base A n c bs := by
  refine ⟨⟨h.1.1, ?_⟩, h.2⟩
  rcases h.1.2 with h2 | ⟨g, cap, cur, hv, hg, hh, r⟩
  · exact .inl h2
  · refine .inr ⟨g, cap, cur, hv, hg, ?_, r⟩
    have hlt : g < w.heap.size := Blk.lt (cs := cur) hh
    rw [hb.block g hlt]; exact hh
theorem Own.mono {w : World} {base base' n c : Nat} {A : Option Addr} {bs : List Nat} (h : Own w base A n c bs) (hb : base' ≤ base) : Own w base' A n c bs := by
  refine ⟨⟨h.1.1, ?_⟩, h.2⟩
  rcases h.1.2 with h2 | ⟨g, cap, cur, hv, hg, r⟩
  · exact .inl h2
  · exact .inr ⟨g, cap, cur, hv, by omega, r⟩
theorem info5w : (Try.prog.info? 5).map (fun i => (i.zero, i.size, i.bytes)) = some (some (.int .u8 0), 1, 1) := by kernel_rfl
theorem size5w : (Try.prog.info? 5).map (·.size) = some 1 := by kernel_rfl
theorem one_u8w (bs : List Nat) : ∀ v ∈ bs.map u8, v.oneCell' = true := by intro v hv; simp at hv; obtain ⟨b, _, rfl⟩ := hv; rfl
theorem madeCells_onew (z : Value) (n : Nat) : madeCells #[z] n = (List.replicate n z).toArray := by
  unfold madeCells
  apply Array.ext
  · simp
  · intro i h1 h2
    simp [Nat.mod_one]
/-- a made row, filled at its head, is owned -/
theorem own_of_splice {w : World} {g n k : Nat} {Z X : List Value} (h : w.heap[g]? = some (.cells (splice Z 0 X).toArray 5 (0, 0))) (hX : X.length = n) (hZ : Z.length = n + k) (hk : n + k ≤ maxLen) : w.ownsRow g 5 1 (.slice (some ⟨g, 0, none⟩) n (n + k)) n X := by
  refine ⟨by simp [hX], .inr ⟨g, n + k, _, rfl, Nat.le_refl _, h, by omega, hk, ?_, ?_⟩⟩
  · simp [splice, hX, hZ]
  · simp [splice, hX]
/-- make([]T, l, c), one cell an element -/
theorem run_make_rowN' {P : Program} (t e : TypeId) (z : Value) (bytes : Nat) (ht : P.underlying t = some (.slice e)) (hinfo : (P.info? e).map (fun i => (i.zero, i.size, i.bytes)) = some (some z, 1, bytes)) (hz1 : z.cells = #[z])
    (kl kc : IntKind) (n c : Nat) (hnc : n ≤ c) (hbytes : bytes * c ≤ 281474976710656) (h63 : c ≤ 9223372036854775807) (w : World) :
    (Instr.makeSlice t (.int kl (n : Int)) (.int kc (c : Int))).run P w = .ok (.slice (some ⟨w.heap.size, 0, none⟩) n c) (w.alloc (.cells (madeCells #[z] c) e)) := by
  obtain ⟨i, hi, hzz⟩ := Option.map_eq_some_iff.1 hinfo
  simp only [Prod.mk.injEq] at hzz
  obtain ⟨hz, hs, hb⟩ := hzz
  have hb' : (i.bytes : Int) * (c : Int) ≤ 281474976710656 := by
    have h : ((i.bytes * c : Nat) : Int) ≤ 281474976710656 := by rw [hb]; omega
    rwa [Int.natCast_mul] at h
  have hr := run_make (P := P) w t e i z ht hi hz kl kc n c (by omega) (by omega) hb' (by omega)
  simp only [Int.toNat_natCast] at hr
  rw [hz1, hs, Nat.mul_one] at hr
  exact hr
theorem shr_u64 (n i : Nat) : (n >>> i : Nat) = n / 2 ^ i := Nat.shiftRight_eq_div_pow n i

set_option maxRecDepth 100000 in
set_option maxHeartbeats 1000000 in
theorem width_uint64 (w : World) : Calls Try.prog 65 #[] w fun e w' => e = .returned (.int .i64 8) ∧ w = w' := by
  go_enter Try.func65, Try.ntmps65
  go_wp2
  go_loop [1, 2] (fun n x => (x = .int .u64 18446744073709551615 ∧ n = .int .i64 0) ∨ (x = .int .u64 72057594037927935 ∧ n = .int .i64 1) ∨ (x = .int .u64 281474976710655 ∧ n = .int .i64 2) ∨ (x = .int .u64 1099511627775 ∧ n = .int .i64 3) ∨ (x = .int .u64 4294967295 ∧ n = .int .i64 4) ∨ (x = .int .u64 16777215 ∧ n = .int .i64 5) ∨ (x = .int .u64 65535 ∧ n = .int .i64 6) ∨ (x = .int .u64 255 ∧ n = .int .i64 7) ∨ (x = .int .u64 0 ∧ n = .int .i64 8)) (fun n _ => 8 - (intOf n).toNat)
  case atStart => exact .inl ⟨congrArg (Value.int _) (by decide), rfl⟩
  case round =>
    rcases hrel with ⟨rfl, rfl⟩ | ⟨rfl, rfl⟩ | ⟨rfl, rfl⟩ | ⟨rfl, rfl⟩ | ⟨rfl, rfl⟩ | ⟨rfl, rfl⟩ | ⟨rfl, rfl⟩ | ⟨rfl, rfl⟩ | ⟨rfl, rfl⟩
    all_goals
      go_wp2
      first
        | (go_ret; exact ⟨rfl, rfl⟩)
        | (go_round
           case rel => simp
           case measure => simp [intOf])

set_option maxRecDepth 100000 in
set_option maxHeartbeats 1000000 in
theorem put_uint64 (A : Option Addr) (m c : Nat) (bs : List Nat) (n : Nat) (w : World) (ha : IsB w w.heap.size A m bs) (hm : m ≤ 140737488351232) (hn : n < 18446744073709551616) :
    Calls Try.prog 84 #[.slice A m c, .int .u64 (n : Nat)] w fun e w' => (∃ g c', e = .returned (.slice (some ⟨g, 0, none⟩) (m + 8) c') ∧ Own w' w.heap.size (some ⟨g, 0, none⟩) (m + 8) c' (bs ++ Wd.le 8 n)) ∧ Below w.heap.size w w' := by
  have hmk := run_make_rowN' (P := Try.prog) 25 5 (.int .u8 0) 1 Try.underlying25 info5w rfl .i64 .i64 m (m + 8) (by omega) (by omega) (by omega)
  rw [madeCells_onew] at hmk
  rw [show ((m + 8 : Nat) : Int) = (m : Int) + 8 by omega] at hmk
  have HBS := Lib.hid ha.2.1
  have HL := Lib.hid ha.len
  obtain ⟨X, hX⟩ : ∃ X, X = bs.map u8 := ⟨_, rfl⟩
  have hXl : X.length = m := by rw [hX]; simpa using ha.len
  obtain ⟨Z, hZ⟩ : ∃ Z : List Value, Z = List.replicate (m + 8) (.int .u8 0) := ⟨_, rfl⟩
  rw [← hZ] at hmk
  have hZl : Z.length = m + 8 := by rw [hZ]; simp
  have hr := ha.1
  rw [← hX] at hr
  have h1 : ∀ v ∈ X, v.oneCell' = true := by rw [hX]; exact one_u8w bs
  have HX := Lib.hid hX
  have HXl := Lib.hid hXl
  have HZl := Lib.hid hZl
  have H1 := Lib.hid h1
  have HR := Lib.hid hr
  obtain ⟨i0, hi0, hz1, hz2, hz3⟩ := info_parts info5w
  have HI := Lib.hid hi0; have HZ2 := Lib.hid hz2
  have ew : IntKind.u64.wrap (n : Int) = (n : Int) := by rw [IntKind.wrap_u64]; omega
  have HN := Lib.hid hn
  clear hX hXl hZ hZl h1 ha hr hi0 hz1 hz2 hz3 hn
  go_enter Try.func84, Try.ntmps84
  go_wp2_with (first
    | (go_at_call 65; refine (width_uint64 _).mono ?_; rintro e w' ⟨rfl, rfl⟩)
    | (with_reducible refine wpList_copy_splice rfl (.tmp 13) (.tmp 14) 25 25 rfl 5 Try.underlying25 size5w _ _ _ _ _ _ rfl rfl w.heap.size 0 Z 5 (Row.new w 5 Z).out X ?hn ?hpos ?hfit H1.out w.heap.size w ((Below.refl _ _).alloc (Nat.le_refl _) _) (Nat.le_refl _) ?_; rotate_right; intro w2 HG hb2))
  case hn => rw [HXl.out]; exact (Nat.min_eq_left (Nat.le_refl _)).symm
  case hpos => intro h0; have h2 := HR.out.alloc (Nat.le_refl _) (.cells Z.toArray 5); obtain ⟨ad, e, _, hc⟩ := h2.2 (by have := HXl.out; omega); first | exact ⟨rfl, ad, e, hc⟩ | exact ⟨ad, e, hc⟩
  case hfit => have := HXl.out; have := HZl.out; omega
  have hown : w2.ownsRow w.heap.size 5 1 (.slice (some ⟨w.heap.size, 0, none⟩) m (m + 8)) m X := own_of_splice HG.out HXl.out HZl.out (by unfold maxLen; omega)
  have HOWN := Lib.hid hown
  have HB2 := Lib.hid hb2
  clear hown hb2 HG hmk
  go_loopw [5, 17] (fun v i wr => ∃ j : Nat, j ≤ 8 ∧ i = .int .i64 j ∧ v = .slice (some ⟨w.heap.size, 0, none⟩) (m + j) (m + 8) ∧ Hid (wr.ownsRow w.heap.size 5 1 (.slice (some ⟨w.heap.size, 0, none⟩) (m + j) (m + 8)) (m + j) ((bs ++ Wd.le j n).map u8)) ∧ Hid (Below w.heap.size w wr)) (fun _ i _ => 8 - (intOf i).toNat)
  case atStart => exact ⟨0, by omega, rfl, rfl, Lib.hid (by rw [Wd.le, List.append_nil, ← HX.out]; exact HOWN.out), HB2⟩
  case round =>
    obtain ⟨j, hj, rfl, rfl, HO, HBr⟩ := hrel
    by_cases hjn : j < 8
    · obtain ⟨y, hy⟩ : ∃ y, y = n / 256 ^ j % 256 := ⟨_, rfl⟩
      obtain ⟨s, hs⟩ : ∃ s, s = n / 256 ^ j := ⟨_, rfl⟩
      have e1 : (n : Int) / 2 ^ (8 * j) = (s : Int) := by
        rw [hs, show (256 : Nat) = 2 ^ 8 from rfl, ← Nat.pow_mul]
        norm_cast
      have e2 : IntKind.u8.wrap (s : Int) = (y : Int) := by rw [hy, ← hs]; simp [IntKind.wrap, IntKind.bits, IntKind.signed]
      have HY := Lib.hid hy
      clear hy hs
      go_wp2_with (at_builtin; refine wpList_append_fits _ rfl (.tmp 20) (.tmp 26) 25 rfl w.heap.size 5 i0 1 Try.underlying25 HI.out HZ2.out w.heap.size (m + j) (m + 8) _ rfl (HO.out.alloc _) ⟨wr.heap.size, 0, none⟩ 1 1 [.int .u8 (y : Int)] rfl rfl (cell_one_new _ _ _) (ints_oneCell .u8 [(y : Int)]) (by omega) ?_; intro w3 hown3 hg3; have HO3 := Lib.hid hown3; have HG3 := Lib.hid hg3; clear hown3 hg3)
      have hb3 : Below w.heap.size w w3 := ((HBr.out.alloc HBr.out.size (.cells #[.int .u8 (y : Int)] 5)).grown HG3.out (Nat.le_trans HBr.out.size (by simp)) (fun k hk => by simp at hk; omega))
      have HB3 := Lib.hid hb3
      clear hb3
      go_roundw
      case rel => exact ⟨j + 1, by omega, by go_num, rfl, Lib.hid (by have h := HO3.out; rw [Wd.le_succ, ← List.append_assoc, List.map_append, ← HY.out]; exact h), HB3⟩
      case measure => simp [intOf]; omega
    · have HJ : Hid (j = 8) := Lib.hid (by omega)
      go_wp2_with fail
      go_ret
      have hjj := HJ.out
      subst hjj
      exact ⟨⟨w.heap.size, _, rfl, HO.out, (by
        intro b hb
        rcases List.mem_append.1 hb with h | h
        · exact HBS.out b h
        · exact Wd.le_lt _ _ b h), by omega⟩, HBr.out⟩
end Go.Proofs.Ytblfagmoilhdnaa

/- The walk of slices.Clone over bytes: nil for nil, else the same bytes in new memory. -/
set_option linter.unusedVariables false
set_option linter.unusedSimpArgs false
namespace Go.Proofs.Ytblfagmoilhdnaa
open Go.RowKit

set_option maxRecDepth 100000 in
set_option maxHeartbeats 400000 in
theorem clone_any (A : Option Addr) (n c : Nat) (bs : List Nat) (w : World) (ha : IsB w w.heap.size A n bs) (hn : n ≤ 140737488351232) (hA : A = none → c = 0) :
    Calls Try.prog 64 #[.slice A n c] w fun e w' => (∃ A' c', e = .returned (.slice A' n c') ∧ Own w' w.heap.size A' n c' bs) ∧ Below w.heap.size w w' := by
  obtain ⟨i0, hi0, hz1, hz2, hz3⟩ := info_parts info5w
  have HA := Lib.hid ha
  have HI := Lib.hid hi0; have HZ1 := Lib.hid hz1; have HZ2 := Lib.hid hz2; have HZ3 := Lib.hid hz3
  clear hi0 hz1 hz2 hz3 ha
  cases A with
  | none =>
    have hc := hA rfl
    subst hc
    have hn0 : n = 0 := by
      rcases Nat.eq_zero_or_pos n with h | h
      · exact h
      · obtain ⟨ad, h, _⟩ := HA.out.1.2 h; cases h
    subst hn0
    clear hA
    have hq : ∀ wx : World, (binOp .eql 25 (.slice none 0 0) (.slice none 0 0)).run Try.prog wx = .ok (.bool true) wx := fun wx => Lib.run_eql_slice_nil wx 25 5 none 0 0 0 0 Try.underlying25
    go_enter Try.func64, Try.ntmps64
    go_wp2_with fail
    go_ret
    exact ⟨⟨none, 0, rfl, ⟨by have h := HA.out.len; obtain rfl : bs = [] := List.eq_nil_of_length_eq_zero h; exact World.ownsRow_nil _ _ _ _, HA.out.2⟩⟩, Below.refl _ _⟩
  | some ad =>
    clear hA
    have hq : ∀ wx : World, (binOp .eql 25 (.slice (some ad) n c) (.slice none 0 0)).run Try.prog wx = .ok (.bool false) wx := fun wx => Lib.run_eql_slice_nil wx 25 5 (some ad) n c 0 0 Try.underlying25
    go_enter Try.func64, Try.ntmps64
    go_wp2_with (at_builtin; refine wpList_append_more _ rfl (.tmp 5) (.tmp 6) _ rfl w.heap.size 5 i0 _ 1 1 Try.underlying25 HI.out HZ1.out HZ2.out HZ3.out rfl (by omega) _ _ _ _ rfl (World.ownsRow_made w #[] 0 (Nat.le_refl _) (by decide) rfl) w.heap.size (some ad) n c (bs.map u8) rfl (HA.out.1.alloc (Nat.le_refl _) _) (one_u8w bs) (by simp only [maxLen]; omega) (by omega) (by simp) ?_; intro A' c' w2 HN)
    go_ret
    have h := HN.out
    simp only [Nat.zero_add, List.nil_append] at h
    exact ⟨⟨A', c', rfl, h.1, HA.out.2⟩, ((Below.refl _ _).alloc (Nat.le_refl _) _).trans h.2.2⟩
end Go.Proofs.Ytblfagmoilhdnaa

/- The walks of word.More, bulkheadref1.More, word.CRC, bulkheadref1.CRC: the check sum of a list of bytes, of whatever length; nothing that was there is written. -/
set_option linter.unusedVariables false
set_option linter.unusedSimpArgs false
namespace Go.Proofs.Ytblfagmoilhdnaa
open Go.RowKit

namespace Crc
def tab (k : Nat) : Array Value := Array.ofFn fun j : Fin 16 => .int .u32 ((if j.val < k then stN 4 j.val else 0 : Nat) : Int)
theorem tab_set (k : Nat) : (tab k).setIfInBounds k (.int .u32 (stN 4 k : Nat)) = tab (k + 1) := by
  apply Array.ext
  · simp [tab]
  · intro i h1 h2
    rw [Array.getElem_setIfInBounds (by simpa using h1)]
    by_cases hik : k = i
    · subst hik; simp [tab]
    · have : (i < k + 1) = (i < k) := by rw [eq_iff_iff]; omega
      rw [if_neg hik]
      simp [tab, this]
theorem tab_get (i : Nat) (h : i < 16) : (tab 16)[i]? = some (.int .u32 (stN 4 i : Nat)) := by
  simp [tab, h]
theorem tab_size (k : Nat) : (tab k).size = 16 := by simp [tab]
theorem tab_zero : #[.int .u32 0, .int .u32 0, .int .u32 0, .int .u32 0, .int .u32 0, .int .u32 0, .int .u32 0, .int .u32 0, .int .u32 0, .int .u32 0, .int .u32 0, .int .u32 0, .int .u32 0, .int .u32 0, .int .u32 0, .int .u32 0] = tab 0 := by
  simp [tab, Array.ofFn_succ]
theorem tab_some (k i : Nat) (h : i < 16) : ∃ v, (tab k)[i]? = some v := by simp [tab, h]
end Crc
attribute [irreducible] Crc.tab

theorem stN_succ (n r : Nat) : Crc.stN (n + 1) r = Crc.st (Crc.stN n r) := Crc.stN_add n 1 r
theorem u32and1 (r : Nat) (h : r < 4294967296) : bits .and .u32 (r : Int) 1 = ((r % 2 : Nat) : Int) := by
  have := u32_and_nat r 1 h (by decide)
  rw [Nat.and_one_is_mod] at this
  exact this
theorem walk_st (r : Nat) (h : r < 4294967296) : bits .xor .u32 ((r : Int) / 2) (bits .and .u32 2197175160 (-bits .and .u32 (r : Int) 1 % 4294967296)) = ((Crc.st r : Nat) : Int) := by
  rw [u32and1 r h]
  rcases Nat.mod_two_eq_zero_or_one r with h2 | h2
  · rw [h2]
    have e : bits .and .u32 2197175160 (-((0 : Nat) : Int) % 4294967296) = ((0 : Nat) : Int) := by decide
    rw [e]
    have := u32_xor_nat (r / 2) 0 (by omega) (by decide)
    rw [show ((r : Int) / 2) = ((r / 2 : Nat) : Int) by omega, this]
    simp [Crc.st, h2, Nat.shiftRight_eq_div_pow]
  · rw [h2]
    have e : bits .and .u32 2197175160 (-((1 : Nat) : Int) % 4294967296) = ((2197175160 : Nat) : Int) := by decide
    rw [e]
    have := u32_xor_nat (r / 2) 2197175160 (by omega) (by decide)
    rw [show ((r : Int) / 2) = ((r / 2 : Nat) : Int) by omega, this]
    simp [Crc.st, Crc.poly, h2, Nat.shiftRight_eq_div_pow]

theorem two_steps (r x : Nat) (hr : r < 4294967296) (hx : x < 256) : ∃ y1 i1 t1 y2 i2 t2 y3 : Nat, (y1 < 4294967296 ∧ y2 < 4294967296 ∧ y3 < 4294967296 ∧ i1 < 16 ∧ i2 < 16) ∧
    bits .xor .u32 (r : Int) (x : Int) = y1 ∧ bits .and .u32 (y1 : Int) 15 = i1 ∧ (Crc.tab 16)[i1]? = some (.int .u32 (t1 : Nat)) ∧ bits .xor .u32 ((y1 : Int) / 16) (t1 : Int) = y2 ∧
    bits .and .u32 (y2 : Int) 15 = i2 ∧ (Crc.tab 16)[i2]? = some (.int .u32 (t2 : Nat)) ∧ bits .xor .u32 ((y2 : Int) / 16) (t2 : Int) = y3 ∧ Hid (y3 = Crc.upd r x) := by
  have h1 : r ^^^ x < 4294967296 := Nat.xor_lt_two_pow (n := 32) hr (by omega)
  have l15 (y : Nat) : y &&& 15 < 16 := by have := Nat.and_le_right (n := y) (m := 15); omega
  have ht (i : Nat) (h : i < 16) : Crc.stN 4 i < 4294967296 := Crc.stN_lt 4 (by omega)
  have h16 (y : Nat) (h : y < 4294967296) : y >>> 4 = y / 16 ∧ y / 16 < 4294967296 := ⟨by rw [Nat.shiftRight_eq_div_pow], by omega⟩
  have h2 : (r ^^^ x) >>> 4 ^^^ Crc.stN 4 ((r ^^^ x) &&& 15) < 4294967296 := by
    refine Nat.xor_lt_two_pow (n := 32) ?_ (ht _ (l15 _))
    rw [(h16 _ h1).1]; exact (h16 _ h1).2
  have h3 : Crc.upd r x < 4294967296 := Crc.upd_lt hr (by omega)
  have step (y : Nat) (h : y < 4294967296) : bits .xor .u32 ((y : Int) / 16) ((Crc.stN 4 (y &&& 15) : Nat) : Int) = ((y >>> 4 ^^^ Crc.stN 4 (y &&& 15) : Nat) : Int) := by
    rw [show ((y : Int) / 16) = ((y / 16 : Nat) : Int) by omega, u32_xor_nat _ _ (h16 y h).2 (ht _ (l15 y)), (h16 y h).1]
  refine ⟨r ^^^ x, (r ^^^ x) &&& 15, Crc.stN 4 ((r ^^^ x) &&& 15), _, _, Crc.stN 4 (((r ^^^ x) >>> 4 ^^^ Crc.stN 4 ((r ^^^ x) &&& 15)) &&& 15), Crc.upd r x, ⟨h1, h2, h3, l15 _, l15 _⟩,
    u32_xor_nat r x hr (by omega), u32_and_nat _ 15 h1 (by decide), Crc.tab_get _ (l15 _), step _ h1, u32_and_nat _ 15 h2 (by decide), Crc.tab_get _ (l15 _), ?_, rfl⟩
  rw [step _ h2, Crc.upd_two]

theorem ret_u32 {a b : Int} (h : a = b) : Ending.returned (.int .u32 a) = .returned (.int .u32 b) := by rw [h]
theorem start_eq (s : Nat) (hs : s < 4294967296) : bits .xor .u32 IntKind.u32.max (s : Int) = ((s ^^^ Crc.ones : Nat) : Int) := by
  have h := u32_xor_nat 4294967295 s (by decide) hs
  have e : IntKind.u32.max = ((4294967295 : Nat) : Int) := by decide
  rw [e, h, Nat.xor_comm]; rfl

theorem start_eq' (s : Nat) (hs : s < 4294967296) : bits .xor .u32 (s : Int) 4294967295 = ((s ^^^ Crc.ones : Nat) : Int) := by
  have h := u32_xor_nat s 4294967295 hs (by decide)
  exact h

theorem walk_ref (r : Nat) (h : r < 4294967296) : ∃ o r1 : Nat, bits .and .u32 (r : Int) 1 = o ∧ o < 2 ∧ r1 < 4294967296 ∧ Hid (r1 = r / 2) ∧ (r : Int) / 2 = r1 ∧ (o = 1 → bits .xor .u32 (r1 : Int) 2197175160 = ((Crc.st r : Nat) : Int)) ∧ (o = 0 → r1 = Crc.st r) := by
  refine ⟨r % 2, r / 2, u32and1 r h, by omega, by omega, rfl, by omega, fun h1 => ?_, fun h0 => ?_⟩
  · refine (u32_xor_nat (r / 2) 2197175160 (by omega) (by decide)).trans ?_
    simp [Crc.st, Crc.poly, h1, Nat.shiftRight_eq_div_pow]
  · simp [Crc.st, h0, Nat.shiftRight_eq_div_pow]

end Go.Proofs.Ytblfagmoilhdnaa

/- Frames: what has changed is, at most, some blocks. -/
set_option linter.unusedVariables false
set_option linter.unusedSimpArgs false
namespace Go.Proofs.Ytblfagmoilhdnaa
open Go.RowKit

/-- nothing that was there has changed but, at most, these blocks -/
structure Chg (S : List Nat) (w w' : World) : Prop where
  os : w'.os = w.os
  tape : w'.tape = w.tape
  output : w'.output = w.output
  size : w.heap.size ≤ w'.heap.size
  block : ∀ k, k < w.heap.size → k ∉ S → w'.heap[k]? = w.heap[k]?
theorem Chg.refl (S : List Nat) (w : World) : Chg S w w := ⟨rfl, rfl, rfl, Nat.le_refl _, fun _ _ _ => rfl⟩
theorem Chg.of_below {S : List Nat} {w w' : World} (h : Below w.heap.size w w') : Chg S w w' := ⟨h.os, h.tape, h.output, h.size, fun k hk _ => h.block k hk⟩
theorem Chg.trans {S S' : List Nat} {a b c : World} (h : Chg S a b) (k : Chg S' b c) (hs : ∀ x ∈ S', x ∈ S ∨ a.heap.size ≤ x) : Chg S a c :=
  ⟨k.os.trans h.os, k.tape.trans h.tape, k.output.trans h.output, Nat.le_trans h.size k.size, fun i hi hn => (k.block i (Nat.lt_of_lt_of_le hi h.size) (fun hm => by rcases hs i hm with h1 | h1; exact hn h1; omega)).trans (h.block i hi hn)⟩
theorem Chg.below {S : List Nat} {B : Nat} {w w' : World} (h : Chg S w w') (hB : B ≤ w.heap.size) (hS : ∀ x ∈ S, B ≤ x) : Below B w w' :=
  ⟨h.os, h.tape, h.output, h.size, fun k hk => h.block k (by omega) (fun hm => by have := hS k hm; omega)⟩
theorem Chg.row {S : List Nat} {w w' : World} {g : Nat} {t : TypeId} {cs : List Value} (h : Chg S w w') (hr : Row w g t cs) (hg : g ∉ S) : Row w' g t cs := (h.block g hr.lt hg).trans hr
theorem Chg.set_ {S : List Nat} {a w : World} (h : Chg S a w) {p : Addr} (hp : p.block ∈ S ∨ a.heap.size ≤ p.block) (u : Value) : Chg S a (w.setCell p u) :=
  ⟨h.os, h.tape, h.output, by simpa [World.setCell] using h.size, fun i hi hn => (Below.heap_setCell w p u i (fun e => by subst e; rcases hp with h1 | h1; exact hn h1; omega)).trans (h.block i hi hn)⟩
theorem Chg.alloc {S : List Nat} {a w : World} (h : Chg S a w) (o : Obj) : Chg S a (w.alloc o) :=
  ⟨h.os, h.tape, h.output, Nat.le_trans h.size (by simp), fun i hi hn => (Below.heap_alloc w o i (Nat.lt_of_lt_of_le hi h.size)).trans (h.block i hi hn)⟩
theorem Chg.drewN {S : List Nat} {a w : World} (h : Chg S a w) (n : Nat) : Chg S a (w.drewN n) := ⟨h.os, h.tape, h.output, h.size, h.block⟩
theorem Chg.drew {S : List Nat} {a w : World} (h : Chg S a w) : Chg S a w.drew := ⟨h.os, h.tape, h.output, h.size, h.block⟩
/-- the row that something owns now: the one that it had, or a new one -/
def Moved (w : World) (r r' : Option Nat) : Prop := r' = r ∨ ∃ k, r' = some k ∧ w.heap.size ≤ k
theorem Moved.refl (w : World) (r : Option Nat) : Moved w r r := .inl rfl
theorem below_chg {B : Nat} {S : List Nat} {a w w' : World} (h : Below B a w) (hB : B ≤ a.heap.size) (hc : Chg S w w') (hS : ∀ x ∈ S, B ≤ x) : Below B a w' := h.trans (hc.below (Nat.le_trans hB h.size) hS)
theorem moved_ge {w : World} {B : Nat} {r r' : Option Nat} (h : Moved w r r') (hr : ∀ x ∈ r.toList, B ≤ x) (hB : B ≤ w.heap.size) : ∀ x ∈ r'.toList, B ≤ x := by
  rcases h with rfl | ⟨k, rfl, hk⟩
  · exact hr
  · intro x hx
    simp at hx
    omega
end Go.Proofs.Ytblfagmoilhdnaa

/- Words for a writer in memory, and the walks of the writer's methods. -/
set_option linter.unusedVariables false
set_option linter.unusedSimpArgs false
namespace Go.Proofs.Ytblfagmoilhdnaa
open Go.RowKit

/-- a writer -/
def Wr (w : World) (g : Nat) (r : Option Nat) (s : Wd.W) : Prop :=
  ∃ A c, Row w g 127 [.slice A s.b.length c, .int .i64 (s.e : Nat)] ∧ w.ownsRow 0 5 1 (.slice A s.b.length c) s.b.length (s.b.map u8) ∧ (Value.slice A s.b.length c).ownBlock = r ∧ (∀ b ∈ s.b, b < 256)
theorem owns_below {w w' : World} {base : Nat} {e : TypeId} {size n : Nat} {v : Value} {xs : List Value} (h : w.ownsRow base e size v n xs) (hb : Below w.heap.size w w') : w'.ownsRow base e size v n xs := by
  refine ⟨h.1, ?_⟩
  rcases h.2 with h2 | ⟨g, cap, cur, hv, hg, hh, r⟩
  · exact .inl h2
  · refine .inr ⟨g, cap, cur, hv, hg, ?_, r⟩
    rw [hb.block g (Blk.lt (cs := cur) hh)]; exact hh
theorem row_two {w : World} {g : Nat} {t : TypeId} {u : Value} {cs : List Value} (h : Row w g t (u :: cs)) : w.cell? ⟨g, 0, none⟩ = some u ∧ w.frozen? ⟨g, 0, none⟩ = false := ⟨h.cell 0, h.frozen 0⟩
theorem row_grown {w w' : World} {g : Nat} {t : TypeId} {cs : List Value} {row : Option Nat} (h : Row w g t cs) (hg : w.grownBy w' row) (hne : some g ≠ row) : Row w' g t cs := (hg.block g h.lt hne).trans h
theorem isB_nil (w : World) (B : Nat) : IsB w B none 0 [] := ⟨⟨rfl, fun h => absurd h (by omega)⟩, by simp, by omega⟩
theorem step_append_sl {P : Program} (w : World) {ops : Array Oper} {o : Oper} {a : Act} {K : Act → World → Prop} {Q : Exit → Act → World → Prop} {E : Prop} (hgd : o.guard = none) (s x : Operand) (t : TypeId)
    (ho : o.op = .call { callee := .builtin .append, args := #[s, x], argTypes := #[t, t] })
    (base : Nat) (e : TypeId) (i : TypeInfo) (z : Value) (size bytes : Nat) (ht : P.underlying t = some (.slice e)) (hi : P.info? e = some i) (hz : i.zero = some z)
    (hsize : i.size = size) (hby : i.bytes = bytes) (hzs : z.cells.size = size) (hsz : 0 < size)
    (v : Value) (n : Nat) (xs : List Value) (hs : a.eval s = v) (hown : w.ownsRow base e size v n xs)
    (B : Nat) (A : Option Addr) (m c : Nat) (news : List Value) (hx : a.eval x = .slice A m c) (hr : Reads w B size A m news) (h1 : ∀ u ∈ news, u.oneCell' = true)
    (h63 : n + m ≤ maxLen) (hbytes : (n + m) * bytes ≤ 140737488355328) (hbase : base ≤ w.heap.size)
    (h : ∀ A' c' w', w'.ownsRow base e size (.slice A' (n + m) c') (n + m) (xs ++ news) → w.grownBy w' v.ownBlock →
      ((Value.slice A' (n + m) c').ownBlock = v.ownBlock ∨ (Value.slice A' (n + m) c').ownBlock = some w.heap.size) → K (a.put o.dst (.slice A' (n + m) c')) w') :
    if Region.wanted o (yielded ops a.tmps) = true then Oper.wp P o a w K Q else E := by
  refine step_append_any w hgd s x t ho base e i z size bytes ht hi hz hsize hby hzs hsz v n xs hs hown B A m c news hx hr h1 h63 hbytes hbase fun v' w' h2 h3 h4 => ?_
  obtain ⟨A', c', rfl, _⟩ := own_slice h2
  exact h A' c' w' h2 h3 h4

/-- a store into a block of another element type leaves what is owned -/
theorem own_set {w : World} {base size n g t : Nat} {e : TypeId} {v : Value} {xs cs : List Value} (h : w.ownsRow base e size v n xs) (hr : Row w g t cs) (hne : e ≠ t) (i : Nat) (u : Value) : (w.setCell ⟨g, i, none⟩ u).ownsRow base e size v n xs := by
  refine ⟨h.1, ?_⟩
  rcases h.2 with h2 | ⟨g', cap, cur, hv, hg, hh, r⟩
  · exact .inl h2
  · refine .inr ⟨g', cap, cur, hv, hg, ?_, r⟩
    have hgg : g' ≠ g := Blk.ne_ (t := e) (cs := cur) (cs' := cs.toArray) hh hr hne
    rw [Below.heap_setCell _ _ _ _ hgg]; exact hh
/-- what an append to the writer's bytes, and its store, come to -/
theorem lay_done {w w1 w2 : World} {g n k c c2 : Nat} {r : Option Nat} {A A2 : Option Addr} {bs x : List Nat} (hrow : Row w g 127 [.slice A n c, .int .i64 ((0 : Nat) : Int)]) (hob : (Value.slice A n c).ownBlock = r) (hgr : r ≠ some g) (hb1 : Below w.heap.size w w1)
    (hown2 : w2.ownsRow 0 5 1 (.slice A2 (n + k) c2) (n + k) (bs.map u8 ++ x.map u8)) (hg2 : w1.grownBy w2 (Value.slice A n c).ownBlock) (hat2 : (Value.slice A2 (n + k) c2).ownBlock = (Value.slice A n c).ownBlock ∨ (Value.slice A2 (n + k) c2).ownBlock = some w1.heap.size)
    (hbs : ∀ b ∈ bs, b < 256) (hx : ∀ b ∈ x, b < 256) (hn : bs.length = n) (hk : x.length = k) :
    ∃ r', Wr (w2.setCell ⟨g, 0, none⟩ (.slice A2 (n + k) c2)) g r' ⟨bs ++ x, 0⟩ ∧ Chg (g :: r.toList) w (w2.setCell ⟨g, 0, none⟩ (.slice A2 (n + k) c2)) ∧ Moved w r r' := by
  have hr1 := hrow.below hb1 hrow.lt
  have hr2 : Row w2 g 127 [.slice A n c, .int .i64 ((0 : Nat) : Int)] := row_grown hr1 hg2 (fun h => hgr (hob.symm.trans h.symm))
  have hr3 := hr2.set_ 0 (.slice A2 (n + k) c2)
  refine ⟨(Value.slice A2 (n + k) c2).ownBlock, ⟨A2, c2, ?_, ?_, ?_, ?_⟩, ?_, ?_⟩
  · rw [List.length_append, hn, hk]; exact hr3
  · rw [List.length_append, hn, hk, List.map_append]; exact own_set hown2 hr2 (by decide) 0 _
  · rw [List.length_append, hn, hk]
  · intro b hb
    rcases List.mem_append.1 hb with h | h
    · exact hbs b h
    · exact hx b h
  · refine Chg.set_ (S := g :: r.toList) ?_ (.inl (by simp)) _
    exact ⟨hg2.os.trans hb1.os, hg2.tape.trans hb1.tape, hg2.output.trans hb1.output, Nat.le_trans hb1.size hg2.size, fun i hi hn => (hg2.block i (Nat.lt_of_lt_of_le hi hb1.size) (fun h => hn (by rw [hob] at h; rw [← h]; simp))).trans (hb1.block i hi)⟩
  · rcases hat2 with h | h
    · exact .inl (h.trans hob)
    · exact .inr ⟨_, h, hb1.size⟩

set_option maxRecDepth 100000 in
set_option maxHeartbeats 1000000 in
theorem lay_uint64 (g : Nat) (r : Option Nat) (s : Wd.W) (n : Nat) (w : World) (hw : Wr w g r s) (hn : n < 18446744073709551616) (hl : s.b.length ≤ 70368744177664) :
    Calls Try.prog 63 #[.pointer (some ⟨g, 0, none⟩), .int .u64 (n : Nat)] w fun e w' => e = .returned (.tuple #[]) ∧ ∃ r', Wr w' g r' (s.lay (Wd.le 8 n)) ∧ Chg (g :: r.toList) w w' ∧ Moved w r r' := by
  obtain ⟨A, c, hrow, hown, hob, hbs⟩ := hw
  obtain ⟨i0, hi0, hz1, hz2, hz3⟩ := info_parts info5w
  by_cases he : s.e = 0
  · have e0 : s.lay (Wd.le 8 n) = ⟨s.b ++ Wd.le 8 n, 0⟩ := by unfold Wd.W.lay; rw [if_pos he]
    obtain ⟨bs, e⟩ := s
    simp only at he hl hrow hown hob hbs e0
    subst he
    have c0 := hrow.cell 0
    have c1 := hrow.cell 1
    have f0 := hrow.frozen 0
    have hlt := hrow.lt
    simp only [List.getElem?_cons_zero, List.getElem?_cons_succ] at c0 c1
    have hgr : r ≠ some g := by
      rw [← hob]
      exact own_blk_ne (cs := #[.slice A bs.length c, .int .i64 0]) hown hrow (by decide)
    have HROW := Lib.hid hrow
    have HOWN := Lib.hid hown
    have HOB := Lib.hid hob
    have HE := Lib.hid e0
    have HI := Lib.hid hi0; have HZ1 := Lib.hid hz1; have HZ2 := Lib.hid hz2; have HZ3 := Lib.hid hz3
    have HGR := Lib.hid hgr
    clear hrow hown hob e0 hi0 hz1 hz2 hz3 hgr
    go_enter Try.func63, Try.ntmps63
    go_wp2_with fail
    go_region_law (first
      | (refine step_append_sl _ (by rfl) (.tmp 13) (.tmp 15) 25 (by rfl) 0 5 i0 _ 1 1 Try.underlying25 HI.out HZ1.out HZ2.out HZ3.out rfl (by omega) (.slice A bs.length c) bs.length (bs.map u8) (by simp [Act.eval, Act.put]) (owns_below (w := w.drew) HOWN.out hb1) w1.heap.size (some ⟨g1, 0, none⟩) 8 c1 ((Wd.le 8 n).map u8) (by simp [Act.eval, Act.put]) hown1.isB.1 (one_u8w _) (by unfold maxLen; omega) (by omega) (Nat.zero_le _) ?_; intro A2 c2 w2 hown2 hg2 hat2; obtain ⟨d0, d1⟩ := row_two (row_grown (HROW.out.below (w := w.drew) hb1 (by simpa using hlt)) hg2 (fun h => HGR.out (HOB.out.symm.trans h.symm))))
      | (go_simp; go_at_call 84; refine (put_uint64 none 0 0 [] n _ (isB_nil _ _) (by omega) hn).mono ?_; rintro e w1 ⟨⟨g1, c1, rfl, hown1⟩, hb1⟩; obtain ⟨d0, d1⟩ := row_two (HROW.out.below (w := w.drew) hb1 (by simpa using hlt))))
    all_goals
      go_end0
      refine ⟨rfl, ?_⟩
      rw [HE.out]
      exact lay_done (w := w) HROW.out HOB.out HGR.out (⟨hb1.os, hb1.tape, hb1.output, hb1.size, hb1.block⟩ : Below w.heap.size w w1) hown2 hg2 hat2 hbs (Wd.le_lt 8 n) rfl (Wd.le_len 8 n)
  · have he' : ((s.e : Int) == 0) = false := beq_eq_false_iff_ne.2 (by omega)
    have e0 : s.lay (Wd.le 8 n) = s := by unfold Wd.W.lay; rw [if_neg he]
    have HE := Lib.hid e0
    have c1 := hrow.cell 1
    simp only [List.getElem?_cons_zero, List.getElem?_cons_succ] at c1
    have HW : Hid (Wr w g r s) := Lib.hid ⟨A, c, hrow, hown, hob, hbs⟩
    clear hrow hown hob hbs hi0 hz1 hz2 hz3 he e0
    go_enter Try.func63, Try.ntmps63
    go_wp2_with fail
    go_end0
    exact ⟨rfl, r, by rw [HE.out]; exact HW.out, Chg.refl _ _, Moved.refl _ _⟩
set_option maxHeartbeats 400000 in
theorem wuint64_any (g : Nat) (r : Option Nat) (s : Wd.W) (n : Nat) (w : World) (hw : Wr w g r s) (hn : n < 18446744073709551616) (hl : s.b.length ≤ 70368744177664) :
    Calls Try.prog 37 #[.pointer (some ⟨g, 0, none⟩), .int .u64 (n : Nat)] w fun e w' => e = .returned (.tuple #[]) ∧ ∃ r', Wr w' g r' (s.lay (Wd.le 8 n)) ∧ Chg (g :: r.toList) w w' ∧ Moved w r r' := by
  have H := Lib.hid (lay_uint64 g r s n w hw hn hl)
  clear hw
  go_enter Try.func37, Try.ntmps37
  go_wp2_with fail
  refine H.out.mono ?_
  rintro e w' ⟨rfl, h⟩
  have HH := Lib.hid h
  clear h
  go_wp2_with fail
  go_end0
  exact ⟨rfl, HH.out⟩
end Go.Proofs.Ytblfagmoilhdnaa

/- The walks of NewWriter and of the writer's Bytes, Seal, Len, Err, All. -/
set_option linter.unusedVariables false
set_option linter.unusedSimpArgs false
namespace Go.Proofs.Ytblfagmoilhdnaa
open Go.RowKit

def IsB' (w : World) (A : Option Addr) (n c : Nat) (bs : List Nat) : Prop := IsB w w.heap.size A n bs ∧ (A = none → c = 0)
theorem Wr.open_ {w : World} {g : Nat} {r : Option Nat} {s : Wd.W} (h : Wr w g r s) : ∃ A c, w.cell? ⟨g, 0, none⟩ = some (.slice A s.b.length c) ∧ w.cell? ⟨g, 1, none⟩ = some (.int .i64 (s.e : Nat)) ∧ w.frozen? ⟨g, 0, none⟩ = false ∧ w.frozen? ⟨g, 1, none⟩ = false ∧ g < w.heap.size ∧
    IsB' w A s.b.length c s.b ∧ Hid (Row w g 127 [.slice A s.b.length c, .int .i64 (s.e : Nat)]) ∧ Hid (w.ownsRow 0 5 1 (.slice A s.b.length c) s.b.length (s.b.map u8)) ∧ Hid ((Value.slice A s.b.length c).ownBlock = r) ∧ Hid (r ≠ some g) := by
  obtain ⟨A, c, hrow, hown, hob, hbs⟩ := h
  refine ⟨A, c, hrow.cell 0, hrow.cell 1, hrow.frozen 0, hrow.frozen 1, hrow.lt, ⟨⟨Reads.of_own hown, hbs, ?_⟩, ?_⟩, hrow, hown, hob, ?_⟩
  · rcases hown.2 with ⟨_, h⟩ | ⟨g', cap, cur, hv, _, _, hnc, hcm, _⟩
    · omega
    · unfold maxLen at hcm; omega
  · rcases hown.2 with ⟨h, _⟩ | ⟨g', cap, cur, hv, _⟩
    · intro _; injection h
    · intro h; rw [h] at hv; cases hv
  · show r ≠ some g
    rw [← hob]
    exact own_blk_ne (cs := #[.slice A s.b.length c, .int .i64 (s.e : Nat)]) hown hrow (by decide)

/-- the writer is refused -/
theorem err_done {w : World} {g c k : Nat} {r : Option Nat} {A : Option Addr} {bs : List Nat} {e : Int} (hrow : Row w g 127 [.slice A bs.length c, .int .i64 e]) (hown : w.ownsRow 0 5 1 (.slice A bs.length c) bs.length (bs.map u8)) (hob : (Value.slice A bs.length c).ownBlock = r) (hbs : ∀ b ∈ bs, b < 256) :
    ∃ r', Wr (w.setCell ⟨g, 1, none⟩ (.int .i64 (k : Nat))) g r' ⟨bs, k⟩ ∧ Chg (g :: r.toList) w (w.setCell ⟨g, 1, none⟩ (.int .i64 (k : Nat))) ∧ Moved w r r' :=
  ⟨r, ⟨A, c, hrow.set_ 1 _, own_set hown hrow (by decide) 1 _, hob, hbs⟩, (Chg.refl _ _).set_ (.inl (by simp)) _, Moved.refl _ _⟩
theorem Wr.below {w w' : World} {g : Nat} {r : Option Nat} {s : Wd.W} (h : Wr w g r s) (hb : Below w.heap.size w w') : Wr w' g r s := by
  obtain ⟨A, c, hrow, hown, hob, hbs⟩ := h
  exact ⟨A, c, hrow.below hb hrow.lt, owns_below hown hb, hob, hbs⟩
set_option maxHeartbeats 400000 in
theorem newwriter_any (w : World) : Calls Try.prog 36 #[] w fun e w' => e = .returned (.pointer (some ⟨w.heap.size, 0, none⟩)) ∧ Wr w' w.heap.size none ⟨[], 0⟩ ∧ Below w.heap.size w w' := by
  go_enter Try.func36, Try.ntmps36
  go_wp2_with fail
  go_ret
  exact ⟨rfl, ⟨none, 0, Row.new w 127 [.slice none 0 0, .int .i64 0], World.ownsRow_nil _ _ _ _, rfl, by simp⟩, (Below.refl _ _).alloc (Nat.le_refl _) _⟩
set_option maxHeartbeats 400000 in
theorem wall_any (g : Nat) (r : Option Nat) (s : Wd.W) (w : World) (hw : Wr w g r s) (hl : s.b.length ≤ 140737488351232) : Calls Try.prog 38 #[.pointer (some ⟨g, 0, none⟩)] w fun e w' => (∃ A' c', e = .returned (.slice A' s.b.length c') ∧ Own w' w.heap.size A' s.b.length c' s.b) ∧ Below w.heap.size w w' := by
  obtain ⟨A, c, c0, c1, f0, f1, hlt, hB, _⟩ := hw.open_
  have H := Lib.hid (clone_any A s.b.length c s.b w hB.1 hl hB.2)
  clear hw hB
  go_enter Try.func38, Try.ntmps38
  go_wp2_with fail
  refine H.out.mono ?_
  rintro e w' ⟨⟨A', c', rfl, hown⟩, hb⟩
  have HO := Lib.hid hown
  have HB := Lib.hid hb
  clear hown hb
  go_wp2_with fail
  go_ret
  exact ⟨⟨A', c', rfl, HO.out⟩, HB.out⟩

end Go.Proofs.Ytblfagmoilhdnaa

/- The walks of word.Get over numbers of each type: the number that the first bytes are. -/
set_option linter.unusedVariables false
set_option linter.unusedSimpArgs false
namespace Go.Proofs.Ytblfagmoilhdnaa
open Go.RowKit

theorem or_step (bs : List Nat) (j : Nat) (h8 : j < 8) (hj : j < bs.length) (hb : ∀ b ∈ bs, b < 256) :
    bits .or .u64 (Wd.unle (bs.take j) : Nat) (IntKind.u64.wrap (((bs.getD j 0 : Nat) : Int) * 2 ^ (8 * j))) = (Wd.unle (bs.take (j + 1)) : Nat) := by
  have hl : (bs.take j).length = j := by simp; omega
  have h1 := Wd.unle_lt (bs.take j) (fun b hb' => hb b (List.mem_of_mem_take hb'))
  rw [hl] at h1
  have hx := hb _ (getD_mem bs j hj)
  obtain ⟨x, hxe⟩ : ∃ x, x = bs.getD j 0 := ⟨_, rfl⟩
  rw [take_snoc bs j hj, Wd.unle_append, hl]
  rw [← hxe] at hx ⊢
  obtain ⟨y, hy⟩ : ∃ y, y = Wd.unle (bs.take j) := ⟨_, rfl⟩
  rw [← hy] at h1 ⊢
  have hp : (256 : Nat) ^ j = 2 ^ (8 * j) := by rw [show (256 : Nat) = 2 ^ 8 from rfl, ← Nat.pow_mul]
  have hle : (2 : Nat) ^ (8 * j) ≤ 2 ^ 56 := Nat.pow_le_pow_right (by decide) (by omega)
  have hm : x * 2 ^ (8 * j) < 18446744073709551616 := by
    have h3 : x * 2 ^ (8 * j) ≤ 255 * 2 ^ 56 := Nat.mul_le_mul (by omega) hle
    have h4 : (2 : Nat) ^ 56 = 72057594037927936 := by decide
    omega
  have hc : ((x : Nat) : Int) * 2 ^ (8 * j) = ((x * 2 ^ (8 * j) : Nat) : Int) := by norm_cast
  have hw : IntKind.u64.wrap ((x * 2 ^ (8 * j) : Nat) : Int) = ((x * 2 ^ (8 * j) : Nat) : Int) := by rw [IntKind.wrap_u64]; omega
  have hy2 : y < 2 ^ (8 * j) := by rw [← hp]; exact h1
  have hy3 : y < 18446744073709551616 := by
    have h4 : (2 : Nat) ^ 56 = 72057594037927936 := by decide
    omega
  rw [hc, hw, bits_or_u64_nat y _ hy3 hm]
  have h5 : y ||| x * 2 ^ (8 * j) = y + x * 2 ^ (8 * j) := by
    rw [Nat.or_comm, Nat.mul_comm, ← Nat.two_pow_add_eq_or_of_lt hy2, Nat.add_comm]
  rw [h5, hp]
  simp [Wd.unle, Nat.mul_comm]

set_option maxRecDepth 100000 in
set_option maxHeartbeats 1000000 in
theorem get_uint64 (A : Option Addr) (n c : Nat) (bs : List Nat) (w : World) (ha : IsB w w.heap.size A n bs) (hk : 8 ≤ n) (hc : n ≤ c) :
    Calls Try.prog 39 #[.slice A n c] w fun e w' => e = .returned (.tuple #[.int .u64 (Wd.unle (bs.take 8) : Nat), .bool true]) ∧ w = w' := by
  have hn := ha.2.2
  have hlen := ha.len
  obtain ⟨b, off, HF⟩ := ha.form
  have HBY := Lib.hid ha.2.1
  have hlt := Wd.unle_lt (bs.take 8) (fun b hb' => ha.2.1 b (List.mem_of_mem_take hb'))
  rw [show (bs.take 8).length = 8 by simp; omega] at hlt
  have HLT := Lib.hid hlt
  clear ha hlt
  go_enter Try.func39, Try.ntmps39
  go_wp2_with (first
    | (go_at_call 65; refine (width_uint64 _).mono ?_; rintro e w' ⟨rfl, rfl⟩))
  go_loop [5, 17] (fun x i => ∃ j : Nat, j ≤ 8 ∧ i = .int .i64 j ∧ x = .int .u64 (Wd.unle (bs.take j) : Nat)) (fun _ i => 8 - (intOf i).toNat)
  case atStart => exact ⟨0, by omega, rfl, rfl⟩
  case round =>
    obtain ⟨j, hj, rfl, rfl⟩ := hrel
    by_cases hjn : j < 8
    · obtain ⟨hA, hbB, hcc⟩ := HF.out (by omega)
      subst hA
      have hcj := hcc j (by omega)
      have hcb := HBY.out _ (getD_mem bs j (by omega))
      have HS := Lib.hid (or_step bs j (by omega) (by omega) HBY.out)
      obtain ⟨x, hx⟩ : ∃ x, x = bs.getD j 0 := ⟨_, rfl⟩
      rw [← hx] at hcj hcb HS
      obtain ⟨y, hy⟩ : ∃ y, y = Wd.unle (bs.take j) := ⟨_, rfl⟩
      rw [← hy] at HS ⊢
      have HX := Lib.hid hx; have HY := Lib.hid hy; clear hx hy
      clear hcc
      go_wp2
      go_round
      case rel => exact ⟨j + 1, by omega, by go_num, by rw [HS.out]⟩
      case measure => simp [intOf]; omega
    · have HJ : Hid (j = 8) := Lib.hid (by omega)
      obtain ⟨y, hy⟩ : ∃ y, y = Wd.unle (bs.take j) := ⟨_, rfl⟩
      have hyl : y < 18446744073709551616 := by rw [hy, HJ.out]; exact HLT.out
      rw [← hy]
      have HY := Lib.hid hy
      have ew : IntKind.u64.wrap (y : Int) = (y : Int) := by rw [IntKind.wrap_u64]; omega
      clear hy hyl
      go_wp2
      go_ret2
      exact ⟨by rw [HY.out, HJ.out]; rfl, rfl⟩
set_option maxRecDepth 100000 in
set_option maxHeartbeats 1000000 in
theorem getno_uint64 (A : Option Addr) (n c : Nat) (bs : List Nat) (w : World) (hk : n < 8) :
    Calls Try.prog 39 #[.slice A n c] w fun e w' => e = .returned (.tuple #[.int .u64 0, .bool false]) ∧ w = w' := by
  go_enter Try.func39, Try.ntmps39
  go_wp2_with (first
    | (go_at_call 65; refine (width_uint64 _).mono ?_; rintro e w' ⟨rfl, rfl⟩))
  go_ret2
  exact ⟨rfl, rfl⟩
end Go.Proofs.Ytblfagmoilhdnaa

/- A table's bytes and back: pages.Bytes, pages.Read. -/
set_option linter.unusedVariables false
set_option linter.unusedSimpArgs false
namespace Go.Proofs.Ytblfagmoilhdnaa
open Go.RowKit

def u64v (x : Nat) : Value := .int .u64 (x : Int)
def tabV (t : List Nat) : Value := .agg (t.map u64v).toArray
def tbs (t : List Nat) : List Nat := t.flatMap (Wd.le 8)
theorem tbs_len (t : List Nat) : (tbs t).length = 8 * t.length := by
  induction t with
  | nil => rfl
  | cons x r ih => simp only [tbs, List.flatMap_cons, List.length_append, Wd.le_len, List.length_cons] at ih ⊢; omega
theorem tbs_snoc (t : List Nat) (k : Nat) (h : k < t.length) : tbs (t.take (k + 1)) = tbs (t.take k) ++ Wd.le 8 (t.getD k 0) := by
  rw [take_snoc t k h]
  simp [tbs]
theorem tbs_lt (t : List Nat) : ∀ b ∈ tbs t, b < 256 := by
  intro b hb
  simp only [tbs, List.mem_flatMap] at hb
  obtain ⟨x, _, hb⟩ := hb
  exact Wd.le_lt 8 x b hb
theorem tab_range {w : World} {g : Nat} {ty : TypeId} {t : List Nat} (h : Row w g ty (t.map u64v)) : w.rangeAt g 0 (t.map u64v) := fun j v hv => by
  rw [Nat.zero_add, h.cell, hv]
theorem run_index_plain {P : Program} {t e : TypeId} {n : Nat} (V : List Value) (k : Nat) (v : Value) (w : World) (hu : P.underlying t = some (.array n e)) (he : P.plainKey e = true) (hs : (P.info? e).map (·.size) = some 1) (hk : k < n) (hv : V[k]? = some v) :
    (Instr.index t (.agg V.toArray) (.int .i64 (k : Int))).run P w = .ok v w := by
  obtain ⟨i, hi, hi1⟩ : ∃ i, P.info? e = some i ∧ i.size = 1 := by
    cases h : P.info? e with
    | none => simp [h] at hs
    | some i => exact ⟨i, rfl, by simpa [h] using hs⟩
  have hp := run_part_plain (P := P) (w := w) he (xs := V.toArray) (off := k) (v := v) (by simpa using hv)
  have h1 : (0 : Int) ≤ (k : Int) ∧ (k : Int) < (n : Int) := by omega
  simp [part, sizeOf, typeInfo, hi, hi1, Sem.run_bind, go_sem] at hp
  simp [Instr.index, run_underlying hu, asIntOf, h1, sizeOf, typeInfo, hi, hi1, Sem.run_bind, hk, hp, go_sem]
theorem infoTab : (Try.prog.info? 24).map (·.size) = some 512 := by kernel_rfl
set_option maxRecDepth 100000 in
set_option maxHeartbeats 1000000 in
theorem pbytes_any (t : List Nat) (ht : t.length = 512) (hx : ∀ x ∈ t, x < 18446744073709551616) (w : World) :
    Calls Try.prog 10 #[tabV t] w fun e w' => (∃ A' c', e = .returned (.slice A' 4096 c') ∧ Own w' w.heap.size A' 4096 c' (tbs t)) ∧ Below w.heap.size w w' := by
  unfold tabV
  obtain ⟨V, hv⟩ : ∃ V, V = t.map u64v := ⟨_, rfl⟩
  rw [← hv]
  have HV := Lib.hid hv
  have HX := Lib.hid hx
  have hvl : (Try.prog.info? 24).map (·.size) = some V.length := by rw [hv, List.length_map, ht]; exact infoTab
  have HVL := Lib.hid hvl
  have HT := Lib.hid ht
  clear hv hvl hx ht
  go_enter Try.func10, Try.ntmps10
  go_wp2_with fail
  refine (newwriter_any _).mono ?_
  rintro e w1 ⟨rfl, hw, hb⟩
  have hsz : (w.alloc (.cells V.toArray 24)).heap.size = w.heap.size + 1 := by simp
  rw [hsz] at hw hb
  have HW := Lib.hid hw
  have HR := Lib.hid ((Row.new w 24 V).below hb (by omega))
  have HB := Lib.hid (((Below.refl w.heap.size w).alloc (Nat.le_refl _) (.cells V.toArray 24)).trans (hb.mono (by omega)))
  clear hw hb hsz
  go_upto_region 2 with fail
  go_wp2_with (refine wpList_load_mid rfl _ _ rfl _ _ (by rfl) V (.array 512 22) (fun j v hv => by rw [Nat.zero_add, HR.out.cell, hv]) Try.underlying24 rfl HVL.out ?_)
  clear HR
  go_loopw [8] (fun i wr => ∃ k r, k ≤ 512 ∧ i = .int .i64 (k : Nat) ∧ Hid (Wr wr (w.heap.size + 1) r ⟨tbs (t.take k), 0⟩) ∧ Hid (∀ x ∈ r.toList, w.heap.size ≤ x) ∧ Hid (Below w.heap.size w wr)) (fun i _ => 512 - (intOf i).toNat)
  case atStart => exact ⟨0, none, by omega, rfl, HW, Lib.hid (by simp), HB⟩
  case round =>
    clear HW HB
    obtain ⟨k, r, hk, rfl, HW, HO, HB⟩ := hrel
    by_cases hk2 : k < 512
    · have e1 : decide ((k : Int) < 512) = true := decide_eq_true (by omega)
      have e2 : V[k]? = some (.int .u64 (t.getD k 0 : Nat)) := by rw [HV.out, List.getElem?_map, List.getElem?_eq_getElem (by rw [HT.out]; omega), List.getD_eq_getElem?_getD, List.getElem?_eq_getElem (by rw [HT.out]; omega)]; rfl
      obtain ⟨x, hx⟩ : ∃ x, x = t.getD k 0 := ⟨_, rfl⟩
      rw [← hx] at e2
      have HC := Lib.hid (wuint64_any (w.heap.size + 1) r ⟨tbs (t.take k), 0⟩ x wr HW.out (by rw [hx]; exact HX.out _ (getD_mem _ _ (by rw [HT.out]; omega))) (by simp only [tbs_len, List.length_take]; omega))
      have HXX := Lib.hid hx
      have hidx := run_index_plain (P := Try.prog) V k _ wr Try.underlying24 (by kernel_rfl) (by kernel_rfl) hk2 e2
      clear hx
      go_wp2_with fail
      refine HC.out.mono ?_
      rintro e w2 ⟨rfl, r', hw, hch, hmv⟩
      have HW2 : Hid (Wr w2 (w.heap.size + 1) r' ⟨tbs (t.take (k + 1)), 0⟩) := Lib.hid (by
        have e0 : (Wd.W.lay ⟨tbs (t.take k), 0⟩ (Wd.le 8 x)) = ⟨tbs (t.take (k + 1)), 0⟩ := by
          rw [tbs_snoc t k (by rw [HT.out]; omega), HXX.out]; simp [Wd.W.lay]
        rw [← e0]; exact hw)
      have HO2 := Lib.hid (moved_ge hmv HO.out HB.out.size)
      have HB2 := Lib.hid (below_chg HB.out (Nat.le_refl _) hch (fun y hy => by
        rcases List.mem_cons.1 hy with rfl | hy
        · omega
        · exact HO.out y hy))
      clear hw hch hmv HC HW HO HB e2 hidx HXX
      go_wp2_with fail
      go_roundw
      case rel => exact ⟨k + 1, r', by omega, by go_num, HW2, HO2, HB2⟩
      case measure => simp [intOf]; omega
    · obtain rfl : k = 512 := by omega
      have HA := Lib.hid (wall_any (w.heap.size + 1) r ⟨tbs (t.take 512), 0⟩ wr HW.out (by simp only [tbs_len, List.length_take]; omega))
      have e0 : t.take 512 = t := by rw [← HT.out, List.take_length]
      have e1 : (tbs t).length = 4096 := by rw [tbs_len, HT.out]
      rw [e0] at HA
      simp only [e1] at HA
      clear HW e0 e1
      go_wp2_with fail
      refine HA.out.mono ?_
      rintro e w2 ⟨⟨A', c', rfl, hown⟩, hb⟩
      have HOW : Hid (Own w2 w.heap.size A' 4096 c' (tbs t)) := Lib.hid (hown.mono HB.out.size)
      have HB2 := Lib.hid (HB.out.trans (hb.mono HB.out.size))
      clear hown hb HA
      go_wp2_with fail
      go_ret
      exact ⟨⟨A', c', rfl, HOW.out⟩, HB2.out⟩
/-- the table that bytes are -/
def tun (bs : List Nat) : List Nat := (List.range 512).map fun i => Wd.unle ((bs.drop (8 * i)).take 8)
theorem tun_len (bs : List Nat) : (tun bs).length = 512 := by simp [tun]
theorem tun_get (bs : List Nat) (k : Nat) (hk : k < 512) : (tun bs)[k]? = some (Wd.unle ((bs.drop (8 * k)).take 8)) := by
  unfold tun
  rw [List.getElem?_map, List.getElem?_range hk]
  rfl
def zeros (n : Nat) : List Value := List.replicate n (u64v 0)
theorem infoTabZ : (Try.prog.info? 24).map (fun i => (i.zero, i.size)) = some (some (.agg (zeros 512).toArray), 512) := by kernel_rfl
def tabK (t : List Nat) (k : Nat) : List Value := (t.take k).map u64v ++ zeros (512 - k)
theorem Row.setRow {w : World} {g : Nat} {t : TypeId} {cs : List Value} (h : Row w g t cs) (V : List Value) : Row (w.setRow g V.toArray) g t V := setRow_heap w g _ _ t _ h
theorem run_storeCells_row {P : Program} {w : World} {g : Nat} {ty t : TypeId} {cs V : List Value} (h : Row w g t cs) (hi : (P.info? ty).map (·.size) = some V.length) (ho : cs.length = V.length) (h1 : ∀ v ∈ V, v.oneCell' = true) :
    (storeCells ⟨g, 0, none⟩ V 0).run P w = .ok () (w.setRow g V.toArray) := by
  have := run_storeVar_row (P := P) w g t ty cs.toArray V.toArray h (by simpa using hi) (by simpa using ho) (all_oneCell_toArray h1)
  cases hq : P.info? ty with
  | none => simp [hq] at hi
  | some i =>
    have hs : i.size = V.length := by simp [hq] at hi; omega
    simpa [storeVar, sizeOf, typeInfo, hq, Value.cells, hs] using this
theorem oneCell_zeros (n : Nat) : ∀ v ∈ zeros n, v.oneCell' = true := by
  intro v hv
  obtain rfl := List.eq_of_mem_replicate hv
  rfl
set_option maxRecDepth 100000 in
set_option maxHeartbeats 1000000 in
theorem pread_no (A : Option Addr) (n c : Nat) (w : World) (hn : n ≠ 4096) :
    Calls Try.prog 13 #[.slice A n c] w fun e w' => e = .returned (.tuple #[.agg (zeros 512).toArray, .bool false]) ∧ Below w.heap.size w w' := by
  obtain ⟨hz, hsz⟩ := zero_of_info infoTabZ
  have h0 := oneCell_zeros 512
  obtain ⟨Z, hZ⟩ : ∃ Z, Z = zeros 512 := ⟨_, rfl⟩
  rw [← hZ] at hz h0 ⊢
  have hzl : Z.length = 512 := by rw [hZ]; simp [zeros]
  have h1 : ((n : Int) != 4096) = true := by rw [bne_iff_ne]; omega
  have hr := Row.new w 24 Z
  have hst := run_storeCells_row (P := Try.prog) (ty := 24) hr (by rw [hzl]; exact hsz) rfl h0
  have hr2 := hr.setRow Z
  have hld := run_loadVar_row (P := Try.prog) _ _ _ 24 _ _ _ hr2 Try.underlying24 rfl (by rw [hsz]; simp [hzl])
  have HB := Lib.hid (below_setRow ((Below.refl w.heap.size w).alloc (Nat.le_refl _) (.cells Z.toArray 24)) (Nat.le_refl _) Z.toArray)
  have HLD := Lib.hid hld
  clear hZ hsz hn h0 hr hr2 hld
  go_enter Try.func13, Try.ntmps13
  go_wp2_with fail
  refine bodyPost_ret (v := .tuple #[.agg Z.toArray, .bool false]) ?_ rfl ?_
  · rw [results_cell_tmp rfl]; simp [asAddr, Result.andThen, HLD.out]
  · exact ⟨rfl, HB.out⟩
theorem isB_cut {w : World} {B n : Nat} {bs : List Nat} {b off : Nat} (h : IsB w B (some ⟨b, off, none⟩) n bs) (k : Nat) (hk : k ≤ n) : IsB w B (some ⟨b, off + k, none⟩) (n - k) (bs.drop k) := by
  refine ⟨?_, fun x hx => h.2.1 x (List.mem_of_mem_drop hx), by have := h.2.2; omega⟩
  have hr := h.1.cut (cap := n + k + 1) hk (by omega)
  rw [if_neg (by omega)] at hr
  simp only [Nat.mul_one, Option.map_some, Addr.add_mid, ← List.map_drop] at hr
  exact hr
theorem tabK_len (t : List Nat) (ht : t.length = 512) (k : Nat) (hk : k ≤ 512) : (tabK t k).length = 512 := by
  simp [tabK, zeros]; omega
theorem tabK_get (t : List Nat) (ht : t.length = 512) (k : Nat) (hk : k < 512) : (tabK t k)[k]? = some (.int .u64 0) := by
  unfold tabK zeros
  rw [List.getElem?_append_right (by simp; omega)]
  have e : k - ((t.take k).map u64v).length = 0 := by simp; omega
  rw [e, List.getElem?_replicate, if_pos (by omega)]
  rfl
theorem tabK_set (t : List Nat) (ht : t.length = 512) (k : Nat) (hk : k < 512) : (tabK t k).set k (u64v (t.getD k 0)) = tabK t (k + 1) := by
  unfold tabK zeros
  rw [List.set_append_right _ _ (by simp; omega)]
  have e : k - ((t.take k).map u64v).length = 0 := by simp; omega
  rw [e, show 512 - k = (512 - (k + 1)) + 1 by omega, List.replicate_succ, List.set_cons_zero, take_snoc t k (by omega), List.map_append, List.append_assoc]
  rfl
theorem tabK_all (t : List Nat) (ht : t.length = 512) : tabK t 512 = t.map u64v := by
  unfold tabK zeros
  rw [← ht, List.take_length]
  simp
theorem oneCell_tab (t : List Nat) : ∀ v ∈ t.map u64v, v.oneCell' = true := by
  intro v hv
  obtain ⟨x, _, rfl⟩ := List.mem_map.1 hv
  rfl
set_option maxRecDepth 100000 in
set_option maxHeartbeats 1000000 in
theorem pread_yes (b off c : Nat) (bs : List Nat) (w : World) (hb : IsB w w.heap.size (some ⟨b, off, none⟩) 4096 bs) (hc : 4096 ≤ c) :
    Calls Try.prog 13 #[.slice (some ⟨b, off, none⟩) 4096 c] w fun e w' => e = .returned (.tuple #[tabV (tun bs), .bool true]) ∧ Below w.heap.size w w' := by
  obtain ⟨hz, hsz⟩ := zero_of_info infoTabZ
  have h0 := oneCell_zeros 512
  obtain ⟨Z, hZ⟩ : ∃ Z, Z = zeros 512 := ⟨_, rfl⟩
  rw [← hZ] at hz h0
  have hzl : Z.length = 512 := by rw [hZ]; simp [zeros]
  obtain ⟨w0, hw0⟩ : ∃ w0, w0 = (w.alloc (.cells Z.toArray 24)).alloc (.cells Z.toArray 24) := ⟨_, rfl⟩
  have hr2 : Row w0 w.heap.size 24 Z := by rw [hw0]; exact (Row.new w 24 Z).alloc _
  have hr4 : Row w0 (w.heap.size + 1) 24 (tabK (tun bs) 0) := by
    have h := Row.new (w.alloc (.cells Z.toArray 24)) 24 Z
    have e : (w.alloc (.cells Z.toArray 24)).heap.size = w.heap.size + 1 := by simp
    rw [e] at h
    rw [hw0, show tabK (tun bs) 0 = Z by simp [tabK, hZ]]
    exact h
  have hbel : Below w.heap.size w w0 := by rw [hw0]; exact ((Below.refl w.heap.size w).alloc (Nat.le_refl _) _).alloc (by simp) _
  have HR2 := Lib.hid hr2; have HR4 := Lib.hid hr4; have HB := Lib.hid hbel
  have HIB := Lib.hid hb
  have HSZ := Lib.hid hsz
  clear hZ hsz h0 hr2 hr4 hbel hb
  go_enter Try.func13, Try.ntmps13
  go_upto_region 4 with fail
  rw [← hw0]
  clear hw0 hz
  go_wp2_with fail
  go_loopw [10] (fun i wr => ∃ k, k ≤ 512 ∧ i = .int .i64 (k : Nat) ∧ Hid (Row wr w.heap.size 24 Z) ∧ Hid (Row wr (w.heap.size + 1) 24 (tabK (tun bs) k)) ∧ Hid (Below w.heap.size w wr)) (fun i _ => 512 - (intOf i).toNat)
  case atStart => exact ⟨0, by omega, rfl, HR2, HR4, HB⟩
  case round =>
    clear HR2 HR4 HB
    obtain ⟨k, hk, rfl, HR2, HR4, HB⟩ := hrel
    by_cases hk2 : k < 512
    · have e1 : decide ((k : Int) < 512) = true := decide_eq_true (by omega)
      obtain ⟨x, hx⟩ : ∃ x, x = Wd.unle ((bs.drop (8 * k)).take 8) := ⟨_, rfl⟩
      have HC := Lib.hid (get_uint64 (some ⟨b, off + 8 * k, none⟩) (4096 - 8 * k) (c - 8 * k) (bs.drop (8 * k)) wr (((isB_cut HIB.out (8 * k) (by omega)).below HB.out).more HB.out.size) (by omega) (by omega))
      rw [← hx] at HC
      have HX := Lib.hid hx
      clear hx
      have hc4 := HR4.out.cell k
      have hf4 := HR4.out.frozen k
      go_wp2_with fail
      rw [tabK_get _ (tun_len bs) k hk2] at hc4
      refine HC.out.mono ?_
      rintro e w2 ⟨rfl, rfl⟩
      have hlt := HR4.out.lt
      have HS : Hid (Row (wr.setCell ⟨w.heap.size + 1, k, none⟩ (.int .u64 (x : Nat))) (w.heap.size + 1) 24 (tabK (tun bs) (k + 1))) := Lib.hid (by
        have h := HR4.out.set_ k (u64v x)
        have e : x = (tun bs).getD k 0 := by rw [HX.out, List.getD_eq_getElem?_getD, tun_get bs k hk2]; rfl
        rw [e, tabK_set _ (tun_len bs) k hk2, ← e] at h
        exact h)
      have HR3 : Hid (Row (wr.setCell ⟨w.heap.size + 1, k, none⟩ (.int .u64 (x : Nat))) w.heap.size 24 Z) := Lib.hid (HR2.out.far (by simp) _)
      have HB3 : Hid (Below w.heap.size w (wr.setCell ⟨w.heap.size + 1, k, none⟩ (.int .u64 (x : Nat)))) := Lib.hid (HB.out.setCell (by simp) _)
      have hk5 : (k : Int) < 512 := by omega
      have hk6 : (0 : Int) ≤ (k : Int) := by omega
      clear HC HX HR2 HR4 HB
      go_wp2_with fail
      clear hc4 hf4
      go_roundw
      case rel => exact ⟨k + 1, by omega, by go_num, HR3, HS, HB3⟩
      case measure => simp [intOf]; omega
    · obtain rfl : k = 512 := by omega
      have hV := oneCell_tab (tun bs)
      have hr4 := HR4.out
      rw [tabK_all _ (tun_len bs)] at hr4
      have hvl : ((tun bs).map u64v).length = 512 := by rw [List.length_map, tun_len]
      obtain ⟨V, hv⟩ : ∃ V, V = (tun bs).map u64v := ⟨_, rfl⟩
      rw [← hv] at hV hr4 hvl
      have HTV : Hid (.agg V.toArray = tabV (tun bs)) := Lib.hid (by unfold tabV; rw [hv])
      have HR := Lib.hid hr4
      have hst := run_storeCells_row (P := Try.prog) (ty := 24) HR2.out (by rw [hvl]; exact HSZ.out) (by rw [hvl, hzl]) hV
      have hr2 := HR2.out.setRow V
      have hld := run_loadVar_row (P := Try.prog) _ _ _ 24 _ _ _ hr2 Try.underlying24 rfl (by rw [HSZ.out]; simp [hvl])
      have HB2 := Lib.hid (below_setRow HB.out (Nat.le_refl _) V.toArray)
      have HLD := Lib.hid hld
      clear hv hV hr4 HR2 HR4 hr2 hld HB
      go_upto_region 9 with fail
      go_wp2_with (refine wpList_load_mid rfl _ _ rfl _ _ (by rfl) V (.array 512 22) (fun j v hv => by rw [Nat.zero_add, HR.out.cell, hv]) Try.underlying24 rfl (by rw [HSZ.out, hvl]) ?_)
      refine bodyPost_ret (v := .tuple #[.agg V.toArray, .bool true]) ?_ rfl ?_
      · rw [results_cell_tmp rfl]; simp [asAddr, Result.andThen, HLD.out]
      · exact ⟨by rw [HTV.out], HB2.out⟩
end Go.Proofs.Ytblfagmoilhdnaa

/- The walks of the book's small helpers over bytes: Beyond, Same, Roomy, Intact. -/
set_option linter.unusedVariables false
set_option linter.unusedSimpArgs false
namespace Go.Proofs.Ytblfagmoilhdnaa
open Go.RowKit

def i64 (x : Nat) : Value := .int .i64 (x : Int)
/-- are so many, together, above what is left? -/
def beyondL : Nat → List Nat → Bool
  | _, [] => false
  | left, x :: r => if left < x then true else beyondL (left - x) r
theorem form_of {α : Type} (f : α → Value) (d : α) {w : World} {B n : Nat} {A : Option Addr} {xs : List α} (h : Reads w B 1 A n (xs.map f)) :
    xs.length = n ∧ ∃ b off, Hid (0 < n → A = some ⟨b, off, none⟩ ∧ b < B ∧ ∀ k, k < n → w.cell? ⟨b, off + k, none⟩ = some (f (xs.getD k d))) := by
  have hl : xs.length = n := by have := h.1; simpa using this
  refine ⟨hl, ?_⟩
  rcases Nat.eq_zero_or_pos n with h0 | h0
  · exact ⟨0, 0, fun h => absurd h (by omega)⟩
  · obtain ⟨⟨b, off, sp⟩, rfl, hb, hc⟩ := h.2 h0
    have hx : ∀ k, k < n → (xs.map f)[k]? = some (f (xs.getD k d)) := fun k hk => by
      simp [List.getD_eq_getElem?_getD, show k < xs.length by omega]
    have hs : sp = none := by
      have := World.cell?_spot (hc 0 _ (hx 0 h0))
      simpa [Addr.add] using this
    subst hs
    refine ⟨b, off, fun _ => ⟨rfl, hb, fun k hk => ?_⟩⟩
    have := hc k _ (hx k hk)
    unfold Addr.add at this
    split at this
    · rename_i h0; subst h0; simpa using this
    · simpa using this
theorem drop_at {α : Type} (d : α) (xs : List α) (k : Nat) (h : k < xs.length) : xs.drop k = xs.getD k d :: xs.drop (k + 1) := by
  rw [List.drop_eq_getElem_cons h]; simp [List.getD_eq_getElem?_getD, h]

set_option maxHeartbeats 400000 in
theorem beyond_any (A : Option Addr) (n c : Nat) (xs : List Nat) (w : World) (hr : Reads w w.heap.size 1 A n (xs.map i64)) (hn : n ≤ 1000000) (hx : ∀ x ∈ xs, x ≤ 9223372036854775807) :
    Calls Try.prog 9 #[.slice A n c] w fun e w' => e = .returned (.bool (beyondL 2147483647 xs)) ∧ w = w' := by
  obtain ⟨hl, b, off, HF⟩ := form_of i64 0 hr
  have HL := Lib.hid hl; clear hl
  go_enter Try.func9, Try.ntmps9
  go_wp2
  go_loop [3, 4] (fun l i => ∃ j k : Nat, j ≤ n ∧ i = .int .i64 j ∧ k ≤ 2147483647 ∧ l = .int .i64 k ∧ Hid (beyondL k (xs.drop j) = beyondL 2147483647 xs)) (fun _ i => n - (intOf i).toNat)
  case atStart => exact ⟨0, 2147483647, by omega, rfl, by omega, rfl, Lib.hid (by simp)⟩
  case round =>
    obtain ⟨j, k, hj, rfl, hk, rfl, HB⟩ := hrel
    by_cases hjn : j < n
    · obtain ⟨hA, hbB, hc⟩ := HF.out (by omega)
      subst hA
      have hcj := hc j hjn
      have hd := drop_at 0 xs j (by have := HL.out; omega)
      have hxm := hx _ (by rw [List.getD_eq_getElem?_getD]; simp [show j < xs.length by have := HL.out; omega] : xs.getD j 0 ∈ xs)
      obtain ⟨x, hxe⟩ : ∃ x, x = xs.getD j 0 := ⟨_, rfl⟩
      rw [← hxe] at hcj hd hxm
      unfold i64 at hcj
      have HD := Lib.hid hd
      clear hc hd hxe hx
      by_cases hgt : k < x
      · go_wp2
        go_ret
        exact ⟨ret_bool (by rw [← HB.out, HD.out, beyondL, if_pos hgt]), rfl⟩
      · go_wp2
        go_round
        case rel => exact ⟨j + 1, k - x, by omega, by go_num, by omega, by go_num, Lib.hid (by have := HB.out; rw [HD.out, beyondL, if_neg hgt] at this; exact this)⟩
        case measure => simp [intOf]; omega
    · have HJ : Hid (j = n) := Lib.hid (by omega)
      go_wp2
      go_ret
      exact ⟨ret_bool (by rw [← HB.out, HJ.out, List.drop_of_length_le (by have := HL.out; omega)]; rfl), rfl⟩

set_option maxHeartbeats 400000 in
theorem same_any (A A' : Option Addr) (n n' c c' : Nat) (xs ys : List Nat) (w : World) (ha : IsB w w.heap.size A n xs) (hb : IsB w w.heap.size A' n' ys) :
    Calls Try.prog 11 #[.slice A n c, .slice A' n' c'] w fun e w' => e = .returned (.bool (decide (xs = ys))) ∧ ∃ m, w' = w.drewN m := by
  obtain ⟨b, off, HF⟩ := ha.form
  obtain ⟨b', off', HF'⟩ := hb.form
  have HL := Lib.hid ha.len
  have HL' := Lib.hid hb.len
  have hn := ha.2.2
  by_cases hnn : n = n'
  · subst hnn
    have hne : ((n : Int) != (n : Int)) = false := by simp
    go_enter Try.func11, Try.ntmps11
    go_wp2
    go_loopw [5] (fun i wr => ∃ j m : Nat, j ≤ n ∧ i = .int .i64 j ∧ wr = w.drewN m ∧ Hid (xs.take j = ys.take j)) (fun i _ => n - (intOf i).toNat)
    case atStart => exact ⟨0, 0, by omega, rfl, rfl, Lib.hid rfl⟩
    case round =>
      obtain ⟨j, m, hj, rfl, rfl, HE⟩ := hrel
      by_cases hjn : j < n
      · obtain ⟨hA, hbB, hc⟩ := HF.out (by omega)
        obtain ⟨hA', hbB', hc'⟩ := HF'.out (by omega)
        subst hA
        subst hA'
        have hcj := hc j hjn
        have hcj' := hc' j hjn
        have ht := take_snoc xs j (by have := HL.out; omega)
        have ht' := take_snoc ys j (by have := HL'.out; omega)
        have hjl : (j : Int) < (n : Int) := by omega
        obtain ⟨x, hx⟩ : ∃ x, x = xs.getD j 0 := ⟨_, rfl⟩
        obtain ⟨y, hy⟩ : ∃ y, y = ys.getD j 0 := ⟨_, rfl⟩
        rw [← hx] at hcj ht
        rw [← hy] at hcj' ht'
        have HT := Lib.hid ht
        have HT' := Lib.hid ht'
        clear hc hc' ht ht' hx hy
        by_cases hxy : x = y
        · subst hxy
          have hq : ((x : Int) != (x : Int)) = false := by simp
          go_wp2
          go_quiet (fail)
          go_wp2
          go_roundw
          case rel => exact ⟨j + 1, _, by omega, by go_num, rfl, Lib.hid (by rw [HT.out, HT'.out, HE.out])⟩
          case measure => simp [intOf]; omega
        · have hq : ((x : Int) != (y : Int)) = true := by rw [bne_iff_ne]; omega
          have HX := Lib.hid hxy; clear hxy
          go_wp2
          go_quiet (fail)
          go_wp2
          go_ret
          refine ⟨ret_bool (Eq.symm (decide_eq_false fun h => HX.out ?_)), _, by rw [World.drewN_drewN]⟩
          have h1 := HT.out
          rw [h, HT'.out] at h1
          simpa using (List.append_inj_right' h1 rfl).symm
      · have HJ : Hid (j = n) := Lib.hid (by omega)
        go_wp2
        go_ret
        refine ⟨ret_bool (Eq.symm (decide_eq_true ?_)), _, rfl⟩
        have h1 := HE.out
        rw [HJ.out] at h1
        rwa [List.take_of_length_le (by have := HL.out; omega), List.take_of_length_le (by have := HL'.out; omega)] at h1
  · have hne : ((n : Int) != (n' : Int)) = true := by rw [bne_iff_ne]; omega
    have HN := Lib.hid hnn; clear hnn
    go_enter Try.func11, Try.ntmps11
    go_wp2
    go_ret
    exact ⟨ret_bool (Eq.symm (decide_eq_false fun h => HN.out (by rw [← HL.out, ← HL'.out, h]))), 0, rfl⟩

theorem madeCells_one (z : Value) (n : Nat) : madeCells #[z] n = (List.replicate n z).toArray := by
  unfold madeCells
  apply Array.ext
  · simp
  · intro i h1 h2
    simp [Nat.mod_one]
/-- what Roomy fills: the list, k marks, what is not filled yet -/
def fillM (X : List Value) (M : Value) (k : Nat) : List Value := X ++ (List.replicate k M ++ List.replicate (80 - k) (.int .u8 0))
theorem fillM_len (X : List Value) (M : Value) (k : Nat) (hk : k ≤ 80) : (fillM X M k).length = X.length + 80 := by simp [fillM]; omega
theorem fillM_set (X : List Value) (M : Value) (k : Nat) (hk : k < 80) : (fillM X M k).set (X.length + k) M = fillM X M (k + 1) := by
  unfold fillM
  rw [List.set_append_right _ _ (by omega), List.set_append_right _ _ (by simp)]
  congr 1
  rw [show 80 - k = (80 - (k + 1)) + 1 by omega, List.replicate_succ, List.replicate_succ']
  simp
theorem fillM_get (X : List Value) (M : Value) (k : Nat) (hk : k < 80) : (fillM X M k)[X.length + k]? = some (.int .u8 0) := by
  unfold fillM
  rw [List.getElem?_append_right (by omega), List.getElem?_append_right (by simp)]
  have : 80 - k ≠ 0 := by omega
  rw [List.getElem?_replicate, if_pos (by rw [List.length_replicate]; omega)]
theorem fillM_start (X : List Value) (M : Value) : splice (List.replicate (X.length + 80) (.int .u8 0)) 0 X = fillM X M 0 := by
  simp [splice, fillM]
theorem fillM_end (X : List Value) (M : Value) : fillM X M 80 = X ++ List.replicate 80 M := by simp [fillM]
theorem info5 : (Try.prog.info? 5).map (fun i => (i.zero, i.size, i.bytes)) = some (some (.int .u8 0), 1, 1) := by kernel_rfl
theorem size5 : (Try.prog.info? 5).map (·.size) = some 1 := by kernel_rfl

set_option maxRecDepth 100000 in
set_option maxHeartbeats 400000 in
theorem roomy_any (A : Option Addr) (n c : Nat) (bs : List Nat) (m : Nat) (w : World) (ha : IsB w w.heap.size A n bs) (hn : n ≤ 140737488351232) :
    Calls Try.prog 14 #[.slice A n c, .int .u8 (m : Int)] w fun e w' => e = .returned (.slice (some ⟨w.heap.size, 0, none⟩) (n + 80) (n + 80)) ∧ Row w' w.heap.size 5 (fillM (bs.map u8) (u8 m) 80) ∧ Below w.heap.size w w' := by
  have hmk := run_make_row' (P := Try.prog) 25 5 (.int .u8 0) 1 Try.underlying25 info5 rfl .i64 .i64 (n + 80) (by omega) (by omega)
  rw [madeCells_one] at hmk
  rw [show ((n + 80 : Nat) : Int) = (n : Int) + 80 by omega] at hmk
  have HL := Lib.hid ha.len
  obtain ⟨X, hX⟩ : ∃ X, X = bs.map u8 := ⟨_, rfl⟩
  have hXl : X.length = n := by rw [hX]; simpa using ha.len
  obtain ⟨Z, hZ⟩ : ∃ Z : List Value, Z = List.replicate (n + 80) (.int .u8 0) := ⟨_, rfl⟩
  rw [← hZ] at hmk
  have hZl : Z.length = n + 80 := by rw [hZ]; simp
  have hr := ha.1
  rw [← hX] at hr ⊢
  have h1 : ∀ v ∈ X, v.oneCell' = true := by rw [hX]; intro v hv; simp at hv; obtain ⟨b, _, rfl⟩ := hv; rfl
  have HZ := Lib.hid hZ
  have HXl := Lib.hid hXl
  have HZl := Lib.hid hZl
  have H1 := Lib.hid h1
  clear hX hXl hZ hZl h1 ha
  go_enter Try.func14, Try.ntmps14
  go_wp2_with (with_reducible refine wpList_copy_splice rfl (.tmp 11) (.tmp 12) 25 25 rfl 5 Try.underlying25 size5 _ _ _ _ _ _ rfl rfl w.heap.size 0 Z 5 (Row.new w 5 Z).out X ?hn ?hpos ?hfit H1.out w.heap.size w ((Below.refl _ _).alloc (Nat.le_refl _) _) (Nat.le_refl _) ?_; rotate_right; intro w2 HG hb2)
  case hn => rw [HXl.out]; exact (Nat.min_eq_left (by omega)).symm
  case hpos => intro h0; have h2 := hr.alloc (Nat.le_refl _) (.cells Z.toArray 5); obtain ⟨ad, e, _, hc⟩ := h2.2 (by have := HXl.out; omega); first | exact ⟨rfl, ad, e, hc⟩ | exact ⟨ad, e, hc⟩
  case hfit => have := HXl.out; have := HZl.out; omega
  have hrow : Row w2 w.heap.size 5 (fillM X (u8 m) 0) := by
    have h := HG.out
    rw [HZ.out, ← HXl.out, fillM_start] at h
    exact h
  clear HG
  go_wp2
  go_loopw [6] (fun i wr => ∃ k : Nat, k ≤ 80 ∧ i = .int .i64 ((n + k : Nat) : Int) ∧ Row wr w.heap.size 5 (fillM X (u8 m) k) ∧ Below w.heap.size w wr) (fun i _ => n + 80 - (intOf i).toNat)
  case atStart => exact ⟨0, by omega, rfl, hrow, hb2⟩
  case round =>
    obtain ⟨k, hk, rfl, hrw, hbw⟩ := hrel
    by_cases hk8 : k < 80
    · have hc : wr.cell? ⟨w.heap.size, n + k, none⟩ = some (.int .u8 0) := by rw [hrw.cell, ← HXl.out, fillM_get _ _ _ hk8]
      have hf := hrw.frozen (n + k)
      go_wp2
      go_roundw
      case rel => exact ⟨k + 1, by omega, by go_num, by have := hrw.set_ (n + k) (u8 m); rw [← HXl.out, fillM_set _ _ _ hk8, HXl.out] at this; exact this, hbw.setCell (Nat.le_refl _) _⟩
      case measure => simp [intOf]; omega
    · have HK : Hid (k = 80) := Lib.hid (by omega)
      go_wp2
      go_ret
      exact ⟨rfl, by rw [← HK.out]; exact hrw, hbw⟩

theorem same_yes (A A' : Option Addr) (n c c' : Nat) (xs : List Nat) (w : World) (ha : IsB w w.heap.size A n xs) (hb : IsB w w.heap.size A' n xs) :
    Calls Try.prog 11 #[.slice A n c, .slice A' n c'] w fun e w' => e = .returned (.bool true) ∧ ∃ m, w' = w.drewN m := by
  have h := same_any A A' n n c c' xs xs w ha hb
  rwa [decide_eq_true (rfl : xs = xs)] at h
theorem fillM_end_get (X : List Value) (M : Value) (k : Nat) (hk : k < 80) : (fillM X M 80)[X.length + k]? = some M := by
  rw [fillM_end, List.getElem?_append_right (by omega), List.getElem?_replicate, if_pos (by omega)]
theorem fillM_take (X : List Value) (M : Value) : ((fillM X M 80).drop 0).take X.length = X := by
  rw [fillM_end]; simp
theorem room_isB {w : World} {g n m B : Nat} {bs : List Nat} (h : Row w g 5 (fillM (bs.map u8) (u8 m) 80)) (hl : bs.length = n) (hb : ∀ b ∈ bs, b < 256) (hB : g < B) (hn : n ≤ 9223372036854775807) : IsB w B (some ⟨g, 0, none⟩) n bs := by
  refine IsB.of_row h ?_ hl hb hB hn ?_
  · have := fillM_take (bs.map u8) (u8 m)
    rwa [List.length_map, hl] at this
  · rw [fillM_len _ _ _ (by omega)]; simp; omega

set_option maxRecDepth 100000 in
set_option maxHeartbeats 400000 in
theorem intact_yes (A : Option Addr) (n c g : Nat) (bs : List Nat) (m : Nat) (w : World) (ha : IsB w w.heap.size A n bs) (hrow : Row w g 5 (fillM (bs.map u8) (u8 m) 80)) (hn : n ≤ 140737488351232) :
    Calls Try.prog 15 #[.slice (some ⟨g, 0, none⟩) (n + 80) (n + 80), .slice A n c, .int .u8 (m : Int)] w fun e w' => e = .returned (.bool true) ∧ ∃ k, w' = w.drewN k := by
  have HL := Lib.hid ha.len
  have hF := room_isB hrow ha.len ha.2.1 hrow.lt (by omega)
  have hne : (((n : Int) + 80) != ((n : Int) + 80)) = false := by simp
  go_enter Try.func15, Try.ntmps15
  go_wp2_with (go_at_call 11; refine (same_yes _ _ _ _ _ _ _ hF ha).mono ?_; rintro e w' ⟨rfl, m1, rfl⟩)
  go_loopw [7] (fun i wr => ∃ k m2 : Nat, k ≤ 80 ∧ i = .int .i64 ((n + k : Nat) : Int) ∧ wr = w.drewN m2) (fun i _ => n + 80 - (intOf i).toNat)
  case atStart => exact ⟨0, _, by omega, rfl, rfl⟩
  case round =>
    obtain ⟨k, m2, hk, rfl, rfl⟩ := hrel
    by_cases hk8 : k < 80
    · have hc : w.cell? ⟨g, n + k, none⟩ = some (.int .u8 m) := by
        rw [hrow.cell]
        have := fillM_end_get (bs.map u8) (u8 m) k hk8
        rw [List.length_map, HL.out] at this
        exact this
      have hq : ((m : Int) != (m : Int)) = false := by simp
      go_wp2
      go_roundw
      case rel => exact ⟨k + 1, _, by omega, by go_num, rfl⟩
      case measure => simp [intOf]; omega
    · go_wp2
      go_ret
      exact ⟨rfl, _, rfl⟩
end Go.Proofs.Ytblfagmoilhdnaa
