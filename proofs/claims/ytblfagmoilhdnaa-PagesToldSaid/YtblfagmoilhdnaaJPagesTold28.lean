/- Texts of this claim, one behind the other: PrB, PrC. -/
import Derived.Test.YtblfagmoilhdnaaJPagesTold27
import Derived.Test.YtblfagmoilhdnaaJPagesTold20
import Derived.Deep.Cut
import Derived.Deep.DeepCutAuto
import Derived.Deep.RegionHeld3
import Derived.Deep.RegionWith
/- Plain law: tables that are named first and filled then are the builder's. -/
set_option linter.unusedVariables false
set_option linter.unusedSimpArgs false
namespace Go.Proofs.Ytblfagmoilhdnaa
namespace Pg
/-- a table's number where it is one of the first k -/
def nameAt (base : Nat) (L : List Lab) (k : Nat) (s : Lab) : Nat := if s ∈ L ∧ L.idxOf s < k then ptr base (L.idxOf s) else 0
def ent0 (base : Nat) (L : List Lab) (k : Nat) (t : Lab) (e : Nat) : Nat :=
  if t.1 = 0 then nameAt base L k (1, e) else if t.1 = 1 then nameAt base L k (2, t.2 * 512 + e) else 0
/-- the first k tables are named -/
structure Ptrs (base : Nat) (L : List Lab) (k : Nat) (all : List (List Nat)) : Prop where
  len : all.length = L.length
  tab : ∀ i, i < all.length → (all.getD i []).length = 512
  ent : ∀ i t, L[i]? = some t → ∀ e, e < 512 → cell all i e = ent0 base L k t e
theorem cell_zeros {a : List (List Nat)} {n i e : Nat} (h : a = List.replicate n zero512) : cell a i e = 0 := by
  subst h
  unfold cell
  rw [List.getD_eq_getElem?_getD, List.getD_eq_getElem?_getD, List.getElem?_replicate]
  split
  · show ((List.replicate 512 0)[e]?).getD 0 = 0
    rw [List.getElem?_replicate]
    split <;> rfl
  · rfl
theorem idx_at {L : List Lab} (h : L.Nodup) {k : Nat} {s : Lab} (hs : L[k]? = some s) : s ∈ L ∧ L.idxOf s = k := by
  have hm := List.mem_of_getElem? hs
  refine ⟨hm, nodup_at h ?_ hs⟩
  rw [List.getElem?_eq_getElem (List.idxOf_lt_length_iff.2 hm), List.getElem_idxOf]
theorem at_idxOf {L : List Lab} {s : Lab} (hm : s ∈ L) : L[L.idxOf s]? = some s := by
  rw [List.getElem?_eq_getElem (List.idxOf_lt_length_iff.2 hm), List.getElem_idxOf]
theorem Ptrs.init {base : Nat} {L : List Lab} (hg : Good L) : Ptrs base L 1 (List.replicate L.length zero512) := by
  have hz : ∀ s : Lab, s.1 ≠ 0 → nameAt base L 1 s = 0 := by
    intro s hs
    unfold nameAt
    rw [if_neg]
    rintro ⟨hm, h1⟩
    have h0 : L.idxOf s = 0 := by omega
    have h2 := at_idxOf hm
    rw [h0, hg.root] at h2
    injection h2 with h2
    subst h2
    exact hs rfl
  refine ⟨List.length_replicate, ?_, ?_⟩
  · intro i hi
    rw [List.length_replicate] at hi
    rw [List.getD_eq_getElem?_getD, List.getElem?_replicate, if_pos hi]
    exact List.length_replicate
  · intro i t hi e he
    rw [cell_zeros rfl]
    unfold ent0
    by_cases h0 : t.1 = 0
    · rw [if_pos h0, hz _ (by simp)]
    · rw [if_neg h0]
      by_cases h1 : t.1 = 1
      · rw [if_pos h1, hz _ (by simp)]
      · rw [if_neg h1]
/-- the table that names a table -/
def par (L : List Lab) (s : Lab) : Nat := if s.1 = 1 then 0 else L.idxOf (1, s.2 / 512)
theorem nameAt_next {base : Nat} {L : List Lab} {k : Nat} {s : Lab} (hg : L.Nodup) (hs : L[k]? = some s) (u : Lab) : nameAt base L (k + 1) u = if u = s then ptr base k else nameAt base L k u := by
  obtain ⟨hm, hi⟩ := idx_at hg hs
  unfold nameAt
  by_cases hu : u = s
  · subst hu
    rw [if_pos rfl, if_pos ⟨hm, by omega⟩, hi]
  · rw [if_neg hu]
    by_cases h : u ∈ L ∧ L.idxOf u < k + 1
    · have h2 : L.idxOf u ≠ k := fun h2 => by
        have := at_idxOf h.1
        rw [h2, hs] at this
        injection this with this
        exact hu this.symm
      rw [if_pos h, if_pos ⟨h.1, by omega⟩]
    · rw [if_neg h, if_neg (fun h' => h ⟨h'.1, by omega⟩)]
theorem Ptrs.next {base : Nat} {L : List Lab} {k : Nat} {all : List (List Nat)} (h : Ptrs base L k all) (hg : Good L) {s : Lab} (hs : L[k]? = some s) (h12 : s.1 = 1 ∧ s.2 < 512 ∨ s.1 = 2 ∧ (1, s.2 / 512) ∈ L) :
    Ptrs base L (k + 1) (setE all (par L s) (s.2 % 512) (ptr base k)) := by
  have hp : ∃ p, L[par L s]? = some p ∧ (p.1 = 0 ∧ s = (1, s.2 % 512) ∨ p.1 = 1 ∧ s = (2, p.2 * 512 + s.2 % 512)) := by
    obtain ⟨s1, s2⟩ := s
    rcases h12 with ⟨h1, h2⟩ | ⟨h1, h2⟩
    · refine ⟨(0, 0), ?_, .inl ⟨rfl, ?_⟩⟩
      · unfold par; rw [if_pos h1]; exact hg.root
      · simp only at h1 h2 ⊢; subst h1; rw [Nat.mod_eq_of_lt h2]
    · refine ⟨(1, s2 / 512), ?_, .inr ⟨rfl, ?_⟩⟩
      · unfold par; rw [if_neg (by simp only at h1 ⊢; omega)]; exact at_idxOf h2
      · simp only at h1 h2 ⊢
        subst h1
        rw [show s2 / 512 * 512 + s2 % 512 = s2 by omega]
  obtain ⟨p, hp1, hp2⟩ := hp
  have hia : par L s < all.length := by rw [h.len]; exact (List.getElem?_eq_some_iff.1 hp1).1
  refine ⟨by rw [setE_len, h.len], tab_setE h.tab, ?_⟩
  intro i t hi e he
  rw [cell_setE hia (h.tab _ hia) (by omega), h.ent i t hi e he]
  by_cases hit : i = par L s ∧ e = s.2 % 512
  · obtain ⟨rfl, rfl⟩ := hit
    rw [if_pos ⟨rfl, rfl⟩]
    rw [hp1] at hi
    injection hi with hi
    subst hi
    unfold ent0
    rcases hp2 with ⟨h0, h1⟩ | ⟨h0, h1⟩
    · rw [if_pos h0, nameAt_next hg.nd hs, ← h1, if_pos rfl]
    · rw [if_neg (by omega), if_pos h0, nameAt_next hg.nd hs, ← h1, if_pos rfl]
  · rw [if_neg hit]
    unfold ent0
    by_cases h0 : t.1 = 0
    · rw [if_pos h0, if_pos h0, nameAt_next hg.nd hs, if_neg]
      intro h1
      have e1 := hg.lev t (List.mem_of_getElem? hi) h0
      rcases hp2 with ⟨a, b⟩ | ⟨a, b⟩
      · have e2 := hg.lev p (List.mem_of_getElem? hp1) a
        subst e1 e2
        rw [← h1] at b
        injection b with _ b
        exact hit ⟨nodup_at hg.nd hi hp1, by rw [← h1]; omega⟩
      · rw [← h1] at b; injection b with b _; omega
    · rw [if_neg h0, if_neg h0]
      by_cases h1 : t.1 = 1
      · rw [if_pos h1, if_pos h1, nameAt_next hg.nd hs, if_neg]
        intro h2
        rcases hp2 with ⟨a, b⟩ | ⟨a, b⟩
        · rw [← h2] at b; injection b with b _; omega
        · have e1 : t = p := by
            rw [← h2] at b
            injection b with _ b
            obtain ⟨t1, t2⟩ := t
            obtain ⟨p1, p2⟩ := p
            simp only at a h1 b
            subst a h1
            have : t2 = p2 := by omega
            rw [this]
          subst e1
          refine hit ⟨nodup_at hg.nd hi hp1, ?_⟩
          rw [← h2]
          show e = (t.2 * 512 + e) % 512
          omega
      · rw [if_neg h1, if_neg h1]
theorem Ptrs.rep {base : Nat} {L : List Lab} {all : List (List Nat)} (h : Ptrs base L L.length all) : Rep base L [] all := by
  refine ⟨h.len, h.tab, ?_⟩
  intro i t hi e he
  rw [h.ent i t hi e he]
  have hn : ∀ s, nameAt base L L.length s = if s ∈ L then ptr base (L.idxOf s) else 0 := by
    intro s
    unfold nameAt
    by_cases hs : s ∈ L
    · rw [if_pos ⟨hs, List.idxOf_lt_length_iff.2 hs⟩, if_pos hs]
    · rw [if_neg (fun h => hs h.1), if_neg hs]
  have hp : ∀ b k, pageAt [] b k = 0 := fun b k => pageAt_none (by simp)
  unfold ent0 entry
  by_cases h0 : t.1 = 0
  · rw [if_pos h0, if_pos h0, hn]
  · rw [if_neg h0, if_neg h0]
    by_cases h1 : t.1 = 1
    · rw [if_pos h1, if_pos h1, hn, hp]
    · rw [if_neg h1, if_neg h1, hp]
theorem Rep.ext {base : Nat} {L : List Lab} {qs : List Pge} {a c : List (List Nat)} (h : Rep base L qs a) (h2 : Rep base L qs c) : a = c := by
  have hl : a.length = c.length := by rw [h.len, h2.len]
  have gd : ∀ (z : List (List Nat)) (i : Nat) (hi : i < z.length), z.getD i [] = z[i] := by
    intro z i hi
    rw [List.getD_eq_getElem?_getD, List.getElem?_eq_getElem hi]; rfl
  have gd2 : ∀ (z : List Nat) (i : Nat) (hi : i < z.length), z.getD i 0 = z[i] := by
    intro z i hi
    rw [List.getD_eq_getElem?_getD, List.getElem?_eq_getElem hi]; rfl
  refine List.ext_getElem hl fun i hi hi2 => ?_
  have t1 := h.tab i hi
  have t2 := h2.tab i hi2
  rw [gd a i hi] at t1
  rw [gd c i hi2] at t2
  refine List.ext_getElem (t1.trans t2.symm) fun e he he2 => ?_
  have hLi : i < L.length := by rw [← h.len]; exact hi
  have e1 := h.ent i L[i] (List.getElem?_eq_getElem hLi) e (by omega)
  have e2 := h2.ent i L[i] (List.getElem?_eq_getElem hLi) e (by omega)
  unfold cell at e1 e2
  rw [gd a i hi, gd2 _ e he] at e1
  rw [gd c i hi2, gd2 _ e he2] at e2
  rw [e1, e2]
/-- what the pages want of the tables, all at once -/
structure Wanted (L : List Lab) (qs : List Pge) : Prop where
  good : Good L
  lev : ∀ t ∈ L, t.1 ≤ 2
  up : ∀ t ∈ L, t.1 = 1 ∧ t.2 < 512 ∨ t.1 = 2 ∧ (1, t.2 / 512) ∈ L ∨ t = (0, 0)
  big : ∀ q ∈ qs, q.b = true → (1, q.v / 1073741824) ∈ L ∧ (2, q.v / 2097152) ∉ L
  small : ∀ q ∈ qs, q.b = false → (2, q.v / 2097152) ∈ L
theorem chain_far {qs : List Pge} (hc : Chain qs) {x q : Pge} (hx : x ∈ qs) (hq : q ∈ qs) : x = q ∨ x.v + x.u ≤ q.v ∨ q.v + q.u ≤ x.v := by
  obtain ⟨i, hi, rfl⟩ := List.getElem_of_mem hx
  obtain ⟨j, hj, rfl⟩ := List.getElem_of_mem hq
  have hp := List.pairwise_iff_getElem.1 hc.1
  rcases Nat.lt_trichotomy i j with h | h | h
  · exact .inr (.inl (hp i j hi hj h))
  · subst h; exact .inl rfl
  · exact .inr (.inr (hp j i hj hi h))
theorem wanted_of {qs : List Pge} (hc : Chain qs) : Wanted (tabs qs) qs := by
  refine ⟨good_tabs qs, lev_tabs qs, ?_, ?_, ?_⟩
  · intro t ht
    rcases mem_tabs.1 ht with rfl | ⟨q, hq, rfl | ⟨hb, rfl⟩⟩
    · exact .inr (.inr rfl)
    · refine .inl ⟨rfl, ?_⟩
      have := (hc.2 q hq).vl
      have : q.u ≥ 4096 := by rcases q.u_or with h | h <;> omega
      show q.v / 1073741824 < 512
      omega
    · refine .inr (.inl ⟨rfl, mem_tabs.2 (.inr ⟨q, hq, .inl ?_⟩)⟩)
      show (1, q.v / 2097152 / 512) = _
      rw [show q.v / 2097152 / 512 = q.v / 1073741824 by omega]
  · intro q hq hb
    refine ⟨mem_tabs.2 (.inr ⟨q, hq, .inl rfl⟩), fun hm => ?_⟩
    rcases mem_tabs.1 hm with h | ⟨x, hx, h | ⟨hxb, h⟩⟩
    · injection h with h _; cases h
    · injection h with h _; cases h
    · injection h with _ h
      have h1 := (hc.2 q hq).va
      have h2 : q.u = 2097152 := by unfold Pge.u; rw [hb]; rfl
      have h3 : x.u = 4096 := by unfold Pge.u; rw [hxb]; rfl
      have h4 := (hc.2 x hx).va
      rcases chain_far hc hx hq with he | he | he
      · subst he; rw [hb] at hxb; cases hxb
      · rw [h3] at he; rw [h2] at h1; omega
      · rw [h2] at he h1; omega
  · intro q hq hb
    exact mem_tabs.2 (.inr ⟨q, hq, .inr ⟨hb, rfl⟩⟩)
/-- the table that a page lies in -/
def pOf (L : List Lab) (q : Pge) : Nat := L.idxOf (if q.b then (1, q.v / 1073741824) else (2, q.v / 2097152))
def eOf (q : Pge) : Nat := if q.b then q.v / 2097152 % 512 else q.v / 4096 % 512
theorem Rep.lay {base : Nat} {L : List Lab} {qs pages : List Pge} {all : List (List Nat)} (h : Rep base L qs all) (hw : Wanted L pages) {q : Pge} (hq : q ∈ pages) (hc : Chain (qs ++ [q])) :
    Rep base L (qs ++ [q]) (setE all (pOf L q) (eOf q) q.num) := by
  obtain ⟨hcq, hok, hlt⟩ := chain_snoc hc
  refine h.page hw.good hw.lev ?_ (fun hb => (hw.big q hq hb).2) ?_
  · unfold pOf
    cases hb : q.b
    · exact at_idxOf (hw.small q hq hb)
    · exact at_idxOf (hw.big q hq hb).1
  · rintro x hx ⟨hb, he⟩
    have h1 := hlt x hx
    have hu : x.u = q.u := by unfold Pge.u; rw [hb]
    have h2 := (hcq.2 x hx).va
    have h3 := hok.va
    rw [hu] at h1 h2
    rcases q.u_or with ⟨h4, _⟩ | ⟨h4, _⟩
    · rw [h4] at h1 h2 h3 he; omega
    · rw [h4] at h1 h2 h3 he; omega
theorem rep_ans {rows : List Lf} {base : Nat} {all : List (List Nat)} (hr : right 0 rows = 0) (hl : (refT rows).length ≤ 1024) (h : Rep base (refT rows) (pagesOf rows) all) : ans rows base = (all, 0) := by
  have hc := (right_pages rows 0 hr).1
  obtain ⟨h1, h2⟩ := refT_len hr base
  cases hp : runP base Pg.init (pagesOf rows) with
  | none => exact absurd (h1.2 hp) (by omega)
  | some s =>
    have hk := runP_known (pagesOf rows) [] Pg.init s (known_init base) (by simpa using hc) hp
    rw [List.nil_append] at hk
    rw [h2 hl] at h
    have he := h.ext hk.rep
    have es : ans rows base = (s.all, 0) := by unfold ans; rw [if_neg (by simp [hr]), hp]
    rw [es, he]
theorem ptr_of {base k : Nat} (h4 : base % 4096 = 0) (hl : base + k * 4096 < 4294967296) : (base + k * 4096) ||| 1 = ptr base k := by
  unfold ptr
  rw [Nat.mod_eq_of_lt hl]
  have : (base + k * 4096) % 2 = 0 := by omega
  obtain ⟨z, hz⟩ : ∃ z, base + k * 4096 = 2 * z := ⟨(base + k * 4096) / 2, by omega⟩
  rw [hz]
  rw [show (1:Nat) = 2 * 0 + 1 from rfl]
  apply Nat.eq_of_testBit_eq
  intro i
  cases i with
  | zero => simp
  | succ i =>
    rw [Nat.testBit_or, Nat.testBit_succ, Nat.testBit_succ, Nat.testBit_succ]
    rw [show 2 * z / 2 = z by omega, show (2 * 0 + 1) / 2 = 0 by omega, show (2 * z + (2 * 0 + 1)) / 2 = z by omega]
    simp
end Pg
end Go.Proofs.Ytblfagmoilhdnaa

/- The walks of the document's unit and Refuses. -/
set_option linter.unusedVariables false
set_option linter.unusedSimpArgs false
namespace Go.Proofs.Ytblfagmoilhdnaa
open Go.RowKit

set_option maxRecDepth 100000 in
theorem runit_any (r : Pg.Lf) (w : World) : Calls Try.prog 49 #[lfV r] w fun e w' => e = .returned (.int .u64 (r.u : Nat)) ∧ Below w.heap.size w w' := by
  unfold lfV
  have hu : r.u = if r.b then 2097152 else 4096 := rfl
  cases hb : r.b
  · rw [hb] at hu
    have HU := Lib.hid hu
    clear hu hb
    go_enter Try.func49, Try.ntmps49
    go_wp2
    go_ret
    exact ⟨by rw [HU.out]; rfl, (Below.refl _ _).alloc (Nat.le_refl _) _⟩
  · rw [hb] at hu
    have HU := Lib.hid hu
    clear hu hb
    go_enter Try.func49, Try.ntmps49
    go_wp2
    go_ret
    exact ⟨by rw [HU.out]; rfl, (Below.refl _ _).alloc (Nat.le_refl _) _⟩
/-- six cells, and that what is older stays -/
def Six (g v p : Nat) (m : Int) (bg wt ex : Bool) (w1 w' : World) : Prop := w'.cell? ⟨g, 0, none⟩ = some (.int .u64 (v : Nat)) ∧ w'.cell? ⟨g, 1, none⟩ = some (.int .u64 (p : Nat)) ∧ w'.cell? ⟨g, 2, none⟩ = some (.int .i64 m) ∧ w'.cell? ⟨g, 3, none⟩ = some (.bool bg) ∧ w'.cell? ⟨g, 4, none⟩ = some (.bool wt) ∧ w'.cell? ⟨g, 5, none⟩ = some (.bool ex) ∧ Hid (Below (g + 1) w1 w' ∧ g < w1.heap.size)
theorem Six.below {g v p : Nat} {m : Int} {bg wt ex : Bool} {w1 w' w2 : World} (h : Six g v p m bg wt ex w1 w') (hb : Below w'.heap.size w' w2) : Six g v p m bg wt ex w1 w2 := by
  obtain ⟨a0, a1, a2, a3, a4, a5, hh⟩ := h
  have hl := Nat.lt_of_lt_of_le hh.out.2 hh.out.1.size
  exact ⟨(hb.cell (p := ⟨g, 0, none⟩) hl).trans a0, (hb.cell (p := ⟨g, 1, none⟩) hl).trans a1, (hb.cell (p := ⟨g, 2, none⟩) hl).trans a2, (hb.cell (p := ⟨g, 3, none⟩) hl).trans a3, (hb.cell (p := ⟨g, 4, none⟩) hl).trans a4, (hb.cell (p := ⟨g, 5, none⟩) hl).trans a5, Lib.hid ⟨hh.out.1.trans (hb.mono hl), hh.out.2⟩⟩
theorem small_never (bg : Bool) (n : Nat) (v p : Nat) (wt ex : Bool) : (n * 4096 % Pg.Lf.u ⟨v, p, (n : Nat), bg, wt, ex⟩ ≠ 0) ↔ (bg = true ∧ n % 512 ≠ 0) := by
  unfold Pg.Lf.u
  cases bg
  · simp
  · simp only [if_true, true_and]
    omega
set_option maxRecDepth 100000 in
set_option maxHeartbeats 1000000 in
theorem refuses_any (A : Option Addr) (n c : Nat) (rows : List Pg.Lf) (w : World) (hr : IsL w w.heap.size A n rows) :
    Calls Try.prog 21 #[.slice A n c] w fun e w' => e = .returned (.int .i64 (Pg.right 0 rows : Nat)) ∧ Below w.heap.size w w' := by
  obtain ⟨b, off, HF⟩ := hr.form
  have HL := Lib.hid hr.2.2.1
  have HIN := Lib.hid hr.2.1
  have hn := hr.2.2.2
  clear hr
  go_enter Try.func21, Try.ntmps21
  go_wp2
  go_loopw [3, 4] (fun h i wr => ∃ k bh : Nat, k ≤ n ∧ i = .int .i64 k ∧ h = .int .u64 bh ∧ Hid (bh ≤ 549755813888) ∧ Hid (Pg.right bh (rows.drop k) = Pg.right 0 rows) ∧ Hid (Below w.heap.size w wr)) (fun _ i _ => n - (intOf i).toNat)
  case atStart => exact ⟨0, 0, by omega, rfl, rfl, Lib.hid (by omega), Lib.hid rfl, Lib.hid (Below.refl _ _)⟩
  case round =>
    obtain ⟨k, bh, hk, rfl, rfl, HBH, HR, HB⟩ := hrel
    by_cases hkn : k < n
    · obtain ⟨hA, hbB, hc⟩ := HF.out (by omega)
      subst hA
      obtain ⟨r, hrk⟩ : ∃ r, rows[k]? = some r := ⟨_, List.getElem?_eq_getElem (by have := HL.out; omega)⟩
      have hIn := HIN.out r (List.mem_of_getElem? hrk)
      have hd : rows.drop k = r :: rows.drop (k + 1) := by
        obtain ⟨hlt, he⟩ := List.getElem?_eq_some_iff.1 hrk
        rw [List.drop_eq_getElem_cons hlt, he]
      have c0 := (HB.out.cell (p := ⟨b, off + k * 6, none⟩) hbB).trans (hc k r hrk 0 _ rfl)
      have c1 := (HB.out.cell (p := ⟨b, off + k * 6 + 1, none⟩) hbB).trans (hc k r hrk 1 _ rfl)
      have c2 := (HB.out.cell (p := ⟨b, off + k * 6 + 2, none⟩) hbB).trans (hc k r hrk 2 _ rfl)
      have c3 := (HB.out.cell (p := ⟨b, off + k * 6 + 3, none⟩) hbB).trans (hc k r hrk 3 _ rfl)
      have c4 := (HB.out.cell (p := ⟨b, off + k * 6 + 4, none⟩) hbB).trans (hc k r hrk 4 _ rfl)
      have c5 := (HB.out.cell (p := ⟨b, off + k * 6 + 5, none⟩) hbB).trans (hc k r hrk 5 _ rfl)
      obtain ⟨v, p, m, bg, wt, ex⟩ := r
      have hrow := Row.new wr 47 (lcells ⟨v, p, m, bg, wt, ex⟩)
      have hba : Below w.heap.size w (wr.alloc (.cells (lcells ⟨v, p, m, bg, wt, ex⟩).toArray 47)) := HB.out.alloc HB.out.size _
      unfold lcells at hrow hba
      go_upto_region 6 with fail
      obtain ⟨w1, hw1⟩ : ∃ w1, w1 = wr.alloc (.cells #[.int .u64 (v : Nat), .int .u64 (p : Nat), .int .i64 m, .bool bg, .bool wt, .bool ex] 47) := ⟨_, rfl⟩
      simp only [] at hrow hba
      obtain ⟨g, hg⟩ : ∃ g, g = wr.heap.size := ⟨_, rfl⟩
      rw [← hw1] at hrow hba ⊢
      rw [← hg] at hrow ⊢
      have d0 := hrow.cell 0
      have d1 := hrow.cell 1
      have d2 := hrow.cell 2
      have d3 := hrow.cell 3
      have d4 := hrow.cell 4
      have d5 := hrow.cell 5
      simp at d0 d1 d2 d3 d4 d5
      have hgl := hrow.lt
      have h6 : Six g v p m bg wt ex w1 w1 := ⟨d0, d1, d2, d3, d4, d5, Lib.hid ⟨Below.refl _ _, hgl⟩⟩
      have HBS := HB.out.size
      have H6 := Lib.hid h6
      have HBA := Lib.hid hba
      have HGW : Hid (w.heap.size ≤ g) := Lib.hid (by rw [hg]; exact HB.out.size)
      have HRK := Lib.hid hrk
      have HD := Lib.hid hd
      have hIn1 := hIn.1; have hIn2 := hIn.2.1; have hIn3 := hIn.2.2.1; have hIn4 := hIn.2.2.2
      simp only at hIn1 hIn2 hIn3 hIn4
      clear hrow hba h6 hrk hd hIn hg hw1 c0 c1 c2 c3 c4 c5 hc HF HB
      obtain ⟨U, hU⟩ : ∃ U, U = Pg.Lf.u ⟨v, p, m, bg, wt, ex⟩ := ⟨_, rfl⟩
      have hU0 : 0 < U := by rw [hU]; rcases Pg.Lf.u_or ⟨v, p, m, bg, wt, ex⟩ with h | h <;> rw [h] <;> omega
      have HU := Lib.hid hU
      clear hU
      obtain ⟨B6, hB6⟩ : ∃ B6, B6 = (decide (m < 1) || (bg && decide (m.toNat % 512 ≠ 0))) := ⟨_, rfl⟩
      have HB6 := Lib.hid hB6
      clear hB6
      go_cut [16] (fun x wx => x = .bool B6 ∧ w1 = wx)
      case first =>
        by_cases q1 : m < 1
        · go_wp2_with fail
          go_meet
          case rel => exact ⟨by rw [HB6.out]; simp [q1], rfl⟩
        · obtain ⟨nm, rfl⟩ : ∃ nm : Nat, m = nm := ⟨m.toNat, by omega⟩
          have q1' : decide ((nm : Int) < 1) = false := decide_eq_false q1
          have e1 : (nm : Int).tmod 512 = ((nm % 512 : Nat) : Int) := by rw [Int.tmod_eq_emod_of_nonneg (by omega)]; omega
          obtain ⟨M, hM⟩ : ∃ M, M = nm % 512 := ⟨_, rfl⟩
          rw [← hM] at e1
          have HM := Lib.hid hM
          clear hM q1
          cases bg
          · go_wp2_with fail
            go_meet
            case rel => exact ⟨by rw [HB6.out, q1']; rfl, rfl⟩
          · have f1 : ((M : Int) != 0) = decide (M ≠ 0) := by by_cases h : M = 0 <;> simp [h]
            go_wp2_with fail
            go_meet
            case rel => exact ⟨by rw [HB6.out, q1', Int.toNat_natCast, ← HM.out]; simp, rfl⟩
      case rest =>
        obtain ⟨rfl, rfl⟩ := hcut
        rcases Bool.eq_false_or_eq_true B6 with hb6 | hb6
        · subst hb6
          go_wp2_with fail
          go_ret
          refine ⟨?_, HBA.out⟩
          rw [← HR.out, HD.out]
          have h6 := HB6.out
          rw [eq_comm, Bool.or_eq_true, Bool.and_eq_true, decide_eq_true_iff, decide_eq_true_iff] at h6
          unfold Pg.right
          rw [if_pos]
          · rfl
          · rcases h6 with h | ⟨h, h'⟩
            · exact .inl h
            · by_cases q : m < 1
              · exact .inl q
              · obtain ⟨nm, rfl⟩ : ∃ nm : Nat, m = nm := ⟨m.toNat, by omega⟩
                exact .inr ((small_never bg nm v p wt ex).2 ⟨h, h'⟩)
        · subst hb6
          have h6 := HB6.out
          rw [eq_comm, Bool.or_eq_false_iff, decide_eq_false_iff_not] at h6
          obtain ⟨nm, rfl⟩ : ∃ nm : Nat, m = nm := ⟨m.toNat, by omega⟩
          have g1 : Hid (¬ (((nm : Nat) : Int) < 1 ∨ nm * 4096 % Pg.Lf.u ⟨v, p, nm, bg, wt, ex⟩ ≠ 0)) := Lib.hid (by
            rintro (h | h)
            · exact h6.1 h
            · obtain ⟨h1, h2⟩ := (small_never bg nm v p wt ex).1 h
              have := h6.2
              rw [h1, Int.toNat_natCast] at this
              simp at this
              exact h2 this)
          have hn1 : 1 ≤ nm := by omega
          clear h6 HB6
          have hvm : (v : Int).tmod (U : Int) = ((v % U : Nat) : Int) := by rw [Int.tmod_eq_emod_of_nonneg (by omega)]; simp
          have hpm : (p : Int).tmod (U : Int) = ((p % U : Nat) : Int) := by rw [Int.tmod_eq_emod_of_nonneg (by omega)]; simp
          have hUn : ¬ (U = 0) := by omega
          obtain ⟨z2, hz2⟩ : ∃ z, z = v % U := ⟨_, rfl⟩
          obtain ⟨z3, hz3⟩ : ∃ z, z = p % U := ⟨_, rfl⟩
          rw [← hz2] at hvm
          rw [← hz3] at hpm
          have HZ2 := Lib.hid hz2
          have HZ3 := Lib.hid hz3
          clear hz2 hz3
          obtain ⟨B8, hB8⟩ : ∃ B8, B8 = (decide (0 < z2) || decide (0 < z3)) := ⟨_, rfl⟩
          have HB8 := Lib.hid hB8
          clear hB8
          go_upto_region 8 with fail
          go_cut [30] (fun x wx => x = .bool B8 ∧ Hid (Six g v p nm bg wt ex w1 wx))
          case first =>
            by_cases q2 : 0 < z2
            · have f2 : decide ((0 : Int) < (z2 : Int)) = true := decide_eq_true (by omega)
              have HK := Lib.hid (Six.below H6.out (Below.refl _ _).drew)
              obtain ⟨x0, x1, x2, x3, x4, x5, x6⟩ := HK.out
              first | go_region_with (first | (go_at_call 49; refine (runit_any ⟨v, p, nm, bg, wt, ex⟩ _).mono ?_; rintro e w' ⟨rfl, hb'⟩; rw [← HU.out]; have hk2 := Six.below HK.out hb'; have HK2 := Lib.hid hk2; obtain ⟨y0, y1, y2, y3, y4, y5, y6⟩ := hk2; clear hb')) | fail
              all_goals
                go_wp2_with fail
                go_meet
                case rel => exact ⟨by rw [HB8.out]; simp [q2], HK2⟩
            · have f2 : decide ((0 : Int) < (z2 : Int)) = false := decide_eq_false (by omega)
              have f3 : decide ((0 : Int) < (z3 : Int)) = decide (0 < z3) := by simp
              first | go_region_held3 (fun w' => w'.cell? ⟨g, 0, none⟩ = some (.int .u64 (v : Nat)) ∧ w'.cell? ⟨g, 1, none⟩ = some (.int .u64 (p : Nat)) ∧ w'.cell? ⟨g, 2, none⟩ = some (.int .i64 nm) ∧ w'.cell? ⟨g, 3, none⟩ = some (.bool bg) ∧ w'.cell? ⟨g, 4, none⟩ = some (.bool wt) ∧ w'.cell? ⟨g, 5, none⟩ = some (.bool ex) ∧ Hid (Below (g + 1) w1 w' ∧ g < w1.heap.size))
                (first | assumption | exact Six.below H6.out (Below.refl _ _).drew | (refine Six.below (g := g) (v := v) (p := p) (m := nm) (bg := bg) (wt := wt) (ex := ex) (w1 := w1) ?_ hb'; assumption))
                (first | (go_at_call 49; refine (runit_any ⟨v, p, nm, bg, wt, ex⟩ _).mono ?_; rintro e w' ⟨rfl, hb'⟩; rw [← HU.out])) | fail
              all_goals
                go_wp2_with fail
                go_meet
                case rel => exact ⟨by rw [HB8.out]; simp [q2], Lib.hid (by assumption)⟩
          case rest =>
            obtain ⟨rfl, h6⟩ := hcut
            obtain ⟨d0, d1, d2, d3, d4, d5, hh⟩ := h6.out
            have HBC : Hid (Below w.heap.size w wc) := Lib.hid (HBA.out.trans (hh.out.1.mono (Nat.le_succ_of_le HGW.out)))
            have hgl := Nat.lt_of_lt_of_le hh.out.2 hh.out.1.size
            rcases Bool.eq_false_or_eq_true B8 with hb8 | hb8
            · subst hb8
              have h8 := HB8.out
              rw [eq_comm, Bool.or_eq_true, decide_eq_true_iff, decide_eq_true_iff] at h8
              have H8 : Hid (v % Pg.Lf.u ⟨v, p, nm, bg, wt, ex⟩ ≠ 0 ∨ p % Pg.Lf.u ⟨v, p, nm, bg, wt, ex⟩ ≠ 0) := Lib.hid (by
                rw [← HU.out, ← HZ2.out, ← HZ3.out]; omega)
              clear h8 HB8 h6 hh
              go_wp2_with fail
              go_ret
              refine ⟨?_, HBC.out⟩
              rw [← HR.out, HD.out, right_eq, if_neg g1.out, if_pos H8.out]
              rfl
            · subst hb8
              have h8 := HB8.out
              rw [eq_comm, Bool.or_eq_false_iff, decide_eq_false_iff_not, decide_eq_false_iff_not] at h8
              have H8 : Hid (¬ (v % Pg.Lf.u ⟨v, p, nm, bg, wt, ex⟩ ≠ 0 ∨ p % Pg.Lf.u ⟨v, p, nm, bg, wt, ex⟩ ≠ 0)) := Lib.hid (by
                rw [← HU.out, ← HZ2.out, ← HZ3.out]; omega)
              clear h8 HB8 h6 hh hvm hpm HZ2 HZ3
              have e1 : IntKind.u64.wrap (nm : Int) = (nm : Int) := by rw [IntKind.wrap_u64]; omega
              by_cases q3 : 549755813888 ≤ v ∨ (549755813888 - v) / 4096 < nm
              · have Q3 := Lib.hid q3
                by_cases q4 : 549755813888 ≤ v
                · have f4 : decide ((549755813888 : Int) ≤ (v : Int)) = true := decide_eq_true (by omega)
                  clear q3 q4
                  go_wp2_with fail
                  go_ret
                  refine ⟨?_, HBC.out⟩
                  rw [← HR.out, HD.out, right_eq, if_neg g1.out, if_neg H8.out, if_pos Q3.out]
                  rfl
                · have q5 : (549755813888 - v) / 4096 < nm := by omega
                  obtain ⟨Dv, hDv⟩ : ∃ D, D = 549755813888 - v := ⟨_, rfl⟩
                  have e2v : IntKind.u64.wrap ((549755813888 : Int) - (v : Int)) = (Dv : Int) := by rw [IntKind.wrap_u64]; omega
                  obtain ⟨Zv, hZv⟩ : ∃ Z, Z = Dv / 4096 := ⟨_, rfl⟩
                  have e3v : (Dv : Int) / 4096 = (Zv : Int) := by omega
                  have e6v : IntKind.u64.wrap (Zv : Int) = (Zv : Int) := by rw [IntKind.wrap_u64]; omega
                  have e4v : decide (Zv < nm) = true := decide_eq_true (by omega)
                  have e5v : decide ((549755813888 : Int) ≤ (v : Int)) = false := decide_eq_false (by omega)
                  clear q3 q4 q5 hDv hZv
                  go_wp2_with fail
                  all_goals
                    go_ret
                    refine ⟨?_, HBC.out⟩
                    rw [← HR.out, HD.out, right_eq, if_neg g1.out, if_neg H8.out, if_pos Q3.out]
                    rfl
              · have Q3 := Lib.hid q3
                have HV : Hid (v + nm * 4096 ≤ 549755813888) := Lib.hid (by omega)
                obtain ⟨Dv, hDv⟩ : ∃ D, D = 549755813888 - v := ⟨_, rfl⟩
                have e2v : IntKind.u64.wrap ((549755813888 : Int) - (v : Int)) = (Dv : Int) := by rw [IntKind.wrap_u64]; omega
                obtain ⟨Zv, hZv⟩ : ∃ Z, Z = Dv / 4096 := ⟨_, rfl⟩
                have e3v : (Dv : Int) / 4096 = (Zv : Int) := by omega
                have e6v : IntKind.u64.wrap (Zv : Int) = (Zv : Int) := by rw [IntKind.wrap_u64]; omega
                have e4v : decide (Zv < nm) = false := decide_eq_false (by omega)
                have e5v : decide ((549755813888 : Int) ≤ (v : Int)) = false := decide_eq_false (by omega)
                clear q3 hDv hZv
                by_cases q5 : 4294967296 ≤ p ∨ (4294967296 - p) / 4096 < nm
                · have Q5 := Lib.hid q5
                  by_cases q6 : 4294967296 ≤ p
                  · have f6 : decide ((4294967296 : Int) ≤ (p : Int)) = true := decide_eq_true (by omega)
                    clear q5 q6
                    go_wp2_with fail
                    go_ret
                    refine ⟨?_, HBC.out⟩
                    rw [← HR.out, HD.out, right_eq, if_neg g1.out, if_neg H8.out, if_neg Q3.out, if_pos Q5.out]
                    rfl
                  · have q7 : (4294967296 - p) / 4096 < nm := by omega
                    obtain ⟨Dp, hDp⟩ : ∃ D, D = 4294967296 - p := ⟨_, rfl⟩
                    have e2p : IntKind.u64.wrap ((4294967296 : Int) - (p : Int)) = (Dp : Int) := by rw [IntKind.wrap_u64]; omega
                    obtain ⟨Zp, hZp⟩ : ∃ Z, Z = Dp / 4096 := ⟨_, rfl⟩
                    have e3p : (Dp : Int) / 4096 = (Zp : Int) := by omega
                    have e6p : IntKind.u64.wrap (Zp : Int) = (Zp : Int) := by rw [IntKind.wrap_u64]; omega
                    have e4p : decide (Zp < nm) = true := decide_eq_true (by omega)
                    have e5p : decide ((4294967296 : Int) ≤ (p : Int)) = false := decide_eq_false (by omega)
                    clear q5 q6 q7 hDp hZp
                    go_wp2_with fail
                    all_goals
                      go_ret
                      refine ⟨?_, HBC.out⟩
                      rw [← HR.out, HD.out, right_eq, if_neg g1.out, if_neg H8.out, if_neg Q3.out, if_pos Q5.out]
                      rfl
                · have Q5 := Lib.hid q5
                  obtain ⟨Dp, hDp⟩ : ∃ D, D = 4294967296 - p := ⟨_, rfl⟩
                  have e2p : IntKind.u64.wrap ((4294967296 : Int) - (p : Int)) = (Dp : Int) := by rw [IntKind.wrap_u64]; omega
                  obtain ⟨Zp, hZp⟩ : ∃ Z, Z = Dp / 4096 := ⟨_, rfl⟩
                  have e3p : (Dp : Int) / 4096 = (Zp : Int) := by omega
                  have e6p : IntKind.u64.wrap (Zp : Int) = (Zp : Int) := by rw [IntKind.wrap_u64]; omega
                  have e4p : decide (Zp < nm) = false := decide_eq_false (by omega)
                  have e5p : decide ((4294967296 : Int) ≤ (p : Int)) = false := decide_eq_false (by omega)
                  clear q5 hDp hZp
                  by_cases q7 : v < bh
                  · have f7 : decide ((v : Nat) < bh) = true := decide_eq_true q7
                    have Q7 := Lib.hid q7
                    clear q7
                    go_wp2_with fail
                    go_ret
                    refine ⟨?_, HBC.out⟩
                    rw [← HR.out, HD.out, right_eq, if_neg g1.out, if_neg H8.out, if_neg Q3.out, if_neg Q5.out, if_pos Q7.out]
                    rfl
                  · have f7 : decide ((v : Nat) < bh) = false := decide_eq_false q7
                    have Q7 := Lib.hid q7
                    have HV2 := HV.out
                    have e8 : IntKind.u64.wrap ((nm : Int) * 4096) = ((nm * 4096 : Nat) : Int) := by rw [IntKind.wrap_u64]; omega
                    obtain ⟨X2, hX2⟩ : ∃ X, X = v + nm * 4096 := ⟨_, rfl⟩
                    have e9 : (v : Int) + (nm : Int) * 4096 = (X2 : Int) := by omega
                    have e10 : (nm : Int) * 4096 % 18446744073709551616 = (nm : Int) * 4096 := by omega
                    have e11 : (X2 : Int) % 18446744073709551616 = (X2 : Int) := by omega
                    have HX2 := Lib.hid hX2
                    clear HV2 hX2
                    clear q7
                    go_wp2_with fail
                    go_roundw
                    case rel =>
                      refine ⟨k + 1, v + nm * 4096, by omega, by go_num, by first | (rw [← HX2.out]; go_num) | go_num, HV, Lib.hid ?_, HBC⟩
                      have := HR.out
                      rw [HD.out, right_eq, if_neg g1.out, if_neg H8.out, if_neg Q3.out, if_neg Q5.out, if_neg Q7.out] at this
                      exact this
                    case measure => simp [intOf]; omega
    · have HK : Hid (k = n) := Lib.hid (by omega)
      go_wp2
      go_ret
      refine ⟨?_, HB.out⟩
      rw [← HR.out, HK.out, List.drop_of_length_le (Nat.le_of_eq HL.out)]
      rfl
end Go.Proofs.Ytblfagmoilhdnaa
