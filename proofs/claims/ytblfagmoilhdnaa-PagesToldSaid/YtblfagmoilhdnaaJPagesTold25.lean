/- Texts of this claim, one behind the other: PgS. -/
import Derived.Test.YtblfagmoilhdnaaJPagesTold20
/- Plain law: rows joined, and each page a row of its own. -/
set_option linter.unusedVariables false
set_option linter.unusedSimpArgs false
namespace Go.Proofs.Ytblfagmoilhdnaa
namespace Pg
theorem Lf.ext_ {a b : Lf} (h1 : a.v = b.v) (h2 : a.p = b.p) (h3 : a.n = b.n) (h4 : a.b = b.b) (h5 : a.w = b.w) (h6 : a.x = b.x) : a = b := by
  cases a; cases b; simp only at h1 h2 h3 h4 h5 h6; subst h1 h2 h3 h4 h5 h6; rfl
def meets (y x : Lf) : Bool := decide (y.v + y.n.toNat * 4096 = x.v) && decide (y.p + y.n.toNat * 4096 = x.p) && y.b == x.b && y.w == x.w && y.x == x.x
def Lf.with (y : Lf) (n : Int) : Lf := ⟨y.v, y.p, n, y.b, y.w, y.x⟩
def runs1 (out : List Lf) (x : Lf) : List Lf := match out.getLast? with
  | none => [x]
  | some y => if meets y x then out.dropLast ++ [y.with (y.n + x.n)] else out ++ [x]
def joins (rows : List Lf) : List Lf := rows.foldl runs1 []
def runs (rows : List Lf) : List Lf := if right 0 rows ≠ 0 then [] else joins rows
theorem meets_iff {y x : Lf} : meets y x = true ↔ y.v + y.n.toNat * 4096 = x.v ∧ y.p + y.n.toNat * 4096 = x.p ∧ y.b = x.b ∧ y.w = x.w ∧ y.x = x.x := by
  unfold meets
  simp [and_assoc]
theorem runs1_nil (x : Lf) : runs1 [] x = [x] := rfl
theorem runs1_snoc (a : List Lf) (y x : Lf) : runs1 (a ++ [y]) x = if meets y x then a ++ [y.with (y.n + x.n)] else a ++ [y] ++ [x] := by
  unfold runs1
  rw [List.getLast?_concat, List.dropLast_concat]
def endOf : Nat → List Lf → Nat
  | bh, [] => bh
  | _, r :: rs => endOf (r.v + r.n.toNat * 4096) rs
theorem right_append : ∀ {a b : List Lf} {bh : Nat}, right bh (a ++ b) = 0 ↔ right bh a = 0 ∧ right (endOf bh a) b = 0
  | [], b, bh => by simp [right, endOf]
  | r :: a, b, bh => by
    constructor
    · intro h
      obtain ⟨h1, h2, h3⟩ := right_cons h
      obtain ⟨h4, h5⟩ := right_append.1 h3
      exact ⟨right_mk h1 h2 h4, h5⟩
    · rintro ⟨h, h5⟩
      obtain ⟨h1, h2, h3⟩ := right_cons h
      exact right_mk h1 h2 (right_append.2 ⟨h3, h5⟩)
theorem endOf_append : ∀ (a b : List Lf) (bh : Nat), endOf bh (a ++ b) = endOf (endOf bh a) b
  | [], b, bh => rfl
  | r :: a, b, bh => endOf_append a b _
theorem right_one {bh : Nat} {x : Lf} : right bh [x] = 0 ↔ x.Ok ∧ bh ≤ x.v := by
  constructor
  · intro h; obtain ⟨h1, h2, _⟩ := right_cons h; exact ⟨h1, h2⟩
  · rintro ⟨h1, h2⟩; exact right_mk h1 h2 rfl
theorem pagesOf_append (a b : List Lf) : pagesOf (a ++ b) = pagesOf a ++ pagesOf b := List.flatMap_append
theorem pagesOf_one (x : Lf) : pagesOf [x] = x.pages := by simp [pagesOf]
theorem with_u (y : Lf) (n : Int) : (y.with n).u = y.u := rfl
theorem join_ok {y x : Lf} (hy : y.Ok) (hx : x.Ok) (hm : meets y x = true) : (y.with (y.n + x.n)).Ok ∧ (y.n + x.n).toNat = y.n.toNat + x.n.toNat ∧ (y.with (y.n + x.n)).pages = y.pages ++ x.pages := by
  obtain ⟨m1, m2, m3, m4, m5⟩ := meets_iff.1 hm
  have hy1 := hy.n1; have hx1 := hx.n1
  have hn : (y.n + x.n).toNat = y.n.toNat + x.n.toNat := by omega
  have hu : x.u = y.u := by unfold Lf.u; rw [m3]
  have h3 := hy.nu; have h4 := hx.nu
  have h5 := hx.vl; have h6 := hx.pl
  have hcy := hy.cnt_u; have hcx := hx.cnt_u
  rw [hu] at h4 hcx
  have hup : 0 < y.u := by rcases y.u_or with h | h <;> omega
  have hok : (y.with (y.n + x.n)).Ok := by
    refine ⟨by show 1 ≤ y.n + x.n; omega, ?_, hy.va, hy.pa, ?_, ?_⟩
    · show (y.n + x.n).toNat * 4096 % y.u = 0
      rw [hn, Nat.add_mul, Nat.add_mod, h3, h4]; simp
    · show y.v + (y.n + x.n).toNat * 4096 ≤ _
      rw [hn]; omega
    · show y.p + (y.n + x.n).toNat * 4096 ≤ _
      rw [hn]; omega
  refine ⟨hok, hn, ?_⟩
  have hc : (y.with (y.n + x.n)).cnt = y.cnt + x.cnt := by
    have h7 := hok.cnt_u
    rw [with_u] at h7
    have : (y.with (y.n + x.n)).cnt * y.u = (y.cnt + x.cnt) * y.u := by
      rw [h7, Nat.add_mul, hcy, hcx]
      show (y.n + x.n).toNat * 4096 = _
      rw [hn]; omega
    exact Nat.eq_of_mul_eq_mul_right hup this
  unfold Lf.pages
  rw [hc, List.range_add, List.map_append, List.map_map]
  congr 1
  refine List.map_congr_left fun i _ => ?_
  show Pge.mk _ _ _ _ _ = Pge.mk _ _ _ _ _
  have e1 : y.v + (y.cnt + i) * y.u = x.v + i * x.u := by rw [Nat.add_mul, hcy, hu, ← Nat.add_assoc, m1]
  have e2 : y.p + (y.cnt + i) * y.u = x.p + i * x.u := by rw [Nat.add_mul, hcy, hu, ← Nat.add_assoc, m2]
  show Pge.mk (y.v + (y.cnt + i) * y.u) (y.p + (y.cnt + i) * y.u) y.b y.w y.x = Pge.mk (x.v + i * x.u) (x.p + i * x.u) x.b x.w x.x
  rw [e1, e2, m3, m4, m5]
theorem snoc_cases (out : List Lf) : out = [] ∨ ∃ a y, out = a ++ [y] := by
  rcases List.eq_nil_or_concat out with h | ⟨a, y, h⟩
  · exact .inl h
  · exact .inr ⟨a, y, by simpa using h⟩
theorem runs1_right {out : List Lf} {x : Lf} (ho : right 0 out = 0) (hx : x.Ok) (he : endOf 0 out ≤ x.v) : right 0 (runs1 out x) = 0 ∧ endOf 0 (runs1 out x) = x.v + x.n.toNat * 4096 ∧ pagesOf (runs1 out x) = pagesOf out ++ x.pages := by
  rcases snoc_cases out with rfl | ⟨a, y, rfl⟩
  · rw [runs1_nil]
    exact ⟨right_one.2 ⟨hx, by omega⟩, rfl, by rw [pagesOf_one]; rfl⟩
  · rw [runs1_snoc]
    obtain ⟨ha, hy⟩ := right_append.1 ho
    obtain ⟨hyo, hya⟩ := right_one.1 hy
    rw [endOf_append] at he
    split
    · rename_i hm
      obtain ⟨h1, h2, h3⟩ := join_ok hyo hx hm
      obtain ⟨m1, m2, m3, m4, m5⟩ := meets_iff.1 hm
      refine ⟨right_append.2 ⟨ha, right_one.2 ⟨h1, hya⟩⟩, ?_, ?_⟩
      · rw [endOf_append]
        show y.v + (y.n + x.n).toNat * 4096 = _
        rw [h2, Nat.add_mul, ← Nat.add_assoc, m1]
      · rw [pagesOf_append, pagesOf_one, h3, pagesOf_append, pagesOf_one, List.append_assoc]
    · refine ⟨right_append.2 ⟨ho, right_one.2 ⟨hx, by rw [endOf_append]; exact he⟩⟩, ?_, ?_⟩
      · rw [endOf_append]; rfl
      · rw [pagesOf_append, pagesOf_one]
theorem joins_right : ∀ (rows out : List Lf), right 0 out = 0 → right (endOf 0 out) rows = 0 → right 0 (rows.foldl runs1 out) = 0 ∧ endOf 0 (rows.foldl runs1 out) = endOf (endOf 0 out) rows ∧ pagesOf (rows.foldl runs1 out) = pagesOf out ++ pagesOf rows
  | [], out, h, _ => ⟨h, rfl, by simp [pagesOf]⟩
  | r :: rs, out, h, hr => by
    obtain ⟨h1, h2, h3⟩ := right_cons hr
    obtain ⟨k1, k2, k3⟩ := runs1_right h h1 h2
    obtain ⟨j1, j2, j3⟩ := joins_right rs (runs1 out r) k1 (by rw [k2]; exact h3)
    refine ⟨j1, ?_, ?_⟩
    · rw [List.foldl_cons, j2, k2]; rfl
    · rw [List.foldl_cons, j3, k3, List.append_assoc]
      rfl
theorem runs_right {rows : List Lf} (h : right 0 rows = 0) : right 0 (runs rows) = 0 ∧ pagesOf (runs rows) = pagesOf rows := by
  unfold runs
  rw [if_neg (by simp [h])]
  obtain ⟨h1, _, h3⟩ := joins_right rows [] rfl h
  exact ⟨h1, by simpa [pagesOf, joins] using h3⟩
theorem runs_ok {l : List Lf} (h : right 0 l = 0) : runs l = joins l := by unfold runs; rw [if_neg (by simp [h])]
/-- no two neighbours meet -/
def NF (l : List Lf) : Prop := ∀ (i : Nat) (y x : Lf), l[i]? = some y → l[i + 1]? = some x → meets y x = false
theorem nf_runs1 {out : List Lf} {x : Lf} (h : NF out) : NF (runs1 out x) := by
  rcases snoc_cases out with rfl | ⟨a, y, rfl⟩
  · rw [runs1_nil]
    intro i y z _ h2
    simp at h2
  · rw [runs1_snoc]
    split
    · rename_i hm
      intro i c d h1 h2
      have hi : i + 1 < (a ++ [y.with (y.n + x.n)]).length := (List.getElem?_eq_some_iff.1 h2).1
      rw [List.length_append] at hi
      simp at hi
      rw [List.getElem?_append_left (by omega)] at h1
      by_cases hl : i + 1 < a.length
      · rw [List.getElem?_append_left hl] at h2
        exact h i c d (by rw [List.getElem?_append_left (by omega)]; exact h1) (by rw [List.getElem?_append_left hl]; exact h2)
      · have he : i + 1 = a.length := by omega
        rw [he, List.getElem?_append_right (Nat.le_refl _)] at h2
        simp at h2
        subst h2
        have := h i c y (by rw [List.getElem?_append_left (by omega)]; exact h1) (by rw [he, List.getElem?_append_right (Nat.le_refl _)]; simp)
        exact this
    · rename_i hm
      intro i c d h1 h2
      have hi : i + 1 < (a ++ [y] ++ [x]).length := (List.getElem?_eq_some_iff.1 h2).1
      rw [List.length_append] at hi
      simp only [List.length_singleton] at hi
      rw [List.getElem?_append_left (by omega)] at h1
      by_cases hl : i + 1 < (a ++ [y]).length
      · rw [List.getElem?_append_left hl] at h2
        exact h i c d h1 h2
      · have he : i + 1 = (a ++ [y]).length := by omega
        rw [he, List.getElem?_append_right (Nat.le_refl _)] at h2
        simp at h2
        subst h2
        have he2 : i = a.length := by simp at he; omega
        rw [he2, List.getElem?_append_right (Nat.le_refl _)] at h1
        simp at h1
        subst h1
        simpa using hm
theorem nf_joins : ∀ (rows out : List Lf), NF out → NF (rows.foldl runs1 out)
  | [], out, h => h
  | r :: rs, out, h => nf_joins rs _ (nf_runs1 h)
theorem joins_nf : ∀ (rows out : List Lf), NF (out ++ rows) → rows.foldl runs1 out = out ++ rows
  | [], out, h => by simp
  | r :: rs, out, h => by
    have h1 : runs1 out r = out ++ [r] := by
      rcases snoc_cases out with rfl | ⟨a, y, rfl⟩
      · rfl
      · rw [runs1_snoc, if_neg]
        have := h a.length y r (by simp) (by simp)
        simp [this]
    rw [List.foldl_cons, h1, joins_nf rs (out ++ [r]) (by simpa using h)]
    simp
theorem runs_runs {rows : List Lf} (h : right 0 rows = 0) : runs (runs rows) = runs rows := by
  have h1 := (runs_right h).1
  rw [runs_ok h1]
  have hn : NF (runs rows) := by
    rw [runs_ok h]
    exact nf_joins rows [] (by intro i y x h; simp at h)
  exact joins_nf (runs rows) [] (by simpa using hn)
/-- one page as a row -/
def Lf.single (r : Lf) (i : Nat) : Lf := ⟨r.v + i * r.u, r.p + i * r.u, ((r.u / 4096 : Nat) : Int), r.b, r.w, r.x⟩
def Lf.singles (r : Lf) : List Lf := (List.range r.cnt).map r.single
def each (rows : List Lf) : List Lf := rows.flatMap Lf.singles
theorem single_ok {r : Lf} (h : r.Ok) {i : Nat} (hi : i < r.cnt) : (r.single i).Ok := by
  have hq := h.page_ok hi
  have hu := r.u_or
  have hn : (r.single i).n.toNat * 4096 = r.u := by
    show (((r.u / 4096 : Nat) : Int)).toNat * 4096 = r.u
    rcases hu with h | h <;> rw [h] <;> rfl
  refine ⟨?_, ?_, hq.va, hq.pa, ?_, ?_⟩
  · show (1 : Int) ≤ ((r.u / 4096 : Nat) : Int)
    rcases hu with h | h <;> rw [h] <;> decide
  · rw [hn]; exact Nat.mod_self _
  · rw [hn]; exact hq.vl
  · rw [hn]; exact hq.pl
theorem single_n (r : Lf) (i : Nat) : (r.single i).n.toNat * 4096 = r.u := by
  show (((r.u / 4096 : Nat) : Int)).toNat * 4096 = r.u
  rcases r.u_or with h | h <;> rw [h] <;> rfl
theorem single_pages {r : Lf} (i : Nat) : (r.single i).pages = [r.page i] := by
  have hc : (r.single i).cnt = 1 := by
    unfold Lf.cnt
    rw [single_n]
    show r.u / r.u = 1
    exact Nat.div_self (by rcases r.u_or with h | h <;> omega)
  unfold Lf.pages
  rw [hc]
  show [Pge.mk _ _ _ _ _] = [Pge.mk _ _ _ _ _]
  show [Pge.mk (r.v + i * r.u + 0 * r.u) (r.p + i * r.u + 0 * r.u) r.b r.w r.x] = [Pge.mk (r.v + i * r.u) (r.p + i * r.u) r.b r.w r.x]
  rw [Nat.zero_mul, Nat.add_zero, Nat.add_zero]
theorem singles_pages (r : Lf) : pagesOf r.singles = r.pages := by
  have aux : ∀ l : List Nat, pagesOf (l.map r.single) = l.map r.page := by
    intro l
    induction l with
    | nil => rfl
    | cons i l ih =>
      show (r.single i).pages ++ pagesOf (l.map r.single) = r.page i :: l.map r.page
      rw [ih, single_pages]; rfl
  exact aux _
theorem each_pages : ∀ rows : List Lf, pagesOf (each rows) = pagesOf rows
  | [] => rfl
  | r :: rs => by
    show pagesOf (r.singles ++ each rs) = r.pages ++ pagesOf rs
    rw [pagesOf_append, singles_pages, each_pages rs]
theorem singles_right {r : Lf} (h : r.Ok) {bh : Nat} (hb : bh ≤ r.v) : right bh r.singles = 0 ∧ endOf bh r.singles = r.v + r.n.toNat * 4096 := by
  have aux : ∀ k, k ≤ r.cnt → right bh ((List.range k).map r.single) = 0 ∧ endOf bh ((List.range k).map r.single) ≤ r.v + k * r.u ∧ (0 < k → endOf bh ((List.range k).map r.single) = r.v + k * r.u) := by
    intro k
    induction k with
    | zero => intro _; exact ⟨rfl, by simpa [endOf] using hb, fun h => absurd h (by omega)⟩
    | succ k ih =>
      intro hk
      obtain ⟨h1, h2, _⟩ := ih (by omega)
      rw [List.range_succ, List.map_append, endOf_append]
      have he : endOf (endOf bh ((List.range k).map r.single)) ([k].map r.single) = r.v + (k + 1) * r.u := by
        show r.v + k * r.u + (r.single k).n.toNat * 4096 = _
        rw [single_n, Nat.succ_mul]; omega
      refine ⟨right_append.2 ⟨h1, right_one.2 ⟨single_ok h (by omega), h2⟩⟩, by rw [he]; exact Nat.le_refl _, fun _ => he⟩
  obtain ⟨h1, _, h3⟩ := aux r.cnt (Nat.le_refl _)
  refine ⟨h1, ?_⟩
  unfold Lf.singles
  rw [h3 h.cnt_pos, h.cnt_u]
theorem each_right : ∀ (rows : List Lf) (bh : Nat), right bh rows = 0 → right bh (each rows) = 0
  | [], bh, _ => rfl
  | r :: rs, bh, h => by
    obtain ⟨h1, h2, h3⟩ := right_cons h
    obtain ⟨k1, k2⟩ := singles_right h1 h2
    show right bh (r.singles ++ each rs) = 0
    refine right_append.2 ⟨k1, ?_⟩
    rw [k2]
    exact each_right rs _ h3
theorem joins_singles {r : Lf} (h : r.Ok) (out : List Lf) (hout : ∀ y ∈ out, 0 ≤ y.n) : r.singles.foldl runs1 out = runs1 out r := by
  have hu0 : r.u / 4096 * 4096 = r.u := by rcases r.u_or with h | h <;> rw [h]
  have aux : ∀ k, k < r.cnt → ((List.range (k + 1)).map r.single).foldl runs1 out = runs1 out (r.with (((k + 1) * (r.u / 4096) : Nat) : Int)) := by
    intro k
    induction k with
    | zero =>
      intro _
      show runs1 out (r.single 0) = _
      congr 1
      exact Lf.ext_ (by show r.v + 0 * r.u = r.v; simp) (by show r.p + 0 * r.u = r.p; simp) (by show ((r.u / 4096 : Nat) : Int) = (((0 + 1) * (r.u / 4096) : Nat) : Int); rw [Nat.zero_add, Nat.one_mul]) rfl rfl rfl
    | succ k ih =>
      intro hk
      rw [List.range_succ, List.map_append, List.foldl_append, ih (by omega)]
      show runs1 (runs1 out _) (r.single (k + 1)) = _
      obtain ⟨m, hm⟩ : ∃ m, m = r.u / 4096 := ⟨_, rfl⟩
      rw [← hm] at hu0 ⊢
      have hsn : (r.single (k + 1)).n = (m : Int) := by rw [hm]; rfl
      have hlen : (k + 1) * m * 4096 = (k + 1) * r.u := by rw [Nat.mul_assoc, hu0]
      have hsum : (((k + 1) * m : Nat) : Int) + (m : Int) = (((k + 1 + 1) * m : Nat) : Int) := by rw [Nat.succ_mul (k + 1)]; simp
      rcases snoc_cases out with rfl | ⟨a, y, rfl⟩
      · rw [runs1_nil, runs1_nil]
        rw [show [r.with (((k + 1) * m : Nat) : Int)] = [] ++ [r.with (((k + 1) * m : Nat) : Int)] from rfl, runs1_snoc, if_pos, List.nil_append]
        · congr 1
          exact Lf.ext_ rfl rfl (by show (((k + 1) * m : Nat) : Int) + (r.single (k + 1)).n = _; rw [hsn, hsum]; rfl) rfl rfl rfl
        · refine meets_iff.2 ⟨?_, ?_, rfl, rfl, rfl⟩
          · show r.v + (((k + 1) * m : Nat) : Int).toNat * 4096 = r.v + (k + 1) * r.u
            rw [Int.toNat_natCast, hlen]
          · show r.p + (((k + 1) * m : Nat) : Int).toNat * 4096 = r.p + (k + 1) * r.u
            rw [Int.toNat_natCast, hlen]
      · rw [runs1_snoc, runs1_snoc]
        have hms : meets y (r.with (((k + 1) * m : Nat) : Int)) = meets y (r.with (((k + 1 + 1) * m : Nat) : Int)) := rfl
        rw [hms]
        split
        · rename_i hmt
          obtain ⟨m1, m2, m3, m4, m5⟩ := meets_iff.1 hmt
          rw [runs1_snoc, if_pos]
          · congr 2
            exact Lf.ext_ rfl rfl (by show (y.n + (((k + 1) * m : Nat) : Int)) + (r.single (k + 1)).n = y.n + (((k + 1 + 1) * m : Nat) : Int); rw [hsn, Int.add_assoc, hsum]) rfl rfl rfl
          · refine meets_iff.2 ⟨?_, ?_, m3, m4, m5⟩
            · show y.v + (y.n + (((k + 1) * m : Nat) : Int)).toNat * 4096 = r.v + (k + 1) * r.u
              rw [show (y.n + (((k + 1) * m : Nat) : Int)).toNat = y.n.toNat + (k + 1) * m by have := hout y (by simp); omega, Nat.add_mul, hlen, ← Nat.add_assoc, m1]
              rfl
            · show y.p + (y.n + (((k + 1) * m : Nat) : Int)).toNat * 4096 = r.p + (k + 1) * r.u
              rw [show (y.n + (((k + 1) * m : Nat) : Int)).toNat = y.n.toNat + (k + 1) * m by have := hout y (by simp); omega, Nat.add_mul, hlen, ← Nat.add_assoc, m2]
              rfl
        · rw [runs1_snoc, if_pos]
          · congr 2
            exact Lf.ext_ rfl rfl (by show (((k + 1) * m : Nat) : Int) + (r.single (k + 1)).n = _; rw [hsn, hsum]; rfl) rfl rfl rfl
          · refine meets_iff.2 ⟨?_, ?_, rfl, rfl, rfl⟩
            · show r.v + (((k + 1) * m : Nat) : Int).toNat * 4096 = r.v + (k + 1) * r.u
              rw [Int.toNat_natCast, hlen]
            · show r.p + (((k + 1) * m : Nat) : Int).toNat * 4096 = r.p + (k + 1) * r.u
              rw [Int.toNat_natCast, hlen]
  have hc := h.cnt_pos
  have hcu := h.cnt_u
  have := aux (r.cnt - 1) (by omega)
  rw [show r.cnt - 1 + 1 = r.cnt by omega] at this
  unfold Lf.singles
  rw [this]
  congr 1
  refine Lf.ext_ rfl rfl ?_ rfl rfl rfl
  show ((r.cnt * (r.u / 4096) : Nat) : Int) = r.n
  have h1 := h.n1
  have h2 : r.cnt * (r.u / 4096) * 4096 = r.n.toNat * 4096 := by rw [Nat.mul_assoc, hu0, hcu]
  have h3 := Nat.eq_of_mul_eq_mul_right (by decide) h2
  rw [h3]; omega
theorem right_pos : ∀ {rows : List Lf} {bh : Nat}, right bh rows = 0 → ∀ r ∈ rows, 0 ≤ r.n
  | [], _, _, r, h => by cases h
  | r :: rs, bh, h, r', h' => by
    obtain ⟨a, _, c⟩ := right_cons h
    rcases List.mem_cons.1 h' with rfl | h'
    · have := a.n1; omega
    · exact right_pos c _ h'
theorem joins_each : ∀ (rows out : List Lf), right 0 out = 0 → right (endOf 0 out) rows = 0 → (each rows).foldl runs1 out = rows.foldl runs1 out
  | [], out, _, _ => rfl
  | r :: rs, out, h, hr => by
    obtain ⟨h1, h2, h3⟩ := right_cons hr
    obtain ⟨k1, k2, k3⟩ := runs1_right h h1 h2
    show (r.singles ++ each rs).foldl runs1 out = rs.foldl runs1 (runs1 out r)
    rw [List.foldl_append, joins_singles h1 out (right_pos h)]
    exact joins_each rs _ k1 (by rw [k2]; exact h3)
theorem runs_each {rows : List Lf} (h : right 0 rows = 0) : runs (each rows) = runs rows := by
  rw [runs_ok h, runs_ok (each_right rows 0 h)]
  exact joins_each rows [] rfl h
end Pg
end Go.Proofs.Ytblfagmoilhdnaa
