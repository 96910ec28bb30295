/- Texts of this claim, one behind the other: PrD, PrZ, PrT. -/
import Derived.Test.YtblfagmoilhdnaaJPagesTold28
import Derived.Test.YtblfagmoilhdnaaJPagesTold21
import Derived.Test.YtblfagmoilhdnaaJPagesTold23
import Derived.Test.YtblfagmoilhdnaaJPagesTold18
/- The walks of the document's tables: reach, has, find, tables, Count. -/
set_option linter.unusedVariables false
set_option linter.unusedSimpArgs false
namespace Go.Proofs.Ytblfagmoilhdnaa
open Go.RowKit

/-- where a table's reach begins -/
def vOf (t : Pg.Lab) : Nat := t.2 * (if t.1 = 1 then 1073741824 else if t.1 = 2 then 2097152 else 549755813888)
theorem vOf_inj {s t : Pg.Lab} (h : s.1 = t.1) (h2 : vOf s = vOf t) : s = t := by
  obtain ⟨s1, s2⟩ := s
  obtain ⟨t1, t2⟩ := t
  simp only at h
  subst h
  unfold vOf at h2
  simp only at h2
  have : s2 = t2 := by
    split at h2
    · omega
    · split at h2 <;> omega
  rw [this]
def rcell (t : Pg.Lab × List Nat) : List Value := .int .i64 (t.1.1 : Nat) :: .int .u64 (vOf t.1 : Nat) :: t.2.map u64v
def rcells (ts : List (Pg.Lab × List Nat)) : List Value := ts.flatMap rcell
/-- tables in memory are whole -/
def RTab (ts : List (Pg.Lab × List Nat)) : Prop := ∀ t ∈ ts, t.2.length = 512
theorem rcell_len {t : Pg.Lab × List Nat} (h : t.2.length = 512) : (rcell t).length = 514 := by unfold rcell; rw [List.length_cons, List.length_cons, List.length_map, h]
theorem RTab.len {ts : List (Pg.Lab × List Nat)} (h : RTab ts) : (rcells ts).length = 514 * ts.length := by
  induction ts with
  | nil => rfl
  | cons t r ih =>
    unfold rcells at ih ⊢
    rw [List.flatMap_cons, List.length_append, ih (fun x hx => h x (by simp [hx])), rcell_len (h t (by simp)), List.length_cons]
    omega
theorem rcells_at {ts : List (Pg.Lab × List Nat)} (h : RTab ts) : ∀ {i : Nat} {t : Pg.Lab × List Nat} (_ : ts[i]? = some t) (d : Nat) (_ : d < 514), (rcells ts)[514 * i + d]? = (rcell t)[d]? := by
  induction ts with
  | nil => intro i t ht; simp at ht
  | cons a r ih =>
    intro i t ht d hd
    have ha := rcell_len (h a (by simp))
    unfold rcells at ih ⊢
    rw [List.flatMap_cons]
    cases i with
    | zero =>
      injection ht with ht
      subst ht
      rw [List.getElem?_append_left (by omega), Nat.mul_zero, Nat.zero_add]
    | succ i =>
      rw [List.getElem?_append_right (by omega), ha, show 514 * (i + 1) + d - 514 = 514 * i + d by omega]
      exact ih (fun x hx => h x (by simp [hx])) ht d hd
theorem rcells_set {ts : List (Pg.Lab × List Nat)} (h : RTab ts) : ∀ {i : Nat} {t : Pg.Lab × List Nat} (_ : ts[i]? = some t) (e x : Nat) (_ : e < 512), (rcells ts).set (514 * i + 2 + e) (u64v x) = rcells (ts.set i (t.1, t.2.set e x)) := by
  induction ts with
  | nil => intro i t ht; simp at ht
  | cons a r ih =>
    intro i t ht e x he
    have ha := rcell_len (h a (by simp))
    unfold rcells at ih ⊢
    rw [List.flatMap_cons]
    cases i with
    | zero =>
      injection ht with ht
      subst ht
      rw [List.set_append_left _ _ (by omega), List.set_cons_zero, List.flatMap_cons]
      congr 1
      unfold rcell
      rw [show 514 * 0 + 2 + e = e + 1 + 1 by omega, List.set_cons_succ, List.set_cons_succ, List.map_set]
    | succ i =>
      rw [List.set_append_right _ _ (by omega), ha, List.set_cons_succ, List.flatMap_cons, show 514 * (i + 1) + 2 + e - 514 = 514 * i + 2 + e by omega, ih (fun x hx => h x (by simp [hx])) ht e x he]
theorem rcells_app (a b : List (Pg.Lab × List Nat)) : rcells (a ++ b) = rcells a ++ rcells b := by unfold rcells; rw [List.flatMap_append]
/-- the labels, read -/
def HasR (w : World) (A : Option Addr) (L : List Pg.Lab) : Prop := 0 < L.length → ∃ g, A = some ⟨g, 0, none⟩ ∧ g < w.heap.size ∧ ∀ i t, L[i]? = some t → w.cell? ⟨g, i * 514, none⟩ = some (.int .i64 (t.1 : Nat)) ∧ w.cell? ⟨g, i * 514 + 1, none⟩ = some (.int .u64 (vOf t : Nat))
/-- the document's tables in memory -/
def OwnR (w : World) (B : Nat) (A : Option Addr) (c : Nat) (ts : List (Pg.Lab × List Nat)) : Prop := w.ownsRow B 120 514 (.slice A ts.length c) ts.length (rcells ts) ∧ RTab ts
theorem OwnR.has {w : World} {B c : Nat} {A : Option Addr} {ts : List (Pg.Lab × List Nat)} (h : OwnR w B A c ts) : HasR w A (ts.map (·.1)) := by
  intro h0
  rw [List.length_map] at h0
  obtain ⟨g, rfl, h1, h2, h3, h4⟩ := own_some h.1 (by omega)
  refine ⟨g, rfl, h2, fun i t ht => ?_⟩
  rw [List.getElem?_map] at ht
  obtain ⟨u, hu, rfl⟩ := Option.map_eq_some_iff.1 ht
  have hi : i < ts.length := (List.getElem?_eq_some_iff.1 hu).1
  constructor
  · rw [show i * 514 = 514 * i + 0 by omega, h.1.cellAt (514 * i + 0) (by omega), rcells_at h.2 hu 0 (by omega)]; rfl
  · rw [show i * 514 + 1 = 514 * i + 1 by omega, h.1.cellAt (514 * i + 1) (by omega), rcells_at h.2 hu 1 (by omega)]; rfl
/-- how far a level reaches -/
def rch (l : Nat) : Nat := if l = 1 then 1073741824 else 2097152
set_option maxRecDepth 100000 in
set_option maxHeartbeats 400000 in
theorem reach1_any (w : World) : Calls Try.prog 60 #[.int .i64 1] w fun e w' => e = .returned (.int .u64 1073741824) ∧ Below w.heap.size w w' := by
  go_enter Try.func60, Try.ntmps60
  go_wp2_with fail
  go_ret
  exact ⟨rfl, (Below.refl _ _).alloc (Nat.le_refl _) _⟩
set_option maxRecDepth 100000 in
set_option maxHeartbeats 400000 in
theorem reach2_any (w : World) : Calls Try.prog 60 #[.int .i64 2] w fun e w' => e = .returned (.int .u64 2097152) ∧ Below w.heap.size w w' := by
  go_enter Try.func60, Try.ntmps60
  go_wp2_with fail
  go_ret
  exact ⟨rfl, (Below.refl _ _).alloc (Nat.le_refl _) _⟩
set_option maxRecDepth 100000 in
set_option maxHeartbeats 1000000 in
theorem has_any (A : Option Addr) (n c : Nat) (L : List Pg.Lab) (s : Pg.Lab) (w : World) (h : HasR w A L) (hn : n = L.length) (hl : n ≤ 2000) :
    Calls Try.prog 79 #[.slice A n c, .int .i64 (s.1 : Nat), .int .u64 (vOf s : Nat)] w fun e w' => e = .returned (.bool (decide (s ∈ L))) ∧ w' = w := by
  obtain ⟨V, hV⟩ : ∃ V, V = vOf s := ⟨_, rfl⟩
  obtain ⟨S1, hS⟩ : ∃ S1, S1 = s.1 := ⟨_, rfl⟩
  rw [← hV, ← hS]
  have HV := Lib.hid hV; have HS := Lib.hid hS; have H := Lib.hid h; have HN := Lib.hid hn
  have e1 : IntKind.i64.wrap ((n : Int) - 1) = (n : Int) - 1 := by rw [IntKind.wrap_i64]; omega
  clear hV hS h hn
  go_enter Try.func79, Try.ntmps79
  go_wp2_with fail
  go_loopw [7] (fun i wr => ∃ k : Nat, k ≤ n ∧ i = .int .i64 ((k : Int) - 1) ∧ wr = w ∧ Hid (∀ j, k ≤ j → L[j]? ≠ some s)) (fun i _ => (intOf i + 1).toNat)
  case atStart =>
    refine ⟨n, Nat.le_refl _, rfl, rfl, Lib.hid fun j hj he => ?_⟩
    have := (List.getElem?_eq_some_iff.1 he).1
    have := HN.out
    omega
  case round =>
    obtain ⟨k, hk, rfl, rfl, HK⟩ := hrel
    rcases k with _ | k
    · have f1 : decide ((0 : Int) ≤ ((0 : Nat) : Int) - 1) = false := by decide
      have HF : Hid (decide (s ∈ L) = false) := Lib.hid (by
        rw [decide_eq_false_iff_not]
        intro hm
        obtain ⟨j, hj⟩ := List.mem_iff_getElem?.1 hm
        exact HK.out j (by omega) hj)
      go_wp2_with fail
      go_ret
      exact ⟨by rw [HF.out]; rfl, rfl⟩
    · have ek : ((k + 1 : Nat) : Int) - 1 = (k : Int) := by omega
      rw [ek]
      have hkn : (k : Int) < (n : Int) := by omega
      have hk0 : (0 : Int) ≤ (k : Int) := by omega
      obtain ⟨g, rfl, hg, hc⟩ := H.out (by have := HN.out; omega)
      obtain ⟨t, ht⟩ : ∃ t, L[k]? = some t := ⟨_, List.getElem?_eq_getElem (by have := HN.out; omega)⟩
      obtain ⟨c0, c1⟩ := hc k t ht
      obtain ⟨T1, hT1⟩ : ∃ T1, T1 = t.1 := ⟨_, rfl⟩
      obtain ⟨V1, hV1⟩ : ∃ V1, V1 = vOf t := ⟨_, rfl⟩
      rw [← hT1] at c0
      rw [← hV1] at c1
      have HT := Lib.hid ht; have HT1 := Lib.hid hT1; have HV1 := Lib.hid hV1
      have e2 : IntKind.i64.wrap ((k : Int) - 1) = (k : Int) - 1 := by rw [IntKind.wrap_i64]; omega
      clear ek ht hT1 hV1 hc
      have hno : ¬ (T1 = S1 ∧ V1 = V) → ∀ j, k ≤ j → L[j]? ≠ some s := by
        intro hne j hj he
        rcases Nat.lt_or_ge k j with h2 | h2
        · exact HK.out j (by omega) he
        · obtain rfl : j = k := by omega
          rw [HT.out] at he
          injection he with he
          exact hne ⟨by rw [HT1.out, HS.out, he], by rw [HV1.out, HV.out, he]⟩
      have HNO := Lib.hid hno
      clear hno
      by_cases q1 : T1 = S1
      · have p1 : ((T1 : Int) == (S1 : Int)) = true := by simp [q1]
        by_cases q2 : V1 = V
        · have p2 : ((V1 : Int) == (V : Int)) = true := by simp [q2]
          have HF : Hid (decide (s ∈ L) = true) := Lib.hid (by
            rw [decide_eq_true_iff]
            have : t = s := vOf_inj (by rw [← HT1.out, ← HS.out, q1]) (by rw [← HV1.out, ← HV.out, q2])
            rw [← this]
            exact List.mem_of_getElem? HT.out)
          clear q1 q2
          go_wp2_with fail
          go_ret
          exact ⟨by rw [HF.out]; rfl, rfl⟩
        · have p2 : ((V1 : Int) == (V : Int)) = false := by simp; omega
          have HQ : Hid (¬ (T1 = S1 ∧ V1 = V)) := Lib.hid fun h => q2 h.2
          clear q1 q2
          go_wp2_with fail
          go_roundw
          case rel => exact ⟨k, by omega, by go_num, by trivial, Lib.hid (HNO.out HQ.out)⟩
          case measure => simp [intOf] <;> omega
      · have p1 : ((T1 : Int) == (S1 : Int)) = false := by simp; omega
        have HQ : Hid (¬ (T1 = S1 ∧ V1 = V)) := Lib.hid fun h => q1 h.1
        clear q1
        go_wp2_with fail
        go_roundw
        case rel => exact ⟨k, by omega, by go_num, by trivial, Lib.hid (HNO.out HQ.out)⟩
        case measure => simp [intOf] <;> omega
set_option maxRecDepth 100000 in
set_option maxHeartbeats 1000000 in
theorem find_any (A : Option Addr) (n c : Nat) (L : List Pg.Lab) (s : Pg.Lab) (w : World) (h : HasR w A L) (hn : n = L.length) (hl : n ≤ 2000) (hm : s ∈ L) :
    Calls Try.prog 61 #[.slice A n c, .int .i64 (s.1 : Nat), .int .u64 (vOf s : Nat)] w fun e w' => e = .returned (.int .i64 (L.idxOf s : Nat)) ∧ w' = w := by
  obtain ⟨V, hV⟩ : ∃ V, V = vOf s := ⟨_, rfl⟩
  obtain ⟨S1, hS⟩ : ∃ S1, S1 = s.1 := ⟨_, rfl⟩
  rw [← hV, ← hS]
  have HV := Lib.hid hV; have HS := Lib.hid hS; have H := Lib.hid h; have HN := Lib.hid hn; have HM := Lib.hid hm
  clear hV hS h hn hm
  go_enter Try.func61, Try.ntmps61
  go_wp2_with fail
  go_loopw [7] (fun i wr => ∃ k : Nat, k ≤ n ∧ i = .int .i64 k ∧ wr = w ∧ Hid (k ≤ L.idxOf s)) (fun i _ => n - (intOf i).toNat)
  case atStart => exact ⟨0, by omega, rfl, rfl, Lib.hid (Nat.zero_le _)⟩
  case round =>
    obtain ⟨k, hk, rfl, rfl, HK⟩ := hrel
    have hlt : k < n := by
      have := List.idxOf_lt_length_iff.2 HM.out
      have := HN.out
      have := HK.out
      omega
    have hkn : (k : Int) < (n : Int) := by omega
    have hk0 : (0 : Int) ≤ (k : Int) := by omega
    obtain ⟨g, rfl, hg, hc⟩ := H.out (by have := HN.out; omega)
    obtain ⟨t, ht⟩ : ∃ t, L[k]? = some t := ⟨_, List.getElem?_eq_getElem (by have := HN.out; omega)⟩
    obtain ⟨c0, c1⟩ := hc k t ht
    obtain ⟨T1, hT1⟩ : ∃ T1, T1 = t.1 := ⟨_, rfl⟩
    obtain ⟨V1, hV1⟩ : ∃ V1, V1 = vOf t := ⟨_, rfl⟩
    rw [← hT1] at c0
    rw [← hV1] at c1
    have HT := Lib.hid ht; have HT1 := Lib.hid hT1; have HV1 := Lib.hid hV1
    clear ht hT1 hV1 hc
    have hno : ¬ (T1 = S1 ∧ V1 = V) → k + 1 ≤ L.idxOf s := by
      intro hne
      have := HK.out
      rcases Nat.lt_or_ge k (L.idxOf s) with h2 | h2
      · exact h2
      · have he : L.idxOf s = k := by omega
        have h3 := Pg.at_idxOf HM.out
        rw [he, HT.out] at h3
        injection h3 with h3
        exact absurd ⟨by rw [HT1.out, HS.out, h3], by rw [HV1.out, HV.out, h3]⟩ hne
    have HNO := Lib.hid hno
    clear hno
    by_cases q1 : T1 = S1
    · have p1 : ((T1 : Int) == (S1 : Int)) = true := by simp [q1]
      by_cases q2 : V1 = V
      · have p2 : ((V1 : Int) == (V : Int)) = true := by simp [q2]
        have HF : Hid (L.idxOf s = k) := Lib.hid (by
          have : t = s := vOf_inj (by rw [← HT1.out, ← HS.out, q1]) (by rw [← HV1.out, ← HV.out, q2])
          have h1 := HK.out
          rcases Nat.lt_or_ge k (L.idxOf s) with h2 | h2
          · have h3 := List.not_of_lt_findIdx (p := (· == s)) (xs := L) h2
            have h4 := (List.getElem?_eq_some_iff.1 HT.out).2
            simp [h4, this] at h3
          · omega)
        clear q1 q2
        go_wp2_with fail
        go_ret
        exact ⟨by rw [HF.out]; rfl, rfl⟩
      · have p2 : ((V1 : Int) == (V : Int)) = false := by simp; omega
        have HQ : Hid (¬ (T1 = S1 ∧ V1 = V)) := Lib.hid fun h => q2 h.2
        clear q1 q2
        go_wp2_with fail
        go_roundw
        case rel => exact ⟨k + 1, by omega, by go_num, by trivial, Lib.hid (HNO.out HQ.out)⟩
        case measure => simp [intOf] <;> omega
    · have p1 : ((T1 : Int) == (S1 : Int)) = false := by simp; omega
      have HQ : Hid (¬ (T1 = S1 ∧ V1 = V)) := Lib.hid fun h => q1 h.1
      clear q1
      go_wp2_with fail
      go_roundw
      case rel => exact ⟨k + 1, by omega, by go_num, by trivial, Lib.hid (HNO.out HQ.out)⟩
      case measure => simp [intOf] <;> omega
end Go.Proofs.Ytblfagmoilhdnaa

/- Closed facts on the document's tables. -/
set_option linter.unusedVariables false
set_option linter.unusedSimpArgs false
namespace Go.Proofs.Ytblfagmoilhdnaa
open Go.RowKit
def rz (l v : Int) : List Value := .int .i64 l :: .int .u64 v :: zeros 512
theorem infoR : (Try.prog.info? 120).map (fun i => (i.zero, i.size, i.bytes)) = some (some (.agg (rz 0 0).toArray), 514, 4112) := by kernel_rfl
theorem infoRZ : (Try.prog.info? 120).map (fun i => (i.zero, i.size)) = some (some (.agg (rz 0 0).toArray), 514) := by
  have h := infoR
  cases hi : Try.prog.info? 120 with
  | none => rw [hi] at h; cases h
  | some i =>
    rw [hi] at h
    simp only [Option.map_some, Option.some.injEq, Prod.mk.injEq] at h ⊢
    exact ⟨h.1, h.2.1⟩
theorem builtR (l v : Int) (w : World) : (Instr.buildSlice 117 1 #[(0, .agg (rz l v).toArray)]).run Try.prog w = .ok (.slice (some ⟨w.heap.size, 0, none⟩) 1 1) (w.alloc (.cells (rz l v).toArray 120)) := by kernel_rfl
theorem rz_set (l v : Int) : ((rz 0 0).set 0 (.int .i64 l)).set 1 (.int .u64 v) = rz l v := rfl
theorem rz_set0 : (rz 0 0).set 0 (.int .i64 0) = rz 0 0 := rfl
theorem rz_len (l v : Int) : (rz l v).length = 514 := by unfold rz zeros; rw [List.length_cons, List.length_cons, List.length_replicate]
theorem rz_one (l v : Int) : ∀ u ∈ rz l v, u.oneCell' = true := by
  intro u hu
  rcases List.mem_cons.1 hu with rfl | hu
  · rfl
  rcases List.mem_cons.1 hu with rfl | hu
  · rfl
  · exact oneCell_zeros 512 u hu
end Go.Proofs.Ytblfagmoilhdnaa

/- The walk of the document's list of tables. -/
set_option linter.unusedVariables false
set_option linter.unusedSimpArgs false
namespace Go.Proofs.Ytblfagmoilhdnaa
open Go.RowKit
theorem and_b2 (a : Nat) (h : a < 18446744073709551616) : a &&& (18446744073709551615 - 2097151) = a / 2097152 * 2097152 := by
  apply Nat.eq_of_testBit_eq
  intro i
  rw [Nat.testBit_and, show (18446744073709551615 - 2097151 : Nat) = 2 ^ 21 * (2 ^ 43 - 1) by decide, show a / 2097152 * 2097152 = 2 ^ 21 * (a / 2 ^ 21) by omega, Nat.testBit_two_pow_mul, Nat.testBit_two_pow_mul, Nat.testBit_two_pow_sub_one, Nat.testBit_div_two_pow]
  by_cases h1 : 21 ≤ i
  · rw [show i - 21 + 21 = i by omega]
    by_cases h2 : i - 21 < 43
    · simp [h1, h2]
    · rw [Nat.testBit_lt_two_pow (x := a) (i := i) (Nat.lt_of_lt_of_le h (by rw [show (18446744073709551616 : Nat) = 2 ^ 64 by decide]; exact Nat.pow_le_pow_right (by omega) (by omega)))]
      simp
  · simp [h1]
theorem and_b1 (a : Nat) (h : a < 18446744073709551616) : a &&& (18446744073709551615 - 1073741823) = a / 1073741824 * 1073741824 := by
  apply Nat.eq_of_testBit_eq
  intro i
  rw [Nat.testBit_and, show (18446744073709551615 - 1073741823 : Nat) = 2 ^ 30 * (2 ^ 34 - 1) by decide, show a / 1073741824 * 1073741824 = 2 ^ 30 * (a / 2 ^ 30) by omega, Nat.testBit_two_pow_mul, Nat.testBit_two_pow_mul, Nat.testBit_two_pow_sub_one, Nat.testBit_div_two_pow]
  by_cases h1 : 30 ≤ i
  · rw [show i - 30 + 30 = i by omega]
    by_cases h2 : i - 30 < 34
    · simp [h1, h2]
    · rw [Nat.testBit_lt_two_pow (x := a) (i := i) (Nat.lt_of_lt_of_le h (by rw [show (18446744073709551616 : Nat) = 2 ^ 64 by decide]; exact Nat.pow_le_pow_right (by omega) (by omega)))]
      simp
  · simp [h1]
theorem andn_b1 (a : Nat) (h : a < 18446744073709551616) : bits .andNot .u64 (a : Int) 1073741823 = ((a / 1073741824 * 1073741824 : Nat) : Int) := by
  rw [← and_b1 a h]; exact u64_andNot_nat a 1073741823 h (by decide)
theorem andn_b2 (a : Nat) (h : a < 18446744073709551616) : bits .andNot .u64 (a : Int) 2097151 = ((a / 2097152 * 2097152 : Nat) : Int) := by
  rw [← and_b2 a h]; exact u64_andNot_nat a 2097151 h (by decide)
def zt (L : List Pg.Lab) : List (Pg.Lab × List Nat) := L.map fun t => (t, Pg.zero512)
theorem zt_len (L : List Pg.Lab) : (zt L).length = L.length := List.length_map _
theorem zt_tab (L : List Pg.Lab) : RTab (zt L) := by
  intro t ht
  obtain ⟨l, _, rfl⟩ := List.mem_map.1 ht
  exact List.length_replicate
theorem zt_fst (L : List Pg.Lab) : (zt L).map (·.1) = L := by unfold zt; rw [List.map_map]; exact List.map_id L
theorem zt_snd (L : List Pg.Lab) : (zt L).map (·.2) = List.replicate L.length Pg.zero512 := by
  unfold zt
  rw [List.map_map]
  exact List.map_const' ..
theorem rz_cell (s : Pg.Lab) : rcell (s, Pg.zero512) = rz (s.1 : Nat) (vOf s : Nat) := by
  unfold rcell rz zeros Pg.zero512
  rw [List.map_replicate]
theorem zt_snoc (L : List Pg.Lab) (s : Pg.Lab) : rcells (zt (L ++ [s])) = rcells (zt L) ++ rz (s.1 : Nat) (vOf s : Nat) := by
  unfold zt
  rw [List.map_append, rcells_app, ← rz_cell]
  simp [rcells]
/-- the tables so far -/
def TS (w wx : World) (A : Option Addr) (ln c : Nat) (L : List Pg.Lab) : Prop := wx.ownsRow w.heap.size 120 514 (.slice A ln c) ln (rcells (zt L)) ∧ ln = L.length ∧ Below w.heap.size w wx
theorem TS.own {w wx : World} {A : Option Addr} {ln c : Nat} {L : List Pg.Lab} (h : TS w wx A ln c L) : OwnR wx w.heap.size A c (zt L) := by
  refine ⟨?_, zt_tab L⟩
  rw [zt_len, ← h.2.1]
  exact h.1
theorem TS.has {w wx : World} {A : Option Addr} {ln c : Nat} {L : List Pg.Lab} (h : TS w wx A ln c L) : HasR wx A L := by
  have := h.own.has
  rwa [zt_fst] at this
theorem TS.below {w wx wy : World} {A : Option Addr} {ln c : Nat} {L : List Pg.Lab} (h : TS w wx A ln c L) (hb : Below wx.heap.size wx wy) : TS w wy A ln c L :=
  ⟨owns_chg h.1 (Chg.of_below (S := []) hb) (by simp), h.2.1, h.2.2.trans (hb.mono h.2.2.size)⟩
theorem TS.drewN {w wx : World} {A : Option Addr} {ln c : Nat} {L : List Pg.Lab} (h : TS w wx A ln c L) (m : Nat) : TS w (wx.drewN m) A ln c L := h.below (below_drewN (Below.refl _ _) m)
theorem TS.app {w wx w1 : World} {A A1 : Option Addr} {ln c c1 : Nat} {L : List Pg.Lab} {s : Pg.Lab} (h : TS w wx A ln c L) (o : Obj) (hs : s ∉ L)
    (ho : w1.ownsRow w.heap.size 120 514 (.slice A1 (ln + 1) c1) (ln + 1) (rcells (zt L) ++ rz (s.1 : Nat) (vOf s : Nat))) (hg : (wx.alloc o).grownBy w1 (Value.slice A ln c).ownBlock) : TS w w1 A1 (ln + 1) c1 (Pg.ens L s) := by
  rw [Pg.ens_out hs]
  refine ⟨by rw [zt_snoc]; exact ho, by rw [List.length_append, h.2.1]; rfl, ?_⟩
  exact (h.2.2.alloc h.2.2.size o).grown hg (by have := h.2.2.size; simp; omega) (fun k hk => (h.1.lt k hk).1)
theorem TS.same {w wx : World} {A : Option Addr} {ln c : Nat} {L : List Pg.Lab} {s : Pg.Lab} (h : TS w wx A ln c L) (hs : s ∈ L) : TS w wx A ln c (Pg.ens L s) := by rw [Pg.ens_in hs]; exact h
theorem HasR.below {w w' : World} {A : Option Addr} {L : List Pg.Lab} (h : HasR w A L) (hb : Below w.heap.size w w') : HasR w' A L := by
  intro h0
  obtain ⟨g, rfl, h1, h2⟩ := h h0
  refine ⟨g, rfl, Nat.lt_of_lt_of_le h1 hb.size, fun i t ht => ?_⟩
  obtain ⟨h3, h4⟩ := h2 i t ht
  exact ⟨(hb.cell (p := ⟨g, i * 514, none⟩) h1).trans h3, (hb.cell (p := ⟨g, i * 514 + 1, none⟩) h1).trans h4⟩
/-- the list as it is made -/
theorem cap_next {s : Bool × Nat} {ss : List (Bool × Nat)} {l : List Pg.Lab} (h : (Pg.capF ss l).length ≤ 1024) : Pg.capF (ss ++ [s]) l = Pg.tabM (Pg.capF ss l) s.1 s.2 := by
  rw [Pg.capF_app]
  show (if 1024 < (Pg.capF ss l).length then _ else Pg.capF [] (Pg.tabM (Pg.capF ss l) s.1 s.2)) = _
  rw [if_neg (by omega)]
  rfl
theorem cap_end {ss tt : List (Bool × Nat)} {l : List Pg.Lab} (h : 1024 < (Pg.capF ss l).length) : Pg.capF (ss ++ tt) l = Pg.capF ss l := by
  rw [Pg.capF_app, Pg.capF_full h]
theorem steps_split (b : Bool) (m j t : Nat) (h : j ≤ t) : Pg.stepsR b m t = Pg.stepsR b m j ++ Pg.stepsR b (m + j) (t - j) := by
  unfold Pg.stepsR
  rw [← List.map_append, List.range'_append_1, show j + (t - j) = t by omega]
end Go.Proofs.Ytblfagmoilhdnaa
