/- Texts of this claim, one behind the other: PrD, PrZ, Reader, PrT, PrU, PrV, PrW, PrX, PrY. -/
import Derived.Test.YtblfagmoilhdnaaJPagesBuilds4
import Derived.Test.YtblfagmoilhdnaaJPagesBuilds2
import Derived.Test.YtblfagmoilhdnaaJPagesBuilds1
import Derived.Deep.QuietTactic
import Derived.BigQuiet
import Derived.Test.YtblfagmoilhdnaaJPagesBuilds3
import Derived.Deep.RegionHeld3
import Derived.Deep.Cut
import Derived.Deep.DeepCutAuto
/- The walks of the document's tables: reach, has, find, tables, Count. -/
set_option linter.unusedVariables false
set_option linter.unusedSimpArgs false
namespace Go.Proofs.Ytblfagmoilhdnaa
open Go.RowKit

/-- where a table's reach begins -/
def vOf (t : Pg.Lab) : Nat := t.2 * (if t.1 = 1 then 1073741824 else if t.1 = 2 then 2097152 else 549755813888)
theorem vOf_inj {s t : Pg.Lab} (h : s.1 = t.1) (h2 : vOf s = vOf t) : s = t := by
  obtain ⟨s1, s2⟩ := s
  obtain ⟨t1, t2⟩ := t
  simp only at h
  subst h
  unfold vOf at h2
  simp only at h2
  have : s2 = t2 := by
    split at h2
    · omega
    · split at h2 <;> omega
  rw [this]
def rcell (t : Pg.Lab × List Nat) : List Value := .int .i64 (t.1.1 : Nat) :: .int .u64 (vOf t.1 : Nat) :: t.2.map u64v
def rcells (ts : List (Pg.Lab × List Nat)) : List Value := ts.flatMap rcell
/-- tables in memory are whole -/
def RTab (ts : List (Pg.Lab × List Nat)) : Prop := ∀ t ∈ ts, t.2.length = 512
theorem rcell_len {t : Pg.Lab × List Nat} (h : t.2.length = 512) : (rcell t).length = 514 := by unfold rcell; rw [List.length_cons, List.length_cons, List.length_map, h]
theorem RTab.len {ts : List (Pg.Lab × List Nat)} (h : RTab ts) : (rcells ts).length = 514 * ts.length := by
  induction ts with
  | nil => rfl
  | cons t r ih =>
    unfold rcells at ih ⊢
    rw [List.flatMap_cons, List.length_append, ih (fun x hx => h x (by simp [hx])), rcell_len (h t (by simp)), List.length_cons]
    omega
theorem rcells_at {ts : List (Pg.Lab × List Nat)} (h : RTab ts) : ∀ {i : Nat} {t : Pg.Lab × List Nat} (_ : ts[i]? = some t) (d : Nat) (_ : d < 514), (rcells ts)[514 * i + d]? = (rcell t)[d]? := by
  induction ts with
  | nil => intro i t ht; simp at ht
  | cons a r ih =>
    intro i t ht d hd
    have ha := rcell_len (h a (by simp))
    unfold rcells at ih ⊢
    rw [List.flatMap_cons]
    cases i with
    | zero =>
      injection ht with ht
      subst ht
      rw [List.getElem?_append_left (by omega), Nat.mul_zero, Nat.zero_add]
    | succ i =>
      rw [List.getElem?_append_right (by omega), ha, show 514 * (i + 1) + d - 514 = 514 * i + d by omega]
      exact ih (fun x hx => h x (by simp [hx])) ht d hd
theorem rcells_set {ts : List (Pg.Lab × List Nat)} (h : RTab ts) : ∀ {i : Nat} {t : Pg.Lab × List Nat} (_ : ts[i]? = some t) (e x : Nat) (_ : e < 512), (rcells ts).set (514 * i + 2 + e) (u64v x) = rcells (ts.set i (t.1, t.2.set e x)) := by
  induction ts with
  | nil => intro i t ht; simp at ht
  | cons a r ih =>
    intro i t ht e x he
    have ha := rcell_len (h a (by simp))
    unfold rcells at ih ⊢
    rw [List.flatMap_cons]
    cases i with
    | zero =>
      injection ht with ht
      subst ht
      rw [List.set_append_left _ _ (by omega), List.set_cons_zero, List.flatMap_cons]
      congr 1
      unfold rcell
      rw [show 514 * 0 + 2 + e = e + 1 + 1 by omega, List.set_cons_succ, List.set_cons_succ, List.map_set]
    | succ i =>
      rw [List.set_append_right _ _ (by omega), ha, List.set_cons_succ, List.flatMap_cons, show 514 * (i + 1) + 2 + e - 514 = 514 * i + 2 + e by omega, ih (fun x hx => h x (by simp [hx])) ht e x he]
theorem rcells_app (a b : List (Pg.Lab × List Nat)) : rcells (a ++ b) = rcells a ++ rcells b := by unfold rcells; rw [List.flatMap_append]
/-- the labels, read -/
def HasR (w : World) (A : Option Addr) (L : List Pg.Lab) : Prop := 0 < L.length → ∃ g, A = some ⟨g, 0, none⟩ ∧ g < w.heap.size ∧ ∀ i t, L[i]? = some t → w.cell? ⟨g, i * 514, none⟩ = some (.int .i64 (t.1 : Nat)) ∧ w.cell? ⟨g, i * 514 + 1, none⟩ = some (.int .u64 (vOf t : Nat))
/-- the document's tables in memory -/
def OwnR (w : World) (B : Nat) (A : Option Addr) (c : Nat) (ts : List (Pg.Lab × List Nat)) : Prop := w.ownsRow B 120 514 (.slice A ts.length c) ts.length (rcells ts) ∧ RTab ts
theorem OwnR.has {w : World} {B c : Nat} {A : Option Addr} {ts : List (Pg.Lab × List Nat)} (h : OwnR w B A c ts) : HasR w A (ts.map (·.1)) := by
  intro h0
  rw [List.length_map] at h0
  obtain ⟨g, rfl, h1, h2, h3, h4⟩ := own_some h.1 (by omega)
  refine ⟨g, rfl, h2, fun i t ht => ?_⟩
  rw [List.getElem?_map] at ht
  obtain ⟨u, hu, rfl⟩ := Option.map_eq_some_iff.1 ht
  have hi : i < ts.length := (List.getElem?_eq_some_iff.1 hu).1
  constructor
  · rw [show i * 514 = 514 * i + 0 by omega, h.1.cellAt (514 * i + 0) (by omega), rcells_at h.2 hu 0 (by omega)]; rfl
  · rw [show i * 514 + 1 = 514 * i + 1 by omega, h.1.cellAt (514 * i + 1) (by omega), rcells_at h.2 hu 1 (by omega)]; rfl
/-- how far a level reaches -/
def rch (l : Nat) : Nat := if l = 1 then 1073741824 else 2097152
set_option maxRecDepth 100000 in
set_option maxHeartbeats 400000 in
theorem reach1_any (w : World) : Calls Try.prog 60 #[.int .i64 1] w fun e w' => e = .returned (.int .u64 1073741824) ∧ Below w.heap.size w w' := by
  go_enter Try.func60, Try.ntmps60
  go_wp2_with fail
  go_ret
  exact ⟨rfl, (Below.refl _ _).alloc (Nat.le_refl _) _⟩
set_option maxRecDepth 100000 in
set_option maxHeartbeats 400000 in
theorem reach2_any (w : World) : Calls Try.prog 60 #[.int .i64 2] w fun e w' => e = .returned (.int .u64 2097152) ∧ Below w.heap.size w w' := by
  go_enter Try.func60, Try.ntmps60
  go_wp2_with fail
  go_ret
  exact ⟨rfl, (Below.refl _ _).alloc (Nat.le_refl _) _⟩
set_option maxRecDepth 100000 in
set_option maxHeartbeats 1000000 in
theorem has_any (A : Option Addr) (n c : Nat) (L : List Pg.Lab) (s : Pg.Lab) (w : World) (h : HasR w A L) (hn : n = L.length) (hl : n ≤ 2000) :
    Calls Try.prog 79 #[.slice A n c, .int .i64 (s.1 : Nat), .int .u64 (vOf s : Nat)] w fun e w' => e = .returned (.bool (decide (s ∈ L))) ∧ w' = w := by
  obtain ⟨V, hV⟩ : ∃ V, V = vOf s := ⟨_, rfl⟩
  obtain ⟨S1, hS⟩ : ∃ S1, S1 = s.1 := ⟨_, rfl⟩
  rw [← hV, ← hS]
  have HV := Lib.hid hV; have HS := Lib.hid hS; have H := Lib.hid h; have HN := Lib.hid hn
  have e1 : IntKind.i64.wrap ((n : Int) - 1) = (n : Int) - 1 := by rw [IntKind.wrap_i64]; omega
  clear hV hS h hn
  go_enter Try.func79, Try.ntmps79
  go_wp2_with fail
  go_loopw [7] (fun i wr => ∃ k : Nat, k ≤ n ∧ i = .int .i64 ((k : Int) - 1) ∧ wr = w ∧ Hid (∀ j, k ≤ j → L[j]? ≠ some s)) (fun i _ => (intOf i + 1).toNat)
  case atStart =>
    refine ⟨n, Nat.le_refl _, rfl, rfl, Lib.hid fun j hj he => ?_⟩
    have := (List.getElem?_eq_some_iff.1 he).1
    have := HN.out
    omega
  case round =>
    obtain ⟨k, hk, rfl, rfl, HK⟩ := hrel
    rcases k with _ | k
    · have f1 : decide ((0 : Int) ≤ ((0 : Nat) : Int) - 1) = false := by decide
      have HF : Hid (decide (s ∈ L) = false) := Lib.hid (by
        rw [decide_eq_false_iff_not]
        intro hm
        obtain ⟨j, hj⟩ := List.mem_iff_getElem?.1 hm
        exact HK.out j (by omega) hj)
      go_wp2_with fail
      go_ret
      exact ⟨by rw [HF.out]; rfl, rfl⟩
    · have ek : ((k + 1 : Nat) : Int) - 1 = (k : Int) := by omega
      rw [ek]
      have hkn : (k : Int) < (n : Int) := by omega
      have hk0 : (0 : Int) ≤ (k : Int) := by omega
      obtain ⟨g, rfl, hg, hc⟩ := H.out (by have := HN.out; omega)
      obtain ⟨t, ht⟩ : ∃ t, L[k]? = some t := ⟨_, List.getElem?_eq_getElem (by have := HN.out; omega)⟩
      obtain ⟨c0, c1⟩ := hc k t ht
      obtain ⟨T1, hT1⟩ : ∃ T1, T1 = t.1 := ⟨_, rfl⟩
      obtain ⟨V1, hV1⟩ : ∃ V1, V1 = vOf t := ⟨_, rfl⟩
      rw [← hT1] at c0
      rw [← hV1] at c1
      have HT := Lib.hid ht; have HT1 := Lib.hid hT1; have HV1 := Lib.hid hV1
      have e2 : IntKind.i64.wrap ((k : Int) - 1) = (k : Int) - 1 := by rw [IntKind.wrap_i64]; omega
      clear ek ht hT1 hV1 hc
      have hno : ¬ (T1 = S1 ∧ V1 = V) → ∀ j, k ≤ j → L[j]? ≠ some s := by
        intro hne j hj he
        rcases Nat.lt_or_ge k j with h2 | h2
        · exact HK.out j (by omega) he
        · obtain rfl : j = k := by omega
          rw [HT.out] at he
          injection he with he
          exact hne ⟨by rw [HT1.out, HS.out, he], by rw [HV1.out, HV.out, he]⟩
      have HNO := Lib.hid hno
      clear hno
      by_cases q1 : T1 = S1
      · have p1 : ((T1 : Int) == (S1 : Int)) = true := by simp [q1]
        by_cases q2 : V1 = V
        · have p2 : ((V1 : Int) == (V : Int)) = true := by simp [q2]
          have HF : Hid (decide (s ∈ L) = true) := Lib.hid (by
            rw [decide_eq_true_iff]
            have : t = s := vOf_inj (by rw [← HT1.out, ← HS.out, q1]) (by rw [← HV1.out, ← HV.out, q2])
            rw [← this]
            exact List.mem_of_getElem? HT.out)
          clear q1 q2
          go_wp2_with fail
          go_ret
          exact ⟨by rw [HF.out]; rfl, rfl⟩
        · have p2 : ((V1 : Int) == (V : Int)) = false := by simp; omega
          have HQ : Hid (¬ (T1 = S1 ∧ V1 = V)) := Lib.hid fun h => q2 h.2
          clear q1 q2
          go_wp2_with fail
          go_roundw
          case rel => exact ⟨k, by omega, by go_num, by trivial, Lib.hid (HNO.out HQ.out)⟩
          case measure => simp [intOf] <;> omega
      · have p1 : ((T1 : Int) == (S1 : Int)) = false := by simp; omega
        have HQ : Hid (¬ (T1 = S1 ∧ V1 = V)) := Lib.hid fun h => q1 h.1
        clear q1
        go_wp2_with fail
        go_roundw
        case rel => exact ⟨k, by omega, by go_num, by trivial, Lib.hid (HNO.out HQ.out)⟩
        case measure => simp [intOf] <;> omega
set_option maxRecDepth 100000 in
set_option maxHeartbeats 1000000 in
theorem find_any (A : Option Addr) (n c : Nat) (L : List Pg.Lab) (s : Pg.Lab) (w : World) (h : HasR w A L) (hn : n = L.length) (hl : n ≤ 2000) (hm : s ∈ L) :
    Calls Try.prog 61 #[.slice A n c, .int .i64 (s.1 : Nat), .int .u64 (vOf s : Nat)] w fun e w' => e = .returned (.int .i64 (L.idxOf s : Nat)) ∧ w' = w := by
  obtain ⟨V, hV⟩ : ∃ V, V = vOf s := ⟨_, rfl⟩
  obtain ⟨S1, hS⟩ : ∃ S1, S1 = s.1 := ⟨_, rfl⟩
  rw [← hV, ← hS]
  have HV := Lib.hid hV; have HS := Lib.hid hS; have H := Lib.hid h; have HN := Lib.hid hn; have HM := Lib.hid hm
  clear hV hS h hn hm
  go_enter Try.func61, Try.ntmps61
  go_wp2_with fail
  go_loopw [7] (fun i wr => ∃ k : Nat, k ≤ n ∧ i = .int .i64 k ∧ wr = w ∧ Hid (k ≤ L.idxOf s)) (fun i _ => n - (intOf i).toNat)
  case atStart => exact ⟨0, by omega, rfl, rfl, Lib.hid (Nat.zero_le _)⟩
  case round =>
    obtain ⟨k, hk, rfl, rfl, HK⟩ := hrel
    have hlt : k < n := by
      have := List.idxOf_lt_length_iff.2 HM.out
      have := HN.out
      have := HK.out
      omega
    have hkn : (k : Int) < (n : Int) := by omega
    have hk0 : (0 : Int) ≤ (k : Int) := by omega
    obtain ⟨g, rfl, hg, hc⟩ := H.out (by have := HN.out; omega)
    obtain ⟨t, ht⟩ : ∃ t, L[k]? = some t := ⟨_, List.getElem?_eq_getElem (by have := HN.out; omega)⟩
    obtain ⟨c0, c1⟩ := hc k t ht
    obtain ⟨T1, hT1⟩ : ∃ T1, T1 = t.1 := ⟨_, rfl⟩
    obtain ⟨V1, hV1⟩ : ∃ V1, V1 = vOf t := ⟨_, rfl⟩
    rw [← hT1] at c0
    rw [← hV1] at c1
    have HT := Lib.hid ht; have HT1 := Lib.hid hT1; have HV1 := Lib.hid hV1
    clear ht hT1 hV1 hc
    have hno : ¬ (T1 = S1 ∧ V1 = V) → k + 1 ≤ L.idxOf s := by
      intro hne
      have := HK.out
      rcases Nat.lt_or_ge k (L.idxOf s) with h2 | h2
      · exact h2
      · have he : L.idxOf s = k := by omega
        have h3 := Pg.at_idxOf HM.out
        rw [he, HT.out] at h3
        injection h3 with h3
        exact absurd ⟨by rw [HT1.out, HS.out, h3], by rw [HV1.out, HV.out, h3]⟩ hne
    have HNO := Lib.hid hno
    clear hno
    by_cases q1 : T1 = S1
    · have p1 : ((T1 : Int) == (S1 : Int)) = true := by simp [q1]
      by_cases q2 : V1 = V
      · have p2 : ((V1 : Int) == (V : Int)) = true := by simp [q2]
        have HF : Hid (L.idxOf s = k) := Lib.hid (by
          have : t = s := vOf_inj (by rw [← HT1.out, ← HS.out, q1]) (by rw [← HV1.out, ← HV.out, q2])
          have h1 := HK.out
          rcases Nat.lt_or_ge k (L.idxOf s) with h2 | h2
          · have h3 := List.not_of_lt_findIdx (p := (· == s)) (xs := L) h2
            have h4 := (List.getElem?_eq_some_iff.1 HT.out).2
            simp [h4, this] at h3
          · omega)
        clear q1 q2
        go_wp2_with fail
        go_ret
        exact ⟨by rw [HF.out]; rfl, rfl⟩
      · have p2 : ((V1 : Int) == (V : Int)) = false := by simp; omega
        have HQ : Hid (¬ (T1 = S1 ∧ V1 = V)) := Lib.hid fun h => q2 h.2
        clear q1 q2
        go_wp2_with fail
        go_roundw
        case rel => exact ⟨k + 1, by omega, by go_num, by trivial, Lib.hid (HNO.out HQ.out)⟩
        case measure => simp [intOf] <;> omega
    · have p1 : ((T1 : Int) == (S1 : Int)) = false := by simp; omega
      have HQ : Hid (¬ (T1 = S1 ∧ V1 = V)) := Lib.hid fun h => q1 h.1
      clear q1
      go_wp2_with fail
      go_roundw
      case rel => exact ⟨k + 1, by omega, by go_num, by trivial, Lib.hid (HNO.out HQ.out)⟩
      case measure => simp [intOf] <;> omega
end Go.Proofs.Ytblfagmoilhdnaa

/- Closed facts on the document's tables. -/
set_option linter.unusedVariables false
set_option linter.unusedSimpArgs false
namespace Go.Proofs.Ytblfagmoilhdnaa
open Go.RowKit
def rz (l v : Int) : List Value := .int .i64 l :: .int .u64 v :: zeros 512
theorem infoR : (Try.prog.info? 120).map (fun i => (i.zero, i.size, i.bytes)) = some (some (.agg (rz 0 0).toArray), 514, 4112) := by kernel_rfl
theorem infoRZ : (Try.prog.info? 120).map (fun i => (i.zero, i.size)) = some (some (.agg (rz 0 0).toArray), 514) := by
  have h := infoR
  cases hi : Try.prog.info? 120 with
  | none => rw [hi] at h; cases h
  | some i =>
    rw [hi] at h
    simp only [Option.map_some, Option.some.injEq, Prod.mk.injEq] at h ⊢
    exact ⟨h.1, h.2.1⟩
theorem builtR (l v : Int) (w : World) : (Instr.buildSlice 117 1 #[(0, .agg (rz l v).toArray)]).run Try.prog w = .ok (.slice (some ⟨w.heap.size, 0, none⟩) 1 1) (w.alloc (.cells (rz l v).toArray 120)) := by kernel_rfl
theorem rz_set (l v : Int) : ((rz 0 0).set 0 (.int .i64 l)).set 1 (.int .u64 v) = rz l v := rfl
theorem rz_set0 : (rz 0 0).set 0 (.int .i64 0) = rz 0 0 := rfl
theorem rz_len (l v : Int) : (rz l v).length = 514 := by unfold rz zeros; rw [List.length_cons, List.length_cons, List.length_replicate]
theorem rz_one (l v : Int) : ∀ u ∈ rz l v, u.oneCell' = true := by
  intro u hu
  rcases List.mem_cons.1 hu with rfl | hu
  · rfl
  rcases List.mem_cons.1 hu with rfl | hu
  · rfl
  · exact oneCell_zeros 512 u hu
end Go.Proofs.Ytblfagmoilhdnaa

/- Words for a reader in memory, and the walks of the reader's next, At, Left, Err, End, and of NewReader. -/
set_option linter.unusedVariables false
set_option linter.unusedSimpArgs false
namespace Go.Proofs.Ytblfagmoilhdnaa
open Go.RowKit

theorem owns_chg {S : List Nat} {w w' : World} {base : Nat} {e : TypeId} {size n : Nat} {v : Value} {xs : List Value} (h : w.ownsRow base e size v n xs) (hc : Chg S w w') (hr : ∀ k, v.ownBlock = some k → k ∉ S) : w'.ownsRow base e size v n xs := by
  refine ⟨h.1, ?_⟩
  rcases h.2 with h2 | ⟨g, cap, cur, hv, hg, hh, r⟩
  · exact .inl h2
  · refine .inr ⟨g, cap, cur, hv, hg, ?_, r⟩
    rw [hc.block g (Blk.lt (cs := cur) hh) (hr g (by rw [hv]; rfl))]; exact hh
theorem Wr.chg {S : List Nat} {w w' : World} {g : Nat} {r : Option Nat} {s : Wd.W} (h : Wr w g r s) (hc : Chg S w w') (hg : g ∉ S) (hr : ∀ k, r = some k → k ∉ S) : Wr w' g r s := by
  obtain ⟨A, c, hrow, hown, hob, h2⟩ := h
  exact ⟨A, c, hc.row hrow hg, owns_chg hown hc (fun k hk => hr k (hob.symm.trans hk)), hob, h2⟩
/-- bytes that lie in a block of one's own: they stay as long as that block does -/
def IsR (w : World) (r : Option Nat) (A : Option Addr) (n c : Nat) (bs : List Nat) : Prop := ∀ w2 : World, (∀ k, r = some k → w2.heap[k]? = w.heap[k]?) → w.heap.size ≤ w2.heap.size → IsB' w2 A n c bs
theorem IsR.b {w : World} {r : Option Nat} {A : Option Addr} {n c : Nat} {bs : List Nat} (h : IsR w r A n c bs) : IsB' w A n c bs := h w (fun _ _ => rfl) (Nat.le_refl _)
theorem IsR.chg {S : List Nat} {w w' : World} {r : Option Nat} {A : Option Addr} {n c : Nat} {bs : List Nat} (h : IsR w r A n c bs) (hc : Chg S w w') (hr : ∀ k, r = some k → k ∉ S) (hlt : ∀ k, r = some k → k < w.heap.size) : IsR w' r A n c bs :=
  fun w2 h1 h2 => h w2 (fun k hk => (h1 k hk).trans (hc.block k (hlt k hk) (hr k hk))) (Nat.le_trans hc.size h2)
theorem own_lt {w : World} {base n c : Nat} {e : TypeId} {size : Nat} {A : Option Addr} {xs : List Value} (h : w.ownsRow base e size (.slice A n c) n xs) : ∀ k, (Value.slice A n c).ownBlock = some k → k < w.heap.size := by
  rcases h.2 with ⟨h, _⟩ | ⟨g', cap, cur, hv, hg, hh, _⟩
  · injection h with hA _ _
    subst hA
    intro k hk
    cases hk
  · intro k hk
    rw [hv] at hk
    injection hk with hk
    exact hk ▸ (Blk.lt (cs := cur) hh)
theorem own_isR {w : World} {n c : Nat} {A : Option Addr} {bs : List Nat} (hown : w.ownsRow 0 5 1 (.slice A n c) n (bs.map u8)) (hbs : ∀ b ∈ bs, b < 256) : IsR w (Value.slice A n c).ownBlock A n c bs := by
  intro w2 h1 h2
  have hown2 : w2.ownsRow 0 5 1 (.slice A n c) n (bs.map u8) := by
    refine ⟨hown.1, ?_⟩
    rcases hown.2 with h3 | ⟨g, cap, cur, hv, hg, hh, r⟩
    · exact .inl h3
    · refine .inr ⟨g, cap, cur, hv, hg, ?_, r⟩
      rw [h1 g (by rw [hv]; rfl)]; exact hh
  refine ⟨⟨Reads.of_own hown2, hbs, ?_⟩, ?_⟩
  · rcases hown.2 with ⟨h, h0⟩ | ⟨g', cap, cur, hv, _, _, hnc, hcm, _⟩
    · omega
    · unfold maxLen at hcm
      omega
  · intro hA
    rcases hown.2 with ⟨h, _⟩ | ⟨g', cap, cur, hv, _⟩
    · injection h
    · rw [hA] at hv; cases hv
theorem next_part {w : World} {A : Option Addr} {xs : List Nat} {n c f k : Nat} (hB : IsB w w.heap.size A n xs) (hcn : n ≤ c) (hfl : f + k ≤ n) :
    IsB w w.heap.size (if c = f then A else A.map (·.add f)) k ((xs.drop f).take k) := by
  have hr : Reads w w.heap.size 1 (if c = f then A else A.map (·.add (f * 1))) (n - f) ((xs.map u8).drop (f * 1)) := hB.1.cut (by omega) hcn
  have := hB.2.2
  rw [Nat.mul_one] at hr
  refine ⟨⟨by have := hB.len; simp; omega, fun h => ?_⟩, fun b hb => hB.2.1 b (List.mem_of_mem_drop (List.mem_of_mem_take hb)), by omega⟩
  obtain ⟨ad, h1, h2, h3⟩ := hr.2 (by omega)
  refine ⟨ad, h1, h2, fun i u hu => h3 i u ?_⟩
  simp only [List.map_take, List.map_drop] at hu
  rw [List.getElem?_take] at hu
  split at hu
  · exact hu
  · cases hu

end Go.Proofs.Ytblfagmoilhdnaa

/- The walk of the document's list of tables. -/
set_option linter.unusedVariables false
set_option linter.unusedSimpArgs false
namespace Go.Proofs.Ytblfagmoilhdnaa
open Go.RowKit
theorem and_b2 (a : Nat) (h : a < 18446744073709551616) : a &&& (18446744073709551615 - 2097151) = a / 2097152 * 2097152 := by
  apply Nat.eq_of_testBit_eq
  intro i
  rw [Nat.testBit_and, show (18446744073709551615 - 2097151 : Nat) = 2 ^ 21 * (2 ^ 43 - 1) by decide, show a / 2097152 * 2097152 = 2 ^ 21 * (a / 2 ^ 21) by omega, Nat.testBit_two_pow_mul, Nat.testBit_two_pow_mul, Nat.testBit_two_pow_sub_one, Nat.testBit_div_two_pow]
  by_cases h1 : 21 ≤ i
  · rw [show i - 21 + 21 = i by omega]
    by_cases h2 : i - 21 < 43
    · simp [h1, h2]
    · rw [Nat.testBit_lt_two_pow (x := a) (i := i) (Nat.lt_of_lt_of_le h (by rw [show (18446744073709551616 : Nat) = 2 ^ 64 by decide]; exact Nat.pow_le_pow_right (by omega) (by omega)))]
      simp
  · simp [h1]
theorem and_b1 (a : Nat) (h : a < 18446744073709551616) : a &&& (18446744073709551615 - 1073741823) = a / 1073741824 * 1073741824 := by
  apply Nat.eq_of_testBit_eq
  intro i
  rw [Nat.testBit_and, show (18446744073709551615 - 1073741823 : Nat) = 2 ^ 30 * (2 ^ 34 - 1) by decide, show a / 1073741824 * 1073741824 = 2 ^ 30 * (a / 2 ^ 30) by omega, Nat.testBit_two_pow_mul, Nat.testBit_two_pow_mul, Nat.testBit_two_pow_sub_one, Nat.testBit_div_two_pow]
  by_cases h1 : 30 ≤ i
  · rw [show i - 30 + 30 = i by omega]
    by_cases h2 : i - 30 < 34
    · simp [h1, h2]
    · rw [Nat.testBit_lt_two_pow (x := a) (i := i) (Nat.lt_of_lt_of_le h (by rw [show (18446744073709551616 : Nat) = 2 ^ 64 by decide]; exact Nat.pow_le_pow_right (by omega) (by omega)))]
      simp
  · simp [h1]
theorem andn_b1 (a : Nat) (h : a < 18446744073709551616) : bits .andNot .u64 (a : Int) 1073741823 = ((a / 1073741824 * 1073741824 : Nat) : Int) := by
  rw [← and_b1 a h]; exact u64_andNot_nat a 1073741823 h (by decide)
theorem andn_b2 (a : Nat) (h : a < 18446744073709551616) : bits .andNot .u64 (a : Int) 2097151 = ((a / 2097152 * 2097152 : Nat) : Int) := by
  rw [← and_b2 a h]; exact u64_andNot_nat a 2097151 h (by decide)
def zt (L : List Pg.Lab) : List (Pg.Lab × List Nat) := L.map fun t => (t, Pg.zero512)
theorem zt_len (L : List Pg.Lab) : (zt L).length = L.length := List.length_map _
theorem zt_tab (L : List Pg.Lab) : RTab (zt L) := by
  intro t ht
  obtain ⟨l, _, rfl⟩ := List.mem_map.1 ht
  exact List.length_replicate
theorem zt_fst (L : List Pg.Lab) : (zt L).map (·.1) = L := by unfold zt; rw [List.map_map]; exact List.map_id L
theorem zt_snd (L : List Pg.Lab) : (zt L).map (·.2) = List.replicate L.length Pg.zero512 := by
  unfold zt
  rw [List.map_map]
  exact List.map_const' ..
theorem rz_cell (s : Pg.Lab) : rcell (s, Pg.zero512) = rz (s.1 : Nat) (vOf s : Nat) := by
  unfold rcell rz zeros Pg.zero512
  rw [List.map_replicate]
theorem zt_snoc (L : List Pg.Lab) (s : Pg.Lab) : rcells (zt (L ++ [s])) = rcells (zt L) ++ rz (s.1 : Nat) (vOf s : Nat) := by
  unfold zt
  rw [List.map_append, rcells_app, ← rz_cell]
  simp [rcells]
/-- the tables so far -/
def TS (w wx : World) (A : Option Addr) (ln c : Nat) (L : List Pg.Lab) : Prop := wx.ownsRow w.heap.size 120 514 (.slice A ln c) ln (rcells (zt L)) ∧ ln = L.length ∧ Below w.heap.size w wx
theorem TS.own {w wx : World} {A : Option Addr} {ln c : Nat} {L : List Pg.Lab} (h : TS w wx A ln c L) : OwnR wx w.heap.size A c (zt L) := by
  refine ⟨?_, zt_tab L⟩
  rw [zt_len, ← h.2.1]
  exact h.1
theorem TS.has {w wx : World} {A : Option Addr} {ln c : Nat} {L : List Pg.Lab} (h : TS w wx A ln c L) : HasR wx A L := by
  have := h.own.has
  rwa [zt_fst] at this
theorem TS.below {w wx wy : World} {A : Option Addr} {ln c : Nat} {L : List Pg.Lab} (h : TS w wx A ln c L) (hb : Below wx.heap.size wx wy) : TS w wy A ln c L :=
  ⟨owns_chg h.1 (Chg.of_below (S := []) hb) (by simp), h.2.1, h.2.2.trans (hb.mono h.2.2.size)⟩
theorem TS.drewN {w wx : World} {A : Option Addr} {ln c : Nat} {L : List Pg.Lab} (h : TS w wx A ln c L) (m : Nat) : TS w (wx.drewN m) A ln c L := h.below (below_drewN (Below.refl _ _) m)
theorem TS.app {w wx w1 : World} {A A1 : Option Addr} {ln c c1 : Nat} {L : List Pg.Lab} {s : Pg.Lab} (h : TS w wx A ln c L) (o : Obj) (hs : s ∉ L)
    (ho : w1.ownsRow w.heap.size 120 514 (.slice A1 (ln + 1) c1) (ln + 1) (rcells (zt L) ++ rz (s.1 : Nat) (vOf s : Nat))) (hg : (wx.alloc o).grownBy w1 (Value.slice A ln c).ownBlock) : TS w w1 A1 (ln + 1) c1 (Pg.ens L s) := by
  rw [Pg.ens_out hs]
  refine ⟨by rw [zt_snoc]; exact ho, by rw [List.length_append, h.2.1]; rfl, ?_⟩
  exact (h.2.2.alloc h.2.2.size o).grown hg (by have := h.2.2.size; simp; omega) (fun k hk => (h.1.lt k hk).1)
theorem TS.same {w wx : World} {A : Option Addr} {ln c : Nat} {L : List Pg.Lab} {s : Pg.Lab} (h : TS w wx A ln c L) (hs : s ∈ L) : TS w wx A ln c (Pg.ens L s) := by rw [Pg.ens_in hs]; exact h
theorem HasR.below {w w' : World} {A : Option Addr} {L : List Pg.Lab} (h : HasR w A L) (hb : Below w.heap.size w w') : HasR w' A L := by
  intro h0
  obtain ⟨g, rfl, h1, h2⟩ := h h0
  refine ⟨g, rfl, Nat.lt_of_lt_of_le h1 hb.size, fun i t ht => ?_⟩
  obtain ⟨h3, h4⟩ := h2 i t ht
  exact ⟨(hb.cell (p := ⟨g, i * 514, none⟩) h1).trans h3, (hb.cell (p := ⟨g, i * 514 + 1, none⟩) h1).trans h4⟩
/-- the list as it is made -/
theorem cap_next {s : Bool × Nat} {ss : List (Bool × Nat)} {l : List Pg.Lab} (h : (Pg.capF ss l).length ≤ 1024) : Pg.capF (ss ++ [s]) l = Pg.tabM (Pg.capF ss l) s.1 s.2 := by
  rw [Pg.capF_app]
  show (if 1024 < (Pg.capF ss l).length then _ else Pg.capF [] (Pg.tabM (Pg.capF ss l) s.1 s.2)) = _
  rw [if_neg (by omega)]
  rfl
theorem cap_end {ss tt : List (Bool × Nat)} {l : List Pg.Lab} (h : 1024 < (Pg.capF ss l).length) : Pg.capF (ss ++ tt) l = Pg.capF ss l := by
  rw [Pg.capF_app, Pg.capF_full h]
theorem steps_split (b : Bool) (m j t : Nat) (h : j ≤ t) : Pg.stepsR b m t = Pg.stepsR b m j ++ Pg.stepsR b (m + j) (t - j) := by
  unfold Pg.stepsR
  rw [← List.map_append, List.range'_append_1, show j + (t - j) = t by omega]
end Go.Proofs.Ytblfagmoilhdnaa

/- The walk of the document's list of tables. -/
set_option linter.unusedVariables false
set_option linter.unusedSimpArgs false
namespace Go.Proofs.Ytblfagmoilhdnaa
open Go.RowKit
theorem hold_one {wq w1 w2 : World} {g o : Nat} {V : Value} (h : w1.cell? ⟨g, o, none⟩ = some V ∧ Below wq.heap.size wq w1) (hb : Below w1.heap.size w1 w2) (hg : g < wq.heap.size) : w2.cell? ⟨g, o, none⟩ = some V ∧ Below wq.heap.size wq w2 :=
  ⟨(hb.cell (p := ⟨g, o, none⟩) (Nat.lt_of_lt_of_le hg h.2.size)).trans h.1, h.2.trans (hb.mono h.2.size)⟩
theorem hold_o {wq w1 : World} {g o : Nat} {V : Value} (h : w1.cell? ⟨g, o, none⟩ = some V ∧ Below wq.heap.size wq w1) : Below wq.heap.size wq w1 := h.2
def mes (E : Nat) (v : Value) : Nat := E + 2097152 - (intOf v).toNat
theorem mes_lt {E V : Nat} (h : V < E) : mes E (.int .u64 ((V : Int) + 2097152)) < mes E (.int .u64 (V : Int)) := by
  have e1 : (intOf (.int .u64 ((V : Int) + 2097152))).toNat = V + 2097152 := by
    show ((V : Int) + 2097152).toNat = _
    omega
  have e2 : (intOf (.int .u64 (V : Int))).toNat = V := by
    show ((V : Int)).toNat = _
    omega
  unfold mes
  rw [e1, e2]
  omega
theorem mes_lt' {E V : Nat} (h : V < E) : mes E (.int .u64 ((V + 2097152 : Nat) : Int)) < mes E (.int .u64 (V : Int)) := by
  rw [Int.natCast_add]
  exact mes_lt h
set_option maxRecDepth 100000 in
set_option maxHeartbeats 4000000 in
theorem tables_any (A : Option Addr) (n c : Nat) (rows : List Pg.Lf) (w : World) (hr : IsL w w.heap.size A n rows) (hok : Pg.right 0 rows = 0) :
    Calls Try.prog 59 #[.slice A n c] w fun e w' => ∃ A' c' ln, e = .returned (.slice A' ln c') ∧ TS w w' A' ln c' (Pg.refT rows) := by
  obtain ⟨b, off, HF⟩ := hr.form
  have HL := Lib.hid hr.2.2.1
  have HIN := Lib.hid hr.2.1
  have HOK := Lib.hid (Pg.right_all hok)
  have hn := hr.2.2.2
  clear hr hok
  obtain ⟨i0, hi0, hz1, hz2, hz3⟩ := info_parts infoR
  obtain ⟨hz, hsz⟩ := zero_of_info infoRZ
  have hbu := builtR
  have hset0 := rz_set0
  have hset := rz_set
  obtain ⟨Z, hZ⟩ : ∃ Z, Z = rz 0 0 := ⟨_, rfl⟩
  rw [← hZ] at hz hz1 hset0
  have hset' : ∀ l v : Int, (Z.set 0 (.int .i64 l)).set 1 (.int .u64 v) = rz l v := by rw [hZ]; exact hset
  have hzl : Z.length = 514 := by rw [hZ, rz_len]
  have hzn : ¬ (Z = []) := fun h => by rw [h] at hzl; cases hzl
  have HBU0 : Hid (∀ wx : World, (Instr.buildSlice 117 1 #[(0, .agg (Z.set 0 (.int .i64 0)).toArray)]).run Try.prog wx = .ok (.slice (some ⟨wx.heap.size, 0, none⟩) 1 1) (wx.alloc (.cells Z.toArray 120))) := Lib.hid fun wx => by rw [hset0, hZ]; exact hbu 0 0 wx
  have HBU : Hid (∀ (l v : Int) (wx : World), (Instr.buildSlice 117 1 #[(0, .agg ((Z.set 0 (.int .i64 l)).set 1 (.int .u64 v)).toArray)]).run Try.prog wx = .ok (.slice (some ⟨wx.heap.size, 0, none⟩) 1 1) (wx.alloc (.cells (rz l v).toArray 120))) := Lib.hid fun l v wx => by rw [hset']; exact hbu l v wx
  have HRD : Hid (∀ (l v : Int) (wx : World), Reads (wx.alloc (.cells (rz l v).toArray 120)) (wx.alloc (.cells (rz l v).toArray 120)).heap.size 514 (some ⟨wx.heap.size, 0, none⟩) 1 (rz l v)) := Lib.hid (by
    intro l v wx
    have h := (Row.new wx 120 (rz l v))
    refine ⟨by rw [rz_len], fun _ => ⟨_, rfl, h.lt, fun j u hu => ?_⟩⟩
    rw [Addr.add_mid, Nat.zero_add, h.cell, hu])
  have HTS0 : Hid (TS w (w.alloc (.cells Z.toArray 120)) (some ⟨w.heap.size, 0, none⟩) 1 1 [(0, 0)]) := Lib.hid (by
    have h := Row.new w 120 Z
    have hc : rcells (zt [(0, 0)]) = Z := by
      rw [hZ]
      show rcell ((0, 0), Pg.zero512) ++ [] = _
      rw [rz_cell, List.append_nil]
      rfl
    refine ⟨⟨by rw [hc, hzl], .inr ⟨w.heap.size, 1, Z.toArray, rfl, Nat.le_refl _, h, Nat.le_refl _, by decide, by simp [hzl], ?_⟩⟩, rfl, (Below.refl _ _).alloc (Nat.le_refl _) _⟩
    rw [hc]
    show List.take (1 * 514) Z = Z
    rw [List.take_of_length_le (by omega)])
  have HI := Lib.hid hi0; have HZ1 := Lib.hid hz1; have HZ2 := Lib.hid hz2; have HZ3 := Lib.hid hz3; have HZL := Lib.hid hzl
  clear hbu hset0 hset hset' hi0 hz1 hz2 hz3 hZ hsz
  go_enter Try.func59, Try.ntmps59
  go_wp2_with (refine wpList_built (V := .agg (Z.set 0 (.int .i64 0)).toArray) (by rfl) 117 (.tmp 7) rfl (by rfl) (HBU0.out _) ?_)
  go_loopw [4, 3] (fun i l wr => ∃ (k : Nat) (A3 : Option Addr) (ln c3 : Nat), k ≤ n ∧ i = .int .i64 k ∧ l = .slice A3 ln c3 ∧ Hid (TS w wr A3 ln c3 (Pg.capF (Pg.stepsOf (rows.take k)) [(0, 0)])) ∧ ln ≤ 1026) (fun i _ _ => n - (intOf i).toNat)
  case atStart => exact ⟨0, _, 1, 1, by omega, rfl, rfl, HTS0, by omega⟩
  case round =>
    clear HTS0
    obtain ⟨k, A3, ln, c3, hk, rfl, rfl, HT, hln⟩ := hrel
    by_cases hkn : k < n
    · obtain ⟨hA, hbB, hc⟩ := HF.out (by omega)
      subst hA
      obtain ⟨r, hrk⟩ : ∃ r, rows[k]? = some r := ⟨_, List.getElem?_eq_getElem (by have := HL.out; omega)⟩
      have hIn := HIN.out r (List.mem_of_getElem? hrk)
      have hOk := HOK.out r (List.mem_of_getElem? hrk)
      have htk : rows.take (k + 1) = rows.take k ++ [r] := by rw [List.take_add_one, hrk]; rfl
      have HBL := HT.out.2.2
      have c0 := (HBL.cell (p := ⟨b, off + k * 6, none⟩) hbB).trans (hc k r hrk 0 _ rfl)
      have c2 := (HBL.cell (p := ⟨b, off + k * 6 + 2, none⟩) hbB).trans (hc k r hrk 2 _ rfl)
      have HC3 : Hid (∀ wx : World, Below w.heap.size w wx → wx.cell? ⟨b, off + k * 6 + 3, none⟩ = some (.bool r.b)) := Lib.hid fun wx hb => (hb.cell (p := ⟨b, off + k * 6 + 3, none⟩) hbB).trans (hc k r hrk 3 _ rfl)
      have hkk : (k : Int) < (n : Int) := by omega
      have hk0 : (0 : Int) ≤ (k : Int) := by omega
      obtain ⟨N, hN⟩ : ∃ N : Nat, r.n = (N : Int) := ⟨r.n.toNat, by have := hOk.n1; omega⟩
      have hNt : r.n.toNat = N := by omega
      have hvl := hOk.vl
      have hn1 := hOk.n1
      rw [hNt] at hvl
      rw [hN] at c2 hn1
      obtain ⟨v, hv⟩ : ∃ v, v = r.v := ⟨_, rfl⟩
      rw [← hv] at c0 hvl
      obtain ⟨E, hE⟩ : ∃ E, E = v + N * 4096 := ⟨_, rfl⟩
      obtain ⟨M0, hM0⟩ : ∃ M0, M0 = v / 2097152 := ⟨_, rfl⟩
      have w1 : IntKind.u64.wrap (N : Int) = (N : Int) := by rw [IntKind.wrap_u64]; omega
      have w2 : IntKind.u64.wrap ((N : Int) * 4096) = (N : Int) * 4096 := by rw [IntKind.wrap_u64]; omega
      have w3 : IntKind.u64.wrap ((v : Int) + (N : Int) * 4096) = (E : Int) := by rw [IntKind.wrap_u64]; omega
      have w4 : bits .andNot .u64 (v : Int) 2097151 = ((M0 * 2097152 : Nat) : Int) := by rw [hM0]; exact andn_b2 v (by omega)
      have w5 : IntKind.u64.wrap 2097151 = 2097151 := by decide
      have w6 : IntKind.u64.wrap 1073741823 = 1073741823 := by decide
      obtain ⟨V0, hV0⟩ : ∃ V0, V0 = M0 * 2097152 := ⟨_, rfl⟩
      rw [← hV0] at w4
      have HST : Hid (r.steps = Pg.stepsR r.b M0 ((E + 2097151) / 2097152 - M0)) := Lib.hid (by unfold Pg.Lf.steps Pg.Lf.win; rw [hM0, hE, hv, hNt])
      obtain ⟨T, hT⟩ : ∃ T, T = (E + 2097151) / 2097152 - M0 := ⟨_, rfl⟩
      rw [← hT] at HST
      obtain ⟨L0, hL0⟩ : ∃ L0, L0 = Pg.capF (Pg.stepsOf (rows.take k)) [(0, 0)] := ⟨_, rfl⟩
      rw [← hL0] at HT
      have HNX : Hid (Pg.capF (Pg.stepsOf (rows.take (k + 1))) [(0, 0)] = Pg.capF (Pg.stepsR r.b M0 T) L0) := Lib.hid (by
        rw [htk]
        unfold Pg.stepsOf
        rw [List.flatMap_append, Pg.capF_app, List.flatMap_cons, List.flatMap_nil, List.append_nil, HST.out, hL0]
        rfl)
      have HTE : Hid (∀ j, j ≤ T → ((M0 + j) * 2097152 < E ↔ j < T)) := Lib.hid fun j hj => by omega
      have HTB : Hid (E ≤ 549755813888 ∧ M0 * 2097152 ≤ E) := Lib.hid ⟨by omega, by omega⟩
      have HV0 := Lib.hid hV0
      obtain ⟨bg, hbg⟩ : ∃ bg, bg = r.b := ⟨_, rfl⟩
      rw [← hbg] at HNX HC3
      clear hrk hIn hOk htk HBL hc hN hNt hvl hn1 hv hE hM0 hT hL0 HST hV0 hbg HF
      go_wp2_with fail
      go_quiet (fail)
      have HT1 := Lib.hid (HT.out.drewN nq)
      obtain ⟨wq, hwq⟩ : ∃ wq, wq = wr.drewN nq := ⟨_, rfl⟩
      have d0 : wq.cell? ⟨b, off + k * 6, none⟩ = some (.int .u64 (v : Nat)) := by rw [hwq]; exact c0
      rw [← hwq] at HT1 ⊢
      clear c0 c2 w1 w2 w3 hwq HT
      go_upto_region 6 with fail
      have hbq : b < wq.heap.size := by have := HT1.out.2.2.size; omega
      first | go_region_held3 (fun w' => w'.cell? ⟨b, off + k * 6, none⟩ = some (.int .u64 (v : Nat)) ∧ Below wq.heap.size wq w')
        (first | exact ⟨d0, (Below.refl _ _).drew⟩ | (refine hold_one (wq := wq) (g := b) (o := off + k * 6) (V := .int .u64 (v : Nat)) ?_ hb' hbq; assumption))
        (first | (go_at_call 60; refine (reach2_any _).mono ?_; rintro e w' ⟨rfl, hb'⟩)) | fail
      have hbz : Below wq.heap.size wq w' := by refine hold_o (g := b) (o := off + k * 6) (V := .int .u64 (v : Nat)) ?_; assumption
      have HT2 := Lib.hid (HT1.out.below hbz)
      clear hbz hb' d0 hbq w4
      go_wp2_with fail
      go_loopw [6, 3] (fun x l wr => ∃ (j : Nat) (V2 : Nat) (A3 : Option Addr) (ln c3 : Nat), x = .int .u64 (V2 : Nat) ∧ l = .slice A3 ln c3 ∧ Hid (V2 = (M0 + j) * 2097152) ∧ Hid (j ≤ T) ∧ Hid (TS w wr A3 ln c3 (Pg.capF (Pg.stepsR bg M0 j) L0)) ∧ ln ≤ 1026) (fun x _ _ => mes E x)
      case atStart => exact ⟨0, V0, A3, ln, c3, rfl, rfl, Lib.hid HV0.out, Lib.hid (Nat.zero_le _), HT2, hln⟩
      case round =>
        clear HT1 HT2 hln
        obtain ⟨j, V2, A3, ln, c3, rfl, rfl, HV2, HJ, HT, hln⟩ := hrel
        have hv2 : V2 ≤ 549755813888 + 2097152 := by
          have h1 := HV2.out
          have h2 := HJ.out
          have h3 := HTB.out
          rcases Nat.eq_zero_or_pos j with h0 | h0
          · rw [h0, Nat.add_zero] at h1; omega
          · have h4 := (HTE.out (j - 1) (by omega)).2 (by omega)
            have h5 : (M0 + j) * 2097152 = (M0 + (j - 1)) * 2097152 + 2097152 := by rw [← Nat.succ_mul]; congr 1; omega
            omega
        by_cases hlt : V2 < E
        · by_cases hmax : ln ≤ 1024
          · have f1 : decide ((V2 : Int) < (E : Int)) = true := decide_eq_true (by omega)
            have f2 : decide ((ln : Int) ≤ 1024) = true := decide_eq_true (by omega)
            have HNJ : Hid (j < T) := Lib.hid ((HTE.out j HJ.out).1 (by rw [← HV2.out]; exact hlt))
            obtain ⟨L, hLd⟩ : ∃ L, L = Pg.capF (Pg.stepsR bg M0 j) L0 := ⟨_, rfl⟩
            rw [← hLd] at HT
            obtain ⟨M, hM⟩ : ∃ M, M = M0 + j := ⟨_, rfl⟩
            rw [← hM] at HV2
            have HLN : Hid (Pg.capF (Pg.stepsR bg M0 (j + 1)) L0 = Pg.tabM L bg M) := Lib.hid (by
              rw [Pg.stepsR_snoc, cap_next (by rw [← hLd, ← HT.out.2.1]; exact hmax), hLd, hM])
            have HM := Lib.hid hM
            obtain ⟨W1, hW1⟩ : ∃ W1, W1 = V2 / 1073741824 * 1073741824 := ⟨_, rfl⟩
            have w7 : bits .andNot .u64 (V2 : Int) 1073741823 = (W1 : Int) := by rw [hW1]; exact andn_b1 V2 (by omega)
            have w8 : IntKind.u64.wrap ((V2 : Int) + 2097152) = ((V2 + 2097152 : Nat) : Int) := by rw [IntKind.wrap_u64]; omega
            have HW1 : Hid (vOf (1, M / 512) = W1) := Lib.hid (by
              show M / 512 * (if 1 = 1 then 1073741824 else _) = W1
              rw [if_pos rfl, hW1, HV2.out]
              omega)
            have HW2 : Hid (vOf (2, M) = V2) := Lib.hid (by
              show M * (if 2 = 1 then _ else if 2 = 2 then 2097152 else _) = V2
              rw [if_neg (by decide), if_pos rfl, HV2.out])
            clear hLd hM hW1
            go_upto_region 9 with fail
            have HLT := Lib.hid hlt
            clear hlt f1 f2
            obtain ⟨B1, hB1⟩ : ∃ B1, B1 = decide ((1, M / 512) ∈ L) := ⟨_, rfl⟩
            have HHAS : Hid (∀ wx, HasR wx A3 L → Calls Try.prog 79 #[.slice A3 ln c3, .int .i64 1, .int .u64 (W1 : Nat)] wx fun e w' => e = .returned (.bool B1) ∧ w' = wx) := Lib.hid fun wx hx => by
              have h := has_any A3 ln c3 L (1, M / 512) wx hx HT.out.2.1 (by omega)
              rw [HW1.out] at h
              rw [hB1]
              exact h
            have HHR := Lib.hid HT.out.has
            have HB1 := Lib.hid hB1
            clear hB1
            go_upto_if 53 with (first | (go_at_call 60; refine (reach1_any _).mono ?_; rintro e wa ⟨rfl, hba⟩; have HBA := Lib.hid hba; clear hba) | (go_at_call 79; refine (HHAS.out _ (HHR.out.below HBA.out)).mono ?_; rintro e wb ⟨rfl, rfl⟩))
            have HTA := Lib.hid (HT.out.below HBA.out)
            clear HT HBA HHAS HHR
            go_cut [3] (fun x wx => ∃ (A4 : Option Addr) (ln4 c4 : Nat), x = .slice A4 ln4 c4 ∧ Hid (TS w wx A4 ln4 c4 (Pg.ens L (1, M / 512))))
            case first =>
              cases hB : B1 with
              | true =>
                have HMM : Hid ((1, M / 512) ∈ L) := Lib.hid (by have := HB1.out; rw [hB] at this; exact of_decide_eq_true this.symm)
                go_wp2_with fail
                go_meet
                case rel => exact ⟨A3, ln, c3, rfl, Lib.hid (HTA.out.same HMM.out)⟩
              | false =>
                have HMM : Hid ((1, M / 512) ∉ L) := Lib.hid (by have := HB1.out; rw [hB] at this; exact of_decide_eq_false this.symm)
                go_wp2_with (first | (go_at_call 60; refine (reach1_any _).mono ?_; rintro e wa ⟨rfl, hba⟩; have HBA2 := Lib.hid hba; clear hba) | (refine wpList_built (V := .agg ((Z.set 0 (.int .i64 1)).set 1 (.int .u64 (W1 : Nat))).toArray) (by rfl) 117 (.tmp 59) rfl (by rfl) (HBU.out _ _ _) ?_) | (at_builtin; refine wpList_append_sl _ (by rfl) (.tmp 54) (.tmp 60) 117 rfl w.heap.size 120 i0 _ 514 4112 Try.underlying117 HI.out HZ1.out HZ2.out HZ3.out (by show Z.toArray.size = 514; simpa using hzl) (by omega) (.slice A3 ln c3) ln (rcells (zt L)) rfl ((HTA.out.below HBA2.out).1.alloc _) _ (some ⟨_, 0, none⟩) 1 1 (rz 1 (W1 : Nat)) rfl (HRD.out _ _ _) (rz_one _ _) (by unfold maxLen; omega) (by omega) (by have := ((HTA.out.below HBA2.out)).2.2.size; simp; omega) ?_; intro A1 c1' w1 hown1 hrd1 hg1 hat1; have HOWN1 := Lib.hid hown1; have HG1 := Lib.hid hg1; clear hown1 hrd1 hg1 hat1))
                go_meet
                case rel => exact ⟨A1, ln + 1, c1', rfl, Lib.hid ((HTA.out.below HBA2.out).app (s := (1, M / 512)) _ HMM.out (by have := HOWN1.out; rw [HW1.out]; exact this) HG1.out)⟩
            case rest =>
              obtain ⟨A4, ln4, c4, rfl, HT4⟩ := hcut
              have HL4 : Hid (L.length ≤ 1024 ∧ (Pg.ens L (1, M / 512)).length ≤ L.length + 1) := Lib.hid ⟨by have := HTA.out.2.1; omega, (Pg.ens_len _ _).2⟩
              obtain ⟨L4, hL4⟩ : ∃ L4, L4 = Pg.ens L (1, M / 512) := ⟨_, rfl⟩
              rw [← hL4] at HT4 HL4
              have hln4 : ln4 ≤ 1025 := by have := HT4.out.2.1; have := HL4.out; omega
              have d3 := HC3.out wc HT4.out.2.2
              clear HTA HB1
              cases hbb : bg with
              | true =>
                rw [hbb] at d3
                have HTM : Hid (Pg.tabM L bg M = L4) := Lib.hid (by rw [hbb, hL4]; rfl)
                clear hL4
                go_wp2_with (first | (go_at_call 60; refine (reach2_any _).mono ?_; rintro e wa ⟨rfl, hba⟩; have HBA5 := Lib.hid hba; clear hba))
                go_roundw
                case rel =>
                  refine ⟨j + 1, V2 + 2097152, A4, ln4, c4, by go_num, rfl, Lib.hid ?_, Lib.hid HNJ.out, Lib.hid ?_, ?_⟩
                  · have h1 := HV2.out; have h2 := HM.out; omega
                  · rw [HLN.out, HTM.out]; exact (HT4.out).below HBA5.out
                  · have := (HT4.out).2.1; have := HL4.out; omega
                case measure => first | exact mes_lt HLT.out | exact mes_lt' HLT.out
              | false =>
                rw [hbb] at d3
                have HTM : Hid (Pg.tabM L bg M = Pg.ens L4 (2, M)) := Lib.hid (by rw [hbb, hL4]; rfl)
                clear hL4
                obtain ⟨B2, hB2⟩ : ∃ B2, B2 = decide ((2, M) ∈ L4) := ⟨_, rfl⟩
                have HHAS : Hid (∀ wx, HasR wx A4 L4 → Calls Try.prog 79 #[.slice A4 ln4 c4, .int .i64 2, .int .u64 (V2 : Nat)] wx fun e w' => e = .returned (.bool B2) ∧ w' = wx) := Lib.hid fun wx hx => by
                  have h := has_any A4 ln4 c4 L4 (2, M) wx hx HT4.out.2.1 (by omega)
                  rw [HW2.out] at h
                  rw [hB2]
                  exact h
                have HHR := Lib.hid HT4.out.has
                have HB2 := Lib.hid hB2
                clear hB2
                go_upto_if 73 with (first | (go_at_call 79; refine (HHAS.out _ HHR.out).mono ?_; rintro e wb ⟨rfl, rfl⟩))
                cases hB : B2 with
                | true =>
                  have HMM : Hid ((2, M) ∈ L4) := Lib.hid (by have := HB2.out; rw [hB] at this; exact of_decide_eq_true this.symm)
                  have HT5 := Lib.hid (HT4.out.same HMM.out)
                  go_wp2_with (first | (go_at_call 60; refine (reach2_any _).mono ?_; rintro e wa ⟨rfl, hba⟩; have HBA5 := Lib.hid hba; clear hba))
                  go_roundw
                  case rel =>
                    refine ⟨j + 1, V2 + 2097152, A4, ln4, c4, by go_num, rfl, Lib.hid ?_, Lib.hid HNJ.out, Lib.hid ?_, ?_⟩
                    · have h1 := HV2.out; have h2 := HM.out; omega
                    · rw [HLN.out, HTM.out]; exact (HT5.out).below HBA5.out
                    · have := (HT5.out).2.1; have := HL4.out; omega
                  case measure => first | exact mes_lt HLT.out | exact mes_lt' HLT.out
                | false =>
                  have HMM : Hid ((2, M) ∉ L4) := Lib.hid (by have := HB2.out; rw [hB] at this; exact of_decide_eq_false this.symm)
                  clear HHAS HHR
                  go_wp2_with (first | (go_at_call 60; refine (reach2_any _).mono ?_; rintro e wa ⟨rfl, hba⟩; have HBA5 := Lib.hid hba; clear hba) | (refine wpList_built (V := .agg ((Z.set 0 (.int .i64 2)).set 1 (.int .u64 (V2 : Nat))).toArray) (by rfl) 117 (.tmp 76) rfl (by rfl) (HBU.out _ _ _) ?_) | (at_builtin; refine wpList_append_sl _ (by rfl) (.tmp 74) (.tmp 77) 117 rfl w.heap.size 120 i0 _ 514 4112 Try.underlying117 HI.out HZ1.out HZ2.out HZ3.out (by show Z.toArray.size = 514; simpa using hzl) (by omega) (.slice A4 ln4 c4) ln4 (rcells (zt L4)) rfl (HT4.out.1.alloc _) _ (some ⟨_, 0, none⟩) 1 1 (rz 2 (V2 : Nat)) rfl (HRD.out _ _ _) (rz_one _ _) (by unfold maxLen; omega) (by omega) (by have := HT4.out.2.2.size; simp; omega) ?_; intro A1 c1' w1 hown1 hrd1 hg1 hat1; have HOWN1 := Lib.hid hown1; have HG1 := Lib.hid hg1; clear hown1 hrd1 hg1 hat1))
                  go_roundw
                  case rel =>
                    have HT5 : TS w w1 A1 (ln4 + 1) c1' (Pg.ens L4 (2, M)) := HT4.out.app (s := (2, M)) _ HMM.out (by have := HOWN1.out; rw [HW2.out]; exact this) HG1.out
                    refine ⟨j + 1, V2 + 2097152, A1, ln4 + 1, c1', by go_num, rfl, Lib.hid ?_, Lib.hid HNJ.out, Lib.hid ?_, by omega⟩
                    · have h1 := HV2.out; have h2 := HM.out; omega
                    · rw [HLN.out, HTM.out]; exact HT5.below HBA5.out
                  case measure => first | exact mes_lt HLT.out | exact mes_lt' HLT.out
          · have f1 : decide ((V2 : Int) < (E : Int)) = true := decide_eq_true (by omega)
            have f2 : decide ((ln : Int) ≤ 1024) = false := decide_eq_false (by omega)
            have HEND : Hid (Pg.capF (Pg.stepsR bg M0 j) L0 = Pg.capF (Pg.stepsOf (rows.take (k + 1))) [(0, 0)]) := Lib.hid (by
              rw [HNX.out, steps_split bg M0 j T HJ.out, cap_end (by rw [← HT.out.2.1]; omega)])
            go_wp2_with fail
            go_roundw
            case rel => exact ⟨k + 1, A3, ln, c3, by omega, by go_num, rfl, Lib.hid (by rw [← HEND.out]; exact HT.out), hln⟩
            case measure => simp [intOf] <;> omega
        · have f1 : decide ((V2 : Int) < (E : Int)) = false := decide_eq_false (by omega)
          have HEND : Hid (Pg.capF (Pg.stepsR bg M0 j) L0 = Pg.capF (Pg.stepsOf (rows.take (k + 1))) [(0, 0)]) := Lib.hid (by
            have h1 := HTE.out j HJ.out
            have h2 := HV2.out
            have h3 := HJ.out
            have : j = T := by omega
            rw [HNX.out, this])
          go_wp2_with fail
          go_roundw
          case rel => exact ⟨k + 1, A3, ln, c3, by omega, by go_num, rfl, Lib.hid (by rw [← HEND.out]; exact HT.out), hln⟩
          case measure => simp [intOf] <;> omega
    · have HK : Hid (k = n) := Lib.hid (by omega)
      have HT9 : Hid (TS w wr A3 ln c3 (Pg.refT rows)) := Lib.hid (by
        have h := HT.out
        rw [HK.out, List.take_of_length_le (Nat.le_of_eq HL.out)] at h
        exact h)
      have f1 : decide ((k : Nat) < n) = false := decide_eq_false hkn
      clear HT
      go_wp2_with fail
      go_ret
      exact ⟨A3, c3, ln, rfl, HT9.out⟩
end Go.Proofs.Ytblfagmoilhdnaa

/- What the document's tables are while they are filled: labels and entries, in memory. -/
set_option linter.unusedVariables false
set_option linter.unusedSimpArgs false
namespace Go.Proofs.Ytblfagmoilhdnaa
open Go.RowKit
theorem zip_set {L : List Pg.Lab} {all : List (List Nat)} {i : Nat} {s : Pg.Lab} (hs : L[i]? = some s) (hi : i < all.length) (e x : Nat) : (L.zip all).set i (s, (all.getD i []).set e x) = L.zip (Pg.setE all i e x) := by
  unfold Pg.setE
  induction L generalizing i all with
  | nil => simp at hs
  | cons a r ih =>
    cases all with
    | nil => simp at hi
    | cons b t =>
      cases i with
      | zero =>
        injection hs with hs
        subst hs
        rfl
      | succ i =>
        have := ih (i := i) (all := t) hs (by simpa using hi)
        simp only [List.zip_cons_cons, List.set_cons_succ, List.getD_cons_succ] at this ⊢
        rw [this]
theorem zip_at {L : List Pg.Lab} {all : List (List Nat)} {i : Nat} {s : Pg.Lab} (hs : L[i]? = some s) (hi : i < all.length) : (L.zip all)[i]? = some (s, all.getD i []) := by
  rw [List.getElem?_zip_eq_some]
  refine ⟨hs, ?_⟩
  rw [List.getElem?_eq_getElem hi, List.getD_eq_getElem?_getD, List.getElem?_eq_getElem hi]
  rfl
theorem zt_zip (L : List Pg.Lab) : zt L = L.zip (List.replicate L.length Pg.zero512) := by
  induction L with
  | nil => rfl
  | cons a r ih =>
    rw [List.length_cons, List.replicate_succ, List.zip_cons_cons, ← ih]
    rfl
/-- the tables as they are filled -/
def RS (w wx : World) (A : Option Addr) (ln c : Nat) (L : List Pg.Lab) (all : List (List Nat)) : Prop := wx.ownsRow w.heap.size 120 514 (.slice A ln c) ln (rcells (L.zip all)) ∧ ln = L.length ∧ all.length = L.length ∧ (∀ a ∈ all, a.length = 512) ∧ Below w.heap.size w wx
theorem RS.tab {w wx : World} {A : Option Addr} {ln c : Nat} {L : List Pg.Lab} {all : List (List Nat)} (h : RS w wx A ln c L all) : RTab (L.zip all) := by
  intro t ht
  obtain ⟨a, b⟩ := t
  exact h.2.2.2.1 _ (List.of_mem_zip ht).2
theorem RS.has {w wx : World} {A : Option Addr} {ln c : Nat} {L : List Pg.Lab} {all : List (List Nat)} (h : RS w wx A ln c L all) : HasR wx A L := by
  have hz : (L.zip all).length = ln := by rw [List.length_zip, h.2.2.1, h.2.1, Nat.min_self]
  have ho : OwnR wx w.heap.size A c (L.zip all) := ⟨by rw [hz]; exact h.1, h.tab⟩
  have := ho.has
  rwa [List.map_fst_zip (by rw [h.2.2.1]; exact Nat.le_refl _)] at this
theorem RS.below {w wx wy : World} {A : Option Addr} {ln c : Nat} {L : List Pg.Lab} {all : List (List Nat)} (h : RS w wx A ln c L all) (hb : Below wx.heap.size wx wy) : RS w wy A ln c L all :=
  ⟨owns_chg h.1 (Chg.of_below (S := []) hb) (by simp), h.2.1, h.2.2.1, h.2.2.2.1, h.2.2.2.2.trans (hb.mono h.2.2.2.2.size)⟩
theorem RS.drewN {w wx : World} {A : Option Addr} {ln c : Nat} {L : List Pg.Lab} {all : List (List Nat)} (h : RS w wx A ln c L all) (m : Nat) : RS w (wx.drewN m) A ln c L all := h.below (below_drewN (Below.refl _ _) m)
theorem RS.of_ts {w wx : World} {A : Option Addr} {ln c : Nat} {L : List Pg.Lab} (h : TS w wx A ln c L) : RS w wx A ln c L (List.replicate L.length Pg.zero512) := by
  have he : zt L = L.zip (List.replicate L.length Pg.zero512) := zt_zip L
  refine ⟨by rw [← he]; exact h.1, h.2.1, List.length_replicate, ?_, h.2.2⟩
  intro a ha
  rw [List.eq_of_mem_replicate ha]
  exact List.length_replicate
/-- where the tables lie, and what one store does -/
theorem RS.form {w wx : World} {A : Option Addr} {ln c : Nat} {L : List Pg.Lab} {all : List (List Nat)} (h : RS w wx A ln c L all) (hn : 0 < ln) : ∃ g, A = some ⟨g, 0, none⟩ ∧ w.heap.size ≤ g ∧ g < wx.heap.size ∧ ln ≤ c ∧ c ≤ 9223372036854775807 := by
  obtain ⟨g, h1, h2, h3, h4, h5⟩ := own_some h.1 hn
  unfold maxLen at h5
  exact ⟨g, h1, h2, h3, h4, h5⟩
theorem RS.old {w wx : World} {g ln c : Nat} {L : List Pg.Lab} {all : List (List Nat)} (h : RS w wx (some ⟨g, 0, none⟩) ln c L all) {i e : Nat} (hi : i < ln) (he : e < 512) : (∃ u, wx.cell? ⟨g, i * 514 + 2 + e, none⟩ = some (u64v u)) ∧ wx.frozen? ⟨g, i * 514 + 2 + e, none⟩ = false := by
  have hl := h.tab.len
  rw [List.length_zip, h.2.2.1, Nat.min_self, ← h.2.1] at hl
  have hiL : i < L.length := by rw [← h.2.1]; exact hi
  have hz := zip_at (all := all) (List.getElem?_eq_getElem hiL) (by rw [h.2.2.1]; exact hiL)
  refine ⟨⟨(all.getD i []).getD e 0, ?_⟩, h.1.frozenAt _⟩
  rw [show i * 514 + 2 + e = 514 * i + (e + 2) by omega, h.1.cellAt (514 * i + (e + 2)) (by omega), rcells_at h.tab hz (e + 2) (by omega)]
  unfold rcell
  simp only [List.getElem?_cons_succ, List.getElem?_map]
  have hm : (all.getD i []).length = 512 := by
    refine h.2.2.2.1 _ ?_
    rw [List.getD_eq_getElem?_getD, List.getElem?_eq_getElem (show i < all.length by rw [h.2.2.1]; exact hiL)]
    exact List.getElem_mem _
  obtain ⟨a, ha⟩ : ∃ a, a = all.getD i [] := ⟨_, rfl⟩
  rw [← ha] at hm ⊢
  rw [List.getD_eq_getElem?_getD, List.getElem?_eq_getElem (show e < a.length by omega)]
  rfl
theorem RS.store {w wx : World} {g ln c : Nat} {L : List Pg.Lab} {all : List (List Nat)} (h : RS w wx (some ⟨g, 0, none⟩) ln c L all) {i e : Nat} (hi : i < ln) (he : e < 512) (x : Nat) : RS w (wx.setCell ⟨g, i * 514 + 2 + e, none⟩ (u64v x)) (some ⟨g, 0, none⟩) ln c L (Pg.setE all i e x) := by
  have hiL : i < L.length := by rw [← h.2.1]; exact hi
  have hia : i < all.length := by rw [h.2.2.1]; exact hiL
  have hz := zip_at (all := all) (List.getElem?_eq_getElem hiL) hia
  have hs := h.1.stored (514 * i + 2 + e) (u64v x)
  rw [rcells_set h.tab hz e x he, zip_set (List.getElem?_eq_getElem hiL) hia, show 514 * i + 2 + e = i * 514 + 2 + e by omega] at hs
  refine ⟨hs.1, h.2.1, by rw [Pg.setE_len, h.2.2.1], ?_, h.2.2.2.2.setCell (p := ⟨g, i * 514 + 2 + e, none⟩) (by show w.heap.size ≤ g; exact (h.1.lt g rfl).1) _⟩
  intro a ha
  unfold Pg.setE at ha
  rcases List.mem_or_eq_of_mem_set ha with ha | rfl
  · exact h.2.2.2.1 a ha
  · rw [List.length_set]
    refine h.2.2.2.1 _ ?_
    rw [List.getD_eq_getElem?_getD, List.getElem?_eq_getElem hia]
    exact List.getElem_mem _
/-- a table's label and its row of entries, read -/
theorem RS.lab {w wx : World} {g ln c : Nat} {L : List Pg.Lab} {all : List (List Nat)} (h : RS w wx (some ⟨g, 0, none⟩) ln c L all) {i : Nat} {t : Pg.Lab} (ht : L[i]? = some t) : wx.cell? ⟨g, i * 514, none⟩ = some (.int .i64 (t.1 : Nat)) ∧ wx.cell? ⟨g, i * 514 + 1, none⟩ = some (.int .u64 (vOf t : Nat)) := by
  obtain ⟨g', hA, _, hc⟩ := h.has (by have := (List.getElem?_eq_some_iff.1 ht).1; omega)
  injection hA with hA
  injection hA with hA
  subst hA
  exact hc i t ht
theorem RS.row {w wx : World} {g ln c : Nat} {L : List Pg.Lab} {all : List (List Nat)} (h : RS w wx (some ⟨g, 0, none⟩) ln c L all) {i : Nat} (hi : i < ln) : wx.rangeAt g (i * 514 + 2) ((all.getD i []).map u64v) := by
  have hl := h.tab.len
  rw [List.length_zip, h.2.2.1, Nat.min_self, ← h.2.1] at hl
  have hiL : i < L.length := by rw [← h.2.1]; exact hi
  have hia : i < all.length := by rw [h.2.2.1]; exact hiL
  have hz := zip_at (all := all) (List.getElem?_eq_getElem hiL) hia
  have hm : (all.getD i []).length = 512 := by
    refine h.2.2.2.1 _ ?_
    rw [List.getD_eq_getElem?_getD, List.getElem?_eq_getElem hia]
    exact List.getElem_mem _
  intro j v hv
  have hj : j < 512 := by have := (List.getElem?_eq_some_iff.1 hv).1; rw [List.length_map] at this; omega
  rw [show i * 514 + 2 + j = 514 * i + (j + 2) by omega, h.1.cellAt (514 * i + (j + 2)) (by omega), rcells_at h.tab hz (j + 2) (by omega)]
  unfold rcell
  simp only [List.getElem?_cons_succ]
  exact hv
end Go.Proofs.Ytblfagmoilhdnaa

/- The walks of the document's Count, and of the parts of its Build. -/
set_option linter.unusedVariables false
set_option linter.unusedSimpArgs false
namespace Go.Proofs.Ytblfagmoilhdnaa
open Go.RowKit
set_option maxRecDepth 100000 in
set_option maxHeartbeats 1000000 in
theorem rcount_any (A : Option Addr) (n c : Nat) (rows : List Pg.Lf) (w : World) (hr : IsL w w.heap.size A n rows) :
    Calls Try.prog 44 #[.slice A n c] w fun e w' => e = .returned (.tuple #[.int .i64 ((Pg.refC rows).1 : Nat), .int .i64 ((Pg.refC rows).2 : Nat)]) ∧ Below w.heap.size w w' := by
  have HRF := Lib.hid (refuses_any A n c rows w hr)
  have HTB : Hid (Pg.right 0 rows = 0 → ∀ w1 : World, Below w.heap.size w w1 → Calls Try.prog 59 #[.slice A n c] w1 fun e w' => ∃ A' c' ln, e = .returned (.slice A' ln c') ∧ TS w1 w' A' ln c' (Pg.refT rows)) := Lib.hid fun h w1 hb => tables_any A n c rows w1 ((hr.below hb).more hb.size) h
  have hC : Pg.refC rows = if Pg.right 0 rows ≠ 0 then (0, Pg.right 0 rows) else if 1024 < (Pg.refT rows).length then (0, 4) else ((Pg.refT rows).length, 0) := rfl
  obtain ⟨f, hf⟩ : ∃ f, f = Pg.right 0 rows := ⟨_, rfl⟩
  obtain ⟨R, hR⟩ : ∃ R, R = Pg.refC rows := ⟨_, rfl⟩
  rw [← hf] at HRF HTB hC
  rw [← hR] at hC ⊢
  have HC := Lib.hid hC
  clear hr hf hR hC
  by_cases h0 : f = 0
  · have g1 : ((f : Int) != 0) = false := by rw [bne_eq_false_iff_eq]; omega
    have HT := Lib.hid (HTB.out h0)
    have H0 := Lib.hid h0
    clear h0 HTB
    go_enter Try.func44, Try.ntmps44
    go_wp2_with fail
    refine HRF.out.mono ?_
    rintro e w1 ⟨rfl, hb1⟩
    have HB1 := Lib.hid hb1
    clear hb1 HRF
    go_wp2_with fail
    refine (HT.out w1 HB1.out).mono ?_
    rintro e w2 ⟨A', c', ln, rfl, hts⟩
    have HL : Hid (ln = (Pg.refT rows).length) := Lib.hid hts.2.1
    have HB2 := Lib.hid (HB1.out.trans (hts.2.2.mono HB1.out.size))
    clear hts HB1 HT
    by_cases hg : 1024 < ln
    · have f1 : decide ((1024 : Int) < (ln : Int)) = true := decide_eq_true (by omega)
      have HG := Lib.hid hg
      clear hg
      go_wp2_with fail
      go_ret2
      exact ⟨by rw [HC.out, if_neg (by simp [H0.out]), if_pos (by rw [← HL.out]; exact HG.out)]; rfl, HB2.out⟩
    · have f1 : decide ((1024 : Int) < (ln : Int)) = false := decide_eq_false (by omega)
      have HG := Lib.hid hg
      clear hg
      go_wp2_with fail
      go_ret2
      exact ⟨by rw [HC.out, if_neg (by simp [H0.out]), if_neg (by rw [← HL.out]; exact HG.out), ← HL.out]; rfl, HB2.out⟩
  · have g1 : ((f : Int) != 0) = true := by rw [bne_iff_ne]; omega
    have H0 := Lib.hid h0
    clear h0 HTB
    go_enter Try.func44, Try.ntmps44
    go_wp2_with fail
    refine HRF.out.mono ?_
    rintro e w1 ⟨rfl, hb1⟩
    have HB1 := Lib.hid hb1
    clear hb1 HRF
    go_wp2_with fail
    go_ret2
    exact ⟨by rw [HC.out, if_pos H0.out]; rfl, HB1.out⟩
end Go.Proofs.Ytblfagmoilhdnaa

/- The walk of the document's Build. -/
set_option linter.unusedVariables false
set_option linter.unusedSimpArgs false
namespace Go.Proofs.Ytblfagmoilhdnaa
open Go.RowKit
theorem or_page {base k : Nat} (h4 : base % 4096 = 0) : (base + k * 4096) ||| 1 = base + k * 4096 + 1 := Pg.or_add (by omega) (by decide)
/-- the flags of a page, laid one by one -/
theorem or_flags {P f : Nat} (h : P % 4096 = 0) (hf : f < 8) (b : Bool) : (if b then (P ||| f) ||| 8 else P ||| f) = P + (f + if b then 8 else 0) := by
  cases b
  · simp only [Bool.false_eq_true, if_false, Nat.add_zero]
    exact Pg.or_add h (by omega)
  · simp only [if_true]
    rw [Nat.or_assoc, show f ||| 8 = f + 8 by (have : f = 0 ∨ f = 1 ∨ f = 2 ∨ f = 3 ∨ f = 4 ∨ f = 5 ∨ f = 6 ∨ f = 7 := by omega); rcases this with h | h | h | h | h | h | h | h <;> subst h <;> decide]
    exact Pg.or_add h (by omega)
theorem Pg.pages_all (r : Pg.Lf) : r.pages.take r.cnt = r.pages := List.take_of_length_le (by rw [Pg.pages_len]; exact Nat.le_refl _)
theorem Pg.pages_take {r : Pg.Lf} {t : Nat} (h : t < r.cnt) : r.pages.take (t + 1) = r.pages.take t ++ [r.page t] := by
  have hl : t < r.pages.length := by rw [Pg.pages_len]; exact h
  rw [List.take_succ_eq_append_getElem hl]
  simp [Pg.Lf.pages]
theorem tab_one (V : List Value) (hv : V.length = 512) (wx : World) : (Instr.buildSlice 42 1 #[(0, .agg V.toArray)]).run Try.prog wx = .ok (.slice (some ⟨wx.heap.size, 0, none⟩) 1 1) (wx.alloc (.cells V.toArray 24)) := by
  obtain ⟨i0, hi0, hz1, hz2, hz3⟩ := info_parts infoTabA
  refine run_buildSlice wx _ 24 1 _ _ i0 _ Try.underlying42 hi0 hz1 (by rw [hz2]; decide) (by rw [hz2]; decide) ?_
  rw [hz2]
  have h := Go.Great.fill_whole (s := 512) (by decide) [.agg V.toArray] ((Array.range (1 * 512)).map ((Value.agg (zeros 512).toArray).cells[· % (Value.agg (zeros 512).toArray).cells.size]!)) (by
    intro v h
    rw [List.mem_singleton.1 h]
    show V.toArray.size = 512
    simpa using hv) (by simp)
  simp only [List.zipIdx_cons, List.zipIdx_nil, List.map_cons, List.map_nil, List.flatMap_cons, List.flatMap_nil, List.append_nil] at h
  exact h
/-- the measure of the pages of a row -/
def mesU (U NP : Nat) (v : Value) : Nat := NP + U - (intOf v).toNat
theorem mesU_lt {U NP J : Nat} (hu : 0 < U) (h : J < NP) : mesU U NP (.int .u64 ((J : Int) + (U : Int))) < mesU U NP (.int .u64 (J : Int)) := by
  have e1 : (intOf (.int .u64 ((J : Int) + (U : Int)))).toNat = J + U := by
    show ((J : Int) + (U : Int)).toNat = _
    omega
  have e2 : (intOf (.int .u64 (J : Int))).toNat = J := by
    show ((J : Int)).toNat = _
    omega
  unfold mesU
  rw [e1, e2]
  omega
theorem mesU_lt' {U NP J : Nat} (hu : 0 < U) (h : J < NP) : mesU U NP (.int .u64 ((J + U : Nat) : Int)) < mesU U NP (.int .u64 (J : Int)) := by
  rw [Int.natCast_add]
  exact mesU_lt hu h
set_option maxRecDepth 100000 in
set_option maxHeartbeats 4000000 in
theorem rbuild_ok (A : Option Addr) (n c base : Nat) (rows : List Pg.Lf) (w : World) (hr : IsL w w.heap.size A n rows) (hb4 : base % 4096 = 0) (hrt : Pg.right 0 rows = 0) (hcap : (Pg.refT rows).length ≤ 1024) (hfit : base + (Pg.refT rows).length * 4096 ≤ 4294967296) (hlo : base < 4294967296) :
    Calls Try.prog 34 #[.slice A n c, .int .u64 (base : Nat)] w fun e w' => ∃ A' c' all, e = .returned (.tuple #[.slice A' (Pg.refT rows).length c', .int .i64 0]) ∧ Pg.Rep base (Pg.refT rows) (Pg.pagesOf rows) all ∧ all.length = (Pg.refT rows).length ∧ (w'.ownsRow w.heap.size 24 512 (.slice A' all.length c') all.length (tcells all) ∧ (∀ a ∈ all, a.length = 512) ∧ Below w.heap.size w w') := by
  have hch := (Pg.right_pages rows 0 hrt).1
  have hL := (Pg.refT_len hrt base).2 hcap
  have hwt := Pg.wanted_of hch
  rw [← hL] at hwt
  have hC : Pg.refC rows = ((Pg.refT rows).length, 0) := by unfold Pg.refC; rw [if_neg (by simp [hrt]), if_neg (by omega)]
  have HRC : Hid (Calls Try.prog 44 #[.slice A n c] w fun e w' => e = .returned (.tuple #[.int .i64 ((Pg.refT rows).length : Nat), .int .i64 0]) ∧ Below w.heap.size w w') := Lib.hid (by
    have h := rcount_any A n c rows w hr
    rw [hC] at h
    exact h)
  have HTB : Hid (∀ w1 : World, Below w.heap.size w w1 → Calls Try.prog 59 #[.slice A n c] w1 fun e w' => ∃ A' c' ln, e = .returned (.slice A' ln c') ∧ TS w1 w' A' ln c' (Pg.refT rows)) := Lib.hid fun w1 hb => tables_any A n c rows w1 ((hr.below hb).more hb.size) hrt
  obtain ⟨b, off, HF⟩ := hr.form
  have HLN := Lib.hid hr.2.2.1
  have HIN := Lib.hid hr.2.1
  have hn := hr.2.2.2
  have HOK := Lib.hid (Pg.right_all hrt)
  have HRT := Lib.hid hrt
  have HCH := Lib.hid hch
  have HWT := Lib.hid hwt
  have hpos : 0 < (Pg.refT rows).length := (List.getElem?_eq_some_iff.1 hwt.good.root).1
  obtain ⟨L, hLd⟩ : ∃ L, L = Pg.refT rows := ⟨_, rfl⟩
  rw [← hLd] at HRC HTB HWT hcap hfit hpos ⊢
  obtain ⟨ln, hln⟩ : ∃ ln, ln = L.length := ⟨_, rfl⟩
  rw [← hln] at HRC hcap hfit hpos ⊢
  have HLD := Lib.hid hLd
  have HLL := Lib.hid hln
  have HR := Lib.hid hr
  clear hr hrt hch hL hwt hC hLd hln
  have e1 : IntKind.u64.wrap (ln : Int) = (ln : Int) := by rw [IntKind.wrap_u64]; omega
  have e2 : IntKind.u64.wrap ((4294967296 : Int) - (base : Int)) = ((4294967296 - base : Nat) : Int) := by rw [IntKind.wrap_u64]; omega
  have g1 : (base : Int) % 4096 = 0 := by omega
  have g2 : (base : Int).tmod 4096 = 0 := by rw [Int.tmod_eq_emod_of_nonneg (by omega)]; omega
  have g3 : decide ((4294967296 : Int) ≤ (base : Int)) = false := decide_eq_false (by omega)
  have g4 : ((4294967296 - base : Nat) : Int) / 4096 = (((4294967296 - base) / 4096 : Nat) : Int) := by omega
  obtain ⟨Z, hZ⟩ : ∃ Z, Z = (4294967296 - base) / 4096 := ⟨_, rfl⟩
  rw [← hZ] at g4
  have hZl : ln ≤ Z := by omega
  have g5 : decide (Z < ln) = false := decide_eq_false (by omega)
  have g6 : IntKind.u64.wrap (Z : Int) = (Z : Int) := by rw [IntKind.wrap_u64]; omega
  clear hZ
  go_enter Try.func34, Try.ntmps34
  go_wp2_with fail
  refine HRC.out.mono ?_
  rintro e w1 ⟨rfl, hb1⟩
  have HB1 := Lib.hid hb1
  clear hb1 HRC
  go_wp2_with fail
  refine (HTB.out w1 HB1.out).mono ?_
  rintro e w2 ⟨A2, c2, ln2, rfl, hts⟩
  obtain rfl : ln = ln2 := by rw [HLL.out]; exact hts.2.1.symm
  have HRS : Hid (RS w w2 A2 ln c2 L (List.replicate L.length Pg.zero512)) := Lib.hid (by
    have h := RS.of_ts hts
    exact ⟨own_mono h.1 HB1.out.size, h.2.1, h.2.2.1, h.2.2.2.1, HB1.out.trans (h.2.2.2.2.mono HB1.out.size)⟩)
  obtain ⟨g, rfl, hg1, hg2, hg3, hg4⟩ := HRS.out.form hpos
  have HGW := Lib.hid hg1
  clear hts HB1 HTB e1 e2 g1 g2 g3 g4 g5 g6 hZl hg1 hg2
  go_wp2_with fail
  go_loopw [9] (fun i wr => ∃ (k : Nat) (all : List (List Nat)), 1 ≤ k ∧ k ≤ ln ∧ i = .int .i64 k ∧ Hid (RS w wr (some ⟨g, 0, none⟩) ln c2 L all ∧ Pg.Ptrs base L k all)) (fun i _ => ln - (intOf i).toNat)
  case atStart => exact ⟨1, _, by omega, by omega, rfl, Lib.hid ⟨HRS.out, Pg.Ptrs.init HWT.out.good⟩⟩
  case round =>
    clear HRS
    obtain ⟨k, all, hk1, hk, rfl, HT⟩ := hrel
    by_cases hkn : k < ln
    · obtain ⟨s, hs⟩ : ∃ s, L[k]? = some s := ⟨_, List.getElem?_eq_getElem (by have := HLL.out; omega)⟩
      obtain ⟨c0, c1⟩ := HT.out.1.lab hs
      have hgl : g < wr.heap.size := by obtain ⟨g', hA, _, h, _⟩ := HT.out.1.form hpos; injection hA with hA; injection hA with hA; subst hA; exact h
      have h12 : s.1 = 1 ∧ s.2 < 512 ∨ s.1 = 2 ∧ (1, s.2 / 512) ∈ L := by
        rcases HWT.out.up s (List.mem_of_getElem? hs) with h | h | h
        · exact .inl h
        · exact .inr h
        · subst h
          have := Pg.nodup_at HWT.out.good.nd hs HWT.out.good.root
          omega
      have hkk : (k : Int) < (ln : Int) := by omega
      have hk0 : (0 : Int) ≤ (k : Int) := by omega
      obtain ⟨AT, hAT⟩ : ∃ AT, AT = base + k * 4096 := ⟨_, rfl⟩
      have e1 : IntKind.u64.wrap (k : Int) = (k : Int) := by rw [IntKind.wrap_u64]; omega
      have e2 : IntKind.u64.wrap ((k : Int) * 4096) = (k : Int) * 4096 := by rw [IntKind.wrap_u64]; omega
      have e3 : IntKind.u64.wrap ((base : Int) + (k : Int) * 4096) = (AT : Int) := by rw [IntKind.wrap_u64]; omega
      have e3' : (base : Int) + (k : Int) * 4096 = (AT : Int) := by omega
      have e4 : bits .or .u64 (AT : Int) 1 = ((AT + 1 : Nat) : Int) := by
        have h := u64_or_nat AT 1 (by omega) (by decide)
        rw [hAT, or_page hb4, ← hAT] at h
        exact h
      have HPT : Hid (AT + 1 = Pg.ptr base k) := Lib.hid (by rw [hAT, ← or_page hb4, Pg.ptr_of hb4 (by omega)])
      have HS := Lib.hid hs; have HAT := Lib.hid hAT
      obtain ⟨S1, S2⟩ := s
      simp only at h12
      clear hs hAT
      rcases h12 with ⟨h1, h2⟩ | ⟨h1, h2⟩
      · subst h1
        obtain ⟨V, hV⟩ : ∃ V, V = vOf (1, S2) := ⟨_, rfl⟩
        rw [← hV] at c1
        have hV2 : V = S2 * 1073741824 := hV
        have d1 : (V : Int) / 1073741824 = (S2 : Int) := by omega
        have d2 : (V : Int).tdiv 1073741824 = (S2 : Int) := by rw [Int.tdiv_eq_ediv_of_nonneg (by omega)]; exact d1
        have hS0 : (0 : Int) ≤ (S2 : Int) := by omega
        have d7 : IntKind.u64.wrap (S2 : Int) = (S2 : Int) := by rw [IntKind.wrap_u64]; omega
        have hl0 : (0 : Int) < (ln : Int) := by omega
        have hS5 : (S2 : Int) < 512 := by omega
        obtain ⟨⟨u0, o1⟩, o2⟩ := HT.out.1.old (i := 0) (e := S2) (by omega) h2
        rw [show 0 * 514 + 2 + S2 = 2 + S2 by omega] at o1 o2
        have KEEP : Hid (∀ (w' : World) (v : Value), w'.cell? ⟨g, k * 514 + 1, none⟩ = some (.int .u64 (V : Nat)) → (w'.setCell ⟨g, 2 + S2, none⟩ v).cell? ⟨g, k * 514 + 1, none⟩ = some (.int .u64 (V : Nat))) := Lib.hid fun w' v h => (World.cell?_setCell_other _ _ _ _ (by intro h; injection h; omega)).trans h
        clear hV hV2
        go_wp2_with fail
        go_region_held3 (fun w' => w'.cell? ⟨g, k * 514 + 1, none⟩ = some (.int .u64 (V : Nat)))
          (first | exact c1 | exact d9 | exact KEEP.out _ _ (by assumption))
          (first | (go_at_call 60; refine (reach1_any _).mono ?_; rintro en w' ⟨rfl, hbm⟩; have d9 : w'.cell? ⟨g, k * 514 + 1, none⟩ = some (.int .u64 (V : Nat)) := (hbm.cell (p := ⟨g, k * 514 + 1, none⟩) hgl).trans c1; have o3 := (hbm.cell (p := ⟨g, 2 + S2, none⟩) hgl).trans o1; have o4 := (hbm.frozen (p := ⟨g, 2 + S2, none⟩) hgl).trans o2; have hls := hbm.size; have HBM := Lib.hid hbm; clear hbm))
        all_goals
          go_wp2_with fail
          go_roundw
          case measure => simp [intOf]; omega
          case rel =>
            have hbm := ((Below.refl wr.heap.size wr).drew).trans HBM.out
            have h := (HT.out.1.below hbm).store (i := 0) (e := S2) (by omega) h2 (AT + 1)
            rw [show 0 * 514 + 2 + S2 = 2 + S2 by omega] at h
            have h3 := HT.out.2.next HWT.out.good HS.out (.inl ⟨rfl, h2⟩)
            rw [← HPT.out] at h3
            have hp : Pg.par L (1, S2) = 0 := rfl
            rw [hp, show (1, S2).2 % 512 = S2 from Nat.mod_eq_of_lt h2] at h3
            exact ⟨k + 1, _, by omega, by omega, by go_num, Lib.hid ⟨h, h3⟩⟩
      · subst h1
        obtain ⟨V, hV⟩ : ∃ V, V = vOf (2, S2) := ⟨_, rfl⟩
        rw [← hV] at c1
        have hV2 : V = S2 * 2097152 := hV
        have hup := List.idxOf_lt_length_iff.2 h2
        have hS2 : S2 < 262144 := by
          rcases HWT.out.up _ h2 with h | h | h
          · have := h.2; simp only at this; omega
          · exact absurd h.1 (by simp)
          · injection h with h; cases h
        have HFI : Hid (∀ wx, HasR wx (some ⟨g, 0, none⟩) L → Calls Try.prog 61 #[.slice (some ⟨g, 0, none⟩) ln c2, .int .i64 1, .int .u64 (V / 1073741824 * 1073741824 : Nat)] wx fun e w' => e = .returned (.int .i64 (L.idxOf (1, S2 / 512) : Nat)) ∧ w' = wx) := Lib.hid fun wx hx => by
          have h := find_any (some ⟨g, 0, none⟩) ln c2 L (1, S2 / 512) wx hx HLL.out (by omega) h2
          rw [show vOf (1, S2 / 512) = V / 1073741824 * 1073741824 by rw [hV2]; show S2 / 512 * 1073741824 = _; omega] at h
          exact h
        have HPAR : Hid (Pg.par L (2, S2) = L.idxOf (1, S2 / 512)) := Lib.hid rfl
        obtain ⟨V1, hV1⟩ : ∃ V1, V1 = V / 1073741824 * 1073741824 := ⟨_, rfl⟩
        have d1 : bits .andNot .u64 (V : Int) 1073741823 = (V1 : Int) := by rw [hV1]; exact andn_b1 V (by omega)
        have d2 : IntKind.u64.wrap 1073741823 = 1073741823 := by decide
        have d3 : (V : Int) / 2097152 = (S2 : Int) := by omega
        have d4 : (V : Int).tdiv 2097152 = (S2 : Int) := by rw [Int.tdiv_eq_ediv_of_nonneg (by omega)]; exact d3
        rw [← hV1] at HFI
        obtain ⟨E5, hE5⟩ : ∃ E5, E5 = S2 % 512 := ⟨_, rfl⟩
        have d5 : (S2 : Int) % 512 = (E5 : Int) := by omega
        have d7 : IntKind.u64.wrap (S2 : Int) = (S2 : Int) := by rw [IntKind.wrap_u64]; omega
        have d8 : IntKind.u64.wrap (E5 : Int) = (E5 : Int) := by rw [IntKind.wrap_u64]; omega
        have d6 : (S2 : Int).tmod 512 = (E5 : Int) := by rw [Int.tmod_eq_emod_of_nonneg (by omega)]; exact d5
        have hE0 : (0 : Int) ≤ (E5 : Int) := by omega
        have hE1 : (E5 : Int) < 512 := by omega
        have hE2 : E5 < 512 := by omega
        obtain ⟨UP, hUP⟩ : ∃ UP, UP = L.idxOf (1, S2 / 512) := ⟨_, rfl⟩
        rw [← hUP] at HFI HPAR hup
        rw [← HLL.out] at hup
        have hup0 : (0 : Int) ≤ (UP : Int) := by omega
        have hup1 : (UP : Int) < (ln : Int) := by omega
        have HH2 := Lib.hid h2
        have HE5 := Lib.hid hE5
        have HV := Lib.hid hV
        clear hV hV2 hV1 hE5 hUP h2
        have HHR := Lib.hid HT.out.1.has
        go_upto_region 15 with fail
        go_cut [11] (fun x wx => x = .int .i64 (UP : Nat) ∧ Hid (Below wr.heap.size wr wx))
        case first =>
          go_region_held3 (fun w' => w'.cell? ⟨g, k * 514 + 1, none⟩ = some (.int .u64 (V : Nat)))
            (first | exact c1 | exact d9)
            (first | (go_at_call 60; refine (reach1_any _).mono ?_; rintro en w' ⟨rfl, hbm⟩; have d9 : w'.cell? ⟨g, k * 514 + 1, none⟩ = some (.int .u64 (V : Nat)) := (hbm.cell (p := ⟨g, k * 514 + 1, none⟩) hgl).trans c1; have HBM : Hid (Below wr.heap.size wr w') := Lib.hid (((Below.refl wr.heap.size wr).drew).trans hbm); clear hbm) | (go_at_call 61; refine (HFI.out _ (HHR.out.below HBM.out)).mono ?_; rintro e wb ⟨rfl, rfl⟩))
          all_goals
            go_wp2_with fail
            go_meet
            case rel => exact ⟨rfl, HBM⟩
        case rest =>
          obtain ⟨rfl, HBC⟩ := hcut
          have HTC := Lib.hid (HT.out.1.below HBC.out)
          obtain ⟨c0', c1'⟩ := HTC.out.lab HS.out
          rw [← HV.out] at c1'
          obtain ⟨⟨u0, o1⟩, o2⟩ := HTC.out.old (i := UP) (e := E5) (by omega) hE2
          have hgc : g < wc.heap.size := Nat.lt_of_lt_of_le hgl HBC.out.size
          have KEEP : Hid (∀ (w' : World) (v : Value), w'.cell? ⟨g, k * 514 + 1, none⟩ = some (.int .u64 (V : Nat)) → (w'.setCell ⟨g, UP * 514 + 2 + E5, none⟩ v).cell? ⟨g, k * 514 + 1, none⟩ = some (.int .u64 (V : Nat))) := Lib.hid fun w' v h => (World.cell?_setCell_other _ _ _ _ (by intro h; injection h; omega)).trans h
          clear c0 c1 c0' HFI HHR d1 d2 hgl
          go_wp2_with fail
          go_region_held3 (fun w' => w'.cell? ⟨g, k * 514 + 1, none⟩ = some (.int .u64 (V : Nat)))
            (first | exact c1' | exact d9 | exact KEEP.out _ _ (by assumption))
            (first | (go_at_call 60; refine (reach2_any _).mono ?_; rintro en w' ⟨rfl, hbm⟩; have d9 : w'.cell? ⟨g, k * 514 + 1, none⟩ = some (.int .u64 (V : Nat)) := (hbm.cell (p := ⟨g, k * 514 + 1, none⟩) hgc).trans c1'; have o3 := (hbm.cell (p := ⟨g, UP * 514 + 2 + E5, none⟩) hgc).trans o1; have o4 := (hbm.frozen (p := ⟨g, UP * 514 + 2 + E5, none⟩) hgc).trans o2; have hls := hbm.size; have HBM := Lib.hid hbm; clear hbm))
          all_goals
            go_wp2_with fail
            go_roundw
            case measure => simp [intOf]; omega
            case rel =>
              have hbm := ((Below.refl wc.heap.size wc).drew).trans HBM.out
              have h := (HTC.out.below hbm).store (i := UP) (e := E5) (by omega) hE2 (AT + 1)
              have h3 := HT.out.2.next HWT.out.good HS.out (.inr ⟨rfl, HH2.out⟩)
              rw [← HPT.out, HPAR.out, show (2, S2).2 % 512 = E5 from HE5.out.symm] at h3
              exact ⟨k + 1, _, by omega, by omega, by go_num, Lib.hid ⟨h, h3⟩⟩
    · have HT0 : Hid (RS w wr (some ⟨g, 0, none⟩) ln c2 L all ∧ Pg.Rep base L [] all) := Lib.hid ⟨HT.out.1, by
        have h := HT.out.2
        rw [show k = L.length by have := HLL.out; omega] at h
        exact h.rep⟩
      clear HT
      go_wp2_with fail
      go_loopw [12] (fun i wx => ∃ (k : Nat) (all : List (List Nat)), k ≤ n ∧ i = .int .i64 k ∧ Hid (RS w wx (some ⟨g, 0, none⟩) ln c2 L all ∧ Pg.Rep base L (Pg.pagesOf (rows.take k)) all)) (fun i _ => n - (intOf i).toNat)
      case atStart => exact ⟨0, all, by omega, rfl, Lib.hid ⟨HT0.out.1, by have h := HT0.out.2; simpa [Pg.pagesOf] using h⟩⟩
      case round =>
        clear HT0 hkn hk hk1
        obtain ⟨k, all, hk, rfl, HT⟩ := hrel
        by_cases hkn : k < n
        · obtain ⟨hA, hbB, hc⟩ := HF.out (by omega)
          subst hA
          obtain ⟨r, hrk⟩ : ∃ r, rows[k]? = some r := ⟨_, List.getElem?_eq_getElem (by have := HLN.out; omega)⟩
          have hIn := HIN.out r (List.mem_of_getElem? hrk)
          have hOk := HOK.out r (List.mem_of_getElem? hrk)
          have htk : rows.take (k + 1) = rows.take k ++ [r] := by rw [List.take_add_one, hrk]; rfl
          have hpg : Pg.pagesOf (rows.take (k + 1)) = Pg.pagesOf (rows.take k) ++ r.pages := by rw [htk]; unfold Pg.pagesOf; rw [List.flatMap_append, List.flatMap_cons, List.flatMap_nil, List.append_nil]
          have hpr : ∀ q ∈ r.pages, q ∈ Pg.pagesOf rows := fun q hq => List.mem_flatMap.2 ⟨r, List.mem_of_getElem? hrk, hq⟩
          have hpx : ∀ j, j < r.cnt → Pg.Chain (Pg.pagesOf (rows.take k) ++ r.pages.take j ++ [r.page j]) := by
            intro j hj
            have h := HCH.out
            have he : Pg.pagesOf rows = (Pg.pagesOf (rows.take k) ++ r.pages.take j ++ [r.page j]) ++ (r.pages.drop (j + 1) ++ Pg.pagesOf (rows.drop (k + 1))) := by
              conv => lhs; rw [← List.take_append_drop k rows]
              rw [Pg.pagesOf_append, Pg.pagesOf_drop hrk]
              conv => lhs; rw [← List.take_append_drop j r.pages, Pg.pages_drop hj]
              simp only [List.append_assoc, List.cons_append, List.nil_append]
            rw [he] at h
            exact ⟨(List.pairwise_append.1 h.1).1, fun q hq => h.2 q (List.mem_append.2 (.inl hq))⟩
          have HBL := HT.out.1.2.2.2.2
          have c0 := (HBL.cell (p := ⟨b, off + k * 6, none⟩) hbB).trans (hc k r hrk 0 _ rfl)
          have c1 := (HBL.cell (p := ⟨b, off + k * 6 + 1, none⟩) hbB).trans (hc k r hrk 1 _ rfl)
          have c2' := (HBL.cell (p := ⟨b, off + k * 6 + 2, none⟩) hbB).trans (hc k r hrk 2 _ rfl)
          have c3 := (HBL.cell (p := ⟨b, off + k * 6 + 3, none⟩) hbB).trans (hc k r hrk 3 _ rfl)
          have c4 := (HBL.cell (p := ⟨b, off + k * 6 + 4, none⟩) hbB).trans (hc k r hrk 4 _ rfl)
          have c5 := (HBL.cell (p := ⟨b, off + k * 6 + 5, none⟩) hbB).trans (hc k r hrk 5 _ rfl)
          have hn1 := hOk.n1
          obtain ⟨v, p, m, bg, wt, ex⟩ := r
          simp only at hn1
          obtain ⟨N, rfl⟩ : ∃ N : Nat, m = N := ⟨m.toNat, by omega⟩
          have hvl : v + N * 4096 ≤ 549755813888 := by have := hOk.vl; simpa using this
          have hpl : p + N * 4096 ≤ 4294967296 := by have := hOk.pl; simpa using this
          have hkk : (k : Int) < (n : Int) := by omega
          have hk0 : (0 : Int) ≤ (k : Int) := by omega
          have HPG := Lib.hid hpg; have HPR := Lib.hid hpr; have HPX := Lib.hid hpx; have HOK1 := Lib.hid hOk
          have hrow := Row.new wr 47 (lcells ⟨v, p, N, bg, wt, ex⟩)
          have hba : Below wr.heap.size wr (wr.alloc (.cells (lcells ⟨v, p, N, bg, wt, ex⟩).toArray 47)) := (Below.refl _ _).alloc (Nat.le_refl _) _
          unfold lcells at hrow hba
          simp only [] at hrow hba
          clear hrk hIn hOk htk hpg hpr hpx hc HBL hn1
          go_upto_region 21 with fail
          obtain ⟨w3, hw3⟩ : ∃ w3, w3 = wr.alloc (.cells #[.int .u64 (v : Nat), .int .u64 (p : Nat), .int .i64 (N : Nat), .bool bg, .bool wt, .bool ex] 47) := ⟨_, rfl⟩
          obtain ⟨gx, hgx⟩ : ∃ gx, gx = wr.heap.size := ⟨_, rfl⟩
          rw [← hw3] at hrow hba ⊢
          rw [← hgx] at hrow ⊢
          have HRS3 : Hid (RS w w3 (some ⟨g, 0, none⟩) ln c2 L all ∧ Pg.Rep base L (Pg.pagesOf (rows.take k)) all) := Lib.hid ⟨HT.out.1.below hba, HT.out.2⟩
          have HROW := Lib.hid hrow
          have d4 := hrow.cell 4
          have d5 := hrow.cell 5
          simp only [List.getElem?_cons_zero, List.getElem?_cons_succ] at d4 d5
          have hgx3 := hrow.lt
          clear hrow hba hw3 hgx c0 c1 c2' c3 c4 c5 HT
          obtain ⟨F1, hF1⟩ : ∃ F1 : Nat, F1 = 1 + (if wt then 2 else 0) := ⟨_, rfl⟩
          obtain ⟨F2, hF2⟩ : ∃ F2 : Nat, F2 = F1 + (if ex then 4 else 0) := ⟨_, rfl⟩
          have hF1l : F1 ≤ 3 := by rw [hF1]; cases wt <;> decide
          have hF2l : F2 ≤ 7 := by rw [hF2]; cases ex <;> simp <;> omega
          have HF1 := Lib.hid hF1; have HF2 := Lib.hid hF2
          clear hF1 hF2
          go_upto_if 108 with fail
          go_cut [14] (fun x wx => x = .int .u64 (F1 : Nat) ∧ wx = w3)
          case first =>
            cases wt with
            | true =>
              obtain rfl : F1 = 3 := HF1.out
              go_wp2_with fail
              go_meet
              case rel => exact ⟨rfl, rfl⟩
            | false =>
              obtain rfl : F1 = 1 := HF1.out
              go_wp2_with fail
              go_meet
              case rel => exact ⟨rfl, rfl⟩
          case rest =>
          obtain ⟨rfl, hwx⟩ := hcut
          rw [hwx]
          clear hwx
          go_upto_if 112 with fail
          go_cut [14] (fun x wx => x = .int .u64 (F2 : Nat) ∧ wx = w3)
          case first =>
            cases ex with
            | true =>
              obtain rfl : F2 = F1 + 4 := HF2.out
              go_wp2_with fail
              go_meet
              case rel => exact ⟨by go_num, rfl⟩
            | false =>
              obtain rfl : F2 = F1 := HF2.out
              go_wp2_with fail
              go_meet
              case rel => exact ⟨rfl, rfl⟩
          case rest =>
          obtain ⟨rfl, hwx⟩ := hcut
          rw [hwx]
          clear hwx d4 d5
          obtain ⟨U, hU⟩ : ∃ U, U = Pg.Lf.u ⟨v, p, N, bg, wt, ex⟩ := ⟨_, rfl⟩
          obtain ⟨C, hC⟩ : ∃ C, C = Pg.Lf.cnt ⟨v, p, N, bg, wt, ex⟩ := ⟨_, rfl⟩
          obtain ⟨NP, hNP⟩ : ∃ NP, NP = N * 4096 := ⟨_, rfl⟩
          have hCU : C * U = NP := by rw [hC, hU, hNP]; exact HOK1.out.cnt_u
          have hU0 : 0 < U := by rw [hU]; rcases Pg.Lf.u_or ⟨v, p, N, bg, wt, ex⟩ with h | h <;> rw [h] <;> omega
          have hUl : U ≤ 2097152 := by rw [hU]; rcases Pg.Lf.u_or ⟨v, p, N, bg, wt, ex⟩ with h | h <;> rw [h] <;> omega
          rw [← hNP] at hvl hpl
          have e1 : IntKind.u64.wrap (N : Int) = (N : Int) := by rw [IntKind.wrap_u64]; omega
          have e2 : IntKind.u64.wrap ((N : Int) * 4096) = (NP : Int) := by rw [IntKind.wrap_u64]; omega
          have e2' : (N : Int) * 4096 = (NP : Int) := by omega
          have HU := Lib.hid hU; have HC := Lib.hid hC; have HNP := Lib.hid hNP; have HCU := Lib.hid hCU
          clear hU hC hNP hCU
          go_wp2_with fail
          go_loopw [15] (fun x wx => ∃ (j J : Nat) (all : List (List Nat)), j ≤ C ∧ J ≤ NP ∧ x = .int .u64 (J : Nat) ∧ Hid (J = j * U) ∧ Hid (RS w wx (some ⟨g, 0, none⟩) ln c2 L all ∧ Pg.Rep base L (Pg.pagesOf (rows.take k) ++ (Pg.Lf.pages ⟨v, p, N, bg, wt, ex⟩).take j) all ∧ Row wx gx 47 [.int .u64 (v : Nat), .int .u64 (p : Nat), .int .i64 (N : Nat), .bool bg, .bool wt, .bool ex])) (fun x _ => mesU U NP x)
          case atStart => exact ⟨0, 0, all, by omega, by omega, rfl, Lib.hid (by simp), Lib.hid ⟨HRS3.out.1, by rw [List.take_zero, List.append_nil]; exact HRS3.out.2, HROW.out⟩⟩
          case round =>
            clear HRS3 HROW hgx3
            obtain ⟨j, J, all, hj, hJN, rfl, HJ, HT⟩ := hrel
            have hgx3 := HT.out.2.2.lt
            have d0 := HT.out.2.2.cell 0
            have d1 := HT.out.2.2.cell 1
            have d2 := HT.out.2.2.cell 2
            have d3 := HT.out.2.2.cell 3
            have d4 := HT.out.2.2.cell 4
            have d5 := HT.out.2.2.cell 5
            simp only [List.getElem?_cons_zero, List.getElem?_cons_succ] at d0 d1 d2 d3 d4 d5
            by_cases hlt : J < NP
            · have hjC : j < C := by
                rcases Nat.lt_or_ge j C with h | h
                · exact h
                · have h1 := HJ.out; have h2 := HCU.out
                  have : j = C := by omega
                  subst this
                  omega
              have hJU : J + U ≤ NP := by
                have h1 := HJ.out; have h2 := HCU.out
                have : (j + 1) * U ≤ C * U := Nat.mul_le_mul_right _ hjC
                rw [Nat.succ_mul] at this
                omega
              obtain ⟨V, hV⟩ : ∃ V, V = v + J := ⟨_, rfl⟩
              obtain ⟨P, hP⟩ : ∃ P, P = p + J := ⟨_, rfl⟩
              have hjc : j < Pg.Lf.cnt ⟨v, p, N, bg, wt, ex⟩ := by rw [← HC.out]; exact hjC
              have hq : Pg.Lf.page ⟨v, p, N, bg, wt, ex⟩ j = ⟨V, P, bg, wt, ex⟩ := by
                rw [hV, hP, HJ.out, HU.out]; rfl
              have hqm : (⟨V, P, bg, wt, ex⟩ : Pg.Pge) ∈ Pg.pagesOf rows := HPR.out _ (by rw [← hq]; exact List.mem_map.2 ⟨j, List.mem_range.2 hjc, rfl⟩)
              have hqc : Pg.Chain (Pg.pagesOf (rows.take k) ++ (Pg.Lf.pages ⟨v, p, N, bg, wt, ex⟩).take j ++ [⟨V, P, bg, wt, ex⟩]) := by rw [← hq]; exact HPX.out j hjc
              have hqt : Pg.pagesOf (rows.take k) ++ (Pg.Lf.pages ⟨v, p, N, bg, wt, ex⟩).take (j + 1) = Pg.pagesOf (rows.take k) ++ (Pg.Lf.pages ⟨v, p, N, bg, wt, ex⟩).take j ++ [⟨V, P, bg, wt, ex⟩] := by rw [Pg.pages_take hjc, hq, List.append_assoc]
              have hP4 : P % 4096 = 0 := by
                have h := (HCH.out.2 _ hqm).pa
                rcases Pg.Pge.u_or ⟨V, P, bg, wt, ex⟩ with ⟨h1, _⟩ | ⟨h1, _⟩ <;> rw [h1] at h <;> simp only at h <;> omega
              have hV2 : V < 549755813888 := by omega
              have hP2 : P < 4294967296 := by omega
              have f1 : decide (J < NP) = true := decide_eq_true hlt
              have e3 : IntKind.u64.wrap ((v : Int) + (J : Int)) = (V : Int) := by rw [IntKind.wrap_u64]; omega
              have e3' : (v : Int) + (J : Int) = (V : Int) := by omega
              have e4 : IntKind.u64.wrap ((p : Int) + (J : Int)) = (P : Int) := by rw [IntKind.wrap_u64]; omega
              have e4' : (p : Int) + (J : Int) = (P : Int) := by omega
              have e4w : IntKind.u64.wrap (P : Int) = (P : Int) := by rw [IntKind.wrap_u64]; omega
              have e3w : IntKind.u64.wrap (V : Int) = (V : Int) := by rw [IntKind.wrap_u64]; omega
              have e5 : IntKind.u64.wrap ((J : Int) + (U : Int)) = (J : Int) + (U : Int) := by rw [IntKind.wrap_u64]; omega
              have HLT := Lib.hid hlt; have HQC := Lib.hid hqc; have HQT := Lib.hid hqt; have HQM := Lib.hid hqm
              clear hlt hqc hqt hq hV hP
              cases bg with
              | true =>
                have hmem : (1, V / 1073741824) ∈ L := (HWT.out.big _ hqm rfl).1
                have hup := List.idxOf_lt_length_iff.2 hmem
                rw [← HLL.out] at hup
                obtain ⟨V1, hV1⟩ : ∃ V1, V1 = V / 1073741824 * 1073741824 := ⟨_, rfl⟩
                have HFI : Hid (∀ wx, HasR wx (some ⟨g, 0, none⟩) L → Calls Try.prog 61 #[.slice (some ⟨g, 0, none⟩) ln c2, .int .i64 1, .int .u64 (V1 : Nat)] wx fun e w' => e = .returned (.int .i64 (L.idxOf (1, V / 1073741824) : Nat)) ∧ w' = wx) := Lib.hid fun wx hx => by
                  have h := find_any (some ⟨g, 0, none⟩) ln c2 L (1, V / 1073741824) wx hx HLL.out (by omega) hmem
                  rw [show vOf (1, V / 1073741824) = V1 from hV1.symm] at h
                  exact h
                have m1 : bits .andNot .u64 (V : Int) 1073741823 = (V1 : Int) := by rw [hV1]; exact andn_b1 V (by omega)
                have m2 : IntKind.u64.wrap 1073741823 = 1073741823 := by decide
                obtain ⟨M, hM⟩ : ∃ M, M = V / 2097152 := ⟨_, rfl⟩
                have m3 : (V : Int) / 2097152 = (M : Int) := by omega
                have m4 : (V : Int).tdiv 2097152 = (M : Int) := by rw [Int.tdiv_eq_ediv_of_nonneg (by omega)]; exact m3
                obtain ⟨E5, hE5⟩ : ∃ E5, E5 = M % 512 := ⟨_, rfl⟩
                have m5 : (M : Int) % 512 = (E5 : Int) := by omega
                have m6 : (M : Int).tmod 512 = (E5 : Int) := by rw [Int.tmod_eq_emod_of_nonneg (by omega)]; exact m5
                have m7 : IntKind.u64.wrap (M : Int) = (M : Int) := by rw [IntKind.wrap_u64]; omega
                have m8 : IntKind.u64.wrap (E5 : Int) = (E5 : Int) := by rw [IntKind.wrap_u64]; omega
                have hE0 : (0 : Int) ≤ (E5 : Int) := by omega
                have hE1 : (E5 : Int) < 512 := by omega
                have hE2 : E5 < 512 := by omega
                obtain ⟨UP, hUP⟩ : ∃ UP, UP = L.idxOf (1, V / 1073741824) := ⟨_, rfl⟩
                rw [← hUP] at HFI hup
                have hup0 : (0 : Int) ≤ (UP : Int) := by omega
                have hup1 : (UP : Int) < (ln : Int) := by omega
                obtain ⟨X1, hX1⟩ : ∃ X1, X1 = P ||| F2 := ⟨_, rfl⟩
                have n1 : bits .or .u64 (P : Int) (F2 : Int) = (X1 : Int) := by rw [hX1]; exact u64_or_nat P F2 (by omega) (by omega)
                have hX1l : X1 < 18446744073709551616 := by rw [hX1, Pg.or_add hP4 (by omega)]; omega
                obtain ⟨X, hX⟩ : ∃ X, X = X1 ||| 8 := ⟨_, rfl⟩
                have n2 : bits .or .u64 (X1 : Int) 8 = (X : Int) := by rw [hX]; exact u64_or_nat X1 8 hX1l (by decide)
                have HXN : Hid (X = Pg.Pge.num ⟨V, P, true, wt, ex⟩) := Lib.hid (by
                  have h := or_flags hP4 (show F2 < 8 by omega) true
                  simp only [if_true] at h
                  rw [hX, hX1, h, HF2.out, HF1.out]
                  unfold Pg.Pge.num
                  simp only [if_true])
                have HPE : Hid (Pg.pOf L ⟨V, P, true, wt, ex⟩ = UP ∧ Pg.eOf ⟨V, P, true, wt, ex⟩ = E5) := Lib.hid ⟨hUP.symm, by rw [hE5, hM]; rfl⟩
                obtain ⟨⟨u0, o1⟩, o2⟩ := HT.out.1.old (i := UP) (e := E5) (by omega) hE2
                have hgl : g < wr.heap.size := by obtain ⟨g', hA, _, h, _⟩ := HT.out.1.form hpos; injection hA with hA; injection hA with hA; subst hA; exact h
                have hne : g ≠ gx := by
                  obtain ⟨cur, hblk⟩ := own_blk' HT.out.1.1 g rfl
                  exact fun h => absurd rfl (Blk.ne_ (cs := cur) (cs' := (#[.int .u64 (v : Nat), .int .u64 (p : Nat), .int .i64 (N : Nat), .bool true, .bool wt, .bool ex] : Array Value)) (h ▸ hblk) HT.out.2.2 (by decide))
                have KEEP : Hid (∀ (w' : World) (v' : Value), w'.cell? ⟨gx, 1, none⟩ = some (.int .u64 (p : Nat)) → (w'.setCell ⟨g, UP * 514 + 2 + E5, none⟩ v').cell? ⟨gx, 1, none⟩ = some (.int .u64 (p : Nat))) := Lib.hid fun w' v' h => (World.cell?_setCell_other _ _ _ _ (by intro h; injection h; omega)).trans h
                have HHR := Lib.hid HT.out.1.has
                have HE2 := Lib.hid hE2
                have HNE := Lib.hid hne
                clear hmem hV1 hM hE5 hUP hX1 hX1l hX hE2 hne
                go_wp2_with fail
                go_region_held3 (fun w' => w'.cell? ⟨gx, 1, none⟩ = some (.int .u64 (p : Nat)))
                  (first | exact d1 | exact d9 | exact KEEP.out _ _ (by assumption))
                  (first | (go_at_call 60; refine (reach1_any _).mono ?_; rintro en w' ⟨rfl, hbm⟩; have d9 : w'.cell? ⟨gx, 1, none⟩ = some (.int .u64 (p : Nat)) := (hbm.cell (p := ⟨gx, 1, none⟩) hgx3).trans d1; have o3 := (hbm.cell (p := ⟨g, UP * 514 + 2 + E5, none⟩) hgl).trans o1; have o4 := (hbm.frozen (p := ⟨g, UP * 514 + 2 + E5, none⟩) hgl).trans o2; have hls := hbm.size; have HBM : Hid (Below wr.heap.size wr w') := Lib.hid (((Below.refl wr.heap.size wr).drew).trans hbm); clear hbm) | (go_at_call 61; refine (HFI.out _ (HHR.out.below HBM.out)).mono ?_; rintro e wb ⟨rfl, rfl⟩))
                all_goals
                  have hst := (HT.out.1.below HBM.out).store (i := UP) (e := E5) (by omega) HE2.out X
                  have hrp := Pg.Rep.lay HT.out.2.1 HWT.out HQM.out HQC.out
                  rw [HPE.out.1, HPE.out.2, ← HXN.out, ← HQT.out] at hrp
                  have hro : Row (wb.setCell ⟨g, UP * 514 + 2 + E5, none⟩ (.int .u64 (X : Nat))) gx 47 [.int .u64 (v : Nat), .int .u64 (p : Nat), .int .i64 (N : Nat), .bool true, .bool wt, .bool ex] := (HT.out.2.2.below (HBM.out) HT.out.2.2.lt).far (p := ⟨g, UP * 514 + 2 + E5, none⟩) (fun h => HNE.out h.symm) _
                  have k0 := hro.cell 0
                  have k1 := hro.cell 1
                  have k2 := hro.cell 2
                  have k3 := hro.cell 3
                  have k4 := hro.cell 4
                  have k5 := hro.cell 5
                  simp only [List.getElem?_cons_zero, List.getElem?_cons_succ] at k0 k1 k2 k3 k4 k5
                  have HST := Lib.hid hst; have HRP := Lib.hid hrp; have HRO := Lib.hid hro
                  clear hst hrp hro HBM HT
                  go_wp2_with (go_at_call 49; refine (runit_any ⟨v, p, N, true, wt, ex⟩ _).mono ?_; rintro e w5 ⟨rfl, hb5⟩; rw [← HU.out]; have HB5 := Lib.hid hb5; clear hb5)
                  go_roundw
                  case measure => first | exact mesU_lt hU0 HLT.out | exact mesU_lt' hU0 HLT.out
                  case rel => exact ⟨j + 1, J + U, _, hjC, hJU, by go_num, Lib.hid (by rw [HJ.out, Nat.succ_mul]), Lib.hid ⟨HST.out.below HB5.out, HRP.out, HRO.out.below HB5.out HRO.out.lt⟩⟩
              | false =>
                have hmem : (2, V / 2097152) ∈ L := HWT.out.small _ hqm rfl
                have hup := List.idxOf_lt_length_iff.2 hmem
                rw [← HLL.out] at hup
                obtain ⟨V1, hV1⟩ : ∃ V1, V1 = V / 2097152 * 2097152 := ⟨_, rfl⟩
                have HFI : Hid (∀ wx, HasR wx (some ⟨g, 0, none⟩) L → Calls Try.prog 61 #[.slice (some ⟨g, 0, none⟩) ln c2, .int .i64 2, .int .u64 (V1 : Nat)] wx fun e w' => e = .returned (.int .i64 (L.idxOf (2, V / 2097152) : Nat)) ∧ w' = wx) := Lib.hid fun wx hx => by
                  have h := find_any (some ⟨g, 0, none⟩) ln c2 L (2, V / 2097152) wx hx HLL.out (by omega) hmem
                  rw [show vOf (2, V / 2097152) = V1 from hV1.symm] at h
                  exact h
                have m1 : bits .andNot .u64 (V : Int) 2097151 = (V1 : Int) := by rw [hV1]; exact andn_b2 V (by omega)
                have m2 : IntKind.u64.wrap 2097151 = 2097151 := by decide
                obtain ⟨M, hM⟩ : ∃ M, M = V / 4096 := ⟨_, rfl⟩
                have m3 : (V : Int) / 4096 = (M : Int) := by omega
                have m4 : (V : Int).tdiv 4096 = (M : Int) := by rw [Int.tdiv_eq_ediv_of_nonneg (by omega)]; exact m3
                obtain ⟨E5, hE5⟩ : ∃ E5, E5 = M % 512 := ⟨_, rfl⟩
                have m5 : (M : Int) % 512 = (E5 : Int) := by omega
                have m6 : (M : Int).tmod 512 = (E5 : Int) := by rw [Int.tmod_eq_emod_of_nonneg (by omega)]; exact m5
                have m7 : IntKind.u64.wrap (M : Int) = (M : Int) := by rw [IntKind.wrap_u64]; omega
                have m8 : IntKind.u64.wrap (E5 : Int) = (E5 : Int) := by rw [IntKind.wrap_u64]; omega
                have hE0 : (0 : Int) ≤ (E5 : Int) := by omega
                have hE1 : (E5 : Int) < 512 := by omega
                have hE2 : E5 < 512 := by omega
                obtain ⟨UP, hUP⟩ : ∃ UP, UP = L.idxOf (2, V / 2097152) := ⟨_, rfl⟩
                rw [← hUP] at HFI hup
                have hup0 : (0 : Int) ≤ (UP : Int) := by omega
                have hup1 : (UP : Int) < (ln : Int) := by omega
                obtain ⟨X1, hX1⟩ : ∃ X1, X1 = P ||| F2 := ⟨_, rfl⟩
                have n1 : bits .or .u64 (P : Int) (F2 : Int) = (X1 : Int) := by rw [hX1]; exact u64_or_nat P F2 (by omega) (by omega)
                have hX1l : X1 < 18446744073709551616 := by rw [hX1, Pg.or_add hP4 (by omega)]; omega
                obtain ⟨X, hX⟩ : ∃ X, X = X1 := ⟨_, rfl⟩
                have HXN : Hid (X = Pg.Pge.num ⟨V, P, false, wt, ex⟩) := Lib.hid (by
                  rw [hX, hX1, Pg.or_add hP4 (by omega), HF2.out, HF1.out]
                  unfold Pg.Pge.num
                  simp only [Bool.false_eq_true, if_false, Nat.add_zero])
                rw [← hX] at n1
                have HPE : Hid (Pg.pOf L ⟨V, P, false, wt, ex⟩ = UP ∧ Pg.eOf ⟨V, P, false, wt, ex⟩ = E5) := Lib.hid ⟨hUP.symm, by rw [hE5, hM]; rfl⟩
                obtain ⟨⟨u0, o1⟩, o2⟩ := HT.out.1.old (i := UP) (e := E5) (by omega) hE2
                have hgl : g < wr.heap.size := by obtain ⟨g', hA, _, h, _⟩ := HT.out.1.form hpos; injection hA with hA; injection hA with hA; subst hA; exact h
                have hne : g ≠ gx := by
                  obtain ⟨cur, hblk⟩ := own_blk' HT.out.1.1 g rfl
                  exact fun h => absurd rfl (Blk.ne_ (cs := cur) (cs' := (#[.int .u64 (v : Nat), .int .u64 (p : Nat), .int .i64 (N : Nat), .bool false, .bool wt, .bool ex] : Array Value)) (h ▸ hblk) HT.out.2.2 (by decide))
                have KEEP : Hid (∀ (w' : World) (v' : Value), w'.cell? ⟨gx, 1, none⟩ = some (.int .u64 (p : Nat)) → (w'.setCell ⟨g, UP * 514 + 2 + E5, none⟩ v').cell? ⟨gx, 1, none⟩ = some (.int .u64 (p : Nat))) := Lib.hid fun w' v' h => (World.cell?_setCell_other _ _ _ _ (by intro h; injection h; omega)).trans h
                have HHR := Lib.hid HT.out.1.has
                have HE2 := Lib.hid hE2
                have HNE := Lib.hid hne
                clear hmem hV1 hM hE5 hUP hX1 hX1l hX hE2 hne
                go_wp2_with fail
                go_region_held3 (fun w' => w'.cell? ⟨gx, 1, none⟩ = some (.int .u64 (p : Nat)))
                  (first | exact d1 | exact d9 | exact KEEP.out _ _ (by assumption))
                  (first | (go_at_call 60; refine (reach2_any _).mono ?_; rintro en w' ⟨rfl, hbm⟩; have d9 : w'.cell? ⟨gx, 1, none⟩ = some (.int .u64 (p : Nat)) := (hbm.cell (p := ⟨gx, 1, none⟩) hgx3).trans d1; have o3 := (hbm.cell (p := ⟨g, UP * 514 + 2 + E5, none⟩) hgl).trans o1; have o4 := (hbm.frozen (p := ⟨g, UP * 514 + 2 + E5, none⟩) hgl).trans o2; have hls := hbm.size; have HBM : Hid (Below wr.heap.size wr w') := Lib.hid (((Below.refl wr.heap.size wr).drew).trans hbm); clear hbm) | (go_at_call 61; refine (HFI.out _ (HHR.out.below HBM.out)).mono ?_; rintro e wb ⟨rfl, rfl⟩))
                all_goals
                  have hst := (HT.out.1.below HBM.out).store (i := UP) (e := E5) (by omega) HE2.out X
                  have hrp := Pg.Rep.lay HT.out.2.1 HWT.out HQM.out HQC.out
                  rw [HPE.out.1, HPE.out.2, ← HXN.out, ← HQT.out] at hrp
                  have hro : Row (wb.setCell ⟨g, UP * 514 + 2 + E5, none⟩ (.int .u64 (X : Nat))) gx 47 [.int .u64 (v : Nat), .int .u64 (p : Nat), .int .i64 (N : Nat), .bool false, .bool wt, .bool ex] := (HT.out.2.2.below (HBM.out) HT.out.2.2.lt).far (p := ⟨g, UP * 514 + 2 + E5, none⟩) (fun h => HNE.out h.symm) _
                  have k0 := hro.cell 0
                  have k1 := hro.cell 1
                  have k2 := hro.cell 2
                  have k3 := hro.cell 3
                  have k4 := hro.cell 4
                  have k5 := hro.cell 5
                  simp only [List.getElem?_cons_zero, List.getElem?_cons_succ] at k0 k1 k2 k3 k4 k5
                  have HST := Lib.hid hst; have HRP := Lib.hid hrp; have HRO := Lib.hid hro
                  clear hst hrp hro HBM HT
                  go_wp2_with (go_at_call 49; refine (runit_any ⟨v, p, N, false, wt, ex⟩ _).mono ?_; rintro e w5 ⟨rfl, hb5⟩; rw [← HU.out]; have HB5 := Lib.hid hb5; clear hb5)
                  go_roundw
                  case measure => first | exact mesU_lt hU0 HLT.out | exact mesU_lt' hU0 HLT.out
                  case rel => exact ⟨j + 1, J + U, _, hjC, hJU, by go_num, Lib.hid (by rw [HJ.out, Nat.succ_mul]), Lib.hid ⟨HST.out.below HB5.out, HRP.out, HRO.out.below HB5.out HRO.out.lt⟩⟩
            · have HK : Hid (j = C) := Lib.hid (by
                have h1 := HJ.out; have h2 := HCU.out
                rcases Nat.lt_or_ge j C with h | h
                · have : (j + 1) * U ≤ C * U := Nat.mul_le_mul_right _ h
                  rw [Nat.succ_mul] at this
                  omega
                · omega)
              have f1 : decide (J < NP) = false := decide_eq_false hlt
              go_wp2_with fail
              go_roundw
              case measure => simp [intOf]; omega
              case rel =>
                refine ⟨k + 1, all, by omega, by go_num, Lib.hid ⟨HT.out.1, ?_⟩⟩
                have h := HT.out.2.1
                rw [HK.out, HC.out, Pg.pages_all, ← HPG.out] at h
                exact h
        · have HT0 : Hid (RS w wr (some ⟨g, 0, none⟩) ln c2 L all ∧ Pg.Rep base L (Pg.pagesOf rows) all) := Lib.hid ⟨HT.out.1, by
            have h := HT.out.2
            rw [List.take_of_length_le (by have := HLN.out; omega)] at h
            exact h⟩
          have hlall : all.length = ln := by have h := HT.out.1; rw [h.2.2.1]; exact h.2.1.symm
          have HLA := Lib.hid hlall
          have HB0 : Hid (Below w.heap.size w wr) := Lib.hid HT.out.1.2.2.2.2
          clear HT hlall
          obtain ⟨i0, hi0, hz1, hz2, hz3⟩ := info_parts infoTabA
          have hbt := tab_one
          obtain ⟨Z5, hZ5⟩ : ∃ Z5, Z5 = zeros 512 := ⟨_, rfl⟩
          rw [← hZ5] at hz1
          have hz5 : Z5.toArray.size = 512 := by rw [hZ5]; simp [zeros]
          have HZ5 := Lib.hid hz5
          clear hZ5 hz5
          have hinf : (Try.prog.info? 23).map (·.size) = some 512 := by kernel_rfl
          have HI := Lib.hid hi0; have HZ1 := Lib.hid hz1; have HZ2 := Lib.hid hz2; have HZ3 := Lib.hid hz3; have HBT := Lib.hid hbt; have HINF := Lib.hid hinf
          clear hi0 hz1 hz2 hz3 hbt hinf
          go_wp2_with fail
          go_loopw [18, 17] (fun i o wx => ∃ (k : Nat) (A3 : Option Addr) (c3 : Nat), k ≤ ln ∧ i = .int .i64 k ∧ o = .slice A3 k c3 ∧ Hid (wx.ownsRow w.heap.size 24 512 (.slice A3 k c3) k (tcells (all.take k)) ∧ RS w wx (some ⟨g, 0, none⟩) ln c2 L all)) (fun i _ _ => ln - (intOf i).toNat)
          case atStart => exact ⟨0, none, 0, by omega, rfl, rfl, Lib.hid ⟨by rw [List.take_zero]; exact own_nil _ _ _ _, HT0.out.1⟩⟩
          case round =>
            have HRP := Lib.hid HT0.out.2
            clear HT0 hkn hk HB0
            obtain ⟨k, A3, c3, hk, rfl, rfl, HT⟩ := hrel
            by_cases hkn : k < ln
            · have hkk : (k : Int) < (ln : Int) := by omega
              have hk0 : (0 : Int) ≤ (k : Int) := by omega
              obtain ⟨V, hV⟩ : ∃ V, V = (all.getD k []).map u64v := ⟨_, rfl⟩
              have hvl : V.length = 512 := by
                rw [hV, List.length_map]
                refine HT.out.2.2.2.2.1 _ ?_
                rw [List.getD_eq_getElem?_getD, List.getElem?_eq_getElem (show k < all.length by rw [HLA.out]; exact hkn)]
                exact List.getElem_mem _
              have hra : wr.rangeAt g (k * 514 + 2) V := by rw [hV]; exact HT.out.2.row hkn
              have hv1 : ∀ u ∈ V, u.oneCell' = true := by
                intro u hu
                rw [hV] at hu
                obtain ⟨x, _, rfl⟩ := List.mem_map.1 hu
                rfl
              have htk : tcells (all.take (k + 1)) = tcells (all.take k) ++ V := by
                have hka : k < all.length := by rw [HLA.out]; exact hkn
                rw [List.take_succ_eq_append_getElem hka]
                unfold tcells
                rw [List.flatMap_append, List.flatMap_cons, List.flatMap_nil, List.append_nil, hV, List.getD_eq_getElem?_getD, List.getElem?_eq_getElem hka]
                rfl
              have HVL := Lib.hid hvl; have HRA := Lib.hid hra; have HV1 := Lib.hid hv1; have HTK := Lib.hid htk
              clear hvl hra hv1 htk hV
              have HRD : Hid (∀ wx : World, Reads (wx.alloc (.cells V.toArray 24)) (wx.alloc (.cells V.toArray 24)).heap.size 512 (some ⟨wx.heap.size, 0, none⟩) 1 V) := Lib.hid (by
                intro wx
                have h := (Row.new wx 24 V)
                refine ⟨by rw [HVL.out], fun _ => ⟨_, rfl, h.lt, fun j u hu => ?_⟩⟩
                rw [Addr.add_mid, Nat.zero_add, h.cell, hu])
              have hws : w.heap.size ≤ wr.heap.size := HT.out.2.2.2.2.2.size
              go_wp2_with (first | (refine wpList_load_midw (by rfl) _ _ rfl _ _ (by rfl) V (.array 512 22) HRA.out Try.underlying23 rfl (by rw [HINF.out, HVL.out]) ?_) | (refine wpList_built (V := .agg V.toArray) (by rfl) 42 (.tmp 181) rfl (by rfl) (HBT.out V HVL.out _) ?_) | (at_builtin; refine wpList_append_sl _ (by rfl) (.tmp 176) (.tmp 182) 42 rfl w.heap.size 24 i0 _ 512 4096 Try.underlying42 HI.out HZ1.out HZ2.out HZ3.out HZ5.out (by omega) (.slice A3 k c3) k (tcells (all.take k)) rfl (HT.out.1.alloc _) _ (some ⟨wr.heap.size, 0, none⟩) 1 1 V rfl (HRD.out _) HV1.out (by unfold maxLen; omega) (by omega) (by simp; omega) ?_; intro A1 c1' w4 hown1 hrd1 hg1 hat1; have HOWN1 := Lib.hid hown1; have HG1 := Lib.hid hg1; clear hown1 hrd1 hg1 hat1))
              go_roundw
              case measure => simp [intOf]; omega
              case rel =>
                refine ⟨k + 1, A1, c1', by omega, by go_num, by go_num, Lib.hid ⟨by rw [HTK.out]; exact HOWN1.out, ?_⟩⟩
                have h1 := HT.out.2.below ((Below.refl wr.heap.size wr).alloc (Nat.le_refl _) (.cells V.toArray 24))
                have hne : ∀ x, (Value.slice A3 k c3).ownBlock = some x → x ≠ g := by
                  intro x hx he
                  subst he
                  obtain ⟨cu1, hb1⟩ := own_blk' HT.out.1 x hx
                  obtain ⟨cu2, hb2⟩ := own_blk' HT.out.2.1 x rfl
                  exact absurd rfl (Blk.ne_ hb1 hb2 (by decide))
                refine ⟨?_, h1.2.1, h1.2.2.1, h1.2.2.2.1, h1.2.2.2.2.grown HG1.out (by simp; omega) (fun x hx => (HT.out.1.lt x hx).1)⟩
                exact h1.1.kept HG1.out (.inr fun he => hne g he.symm rfl)
            · have HK : Hid (k = ln) := Lib.hid (by omega)
              have f1 : decide (k < ln) = false := decide_eq_false hkn
              have HOUT : Hid (wr.ownsRow w.heap.size 24 512 (.slice A3 k c3) ln (tcells all)) := Lib.hid (by
                have h := HT.out.1
                rw [HK.out, List.take_of_length_le (by rw [HLA.out]; exact Nat.le_refl _)] at h
                rw [HK.out]
                exact h)
              have HR9 := Lib.hid HT.out.2
              clear HT
              go_wp2_with fail
              go_ret2
              refine ⟨A3, c3, all, by rw [HK.out]; rfl, HRP.out, HLA.out, ?_, HR9.out.2.2.2.1, HR9.out.2.2.2.2⟩
              have h := HOUT.out
              rw [HK.out] at h
              rw [HLA.out]
              exact h
end Go.Proofs.Ytblfagmoilhdnaa

/- The walk of the document's Build, of any rows. -/
set_option linter.unusedVariables false
set_option linter.unusedSimpArgs false
namespace Go.Proofs.Ytblfagmoilhdnaa
open Go.RowKit
namespace Pg
theorem entry_lt {base : Nat} {L : List Lab} {qs : List Pge} (hc : Chain qs) (t : Lab) (e : Nat) : entry base L qs t e < 18446744073709551616 := by
  have hp : ∀ b k, pageAt qs b k < 18446744073709551616 := by
    intro b k
    unfold pageAt
    cases hf : qs.find? (fun q => q.b == b && q.v / bu b == k) with
    | none => simp
    | some q => exact num_lt (hc.2 q (List.mem_of_find?_eq_some hf))
  unfold entry
  repeat' split
  all_goals first | exact ptr_lt _ _ | exact hp _ _ | decide
theorem rep_lt {base : Nat} {L : List Lab} {qs : List Pge} {all : List (List Nat)} (h : Rep base L qs all) (hc : Chain qs) (hl : ∀ a ∈ all, a.length = 512) : Tabs all := by
  intro t ht
  refine ⟨hl t ht, fun x hx => ?_⟩
  obtain ⟨i, hi, rfl⟩ := List.getElem_of_mem ht
  obtain ⟨e, he, rfl⟩ := List.getElem_of_mem hx
  have h5 := hl _ ht
  have hiL : i < L.length := by rw [← h.len]; exact hi
  have h1 := h.ent i L[i] (List.getElem?_eq_getElem hiL) e (by omega)
  unfold cell at h1
  rw [List.getD_eq_getElem?_getD (l := all), List.getElem?_eq_getElem hi, Option.getD_some, List.getD_eq_getElem?_getD, List.getElem?_eq_getElem he, Option.getD_some] at h1
  rw [h1]
  exact entry_lt hc _ _
end Pg
set_option maxRecDepth 100000 in
set_option maxHeartbeats 1000000 in
theorem rbuild_any (A : Option Addr) (n c base : Nat) (rows : List Pg.Lf) (w : World) (hr : IsL w w.heap.size A n rows) (hbl : base < 18446744073709551616) :
    Calls Try.prog 34 #[.slice A n c, .int .u64 (base : Nat)] w fun e w' => ∃ A' c', e = .returned (tansV A' c' (Pg.ansB rows base)) ∧ IsT w w' A' c' (Pg.ansB rows base).1 := by
  obtain ⟨B2, hB2⟩ : ∃ B2, B2 = base / 4096 * 4096 % 4294967296 := ⟨_, rfl⟩
  have hC := Pg.refC_ans rows B2
  have hans : Pg.ansB rows base = (if (Pg.ans rows B2).2 ≠ 0 then ([], (Pg.ans rows B2).2) else if base % 4096 ≠ 0 then ([], 33) else if 4294967296 ≤ base ∨ (4294967296 - base) / 4096 < (Pg.ans rows B2).1.length then ([], 34) else (Pg.ans rows B2)) := by
    rw [hB2]; rfl
  by_cases hgood : (Pg.ans rows B2).2 = 0 ∧ base % 4096 = 0 ∧ ¬ (4294967296 ≤ base ∨ (4294967296 - base) / 4096 < (Pg.ans rows B2).1.length)
  · obtain ⟨g1, g2, g3⟩ := hgood
    obtain ⟨hrt, hch, s, hs, hkn, hls⟩ := Pg.ans_known g1
    have hlen := Pg.ans_len rows B2 g1
    have hrl := Pg.refT_len hrt B2
    have hcap : (Pg.refT rows).length ≤ 1024 := by
      rcases Nat.lt_or_ge 1024 (Pg.refT rows).length with h | h
      · rw [hrl.1.1 h] at hs; cases hs
      · exact h
    have hll : (Pg.refT rows).length = (Pg.ans rows B2).1.length := by
      rw [hrl.2 hcap, hls, hkn.rep.len]
    have hbb : B2 = base := by omega
    rw [hbb] at hB2 hans hll g1 hlen g3
    refine (rbuild_ok A n c base rows w hr g2 hrt hcap (by rw [hll]; omega) (by omega)).mono ?_
    rintro e w' ⟨A', c', all, rfl, hrep, hla, hown, h5, hbel⟩
    have ha := Pg.rep_ans hrt hcap hrep
    have hB : Pg.ansB rows base = (all, 0) := by
      rw [hans, if_neg (by simp [g1]), if_neg (by simp [g2]), if_neg g3, ha]
    rw [hB]
    exact ⟨A', c', by unfold tansV; rw [hla]; rfl, hown, Pg.rep_lt hrep hch h5, hbel⟩
  · have HRC := Lib.hid (rcount_any A n c rows w hr)
    have HL := Lib.hid (Pg.ans_len rows B2)
    rw [hC] at HRC
    obtain ⟨a, ha⟩ : ∃ a, a = Pg.ans rows B2 := ⟨_, rfl⟩
    rw [← ha] at HRC hgood hans HL
    obtain ⟨l, f⟩ := a
    simp only at HRC hans hgood HL
    obtain ⟨R, hR⟩ : ∃ R, R = Pg.ansB rows base := ⟨_, rfl⟩
    rw [← hR] at hans ⊢
    obtain ⟨nl, hnl⟩ : ∃ nl, nl = l.length := ⟨_, rfl⟩
    rw [← hnl] at HRC hgood hans HL
    obtain ⟨M, hM⟩ : ∃ M, M = base % 4096 := ⟨_, rfl⟩
    rw [← hM] at hgood hans
    have h4 : (base : Int) % 4096 = (M : Int) := by omega
    have h5 : (base : Int).tmod 4096 = (M : Int) := by rw [Int.tmod_eq_emod_of_nonneg (by omega)]; exact h4
    have HRES := Lib.hid hans
    clear ha hC hans hR hnl hM hB2 hr
    unfold tansV
    by_cases hf : f = 0
    · have q1 : ((f : Int) != 0) = false := by rw [bne_eq_false_iff_eq]; omega
      have hl := HL.out hf
      have hl2 := hl.2
      have HF := Lib.hid hf
      by_cases hm : M = 0
      · have hq : 4294967296 ≤ base ∨ (4294967296 - base) / 4096 < nl := by
          rcases Classical.em (4294967296 ≤ base ∨ (4294967296 - base) / 4096 < nl) with h | h
          · exact h
          · exact absurd ⟨hf, hm, h⟩ hgood
        have q2 : decide ((0 : Int) < (M : Int)) = false := decide_eq_false (by omega)
        have q2' : decide (0 < M) = false := decide_eq_false (by omega)
        have HM := Lib.hid hm
        have HQ := Lib.hid hq
        have e1 : IntKind.u64.wrap (nl : Int) = (nl : Int) := by rw [IntKind.wrap_u64]; omega
        by_cases q6 : 4294967296 ≤ base
        · have f6 : decide ((4294967296 : Int) ≤ (base : Int)) = true := decide_eq_true (by omega)
          clear hf hm hq hgood hl q6
          go_enter Try.func34, Try.ntmps34
          go_wp2_with fail
          refine HRC.out.mono ?_
          rintro e w1 ⟨rfl, hb1⟩
          have HB1 := Lib.hid hb1
          clear hb1 HRC
          go_wp2_with fail
          go_ret2
          rw [HRES.out, if_neg (by simp [HF.out]), if_neg (by simp [HM.out]), if_pos HQ.out]
          exact ⟨none, 0, rfl, IsT.nil HB1.out⟩
        · obtain ⟨D, hD⟩ : ∃ D, D = 4294967296 - base := ⟨_, rfl⟩
          have e2 : IntKind.u64.wrap ((4294967296 : Int) - (base : Int)) = (D : Int) := by rw [IntKind.wrap_u64]; omega
          obtain ⟨Z, hZ⟩ : ∃ Z, Z = D / 4096 := ⟨_, rfl⟩
          have e3 : (D : Int) / 4096 = (Z : Int) := by omega
          have e6 : IntKind.u64.wrap (Z : Int) = (Z : Int) := by rw [IntKind.wrap_u64]; omega
          have e4 : decide (Z < nl) = true := decide_eq_true (by omega)
          have e5 : decide ((4294967296 : Int) ≤ (base : Int)) = false := decide_eq_false (by omega)
          clear hf hm hq hgood hl q6 hD hZ
          go_enter Try.func34, Try.ntmps34
          go_wp2_with fail
          refine HRC.out.mono ?_
          rintro e w1 ⟨rfl, hb1⟩
          have HB1 := Lib.hid hb1
          clear hb1 HRC
          go_wp2_with fail
          go_ret2
          rw [HRES.out, if_neg (by simp [HF.out]), if_neg (by simp [HM.out]), if_pos HQ.out]
          exact ⟨none, 0, rfl, IsT.nil HB1.out⟩
      · have q2 : decide ((0 : Int) < (M : Int)) = true := decide_eq_true (by omega)
        have q2' : decide (0 < M) = true := decide_eq_true (by omega)
        have HM := Lib.hid hm
        clear hf hm hgood hl
        go_enter Try.func34, Try.ntmps34
        go_wp2_with fail
        refine HRC.out.mono ?_
        rintro e w1 ⟨rfl, hb1⟩
        have HB1 := Lib.hid hb1
        clear hb1 HRC
        go_wp2_with fail
        go_ret2
        rw [HRES.out, if_neg (by simp [HF.out]), if_pos HM.out]
        exact ⟨none, 0, rfl, IsT.nil HB1.out⟩
    · have q1 : ((f : Int) != 0) = true := by rw [bne_iff_ne]; omega
      have HF := Lib.hid hf
      clear hf hgood
      go_enter Try.func34, Try.ntmps34
      go_wp2_with fail
      refine HRC.out.mono ?_
      rintro e w1 ⟨rfl, hb1⟩
      have HB1 := Lib.hid hb1
      clear hb1 HRC
      go_wp2_with fail
      go_ret2
      rw [HRES.out, if_pos HF.out]
      exact ⟨none, 0, rfl, IsT.nil HB1.out⟩
end Go.Proofs.Ytblfagmoilhdnaa
