/- The walk of the law's told. -/
import Derived.Test.YtchajbegjajlkaaPtF
import Derived.Deep.RegionHeld3
import Derived.Deep.Cut
import Derived.Deep.DeepCutAuto
set_option linter.unusedVariables false
set_option linter.unusedSimpArgs false
namespace Go.Proofs.Ytchajbegjajlkaa
open Go.RowKit
open S8
/-- how many points lie below k -/
def cntU (f : Nat → Bool) : Nat → Nat
  | 0 => 0
  | k + 1 => cntU f k + if f k then 1 else 0
theorem cntU_le (f : Nat → Bool) (k : Nat) : cntU f k ≤ k := by
  induction k with
  | zero => exact Nat.le_refl _
  | succ k ih => show cntU f k + _ ≤ _; split <;> omega
theorem cntU_or {f g : Nat → Bool} (h : ∀ i, f i = true → g i = false) (k : Nat) : cntU (fun i => f i || g i) k = cntU f k + cntU g k := by
  induction k with
  | zero => rfl
  | succ k ih =>
    show cntU (fun i => f i || g i) k + _ = (cntU f k + _) + (cntU g k + _)
    rw [ih]
    cases hf : f k with
    | true => have hg := h k hf; simp only [hf, hg, Bool.or_false, if_true, Bool.false_eq_true, if_false]; omega
    | false => cases hg : g k <;> simp only [hf, hg, Bool.or_false, Bool.false_or, Bool.or_true, if_true, Bool.false_eq_true, if_false] <;> omega
theorem cntU_span (a b : Nat) (hab : a ≤ b) (k : Nat) : cntU (fun i => decide (a ≤ i ∧ i ≤ b)) k = min k (b + 1) - min k a := by
  induction k with
  | zero => simp [cntU]
  | succ k ih =>
    show cntU _ k + _ = _
    rw [ih]
    by_cases h : a ≤ k ∧ k ≤ b
    · rw [if_pos (by simpa using h)]; omega
    · rw [if_neg (by simpa using h)]; omega
theorem cntU_none {f : Nat → Bool} (h : ∀ i, f i = false) (k : Nat) : cntU f k = 0 := by
  induction k with
  | zero => rfl
  | succ k ih => show cntU f k + _ = _; rw [ih, h]; rfl
theorem szN_cnt {s : Sp.S} (hn : Sp.Nrm 255 s) : szN s = cntU (fun i => Sp.has s i) 256 := by
  induction s with
  | nil => rw [cntU_none (fun i => Sp.has_nil i)]; rfl
  | cons x r ih =>
    obtain ⟨h1, h2, h3⟩ := hn.head
    have e : cntU (fun i => Sp.has (x :: r) i) 256 = cntU (fun i => decide (x.1 ≤ i ∧ i ≤ x.2) || Sp.has r i) 256 := rfl
    rw [e, cntU_or (fun i hi => Sp.has_low (fun y hy => by have := h3 y hy; have := of_decide_eq_true hi; omega)), cntU_span _ _ h1, ← ih hn.tail]
    show (x.2 - x.1 + 1) + szN r = _
    omega
theorem szN_256 {s : Sp.S} (hn : Sp.Nrm 255 s) : szN s ≤ 256 := by rw [szN_cnt hn]; exact cntU_le _ _
/-- the least point from k on, or -1 -/
def NxI (s : Sp.S) (k : Nat) (N : Int) : Prop := (N = -1 ∧ ∀ i, k ≤ i → i < 256 → Sp.has s i = false) ∨ (∃ m : Nat, N = m ∧ k ≤ m ∧ m < 256 ∧ Sp.has s m = true ∧ ∀ i, k ≤ i → i < m → Sp.has s i = false)
theorem nxI_next {s : Sp.S} (hn : Sp.Nrm 255 s) {p : Nat} {N : Int} (h : NxI s p N) : ((Sp.next s p).2 = decide (0 ≤ N)) ∧ ((Sp.next s p).2 = true → ((Sp.next s p).1 : Int) = N) ∧ ((Sp.next s p).2 = false → (Sp.next s p).1 = 0) := by
  have hhigh : ∀ i, 256 ≤ i → Sp.has s i = false := fun i hi => Sp.has_high (fun x hx => by have := (hn.ok x hx).2; omega)
  cases hx : Sp.next s p with
  | mk m o =>
    cases o with
    | false =>
      obtain ⟨h1, h2⟩ := Sp.next_none hn (show (Sp.next s p).2 = false by rw [hx])
      rw [hx] at h1
      injection h1 with h1 _
      refine ⟨?_, (fun h => by cases h), fun _ => h1⟩
      rcases h with ⟨rfl, _⟩ | ⟨m', rfl, h3, h4, h5, _⟩
      · rfl
      · rw [h2 m' h3] at h5; cases h5
    | true =>
      obtain ⟨h1, h2, h3⟩ := Sp.next_some hn hx
      rcases h with ⟨rfl, h4⟩ | ⟨m', rfl, h4, h5, h6, h7⟩
      · by_cases h8 : m < 256
        · rw [h4 m h1 h8] at h2; cases h2
        · rw [hhigh m (by omega)] at h2; cases h2
      · have he : m = m' := by
          rcases Nat.lt_trichotomy m m' with h8 | h8 | h8
          · rw [h7 m h1 h8] at h2; cases h2
          · exact h8
          · rw [h3 m' h4 h8] at h6; cases h6
        subst he
        exact ⟨(decide_eq_true (by omega)).symm, fun _ => rfl, fun h => by cases h⟩
theorem nxI_step {s : Sp.S} {p : Nat} {N : Int} {b : Bool} (h : NxI s (p + 1) N) (hb : b = Sp.has s p) (hp : p < 256) : NxI s p (if b then (p : Int) else N) := by
  cases b with
  | true => exact .inr ⟨p, rfl, Nat.le_refl _, hp, hb.symm, fun i h1 h2 => by omega⟩
  | false =>
    have hlo : ∀ i, p ≤ i → i < p + 1 → Sp.has s i = false := fun i h1 h2 => by
      have e : i = p := by omega
      rw [e]; exact hb.symm
    rcases h with ⟨rfl, h4⟩ | ⟨m', rfl, h4, h5, h6, h7⟩
    · exact .inl ⟨rfl, fun i h1 h2 => if e : i < p + 1 then hlo i h1 e else h4 i (by omega) h2⟩
    · exact .inr ⟨m', rfl, by omega, h5, h6, fun i h1 h2 => if e : i < p + 1 then hlo i h1 e else h7 i (by omega) h2⟩
theorem szN_pos {s : Sp.S} (h : s ≠ []) : 0 < szN s := by
  cases s with
  | nil => exact absurd rfl h
  | cons x r => show 0 < (x.2 - x.1 + 1) + szN r; omega
structure ToR (A : Option Addr) (n c : Nat) (s : Sp.S) (V : List Value) (w wr : World) : Prop where
  r0 : Row wr w.heap.size 43 [.slice A n c]
  r1 : Row wr (w.heap.size + 1) 45 V
  set : IsSet wr A n c s
  bel : Below w.heap.size w wr
theorem ToR.below {A : Option Addr} {n c : Nat} {s : Sp.S} {V : List Value} {w wr wx : World} (h : ToR A n c s V w wr) (hb : Below wr.heap.size wr wx) : ToR A n c s V w wx := ⟨h.r0.below hb h.r0.lt, h.r1.below hb h.r1.lt, h.set.below hb, h.bel.trans (hb.mono h.bel.size)⟩
set_option maxRecDepth 100000 in
set_option maxHeartbeats 8000000 in
theorem told_any (A : Option Addr) (n c : Nat) (s : Sp.S) (f : Nat → Bool) (w : World) (hs : IsSet w A n c s) (hf : ptV f = ptV (fun i => Sp.has s i)) :
    Calls Try.prog 22 #[.agg #[.slice A n c], .agg (ptV f).toArray] w fun e w' => e = .returned (.bool true) ∧ Below w.heap.size w w' := by
  have HN := Lib.hid hs.2.2.2.1
  have hszE := hs.1.2.1
  have HLN := Lib.hid hszE
  obtain ⟨hz, hsz⟩ := zero_of_info infoPt
  have HSZ := Lib.hid hsz
  obtain ⟨V, hV⟩ : ∃ V, V = ptV f := ⟨_, rfl⟩
  have HV : Hid (V = ptV (fun i => Sp.has s i)) := Lib.hid (by rw [hV, hf])
  have HVL : Hid (V.length = 256) := Lib.hid (by rw [hV, ptV_len])
  rw [← hV]
  obtain ⟨w0, hw0⟩ : ∃ w0, w0 = (w.alloc (.cells #[.slice A n c] 43)).alloc (.cells V.toArray 45) := ⟨_, rfl⟩
  have hT0 : ToR A n c s V w w0 := by
    have hb : Below w.heap.size w w0 := by rw [hw0]; exact ((Below.refl w.heap.size w).alloc (Nat.le_refl _) _).alloc (by simp) _
    refine ⟨by rw [hw0]; exact (Row.new w _ [.slice A n c]).alloc _, ?_, hs.below hb, hb⟩
    have h := Row.new (w.alloc (.cells #[.slice A n c] 43)) 45 V
    rw [show (w.alloc (.cells #[.slice A n c] 43)).heap.size = w.heap.size + 1 by simp] at h
    rw [hw0]; exact h
  have HT0 := Lib.hid hT0
  clear hs hf hV hszE hsz hT0 hz
  go_enter Try.func22, Try.ntmps22
  go_upto_region 1 with fail
  rw [← hw0]
  clear hw0
  go_wp2_with fail
  go_loopw [5, 6, 7] (fun cn nx pv wr => ∃ (k m : Nat) (N : Int), k ≤ 256 ∧ cn = .int .u64 (m : Nat) ∧ nx = .int .i64 N ∧ pv = .int .i64 ((k : Int) - 1) ∧ m ≤ 256 ∧ -1 ≤ N ∧ N ≤ 255 ∧ Hid (m + cntU (fun i => Sp.has s i) k = cntU (fun i => Sp.has s i) 256) ∧ Hid (NxI s k N) ∧ Hid (ToR A n c s V w wr)) (fun _ _ pv _ => (intOf pv + 1).toNat)
  case atStart => exact ⟨256, 0, -1, Nat.le_refl _, rfl, rfl, rfl, by omega, by omega, by omega, Lib.hid (Nat.zero_add _), Lib.hid (.inl ⟨rfl, fun i h1 h2 => by omega⟩), HT0⟩
  case round =>
  clear HT0
  obtain ⟨k, m, N, hk, rfl, rfl, rfl, hm6, hN1, hN2, HC, HX, HT⟩ := hrel
  rcases Nat.eq_zero_or_pos k with hk0 | hk0
  · subst hk0
    have e1 : ((0 : Nat) : Int) - 1 = -1 := by omega
    rw [e1]
    have hm : m = szN s := by
      rw [szN_cnt HN.out]
      have h := HC.out
      change m + 0 = _ at h
      omega
    have HSZC : Hid (∀ wx, ToR A n c s V w wx → Calls Try.prog 41 #[.agg #[.slice A n c]] wx fun e w' => e = .returned (.tuple #[.int .u64 (m : Nat), .bool true]) ∧ ToR A n c s V w w') := Lib.hid (fun wx h => by
      refine (size_any A n c s wx h.set).mono fun e w' hh => ?_
      refine ⟨?_, h.below hh.2⟩
      have e2 : szW s = m := by rw [hm]; exact Nat.mod_eq_of_lt (by have := szN_256 HN.out; omega)
      have e3 : (decide (0 < m) || decide (n = 0)) = true := by
        by_cases e : s = []
        · have hl := HLN.out
          rw [e] at hl
          rw [decide_eq_true (p := n = 0) (by simpa using hl.symm), Bool.or_true]
        · rw [decide_eq_true (p := 0 < m) (by rw [hm]; exact szN_pos e), Bool.true_or]
      rw [hh.1, e2, e3])
    have HSPC : Hid (∀ wx, ToR A n c s V w wx → Calls Try.prog 21 #[.agg #[.slice A n c]] wx fun e w' => ∃ A' c', e = .returned (.slice A' n c') ∧ IsS w' w'.heap.size A' n s ∧ ToR A n c s V w w') := Lib.hid (fun wx h => by
      refine (spans_any A n c s wx h.set).mono fun e w' hh => ?_
      obtain ⟨⟨A', c', he, ho, hc⟩, hb⟩ := hh
      exact ⟨A', c', he, (OwnS.set8 ho h.set.2.2.2.1).1, h.below hb⟩)
    have HFC : Hid (∀ wx A' c', IsS wx wx.heap.size A' n s → ToR A n c s V w wx → Calls Try.prog 42 #[.slice A' n c', .agg V.toArray] wx fun e w' => e = .returned (.bool true) ∧ ToR A n c s V w w') := Lib.hid (fun wx A' c' h1 h => by
      rw [HV.out]
      refine (fewest_any A' n c' s (fun i => Sp.has s i) wx h1 HN.out).mono fun e w' hh => ?_
      rw [← HV.out]
      exact ⟨by rw [hh.1, ptEq_iff.2 (fun i _ => rfl)], h.below hh.2⟩)
    have HCE : Hid (∀ wx, ToR A n c s V w wx → wx.cell? ⟨w.heap.size, 0, none⟩ = some (.slice A n c) ∧ wx.rangeAt (w.heap.size + 1) 0 V) := Lib.hid (fun wx h => ⟨h.r0.cell 0, pt_range h.r1⟩)
    have q0 := HT.out.r0.cell 0
    have ql := HT.out.r0.lt
    have fm : ((m : Int) == (m : Int)) = true := by simp
    clear hm
    go_upto_region 14 with fail
    go_upto_region 15 with (go_at_call 41; refine (HSZC.out _ HT.out).mono ?_; rintro e w5 ⟨rfl, ht5⟩; have HT5 := Lib.hid ht5; clear ht5)
    have HTD : Hid (ToR A n c s V w w5.drew) := Lib.hid (HT5.out.below (Below.refl _ _).drew)
    have hu : Try.prog.underlying 45 = some (.array 256 4) := Try.underlying45
    have hvs : (Try.prog.info? 45).map (·.size) = some V.length := by rw [HVL.out]; exact HSZ.out
    clear q0 ql
    go_cut [4] (fun x wx => x = .bool true ∧ Hid (ToR A n c s V w wx))
    case first =>
      go_region_held3 (fun w' => w'.cell? ⟨w.heap.size, 0, none⟩ = some (.slice A n c) ∧ w'.rangeAt (w.heap.size + 1) 0 V)
        (first | exact HCE.out _ HTD.out | exact HCE.out _ HTA.out | exact HCE.out _ HTB.out | fail)
        (first
          | (go_at_call 21; refine (HSPC.out _ HTD.out).mono ?_; rintro e wa ⟨A', c', rfl, hi, hta⟩; have HTA := Lib.hid hta; have HIA := Lib.hid hi; clear hta hi)
          | (go_at_call 42; refine (HFC.out _ _ _ HIA.out HTA.out).mono ?_; rintro e wb ⟨rfl, htb⟩; have HTB := Lib.hid htb; clear htb)
          | fail)
      all_goals
        go_wp2_with fail
        go_meet
        case rel => exact ⟨rfl, HTB⟩
    case rest =>
    obtain ⟨rfl, HT2⟩ := hcut
    go_wp2_with fail
    go_ret
    exact ⟨rfl, HT2.out.bel⟩
  · obtain ⟨p, rfl⟩ : ∃ p, k = p + 1 := ⟨k - 1, by omega⟩
    have e1 : ((p + 1 : Nat) : Int) - 1 = (p : Int) := by omega
    rw [e1]
    have hp8 : p < 256 := by omega
    have p0 : (0 : Int) ≤ (p : Int) := by omega
    have p9 : (p : Int) < 256 := by omega
    have f1 : decide ((0 : Int) ≤ (p : Int)) = true := decide_eq_true p0
    obtain ⟨b, hb⟩ : ∃ b, b = Sp.has s p := ⟨_, rfl⟩
    have HBB := Lib.hid hb
    have HCE : Hid (∀ wx, ToR A n c s V w wx → wx.cell? ⟨w.heap.size, 0, none⟩ = some (.slice A n c) ∧ wx.cell? ⟨w.heap.size + 1, p, none⟩ = some (.bool b)) := Lib.hid (fun wx h => by
      have h1 := h.r1.cell p
      rw [HV.out, ptV_get _ hp8, ← hb] at h1
      exact ⟨h.r0.cell 0, h1⟩)
    have HHS : Hid (∀ wx, ToR A n c s V w wx → Calls Try.prog 39 #[.agg #[.slice A n c], .int .u8 (p : Nat)] wx fun e w' => e = .returned (.bool b) ∧ ToR A n c s V w w') := Lib.hid (fun wx h => by
      refine (has_any A n c p s wx h.set (by unfold TOP; omega)).mono fun e w' hh => ?_
      exact ⟨by rw [hh.1, hb], h.below hh.2⟩)
    obtain ⟨R, hR⟩ : ∃ R, R = Sp.next s p := ⟨_, rfl⟩
    have HNX : Hid (∀ wx, ToR A n c s V w wx → Calls Try.prog 40 #[.agg #[.slice A n c], .int .u8 (p : Nat)] wx fun e w' => e = .returned (.tuple #[.int .u8 (R.1 : Nat), .bool R.2]) ∧ ToR A n c s V w w') := Lib.hid (fun wx h => by
      refine (next_any A n c p s wx h.set (by unfold TOP; omega)).mono fun e w' hh => ?_
      exact ⟨by rw [hh.1, hR], h.below hh.2⟩)
    have HRR := Lib.hid hR
    have HTD : Hid (ToR A n c s V w wr.drew) := Lib.hid (HT.out.below (Below.refl _ _).drew)
    obtain ⟨q0, q1⟩ := HCE.out _ HT.out
    have ql := HT.out.r1.lt
    have hbb : (b != b) = false := by simp
    have w8 : IntKind.u8.wrap (p : Int) = (p : Int) := by rw [IntKind.wrap_u8]; omega
    clear hb hR
    go_upto_region 6 with fail
    go_cut [23] (fun x wx => x = .bool false ∧ Hid (ToR A n c s V w wx))
    case first =>
      go_region_held3 (fun w' => w'.cell? ⟨w.heap.size, 0, none⟩ = some (.slice A n c) ∧ w'.cell? ⟨w.heap.size + 1, p, none⟩ = some (.bool b))
        (first | exact HCE.out _ HTD.out | exact HCE.out _ HTA.out | fail)
        (first | (go_at_call 39; refine (HHS.out _ HTD.out).mono ?_; rintro e wa ⟨rfl, hta⟩; have HTA := Lib.hid hta; clear hta) | fail)
      all_goals
        go_wp2_with fail
        go_meet
        case rel => exact ⟨rfl, HTA⟩
    case rest =>
    obtain ⟨rfl, HT2⟩ := hcut
    have hx2 := nxI_step HX.out HBB.out hp8
    have hj := nxI_next HN.out hx2
    rw [← HRR.out] at hj
    obtain ⟨r, o⟩ := R
    simp only at hj
    obtain ⟨j1, j2, j3⟩ := hj
    have HX2 := Lib.hid hx2
    obtain ⟨q2, q3⟩ := HCE.out _ HT2.out
    have ql2 := HT2.out.r0.lt
    have ql3 := HT2.out.r1.lt
    have w8 : IntKind.u8.wrap (p : Int) = (p : Int) := by rw [IntKind.wrap_u8]; omega
    have hcu : ∀ d, (if b then 1 else 0) = d → m + d + cntU (fun i => Sp.has s i) p = cntU (fun i => Sp.has s i) 256 := fun d hd => by
      have h := HC.out
      change m + (cntU (fun i => Sp.has s i) p + if Sp.has s p then 1 else 0) = _ at h
      rw [← HBB.out, hd] at h
      omega
    have HCU := Lib.hid hcu
    clear hx2 hcu q0 q1 ql hbb
    have hoo : ∀ o : Bool, (o != o) = false := fun o => by simp
    have ho := hoo o
    clear hoo
    cases b with
    | true =>
      simp only [if_true] at j1 j2 j3 HX2
      have ho1 : o = true := by rw [j1]; exact decide_eq_true p0
      subst ho1
      have hr := j2 rfl
      have hr' : r = p := by omega
      subst hr'
      clear j1 j2 j3 hr
      have hm1 : m + 1 ≤ 256 := by have := HCU.out 1 rfl; have := cntU_le (fun i => Sp.has s i) 256; omega
      have em : IntKind.u64.wrap ((m : Int) + 1) = ((m + 1 : Nat) : Int) := by rw [IntKind.wrap_u64]; omega
      have en : ((r : Int) != (r : Int)) = false := by simp
      go_upto_region 11 with fail
      go_upto_region 12 with (go_at_call 40; refine (HNX.out _ HT2.out).mono ?_; rintro e w5 ⟨rfl, ht5⟩; have HT5 := Lib.hid ht5; clear ht5)
      go_wp2_with fail
      go_roundw
      case rel => exact ⟨r, m + 1, r, by omega, rfl, rfl, by go_num, hm1, by omega, by omega, Lib.hid (HCU.out 1 rfl), HX2, HT5⟩
      case measure => simp [intOf]; try omega
    | false =>
      simp only [Bool.false_eq_true, if_false] at j1 j2 j3 HX2
      cases o with
      | true =>
        have hr := j2 rfl
        subst hr
        have en : ((r : Int) != (r : Int)) = false := by simp
        have er : IntKind.i64.wrap (r : Int) = (r : Int) := by rw [IntKind.wrap_i64]; omega
        have r0 : decide ((0 : Int) ≤ (r : Int)) = true := j1.symm
        clear j1 j2 j3
        go_upto_region 11 with fail
        go_upto_region 12 with (go_at_call 40; refine (HNX.out _ HT2.out).mono ?_; rintro e w5 ⟨rfl, ht5⟩; have HT5 := Lib.hid ht5; clear ht5)
        go_wp2_with fail
        go_roundw
        case rel => exact ⟨p, m, r, by omega, rfl, rfl, by go_num, hm6, by omega, by omega, Lib.hid (HCU.out 0 rfl), HX2, HT5⟩
        case measure => simp [intOf]; try omega
      | false =>
        have hr := j3 rfl
        subst hr
        have r0 : decide ((0 : Int) ≤ N) = false := j1.symm
        clear j1 j2 j3
        go_upto_region 11 with fail
        go_upto_region 12 with (go_at_call 40; refine (HNX.out _ HT2.out).mono ?_; rintro e w5 ⟨rfl, ht5⟩; have HT5 := Lib.hid ht5; clear ht5)
        go_wp2_with fail
        go_roundw
        case rel => exact ⟨p, m, N, by omega, rfl, rfl, by go_num, hm6, hN1, hN2, Lib.hid (HCU.out 0 rfl), HX2, HT5⟩
        case measure => simp [intOf]; try omega
end Go.Proofs.Ytchajbegjajlkaa
