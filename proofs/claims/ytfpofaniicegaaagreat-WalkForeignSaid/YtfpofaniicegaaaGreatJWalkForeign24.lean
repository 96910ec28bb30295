/- Texts of this claim, one behind the other: WkD. -/
import Derived.Test.YtfpofaniicegaaaGreatJWalkForeign23
import Derived.Deep.CutBlock
import Derived.StillTailTactics
/- The walk of walk.reachable. -/
set_option linter.unusedVariables false
set_option linter.unusedSimpArgs false
namespace Go.Proofs.YtfpofaniicegaaaGreat
open Go.RowKit
open S64
namespace Bu
/-- the physical addresses of n bytes -/
def atL (M : PM) (root virt : Nat) (access : Int) (n : Nat) : List Nat := (List.range n).map fun i => (trI M root (virt + i) access).1
/-- why an access is refused, and where; 0: it is not -/
def accF (M : PM) (root virt : Nat) (access : Int) (n : Nat) : Nat × Nat :=
  match (List.range n).find? (fun i => decide ((trI M root (virt + i) access).2 ≠ 0)) with
  | some i => ((trI M root (virt + i) access).2, virt + i)
  | none => match (List.range n).find? (fun i => !onM M (trI M root (virt + i) access).1) with
    | some i => (30, virt + i)
    | none => (0, 0)
theorem find_first {n i : Nat} {p : Nat → Bool} (hi : i < n) (hp : p i = true) (hb : ∀ j, j < i → p j = false) : (List.range n).find? p = some i := by
  rw [List.find?_eq_some_iff_append]
  refine ⟨hp, List.range i, (List.range (n - i - 1)).map (· + (i + 1)), ?_, fun a ha => by rw [hb a (List.mem_range.1 ha)]; rfl⟩
  apply List.ext_getElem?
  intro k
  rcases Nat.lt_trichotomy k i with h | h | h
  · rw [List.getElem?_range (by omega), List.getElem?_append_left (by rw [List.length_range]; omega), List.getElem?_range h]
  · subst h
    rw [List.getElem?_range (by omega), List.getElem?_append_right (by rw [List.length_range]; omega), List.length_range, Nat.sub_self]; rfl
  · rw [List.getElem?_append_right (by rw [List.length_range]; omega), List.length_range]
    obtain ⟨d, rfl⟩ : ∃ d, k = i + 1 + d := ⟨k - i - 1, by omega⟩
    rw [show i + 1 + d - i = d + 1 by omega, List.getElem?_cons_succ, List.getElem?_map]
    by_cases hk : i + 1 + d < n
    · rw [List.getElem?_range hk, List.getElem?_range (by omega)]; simp; omega
    · rw [List.getElem?_eq_none (by rw [List.length_range]; omega), List.getElem?_eq_none (by rw [List.length_range]; omega)]; rfl
theorem find_none {n : Nat} {p : Nat → Bool} (hb : ∀ j, j < n → p j = false) : (List.range n).find? p = none := by
  rw [List.find?_eq_none]
  intro x hx
  rw [hb x (List.mem_range.1 hx)]; decide
theorem accF_tr {M : PM} {root virt n i : Nat} {access : Int} (hi : i < n) (hn : (trI M root (virt + i) access).2 ≠ 0) (hb : ∀ j, j < i → (trI M root (virt + j) access).2 = 0) : accF M root virt access n = ((trI M root (virt + i) access).2, virt + i) := by
  unfold accF
  rw [find_first hi (decide_eq_true hn) (fun j hj => decide_eq_false (not_not_intro (hb j hj)))]
theorem accF_bus {M : PM} {root virt n i : Nat} {access : Int} (hi : i < n) (ha : ∀ j, j < n → (trI M root (virt + j) access).2 = 0) (hn : onM M (trI M root (virt + i) access).1 = false) (hb : ∀ j, j < i → onM M (trI M root (virt + j) access).1 = true) : accF M root virt access n = (30, virt + i) := by
  unfold accF
  rw [find_none (fun j hj => decide_eq_false (not_not_intro (ha j hj))), find_first hi (by rw [hn]; rfl) (fun j hj => by rw [hb j hj]; rfl)]
theorem accF_ok {M : PM} {root virt n : Nat} {access : Int} (ha : ∀ j, j < n → (trI M root (virt + j) access).2 = 0) (hb : ∀ j, j < n → onM M (trI M root (virt + j) access).1 = true) : accF M root virt access n = (0, 0) := by
  unfold accF
  rw [find_none (fun j hj => decide_eq_false (not_not_intro (ha j hj))), find_none (fun j hj => by rw [hb j hj]; rfl)]
theorem trI_hole {M : PM} {root virt : Nat} {access : Int} (h : (trI M root virt access).2 = 0) : virt < 549755813888 := by
  unfold trI at h
  split at h
  · cases h
  split at h
  · cases h
  · omega
def u64v (p : Nat) : Value := .int .u64 (p : Nat)
/-- Peek of one byte -/
def Pk1C (K : FuncId) (rv : Value) (S : MemS) : Prop := ∀ (Z R : Nat → Prop) (w : World) (M : PM) (a : Nat), S Z R w M → True → a ≤ TOP →
  ∃ x f0 f1 : Nat, (onM M a = true → f0 = 0 ∧ x = M.mem a) ∧ (onM M a = false → f0 = 30) ∧ x ≤ TOP ∧ Calls Tryz.prog K #[rv, .int .u64 (a : Nat), .int .i64 1] w fun e w' => e = .returned (.tuple #[.int .u64 (x : Nat), .agg #[.int .i64 (f0 : Nat), .int .u64 (f1 : Nat)]]) ∧ QuS S Z R w M (onM M a = true) w'
theorem infoU64 : (Tryz.prog.info? 31).map (fun i => (i.zero, i.size, i.bytes)) = some (some (.int .u64 0), 1, 8) := by kernel_rfl
/-- what reachable answers -/
def ReachS (S : MemS) (Z R : Nat → Prop) (w : World) (M : PM) (at_ : List Nat) (f : Nat × Nat) (e : Ending) (w' : World) : Prop :=
  (f.1 = 0 → ∃ bb, e = .returned (.tuple #[.slice (some ⟨bb, 0, none⟩) at_.length at_.length, flt 0 0]) ∧ w.heap.size ≤ bb ∧ Row w' bb 31 (at_.map u64v)) ∧
  (f.1 ≠ 0 → e = .returned (.tuple #[.slice none 0 0, flt f.1 f.2])) ∧ QuS S Z R w M (f.1 ≠ 42 ∧ f.1 ≠ 30) w'
/-- the row of addresses, i of them known -/
def rowP (p : Nat → Nat) (n i : Nat) : List Value := (List.range n).map fun j => if j < i then u64v (p j) else u64v 0
theorem rowP_len (p : Nat → Nat) (n i : Nat) : (rowP p n i).length = n := by simp [rowP]
theorem rowP_get (p : Nat → Nat) (n i j : Nat) (h : j < n) : (rowP p n i)[j]? = some (if j < i then u64v (p j) else u64v 0) := by
  rw [rowP, List.getElem?_map, List.getElem?_range h]; rfl
theorem rowP_zero (p : Nat → Nat) (n : Nat) : rowP p n 0 = List.replicate n (.int .u64 0) := by
  apply List.ext_getElem?
  intro j
  by_cases h : j < n
  · rw [rowP_get _ _ _ _ h, if_neg (by omega), List.getElem?_replicate, if_pos h]; rfl
  · rw [List.getElem?_eq_none (by rw [rowP_len]; omega), List.getElem?_eq_none (by rw [List.length_replicate]; omega)]
theorem rowP_set (p : Nat → Nat) (n i : Nat) (h : i < n) : (rowP p n i).set i (u64v (p i)) = rowP p n (i + 1) := by
  apply List.ext_getElem?
  intro j
  rw [List.getElem?_set]
  by_cases hj : j < n
  · rw [rowP_get _ _ _ _ hj, rowP_get _ _ _ _ hj, rowP_len]
    by_cases e : i = j
    · subst e; rw [if_pos rfl, if_pos h, if_pos (by omega)]
    · rw [if_neg e]
      by_cases h2 : j < i
      · rw [if_pos h2, if_pos (by omega)]
      · rw [if_neg h2, if_neg (by omega)]
  · rw [if_neg (by omega), List.getElem?_eq_none (by rw [rowP_len]; omega), List.getElem?_eq_none (by rw [rowP_len]; omega)]
theorem rowP_full (p : Nat → Nat) (n : Nat) : rowP p n n = ((List.range n).map p).map u64v := by
  rw [rowP, List.map_map]
  exact List.map_congr_left fun j hj => by rw [if_pos (List.mem_range.1 hj)]; rfl
/-- while the addresses are looked up -/
structure RI (S : MemS) (Z R : Nat → Prop) (w : World) (M : PM) (c bb : Nat) (p : Nat → Nat) (n i : Nat) (wr : World) : Prop where
  s : S Z R wr M
  ch : ChgP Z w wr
  rb : Row wr bb 31 (rowP p n i)
  rc : Row wr c 57 [.int .i64 0, .int .u64 0]
  bw : w.heap.size ≤ bb
  cw : w.heap.size ≤ c
theorem RI.far {S : MemS} (hS : MemI S) {Z R Y : Nat → Prop} {w : World} {M : PM} {c bb : Nat} {p : Nat → Nat} {n i : Nat} {wr wx : World} (h : RI S Z R w M c bb p n i wr) (hc : ChgP Y wr wx) (hY : ∀ k, Y k → w.heap.size ≤ k ∧ k ≠ bb ∧ k ≠ c) (h0 : S Z R w M) : RI S Z R w M c bb p n i wx :=
  ⟨hS.chg h.s hc (fun k hk hy => by have h1 := (hY k hy).1; rcases hk with hk | hk; have := hS.z h0 k hk; omega; have := hS.r h0 k hk; omega), h.ch.trans hc (fun x hx => .inr (hY x hx).1), hc.row h.rb (fun hy => (hY _ hy).2.1 rfl), hc.row h.rc (fun hy => (hY _ hy).2.2 rfl), h.bw, h.cw⟩
theorem RI.below {S : MemS} (hS : MemI S) {Z R : Nat → Prop} {w : World} {M : PM} {c bb : Nat} {p : Nat → Nat} {n i : Nat} {wr wx : World} (h : RI S Z R w M c bb p n i wr) (hc : Below wr.heap.size wr wx) (h0 : S Z R w M) : RI S Z R w M c bb p n i wx :=
  h.far hS (Y := fun _ => False) (ChgP.of_below hc) (fun _ h => h.elim) h0
/-- the memory has been asked -/
theorem RI.asked {S : MemS} {Z R : Nat → Prop} {w : World} {M : PM} {c bb : Nat} {p : Nat → Nat} {n i : Nat} {wr wx : World} {q : Prop} (h : RI S Z R w M c bb p n i wr) (hq : QuS S Z R wr M q wx) (hz : q) (hS : MemI S) (h0 : S Z R w M) : RI S Z R w M c bb p n i wx := by
  obtain ⟨h1, h2⟩ := hq.still hz
  exact ⟨h1, h.ch.trans h2 (fun x hx => .inl hx), h2.row h.rb (fun hy => by have := hS.z h0 _ hy; have := h.bw; omega), h2.row h.rc (fun hy => by have := hS.z h0 _ hy; have := h.cw; omega), h.bw, h.cw⟩
theorem RI.set {S : MemS} {Z R : Nat → Prop} {w : World} {M : PM} {c bb : Nat} {p : Nat → Nat} {n i : Nat} {wr : World} (h : RI S Z R w M c bb p n i wr) (hi : i < n) (hS : MemI S) (h0 : S Z R w M) : RI S Z R w M c bb p n (i + 1) (wr.setCell ⟨bb, i, none⟩ (u64v (p i))) := by
  have hc : ChgP (fun k => k = bb) wr (wr.setCell ⟨bb, i, none⟩ (u64v (p i))) := (ChgP.refl (fun k => k = bb) wr).set_ (p := ⟨bb, i, none⟩) (.inl rfl) _
  have hne : c ≠ bb := Row.ne_t h.rc h.rb (by decide)
  exact ⟨hS.chg h.s hc (fun k hk hy => by have e : k = bb := hy; have := h.bw; rcases hk with hk | hk; have := hS.z h0 k hk; omega; have := hS.r h0 k hk; omega), h.ch.trans hc (fun x hx => .inr (by rw [show x = bb from hx]; exact h.bw)), by rw [← rowP_set p n i hi]; exact h.rb.set_ i _, h.rc.far (p := ⟨bb, i, none⟩) hne _, h.bw, h.cw⟩
set_option maxRecDepth 100000 in
set_option maxHeartbeats 1000000 in
theorem reach_bad {T : TypeId} {v : Value} (w : World) (root virt : Nat) (z access : Int) (hz : wideB z = false) :
    Calls Tryz.prog 44 #[.iface T v, .int .u64 (root : Nat), .int .u64 (virt : Nat), .int .i64 z, .int .i64 access] w fun e w' => e = .returned (.tuple #[.slice none 0 0, flt 31 virt]) ∧ Below w.heap.size w w' := by
  have hnil : ∀ wx : World, (binOp .eql 69 (.iface T v) .nilIface).run Tryz.prog wx = .ok (.bool false) wx := fun wx => by rfl
  have h1 : (z == 1) = false ∧ (z == 2) = false ∧ (z == 4) = false ∧ (z == 8) = false := by
    unfold wideB at hz
    simp at hz
    simp
    omega
  obtain ⟨h1, h2, h3, h4⟩ := h1
  clear hz
  go_enter Tryz.func44, Tryz.ntmps44
  go_upto_region 3 with fail
  have r0 := Row.new w 57 [.int .i64 0, .int .u64 0]
  have hb0 : Below w.heap.size w (w.alloc (.cells #[.int .i64 0, .int .u64 0] 57)) := (Below.refl _ _).alloc (Nat.le_refl _) _
  obtain ⟨c, hc⟩ : ∃ c, c = w.heap.size := ⟨_, rfl⟩
  generalize w.alloc (.cells #[.int .i64 0, .int .u64 0] 57) = w1 at *
  rw [← hc] at r0 ⊢
  have HC := Lib.hid hc; have HB := Lib.hid hb0; have HR := Lib.hid r0
  have f0 := r0.cell 0
  have f1 := r0.cell 1
  have fz0 := r0.frozen 0
  have fz1 := r0.frozen 1
  have lf := r0.lt
  simp only [List.getElem?_cons_zero, List.getElem?_cons_succ] at f0 f1
  clear r0 hb0 hc
  have HZ0 := Lib.hid ((HR.out.set_ 0 (.int .i64 31)).cell 0)
  have HZ1 := Lib.hid (((HR.out.set_ 0 (.int .i64 31)).set_ 1 (.int .u64 (virt : Nat))).cell 1)
  simp only [List.set_cons_zero, List.set_cons_succ, List.getElem?_cons_zero, List.getElem?_cons_succ] at HZ0 HZ1
  go_wp2_with fail
  refine bodyPost_ret (v := .tuple #[.slice none 0 0, .agg #[.int .i64 31, .int .u64 (virt : Nat)]]) (by simp [results, Tryz.results44, go_sem, HZ0.out, HZ1.out]) rfl ⟨rfl, ?_⟩
  have := (HB.out.setCell (p := ⟨c, 0, none⟩) (by rw [HC.out]; exact Nat.le_refl _) (.int .i64 31)).setCell (p := ⟨c, 1, none⟩) (by rw [HC.out]; exact Nat.le_refl _) (.int .u64 (virt : Nat))
  rw [HC.out] at this ⊢
  exact this
set_option maxRecDepth 100000 in
set_option maxHeartbeats 1000000 in
theorem reach_mach (g : Nat) (hT : TrC 50 (machV g) (SMach g)) (hP : Pk1C 123 (machV g) (SMach g)) {Z R : Nat → Prop} {w : World} {M : PM} (root virt n : Nat) (access : Int) (hk : n = 1 ∨ n = 2 ∨ n = 4 ∨ n = 8) (hm : SMach g Z R w M) (hs : True) (hr : root ≤ TOP) (hv : virt ≤ TOP) :
    Calls Tryz.prog 44 #[.iface 50 (machV g), .int .u64 (root : Nat), .int .u64 (virt : Nat), .int .i64 (n : Nat), .int .i64 access] w (ReachS (SMach g) Z R w M (atL M root virt access n) (accF M root virt access n)) := by
  have hS := smach_i g
  have hmp := mach_peek g
  unfold machV at *
  have HM := Lib.hid hm; have HS := Lib.hid hs; have HSI := Lib.hid hS; have HT := Lib.hid hT; have HP := Lib.hid hP; have HK := Lib.hid hk
  have HRT := Lib.hid hr; have HVT := Lib.hid hv
  have hn8 : n ≤ 8 := by omega
  have hv64 : virt ≤ 18446744073709551615 := hv
  have hnil : ∀ wx : World, (binOp .eql 69 (.iface 50 (.pointer (some ⟨g, 0, none⟩))) .nilIface).run Tryz.prog wx = .ok (.bool false) wx := fun wx => by rfl
  have hmk := run_make_row' (P := Tryz.prog) 102 31 (.int .u64 0) 8 Tryz.underlying102 infoU64 rfl .i64 .i64 n (by omega) (by omega)
  obtain ⟨p, hp⟩ : ∃ p : Nat → Nat, p = fun i => (trI M root (virt + i) access).1 := ⟨_, rfl⟩
  rw [madeCells_one, ← rowP_zero p n] at hmk
  obtain ⟨Z0, hZ0⟩ : ∃ Z0, Z0 = rowP p n 0 := ⟨_, rfl⟩
  rw [← hZ0] at hmk
  have HZ0 := Lib.hid hZ0
  have HPE := Lib.hid hp
  clear hm hs hS hT hP hk hr hv hZ0 hp
  go_enter Tryz.func44, Tryz.ntmps44
  go_upto_block 0 with fail
  have r0 := Row.new w 57 [.int .i64 0, .int .u64 0]
  have hb0 : Below w.heap.size w (w.alloc (.cells #[.int .i64 0, .int .u64 0] 57)) := (Below.refl _ _).alloc (Nat.le_refl _) _
  obtain ⟨c, hc⟩ : ∃ c, c = w.heap.size := ⟨_, rfl⟩
  generalize w.alloc (.cells #[.int .i64 0, .int .u64 0] 57) = w1 at *
  rw [← hc] at r0 ⊢
  have HC := Lib.hid hc; have HB := Lib.hid hb0; have HR := Lib.hid r0
  clear r0 hb0 hc
  go_cut [] (fun wx => w1 = wx)
  case first =>
    rcases HK.out with rfl | rfl | rfl | rfl
    all_goals
      go_wp2_with fail
      go_meet
      case rel => rfl
  case rest =>
  obtain rfl := hcut
  go_upto_region 10 with fail
  have hrb := Row.new w1 31 Z0
  have hb1 : Below w1.heap.size w1 (w1.alloc (.cells Z0.toArray 31)) := (Below.refl _ _).alloc (Nat.le_refl _) _
  have HRC := Lib.hid (HR.out.alloc (.cells Z0.toArray 31))
  obtain ⟨bb, hbb⟩ : ∃ bb, bb = w1.heap.size := ⟨_, rfl⟩
  generalize w1.alloc (.cells Z0.toArray 31) = w2 at *
  rw [← hbb] at hrb ⊢
  have HI0 : Hid (RI (SMach g) Z R w M c bb p n 0 w2) := Lib.hid ⟨HSI.out.below HM.out (HB.out.trans (hb1.mono HB.out.size)), ChgP.of_below (HB.out.trans (hb1.mono HB.out.size)), by rw [← HZ0.out]; exact hrb, HRC.out, by rw [hbb]; exact HB.out.size, by rw [HC.out]; exact Nat.le_refl _⟩
  clear hrb hb1 hbb HRC HR HB hmk HZ0
  go_wp2_with fail
  go_loopw [36] (fun x wr => ∃ i : Nat, i ≤ n ∧ x = .int .i64 (i : Nat) ∧ Hid (∀ j, j < i → (trI M root (virt + j) access).2 = 0) ∧ Hid (RI (SMach g) Z R w M c bb p n i wr)) (fun x _ => n - (intOf x).toNat)
  case atStart => exact ⟨0, by omega, rfl, Lib.hid (fun j h => absurd h (by omega)), HI0⟩
  case round =>
  clear HI0
  obtain ⟨i, hi, rfl, HOK, HI⟩ := hrel
  by_cases hin : i < n
  · obtain ⟨vi, hvi⟩ : ∃ vi, vi = virt + i := ⟨_, rfl⟩
    have e1 : (virt : Int) + (i : Int) = (vi : Int) := by omega
    have hvt : vi ≤ 18446744073709551615 := by
      rcases Nat.eq_zero_or_pos i with h0 | h0
      · omega
      · have := trI_hole (HOK.out 0 h0); omega
    have HVI := Lib.hid hvi
    have HTC := Lib.hid (HT.out Z R wr M root vi access HI.out.s HS.out HRT.out hvt)
    obtain ⟨⟨q, no⟩, hG⟩ : ∃ G, G = trI M root vi access := ⟨_, rfl⟩
    rw [← hG] at HTC
    have HG := Lib.hid hG
    have hq33 : q < 8589934592 ∧ no ≤ 44 := by have := @trI_lt M root vi access; rw [← hG] at this; exact this
    have HQ33 := Lib.hid hq33
    simp only at HTC
    clear hvi hG hq33
    go_upto_region 13 with fail
    by_cases h0 : no = 0
    · subst h0
      rw [show flt 0 vi = .agg #[.int .i64 0, .int .u64 0] from rfl] at HTC
      go_upto_region 14 with (go_at_call 21; refine HTC.out.mono ?_; rintro e w3 ⟨rfl, hq3⟩; have HI3 := Lib.hid (HI.out.asked hq3 (by decide) HSI.out HM.out); clear hq3)
      have hrf := Row.new w3 57 [.int .i64 0, .int .u64 0]
      have HI4 := Lib.hid (HI3.out.below HSI.out ((Below.refl _ _).alloc (Nat.le_refl _) (.cells #[.int .i64 0, .int .u64 0] 57)) HM.out)
      obtain ⟨cf, hcf⟩ : ∃ cf, cf = w3.heap.size := ⟨_, rfl⟩
      generalize w3.alloc (.cells #[.int .i64 0, .int .u64 0] 57) = w4 at *
      rw [← hcf] at hrf ⊢
      have f0 := hrf.cell 0
      have lf := hrf.lt
      simp only [List.getElem?_cons_zero, List.getElem?_cons_succ] at f0
      have b0 := HI4.out.rb.cell i
      rw [rowP_get _ _ _ _ hin, if_neg (Nat.lt_irrefl i)] at b0
      unfold u64v at b0
      have bz := HI4.out.rb.frozen i
      have lb := HI4.out.rb.lt
      have hpq : p i = q := by rw [HPE.out]; show (trI M root (virt + i) access).1 = q; rw [← HVI.out, ← HG.out]
      have HI5 := Lib.hid (HI4.out.set hin HSI.out HM.out)
      rw [hpq] at HI5
      unfold u64v at HI5
      have HOK' : Hid (∀ j, j < i + 1 → (trI M root (virt + j) access).2 = 0) := Lib.hid (fun j hj => by
        rcases Nat.lt_or_ge j i with h | h
        · exact HOK.out j h
        · obtain rfl : j = i := by omega
          rw [← HVI.out, ← HG.out])
      clear hrf hcf HI4 HI3 HI HTC hpq
      go_wp2_with fail
      go_roundw
      case rel => exact ⟨i + 1, by omega, by go_num, HOK', HI5⟩
      case measure => simp [intOf]; omega
    · have hF : flt no vi = .agg #[.int .i64 (no : Nat), .int .u64 (vi : Nat)] := by unfold flt; rw [if_neg h0]; rfl
      have HFL := Lib.hid hF
      rw [hF] at HTC
      have f1 : ((no : Int) != 0) = true := by simp; omega
      have HN0 := Lib.hid h0
      clear hF h0
      go_upto_region 14 with (go_at_call 21; refine HTC.out.mono ?_; rintro e w3 ⟨rfl, hq3⟩; have HRC3 := Lib.hid ((show ChgP Z wr w3 from hq3.choose_spec.2.2.2).row HI.out.rc (fun h => by have := HSI.out.z HM.out _ h; have := HC.out; omega)); have HQ3 := Lib.hid (hq3.pre HI.out.ch); clear hq3)
      have hrf := Row.new w3 57 [.int .i64 (no : Nat), .int .u64 (vi : Nat)]
      have HQ4 := Lib.hid (HQ3.out.below HSI.out ((Below.refl _ _).alloc (Nat.le_refl _) (.cells #[.int .i64 (no : Nat), .int .u64 (vi : Nat)] 57)))
      have HRC4 := Lib.hid (HRC3.out.alloc (.cells #[.int .i64 (no : Nat), .int .u64 (vi : Nat)] 57))
      obtain ⟨cf, hcf⟩ : ∃ cf, cf = w3.heap.size := ⟨_, rfl⟩
      generalize w3.alloc (.cells #[.int .i64 (no : Nat), .int .u64 (vi : Nat)] 57) = w4 at *
      rw [← hcf] at hrf ⊢
      have f0 := hrf.cell 0
      have f2 := hrf.cell 1
      have lf := hrf.lt
      have q0 := HRC4.out.cell 0
      have q1 := HRC4.out.cell 1
      have la := HRC4.out.lt
      have a0 := HRC4.out.frozen 0
      have a1 := HRC4.out.frozen 1
      simp only [List.getElem?_cons_zero, List.getElem?_cons_succ] at f0 f2 q0 q1
      have HAC : Hid (accF M root virt access n = (no, vi)) := Lib.hid (by
        have h1 := accF_tr (M := M) (root := root) (virt := virt) (access := access) hin (by rw [← HVI.out, ← HG.out]; exact HN0.out) HOK.out
        rw [← HVI.out, ← HG.out] at h1
        exact h1)
      clear hrf hcf HRC3 HQ3 HTC
      go_upto_region 15 with fail
      go_still_tail 2, (by kernel_rfl)
      change wpList _ _ _ _ _ w4.drew
      have HY0 := Lib.hid ((HRC4.out.set_ 0 (.int .i64 (no : Nat))).cell 0)
      have HY1 := Lib.hid (((HRC4.out.set_ 0 (.int .i64 (no : Nat))).set_ 1 (.int .u64 (vi : Nat))).cell 1)
      simp only [List.set_cons_zero, List.set_cons_succ, List.getElem?_cons_zero, List.getElem?_cons_succ] at HY0 HY1
      go_wp2_with fail
      refine bodyPost_ret (v := .tuple #[.slice none 0 0, .agg #[.int .i64 (no : Nat), .int .u64 (vi : Nat)]]) (by simp [results, Tryz.results44, go_sem, HY0.out, HY1.out]) rfl ?_
      rw [HAC.out]
      refine ⟨fun h => absurd h HN0.out, fun _ => by rw [HFL.out], (HQ4.out.imp (fun h => h.1)).chg HSI.out (Y := fun k => k = c) ?_ HM.out (fun k hk => by rw [show k = c from hk, HC.out]; exact Nat.le_refl _)⟩
      exact ((ChgP.refl (fun k => k = c) w4).drew.set_ (p := ⟨c, 0, none⟩) (.inl rfl) _).set_ (p := ⟨c, 1, none⟩) (.inl rfl) _
  · have ei : i = n := by omega
    subst ei
    go_wp2_with fail
    go_loopw [61] (fun x wr => ∃ j : Nat, j ≤ i ∧ x = .int .i64 (j : Nat) ∧ Hid (∀ k, k < j → onM M (p k) = true) ∧ Hid (RI (SMach g) Z R w M c bb p i i wr)) (fun x _ => i - (intOf x).toNat)
    case atStart => exact ⟨0, by omega, rfl, Lib.hid (fun k h => absurd h (by omega)), HI⟩
    case round =>
    clear HI
    obtain ⟨j, hj, rfl, HON, HI⟩ := hrel
    by_cases hji : j < i
    · obtain ⟨a, ha⟩ : ∃ a, a = p j := ⟨_, rfl⟩
      have ha64 : a ≤ 18446744073709551615 := by rw [ha, HPE.out]; have := (@trI_lt M root (virt + j) access).1; show (trI M root (virt + j) access).1 ≤ _; omega
      obtain ⟨x, f0, f1, hx1, hx2, hx3, hpc⟩ := HP.out Z R wr M a HI.out.s HS.out ha64
      have HPC := Lib.hid hpc
      have HX1 := Lib.hid hx1; have HX2 := Lib.hid hx2
      have b0 := HI.out.rb.cell j
      rw [rowP_get _ _ _ _ hji, if_pos hji, ← ha] at b0
      unfold u64v at b0
      have lb := HI.out.rb.lt
      have HA := Lib.hid ha
      clear hpc hx1 hx2 ha
      have HRC0 := Lib.hid HI.out.rc
      go_upto_region 22 with (go_at_call 123; refine HPC.out.mono ?_; rintro e w3 ⟨rfl, hq3⟩; have HQ3 := Lib.hid hq3; clear hq3)
      have HRC3 := Lib.hid ((show ChgP Z wr w3 from HQ3.out.choose_spec.2.2.2).row HRC0.out (fun h => by have := HSI.out.z HM.out _ h; have := HC.out; omega))
      have hrf := Row.new w3 57 [.int .i64 (f0 : Nat), .int .u64 (f1 : Nat)]
      have HB4 : Hid (Below w3.heap.size w3 (w3.alloc (.cells #[.int .i64 (f0 : Nat), .int .u64 (f1 : Nat)] 57))) := Lib.hid ((Below.refl _ _).alloc (Nat.le_refl _) _)
      have HRC4 := Lib.hid (HRC3.out.alloc (.cells #[.int .i64 (f0 : Nat), .int .u64 (f1 : Nat)] 57))
      obtain ⟨cf, hcf⟩ : ∃ cf, cf = w3.heap.size := ⟨_, rfl⟩
      generalize w3.alloc (.cells #[.int .i64 (f0 : Nat), .int .u64 (f1 : Nat)] 57) = w4 at *
      rw [← hcf] at hrf ⊢
      have g0 := hrf.cell 0
      have lf := hrf.lt
      simp only [List.getElem?_cons_zero, List.getElem?_cons_succ] at g0
      clear hrf hcf b0 lb HRC0 HRC3
      cases ho : onM M a with
      | true =>
        have hz := (HX1.out ho).1
        subst hz
        have HI4 := Lib.hid ((HI.out.asked HQ3.out ho HSI.out HM.out).below HSI.out HB4.out HM.out)
        have HON' : Hid (∀ k, k < j + 1 → onM M (p k) = true) := Lib.hid (fun k hk => by
          rcases Nat.lt_or_ge k j with h | h
          · exact HON.out k h
          · obtain rfl : k = j := by omega
            rw [← HA.out]; exact ho)
        clear ho
        go_wp2_with fail
        go_roundw
        case rel => exact ⟨j + 1, by omega, by go_num, HON', HI4⟩
        case measure => simp [intOf]; omega
      | false =>
        have hz := HX2.out ho
        subst hz
        obtain ⟨vj, hvj⟩ : ∃ vj, vj = virt + j := ⟨_, rfl⟩
        have e1 : (virt : Int) + (j : Int) = (vj : Int) := by omega
        have hvt : vj ≤ 18446744073709551615 := by have := trI_hole (HOK.out j hji); omega
        have HAC : Hid (accF M root virt access i = (30, vj)) := Lib.hid (by
          rw [hvj]
          refine accF_bus hji HOK.out ?_ (fun k hk => ?_)
          · have h1 := HA.out; rw [HPE.out] at h1; rw [← show a = (trI M root (virt + j) access).1 from h1]; exact ho
          · have h1 := HON.out k hk; rw [HPE.out] at h1; exact h1)
        have HQ4 := Lib.hid ((HQ3.out.below HSI.out HB4.out).pre HI.out.ch)
        have q0 := HRC4.out.cell 0
        have q1 := HRC4.out.cell 1
        have la := HRC4.out.lt
        have a0 := HRC4.out.frozen 0
        have a1 := HRC4.out.frozen 1
        simp only [List.getElem?_cons_zero, List.getElem?_cons_succ] at q0 q1
        have HY0 := Lib.hid ((HRC4.out.set_ 0 (.int .i64 30)).cell 0)
        have HY1 := Lib.hid (((HRC4.out.set_ 0 (.int .i64 30)).set_ 1 (.int .u64 (vj : Nat))).cell 1)
        simp only [List.set_cons_zero, List.set_cons_succ, List.getElem?_cons_zero, List.getElem?_cons_succ] at HY0 HY1
        have HO := Lib.hid ho
        clear ho hvj
        go_wp2_with fail
        refine bodyPost_ret (v := .tuple #[.slice none 0 0, .agg #[.int .i64 30, .int .u64 (vj : Nat)]]) (by simp [results, Tryz.results44, go_sem, HY0.out, HY1.out]) rfl ?_
        rw [HAC.out]
        refine ⟨fun h => absurd h (by show ¬ (30 : Nat) = 0; decide), fun _ => rfl, (HQ4.out.imp (fun h => absurd rfl h.2)).chg HSI.out (Y := fun k => k = c) ?_ HM.out (fun k hk => by rw [show k = c from hk, HC.out]; exact Nat.le_refl _)⟩
        exact ((ChgP.refl (fun k => k = c) w4).set_ (p := ⟨c, 0, none⟩) (.inl rfl) _).set_ (p := ⟨c, 1, none⟩) (.inl rfl) _
    · have ej : j = i := by omega
      subst ej
      have HAC : Hid (accF M root virt access j = (0, 0)) := Lib.hid (accF_ok HOK.out (fun k hk => by have h1 := HON.out k hk; rw [HPE.out] at h1; exact h1))
      have HRC4 := Lib.hid HI.out.rc
      have q0 := HRC4.out.cell 0
      have q1 := HRC4.out.cell 1
      have la := HRC4.out.lt
      have a0 := HRC4.out.frozen 0
      have a1 := HRC4.out.frozen 1
      simp only [List.getElem?_cons_zero, List.getElem?_cons_succ] at q0 q1
      have HY0 := Lib.hid ((HRC4.out.set_ 0 (.int .i64 0)).cell 0)
      have HY1 := Lib.hid (((HRC4.out.set_ 0 (.int .i64 0)).set_ 1 (.int .u64 0)).cell 1)
      simp only [List.set_cons_zero, List.set_cons_succ, List.getElem?_cons_zero, List.getElem?_cons_succ] at HY0 HY1
      have HLN : Hid ((atL M root virt access j).length = j) := Lib.hid (by simp [atL])
      have HRW : Hid (rowP p j j = (atL M root virt access j).map u64v) := Lib.hid (by rw [rowP_full, HPE.out]; rfl)
      have HNE : Hid (bb ≠ c) := Lib.hid (Row.ne_t HI.out.rb HI.out.rc (by decide))
      go_wp2_with fail
      have hc2 : ChgP (fun k => k = c) wr ((wr.setCell ⟨c, 0, none⟩ (.int .i64 0)).setCell ⟨c, 1, none⟩ (.int .u64 0)) := ((ChgP.refl (fun k => k = c) wr).set_ (p := ⟨c, 0, none⟩) (.inl rfl) _).set_ (p := ⟨c, 1, none⟩) (.inl rfl) _
      refine bodyPost_ret (v := .tuple #[.slice (some ⟨bb, 0, none⟩) j j, .agg #[.int .i64 0, .int .u64 0]]) (by simp [results, Tryz.results44, go_sem, HY0.out, HY1.out]) rfl ?_
      rw [HAC.out]
      refine ⟨fun _ => ⟨bb, by rw [HLN.out]; rfl, HI.out.bw, ?_⟩, fun h => absurd rfl h, ((QuS.refl HI.out.s).pre HI.out.ch).chg HSI.out hc2 HM.out (fun k hk => by rw [show k = c from hk, HC.out]; exact Nat.le_refl _)⟩
      rw [← HRW.out]
      exact hc2.row HI.out.rb HNE.out
end Bu
end Go.Proofs.YtfpofaniicegaaaGreat
