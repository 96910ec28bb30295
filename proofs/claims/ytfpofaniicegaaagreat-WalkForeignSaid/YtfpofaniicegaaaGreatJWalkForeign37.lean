/- Texts of this claim, one behind the other: WpA. -/
import Derived.Test.YtfpofaniicegaaaGreatJWalkForeign36
import Derived.Test.YtfpofaniicegaaaGreatJWalkForeign27
import Derived.Test.YtfpofaniicegaaaGreatJWalkForeign28
/- The walks of the law's same and step (but for Leaves): one step over a machine of the program's, beside the document's. -/
set_option linter.unusedVariables false
set_option linter.unusedSimpArgs false
namespace Go.Proofs.YtfpofaniicegaaaGreat
open Go.RowKit
open S64
namespace Bu
set_option maxRecDepth 100000 in
theorem sameF_any (a b : Nat) (w : World) : Calls Tryz.prog 23 #[.agg #[.int .i64 (a : Nat), .int .u64 (b : Nat)], .agg #[.int .i64 (a : Nat), .int .u64 (b : Nat)]] w fun e w' => e = .returned (.bool true) ∧ Below w.heap.size w w' := by
  go_enter Tryz.func23, Tryz.ntmps23
  go_upto_region 1 with fail
  have hb : Below w.heap.size w ((w.alloc (.cells #[.int .i64 (a : Nat), .int .u64 (b : Nat)] 57)).alloc (.cells #[.int .i64 (a : Nat), .int .u64 (b : Nat)] 33)) := ((Below.refl _ _).alloc (Nat.le_refl _) _).alloc (by simp) _
  have r1 := (Row.new w 57 [.int .i64 (a : Nat), .int .u64 (b : Nat)]).alloc (.cells #[.int .i64 (a : Nat), .int .u64 (b : Nat)] 33)
  have r2 := Row.new (w.alloc (.cells #[.int .i64 (a : Nat), .int .u64 (b : Nat)] 57)) 33 [.int .i64 (a : Nat), .int .u64 (b : Nat)]
  rw [show (w.alloc (.cells #[.int .i64 (a : Nat), .int .u64 (b : Nat)] 57)).heap.size = w.heap.size + 1 by simp] at r2
  generalize (w.alloc (.cells #[.int .i64 (a : Nat), .int .u64 (b : Nat)] 57)).alloc (.cells #[.int .i64 (a : Nat), .int .u64 (b : Nat)] 33) = w1 at *
  have x0 := r1.cell 0
  have x1 := r1.cell 1
  have xl := r1.lt
  have y0 := r2.cell 0
  have y1 := r2.cell 1
  have yl := r2.lt
  simp only [List.getElem?_cons_zero, List.getElem?_cons_succ] at x0 x1 y0 y1
  have HB := Lib.hid hb
  clear hb r1 r2
  go_wp2_with fail
  go_ret
  exact ⟨rfl, HB.out⟩
theorem stN_sM (M : PM) (s : Int) (p : Nat → Nat) (v i : Nat) : stN (sM M s) p v i = sM (stN M p v i) s := by
  induction i with
  | zero => rfl
  | succ i ih =>
    show st1 (stN (sM M s) p v i) (p i) (byteOf v i) = _
    rw [ih]; rfl
theorem accZ_sM {M : PM} {s : Int} {root virt : Nat} {access z : Int} : accZ (sM M s) root virt access z = accZ M root virt access z := by
  unfold accZ
  split
  · rw [atL_sM, accF_sM]
  · rfl
theorem laidM_sM (M : PM) (s : Int) (a n : Nat) (f : Nat → Nat) (c : Nat) (F : Option Nat) : ∃ s', laidM (sM M s) a n f c F = sM (laidM M a n f c F) s' := by
  cases F with
  | none => exact ⟨s, rfl⟩
  | some q => exact ⟨cInc s, rfl⟩
/-- what a step leaves -/
def StS (B g gv : Nat) (Z Zv : Nat → Prop) (M : PM) (w : World) (e : Ending) (w' : World) : Prop :=
  e = .returned (.bool true) ∧ ∃ (Z' R' Zv' : Nat → Prop) (M' : PM) (s' : Int), Two B Z' R' Zv' w' g gv M' (sM M' s') ∧ ChgP (fun k => Z k ∨ Zv k) w w' ∧ (∀ k, Z' k → Z k ∨ w.heap.size ≤ k) ∧ (∀ k, Zv' k → Zv k ∨ w.heap.size ≤ k) ∧ M'.rams = M.rams ∧ M'.devs = M.devs
/-- the program's call, beside the document's machine -/
def PairA (F1 : FuncId) (args1 : Array Value) (B g gv : Nat) (Z R Zv : Nat → Prop) (M Mv Mn : PM) (V N D : Nat) (w : World) : Prop :=
  Calls Tryz.prog F1 args1 w fun e w' => e = .returned (.tuple #[.int .u64 (V : Nat), .agg #[.int .i64 (N : Nat), .int .u64 (D : Nat)]]) ∧ ∃ (M2 : PM) (s2 : Int), Two B Z R Zv w' g gv M2 Mv ∧ Mn = sM M2 s2 ∧ ChgP (fun k => Z k ∨ Zv k) w w' ∧ M2.rams = M.rams ∧ M2.devs = M.devs
/-- the document's call -/
def PairB (F2 : FuncId) (args2 : Array Value) (B g gv : Nat) (Z R Zv : Nat → Prop) (Mv Mn : PM) (V N D : Nat) : Prop :=
  ∀ (wx : World) (M2 : PM), Two B Z R Zv wx g gv M2 Mv → Calls Tryz.prog F2 args2 wx fun e w' => e = .returned (.tuple #[.int .u64 (V : Nat), .agg #[.int .i64 (N : Nat), .int .u64 (D : Nat)]]) ∧ Two B Z R Zv w' g gv M2 Mn ∧ ChgP (fun k => Z k ∨ Zv k) wx w'
theorem tr_pair {B g gv : Nat} {Z R Zv : Nat → Prop} {w : World} {M : PM} {s : Int} (h : Two B Z R Zv w g gv M (sM M s)) (nn : Int) (root virt : Nat) (hr : root ≤ 18446744073709551615) (hv : virt ≤ 18446744073709551615) :
    ∃ (V N D : Nat) (Mn : PM), PairA 21 #[.iface 50 (.pointer (some ⟨g, 0, none⟩)), .int .u64 (root : Nat), .int .u64 (virt : Nat), .int .i64 nn] B g gv Z R Zv M (sM M s) Mn V N D w ∧
      PairB 22 #[.pointer (some ⟨gv, 0, none⟩), .int .u64 (root : Nat), .int .u64 (virt : Nat), .int .i64 nn] B g gv Z R Zv (sM M s) Mn V N D := by
  refine ⟨(trI M root virt nn).1, (trI M root virt nn).2, if (trI M root virt nn).2 = 0 then 0 else virt, sM M s, ?_, fun wx M2 h2 => ?_⟩
  · refine (translateT_any (smach_i g) (ent_mach g) Z R w M root virt nn h.m trivial hr hv).mono fun e w' hh => ?_
    obtain ⟨he, s2, _, _, h1, h2⟩ := hh
    refine ⟨by rw [he, flt_agg], sM M s2, s, h.left h1 h2 (fun k hk => .inl hk), rfl, h2.mono (fun k hk => .inl (.inl hk)), rfl, rfl⟩
  · refine (rtr_any h2.v root virt nn hr hv).mono fun e w' hh => ?_
    obtain ⟨he, h3, h4⟩ := hh
    rw [sM_tr] at he
    exact ⟨he, h2.right h3 h4 (fun k hk => .inl hk), h4.mono (fun k hk => .inl (.inr hk))⟩
theorem ldfe_pair {B g gv : Nat} {Z R Zv : Nat → Prop} {w : World} {M : PM} {s : Int} (h : Two B Z R Zv w g gv M (sM M s)) (nn access : Int) (root virt : Nat) (hr : root ≤ 18446744073709551615) (hv : virt ≤ 18446744073709551615) {F1 : FuncId}
    (hF : Calls Tryz.prog F1 #[.iface 50 (machV g), .int .u64 (root : Nat), .int .u64 (virt : Nat), .int .i64 nn] w (TakeS (SMach g) Z R w M (accZ M root virt access nn).1 (accZ M root virt access nn).2)) :
    ∃ (V N D : Nat) (Mn : PM), PairA F1 #[.iface 50 (.pointer (some ⟨g, 0, none⟩)), .int .u64 (root : Nat), .int .u64 (virt : Nat), .int .i64 nn] B g gv Z R Zv M (sM M s) Mn V N D w ∧
      PairB 24 #[.pointer (some ⟨gv, 0, none⟩), .int .u64 (root : Nat), .int .u64 (virt : Nat), .int .i64 nn, .int .i64 access] B g gv Z R Zv (sM M s) Mn V N D := by
  obtain ⟨r, hrr⟩ : ∃ r, r = accZ M root virt access nn := ⟨_, rfl⟩
  refine ⟨if r.2.1 = 0 then Wd.unle (r.1.map M.mem) else 0, r.2.1, if r.2.1 = 0 then 0 else r.2.2, ldM (sM M s) s (if r.2.1 = 0 then r.1.length else 0), ?_, fun wx M2 h2 => ?_⟩
  · refine Calls.mono hF fun e w' hh => ?_
    rw [← hrr] at hh
    obtain ⟨he, s2, _, _, h1, h2⟩ := hh
    refine ⟨by rw [he, flt_agg], _, s, h.left h1 h2 (fun k hk => .inl hk), rfl, h2.mono (fun k hk => .inl (.inl hk)), rfl, rfl⟩
  · refine (rload4_z h2.v root virt nn access hr hv).mono fun e w' hh => ?_
    rw [accZ_sM, ← hrr] at hh
    obtain ⟨he, h3, h4⟩ := hh
    refine ⟨by rw [he, flt_agg]; rfl, h2.right h3 h4 (fun k hk => .inl hk), h4.mono (fun k hk => .inl (.inr hk))⟩
theorem StS.pre {B g gv : Nat} {Z Zv : Nat → Prop} {M : PM} {w w1 w' : World} {e : Ending} (h : StS B g gv Z Zv M w1 e w') (hb : Below w.heap.size w w1) : StS B g gv Z Zv M w e w' := by
  obtain ⟨he, Z', R', Zv', M', s', h1, h2, h3, h4, h5⟩ := h
  exact ⟨he, Z', R', Zv', M', s', h1, (ChgP.of_below (Z := fun k => Z k ∨ Zv k) hb).trans h2 (fun k hk => .inl hk), fun k hk => (h3 k hk).imp id (fun h => Nat.le_trans hb.size h), fun k hk => (h4 k hk).imp id (fun h => Nat.le_trans hb.size h), h5⟩
/-- the program's call that lays, and the document's -/
def LayA (F1 : FuncId) (args1 : Array Value) (B g gv : Nat) (Z R : Nat → Prop) (M MS : PM) (N D : Nat) : Prop :=
  ∀ (wx : World) (Zv1 : Nat → Prop) (Mv : PM), Two B Z R Zv1 wx g gv M Mv → Calls Tryz.prog F1 args1 wx fun e w' => e = .returned (.agg #[.int .i64 (N : Nat), .int .u64 (D : Nat)]) ∧ ∃ (Z1 : Nat → Prop) (s1 : Int), Two B Z1 R Zv1 w' g gv (sM MS s1) Mv ∧ ChgP Z wx w' ∧ ∀ k, Z1 k → Z k ∨ wx.heap.size ≤ k
def LayB (F2 : FuncId) (args2 : Array Value) (B g gv : Nat) (R Zv : Nat → Prop) (Mv MS : PM) (N D : Nat) : Prop :=
  ∀ (wx : World) (Z1 : Nat → Prop) (M1 : PM), Two B Z1 R Zv wx g gv M1 Mv → Calls Tryz.prog F2 args2 wx fun e w' => e = .returned (.agg #[.int .i64 (N : Nat), .int .u64 (D : Nat)]) ∧ ∃ (Zv1 : Nat → Prop) (s1 : Int), Two B Z1 R Zv1 w' g gv M1 (sM MS s1) ∧ ChgP Zv wx w' ∧ ∀ k, Zv1 k → Zv k ∨ wx.heap.size ≤ k
theorem st_pair {B g gv : Nat} {Z R Zv : Nat → Prop} {M : PM} {s : Int} (nn : Int) (root virt value : Nat) (hr : root ≤ 18446744073709551615) (hv : virt ≤ 18446744073709551615) (hvv : value ≤ 18446744073709551615) :
    ∃ (N D : Nat) (MS : PM), (MS.rams = M.rams ∧ MS.devs = M.devs) ∧ LayA 25 #[.iface 50 (.pointer (some ⟨g, 0, none⟩)), .int .u64 (root : Nat), .int .u64 (virt : Nat), .int .i64 nn, .int .u64 (value : Nat)] B g gv Z R M MS N D ∧
      LayB 26 #[.pointer (some ⟨gv, 0, none⟩), .int .u64 (root : Nat), .int .u64 (virt : Nat), .int .i64 nn, .int .u64 (value : Nat)] B g gv R Zv (sM M s) MS N D := by
  obtain ⟨r, hrr⟩ : ∃ r, r = accZ M root virt 2 nn := ⟨_, rfl⟩
  refine ⟨r.2.1, if r.2.1 = 0 then 0 else r.2.2, stN M (fun j => r.1.getD j 0) value (if r.2.1 = 0 then r.1.length else 0), ⟨(stN_meta _ _ _ _).1, (stN_meta _ _ _ _).2.1⟩, fun wx Zv1 Mv h => ?_, fun wx Z1 M1 h => ?_⟩
  · refine (wstore_mach g root virt value nn (accZ M root virt 2 nn).1 (accZ M root virt 2 nn).2 (fun wx hx => reach_z g (translateT_any (smach_i g) (ent_mach g)) root virt nn 2 hx trivial hr hv) (st1_mach g) h.m hvv trivial trivial accZ_len accZ_on).mono fun e w' hh => ?_
    rw [← hrr] at hh
    obtain ⟨he, s1, Z1, _, _, h1, h2, h3⟩ := hh
    rw [stN_sM] at h1
    exact ⟨by rw [he, flt_agg], Z1, s1, h.left h1 h2 h3, h2, h3⟩
  · refine (rstore4_z h.v root virt value nn hr hv hvv).mono fun e w' hh => ?_
    rw [accZ_sM, ← hrr] at hh
    obtain ⟨he, Zv1, h1, h2, h3⟩ := hh
    rw [stN_sM] at h1
    exact ⟨by rw [he, flt_agg], Zv1, s, h.right h1 h2 h3, h2, h3⟩
theorem lay_pair {B g gv : Nat} {Z R Zv : Nat → Prop} {M : PM} {s : Int} (hl : Lim M) (virt value : Nat) (hv : virt ≤ 18446744073709551615) (hvv : value ≤ 18446744073709551615) :
    ∃ (N D : Nat) (MS : PM), (MS.rams = M.rams ∧ MS.devs = M.devs) ∧ LayA 29 #[.pointer (some ⟨g, 0, none⟩), .int .u64 (virt : Nat), .int .i64 8, .int .u64 (value : Nat)] B g gv Z R M MS N D ∧
      LayB 8 #[.pointer (some ⟨gv, 0, none⟩), .int .u64 (virt : Nat), .int .i64 8, .int .u64 (value : Nat)] B g gv R Zv (sM M s) MS N D := by
  have hF := offF_is (n := 8) hl hv
  obtain ⟨F, hFF⟩ : ∃ F, F = offF M virt 8 := ⟨_, rfl⟩
  rw [← hFF] at hF
  refine ⟨fno F, F.getD 0, laidM M virt 8 (byteOf value) 1 F, (by cases F <;> exact ⟨rfl, rfl⟩), fun wx Zv1 Mv h => ?_, fun wx Z1 M1 h => ?_⟩
  · refine (store_m (n := 8) h.m (by omega) hvv trivial hv trivial hF).mono fun e w' hh => ?_
    obtain ⟨he, Z1, h1, h2, h3⟩ := hh
    exact ⟨by rw [he, faultV_eq], Z1, (laidM M virt 8 (byteOf value) 1 F).strays, h.left h1 h2 h3, h2, h3⟩
  · refine (rstore_m (n := 8) h.v (by omega) hvv trivial hv trivial hF).mono fun e w' hh => ?_
    obtain ⟨he, Zv1, h1, h2, h3⟩ := hh
    obtain ⟨s', hs'⟩ := laidM_sM M s virt 8 (byteOf value) 1 F
    rw [hs'] at h1
    exact ⟨by rw [he, faultV_eq], Zv1, s', h.right h1 h2 h3, h2, h3⟩
/-- both have laid -/
theorem lay_done {B g gv : Nat} {Z R Zv Z1 Zv1 : Nat → Prop} {w1 w' : World} {M MS : PM} {s1 s2 : Int} (hb : MS.rams = M.rams ∧ MS.devs = M.devs) (h : Two B Z1 R Zv1 w' g gv (sM MS s1) (sM MS s2)) (hc : ChgP (fun k => Z k ∨ Zv k) w1 w') (h1 : ∀ k, Z1 k → Z k ∨ w1.heap.size ≤ k) (h2 : ∀ k, Zv1 k → Zv k ∨ w1.heap.size ≤ k) : StS B g gv Z Zv M w1 (.returned (.bool true)) w' :=
  ⟨rfl, Z1, R, Zv1, sM MS s1, s2, h, hc, h1, h2, hb⟩
theorem StS.after {B g gv : Nat} {Z Zv : Nat → Prop} {M : PM} {w w1 w' : World} {e : Ending} (h : StS B g gv Z Zv M w e w1) (hb : Below w1.heap.size w1 w') : StS B g gv Z Zv M w e w' := by
  obtain ⟨he, Z', R', Zv', M', s', h1, h2, h3, h4, h5⟩ := h
  exact ⟨he, Z', R', Zv', M', s', h1.below hb, h2.trans (ChgP.of_below (Z := fun _ => False) hb) (fun k hk => hk.elim), h3, h4, h5⟩
/-- an operation's cells -/
def opC (kd nn : Int) (root virt value : Nat) : List Value := [.int .i64 kd, .int .u64 (root : Nat), .int .u64 (virt : Nat), .int .u64 (value : Nat), .int .i64 nn]
def opV (kd nn : Int) (root virt value : Nat) : Value := .agg #[.int .i64 kd, .int .u64 (root : Nat), .int .u64 (virt : Nat), .int .u64 (value : Nat), .int .i64 nn]
/-- the machine's calls, in the words of a step -/
def LvC (B g gv : Nat) (kd nn : Int) (root virt value : Nat) : Prop := ∀ (Z R Zv : Nat → Prop) (w : World) (M : PM) (s : Int), Two B Z R Zv w g gv M (sM M s) →
  Calls Tryz.prog 27 #[.iface 50 (.pointer (some ⟨g, 0, none⟩)), .pointer (some ⟨gv, 0, none⟩), opV kd nn root virt value] w (StS B g gv Z Zv M w)
set_option maxRecDepth 100000 in
set_option maxHeartbeats 4000000 in
theorem step_any {B g gv : Nat} {Z R Zv : Nat → Prop} {w : World} {M : PM} {s : Int} (h : Two B Z R Zv w g gv M (sM M s)) (kd nn : Int) (root virt value : Nat) (hr : root ≤ 18446744073709551615) (hv : virt ≤ 18446744073709551615) (hvv : value ≤ 18446744073709551615) (hlv : LvC B g gv kd nn root virt value) :
    Calls Tryz.prog 9 #[.iface 50 (.pointer (some ⟨g, 0, none⟩)), .pointer (some ⟨gv, 0, none⟩), opV kd nn root virt value] w (StS B g gv Z Zv M w) := by
  have HT := Lib.hid h; have HLV := Lib.hid hlv
  clear h hlv
  unfold opV at *
  go_enter Tryz.func9, Tryz.ntmps9
  go_upto_region 1 with fail
  have ro := Row.new w 41 [.int .i64 kd, .int .u64 (root : Nat), .int .u64 (virt : Nat), .int .u64 (value : Nat), .int .i64 nn]
  have hb1 : Below w.heap.size w (w.alloc (.cells #[.int .i64 kd, .int .u64 (root : Nat), .int .u64 (virt : Nat), .int .u64 (value : Nat), .int .i64 nn] 41)) := (Below.refl _ _).alloc (Nat.le_refl _) _
  have HT1 := Lib.hid (HT.out.below hb1)
  have HZ : Hid (∀ k, Z k ∨ R k ∨ Zv k → k < w.heap.size) := Lib.hid (fun k hk => by
    rcases hk with hk | hk | hk
    · exact HT.out.m.z k hk
    · exact HT.out.m.r k hk
    · exact (HT.out.v.lt k hk).2)
  generalize w.alloc (.cells #[.int .i64 kd, .int .u64 (root : Nat), .int .u64 (virt : Nat), .int .u64 (value : Nat), .int .i64 nn] 41) = w1 at *
  have HB1 := Lib.hid hb1; have HO1 := Lib.hid ro
  clear hb1 ro
  have o0 := HO1.out.cell 0
  have o1 := HO1.out.cell 1
  have o2 := HO1.out.cell 2
  have o3 := HO1.out.cell 3
  have o4 := HO1.out.cell 4
  have ol := HO1.out.lt
  simp only [List.getElem?_cons_zero, List.getElem?_cons_succ] at o0 o1 o2 o3 o4
  by_cases k1 : kd = 1
  · subst k1
    obtain ⟨V, N, D, Mn, hA, hB⟩ := tr_pair HT1.out nn root virt hr hv
    have HA := Lib.hid hA; have HBc := Lib.hid hB
    clear hA hB
    unfold PairA at HA
    unfold PairB at HBc
    go_upto_region 3 with fail
    go_upto_region 4 with (go_at_call 21; refine HA.out.mono ?_; rintro e w2 ⟨rfl, M2, s2, h2, he2, hc2, hbus⟩; have H2 := Lib.hid (And.intro h2 (And.intro he2 hc2)); have HBUS := Lib.hid hbus; clear h2 he2 hc2 hbus)
    have hb3 : Below w2.heap.size w2 (w2.alloc (.cells #[.int .i64 (N : Nat), .int .u64 (D : Nat)] 57)) := (Below.refl _ _).alloc (Nat.le_refl _) _
    have H3 := Lib.hid (H2.out.1.below hb3)
    have HC3 : Hid (ChgP (fun k => Z k ∨ Zv k) w1 (w2.alloc (.cells #[.int .i64 (N : Nat), .int .u64 (D : Nat)] 57))) := Lib.hid (H2.out.2.2.alloc _)
    have HO3 := Lib.hid ((H2.out.2.2.row HO1.out (fun hk => by have := HZ.out w.heap.size (hk.elim .inl (fun h => .inr (.inr h))); omega)).alloc (.cells #[.int .i64 (N : Nat), .int .u64 (D : Nat)] 57))
    have r3 := Row.new w2 57 [.int .i64 (N : Nat), .int .u64 (D : Nat)]
    have HE := Lib.hid H2.out.2.1
    have hcw : ∀ k, Z k ∨ R k ∨ Zv k → k < w2.heap.size := fun k hk => Nat.lt_of_lt_of_le (HZ.out k hk) (Nat.le_trans HB1.out.size H2.out.2.2.size)
    obtain ⟨c8, hc8⟩ : ∃ c, c = w2.heap.size := ⟨_, rfl⟩
    generalize w2.alloc (.cells #[.int .i64 (N : Nat), .int .u64 (D : Nat)] 57) = w3 at *
    rw [← hc8] at r3 hcw ⊢
    have HR3 := Lib.hid r3; have HCW := Lib.hid hcw
    clear o0 o1 o2 o3 o4 ol hb3 r3 hc8 H2 HT1 HA hcw
    have o1 := HO3.out.cell 1
    have o2 := HO3.out.cell 2
    have o4 := HO3.out.cell 4
    have ol := HO3.out.lt
    simp only [List.getElem?_cons_zero, List.getElem?_cons_succ] at o1 o2 o4
    go_upto_region 5 with (go_at_call 22; refine (HBc.out _ _ H3.out).mono ?_; rintro e w4 ⟨rfl, h4, hc4⟩; have H4 := Lib.hid (And.intro h4 hc4); clear h4 hc4)
    have hb5 : Below w4.heap.size w4 (w4.alloc (.cells #[.int .i64 (N : Nat), .int .u64 (D : Nat)] 33)) := (Below.refl _ _).alloc (Nat.le_refl _) _
    have H5 := Lib.hid (H4.out.1.below hb5)
    have HC5 : Hid (ChgP (fun k => Z k ∨ Zv k) w1 (w4.alloc (.cells #[.int .i64 (N : Nat), .int .u64 (D : Nat)] 33))) := Lib.hid ((HC3.out.trans H4.out.2 (fun k hk => .inl hk)).alloc _)
    have r5 := (H4.out.2.row HR3.out (fun hk => by have := HCW.out c8 (hk.elim .inl (fun h => .inr (.inr h))); omega)).alloc (.cells #[.int .i64 (N : Nat), .int .u64 (D : Nat)] 33)
    have q5 := Row.new w4 33 [.int .i64 (N : Nat), .int .u64 (D : Nat)]
    obtain ⟨c10, hc10⟩ : ∃ c, c = w4.heap.size := ⟨_, rfl⟩
    generalize w4.alloc (.cells #[.int .i64 (N : Nat), .int .u64 (D : Nat)] 33) = w5 at *
    rw [← hc10] at q5 ⊢
    have x0 := r5.cell 0
    have x1 := r5.cell 1
    have xl := r5.lt
    have y0 := q5.cell 0
    have y1 := q5.cell 1
    have yl := q5.lt
    simp only [List.getElem?_cons_zero, List.getElem?_cons_succ] at x0 x1 y0 y1
    clear o1 o2 o4 ol hb5 r5 q5 hc10 H4 H3
    go_wp2_with fail
    refine (sameF_any N D _).mono ?_
    rintro e w6 ⟨rfl, hb6⟩
    have HF : Hid (StS B g gv Z Zv M w1 (.returned (.bool true)) w6) := Lib.hid ⟨rfl, Z, R, Zv, M2, s2, (by have := H5.out.below hb6; rw [HE.out] at this; exact this), HC5.out.trans (ChgP.of_below (Z := fun _ => False) hb6) (fun k hk => hk.elim), fun k hk => .inl hk, fun k hk => .inl hk, HBUS.out⟩
    clear hb6 x0 x1 xl y0 y1 yl
    go_wp2_with fail
    go_ret
    exact HF.out.pre HB1.out
  by_cases k2 : kd = 2
  · subst k2
    obtain ⟨V, N, D, Mn, hA, hB⟩ := ldfe_pair HT1.out nn 1 root virt hr hv (wload_mach g (translateT_any (smach_i g) (ent_mach g)) root virt nn HT1.out.m trivial trivial hr hv)
    have HA := Lib.hid hA; have HBc := Lib.hid hB
    clear hA hB
    unfold PairA at HA
    unfold PairB at HBc
    go_upto_region 7 with fail
    go_upto_region 8 with (go_at_call 14; refine HA.out.mono ?_; rintro e w2 ⟨rfl, M2, s2, h2, he2, hc2, hbus⟩; have H2 := Lib.hid (And.intro h2 (And.intro he2 hc2)); have HBUS := Lib.hid hbus; clear h2 he2 hc2 hbus)
    have hb3 : Below w2.heap.size w2 (w2.alloc (.cells #[.int .i64 (N : Nat), .int .u64 (D : Nat)] 57)) := (Below.refl _ _).alloc (Nat.le_refl _) _
    have H3 := Lib.hid (H2.out.1.below hb3)
    have HC3 : Hid (ChgP (fun k => Z k ∨ Zv k) w1 (w2.alloc (.cells #[.int .i64 (N : Nat), .int .u64 (D : Nat)] 57))) := Lib.hid (H2.out.2.2.alloc _)
    have HO3 := Lib.hid ((H2.out.2.2.row HO1.out (fun hk => by have := HZ.out w.heap.size (hk.elim .inl (fun h => .inr (.inr h))); omega)).alloc (.cells #[.int .i64 (N : Nat), .int .u64 (D : Nat)] 57))
    have r3 := Row.new w2 57 [.int .i64 (N : Nat), .int .u64 (D : Nat)]
    have HE := Lib.hid H2.out.2.1
    have hcw : ∀ k, Z k ∨ R k ∨ Zv k → k < w2.heap.size := fun k hk => Nat.lt_of_lt_of_le (HZ.out k hk) (Nat.le_trans HB1.out.size H2.out.2.2.size)
    obtain ⟨c8, hc8⟩ : ∃ c, c = w2.heap.size := ⟨_, rfl⟩
    generalize w2.alloc (.cells #[.int .i64 (N : Nat), .int .u64 (D : Nat)] 57) = w3 at *
    rw [← hc8] at r3 hcw ⊢
    have HR3 := Lib.hid r3; have HCW := Lib.hid hcw
    clear o0 o1 o2 o3 o4 ol hb3 r3 hc8 H2 HT1 HA hcw
    have o1 := HO3.out.cell 1
    have o2 := HO3.out.cell 2
    have o4 := HO3.out.cell 4
    have ol := HO3.out.lt
    simp only [List.getElem?_cons_zero, List.getElem?_cons_succ] at o1 o2 o4
    go_upto_region 9 with (go_at_call 24; refine (HBc.out _ _ H3.out).mono ?_; rintro e w4 ⟨rfl, h4, hc4⟩; have H4 := Lib.hid (And.intro h4 hc4); clear h4 hc4)
    have hb5 : Below w4.heap.size w4 (w4.alloc (.cells #[.int .i64 (N : Nat), .int .u64 (D : Nat)] 33)) := (Below.refl _ _).alloc (Nat.le_refl _) _
    have H5 := Lib.hid (H4.out.1.below hb5)
    have HC5 : Hid (ChgP (fun k => Z k ∨ Zv k) w1 (w4.alloc (.cells #[.int .i64 (N : Nat), .int .u64 (D : Nat)] 33))) := Lib.hid ((HC3.out.trans H4.out.2 (fun k hk => .inl hk)).alloc _)
    have r5 := (H4.out.2.row HR3.out (fun hk => by have := HCW.out c8 (hk.elim .inl (fun h => .inr (.inr h))); omega)).alloc (.cells #[.int .i64 (N : Nat), .int .u64 (D : Nat)] 33)
    have q5 := Row.new w4 33 [.int .i64 (N : Nat), .int .u64 (D : Nat)]
    obtain ⟨c10, hc10⟩ : ∃ c, c = w4.heap.size := ⟨_, rfl⟩
    generalize w4.alloc (.cells #[.int .i64 (N : Nat), .int .u64 (D : Nat)] 33) = w5 at *
    rw [← hc10] at q5 ⊢
    have x0 := r5.cell 0
    have x1 := r5.cell 1
    have xl := r5.lt
    have y0 := q5.cell 0
    have y1 := q5.cell 1
    have yl := q5.lt
    simp only [List.getElem?_cons_zero, List.getElem?_cons_succ] at x0 x1 y0 y1
    clear o1 o2 o4 ol hb5 r5 q5 hc10 H4 H3
    go_wp2_with fail
    refine (sameF_any N D _).mono ?_
    rintro e w6 ⟨rfl, hb6⟩
    have HF : Hid (StS B g gv Z Zv M w1 (.returned (.bool true)) w6) := Lib.hid ⟨rfl, Z, R, Zv, M2, s2, (by have := H5.out.below hb6; rw [HE.out] at this; exact this), HC5.out.trans (ChgP.of_below (Z := fun _ => False) hb6) (fun k hk => hk.elim), fun k hk => .inl hk, fun k hk => .inl hk, HBUS.out⟩
    clear hb6 x0 x1 xl y0 y1 yl
    go_wp2_with fail
    go_ret
    exact HF.out.pre HB1.out
  by_cases k4 : kd = 4
  · subst k4
    obtain ⟨V, N, D, Mn, hA, hB⟩ := ldfe_pair HT1.out nn 3 root virt hr hv (wfetch_mach g (translateT_any (smach_i g) (ent_mach g)) root virt nn HT1.out.m trivial trivial hr hv)
    have HA := Lib.hid hA; have HBc := Lib.hid hB
    clear hA hB
    unfold PairA at HA
    unfold PairB at HBc
    go_upto_region 11 with fail
    go_upto_region 12 with (go_at_call 15; refine HA.out.mono ?_; rintro e w2 ⟨rfl, M2, s2, h2, he2, hc2, hbus⟩; have H2 := Lib.hid (And.intro h2 (And.intro he2 hc2)); have HBUS := Lib.hid hbus; clear h2 he2 hc2 hbus)
    have hb3 : Below w2.heap.size w2 (w2.alloc (.cells #[.int .i64 (N : Nat), .int .u64 (D : Nat)] 57)) := (Below.refl _ _).alloc (Nat.le_refl _) _
    have H3 := Lib.hid (H2.out.1.below hb3)
    have HC3 : Hid (ChgP (fun k => Z k ∨ Zv k) w1 (w2.alloc (.cells #[.int .i64 (N : Nat), .int .u64 (D : Nat)] 57))) := Lib.hid (H2.out.2.2.alloc _)
    have HO3 := Lib.hid ((H2.out.2.2.row HO1.out (fun hk => by have := HZ.out w.heap.size (hk.elim .inl (fun h => .inr (.inr h))); omega)).alloc (.cells #[.int .i64 (N : Nat), .int .u64 (D : Nat)] 57))
    have r3 := Row.new w2 57 [.int .i64 (N : Nat), .int .u64 (D : Nat)]
    have HE := Lib.hid H2.out.2.1
    have hcw : ∀ k, Z k ∨ R k ∨ Zv k → k < w2.heap.size := fun k hk => Nat.lt_of_lt_of_le (HZ.out k hk) (Nat.le_trans HB1.out.size H2.out.2.2.size)
    obtain ⟨c8, hc8⟩ : ∃ c, c = w2.heap.size := ⟨_, rfl⟩
    generalize w2.alloc (.cells #[.int .i64 (N : Nat), .int .u64 (D : Nat)] 57) = w3 at *
    rw [← hc8] at r3 hcw ⊢
    have HR3 := Lib.hid r3; have HCW := Lib.hid hcw
    clear o0 o1 o2 o3 o4 ol hb3 r3 hc8 H2 HT1 HA hcw
    have o1 := HO3.out.cell 1
    have o2 := HO3.out.cell 2
    have o4 := HO3.out.cell 4
    have ol := HO3.out.lt
    simp only [List.getElem?_cons_zero, List.getElem?_cons_succ] at o1 o2 o4
    go_upto_region 13 with (go_at_call 24; refine (HBc.out _ _ H3.out).mono ?_; rintro e w4 ⟨rfl, h4, hc4⟩; have H4 := Lib.hid (And.intro h4 hc4); clear h4 hc4)
    have hb5 : Below w4.heap.size w4 (w4.alloc (.cells #[.int .i64 (N : Nat), .int .u64 (D : Nat)] 33)) := (Below.refl _ _).alloc (Nat.le_refl _) _
    have H5 := Lib.hid (H4.out.1.below hb5)
    have HC5 : Hid (ChgP (fun k => Z k ∨ Zv k) w1 (w4.alloc (.cells #[.int .i64 (N : Nat), .int .u64 (D : Nat)] 33))) := Lib.hid ((HC3.out.trans H4.out.2 (fun k hk => .inl hk)).alloc _)
    have r5 := (H4.out.2.row HR3.out (fun hk => by have := HCW.out c8 (hk.elim .inl (fun h => .inr (.inr h))); omega)).alloc (.cells #[.int .i64 (N : Nat), .int .u64 (D : Nat)] 33)
    have q5 := Row.new w4 33 [.int .i64 (N : Nat), .int .u64 (D : Nat)]
    obtain ⟨c10, hc10⟩ : ∃ c, c = w4.heap.size := ⟨_, rfl⟩
    generalize w4.alloc (.cells #[.int .i64 (N : Nat), .int .u64 (D : Nat)] 33) = w5 at *
    rw [← hc10] at q5 ⊢
    have x0 := r5.cell 0
    have x1 := r5.cell 1
    have xl := r5.lt
    have y0 := q5.cell 0
    have y1 := q5.cell 1
    have yl := q5.lt
    simp only [List.getElem?_cons_zero, List.getElem?_cons_succ] at x0 x1 y0 y1
    clear o1 o2 o4 ol hb5 r5 q5 hc10 H4 H3
    go_wp2_with fail
    refine (sameF_any N D _).mono ?_
    rintro e w6 ⟨rfl, hb6⟩
    have HF : Hid (StS B g gv Z Zv M w1 (.returned (.bool true)) w6) := Lib.hid ⟨rfl, Z, R, Zv, M2, s2, (by have := H5.out.below hb6; rw [HE.out] at this; exact this), HC5.out.trans (ChgP.of_below (Z := fun _ => False) hb6) (fun k hk => hk.elim), fun k hk => .inl hk, fun k hk => .inl hk, HBUS.out⟩
    clear hb6 x0 x1 xl y0 y1 yl
    go_wp2_with fail
    go_ret
    exact HF.out.pre HB1.out
  by_cases k3 : kd = 3
  · subst k3
    obtain ⟨N, D, MS, hbus, hA, hB⟩ := st_pair (B := B) (g := g) (gv := gv) (Z := Z) (R := R) (Zv := Zv) (M := M) (s := s) nn root virt value hr hv hvv
    have HA := Lib.hid hA; have HBc := Lib.hid hB; have HBUS := Lib.hid hbus
    clear hA hB hbus
    unfold LayA at HA
    unfold LayB at HBc
    have HOP : Hid (∀ wx, ChgP (fun k => Z k ∨ Zv k) w1 wx → wx.cell? ⟨w.heap.size, 1, none⟩ = some (.int .u64 (root : Nat)) ∧ wx.cell? ⟨w.heap.size, 2, none⟩ = some (.int .u64 (virt : Nat)) ∧ wx.cell? ⟨w.heap.size, 3, none⟩ = some (.int .u64 (value : Nat)) ∧ wx.cell? ⟨w.heap.size, 4, none⟩ = some (.int .i64 nn)) := Lib.hid (fun wx hc => by
      have hr := hc.row HO1.out (fun hk => by have := HZ.out w.heap.size (hk.elim .inl (fun h => .inr (.inr h))); omega)
      exact ⟨hr.cell 1, hr.cell 2, hr.cell 3, hr.cell 4⟩)
    have HT2 := Lib.hid (HT1.out.below (Below.refl _ _).drew)
    have HC2 : Hid (ChgP (fun k => Z k ∨ Zv k) w1 w1.drew) := Lib.hid (ChgP.refl _ w1).drew
    go_upto_region 15 with fail
    go_region_held3 (fun w' => w'.cell? ⟨w.heap.size, 1, none⟩ = some (.int .u64 (root : Nat)) ∧ w'.cell? ⟨w.heap.size, 2, none⟩ = some (.int .u64 (virt : Nat)) ∧ w'.cell? ⟨w.heap.size, 3, none⟩ = some (.int .u64 (value : Nat)) ∧ w'.cell? ⟨w.heap.size, 4, none⟩ = some (.int .i64 nn))
      (first | exact HOP.out _ HC2.out | exact HOP.out _ HCA.out | exact HOP.out _ HCB.out | exact HOP.out _ HCQ.out | exact HOP.out _ HCS.out | fail)
      (first
        | (go_at_call 25; have hq := HPB.out; obtain ⟨Zv1, s2, h1, h3⟩ := hq; refine (HA.out _ _ _ h1).mono ?_; rintro e w4 ⟨rfl, Z1, s1, h4, h5, h6⟩; have HCQ : Hid (ChgP (fun k => Z k ∨ Zv k) w1 w4) := Lib.hid (HCB.out.trans h5 (fun k hk => .inl (.inl hk))); have HQ := Lib.hid (lay_done (Z := Z) (Zv := Zv) HBUS.out h4 HCQ.out (fun k hk => (h6 k hk).imp id (fun h => Nat.le_trans HCB.out.size h)) h3); clear h1 h3 h4 h5 h6)
        | (go_at_call 25; refine (HA.out _ _ _ HT2.out).mono ?_; rintro e w2 ⟨rfl, Z1, s1, h4, h5, h6⟩; have HCA : Hid (ChgP (fun k => Z k ∨ Zv k) w1 w2) := Lib.hid (HC2.out.trans h5 (fun k hk => .inl (.inl hk))); have HPA : Hid (∃ (Z1 : Nat → Prop) (s1 : Int), Two B Z1 R Zv w2 g gv (sM MS s1) (sM M s) ∧ ∀ k, Z1 k → Z k ∨ w1.heap.size ≤ k) := Lib.hid ⟨Z1, s1, h4, h6⟩; clear h4 h5 h6)
        | (go_at_call 26; have hq := HPA.out; obtain ⟨Z1, s2, h1, h3⟩ := hq; refine (HBc.out _ _ _ h1).mono ?_; rintro e w4 ⟨rfl, Zv1, s1, h4, h5, h6⟩; have HCQ : Hid (ChgP (fun k => Z k ∨ Zv k) w1 w4) := Lib.hid (HCA.out.trans h5 (fun k hk => .inl (.inr hk))); have HQ := Lib.hid (lay_done (Z := Z) (Zv := Zv) HBUS.out h4 HCQ.out h3 (fun k hk => (h6 k hk).imp id (fun h => Nat.le_trans HCA.out.size h))); clear h1 h3 h4 h5 h6)
        | (go_at_call 26; refine (HBc.out _ _ _ HT2.out).mono ?_; rintro e w2 ⟨rfl, Zv1, s1, h4, h5, h6⟩; have HCB : Hid (ChgP (fun k => Z k ∨ Zv k) w1 w2) := Lib.hid (HC2.out.trans h5 (fun k hk => .inl (.inr hk))); have HPB : Hid (∃ (Zv1 : Nat → Prop) (s1 : Int), Two B Z R Zv1 w2 g gv M (sM MS s1) ∧ ∀ k, Zv1 k → Zv k ∨ w1.heap.size ≤ k) := Lib.hid ⟨Zv1, s1, h4, h6⟩; clear h4 h5 h6)
        | (go_at_call 23; refine (sameF_any N D _).mono ?_; rintro e w6 ⟨rfl, hb6⟩; have HF := Lib.hid (HQ.out.after hb6); have HCS := Lib.hid (HCQ.out.trans (ChgP.of_below (Z := fun _ => False) hb6) (fun k hk => hk.elim)); clear hb6)
        | fail)
    all_goals
      go_wp2_with fail
      go_ret
      exact HF.out.pre HB1.out
  by_cases k5 : kd = 5
  · subst k5
    go_wp2_with fail
    refine (HLV.out Z R Zv w1 M s HT1.out).mono ?_
    rintro e w6 ⟨rfl, hs6⟩
    have HF : Hid (StS B g gv Z Zv M w1 (.returned (.bool true)) w6) := Lib.hid ⟨rfl, hs6⟩
    clear hs6 o0 o1 o2 o3 o4 ol
    go_wp2_with fail
    go_ret
    exact HF.out.pre HB1.out
  by_cases k6 : kd = 6
  · subst k6
    obtain ⟨N, D, MS, hbus, hA, hB⟩ := lay_pair (B := B) (g := g) (gv := gv) (Z := Z) (R := R) (Zv := Zv) (M := M) (s := s) (MZ.limM HT1.out.m) virt value hv hvv
    have HA := Lib.hid hA; have HBc := Lib.hid hB; have HBUS := Lib.hid hbus
    clear hA hB hbus
    unfold LayA at HA
    unfold LayB at HBc
    have hmp := mach_store g
    have hma := mach_ahead g
    have HOP : Hid (∀ wx, ChgP (fun k => Z k ∨ Zv k) w1 wx → wx.cell? ⟨w.heap.size, 1, none⟩ = some (.int .u64 (root : Nat)) ∧ wx.cell? ⟨w.heap.size, 2, none⟩ = some (.int .u64 (virt : Nat)) ∧ wx.cell? ⟨w.heap.size, 3, none⟩ = some (.int .u64 (value : Nat)) ∧ wx.cell? ⟨w.heap.size, 4, none⟩ = some (.int .i64 nn)) := Lib.hid (fun wx hc => by
      have hr := hc.row HO1.out (fun hk => by have := HZ.out w.heap.size (hk.elim .inl (fun h => .inr (.inr h))); omega)
      exact ⟨hr.cell 1, hr.cell 2, hr.cell 3, hr.cell 4⟩)
    have HT2 := Lib.hid (HT1.out.below (Below.refl _ _).drew)
    have HC2 : Hid (ChgP (fun k => Z k ∨ Zv k) w1 w1.drew) := Lib.hid (ChgP.refl _ w1).drew
    go_upto_region 19 with fail
    go_region_held3 (fun w' => w'.cell? ⟨w.heap.size, 1, none⟩ = some (.int .u64 (root : Nat)) ∧ w'.cell? ⟨w.heap.size, 2, none⟩ = some (.int .u64 (virt : Nat)) ∧ w'.cell? ⟨w.heap.size, 3, none⟩ = some (.int .u64 (value : Nat)) ∧ w'.cell? ⟨w.heap.size, 4, none⟩ = some (.int .i64 nn))
      (first | exact HOP.out _ HC2.out | exact HOP.out _ HCA.out | exact HOP.out _ HCB.out | exact HOP.out _ HCQ.out | exact HOP.out _ HCS.out | fail)
      (first
        | (go_at_call 29; have hq := HPB.out; obtain ⟨Zv1, s2, h1, h3⟩ := hq; refine (HA.out _ _ _ h1).mono ?_; rintro e w4 ⟨rfl, Z1, s1, h4, h5, h6⟩; have HCQ : Hid (ChgP (fun k => Z k ∨ Zv k) w1 w4) := Lib.hid (HCB.out.trans h5 (fun k hk => .inl (.inl hk))); have HQ := Lib.hid (lay_done (Z := Z) (Zv := Zv) HBUS.out h4 HCQ.out (fun k hk => (h6 k hk).imp id (fun h => Nat.le_trans HCB.out.size h)) h3); clear h1 h3 h4 h5 h6)
        | (go_at_call 29; refine (HA.out _ _ _ HT2.out).mono ?_; rintro e w2 ⟨rfl, Z1, s1, h4, h5, h6⟩; have HCA : Hid (ChgP (fun k => Z k ∨ Zv k) w1 w2) := Lib.hid (HC2.out.trans h5 (fun k hk => .inl (.inl hk))); have HPA : Hid (∃ (Z1 : Nat → Prop) (s1 : Int), Two B Z1 R Zv w2 g gv (sM MS s1) (sM M s) ∧ ∀ k, Z1 k → Z k ∨ w1.heap.size ≤ k) := Lib.hid ⟨Z1, s1, h4, h6⟩; clear h4 h5 h6)
        | (go_at_call 8; have hq := HPA.out; obtain ⟨Z1, s2, h1, h3⟩ := hq; refine (HBc.out _ _ _ h1).mono ?_; rintro e w4 ⟨rfl, Zv1, s1, h4, h5, h6⟩; have HCQ : Hid (ChgP (fun k => Z k ∨ Zv k) w1 w4) := Lib.hid (HCA.out.trans h5 (fun k hk => .inl (.inr hk))); have HQ := Lib.hid (lay_done (Z := Z) (Zv := Zv) HBUS.out h4 HCQ.out h3 (fun k hk => (h6 k hk).imp id (fun h => Nat.le_trans HCA.out.size h))); clear h1 h3 h4 h5 h6)
        | (go_at_call 8; refine (HBc.out _ _ _ HT2.out).mono ?_; rintro e w2 ⟨rfl, Zv1, s1, h4, h5, h6⟩; have HCB : Hid (ChgP (fun k => Z k ∨ Zv k) w1 w2) := Lib.hid (HC2.out.trans h5 (fun k hk => .inl (.inr hk))); have HPB : Hid (∃ (Zv1 : Nat → Prop) (s1 : Int), Two B Z R Zv1 w2 g gv M (sM MS s1) ∧ ∀ k, Zv1 k → Zv k ∨ w1.heap.size ≤ k) := Lib.hid ⟨Zv1, s1, h4, h6⟩; clear h4 h5 h6)
        | (go_at_call 23; refine (sameF_any N D _).mono ?_; rintro e w6 ⟨rfl, hb6⟩; have HF := Lib.hid (HQ.out.after hb6); have HCS := Lib.hid (HCQ.out.trans (ChgP.of_below (Z := fun _ => False) hb6) (fun k hk => hk.elim)); clear hb6)
        | fail)
    all_goals
      go_wp2_with fail
      go_ret
      exact HF.out.pre HB1.out
  have q1 : (kd == 1) = false := by simp [k1]
  have q2 : (kd == 2) = false := by simp [k2]
  have q3 : (kd == 3) = false := by simp [k3]
  have q4 : (kd == 4) = false := by simp [k4]
  have q5 : (kd == 5) = false := by simp [k5]
  have q6 : (kd == 6) = false := by simp [k6]
  clear k1 k2 k3 k4 k5 k6
  go_wp2_with fail
  go_ret
  exact ⟨rfl, Z, R, Zv, M, s, HT1.out, (ChgP.of_below HB1.out), fun k hk => .inl hk, fun k hk => .inl hk, rfl, rfl⟩
end Bu
end Go.Proofs.YtfpofaniicegaaaGreat
