/- Texts of this claim, one behind the other: WkF, WkG. -/
import Derived.Test.YtfpofaniicegaaaGreatJWalkForeign25
import Derived.Deep.RegionHeld3
import Derived.Deep.RegionLaw
import Derived.Test.YtfpofaniicegaaaGreatJWalkForeign16
/- The walks of walk.Load, walk.Fetch and walk.Store over a machine. -/
set_option linter.unusedVariables false
set_option linter.unusedSimpArgs false
namespace Go.Proofs.YtfpofaniicegaaaGreat
open Go.RowKit
open S64
namespace Bu
theorem atL_len (M : PM) (root virt : Nat) (access : Int) (n : Nat) : (atL M root virt access n).length = n := by simp [atL]
/-- an access that is not refused: each byte is on the bus -/
theorem accF_on {M : PM} {root virt n : Nat} {access : Int} (h : (accF M root virt access n).1 = 0) : ∀ i, i < n → (trI M root (virt + i) access).2 = 0 ∧ onM M (trI M root (virt + i) access).1 = true := by
  unfold accF at h
  split at h
  · rename_i i hi
    have h1 := List.find?_some hi
    exact absurd h (of_decide_eq_true h1)
  · rename_i h1
    split at h
    · cases h
    · rename_i h2
      intro i hi
      have a1 := List.find?_eq_none.1 h1 i (List.mem_range.2 hi)
      have a2 := List.find?_eq_none.1 h2 i (List.mem_range.2 hi)
      simp at a1 a2
      exact ⟨a1, a2⟩
theorem accF_all {M : PM} {root virt n : Nat} {access : Int} (h : (accF M root virt access n).1 = 0) : ∀ a ∈ atL M root virt access n, onM M a = true ∧ a ≤ TOP := by
  intro a ha
  obtain ⟨i, hi, rfl⟩ := List.mem_map.1 ha
  refine ⟨(accF_on h i (List.mem_range.1 hi)).2, ?_⟩
  have := (@trI_lt M root (virt + i) access).1
  show (trI M root (virt + i) access).1 ≤ _
  unfold TOP; omega
/-- what an access of any width answers -/
def accZ (M : PM) (root virt : Nat) (access z : Int) : List Nat × (Nat × Nat) := if wideB z = true then (atL M root virt access z.toNat, accF M root virt access z.toNat) else ([], (31, virt))
theorem wideB_nat {z : Int} (h : wideB z = true) : ∃ n : Nat, z = (n : Nat) ∧ (n = 1 ∨ n = 2 ∨ n = 4 ∨ n = 8) := by
  unfold wideB at h
  simp at h
  exact ⟨z.toNat, by omega, by omega⟩
theorem reach_z (g : Nat) (hT : TrC 50 (machV g) (SMach g)) {Z R : Nat → Prop} {w : World} {M : PM} (root virt : Nat) (z access : Int) (hm : SMach g Z R w M) (hs : True) (hr : root ≤ TOP) (hv : virt ≤ TOP) :
    Calls Tryz.prog 44 #[.iface 50 (machV g), .int .u64 (root : Nat), .int .u64 (virt : Nat), .int .i64 z, .int .i64 access] w (ReachS (SMach g) Z R w M (accZ M root virt access z).1 (accZ M root virt access z).2) := by
  unfold accZ
  cases hz : wideB z with
  | true =>
    rw [if_pos rfl]
    obtain ⟨n, rfl, hn⟩ := wideB_nat hz
    rw [show ((n : Nat) : Int).toNat = n from rfl]
    exact reach_mach g hT (pk1_mach g) root virt n access hn hm hs hr hv
  | false =>
    rw [if_neg (by decide)]
    refine (reach_bad (T := 50) (v := machV g) w root virt z access hz).mono fun e w' hh => ⟨fun h => absurd h (by show ¬ (31 : Nat) = 0; decide), fun _ => hh.1, ?_⟩
    exact (QuS.refl hm).below (smach_i g) hh.2
theorem accZ_len {M : PM} {root virt : Nat} {access z : Int} : (accZ M root virt access z).1.length ≤ 8 := by
  unfold accZ
  cases hz : wideB z with
  | true =>
    rw [if_pos rfl]
    obtain ⟨n, rfl, hn⟩ := wideB_nat hz
    rw [show ((n : Nat) : Int).toNat = n from rfl]
    show (atL M root virt access n).length ≤ 8
    rw [atL_len]; omega
  | false => rw [if_neg (by decide)]; exact Nat.zero_le _
theorem accZ_on {M : PM} {root virt : Nat} {access z : Int} (h : (accZ M root virt access z).2.1 = 0) : ∀ a ∈ (accZ M root virt access z).1, onM M a = true ∧ a ≤ TOP := by
  unfold accZ at h ⊢
  cases hz : wideB z with
  | true =>
    rw [hz, if_pos rfl] at h
    rw [if_pos rfl]
    exact accF_all h
  | false => rw [if_neg (by decide)]; intro a ha; cases ha
theorem take_z (g : Nat) (hT : TrC 50 (machV g) (SMach g)) {Z R : Nat → Prop} {w : World} {M : PM} (root virt : Nat) (z access : Int) (hm : SMach g Z R w M) (hs : True) (hl : True) (hr : root ≤ TOP) (hv : virt ≤ TOP) :
    Calls Tryz.prog 35 #[.iface 50 (machV g), .int .u64 (root : Nat), .int .u64 (virt : Nat), .int .i64 z, .int .i64 access] w (TakeS (SMach g) Z R w M (accZ M root virt access z).1 (accZ M root virt access z).2) :=
  take_mach g root virt z access _ _ (fun wx hx => reach_z g hT root virt z access hx trivial hr hv) (ld1_mach g) hm hs hl accZ_len accZ_on
theorem TakeS.chg {S : MemS} (hS : MemI S) {Z R Y : Nat → Prop} {w w0 w' w'' : World} {M : PM} {at_ : List Nat} {f : Nat × Nat} {e : Ending} (h : TakeS S Z R w0 M at_ f e w') (hb : Below w.heap.size w w0) (hm : S Z R w M) (hc : ChgP Y w' w'') (hY : ∀ k, Y k → w.heap.size ≤ k) : TakeS S Z R w M at_ f e w'' := by
  obtain ⟨he, s, h1, h2, h3, h4⟩ := h
  refine ⟨he, s, h1, h2, hS.chg h3 hc (fun k hk hy => ?_), ((ChgP.of_below (Z := Z) hb).trans h4 (fun x hx => .inl hx)).trans hc (fun x hx => .inr (hY x hx))⟩
  have := hY k hy
  rcases hk with hk | hk
  · have := hS.z hm k hk; omega
  · have := hS.r hm k hk; omega
set_option maxRecDepth 100000 in
set_option maxHeartbeats 1000000 in
theorem wload_mach (g : Nat) (hT : TrC 50 (machV g) (SMach g)) {Z R : Nat → Prop} {w : World} {M : PM} (root virt : Nat) (z : Int) (hm : SMach g Z R w M) (hs : True) (hl : True) (hr : root ≤ TOP) (hv : virt ≤ TOP) :
    Calls Tryz.prog 14 #[.iface 50 (machV g), .int .u64 (root : Nat), .int .u64 (virt : Nat), .int .i64 z] w (TakeS (SMach g) Z R w M (accZ M root virt 1 z).1 (accZ M root virt 1 z).2) := by
  have HM := Lib.hid hm
  have HZR : Hid (∀ k, Z k → k < w.heap.size) := Lib.hid ((smach_i g).z hm)
  have HTK : Hid (∀ wx, Below w.heap.size w wx → Calls Tryz.prog 35 #[.iface 50 (machV g), .int .u64 (root : Nat), .int .u64 (virt : Nat), .int .i64 z, .int .i64 1] wx (TakeS (SMach g) Z R wx M (accZ M root virt 1 z).1 (accZ M root virt 1 z).2)) := Lib.hid (fun wx hb => take_z g hT root virt z 1 ((smach_i g).below hm hb) hs hl hr hv)
  obtain ⟨G, hG⟩ : ∃ G, G = accZ M root virt 1 z := ⟨_, rfl⟩
  rw [← hG] at HTK ⊢
  obtain ⟨F0, hF0⟩ : ∃ F0, F0 = G.2.1 := ⟨_, rfl⟩
  obtain ⟨F1, hF1⟩ : ∃ F1 : Nat, F1 = if G.2.1 = 0 then 0 else G.2.2 := ⟨_, rfl⟩
  have HFL : Hid (flt G.2.1 G.2.2 = .agg #[.int .i64 (F0 : Nat), .int .u64 (F1 : Nat)]) := Lib.hid (by rw [flt_agg, hF0, hF1])
  clear hm hs hl hr hv hG hF0 hF1
  go_enter Tryz.func14, Tryz.ntmps14
  go_upto_region 1 with fail
  have r0 := Row.new w 57 [.int .i64 0, .int .u64 0]
  have hb0 : Below w.heap.size w (w.alloc (.cells #[.int .i64 0, .int .u64 0] 57)) := (Below.refl _ _).alloc (Nat.le_refl _) _
  obtain ⟨c, hc⟩ : ∃ c, c = w.heap.size := ⟨_, rfl⟩
  generalize w.alloc (.cells #[.int .i64 0, .int .u64 0] 57) = w1 at *
  rw [← hc] at r0 ⊢
  have HC := Lib.hid hc; have HB := Lib.hid hb0; have HRC := Lib.hid r0
  have HR1 := Lib.hid (HTK.out w1 hb0)
  clear r0 hb0 hc HTK
  go_wp2_with fail
  refine HR1.out.mono ?_
  rintro e w2 ht
  have he := ht.1
  rw [HFL.out] at he
  obtain ⟨V, hV⟩ : ∃ V : Nat, V = if G.2.1 = 0 then Wd.unle (G.1.map M.mem) else 0 := ⟨_, rfl⟩
  rw [← hV] at he
  have HV := Lib.hid hV
  subst he
  have HRC2 := Lib.hid ((show ChgP Z w1 w2 from ht.2.choose_spec.2.2.2).row HRC.out (fun h => by have := HZR.out _ h; have := HC.out; omega))
  have HT := Lib.hid ht
  clear ht hV HR1
  have q0 := HRC2.out.cell 0
  have q1 := HRC2.out.cell 1
  have la := HRC2.out.lt
  have a0 := HRC2.out.frozen 0
  have a1 := HRC2.out.frozen 1
  simp only [List.getElem?_cons_zero, List.getElem?_cons_succ] at q0 q1
  have HY0 := Lib.hid ((HRC2.out.set_ 0 (.int .i64 (F0 : Nat))).cell 0)
  have HY1 := Lib.hid (((HRC2.out.set_ 0 (.int .i64 (F0 : Nat))).set_ 1 (.int .u64 (F1 : Nat))).cell 1)
  simp only [List.set_cons_zero, List.set_cons_succ, List.getElem?_cons_zero, List.getElem?_cons_succ] at HY0 HY1
  go_wp2_with fail
  refine bodyPost_ret (v := .tuple #[.int .u64 (V : Nat), .agg #[.int .i64 (F0 : Nat), .int .u64 (F1 : Nat)]]) (by simp [results, Tryz.results14, go_sem, HY0.out, HY1.out]) rfl (HT.out.chg (smach_i g) HB.out HM.out (Y := fun k => k = c) ?_ (fun k hk => by rw [show k = c from hk, HC.out]; exact Nat.le_refl _))
  exact ((ChgP.refl (fun k => k = c) w2).set_ (p := ⟨c, 0, none⟩) (.inl rfl) _).set_ (p := ⟨c, 1, none⟩) (.inl rfl) _
set_option maxRecDepth 100000 in
set_option maxHeartbeats 1000000 in
theorem wfetch_mach (g : Nat) (hT : TrC 50 (machV g) (SMach g)) {Z R : Nat → Prop} {w : World} {M : PM} (root virt : Nat) (z : Int) (hm : SMach g Z R w M) (hs : True) (hl : True) (hr : root ≤ TOP) (hv : virt ≤ TOP) :
    Calls Tryz.prog 15 #[.iface 50 (machV g), .int .u64 (root : Nat), .int .u64 (virt : Nat), .int .i64 z] w (TakeS (SMach g) Z R w M (accZ M root virt 3 z).1 (accZ M root virt 3 z).2) := by
  have HM := Lib.hid hm
  have HZR : Hid (∀ k, Z k → k < w.heap.size) := Lib.hid ((smach_i g).z hm)
  have HTK : Hid (∀ wx, Below w.heap.size w wx → Calls Tryz.prog 35 #[.iface 50 (machV g), .int .u64 (root : Nat), .int .u64 (virt : Nat), .int .i64 z, .int .i64 3] wx (TakeS (SMach g) Z R wx M (accZ M root virt 3 z).1 (accZ M root virt 3 z).2)) := Lib.hid (fun wx hb => take_z g hT root virt z 3 ((smach_i g).below hm hb) hs hl hr hv)
  obtain ⟨G, hG⟩ : ∃ G, G = accZ M root virt 3 z := ⟨_, rfl⟩
  rw [← hG] at HTK ⊢
  obtain ⟨F0, hF0⟩ : ∃ F0, F0 = G.2.1 := ⟨_, rfl⟩
  obtain ⟨F1, hF1⟩ : ∃ F1 : Nat, F1 = if G.2.1 = 0 then 0 else G.2.2 := ⟨_, rfl⟩
  have HFL : Hid (flt G.2.1 G.2.2 = .agg #[.int .i64 (F0 : Nat), .int .u64 (F1 : Nat)]) := Lib.hid (by rw [flt_agg, hF0, hF1])
  clear hm hs hl hr hv hG hF0 hF1
  go_enter Tryz.func15, Tryz.ntmps15
  go_upto_region 1 with fail
  have r0 := Row.new w 57 [.int .i64 0, .int .u64 0]
  have hb0 : Below w.heap.size w (w.alloc (.cells #[.int .i64 0, .int .u64 0] 57)) := (Below.refl _ _).alloc (Nat.le_refl _) _
  obtain ⟨c, hc⟩ : ∃ c, c = w.heap.size := ⟨_, rfl⟩
  generalize w.alloc (.cells #[.int .i64 0, .int .u64 0] 57) = w1 at *
  rw [← hc] at r0 ⊢
  have HC := Lib.hid hc; have HB := Lib.hid hb0; have HRC := Lib.hid r0
  have HR1 := Lib.hid (HTK.out w1 hb0)
  clear r0 hb0 hc HTK
  go_wp2_with fail
  refine HR1.out.mono ?_
  rintro e w2 ht
  have he := ht.1
  rw [HFL.out] at he
  obtain ⟨V, hV⟩ : ∃ V : Nat, V = if G.2.1 = 0 then Wd.unle (G.1.map M.mem) else 0 := ⟨_, rfl⟩
  rw [← hV] at he
  have HV := Lib.hid hV
  subst he
  have HRC2 := Lib.hid ((show ChgP Z w1 w2 from ht.2.choose_spec.2.2.2).row HRC.out (fun h => by have := HZR.out _ h; have := HC.out; omega))
  have HT := Lib.hid ht
  clear ht hV HR1
  have q0 := HRC2.out.cell 0
  have q1 := HRC2.out.cell 1
  have la := HRC2.out.lt
  have a0 := HRC2.out.frozen 0
  have a1 := HRC2.out.frozen 1
  simp only [List.getElem?_cons_zero, List.getElem?_cons_succ] at q0 q1
  have HY0 := Lib.hid ((HRC2.out.set_ 0 (.int .i64 (F0 : Nat))).cell 0)
  have HY1 := Lib.hid (((HRC2.out.set_ 0 (.int .i64 (F0 : Nat))).set_ 1 (.int .u64 (F1 : Nat))).cell 1)
  simp only [List.set_cons_zero, List.set_cons_succ, List.getElem?_cons_zero, List.getElem?_cons_succ] at HY0 HY1
  go_wp2_with fail
  refine bodyPost_ret (v := .tuple #[.int .u64 (V : Nat), .agg #[.int .i64 (F0 : Nat), .int .u64 (F1 : Nat)]]) (by simp [results, Tryz.results15, go_sem, HY0.out, HY1.out]) rfl (HT.out.chg (smach_i g) HB.out HM.out (Y := fun k => k = c) ?_ (fun k hk => by rw [show k = c from hk, HC.out]; exact Nat.le_refl _))
  exact ((ChgP.refl (fun k => k = c) w2).set_ (p := ⟨c, 0, none⟩) (.inl rfl) _).set_ (p := ⟨c, 1, none⟩) (.inl rfl) _
/-- stores of the bytes of a number, one by one -/
def stN (M : PM) (p : Nat → Nat) (v : Nat) : Nat → PM
  | 0 => M
  | i + 1 => st1 (stN M p v i) (p i) (byteOf v i)
theorem stN_meta (M : PM) (p : Nat → Nat) (v i : Nat) : (stN M p v i).rams = M.rams ∧ (stN M p v i).devs = M.devs ∧ (stN M p v i).loads = M.loads ∧ True ∧ (stN M p v i).strays = M.strays := by
  induction i with
  | zero => exact ⟨rfl, rfl, rfl, trivial, rfl⟩
  | succ i ih =>
    obtain ⟨h1, h2, h3, h4, h5⟩ := ih
    exact ⟨h1, h2, h3, trivial, h5⟩
/-- what a store answers -/
def StoS (S : MemS) (Z R : Nat → Prop) (w : World) (M : PM) (at_ : List Nat) (f : Nat × Nat) (v : Nat) (e : Ending) (w' : World) : Prop :=
  e = .returned (flt f.1 f.2) ∧ ∃ (s : Int) (Z' : Nat → Prop), True ∧ (f.1 ≠ 42 ∧ f.1 ≠ 30 → s = M.strays) ∧ S Z' R w' (stN (sM M s) (fun j => at_.getD j 0) v (if f.1 = 0 then at_.length else 0)) ∧ ChgP Z w w' ∧ ∀ k, Z' k → Z k ∨ w.heap.size ≤ k
/-- while bytes are stored -/
structure SI (S : MemS) (Z R : Nat → Prop) (w : World) (M : PM) (s : Int) (c c3 : Nat) (A : Option Addr) (bb : Nat) (l : List Nat) (F0 F1 v i : Nat) (wr : World) : Prop where
  s : ∃ Z', S Z' R wr (stN (sM M s) (fun j => l.getD j 0) v i) ∧ ∀ k, Z' k → Z k ∨ w.heap.size ≤ k ∧ k ≠ c ∧ k ≠ c3 ∧ (0 < l.length → k ≠ bb)
  ch : ChgP Z w wr
  ra : 0 < l.length → A = some ⟨bb, 0, none⟩ ∧ Row wr bb 31 (l.map u64v) ∧ w.heap.size ≤ bb
  rc : Row wr c 57 [.int .i64 0, .int .u64 0]
  r3 : Row wr c3 57 [.int .i64 (F0 : Nat), .int .u64 (F1 : Nat)]
  cw : w.heap.size ≤ c
  c3w : w.heap.size ≤ c3
theorem SI.drew {S : MemS} (hS : MemI S) {Z R : Nat → Prop} {w : World} {M : PM} {s : Int} {c c3 : Nat} {A : Option Addr} {bb : Nat} {l : List Nat} {F0 F1 v i : Nat} {wr : World} (h : SI S Z R w M s c c3 A bb l F0 F1 v i wr) : SI S Z R w M s c c3 A bb l F0 F1 v i wr.drew := by
  obtain ⟨Z', h1, h2⟩ := h.s
  exact ⟨⟨Z', hS.below h1 (Below.refl _ _).drew, h2⟩, h.ch.drew, fun h0 => ⟨(h.ra h0).1, (h.ra h0).2.1.drew, (h.ra h0).2.2⟩, h.rc.drew, h.r3.drew, h.cw, h.c3w⟩
theorem SI.stored {S : MemS} (hS : MemI S) {Z R : Nat → Prop} {w : World} {M : PM} {s : Int} {c c3 : Nat} {A : Option Addr} {bb : Nat} {l : List Nat} {F0 F1 v i : Nat} {wr wx : World} (h : SI S Z R w M s c c3 A bb l F0 F1 v i wr) (hz : ∀ k, Z k → k < w.heap.size) (Z1 : Nat → Prop) (h1 : S Z1 R wr (stN (sM M s) (fun j => l.getD j 0) v i)) (hz1 : ∀ k, Z1 k → Z k ∨ w.heap.size ≤ k ∧ k ≠ c ∧ k ≠ c3 ∧ (0 < l.length → k ≠ bb))
    (h2 : ∃ Z', S Z' R wx (st1 (stN (sM M s) (fun j => l.getD j 0) v i) (l.getD i 0) (byteOf v i)) ∧ ChgP Z1 wr wx ∧ ∀ k, Z' k → Z1 k ∨ wr.heap.size ≤ k) : SI S Z R w M s c c3 A bb l F0 F1 v (i + 1) wx := by
  obtain ⟨Z', h3, h4, h5⟩ := h2
  have hc := h.rc.lt
  have h3l := h.r3.lt
  refine ⟨⟨Z', h3, fun k hk => ?_⟩, h.ch.trans h4 (fun k hk => ?_), fun h0 => ⟨(h.ra h0).1, h4.row (h.ra h0).2.1 (fun hy => ?_), (h.ra h0).2.2⟩, h4.row h.rc (fun hy => ?_), h4.row h.r3 (fun hy => ?_), h.cw, h.c3w⟩
  · rcases h5 k hk with h6 | h6
    · exact hz1 k h6
    · refine .inr ⟨Nat.le_trans h.ch.size h6, by omega, by omega, fun h0 => ?_⟩
      have := (h.ra h0).2.1.lt
      omega
  · rcases hz1 k hk with h6 | h6
    · exact .inl h6
    · exact .inr h6.1
  · rcases hz1 _ hy with h6 | h6
    · have := hz _ h6; have := (h.ra h0).2.2; omega
    · exact h6.2.2.2 h0 rfl
  · rcases hz1 _ hy with h6 | h6
    · have := hz _ h6; have := h.cw; omega
    · exact h6.2.1 rfl
  · rcases hz1 _ hy with h6 | h6
    · have := hz _ h6; have := h.c3w; omega
    · exact h6.2.2.1 rfl
set_option maxRecDepth 100000 in
set_option maxHeartbeats 1000000 in
theorem wstore_mach (g : Nat) {Z R : Nat → Prop} {w : World} {M : PM} (root virt v : Nat) (z : Int) (at_ : List Nat) (f : Nat × Nat)
    (hR : ∀ wx, SMach g Z R wx M → Calls Tryz.prog 44 #[.iface 50 (machV g), .int .u64 (root : Nat), .int .u64 (virt : Nat), .int .i64 z, .int .i64 2] wx (ReachS (SMach g) Z R wx M at_ f))
    (hL : St1C 29 (machV g) (SMach g)) (hm : SMach g Z R w M) (hv : v ≤ TOP) (hs : True) (hl : True) (h8 : at_.length ≤ 8) (hon : f.1 = 0 → ∀ a ∈ at_, onM M a = true ∧ a ≤ TOP) :
    Calls Tryz.prog 25 #[.iface 50 (machV g), .int .u64 (root : Nat), .int .u64 (virt : Nat), .int .i64 z, .int .u64 (v : Nat)] w (StoS (SMach g) Z R w M at_ f v) := by
  have hS := smach_i g
  have hmp := mach_store g
  have hma := mach_ahead g
  unfold machV at *
  have HM := Lib.hid hm; have HS := Lib.hid hs; have HL := Lib.hid hl; have HSI := Lib.hid hS; have HLC := Lib.hid hL; have HON := Lib.hid hon; have H8 := Lib.hid h8
  have HR := Lib.hid hR
  have hv64 : v ≤ 18446744073709551615 := hv
  have HZL : Hid (∀ k, Z k → k < w.heap.size) := Lib.hid (hS.z hm)
  clear hm hs hl hS hL hon h8 hR hv
  go_enter Tryz.func25, Tryz.ntmps25
  go_upto_region 1 with fail
  have r0 := Row.new w 57 [.int .i64 0, .int .u64 0]
  have hb0 : Below w.heap.size w (w.alloc (.cells #[.int .i64 0, .int .u64 0] 57)) := (Below.refl _ _).alloc (Nat.le_refl _) _
  obtain ⟨c, hc⟩ : ∃ c, c = w.heap.size := ⟨_, rfl⟩
  generalize w.alloc (.cells #[.int .i64 0, .int .u64 0] 57) = w1 at *
  rw [← hc] at r0 ⊢
  have HC := Lib.hid hc; have HB := Lib.hid hb0; have HRC := Lib.hid r0
  have HR1 := Lib.hid (HR.out w1 (HSI.out.below HM.out hb0))
  clear r0 hb0 hc HR
  obtain ⟨F0, hF0⟩ : ∃ F0, F0 = f.1 := ⟨_, rfl⟩
  obtain ⟨F1, hF1⟩ : ∃ F1 : Nat, F1 = if f.1 = 0 then 0 else f.2 := ⟨_, rfl⟩
  have HFL : Hid (flt f.1 f.2 = .agg #[.int .i64 (F0 : Nat), .int .u64 (F1 : Nat)]) := Lib.hid (by rw [flt_agg, hF0, hF1])
  clear hF0 hF1
  go_upto_region 2 with (go_at_call 44; refine HR1.out.mono ?_; intro e w2 hrs; obtain ⟨A, l, bb, rfl, hl, ha, hq⟩ := hrs.open_; rw [HFL.out]; have HLE := Lib.hid hl; have HA := Lib.hid ha; have HQ := Lib.hid hq; clear hl ha hq hrs)
  obtain ⟨s, hs1, hs0, hs2, hs3⟩ := HQ.out
  have HS1 := Lib.hid hs1; have HS0 := Lib.hid hs0
  have HLL : Hid (l.length ≤ 8) := Lib.hid (by rw [HLE.out]; split; exact H8.out; exact Nat.zero_le _)
  have hm8 : l.length ≤ 8 := HLL.out
  have HRC2 := Lib.hid (hs3.row HRC.out (fun h => by have := HZL.out _ h; have := HC.out; omega))
  have HD2 : Hid (SMach g Z R w2 (sM M s)) := Lib.hid hs2
  have HCH2 : Hid (ChgP Z w w2) := Lib.hid ((ChgP.of_below (Z := Z) HB.out).trans hs3 (fun x hx => .inl hx))
  have HA2 : Hid (0 < l.length → A = some ⟨bb, 0, none⟩ ∧ w.heap.size ≤ bb ∧ Row w2 bb 31 (l.map u64v)) := Lib.hid (fun h => ⟨(HA.out h).1, Nat.le_trans HB.out.size (HA.out h).2.1, (HA.out h).2.2⟩)
  clear hs1 hs0 hs2 hs3 HQ HR1 HB HRC HA
  have hr3 := Row.new w2 57 [.int .i64 (F0 : Nat), .int .u64 (F1 : Nat)]
  have hb3 : Below w2.heap.size w2 (w2.alloc (.cells #[.int .i64 (F0 : Nat), .int .u64 (F1 : Nat)] 57)) := (Below.refl _ _).alloc (Nat.le_refl _) _
  obtain ⟨c3, hc3⟩ : ∃ c3, c3 = w2.heap.size := ⟨_, rfl⟩
  generalize w2.alloc (.cells #[.int .i64 (F0 : Nat), .int .u64 (F1 : Nat)] 57) = w3 at *
  rw [← hc3] at hr3 ⊢
  have HI0 : Hid (SI (SMach g) Z R w M s c c3 A bb l F0 F1 v 0 w3) := Lib.hid ⟨⟨Z, HSI.out.below HD2.out hb3, fun k hk => .inl hk⟩, HCH2.out.trans (ChgP.of_below (Z := Z) hb3) (fun x hx => .inl hx), fun h => ⟨(HA2.out h).1, (HA2.out h).2.2.below hb3 (HA2.out h).2.2.lt, (HA2.out h).2.1⟩, HRC2.out.below hb3 HRC2.out.lt, hr3, by rw [HC.out]; exact Nat.le_refl _, by rw [hc3]; exact HCH2.out.size⟩
  clear hr3 hb3 hc3 HA2 HCH2 HD2 HRC2
  obtain ⟨m, hm⟩ : ∃ m, m = l.length := ⟨_, rfl⟩
  rw [← hm] at hm8 ⊢
  have HML := Lib.hid hm
  clear hm
  go_wp2_with fail
  go_loopw [25] (fun x wr => ∃ i : Nat, i ≤ m ∧ x = .int .i64 (i : Nat) ∧ Hid (SI (SMach g) Z R w M s c c3 A bb l F0 F1 v i wr)) (fun x _ => m - (intOf x).toNat)
  case atStart => exact ⟨0, by omega, rfl, HI0⟩
  case round =>
  clear HI0
  obtain ⟨i, hi, rfl, HI⟩ := hrel
  by_cases him : i < m
  · have HF0 : Hid (f.1 = 0 ∧ l = at_) := Lib.hid (by
      by_cases h : f.1 = 0
      · exact ⟨h, by rw [HLE.out, if_pos h]⟩
      · have h1 := HML.out; rw [HLE.out, if_neg h] at h1; simp at h1; omega)
    obtain ⟨a, ha⟩ : ∃ a, l[i]? = some a := ⟨_, List.getElem?_eq_getElem (by have := HML.out; omega)⟩
    have hon := HON.out HF0.out.1 a (by rw [← HF0.out.2]; exact List.mem_of_getElem? ha)
    obtain ⟨Z1, hz1, hz2⟩ := HI.out.s
    obtain ⟨n1, n2, n3, n4, n5⟩ := stN_meta (sM M s) (fun j => l.getD j 0) v i
    have HON1 : Hid (onM (stN (sM M s) (fun j => l.getD j 0) v i) a = true) := Lib.hid (by unfold onM; rw [n1, n2]; exact hon.1)
    have HLC1 : Hid (∀ wx, Below wr.heap.size wr wx → Calls Tryz.prog 29 #[.pointer (some ⟨g, 0, none⟩), .int .u64 (a : Nat), .int .i64 1, .int .u64 (byteOf v i : Nat)] wx fun e w' => e = .returned (.agg #[.int .i64 0, .int .u64 0]) ∧ ∃ Z', SMach g Z' R w' (st1 (stN (sM M s) (fun j => l.getD j 0) v i) a (byteOf v i)) ∧ ChgP Z1 wx w' ∧ ∀ k, Z' k → Z1 k ∨ wx.heap.size ≤ k) := Lib.hid (fun wx hb => HLC.out Z1 R wx _ a (byteOf v i) (HSI.out.below hz1 hb) trivial trivial hon.2 (by have := byteOf_lt v i; unfold TOP; omega) HON1.out)
    obtain ⟨hA, hra, hbw⟩ := HI.out.ra (by have := HML.out; omega)
    subst hA
    have b0 := hra.cell i
    rw [List.getElem?_map, ha, Option.map_some] at b0
    unfold u64v at b0
    have lb := hra.lt
    have HLI : Hid (l.getD i 0 = a) := Lib.hid (by rw [List.getD_eq_getElem?_getD, ha]; rfl)
    have HZ1 := Lib.hid hz1; have HZ2 := Lib.hid hz2
    obtain ⟨x, hx⟩ : ∃ x, x = v / 2 ^ (8 * i) := ⟨_, rfl⟩
    obtain ⟨y, hy⟩ : ∃ y, y = byteOf v i := ⟨_, rfl⟩
    have e1 : IntKind.i64.wrap (8 * (i : Int)) = 8 * (i : Int) := by rw [IntKind.wrap_i64]; omega
    have e2 : (v : Int) / 2 ^ (8 * i) = (x : Int) := by rw [hx]; norm_cast
    have e4 : (v : Int) / 2 ^ (8 * (i : Int)).toNat = (x : Int) := by rw [show (8 * (i : Int)).toNat = 8 * i by omega]; exact e2
    have hx64 : x < 18446744073709551616 := by rw [hx]; exact Nat.lt_of_le_of_lt (Nat.div_le_self _ _) (by omega)
    have e3 : bits .and .u64 (x : Int) 255 = (y : Int) := by
      rw [show bits .and .u64 (x : Int) 255 = ((x &&& 255 : Nat) : Int) from u64_and_nat x 255 hx64 (by decide), show (255 : Nat) = 2 ^ 8 - 1 from rfl, Nat.and_two_pow_sub_one_eq_mod, hy, hx]; rfl
    rw [← hy] at HLC1
    have HYE := Lib.hid hy
    clear hra ha hon hz1 hz2 hx hy n1 n2 n3 n4 n5 hx64 HON1
    have HLC2 := Lib.hid (HLC1.out wr.drew (Below.refl _ _).drew)
    clear HLC1
    go_upto_region 5 with fail
    go_region_law (first
      | (go_simp; go_at_call 29; refine HLC2.out.mono ?_; rintro e w5 ⟨rfl, h5⟩; have H5 := Lib.hid h5; clear h5))
    all_goals
      have HI5 := Lib.hid (HI.out.drew HSI.out |>.stored HSI.out HZL.out Z1 (HSI.out.below HZ1.out (Below.refl _ _).drew) HZ2.out (by rw [HLI.out, ← HYE.out]; exact H5.out))
      go_wp2_with fail
      go_roundw
      case rel => exact ⟨i + 1, by omega, by go_num, HI5⟩
      case measure => simp [intOf]; omega
  · have ei : i = m := by omega
    subst ei
    obtain ⟨Z1, hz1, hz2⟩ := HI.out.s
    have HZ1 := Lib.hid hz1; have HZ2 := Lib.hid hz2
    clear hz1 hz2
    have HMN : Hid (i = if f.1 = 0 then at_.length else 0) := Lib.hid (by rw [HML.out, HLE.out]; split <;> rfl)
    have HST : Hid (stN (sM M s) (fun j => l.getD j 0) v i = stN (sM M s) (fun j => at_.getD j 0) v (if f.1 = 0 then at_.length else 0)) := Lib.hid (by
      rw [← HMN.out, HLE.out]
      by_cases h : f.1 = 0
      · rw [if_pos h]
      · have : i = 0 := by rw [HMN.out, if_neg h]
        rw [this]; rfl)
    have q0 := HI.out.rc.cell 0
    have q1 := HI.out.rc.cell 1
    have la := HI.out.rc.lt
    have a0 := HI.out.rc.frozen 0
    have a1 := HI.out.rc.frozen 1
    have t0 := HI.out.r3.cell 0
    have t1 := HI.out.r3.cell 1
    have lt := HI.out.r3.lt
    simp only [List.getElem?_cons_zero, List.getElem?_cons_succ] at q0 q1 t0 t1
    have HY0 := Lib.hid ((HI.out.rc.set_ 0 (.int .i64 (F0 : Nat))).cell 0)
    have HY1 := Lib.hid (((HI.out.rc.set_ 0 (.int .i64 (F0 : Nat))).set_ 1 (.int .u64 (F1 : Nat))).cell 1)
    simp only [List.set_cons_zero, List.set_cons_succ, List.getElem?_cons_zero, List.getElem?_cons_succ] at HY0 HY1
    go_wp2_with fail
    refine bodyPost_ret (v := .agg #[.int .i64 (F0 : Nat), .int .u64 (F1 : Nat)]) (by simp [results, Tryz.results25, go_sem, HY0.out, HY1.out]) rfl ⟨by rw [HFL.out], s, Z1, HS1.out, HS0.out, ?_⟩
    have hcq : ChgP (fun k => k = c) wr ((wr.setCell ⟨c, 0, none⟩ (.int .i64 (F0 : Nat))).setCell ⟨c, 1, none⟩ (.int .u64 (F1 : Nat))) := ((ChgP.refl (fun k => k = c) wr).set_ (p := ⟨c, 0, none⟩) (.inl rfl) _).set_ (p := ⟨c, 1, none⟩) (.inl rfl) _
    rw [← HST.out]
    refine ⟨HSI.out.chg HZ1.out hcq (fun k hk hy => ?_), HI.out.ch.trans hcq (fun k hk => .inr (by rw [show k = c from hk, HC.out]; exact Nat.le_refl _)), fun k hk => ?_⟩
    · have e : k = c := hy
      have := HC.out
      rcases hk with hk | hk
      · rcases HZ2.out k hk with h | h
        · have := HZL.out k h; omega
        · exact h.2.1 e
      · have := HSI.out.r HM.out k hk; omega
    · rcases HZ2.out k hk with h | h
      · exact .inl h
      · exact .inr h.1
end Bu
end Go.Proofs.YtfpofaniicegaaaGreat

/- The walks of the law's few and awake. -/
set_option linter.unusedVariables false
set_option linter.unusedSimpArgs false
namespace Go.Proofs.YtfpofaniicegaaaGreat
open Go.RowKit
open S64
namespace Bu
def fR : Sp.S := [(4096, 65536)]
def f0M : PM := ⟨fR, [], fun _ => 0, 0, 0, 0, fun l => l = []⟩
def f1M : PM := laidM f0M 4096 8 (byteOf 8193) 1 none
def f2M : PM := laidM f1M 8192 8 (byteOf 12289) 1 none
/-- the law's small machine -/
def fM : PM := laidM f2M 12312 8 (byteOf 20483) 1 none
theorem f_new : newE fR [] = 0 := by decide +kernel
theorem f_on {p : Nat} (h1 : 4096 ≤ p) (h2 : p < 69632) : on (fR ++ []) p = true := by
  simp [on, fR]; omega
def DoneM (w : World) (M : PM) (e : Ending) (w' : World) : Prop := ∃ g Z R, e = .returned (.pointer (some ⟨g, 0, none⟩)) ∧ MZ Z R w' g M ∧ (∀ k, Z k ∨ R k → w.heap.size ≤ k) ∧ Below w.heap.size w w'
set_option maxRecDepth 100000 in
set_option maxHeartbeats 1000000 in
theorem few_any (w : World) : Calls Tryz.prog 13 #[] w (DoneM w fM) := by
  have HNW : Hid (∀ (wx : World) (a : Nat), Row wx a 62 [.int .u64 4096, .int .u64 65536] → Calls Tryz.prog 28 #[.agg #[.slice (some ⟨a, 0, none⟩) 1 1, .slice none 0 0]] wx (NewSaid wx fR [])) := Lib.hid (fun wx a ha =>
    new_any _ _ 1 0 1 0 fR [] wx (isS_row (s := fR) ha rfl (by omega)) ⟨⟨rfl, fun h => absurd h (by omega)⟩, rfl, by omega⟩ (by intro x hx; rw [List.mem_singleton.1 hx]; decide) (by intro x hx; cases hx))
  have HS1 : Hid (∀ (wx : World) (Z R : Nat → Prop) (g : Nat), MZ Z R wx g f0M → Calls Tryz.prog 29 #[.pointer (some ⟨g, 0, none⟩), .int .u64 4096, .int .i64 8, .int .u64 8193] wx fun e w' => e = .returned (.agg #[.int .i64 0, .int .u64 0]) ∧ Laid1 Z R wx g f1M w') := Lib.hid (fun wx Z R g h => store_m (n := 8) (at_ := 4096) (v := 8193) (F := none) h (by omega) (by decide) (by decide) (by decide) (by decide) (fun p h1 h2 => f_on (by omega) (by omega)))
  have HS2 : Hid (∀ (wx : World) (Z R : Nat → Prop) (g : Nat), MZ Z R wx g f1M → Calls Tryz.prog 29 #[.pointer (some ⟨g, 0, none⟩), .int .u64 8192, .int .i64 8, .int .u64 12289] wx fun e w' => e = .returned (.agg #[.int .i64 0, .int .u64 0]) ∧ Laid1 Z R wx g f2M w') := Lib.hid (fun wx Z R g h => store_m (n := 8) (at_ := 8192) (v := 12289) (F := none) h (by omega) (by decide) (by decide) (by decide) (by decide) (fun p h1 h2 => f_on (by omega) (by omega)))
  have HS3 : Hid (∀ (wx : World) (Z R : Nat → Prop) (g : Nat), MZ Z R wx g f2M → Calls Tryz.prog 29 #[.pointer (some ⟨g, 0, none⟩), .int .u64 12312, .int .i64 8, .int .u64 20483] wx fun e w' => e = .returned (.agg #[.int .i64 0, .int .u64 0]) ∧ Laid1 Z R wx g fM w') := Lib.hid (fun wx Z R g h => store_m (n := 8) (at_ := 12312) (v := 20483) (F := none) h (by omega) (by decide) (by decide) (by decide) (by decide) (fun p h1 h2 => f_on (by omega) (by omega)))
  go_enter Tryz.func13, Tryz.ntmps13
  go_wp2_with fail
  have hr1 := Row.new w 62 [.int .u64 4096, .int .u64 65536]
  have hb0 : Below w.heap.size w (w.alloc (.cells #[.int .u64 4096, .int .u64 65536] 62)) := (Below.refl _ _).alloc (Nat.le_refl _) _
  refine (HNW.out _ w.heap.size hr1).mono ?_
  generalize w.alloc (.cells #[.int .u64 4096, .int .u64 65536] 62) = w0 at *
  intro e w1 hn
  obtain ⟨hb1, g, Z, R, rfl, hm1, hzr⟩ := hn.mz f_new
  have HB1 := Lib.hid (hb0.trans (hb1.mono hb0.size))
  have HM1 : Hid (MZ Z R w1 g f0M) := Lib.hid hm1
  have HZR : Hid (∀ k, Z k ∨ R k → w.heap.size ≤ k) := Lib.hid (fun k hk => Nat.le_trans hb0.size (hzr k hk))
  clear hn hb1 hm1 hzr HNW hr1 hb0
  go_wp2_with fail
  refine (HS1.out w1 Z R g HM1.out).mono ?_
  rintro e w2 ⟨rfl, Z2, hm2, hc2, hz2⟩
  have HM2 := Lib.hid hm2
  have HB2 : Hid (Below w.heap.size w w2) := Lib.hid (HB1.out.trans (hc2.below HB1.out.size (fun k hk => HZR.out k (.inl hk))))
  have HZ2 : Hid (∀ k, Z2 k ∨ R k → w.heap.size ≤ k) := Lib.hid (fun k hk => by
    rcases hk with hk | hk
    · rcases hz2 k hk with h | h; exact HZR.out k (.inl h); exact Nat.le_trans HB1.out.size h
    · exact HZR.out k (.inr hk))
  clear hm2 hc2 hz2
  go_wp2_with fail
  refine (HS2.out w2 Z2 R g HM2.out).mono ?_
  rintro e w3 ⟨rfl, Z3, hm3, hc3, hz3⟩
  have HM3 := Lib.hid hm3
  have HB3 : Hid (Below w.heap.size w w3) := Lib.hid (HB2.out.trans (hc3.below HB2.out.size (fun k hk => HZ2.out k (.inl hk))))
  have HZ3 : Hid (∀ k, Z3 k ∨ R k → w.heap.size ≤ k) := Lib.hid (fun k hk => by
    rcases hk with hk | hk
    · rcases hz3 k hk with h | h; exact HZ2.out k (.inl h); exact Nat.le_trans HB2.out.size h
    · exact HZ2.out k (.inr hk))
  clear hm3 hc3 hz3
  go_wp2_with fail
  refine (HS3.out w3 Z3 R g HM3.out).mono ?_
  rintro e w4 ⟨rfl, Z4, hm4, hc4, hz4⟩
  have HM4 := Lib.hid hm4
  have HB4 : Hid (Below w.heap.size w w4) := Lib.hid (HB3.out.trans (hc4.below HB3.out.size (fun k hk => HZ3.out k (.inl hk))))
  have HZ4 : Hid (∀ k, Z4 k ∨ R k → w.heap.size ≤ k) := Lib.hid (fun k hk => by
    rcases hk with hk | hk
    · rcases hz4 k hk with h | h; exact HZ3.out k (.inl h); exact Nat.le_trans HB3.out.size h
    · exact HZ3.out k (.inr hk))
  clear hm4 hc4 hz4
  go_wp2_with fail
  go_ret
  exact ⟨g, Z4, R, rfl, HM4.out, HZ4.out, HB4.out⟩
theorem f_load : accZ fM 4096 12288 1 8 = ([20480, 20481, 20482, 20483, 20484, 20485, 20486, 20487], (0, 0)) := by decide +kernel
theorem f_fetch : accZ fM 4096 12288 3 8 = ([0, 0, 0, 0, 0, 0, 0, 0], (44, 12288)) := by decide +kernel
set_option maxRecDepth 100000 in
set_option maxHeartbeats 1000000 in
theorem awake_any (w : World) : Calls Tryz.prog 5 #[] w fun e w' => e = .returned (.bool true) ∧ Below w.heap.size w w' := by
  have HL : Hid (∀ (wx : World) (Z R : Nat → Prop) (g : Nat), MZ Z R wx g fM → ∃ V : Nat, Calls Tryz.prog 14 #[.iface 50 (.pointer (some ⟨g, 0, none⟩)), .int .u64 4096, .int .u64 12288, .int .i64 8] wx fun e w' => e = .returned (.tuple #[.int .u64 (V : Nat), .agg #[.int .i64 0, .int .u64 0]]) ∧ MZ Z R w' g (ldM fM 0 8) ∧ ChgP Z wx w') := Lib.hid (fun wx Z R g h => by
    have hh := wload_mach g (translateT_any (smach_i g) (ent_mach g)) (Z := Z) (R := R) (w := wx) (M := fM) 4096 12288 8 h (by decide) (by decide) (by decide) (by decide)
    rw [f_load] at hh
    refine ⟨Wd.unle ([20480, 20481, 20482, 20483, 20484, 20485, 20486, 20487].map fM.mem), hh.mono fun e w' ht => ?_⟩
    obtain ⟨he, s, h1, h2, h3, h4⟩ := ht
    have hs : s = 0 := h2 ⟨by decide, by decide⟩
    subst hs
    exact ⟨he, h3, h4⟩)
  have HF : Hid (∀ (wx : World) (Z R : Nat → Prop) (g : Nat), MZ Z R wx g (ldM fM 0 8) → Calls Tryz.prog 15 #[.iface 50 (.pointer (some ⟨g, 0, none⟩)), .int .u64 4096, .int .u64 12288, .int .i64 8] wx fun e w' => e = .returned (.tuple #[.int .u64 0, .agg #[.int .i64 44, .int .u64 12288]]) ∧ ChgP Z wx w') := Lib.hid (fun wx Z R g h => by
    have hh := wfetch_mach g (translateT_any (smach_i g) (ent_mach g)) (Z := Z) (R := R) (w := wx) (M := ldM fM 0 8) 4096 12288 8 h (by decide) (by decide) (by decide) (by decide)
    rw [show accZ (ldM fM 0 8) 4096 12288 3 8 = ([0, 0, 0, 0, 0, 0, 0, 0], (44, 12288)) by decide +kernel] at hh
    refine hh.mono fun e w' ht => ?_
    obtain ⟨he, s, h1, h2, h3, h4⟩ := ht
    exact ⟨he, h4⟩)
  go_enter Tryz.func5, Tryz.ntmps5
  go_wp2_with fail
  refine (few_any w).mono ?_
  rintro e w1 ⟨g, Z, R, rfl, hm, hz, hb⟩
  have HM := Lib.hid hm; have HZ := Lib.hid hz; have HB := Lib.hid hb
  clear hm hz hb
  go_wp2_with fail
  obtain ⟨V, hl⟩ := HL.out w1 Z R g HM.out
  refine hl.mono ?_
  rintro e w2 ⟨rfl, hm2, hc2⟩
  clear hl
  have HM2 := Lib.hid hm2
  have HB2 : Hid (Below w.heap.size w w2) := Lib.hid (HB.out.trans (hc2.below HB.out.size (fun k hk => HZ.out k (.inl hk))))
  clear hm2 hc2
  go_upto_region 5 with fail
  have r3 := Row.new w2 57 [.int .i64 0, .int .u64 0]
  have HM3 := Lib.hid (HM2.out.below ((Below.refl _ _).alloc (Nat.le_refl _) (.cells #[.int .i64 0, .int .u64 0] 57)))
  have HB3 := Lib.hid (HB2.out.alloc HB2.out.size (.cells #[.int .i64 0, .int .u64 0] 57))
  have HN3 : Hid (¬ Z w2.heap.size) := Lib.hid (fun h => Nat.lt_irrefl _ (HM2.out.z _ h))
  obtain ⟨c3, hc3⟩ : ∃ c, c = w2.heap.size := ⟨_, rfl⟩
  generalize w2.alloc (.cells #[.int .i64 0, .int .u64 0] 57) = w3 at *
  rw [← hc3] at r3 HN3 ⊢
  have HR3 := Lib.hid r3
  clear r3 hc3 HM2 HB2
  go_wp2_with fail
  refine (HF.out w3 Z R g HM3.out).mono ?_
  rintro e w4 ⟨rfl, hc4⟩
  have HB4 : Hid (Below w.heap.size w w4) := Lib.hid (HB3.out.trans (hc4.below HB3.out.size (fun k hk => HZ.out k (.inl hk))))
  have HR4 := Lib.hid (hc4.row HR3.out HN3.out)
  clear hc4
  go_upto_region 6 with fail
  have r5 := Row.new w4 57 [.int .i64 44, .int .u64 12288]
  have hr4 := HR4.out.alloc (.cells #[.int .i64 44, .int .u64 12288] 57)
  have HB5 := Lib.hid (HB4.out.alloc HB4.out.size (.cells #[.int .i64 44, .int .u64 12288] 57))
  obtain ⟨c5, hc5⟩ : ∃ c, c = w4.heap.size := ⟨_, rfl⟩
  generalize w4.alloc (.cells #[.int .i64 44, .int .u64 12288] 57) = w5 at *
  rw [← hc5] at r5 ⊢
  have x0 := hr4.cell 0
  have lx := hr4.lt
  have y0 := r5.cell 0
  have y1 := r5.cell 1
  have ly := r5.lt
  simp only [List.getElem?_cons_zero, List.getElem?_cons_succ] at x0 y0 y1
  clear hr4 r5 hc5
  go_wp2_with fail
  go_ret
  exact ⟨rfl, HB5.out⟩
end Bu
end Go.Proofs.YtfpofaniicegaaaGreat
