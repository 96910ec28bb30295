/- Texts of this claim, one behind the other: WkH, WkI. -/
import Derived.Test.YtfpofaniicegaaaJWalkLeaves26
import Derived.Test.YtfpofaniicegaaaJWalkLeaves21
import Derived.StillTailTactics
/- The walks of the law's grounds: a machine of the program's and one of the document's, with words laid. -/
set_option linter.unusedVariables false
set_option linter.unusedSimpArgs false
namespace Go.Proofs.Ytfpofaniicegaaa
open Go.RowKit
open S64
namespace Bu
/-- words are laid -/
def wordsM (M : PM) (ws : Sp.S) : PM := ws.foldl (fun M x => laidM M x.1 8 (byteOf x.2) 1 (offF M x.1 8)) M
theorem wordsM_take (M : PM) (ws : Sp.S) (i : Nat) (x : Nat × Nat) (h : ws[i]? = some x) : wordsM M (ws.take (i + 1)) = laidM (wordsM M (ws.take i)) x.1 8 (byteOf x.2) 1 (offF (wordsM M (ws.take i)) x.1 8) := by
  have hi := (List.getElem?_eq_some_iff.1 h).1
  have e : ws.take (i + 1) = ws.take i ++ [x] := by
    rw [List.take_succ_eq_append_getElem hi]
    congr 2
    rw [List.getElem?_eq_getElem hi] at h
    injection h
  unfold wordsM
  rw [e, List.foldl_append]; rfl
theorem RMA.lower {w : World} {B B' g : Nat} {M : PM} {A1 A2 Ap : Option Addr} {n1 n2 c1 c2 np cp : Nat} {pgs : List (Nat × Nat)} (h : RMA w B g M A1 A2 Ap n1 n2 c1 c2 np cp pgs) (hB : B' ≤ B) (h1 : IsS w B' A1 n1 M.rams) (h2 : IsS w B' A2 n2 M.devs) : RMA w B' g M A1 A2 Ap n1 n2 c1 c2 np cp pgs :=
  ⟨h.row, Nat.le_trans hB h.gB, h1, h2, h.ok, own_monor h.own hB, h.plen, fun x hx => ⟨Nat.le_trans hB (h.bytes x hx).1, (h.bytes x hx).2⟩, h.nums, h.blks, h.out, h.byte⟩
/-- A MACHINE OF THE PROGRAM'S AND ONE OF THE DOCUMENT'S, apart; B: what lay before them. -/
structure Two (B : Nat) (Z R Zv : Nat → Prop) (wr : World) (g gv : Nat) (M Mv : PM) : Prop where
  m : MZ Z R wr g M
  v : DM Zv wr B gv Mv
  zl : ∀ k, Z k ∨ R k → B ≤ k
  dis : ∀ k, Z k ∨ R k → ¬ Zv k
theorem Two.below {B : Nat} {Z R Zv : Nat → Prop} {wr wx : World} {g gv : Nat} {M Mv : PM} (h : Two B Z R Zv wr g gv M Mv) (hb : Below wr.heap.size wr wx) : Two B Z R Zv wx g gv M Mv := ⟨h.m.below hb, h.v.below hb, h.zl, h.dis⟩
theorem Two.chg {B : Nat} {Z R Zv Y : Nat → Prop} {wr wx : World} {g gv : Nat} {M Mv : PM} (h : Two B Z R Zv wr g gv M Mv) (hc : ChgP Y wr wx) (hY : ∀ k, Y k → ¬ Z k ∧ ¬ R k ∧ ¬ Zv k ∧ B ≤ k) : Two B Z R Zv wx g gv M Mv :=
  ⟨h.m.chg hc (fun k hk hy => by obtain ⟨a, b, _, _⟩ := hY k hy; rcases hk with h | h; exact a h; exact b h), h.v.chg hc (fun k hk hy => by obtain ⟨_, _, a, b⟩ := hY k hy; rcases hk with h | h; exact a h; omega), h.zl, h.dis⟩
/-- the program's has changed -/
theorem Two.left {B : Nat} {Z R Zv Z' : Nat → Prop} {wr wx : World} {g gv : Nat} {M M' Mv : PM} (h : Two B Z R Zv wr g gv M Mv) (hm : MZ Z' R wx g M') (hc : ChgP Z wr wx) (hz : ∀ k, Z' k → Z k ∨ wr.heap.size ≤ k) : Two B Z' R Zv wx g gv M' Mv := by
  obtain ⟨_, _, _, _, _, _, _, _, _, _, hd⟩ := h.v
  have hB : B ≤ wr.heap.size := Nat.le_of_lt (Nat.lt_of_le_of_lt hd.m.gB hd.m.row.lt)
  refine ⟨hm, h.v.chg hc (fun k hk hy => ?_), fun k hk => ?_, fun k hk hv => ?_⟩
  · rcases hk with hk | hk
    · exact h.dis k (.inl hy) hk
    · have := h.zl k (.inl hy); omega
  · rcases hk with hk | hk
    · rcases hz k hk with h1 | h1
      · exact h.zl k (.inl h1)
      · omega
    · exact h.zl k (.inr hk)
  · rcases hk with hk | hk
    · rcases hz k hk with h1 | h1
      · exact h.dis k (.inl h1) hv
      · have := (h.v.lt k hv).2; omega
    · exact h.dis k (.inr hk) hv
/-- the document's has changed -/
theorem Two.right {B : Nat} {Z R Zv Zv' : Nat → Prop} {wr wx : World} {g gv : Nat} {M Mv Mv' : PM} (h : Two B Z R Zv wr g gv M Mv) (hv : DM Zv' wx B gv Mv') (hc : ChgP Zv wr wx) (hz : ∀ k, Zv' k → Zv k ∨ wr.heap.size ≤ k) : Two B Z R Zv' wx g gv M Mv' := by
  refine ⟨h.m.chg hc (fun k hk => h.dis k hk), hv, h.zl, fun k hk hk2 => ?_⟩
  rcases hz k hk2 with h1 | h1
  · exact h.dis k hk h1
  · rcases hk with hk | hk
    · have := h.m.z k hk; omega
    · have := h.m.r k hk; omega
/-- what grounds makes -/
def GrSaid (w : World) (rams devs ws : Sp.S) (e : Ending) (w' : World) : Prop :=
  Below w.heap.size w w' ∧ ((newE rams devs ≠ 0 ∧ e = .returned (.tuple #[.pointer none, .pointer none])) ∨
    (newE rams devs = 0 ∧ ∃ g gv Z R Zv, e = .returned (.tuple #[.pointer (some ⟨g, 0, none⟩), .pointer (some ⟨gv, 0, none⟩)]) ∧ Two w.heap.size Z R Zv w' g gv (wordsM ⟨rams, devs, fun _ => 0, 0, 0, 0⟩ ws) (wordsM ⟨rams, devs, fun _ => 0, 0, 0, 0⟩ ws)))
theorem DM.limM {Z : Nat → Prop} {w : World} {B g : Nat} {M : PM} (h : DM Z w B g M) : Lim M := h.lim
set_option maxRecDepth 100000 in
set_option maxHeartbeats 1000000 in
theorem grounds_any (A1 A2 Aw : Option Addr) (n1 n2 nw c1 c2 cw : Nat) (rams devs ws : Sp.S) (w : World) (h1 : IsS w w.heap.size A1 n1 rams) (h2 : IsS w w.heap.size A2 n2 devs) (hw : IsS w w.heap.size Aw nw ws) (ht : ∀ x ∈ rams ++ devs, x.1 ≤ TOP ∧ x.2 ≤ TOP) (htw : ∀ x ∈ ws, x.1 ≤ TOP ∧ x.2 ≤ TOP) :
    Calls Try.prog 14 #[.agg #[.slice A1 n1 c1, .slice A2 n2 c2], .slice Aw nw cw] w (GrSaid w rams devs ws) := by
  have H1 := Lib.hid h1; have H2 := Lib.hid h2; have HW := Lib.hid hw; have HT := Lib.hid ht; have HTW := Lib.hid htw
  have hnw : nw ≤ 9223372036854775807 := hw.2.2
  obtain ⟨E, hE⟩ : ∃ E, E = newE rams devs := ⟨_, rfl⟩
  have HE := Lib.hid hE
  clear h1 h2 hw ht htw hE
  go_enter Try.func14, Try.ntmps14
  go_upto_region 1 with fail
  have r0 := Row.new w 37 [.slice A1 n1 c1, .slice A2 n2 c2]
  have hb0 : Below w.heap.size w (w.alloc (.cells #[.slice A1 n1 c1, .slice A2 n2 c2] 37)) := (Below.refl _ _).alloc (Nat.le_refl _) _
  obtain ⟨c, hc⟩ : ∃ c, c = w.heap.size := ⟨_, rfl⟩
  generalize w.alloc (.cells #[.slice A1 n1 c1, .slice A2 n2 c2] 37) = w1 at *
  rw [← hc] at r0 ⊢
  have HC := Lib.hid hc; have HB := Lib.hid hb0; have HR := Lib.hid r0
  have HRF : Hid (Calls Try.prog 24 #[.agg #[.slice A1 n1 c1, .slice A2 n2 c2]] w1 fun e w' => e = .returned (.int .i64 (E : Nat)) ∧ Below w1.heap.size w1 w') := Lib.hid (by rw [HE.out]; exact refuses_any A1 A2 n1 n2 c1 c2 rams devs w1 ((H1.out.below hb0).more hb0.size) ((H2.out.below hb0).more hb0.size) HT.out)
  have p0 := r0.cell 0
  have p1 := r0.cell 1
  have lp := r0.lt
  simp only [List.getElem?_cons_zero, List.getElem?_cons_succ] at p0 p1
  clear r0 hb0 hc
  go_wp2_with fail
  refine HRF.out.mono ?_
  rintro e w2 ⟨rfl, hb2⟩
  have HB2 := Lib.hid (HB.out.trans (hb2.mono HB.out.size))
  have HR2 := Lib.hid (HR.out.below hb2 HR.out.lt)
  clear hb2 HRF p0 p1 lp HR HB
  by_cases h0 : E = 0
  · subst h0
    have p0 := HR2.out.cell 0
    have p1 := HR2.out.cell 1
    have lp := HR2.out.lt
    simp only [List.getElem?_cons_zero, List.getElem?_cons_succ] at p0 p1
    have HNW : Hid (Calls Try.prog 29 #[.agg #[.slice A1 n1 c1, .slice A2 n2 c2]] w2 (NewSaid w2 rams devs)) := Lib.hid (new_any A1 A2 n1 n2 c1 c2 rams devs w2 ((H1.out.below HB2.out).more HB2.out.size) ((H2.out.below HB2.out).more HB2.out.size) (fun x hx => HT.out x (List.mem_append_left _ hx)) (fun x hx => HT.out x (List.mem_append_right _ hx)))
    go_wp2_with fail
    refine HNW.out.mono ?_
    intro e w3 hn
    obtain ⟨hb3, g, Z, R, rfl, hm3, hzr⟩ := hn.mz HE.out.symm
    have HB3 := Lib.hid (HB2.out.trans (hb3.mono HB2.out.size))
    have HR3 := Lib.hid (HR2.out.below hb3 HR2.out.lt)
    have HM3 := Lib.hid hm3
    have HZR : Hid (∀ k, Z k ∨ R k → w.heap.size ≤ k) := Lib.hid (fun k hk => Nat.le_trans HB2.out.size (hzr k hk))
    clear hn hb3 hm3 hzr HNW p0 p1 lp HR2 HB2
    have p0 := HR3.out.cell 0
    have p1 := HR3.out.cell 1
    have lp := HR3.out.lt
    simp only [List.getElem?_cons_zero, List.getElem?_cons_succ] at p0 p1
    have HNV := Lib.hid (refnew_any A1 A2 n1 n2 c1 c2 rams devs w3 ((H1.out.below HB3.out).more HB3.out.size) ((H2.out.below HB3.out).more HB3.out.size) (okay_of HE.out.symm))
    go_wp2_with fail
    refine HNV.out.mono ?_
    rintro e w4 ⟨gv, rfl, hgv, hrm, hb4⟩
    have HB4 := Lib.hid (HB3.out.trans (hb4.mono HB3.out.size))
    have HT0 : Hid (Two w.heap.size Z R (fun k => k = gv) w4 g gv (wordsM ⟨rams, devs, fun _ => 0, 0, 0, 0⟩ (ws.take 0)) (wordsM ⟨rams, devs, fun _ => 0, 0, 0, 0⟩ (ws.take 0))) := Lib.hid ⟨HM3.out.below hb4, (hrm.lower HB3.out.size (H1.out.below HB4.out) (H2.out.below HB4.out)).dz, HZR.out, fun k hk hv => by
      have e : k = gv := hv
      rcases hk with hk | hk
      · have := HM3.out.z k hk; omega
      · have := HM3.out.r k hk; omega⟩
    clear hgv hrm hb4 HNV p0 p1 lp HR3 HM3 HZR HB3
    go_wp2_with fail
    go_loopw [9] (fun x wr => ∃ i : Nat, i ≤ nw ∧ x = .int .i64 (i : Nat) ∧ Hid (∃ Z Zv, Two w.heap.size Z R Zv wr g gv (wordsM ⟨rams, devs, fun _ => 0, 0, 0, 0⟩ (ws.take i)) (wordsM ⟨rams, devs, fun _ => 0, 0, 0, 0⟩ (ws.take i))) ∧ Hid (Below w.heap.size w wr)) (fun x _ => nw - (intOf x).toNat)
    case atStart => exact ⟨0, by omega, rfl, Lib.hid ⟨_, _, HT0.out⟩, HB4⟩
    case round =>
    clear HT0 HB4
    obtain ⟨i, hi, rfl, HTW2, HBR⟩ := hrel
    by_cases hin : i < nw
    · obtain ⟨Z1, Zv1, htw⟩ := HTW2.out
      have HTO := Lib.hid htw
      obtain ⟨⟨a, v⟩, hx⟩ : ∃ x, ws[i]? = some x := ⟨_, List.getElem?_eq_getElem (by rw [HW.out.2.1]; exact hin)⟩
      have hav := HTW.out _ (List.mem_of_getElem? hx)
      obtain ⟨bw, ow, hf⟩ := HW.out.form
      obtain ⟨rfl, hbw, _⟩ := hf.out (by omega)
      have hws := HW.out.below HBR.out
      obtain ⟨x0, x1⟩ := IsS.at_ hws i _ hx
      simp only at x0 x1 hav
      have lbw : bw < wr.heap.size := Nat.lt_of_lt_of_le hbw HBR.out.size
      obtain ⟨Mi, hMi⟩ : ∃ Mi, Mi = wordsM ⟨rams, devs, fun _ => 0, 0, 0, 0⟩ (ws.take i) := ⟨_, rfl⟩
      have HWT : Hid (wordsM ⟨rams, devs, fun _ => 0, 0, 0, 0⟩ (ws.take (i + 1)) = laidM Mi a 8 (byteOf v) 1 (offF Mi a 8)) := Lib.hid (by rw [hMi]; exact wordsM_take _ ws i (a, v) hx)
      rw [← hMi] at HTO
      have HSA := Lib.hid (store_m (n := 8) (at_ := a) (v := v) (HTO.out.below (Below.refl _ _).drew).m (by omega) hav.2 trivial hav.1 trivial (offF_is HTO.out.m.limM (n := 8) hav.1))
      have HAV := Lib.hid hav
      obtain ⟨F, hF⟩ : ∃ F, F = offF Mi a 8 := ⟨_, rfl⟩
      have hOF := offF_is HTO.out.m.limM (n := 8) hav.1
      rw [← hF] at HSA HWT hOF
      rw [faultV_eq] at HSA
      have HOF := Lib.hid hOF
      have HX := Lib.hid hx
      have HBW := Lib.hid hbw
      clear htw hx hav hf hMi hF hws hOF
      go_upto_region 10 with fail
      go_region_law (first
        | (go_simp; go_at_call 31; refine HSA.out.mono ?_; rintro e w5 ⟨rfl, h5⟩; have H5 := Lib.hid h5; clear h5))
      all_goals
        obtain ⟨Z2, hm2, hc2, hz2⟩ := H5.out
        have HTO2 := Lib.hid ((HTO.out.below (Below.refl _ _).drew).left hm2 hc2 hz2)
        have HBR2 : Hid (Below w.heap.size w w5) := Lib.hid (HBR.out.drew.trans (hc2.below HBR.out.size (fun k hk => HTO.out.zl k (.inl hk))))
        clear hm2 hc2 hz2 H5 HSA x0 x1
        obtain ⟨y0, y1⟩ := IsS.at_ (HW.out.below HBR2.out) i _ HX.out
        simp only at y0 y1
        have lby : bw < w5.heap.size := Nat.lt_of_lt_of_le HBW.out HBR2.out.size
        have HSB := Lib.hid (rstore_m (n := 8) (at_ := a) (v := v) (HTO2.out.below (Below.refl _ _).drew).v (by omega) HAV.out.2 trivial HAV.out.1 trivial HOF.out)
        rw [faultV_eq] at HSB
        go_upto_region 11 with fail
        go_region_law (first
          | (go_simp; go_at_call 32; refine HSB.out.mono ?_; rintro e w7 ⟨rfl, h7⟩; have H7 := Lib.hid h7; clear h7))
        all_goals
          obtain ⟨Zv2, hv2, hcv2, hzv2⟩ := H7.out
          have HTO3 : Hid (∃ Z Zv, Two w.heap.size Z R Zv w7 g gv (wordsM ⟨rams, devs, fun _ => 0, 0, 0, 0⟩ (ws.take (i + 1))) (wordsM ⟨rams, devs, fun _ => 0, 0, 0, 0⟩ (ws.take (i + 1)))) := Lib.hid ⟨Z2, Zv2, by rw [HWT.out]; exact (HTO2.out.below (Below.refl _ _).drew).right hv2 hcv2 hzv2⟩
          have HBR3 : Hid (Below w.heap.size w w7) := Lib.hid (HBR2.out.drew.trans (hcv2.below HBR2.out.size (fun k hk => (HTO2.out.v.lt k hk).1)))
          clear hv2 hcv2 hzv2 H7 HSB
          go_wp2_with fail
          go_roundw
          case rel => exact ⟨i + 1, by omega, by go_num, HTO3, HBR3⟩
          case measure => simp [intOf]; omega
    · have ei : i = nw := by omega
      subst ei
      go_wp2_with fail
      go_ret2
      obtain ⟨Z1, Zv1, ht⟩ := HTW2.out
      rw [show ws.take i = ws from List.take_of_length_le (by rw [HW.out.2.1]; omega)] at ht
      exact ⟨HBR.out, .inr ⟨HE.out.symm, g, gv, Z1, R, Zv1, rfl, ht⟩⟩
  · have f0 : ((E : Int) != 0) = true := by simp; omega
    have HE0 : Hid (newE rams devs ≠ 0) := Lib.hid (by rw [← HE.out]; exact h0)
    clear h0
    go_wp2_with fail
    go_ret2
    exact ⟨HB2.out, .inl ⟨HE0.out, rfl⟩⟩
end Bu
end Go.Proofs.Ytfpofaniicegaaa

/- The walk of the law's split: an access worked out of accesses of one byte each. -/
set_option linter.unusedVariables false
set_option linter.unusedSimpArgs false
namespace Go.Proofs.Ytfpofaniicegaaa
open Go.RowKit
open S64
namespace Bu
/-- the number that i bytes are -/
def nP (f : Nat → Nat) (i : Nat) : Nat := Wd.unle ((List.range i).map f)
theorem nP_succ (f : Nat → Nat) (i : Nat) : nP f (i + 1) = nP f i + 256 ^ i * f i := by
  unfold nP
  rw [List.range_succ, List.map_append, Wd.unle_append, List.length_map, List.length_range]
  show _ + _ * (f i + 256 * 0) = _
  rw [Nat.mul_zero, Nat.add_zero]
theorem nP_lt {f : Nat → Nat} (hf : ∀ i, f i < 256) (i : Nat) : nP f i < 256 ^ i := by
  have h := Wd.unle_lt ((List.range i).map f) (fun b hb => by obtain ⟨j, _, rfl⟩ := List.mem_map.1 hb; exact hf j)
  rw [List.length_map, List.length_range] at h
  exact h
theorem or_nP {f : Nat → Nat} (hf : ∀ i, f i < 256) {i : Nat} (hi : i < 8) : bits .or .u64 ((nP f i : Nat) : Int) ((256 ^ i * f i : Nat) : Int) = ((nP f (i + 1) : Nat) : Int) ∧ 256 ^ i * f i < 18446744073709551616 ∧ nP f (i + 1) < 18446744073709551616 := by
  have h1 := nP_lt hf i
  have h2 := nP_lt hf (i + 1)
  have h3 : 256 ^ (i + 1) ≤ 256 ^ 8 := Nat.pow_le_pow_right (by decide) (by omega)
  have h4 : (256 : Nat) ^ 8 = 18446744073709551616 := by decide
  have h5 := nP_succ f i
  have h6 : 256 ^ i * f i < 18446744073709551616 := by omega
  refine ⟨?_, h6, by omega⟩
  have h7 : nP f i < 18446744073709551616 := by omega
  have h8 : nP f i ||| 256 ^ i * f i = nP f (i + 1) := by
    have e : (256 : Nat) ^ i = 2 ^ (8 * i) := by rw [show (256 : Nat) = 2 ^ 8 from rfl, ← Nat.pow_mul]
    rw [e] at h1 h5 ⊢
    have := Nat.two_pow_add_eq_or_of_lt h1 (f i)
    rw [Nat.or_comm, ← this, h5]
    omega
  rw [← h8]
  exact u64_or_nat _ _ h7 h6
/-- what split answers -/
def SplitS (g : Nat) (Z R : Nat → Prop) (w : World) (M : PM) (at_ : List Nat) (f : Nat × Nat) (e : Ending) (w' : World) : Prop :=
  e = .returned (.tuple #[.int .u64 ((if f.1 = 0 then Wd.unle (at_.map M.mem) else 0 : Nat) : Nat), flt f.1 f.2]) ∧ ∃ s, SMach g Z R w' (sM M s) ∧ ChgP Z w w'
/-- while bytes are asked -/
structure PI (g : Nat) (Z R : Nat → Prop) (w : World) (M : PM) (c : Nat) (wr : World) : Prop where
  s : SMach g Z R wr M
  ch : ChgP Z w wr
  rc : Row wr c 48 [.int .i64 0, .int .u64 0]
  cw : w.heap.size ≤ c
theorem PI.below {g : Nat} {Z R : Nat → Prop} {w : World} {M : PM} {c : Nat} {wr wx : World} (h : PI g Z R w M c wr) (hb : Below wr.heap.size wr wx) : PI g Z R w M c wx :=
  ⟨(smach_i g).below h.s hb, h.ch.trans (ChgP.of_below (Z := Z) hb) (fun x hx => .inl hx), h.rc.below hb h.rc.lt, h.cw⟩
theorem PI.asked {g : Nat} {Z R : Nat → Prop} {w : World} {M : PM} {c : Nat} {wr wx : World} {q : Prop} (h : PI g Z R w M c wr) (hq : QuS (SMach g) Z R wr M q wx) (hz : q) (hZ : ∀ k, Z k → k < w.heap.size) : PI g Z R w M c wx := by
  obtain ⟨h1, h2⟩ := hq.still hz
  exact ⟨h1, h.ch.trans h2 (fun x hx => .inl hx), h2.row h.rc (fun hy => by have := hZ _ hy; have := h.cw; omega), h.cw⟩
set_option maxRecDepth 100000 in
set_option maxHeartbeats 1000000 in
theorem split_any (g : Nat) {Z R : Nat → Prop} {w : World} {M : PM} (root virt n : Nat) (access : Int) (hk : n = 1 ∨ n = 2 ∨ n = 4 ∨ n = 8) (hm : SMach g Z R w M) (hr : root ≤ TOP) (hv : virt ≤ TOP) :
    Calls Try.prog 16 #[.pointer (some ⟨g, 0, none⟩), .int .u64 (root : Nat), .int .u64 (virt : Nat), .int .i64 (n : Nat), .int .i64 access] w (SplitS g Z R w M (atL M root virt access n) (accF M root virt access n)) := by
  have hS := smach_i g
  have hT := translateT_any hS (ent_mach g)
  have hP := pk1_mach g
  unfold machV at *
  have HM := Lib.hid hm; have HSI := Lib.hid hS; have HT := Lib.hid hT; have HP := Lib.hid hP
  have HRT := Lib.hid hr; have HVT := Lib.hid hv
  have HZL : Hid (∀ k, Z k → k < w.heap.size) := Lib.hid (hS.z hm)
  have hn8 : n ≤ 8 := by omega
  have hv64 : virt ≤ 18446744073709551615 := hv
  clear hm hS hT hP hk hr hv
  go_enter Try.func16, Try.ntmps16
  go_upto_region 1 with fail
  have r0 := Row.new w 48 [.int .i64 0, .int .u64 0]
  have hb0 : Below w.heap.size w (w.alloc (.cells #[.int .i64 0, .int .u64 0] 48)) := (Below.refl _ _).alloc (Nat.le_refl _) _
  obtain ⟨c, hc⟩ : ∃ c, c = w.heap.size := ⟨_, rfl⟩
  generalize w.alloc (.cells #[.int .i64 0, .int .u64 0] 48) = w1 at *
  rw [← hc] at r0 ⊢
  have HC := Lib.hid hc
  have HI0 : Hid (PI g Z R w M c w1) := Lib.hid ⟨HSI.out.below HM.out hb0, ChgP.of_below hb0, r0, by rw [hc]; exact Nat.le_refl _⟩
  clear r0 hb0 hc
  go_wp2_with fail
  go_loopw [12] (fun x wr => ∃ i : Nat, i ≤ n ∧ x = .int .i64 (i : Nat) ∧ Hid (∀ j, j < i → (trI M root (virt + j) access).2 = 0) ∧ Hid (PI g Z R w M c wr)) (fun x _ => n - (intOf x).toNat)
  case atStart => exact ⟨0, by omega, rfl, Lib.hid (fun j h => absurd h (by omega)), HI0⟩
  case round =>
  clear HI0
  obtain ⟨i, hi, rfl, HOK, HI⟩ := hrel
  by_cases hin : i < n
  · obtain ⟨vi, hvi⟩ : ∃ vi, vi = virt + i := ⟨_, rfl⟩
    have e1 : (virt : Int) + (i : Int) = (vi : Int) := by omega
    have hvt : vi ≤ 18446744073709551615 := by
      rcases Nat.eq_zero_or_pos i with h0 | h0
      · omega
      · have := trI_hole (HOK.out 0 h0); omega
    have HVI := Lib.hid hvi
    have HTC := Lib.hid (HT.out Z R wr M root vi access HI.out.s trivial HRT.out hvt)
    obtain ⟨⟨q, no⟩, hG⟩ : ∃ G, G = trI M root vi access := ⟨_, rfl⟩
    rw [← hG] at HTC
    have HG := Lib.hid hG
    simp only at HTC
    clear hvi hG
    go_upto_region 4 with fail
    by_cases h0 : no = 0
    · subst h0
      rw [show flt 0 vi = .agg #[.int .i64 0, .int .u64 0] from rfl] at HTC
      go_upto_region 5 with (go_at_call 20; refine HTC.out.mono ?_; rintro e w3 ⟨rfl, hq3⟩; have HI3 := Lib.hid (HI.out.asked hq3 (by decide) HZL.out); clear hq3)
      have hrf := Row.new w3 48 [.int .i64 0, .int .u64 0]
      have HI4 := Lib.hid (HI3.out.below ((Below.refl _ _).alloc (Nat.le_refl _) (.cells #[.int .i64 0, .int .u64 0] 48)))
      obtain ⟨cf, hcf⟩ : ∃ cf, cf = w3.heap.size := ⟨_, rfl⟩
      generalize w3.alloc (.cells #[.int .i64 0, .int .u64 0] 48) = w4 at *
      rw [← hcf] at hrf ⊢
      have f0 := hrf.cell 0
      have lf := hrf.lt
      simp only [List.getElem?_cons_zero, List.getElem?_cons_succ] at f0
      have HOK' : Hid (∀ j, j < i + 1 → (trI M root (virt + j) access).2 = 0) := Lib.hid (fun j hj => by
        rcases Nat.lt_or_ge j i with h | h
        · exact HOK.out j h
        · obtain rfl : j = i := by omega
          rw [← HVI.out, ← HG.out])
      clear hrf hcf HI3 HI HTC
      go_wp2_with fail
      go_roundw
      case rel => exact ⟨i + 1, by omega, by go_num, HOK', HI4⟩
      case measure => simp [intOf]; omega
    · have hF : flt no vi = .agg #[.int .i64 (no : Nat), .int .u64 (vi : Nat)] := by unfold flt; rw [if_neg h0]; rfl
      have HFL := Lib.hid hF
      rw [hF] at HTC
      have f1 : ((no : Int) != 0) = true := by simp; omega
      have HN0 := Lib.hid h0
      clear hF h0
      go_upto_region 5 with (go_at_call 20; refine HTC.out.mono ?_; rintro e w3 ⟨rfl, hq3⟩; have HRC3 := Lib.hid ((show ChgP Z wr w3 from hq3.choose_spec.2.2.2).row HI.out.rc (fun h => by have := HZL.out _ h; have := HC.out; omega)); have HQ3 := Lib.hid (hq3.pre HI.out.ch); clear hq3)
      have hrf := Row.new w3 48 [.int .i64 (no : Nat), .int .u64 (vi : Nat)]
      have HQ4 := Lib.hid (HQ3.out.below HSI.out ((Below.refl _ _).alloc (Nat.le_refl _) (.cells #[.int .i64 (no : Nat), .int .u64 (vi : Nat)] 48)))
      have HRC4 := Lib.hid (HRC3.out.alloc (.cells #[.int .i64 (no : Nat), .int .u64 (vi : Nat)] 48))
      obtain ⟨cf, hcf⟩ : ∃ cf, cf = w3.heap.size := ⟨_, rfl⟩
      generalize w3.alloc (.cells #[.int .i64 (no : Nat), .int .u64 (vi : Nat)] 48) = w4 at *
      rw [← hcf] at hrf ⊢
      have f0 := hrf.cell 0
      have f2 := hrf.cell 1
      have lf := hrf.lt
      have q0 := HRC4.out.cell 0
      have q1 := HRC4.out.cell 1
      have la := HRC4.out.lt
      have a0 := HRC4.out.frozen 0
      have a1 := HRC4.out.frozen 1
      simp only [List.getElem?_cons_zero, List.getElem?_cons_succ] at f0 f2 q0 q1
      have HAC : Hid (accF M root virt access n = (no, vi)) := Lib.hid (by
        have h1 := accF_tr (M := M) (root := root) (virt := virt) (access := access) hin (by rw [← HVI.out, ← HG.out]; exact HN0.out) HOK.out
        rw [← HVI.out, ← HG.out] at h1
        exact h1)
      clear hrf hcf HRC3 HQ3 HTC
      go_upto_region 6 with fail
      go_still_tail 2, (by kernel_rfl)
      change wpList _ _ _ _ _ w4.drew
      have HY0 := Lib.hid ((HRC4.out.set_ 0 (.int .i64 (no : Nat))).cell 0)
      have HY1 := Lib.hid (((HRC4.out.set_ 0 (.int .i64 (no : Nat))).set_ 1 (.int .u64 (vi : Nat))).cell 1)
      simp only [List.set_cons_zero, List.set_cons_succ, List.getElem?_cons_zero, List.getElem?_cons_succ] at HY0 HY1
      go_wp2_with fail
      refine bodyPost_ret (v := .tuple #[.int .u64 0, .agg #[.int .i64 (no : Nat), .int .u64 (vi : Nat)]]) (by simp [results, Try.results16, go_sem, HY0.out, HY1.out]) rfl ?_
      rw [HAC.out]
      have hcq : ChgP (fun k => k = c) w4 ((w4.drew.setCell ⟨c, 0, none⟩ (.int .i64 (no : Nat))).setCell ⟨c, 1, none⟩ (.int .u64 (vi : Nat))) := ((ChgP.refl (fun k => k = c) w4).drew.set_ (p := ⟨c, 0, none⟩) (.inl rfl) _).set_ (p := ⟨c, 1, none⟩) (.inl rfl) _
      obtain ⟨s, _, _, h3, h4⟩ := HQ4.out.chg HSI.out hcq HM.out (fun k hk => by rw [show k = c from hk, HC.out]; exact Nat.le_refl _)
      exact ⟨by rw [HFL.out, if_neg HN0.out]; rfl, s, h3, h4⟩
  · have ei : i = n := by omega
    subst ei
    obtain ⟨f, hf⟩ : ∃ f : Nat → Nat, f = fun j => M.mem (trI M root (virt + j) access).1 := ⟨_, rfl⟩
    have HFE := Lib.hid hf
    have HF8 : Hid (∀ j, f j < 256) := Lib.hid (fun j => by rw [hf]; exact MZ.byteM (show MZ Z R w g M from HM.out) _)
    clear hf
    go_wp2_with fail
    go_loopw [15, 16] (fun x y wr => ∃ (j v : Nat), j ≤ i ∧ x = .int .u64 (v : Nat) ∧ y = .int .i64 (j : Nat) ∧ Hid (v = nP f j) ∧ Hid (∀ k, k < j → onM M (trI M root (virt + k) access).1 = true) ∧ Hid (PI g Z R w M c wr)) (fun _ y _ => i - (intOf y).toNat)
    case atStart => exact ⟨0, 0, by omega, rfl, rfl, Lib.hid rfl, Lib.hid (fun k h => absurd h (by omega)), HI⟩
    case round =>
    clear HI
    obtain ⟨j, v, hj, rfl, rfl, HV, HON, HI⟩ := hrel
    by_cases hji : j < i
    · obtain ⟨vi, hvi⟩ : ∃ vi, vi = virt + j := ⟨_, rfl⟩
      have e1 : (virt : Int) + (j : Int) = (vi : Int) := by omega
      have hvt : vi ≤ 18446744073709551615 := by have := trI_hole (HOK.out j hji); omega
      have HVI := Lib.hid hvi
      have HTC := Lib.hid (HT.out Z R wr M root vi access HI.out.s trivial HRT.out hvt)
      obtain ⟨⟨q, no⟩, hG⟩ : ∃ G, G = trI M root vi access := ⟨_, rfl⟩
      have hno : no = 0 := by have := HOK.out j hji; rw [← hvi, ← hG] at this; exact this
      subst hno
      rw [← hG] at HTC
      have HG := Lib.hid hG
      have hq33 : q < 8589934592 := by have := (@trI_lt M root vi access).1; rw [← hG] at this; exact this
      simp only at HTC
      rw [show flt 0 vi = .agg #[.int .i64 0, .int .u64 0] from rfl] at HTC
      clear hvi hG
      go_upto_region 11 with fail
      go_upto_region 12 with (go_at_call 20; refine HTC.out.mono ?_; rintro e w3 ⟨rfl, hq3⟩; have HI3 := Lib.hid (HI.out.asked hq3 (by decide) HZL.out); clear hq3)
      have HI4 := Lib.hid (HI3.out.below ((Below.refl _ _).alloc (Nat.le_refl _) (.cells #[.int .i64 0, .int .u64 0] 48)))
      generalize w3.alloc (.cells #[.int .i64 0, .int .u64 0] 48) = w4 at *
      obtain ⟨x, f0, f1, hx1, hx2, hx3, hpc⟩ := HP.out Z R w4 M q HI4.out.s trivial (by unfold TOP; omega)
      have HPC := Lib.hid hpc
      have HX1 := Lib.hid hx1; have HX2 := Lib.hid hx2
      have HRC0 := Lib.hid HI4.out.rc
      clear hpc hx1 hx2 HI3 HI HTC
      go_upto_region 13 with (go_at_call 33; refine HPC.out.mono ?_; rintro e w5 ⟨rfl, hq5⟩; have HQ5 := Lib.hid hq5; clear hq5)
      have HRC5 := Lib.hid ((show ChgP Z w4 w5 from HQ5.out.choose_spec.2.2.2).row HRC0.out (fun h => by have := HZL.out _ h; have := HC.out; omega))
      have hrf := Row.new w5 48 [.int .i64 (f0 : Nat), .int .u64 (f1 : Nat)]
      have HB6 : Hid (Below w5.heap.size w5 (w5.alloc (.cells #[.int .i64 (f0 : Nat), .int .u64 (f1 : Nat)] 48))) := Lib.hid ((Below.refl _ _).alloc (Nat.le_refl _) _)
      have HRC6 := Lib.hid (HRC5.out.alloc (.cells #[.int .i64 (f0 : Nat), .int .u64 (f1 : Nat)] 48))
      obtain ⟨cf, hcf⟩ : ∃ cf, cf = w5.heap.size := ⟨_, rfl⟩
      generalize w5.alloc (.cells #[.int .i64 (f0 : Nat), .int .u64 (f1 : Nat)] 48) = w6 at *
      rw [← hcf] at hrf ⊢
      have g0 := hrf.cell 0
      have lf := hrf.lt
      simp only [List.getElem?_cons_zero, List.getElem?_cons_succ] at g0
      clear hrf hcf HRC0 HRC5
      cases ho : onM M q with
      | true =>
        obtain ⟨hz, hxe⟩ := HX1.out ho
        subst hz
        have HI6 := Lib.hid ((HI4.out.asked HQ5.out ho HZL.out).below HB6.out)
        have HON' : Hid (∀ k, k < j + 1 → onM M (trI M root (virt + k) access).1 = true) := Lib.hid (fun k hk => by
          rcases Nat.lt_or_ge k j with h | h
          · exact HON.out k h
          · obtain rfl : k = j := by omega
            rw [← HVI.out, ← HG.out]; exact ho)
        have hfx : f j = x := by rw [HFE.out, hxe]; show M.mem (trI M root (virt + j) access).1 = _; rw [← HVI.out, ← HG.out]
        obtain ⟨h1, h2, h3⟩ := or_nP HF8.out (i := j) (by omega)
        rw [← HV.out, hfx] at h1
        rw [hfx] at h2
        obtain ⟨sh, hsh⟩ : ∃ sh, sh = 256 ^ j * x := ⟨_, rfl⟩
        obtain ⟨nv, hnv⟩ : ∃ nv, nv = nP f (j + 1) := ⟨_, rfl⟩
        rw [← hsh, ← hnv] at h1
        rw [← hnv] at h3
        have HNV := Lib.hid hnv
        rw [← hsh] at h2
        have HH2 := Lib.hid h2; have HH3 := Lib.hid h3
        have e2 : IntKind.u64.wrap ((x : Int) * 2 ^ (8 * j)) = (sh : Int) := by
          have e : (x : Int) * 2 ^ (8 * j) = (sh : Int) := by
            rw [hsh, show (256 : Nat) ^ j = 2 ^ (8 * j) by rw [show (256 : Nat) = 2 ^ 8 from rfl, ← Nat.pow_mul], Int.mul_comm]; push_cast; rfl
          rw [e, IntKind.wrap_u64]; omega
        have e3 : IntKind.i64.wrap (8 * (j : Int)) = 8 * (j : Int) := by rw [IntKind.wrap_i64]; omega
        clear ho hxe hfx hsh hnv h2 h3
        go_wp2_with fail
        go_roundw
        case rel => exact ⟨j + 1, nv, by omega, by go_num, by go_num, HNV, HON', HI6⟩
        case measure => simp [intOf]; omega
      | false =>
        have hz := HX2.out ho
        subst hz
        have HAC : Hid (accF M root virt access i = (30, vi)) := Lib.hid (by
          rw [HVI.out]
          refine accF_bus hji HOK.out ?_ (fun k hk => HON.out k hk)
          rw [← HVI.out, ← HG.out]; exact ho)
        have HQ6 := Lib.hid ((HQ5.out.below HSI.out HB6.out).pre HI4.out.ch)
        have q0 := HRC6.out.cell 0
        have q1 := HRC6.out.cell 1
        have la := HRC6.out.lt
        have a0 := HRC6.out.frozen 0
        have a1 := HRC6.out.frozen 1
        simp only [List.getElem?_cons_zero, List.getElem?_cons_succ] at q0 q1
        have HY0 := Lib.hid ((HRC6.out.set_ 0 (.int .i64 30)).cell 0)
        have HY1 := Lib.hid (((HRC6.out.set_ 0 (.int .i64 30)).set_ 1 (.int .u64 (vi : Nat))).cell 1)
        simp only [List.set_cons_zero, List.set_cons_succ, List.getElem?_cons_zero, List.getElem?_cons_succ] at HY0 HY1
        clear ho
        go_wp2_with fail
        refine bodyPost_ret (v := .tuple #[.int .u64 0, .agg #[.int .i64 30, .int .u64 (vi : Nat)]]) (by simp [results, Try.results16, go_sem, HY0.out, HY1.out]) rfl ?_
        rw [HAC.out]
        have hcq : ChgP (fun k => k = c) w6 ((w6.setCell ⟨c, 0, none⟩ (.int .i64 30)).setCell ⟨c, 1, none⟩ (.int .u64 (vi : Nat))) := ((ChgP.refl (fun k => k = c) w6).set_ (p := ⟨c, 0, none⟩) (.inl rfl) _).set_ (p := ⟨c, 1, none⟩) (.inl rfl) _
        obtain ⟨s, _, _, h3, h4⟩ := HQ6.out.chg HSI.out hcq HM.out (fun k hk => by rw [show k = c from hk, HC.out]; exact Nat.le_refl _)
        exact ⟨rfl, s, h3, h4⟩
    · have ej : j = i := by omega
      subst ej
      have HAC : Hid (accF M root virt access j = (0, 0)) := Lib.hid (accF_ok HOK.out HON.out)
      have HVE : Hid (v = Wd.unle ((atL M root virt access j).map M.mem)) := Lib.hid (by rw [HV.out, nP, atL, List.map_map, HFE.out]; rfl)
      have HRC6 := Lib.hid HI.out.rc
      have q0 := HRC6.out.cell 0
      have q1 := HRC6.out.cell 1
      have la := HRC6.out.lt
      have a0 := HRC6.out.frozen 0
      have a1 := HRC6.out.frozen 1
      simp only [List.getElem?_cons_zero, List.getElem?_cons_succ] at q0 q1
      have HY0 := Lib.hid ((HRC6.out.set_ 0 (.int .i64 0)).cell 0)
      have HY1 := Lib.hid (((HRC6.out.set_ 0 (.int .i64 0)).set_ 1 (.int .u64 0)).cell 1)
      simp only [List.set_cons_zero, List.set_cons_succ, List.getElem?_cons_zero, List.getElem?_cons_succ] at HY0 HY1
      go_wp2_with fail
      refine bodyPost_ret (v := .tuple #[.int .u64 (v : Nat), .agg #[.int .i64 0, .int .u64 0]]) (by simp [results, Try.results16, go_sem, HY0.out, HY1.out]) rfl ?_
      rw [HAC.out]
      have hcq : ChgP (fun k => k = c) wr ((wr.setCell ⟨c, 0, none⟩ (.int .i64 0)).setCell ⟨c, 1, none⟩ (.int .u64 0)) := ((ChgP.refl (fun k => k = c) wr).set_ (p := ⟨c, 0, none⟩) (.inl rfl) _).set_ (p := ⟨c, 1, none⟩) (.inl rfl) _
      obtain ⟨s, _, _, h3, h4⟩ := (((QuS.refl (q := True) HI.out.s).pre HI.out.ch).chg HSI.out hcq HM.out (fun k hk => by rw [show k = c from hk, HC.out]; exact Nat.le_refl _))
      exact ⟨by rw [HVE.out, if_pos rfl]; rfl, s, h3, h4⟩
end Bu
end Go.Proofs.Ytfpofaniicegaaa
