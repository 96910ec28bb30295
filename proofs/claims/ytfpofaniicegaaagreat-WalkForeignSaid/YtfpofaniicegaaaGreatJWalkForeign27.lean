/- Texts of this claim, one behind the other: WkH, WkI, WkJ, WkK, WkL. -/
import Derived.Test.YtfpofaniicegaaaGreatJWalkForeign26
import Derived.Test.YtfpofaniicegaaaGreatJWalkForeign21
import Derived.StillTailTactics
/- The walks of the law's grounds: a machine of the program's and one of the document's, with words laid. -/
set_option linter.unusedVariables false
set_option linter.unusedSimpArgs false
namespace Go.Proofs.YtfpofaniicegaaaGreat
open Go.RowKit
open S64
namespace Bu
/-- words are laid -/
def wordsM (M : PM) (ws : Sp.S) : PM := ws.foldl (fun M x => laidM M x.1 8 (byteOf x.2) 1 (offF M x.1 8)) M
theorem wordsM_take (M : PM) (ws : Sp.S) (i : Nat) (x : Nat × Nat) (h : ws[i]? = some x) : wordsM M (ws.take (i + 1)) = laidM (wordsM M (ws.take i)) x.1 8 (byteOf x.2) 1 (offF (wordsM M (ws.take i)) x.1 8) := by
  have hi := (List.getElem?_eq_some_iff.1 h).1
  have e : ws.take (i + 1) = ws.take i ++ [x] := by
    rw [List.take_succ_eq_append_getElem hi]
    congr 2
    rw [List.getElem?_eq_getElem hi] at h
    injection h
  unfold wordsM
  rw [e, List.foldl_append]; rfl
theorem RMA.lower {w : World} {B B' g : Nat} {M : PM} {A1 A2 Ap : Option Addr} {n1 n2 c1 c2 np cp : Nat} {pgs : List (Nat × Nat)} (h : RMA w B g M A1 A2 Ap n1 n2 c1 c2 np cp pgs) (hB : B' ≤ B) (h1 : IsS w B' A1 n1 M.rams) (h2 : IsS w B' A2 n2 M.devs) : RMA w B' g M A1 A2 Ap n1 n2 c1 c2 np cp pgs :=
  ⟨h.row, Nat.le_trans hB h.gB, h1, h2, h.ok, own_monor h.own hB, h.plen, fun x hx => ⟨Nat.le_trans hB (h.bytes x hx).1, (h.bytes x hx).2⟩, h.nums, h.blks, h.out, h.byte⟩
/-- A MACHINE OF THE PROGRAM'S AND ONE OF THE DOCUMENT'S, apart; B: what lay before them. -/
structure Two (B : Nat) (Z R Zv : Nat → Prop) (wr : World) (g gv : Nat) (M Mv : PM) : Prop where
  m : MZ Z R wr g M
  v : DM Zv wr B gv Mv
  zl : ∀ k, Z k ∨ R k → B ≤ k
  dis : ∀ k, Z k ∨ R k → ¬ Zv k
theorem Two.below {B : Nat} {Z R Zv : Nat → Prop} {wr wx : World} {g gv : Nat} {M Mv : PM} (h : Two B Z R Zv wr g gv M Mv) (hb : Below wr.heap.size wr wx) : Two B Z R Zv wx g gv M Mv := ⟨h.m.below hb, h.v.below hb, h.zl, h.dis⟩
theorem Two.chg {B : Nat} {Z R Zv Y : Nat → Prop} {wr wx : World} {g gv : Nat} {M Mv : PM} (h : Two B Z R Zv wr g gv M Mv) (hc : ChgP Y wr wx) (hY : ∀ k, Y k → ¬ Z k ∧ ¬ R k ∧ ¬ Zv k ∧ B ≤ k) : Two B Z R Zv wx g gv M Mv :=
  ⟨h.m.chg hc (fun k hk hy => by obtain ⟨a, b, _, _⟩ := hY k hy; rcases hk with h | h; exact a h; exact b h), h.v.chg hc (fun k hk hy => by obtain ⟨_, _, a, b⟩ := hY k hy; rcases hk with h | h; exact a h; omega), h.zl, h.dis⟩
/-- the program's has changed -/
theorem Two.left {B : Nat} {Z R Zv Z' : Nat → Prop} {wr wx : World} {g gv : Nat} {M M' Mv : PM} (h : Two B Z R Zv wr g gv M Mv) (hm : MZ Z' R wx g M') (hc : ChgP Z wr wx) (hz : ∀ k, Z' k → Z k ∨ wr.heap.size ≤ k) : Two B Z' R Zv wx g gv M' Mv := by
  obtain ⟨_, _, _, _, _, _, _, _, _, _, hd⟩ := h.v
  have hB : B ≤ wr.heap.size := Nat.le_of_lt (Nat.lt_of_le_of_lt hd.m.gB hd.m.row.lt)
  refine ⟨hm, h.v.chg hc (fun k hk hy => ?_), fun k hk => ?_, fun k hk hv => ?_⟩
  · rcases hk with hk | hk
    · exact h.dis k (.inl hy) hk
    · have := h.zl k (.inl hy); omega
  · rcases hk with hk | hk
    · rcases hz k hk with h1 | h1
      · exact h.zl k (.inl h1)
      · omega
    · exact h.zl k (.inr hk)
  · rcases hk with hk | hk
    · rcases hz k hk with h1 | h1
      · exact h.dis k (.inl h1) hv
      · have := (h.v.lt k hv).2; omega
    · exact h.dis k (.inr hk) hv
/-- the document's has changed -/
theorem Two.right {B : Nat} {Z R Zv Zv' : Nat → Prop} {wr wx : World} {g gv : Nat} {M Mv Mv' : PM} (h : Two B Z R Zv wr g gv M Mv) (hv : DM Zv' wx B gv Mv') (hc : ChgP Zv wr wx) (hz : ∀ k, Zv' k → Zv k ∨ wr.heap.size ≤ k) : Two B Z R Zv' wx g gv M Mv' := by
  refine ⟨h.m.chg hc (fun k hk => h.dis k hk), hv, h.zl, fun k hk hk2 => ?_⟩
  rcases hz k hk2 with h1 | h1
  · exact h.dis k hk h1
  · rcases hk with hk | hk
    · have := h.m.z k hk; omega
    · have := h.m.r k hk; omega
/-- what grounds makes -/
def GrSaid (w : World) (rams devs ws : Sp.S) (e : Ending) (w' : World) : Prop :=
  Below w.heap.size w w' ∧ ((newE rams devs ≠ 0 ∧ e = .returned (.tuple #[.pointer none, .pointer none])) ∨
    (newE rams devs = 0 ∧ ∃ g gv Z R Zv, e = .returned (.tuple #[.pointer (some ⟨g, 0, none⟩), .pointer (some ⟨gv, 0, none⟩)]) ∧ Two w.heap.size Z R Zv w' g gv (wordsM ⟨rams, devs, fun _ => 0, 0, 0, 0, fun l => l = []⟩ ws) (wordsM ⟨rams, devs, fun _ => 0, 0, 0, 0, fun l => l = []⟩ ws)))
theorem DM.limM {Z : Nat → Prop} {w : World} {B g : Nat} {M : PM} (h : DM Z w B g M) : Lim M := h.lim
set_option maxRecDepth 100000 in
set_option maxHeartbeats 1000000 in
theorem grounds_any (A1 A2 Aw : Option Addr) (n1 n2 nw c1 c2 cw : Nat) (rams devs ws : Sp.S) (w : World) (h1 : IsS w w.heap.size A1 n1 rams) (h2 : IsS w w.heap.size A2 n2 devs) (hw : IsS w w.heap.size Aw nw ws) (ht : ∀ x ∈ rams ++ devs, x.1 ≤ TOP ∧ x.2 ≤ TOP) (htw : ∀ x ∈ ws, x.1 ≤ TOP ∧ x.2 ≤ TOP) :
    Calls Tryz.prog 11 #[.agg #[.slice A1 n1 c1, .slice A2 n2 c2], .slice Aw nw cw] w (GrSaid w rams devs ws) := by
  have H1 := Lib.hid h1; have H2 := Lib.hid h2; have HW := Lib.hid hw; have HT := Lib.hid ht; have HTW := Lib.hid htw
  have hnw : nw ≤ 9223372036854775807 := hw.2.2
  obtain ⟨E, hE⟩ : ∃ E, E = newE rams devs := ⟨_, rfl⟩
  have HE := Lib.hid hE
  clear h1 h2 hw ht htw hE
  go_enter Tryz.func11, Tryz.ntmps11
  go_upto_region 1 with fail
  have r0 := Row.new w 24 [.slice A1 n1 c1, .slice A2 n2 c2]
  have hb0 : Below w.heap.size w (w.alloc (.cells #[.slice A1 n1 c1, .slice A2 n2 c2] 24)) := (Below.refl _ _).alloc (Nat.le_refl _) _
  obtain ⟨c, hc⟩ : ∃ c, c = w.heap.size := ⟨_, rfl⟩
  generalize w.alloc (.cells #[.slice A1 n1 c1, .slice A2 n2 c2] 24) = w1 at *
  rw [← hc] at r0 ⊢
  have HC := Lib.hid hc; have HB := Lib.hid hb0; have HR := Lib.hid r0
  have HRF : Hid (Calls Tryz.prog 6 #[.agg #[.slice A1 n1 c1, .slice A2 n2 c2]] w1 fun e w' => e = .returned (.int .i64 (E : Nat)) ∧ Below w1.heap.size w1 w') := Lib.hid (by rw [HE.out]; exact refuses_any A1 A2 n1 n2 c1 c2 rams devs w1 ((H1.out.below hb0).more hb0.size) ((H2.out.below hb0).more hb0.size) HT.out)
  have p0 := r0.cell 0
  have p1 := r0.cell 1
  have lp := r0.lt
  simp only [List.getElem?_cons_zero, List.getElem?_cons_succ] at p0 p1
  clear r0 hb0 hc
  go_wp2_with fail
  refine HRF.out.mono ?_
  rintro e w2 ⟨rfl, hb2⟩
  have HB2 := Lib.hid (HB.out.trans (hb2.mono HB.out.size))
  have HR2 := Lib.hid (HR.out.below hb2 HR.out.lt)
  clear hb2 HRF p0 p1 lp HR HB
  by_cases h0 : E = 0
  · subst h0
    have p0 := HR2.out.cell 0
    have p1 := HR2.out.cell 1
    have lp := HR2.out.lt
    simp only [List.getElem?_cons_zero, List.getElem?_cons_succ] at p0 p1
    have HNW : Hid (Calls Tryz.prog 28 #[.agg #[.slice A1 n1 c1, .slice A2 n2 c2]] w2 (NewSaid w2 rams devs)) := Lib.hid (new_any A1 A2 n1 n2 c1 c2 rams devs w2 ((H1.out.below HB2.out).more HB2.out.size) ((H2.out.below HB2.out).more HB2.out.size) (fun x hx => HT.out x (List.mem_append_left _ hx)) (fun x hx => HT.out x (List.mem_append_right _ hx)))
    go_wp2_with fail
    refine HNW.out.mono ?_
    intro e w3 hn
    obtain ⟨hb3, g, Z, R, rfl, hm3, hzr⟩ := hn.mz HE.out.symm
    have HB3 := Lib.hid (HB2.out.trans (hb3.mono HB2.out.size))
    have HR3 := Lib.hid (HR2.out.below hb3 HR2.out.lt)
    have HM3 := Lib.hid hm3
    have HZR : Hid (∀ k, Z k ∨ R k → w.heap.size ≤ k) := Lib.hid (fun k hk => Nat.le_trans HB2.out.size (hzr k hk))
    clear hn hb3 hm3 hzr HNW p0 p1 lp HR2 HB2
    have p0 := HR3.out.cell 0
    have p1 := HR3.out.cell 1
    have lp := HR3.out.lt
    simp only [List.getElem?_cons_zero, List.getElem?_cons_succ] at p0 p1
    have HNV := Lib.hid (refnew_any A1 A2 n1 n2 c1 c2 rams devs w3 ((H1.out.below HB3.out).more HB3.out.size) ((H2.out.below HB3.out).more HB3.out.size) (okay_of HE.out.symm))
    go_wp2_with fail
    refine HNV.out.mono ?_
    rintro e w4 ⟨gv, rfl, hgv, hrm, hb4⟩
    have HB4 := Lib.hid (HB3.out.trans (hb4.mono HB3.out.size))
    have HT0 : Hid (Two w.heap.size Z R (fun k => k = gv) w4 g gv (wordsM ⟨rams, devs, fun _ => 0, 0, 0, 0, fun l => l = []⟩ (ws.take 0)) (wordsM ⟨rams, devs, fun _ => 0, 0, 0, 0, fun l => l = []⟩ (ws.take 0))) := Lib.hid ⟨HM3.out.below hb4, (hrm.lower HB3.out.size (H1.out.below HB4.out) (H2.out.below HB4.out)).dz rfl, HZR.out, fun k hk hv => by
      have e : k = gv := hv
      rcases hk with hk | hk
      · have := HM3.out.z k hk; omega
      · have := HM3.out.r k hk; omega⟩
    clear hgv hrm hb4 HNV p0 p1 lp HR3 HM3 HZR HB3
    go_wp2_with fail
    go_loopw [9] (fun x wr => ∃ i : Nat, i ≤ nw ∧ x = .int .i64 (i : Nat) ∧ Hid (∃ Z Zv, Two w.heap.size Z R Zv wr g gv (wordsM ⟨rams, devs, fun _ => 0, 0, 0, 0, fun l => l = []⟩ (ws.take i)) (wordsM ⟨rams, devs, fun _ => 0, 0, 0, 0, fun l => l = []⟩ (ws.take i))) ∧ Hid (Below w.heap.size w wr)) (fun x _ => nw - (intOf x).toNat)
    case atStart => exact ⟨0, by omega, rfl, Lib.hid ⟨_, _, HT0.out⟩, HB4⟩
    case round =>
    clear HT0 HB4
    obtain ⟨i, hi, rfl, HTW2, HBR⟩ := hrel
    by_cases hin : i < nw
    · obtain ⟨Z1, Zv1, htw⟩ := HTW2.out
      have HTO := Lib.hid htw
      obtain ⟨⟨a, v⟩, hx⟩ : ∃ x, ws[i]? = some x := ⟨_, List.getElem?_eq_getElem (by rw [HW.out.2.1]; exact hin)⟩
      have hav := HTW.out _ (List.mem_of_getElem? hx)
      obtain ⟨bw, ow, hf⟩ := HW.out.form
      obtain ⟨rfl, hbw, _⟩ := hf.out (by omega)
      have hws := HW.out.below HBR.out
      obtain ⟨x0, x1⟩ := IsS.at_ hws i _ hx
      simp only at x0 x1 hav
      have lbw : bw < wr.heap.size := Nat.lt_of_lt_of_le hbw HBR.out.size
      obtain ⟨Mi, hMi⟩ : ∃ Mi, Mi = wordsM ⟨rams, devs, fun _ => 0, 0, 0, 0, fun l => l = []⟩ (ws.take i) := ⟨_, rfl⟩
      have HWT : Hid (wordsM ⟨rams, devs, fun _ => 0, 0, 0, 0, fun l => l = []⟩ (ws.take (i + 1)) = laidM Mi a 8 (byteOf v) 1 (offF Mi a 8)) := Lib.hid (by rw [hMi]; exact wordsM_take _ ws i (a, v) hx)
      rw [← hMi] at HTO
      have HSA := Lib.hid (store_m (n := 8) (at_ := a) (v := v) (HTO.out.below (Below.refl _ _).drew).m (by omega) hav.2 trivial hav.1 trivial (offF_is HTO.out.m.limM (n := 8) hav.1))
      have HAV := Lib.hid hav
      obtain ⟨F, hF⟩ : ∃ F, F = offF Mi a 8 := ⟨_, rfl⟩
      have hOF := offF_is HTO.out.m.limM (n := 8) hav.1
      rw [← hF] at HSA HWT hOF
      rw [faultV_eq] at HSA
      have HOF := Lib.hid hOF
      have HX := Lib.hid hx
      have HBW := Lib.hid hbw
      clear htw hx hav hf hMi hF hws hOF
      go_upto_region 10 with fail
      go_region_law (first
        | (go_simp; go_at_call 29; refine HSA.out.mono ?_; rintro e w5 ⟨rfl, h5⟩; have H5 := Lib.hid h5; clear h5))
      all_goals
        obtain ⟨Z2, hm2, hc2, hz2⟩ := H5.out
        have HTO2 := Lib.hid ((HTO.out.below (Below.refl _ _).drew).left hm2 hc2 hz2)
        have HBR2 : Hid (Below w.heap.size w w5) := Lib.hid (HBR.out.drew.trans (hc2.below HBR.out.size (fun k hk => HTO.out.zl k (.inl hk))))
        clear hm2 hc2 hz2 H5 HSA x0 x1
        obtain ⟨y0, y1⟩ := IsS.at_ (HW.out.below HBR2.out) i _ HX.out
        simp only at y0 y1
        have lby : bw < w5.heap.size := Nat.lt_of_lt_of_le HBW.out HBR2.out.size
        have HSB := Lib.hid (rstore_m (n := 8) (at_ := a) (v := v) (HTO2.out.below (Below.refl _ _).drew).v (by omega) HAV.out.2 trivial HAV.out.1 trivial HOF.out)
        rw [faultV_eq] at HSB
        go_upto_region 11 with fail
        go_region_law (first
          | (go_simp; go_at_call 8; refine HSB.out.mono ?_; rintro e w7 ⟨rfl, h7⟩; have H7 := Lib.hid h7; clear h7))
        all_goals
          obtain ⟨Zv2, hv2, hcv2, hzv2⟩ := H7.out
          have HTO3 : Hid (∃ Z Zv, Two w.heap.size Z R Zv w7 g gv (wordsM ⟨rams, devs, fun _ => 0, 0, 0, 0, fun l => l = []⟩ (ws.take (i + 1))) (wordsM ⟨rams, devs, fun _ => 0, 0, 0, 0, fun l => l = []⟩ (ws.take (i + 1)))) := Lib.hid ⟨Z2, Zv2, by rw [HWT.out]; exact (HTO2.out.below (Below.refl _ _).drew).right hv2 hcv2 hzv2⟩
          have HBR3 : Hid (Below w.heap.size w w7) := Lib.hid (HBR2.out.drew.trans (hcv2.below HBR2.out.size (fun k hk => (HTO2.out.v.lt k hk).1)))
          clear hv2 hcv2 hzv2 H7 HSB
          go_wp2_with fail
          go_roundw
          case rel => exact ⟨i + 1, by omega, by go_num, HTO3, HBR3⟩
          case measure => simp [intOf]; omega
    · have ei : i = nw := by omega
      subst ei
      go_wp2_with fail
      go_ret2
      obtain ⟨Z1, Zv1, ht⟩ := HTW2.out
      rw [show ws.take i = ws from List.take_of_length_le (by rw [HW.out.2.1]; omega)] at ht
      exact ⟨HBR.out, .inr ⟨HE.out.symm, g, gv, Z1, R, Zv1, rfl, ht⟩⟩
  · have f0 : ((E : Int) != 0) = true := by simp; omega
    have HE0 : Hid (newE rams devs ≠ 0) := Lib.hid (by rw [← HE.out]; exact h0)
    clear h0
    go_wp2_with fail
    go_ret2
    exact ⟨HB2.out, .inl ⟨HE0.out, rfl⟩⟩
end Bu
end Go.Proofs.YtfpofaniicegaaaGreat

/- The walk of the law's split: an access worked out of accesses of one byte each. -/
set_option linter.unusedVariables false
set_option linter.unusedSimpArgs false
namespace Go.Proofs.YtfpofaniicegaaaGreat
open Go.RowKit
open S64
namespace Bu
/-- the number that i bytes are -/
def nP (f : Nat → Nat) (i : Nat) : Nat := Wd.unle ((List.range i).map f)
theorem nP_succ (f : Nat → Nat) (i : Nat) : nP f (i + 1) = nP f i + 256 ^ i * f i := by
  unfold nP
  rw [List.range_succ, List.map_append, Wd.unle_append, List.length_map, List.length_range]
  show _ + _ * (f i + 256 * 0) = _
  rw [Nat.mul_zero, Nat.add_zero]
theorem nP_lt {f : Nat → Nat} (hf : ∀ i, f i < 256) (i : Nat) : nP f i < 256 ^ i := by
  have h := Wd.unle_lt ((List.range i).map f) (fun b hb => by obtain ⟨j, _, rfl⟩ := List.mem_map.1 hb; exact hf j)
  rw [List.length_map, List.length_range] at h
  exact h
theorem or_nP {f : Nat → Nat} (hf : ∀ i, f i < 256) {i : Nat} (hi : i < 8) : bits .or .u64 ((nP f i : Nat) : Int) ((256 ^ i * f i : Nat) : Int) = ((nP f (i + 1) : Nat) : Int) ∧ 256 ^ i * f i < 18446744073709551616 ∧ nP f (i + 1) < 18446744073709551616 := by
  have h1 := nP_lt hf i
  have h2 := nP_lt hf (i + 1)
  have h3 : 256 ^ (i + 1) ≤ 256 ^ 8 := Nat.pow_le_pow_right (by decide) (by omega)
  have h4 : (256 : Nat) ^ 8 = 18446744073709551616 := by decide
  have h5 := nP_succ f i
  have h6 : 256 ^ i * f i < 18446744073709551616 := by omega
  refine ⟨?_, h6, by omega⟩
  have h7 : nP f i < 18446744073709551616 := by omega
  have h8 : nP f i ||| 256 ^ i * f i = nP f (i + 1) := by
    have e : (256 : Nat) ^ i = 2 ^ (8 * i) := by rw [show (256 : Nat) = 2 ^ 8 from rfl, ← Nat.pow_mul]
    rw [e] at h1 h5 ⊢
    have := Nat.two_pow_add_eq_or_of_lt h1 (f i)
    rw [Nat.or_comm, ← this, h5]
    omega
  rw [← h8]
  exact u64_or_nat _ _ h7 h6
/-- what split answers -/
def SplitS (g : Nat) (Z R : Nat → Prop) (w : World) (M : PM) (at_ : List Nat) (f : Nat × Nat) (e : Ending) (w' : World) : Prop :=
  e = .returned (.tuple #[.int .u64 ((if f.1 = 0 then Wd.unle (at_.map M.mem) else 0 : Nat) : Nat), flt f.1 f.2]) ∧ ∃ s, SMach g Z R w' (sM M s) ∧ ChgP Z w w'
/-- while bytes are asked -/
structure PI (g : Nat) (Z R : Nat → Prop) (w : World) (M : PM) (c : Nat) (wr : World) : Prop where
  s : SMach g Z R wr M
  ch : ChgP Z w wr
  rc : Row wr c 57 [.int .i64 0, .int .u64 0]
  cw : w.heap.size ≤ c
theorem PI.below {g : Nat} {Z R : Nat → Prop} {w : World} {M : PM} {c : Nat} {wr wx : World} (h : PI g Z R w M c wr) (hb : Below wr.heap.size wr wx) : PI g Z R w M c wx :=
  ⟨(smach_i g).below h.s hb, h.ch.trans (ChgP.of_below (Z := Z) hb) (fun x hx => .inl hx), h.rc.below hb h.rc.lt, h.cw⟩
theorem PI.asked {g : Nat} {Z R : Nat → Prop} {w : World} {M : PM} {c : Nat} {wr wx : World} {q : Prop} (h : PI g Z R w M c wr) (hq : QuS (SMach g) Z R wr M q wx) (hz : q) (hZ : ∀ k, Z k → k < w.heap.size) : PI g Z R w M c wx := by
  obtain ⟨h1, h2⟩ := hq.still hz
  exact ⟨h1, h.ch.trans h2 (fun x hx => .inl hx), h2.row h.rc (fun hy => by have := hZ _ hy; have := h.cw; omega), h.cw⟩
end Bu
end Go.Proofs.YtfpofaniicegaaaGreat

/- The walks of the law's small and whole. -/
set_option linter.unusedVariables false
set_option linter.unusedSimpArgs false
namespace Go.Proofs.YtfpofaniicegaaaGreat
open Go.RowKit
open S64
namespace Bu
def sumS (l : Sp.S) : Nat := (l.map (·.2)).sum
theorem sumS_take (l : Sp.S) (i : Nat) (x : Nat × Nat) (h : l[i]? = some x) : sumS (l.take (i + 1)) = sumS (l.take i) + x.2 := by
  have hi := (List.getElem?_eq_some_iff.1 h).1
  have e : l.take (i + 1) = l.take i ++ [x] := by
    rw [List.take_succ_eq_append_getElem hi]
    congr 2
    rw [List.getElem?_eq_getElem hi] at h
    injection h
  unfold sumS
  rw [e, List.map_append, List.sum_append]; simp
theorem sumS_le {l : Sp.S} (h : ∀ r ∈ l, 0 < r.2 ∧ r.1 + r.2 ≤ M32) (i : Nat) (hi : i ≤ l.length) : sumS (l.take i) ≤ 4294967296 * i := by
  induction i with
  | zero => simp [sumS]
  | succ i ih =>
    have hx : l[i]? = some (l[i]'(by omega)) := List.getElem?_eq_getElem (by omega)
    rw [sumS_take l i _ hx]
    have h1 := ih (by omega)
    have h2 := (h _ (List.mem_of_getElem? hx)).2
    unfold M32 at h2
    omega
/-- a bus that may be, of at most half a million bytes? -/
def smallB (rams devs : Sp.S) : Bool := decide (newE rams devs = 0) && decide (sumS (rams ++ devs) ≤ 500000)
/-- all bytes of ranges -/
def allR (mem : Nat → Nat) (l : Sp.S) : List Nat := (l.map fun r => memB mem r.1 r.2).flatten
theorem allR_snoc (mem : Nat → Nat) (l : Sp.S) (i : Nat) (x : Nat × Nat) (h : l[i]? = some x) : allR mem (l.take (i + 1)) = allR mem (l.take i) ++ memB mem x.1 x.2 := by
  have hi := (List.getElem?_eq_some_iff.1 h).1
  have e : l.take (i + 1) = l.take i ++ [x] := by
    rw [List.take_succ_eq_append_getElem hi]
    congr 2
    rw [List.getElem?_eq_getElem hi] at h
    injection h
  unfold allR
  rw [e, List.map_append, List.flatten_append]; simp
theorem allR_len (mem : Nat → Nat) (l : Sp.S) : (allR mem l).length = sumS l := by
  unfold allR sumS
  rw [List.length_flatten, List.map_map]
  congr 1
  exact List.map_congr_left fun x _ => memB_len _ _ _
set_option maxRecDepth 100000 in
set_option maxHeartbeats 1000000 in
theorem refall_new (A1 A2 : Option Addr) (n1 n2 c1 c2 : Nat) (s1 s2 : Sp.S) (w : World) (h1 : IsS w w.heap.size A1 n1 s1) (h2 : IsS w w.heap.size A2 n2 s2) (b1 : n1 ≤ 1000000) (b2 : n2 ≤ 1000000) :
    Calls Tryz.prog 16 #[.agg #[.slice A1 n1 c1, .slice A2 n2 c2]] w fun e w' => ∃ A c, e = .returned (.slice A (n1 + n2) c) ∧ IsS w' w'.heap.size A (n1 + n2) (s1 ++ s2) ∧ Below w.heap.size w w' ∧ ∀ ad, A = some ad → w.heap.size ≤ ad.block ∧ ad.block < w'.heap.size ∧ ∃ cur, Blk w' ad.block 62 cur := by
  obtain ⟨i0, hi0, hz1, hz2, hz3⟩ := info_parts BR.infoE
  have H1 := Lib.hid h1; have H2 := Lib.hid h2
  have HI := Lib.hid hi0; have HZ1 := Lib.hid hz1; have HZ2 := Lib.hid hz2; have HZ3 := Lib.hid hz3
  clear hi0 hz1 hz2 hz3 h1 h2
  go_enter Tryz.func16, Tryz.ntmps16
  go_upto_region 1 with fail
  have r0 : Row (w.alloc (.cells #[.slice A1 n1 c1, .slice A2 n2 c2] 24)) w.heap.size 24 [.slice A1 n1 c1, .slice A2 n2 c2] := Row.new w _ [.slice A1 n1 c1, .slice A2 n2 c2]
  have hb0 : Below w.heap.size w (w.alloc (.cells #[.slice A1 n1 c1, .slice A2 n2 c2] 24)) := (Below.refl _ _).alloc (Nat.le_refl _) _
  generalize w.alloc (.cells #[.slice A1 n1 c1, .slice A2 n2 c2] 24) = w1 at *
  have HR0 := Lib.hid r0
  have HB0 := Lib.hid hb0
  have p0 := r0.cell 0
  have lp := r0.lt
  simp only [List.getElem?_cons_zero] at p0
  clear r0 hb0
  go_upto_region 2 with (at_builtin; refine wpList_append_nil _ rfl (.const (.slice none 0 0)) (.tmp 5) _ rfl 62 i0 _ 2 16 Tryz.underlying22 HI.out HZ1.out HZ2.out HZ3.out rfl (by omega) rfl w.heap.size A1 n1 c1 (s1.map scell).flatten rfl (H1.out.below HB0.out).1 (scell_one s1) (by simp only [maxLen]; omega) (by omega) ?_; intro A2' c2' w2 HN)
  have HR2 := Lib.hid (HR0.out.below HN.out.below HR0.out.lt)
  have HB2 := Lib.hid (HB0.out.trans (HN.out.below.mono HB0.out.size))
  have p1 := HR2.out.cell 1
  have lq := HR2.out.lt
  simp only [List.getElem?_cons_zero, List.getElem?_cons_succ] at p1
  clear p0 lp
  go_wp2_with (at_builtin; refine wpList_append_more _ rfl (.tmp 7) (.tmp 9) _ rfl w1.heap.size 62 i0 _ 2 16 Tryz.underlying22 HI.out HZ1.out HZ2.out HZ3.out rfl (by omega) _ _ _ _ rfl HN.out.1 w.heap.size A2 n2 c2 (s2.map scell).flatten rfl (H2.out.below HB2.out).1 (scell_one s2) (by simp only [maxLen]; omega) (by omega) HN.out.below.size ?_; intro A3 c3 w3 HM)
  go_ret
  obtain ⟨hm1, hm2, hm3⟩ := HM.out
  have e : (List.map scell s1).flatten ++ (List.map scell s2).flatten = (List.map scell (s1 ++ s2)).flatten := by rw [List.map_append, List.flatten_append]
  rw [e] at hm2
  exact ⟨A3, c3, rfl, ⟨hm2, by rw [List.length_append, H1.out.2.1, H2.out.2.1], by omega⟩, HB2.out.trans (hm3.mono HB0.out.size), fun ad had => ⟨Nat.le_trans HB0.out.size (own_adr hm1 ad had).1, (own_adr hm1 ad had).2, by subst had; exact own_blk2 hm1⟩⟩
theorem owns_chgP {Z : Nat → Prop} {w w' : World} {base : Nat} {e : TypeId} {size n : Nat} {v : Value} {xs : List Value} (h : w.ownsRow base e size v n xs) (hc : ChgP Z w w') (hr : ∀ k, v.ownBlock = some k → ¬ Z k) : w'.ownsRow base e size v n xs := by
  refine ⟨h.1, ?_⟩
  rcases h.2 with h2 | ⟨g, cap, cur, hv, hg, hh, r⟩
  · exact .inl h2
  · refine .inr ⟨g, cap, cur, hv, hg, ?_, r⟩
    rw [hc.block g (Blk.lt (cs := cur) hh) (hr g (by rw [hv]; rfl))]; exact hh
/-- what whole answers -/
def WholeS (g : Nat) (Z R : Nat → Prop) (w : World) (M : PM) (bs : List Nat) (e : Ending) (w' : World) : Prop :=
  ∃ A c, e = .returned (.slice A bs.length c) ∧ Own w' w.heap.size A bs.length c bs ∧ MZ Z R w' g M ∧ ChgP Z w w'
end Bu
end Go.Proofs.YtfpofaniicegaaaGreat

/- The walk of the law WalkBytes. -/
set_option linter.unusedVariables false
set_option linter.unusedSimpArgs false
namespace Go.Proofs.YtfpofaniicegaaaGreat
open Go.RowKit
open S64
namespace Bu
theorem own_rowW {w : World} {base n c : Nat} {A : Option Addr} {bs : List Nat} (h : Own w base A n c bs) (hn : 0 < n) :
    ∃ g T, A = some ⟨g, 0, none⟩ ∧ base ≤ g ∧ n ≤ c ∧ Row w g 5 (bs.map u8 ++ T) := by
  obtain ⟨⟨h1, h2⟩, h3, h4⟩ := h
  rcases h2 with ⟨_, h⟩ | ⟨g, cap, cur, hv, hg, hh, hnc, hcm, hsz, htk⟩
  · omega
  · injection hv with hA _ hc
    subst hA hc
    rw [Nat.mul_one] at htk hsz h1
    have hcur : cur = (bs.map u8 ++ cur.toList.drop n).toArray := by
      rw [← htk, List.take_append_drop]
    refine ⟨g, cur.toList.drop n, rfl, hg, hnc, ?_⟩
    show w.heap[g]? = _
    rw [hh, ← hcur]
theorem Own.setW {w : World} {base n c : Nat} {A : Option Addr} {bs : List Nat} (h : Own w base A n c bs) {i v : Nat} (hi : i < n) (hv : v < 256) :
    ∃ g, A = some ⟨g, 0, none⟩ ∧ base ≤ g ∧ n ≤ c ∧ (∃ cs, Row w g 5 cs) ∧ (∃ y, w.cell? ⟨g, i, none⟩ = some y) ∧ w.frozen? ⟨g, i, none⟩ = false ∧ Own (w.setCell ⟨g, i, none⟩ (u8 v)) base A n c (bs.set i v) := by
  have hl := h.len
  obtain ⟨⟨h1, h2⟩, h3, h4⟩ := h
  rcases h2 with ⟨_, h⟩ | ⟨g, cap, cur, hv', hg, hh, hnc, hcm, hsz, htk⟩
  · omega
  · injection hv' with hA _ hc
    subst hA hc
    rw [Nat.mul_one] at htk hsz h1
    have hrow : Row w g 5 cur.toList := by show w.heap[g]? = _; rw [hh]
    have h5 : cur.toList.length = c := by simpa using hsz
    refine ⟨g, rfl, hg, hnc, ⟨_, hrow⟩, ⟨cur.toList[i]'(by omega), by rw [hrow.cell, List.getElem?_eq_getElem (by omega)]⟩, hrow.frozen i, ⟨⟨by simp [hl], .inr ⟨g, c, (cur.toList.set i (u8 v)).toArray, rfl, hg, hrow.set_ i _, hnc, hcm, ?_, ?_⟩⟩, fun b hb => ?_, h4⟩⟩
    · simp [h5]
    · show (cur.toList.set i (u8 v)).take (n * 1) = (bs.set i v).map u8
      rw [Nat.mul_one, List.take_set, htk, List.map_set]
    · rcases List.mem_or_eq_of_mem_set hb with hb | rfl
      · exact h3 b hb
      · exact hv
/-- the machine between the calls: Bg: what lay ahead of it; W0: the world there -/
structure KM (Bg : Nat) (W0 : World) (g : Nat) (R : Nat → Prop) (M : PM) (c17 c19 : Nat) (wr : World) : Prop where
  m : ∃ Z, MZ Z R wr g M ∧ (∀ k, Z k → Bg ≤ k) ∧ ¬ Z c17 ∧ ¬ Z c19
  b : Below Bg W0 wr
theorem accZ_k {M : PM} {root virt k : Nat} {access : Int} (hk : k = 1 ∨ k = 2 ∨ k = 4 ∨ k = 8) : accZ M root virt access (k : Nat) = (atL M root virt access k, accF M root virt access k) := by
  unfold accZ
  rw [if_pos (wideB_of hk)]; rfl
theorem accF_sM {M : PM} {s : Int} {root virt k : Nat} {access : Int} : accF (sM M s) root virt access k = accF M root virt access k := by
  unfold accF
  simp only [sM_tr]
  rfl
theorem atL_sM {M : PM} {s : Int} {root virt k : Nat} {access : Int} : atL (sM M s) root virt access k = atL M root virt access k := by
  unfold atL
  simp only [sM_tr]
/-- M with other counts -/
def cM (M : PM) (s ld : Int) : PM := { M with strays := s, loads := ld }
theorem trI_cM (M : PM) (s ld : Int) (root virt : Nat) (access : Int) : trI (cM M s ld) root virt access = trI M root virt access := by
  have h : ∀ k lv tab, trw (cM M s ld) virt access k lv tab = trw M virt access k lv tab := by
    intro k
    induction k with
    | zero => intro lv tab; rfl
    | succ k ih =>
      intro lv tab
      unfold trw
      rw [ih]
      rfl
  unfold trI
  rw [h]
theorem accF_cM {M : PM} {s ld : Int} {root virt k : Nat} {access : Int} : accF (cM M s ld) root virt access k = accF M root virt access k := by
  unfold accF
  simp only [trI_cM]
  rfl
theorem atL_cM {M : PM} {s ld : Int} {root virt k : Nat} {access : Int} : atL (cM M s ld) root virt access k = atL M root virt access k := by
  unfold atL
  simp only [trI_cM]
/-- a value and a fault, as a call of several bytes tells them -/
def accV (M : PM) (root virt : Nat) (access : Int) (k : Nat) : Nat := if (accF M root virt access k).1 = 0 then Wd.unle ((atL M root virt access k).map M.mem) else 0
def accA (M : PM) (root virt : Nat) (access : Int) (k : Nat) : Nat := if (accF M root virt access k).1 = 0 then 0 else (accF M root virt access k).2
theorem load_k (g : Nat) {Z R : Nat → Prop} {w : World} {M : PM} {s ld : Int} (root virt k : Nat) (hk : k = 1 ∨ k = 2 ∨ k = 4 ∨ k = 8) (hm : MZ Z R w g (cM M s ld)) (hr : root ≤ TOP) (hv : virt ≤ TOP) :
    Calls Tryz.prog 14 #[.iface 50 (.pointer (some ⟨g, 0, none⟩)), .int .u64 (root : Nat), .int .u64 (virt : Nat), .int .i64 (k : Nat)] w fun e w' => e = .returned (.tuple #[.int .u64 (accV M root virt 1 k : Nat), .agg #[.int .i64 ((accF M root virt 1 k).1 : Nat), .int .u64 (accA M root virt 1 k : Nat)]]) ∧ ∃ s ld, MZ Z R w' g (cM M s ld) ∧ ChgP Z w w' := by
  refine (wload_mach g (translateT_any (smach_i g) (ent_mach g)) root virt k hm trivial trivial hr hv).mono fun e w' hh => ?_
  obtain ⟨he, s', _, _, h1, h2⟩ := hh
  rw [accZ_k hk, accF_cM, atL_cM] at he
  refine ⟨?_, s', _, h1, h2⟩
  rw [he, flt_agg]; rfl
theorem fetch_k (g : Nat) {Z R : Nat → Prop} {w : World} {M : PM} {s ld : Int} (root virt k : Nat) (hk : k = 1 ∨ k = 2 ∨ k = 4 ∨ k = 8) (hm : MZ Z R w g (cM M s ld)) (hr : root ≤ TOP) (hv : virt ≤ TOP) :
    Calls Tryz.prog 15 #[.iface 50 (.pointer (some ⟨g, 0, none⟩)), .int .u64 (root : Nat), .int .u64 (virt : Nat), .int .i64 (k : Nat)] w fun e w' => e = .returned (.tuple #[.int .u64 (accV M root virt 3 k : Nat), .agg #[.int .i64 ((accF M root virt 3 k).1 : Nat), .int .u64 (accA M root virt 3 k : Nat)]]) ∧ ∃ s ld, MZ Z R w' g (cM M s ld) ∧ ChgP Z w w' := by
  refine (wfetch_mach g (translateT_any (smach_i g) (ent_mach g)) root virt k hm trivial trivial hr hv).mono fun e w' hh => ?_
  obtain ⟨he, s', _, _, h1, h2⟩ := hh
  rw [accZ_k hk, accF_cM, atL_cM] at he
  refine ⟨?_, s', _, h1, h2⟩
  rw [he, flt_agg]; rfl
theorem wtr_k (g : Nat) {Z R : Nat → Prop} {w : World} {M : PM} {s ld : Int} (root virt : Nat) (access : Int) (hm : MZ Z R w g (cM M s ld)) (hr : root ≤ TOP) (hv : virt ≤ TOP) :
    Calls Tryz.prog 21 #[.iface 50 (.pointer (some ⟨g, 0, none⟩)), .int .u64 (root : Nat), .int .u64 (virt : Nat), .int .i64 access] w fun e w' => e = .returned (.tuple #[.int .u64 ((trI M root virt access).1 : Nat), .agg #[.int .i64 ((trI M root virt access).2 : Nat), .int .u64 ((if (trI M root virt access).2 = 0 then 0 else virt : Nat) : Nat)]]) ∧ ∃ s ld, MZ Z R w' g (cM M s ld) ∧ ChgP Z w w' := by
  refine (translateT_any (smach_i g) (ent_mach g) Z R w (cM M s ld) root virt access hm trivial hr hv).mono fun e w' hh => ?_
  obtain ⟨he, s', _, _, h1, h2⟩ := hh
  rw [trI_cM] at he
  refine ⟨?_, s', ld, h1, h2⟩
  rw [he, flt_agg]
/-- what is stored, of M's bytes -/
def memN (mem : Nat → Nat) (p : Nat → Nat) (v : Nat) : Nat → Nat → Nat
  | 0 => mem
  | i + 1 => fun q => if q = p i then byteOf v i % 256 else memN mem p v i q
theorem stN_mem (M : PM) (p : Nat → Nat) (v i : Nat) : (stN M p v i).mem = memN M.mem p v i := by
  induction i with
  | zero => rfl
  | succ i ih =>
    show (fun q => if q = p i then byteOf v i % 256 else (stN M p v i).mem q) = _
    rw [ih]; rfl
theorem wstore_k (g : Nat) {Z R : Nat → Prop} {w : World} {M : PM} {s ld : Int} (root virt v k : Nat) (hk : k = 1 ∨ k = 2 ∨ k = 4 ∨ k = 8) (hm : MZ Z R w g (cM M s ld)) (hr : root ≤ TOP) (hv : virt ≤ TOP) (hvv : v ≤ TOP) :
    Calls Tryz.prog 25 #[.iface 50 (.pointer (some ⟨g, 0, none⟩)), .int .u64 (root : Nat), .int .u64 (virt : Nat), .int .i64 (k : Nat), .int .u64 (v : Nat)] w fun e w' => e = .returned (.agg #[.int .i64 ((accF M root virt 2 k).1 : Nat), .int .u64 (accA M root virt 2 k : Nat)]) ∧ ∃ M' Z', MZ Z' R w' g M' ∧ M'.rams = M.rams ∧ M'.devs = M.devs ∧ M'.mem = memN M.mem (fun j => (atL M root virt 2 k).getD j 0) v (if (accF M root virt 2 k).1 = 0 then k else 0) ∧ ChgP Z w w' ∧ ∀ x, Z' x → Z x ∨ w.heap.size ≤ x := by
  refine (wstore_mach g root virt v k (accZ (cM M s ld) root virt 2 k).1 (accZ (cM M s ld) root virt 2 k).2 (fun wx hx => reach_z g (translateT_any (smach_i g) (ent_mach g)) root virt k 2 hx trivial hr hv) (st1_mach g) hm hvv trivial trivial accZ_len accZ_on).mono fun e w' hh => ?_
  obtain ⟨he, s', Z', _, _, h1, h2, h3⟩ := hh
  rw [accZ_k hk, accF_cM] at he h1
  rw [atL_cM] at h1
  refine ⟨?_, _, Z', h1, ?_, ?_, ?_, h2, h3⟩
  · rw [he, flt_agg]; rfl
  · exact (stN_meta _ _ _ _).1
  · exact (stN_meta _ _ _ _).2.1
  · rw [stN_mem]
    show memN M.mem _ v (if (accF M root virt 2 k).1 = 0 then (atL M root virt 2 k).length else 0) = _
    rw [atL_len]
/-- one byte turned in what lies in ranges: j ranges done -/
theorem allR_split (mem : Nat → Nat) (l : Sp.S) (j : Nat) : allR mem l = allR mem (l.take j) ++ allR mem (l.drop j) := by
  unfold allR
  rw [← List.flatten_append, ← List.map_append, List.take_append_drop]
/-- the wanted bytes while one byte is turned -/
def wantJ (mem mem' : Nat → Nat) (l : Sp.S) (j : Nat) : List Nat := allR mem' (l.take j) ++ allR mem (l.drop j)
theorem wantJ_len (mem mem' : Nat → Nat) (l : Sp.S) (j : Nat) : (wantJ mem mem' l j).length = sumS l := by
  unfold wantJ
  rw [List.length_append, allR_len, allR_len]
  have h := allR_len mem l
  rw [allR_split mem l j, List.length_append, allR_len, allR_len] at h
  exact h
theorem memB_far {mem mem' : Nat → Nat} {a n p v : Nat} (hm : ∀ q, mem' q = if q = p then v else mem q) (h : ¬ (a ≤ p ∧ p < a + n)) : memB mem' a n = memB mem a n := by
  unfold memB
  exact List.map_congr_left fun i hi => by rw [hm, if_neg (by have := List.mem_range.1 hi; omega)]
theorem memB_set {mem mem' : Nat → Nat} {a n p v : Nat} (hm : ∀ q, mem' q = if q = p then v else mem q) (h1 : a ≤ p) (h2 : p < a + n) : memB mem' a n = (memB mem a n).set (p - a) v := by
  apply List.ext_getElem?
  intro i
  rw [List.getElem?_set, memB_len]
  by_cases hi : i < n
  · rw [memB_get _ _ _ _ hi, memB_get _ _ _ _ hi, hm]
    by_cases e : p - a = i
    · rw [if_pos e, if_pos (by omega), if_pos (by omega)]
    · rw [if_neg e, if_neg (by omega)]
  · rw [List.getElem?_eq_none (by rw [memB_len]; omega), List.getElem?_eq_none (by rw [memB_len]; omega), if_neg (by omega)]
theorem wantJ_out {mem mem' : Nat → Nat} {l : Sp.S} {j p v : Nat} {x : Nat × Nat} (hx : l[j]? = some x) (hm : ∀ q, mem' q = if q = p then v else mem q) (h : ¬ (x.1 ≤ p ∧ p < x.1 + x.2)) : wantJ mem mem' l (j + 1) = wantJ mem mem' l j := by
  have hj := (List.getElem?_eq_some_iff.1 hx).1
  have e : l.drop j = x :: l.drop (j + 1) := by
    rw [List.drop_eq_getElem_cons hj]
    congr 1
    rw [List.getElem?_eq_getElem hj] at hx
    injection hx
  unfold wantJ
  rw [allR_snoc mem' l j x hx, e, memB_far hm h, List.append_assoc]
  rfl
theorem wantJ_in {mem mem' : Nat → Nat} {l : Sp.S} {j p v : Nat} {x : Nat × Nat} (hx : l[j]? = some x) (hm : ∀ q, mem' q = if q = p then v else mem q) (h1 : x.1 ≤ p) (h2 : p < x.1 + x.2) : wantJ mem mem' l (j + 1) = (wantJ mem mem' l j).set (sumS (l.take j) + (p - x.1)) v := by
  have hj := (List.getElem?_eq_some_iff.1 hx).1
  have e : l.drop j = x :: l.drop (j + 1) := by
    rw [List.drop_eq_getElem_cons hj]
    congr 1
    rw [List.getElem?_eq_getElem hj] at hx
    injection hx
  unfold wantJ
  rw [allR_snoc mem' l j x hx, e, memB_set hm h1 h2, List.append_assoc, List.set_append_right _ _ (by rw [allR_len]; omega), allR_len, show sumS (l.take j) + (p - x.1) - sumS (l.take j) = p - x.1 by omega]
  congr 1
  show _ = (memB mem x.1 x.2 ++ allR mem (l.drop (j + 1))).set (p - x.1) v
  rw [List.set_append_left _ _ (by rw [memB_len]; omega)]
theorem wantJ_zero (mem mem' : Nat → Nat) (l : Sp.S) : wantJ mem mem' l 0 = allR mem l := by simp [wantJ, allR]
theorem wantJ_end (mem mem' : Nat → Nat) (l : Sp.S) : wantJ mem mem' l l.length = allR mem' l := by simp [wantJ, allR]
theorem sumS_at {l : Sp.S} {j : Nat} {x : Nat × Nat} (hx : l[j]? = some x) : sumS (l.take j) + x.2 ≤ sumS l := by
  rw [← sumS_take l j x hx]
  have h := allR_len (fun _ => 0) l
  rw [allR_split _ l (j + 1), List.length_append, allR_len, allR_len] at h
  omega
theorem wordsM_bus (M : PM) (ws : Sp.S) : (wordsM M ws).rams = M.rams ∧ (wordsM M ws).devs = M.devs := by
  unfold wordsM
  induction ws generalizing M with
  | nil => exact ⟨rfl, rfl⟩
  | cons x ws ih =>
    rw [List.foldl_cons]
    have h : (laidM M x.1 8 (byteOf x.2) 1 (offF M x.1 8)).rams = M.rams ∧ (laidM M x.1 8 (byteOf x.2) 1 (offF M x.1 8)).devs = M.devs := by
      unfold laidM
      cases offF M x.1 8 <;> exact ⟨rfl, rfl⟩
    exact ⟨(ih _).1.trans h.1, (ih _).2.trans h.2⟩
theorem MZ.zg {Z R : Nat → Prop} {w : World} {g : Nat} {M : PM} (h : MZ Z R w g M) : Z g := by
  obtain ⟨_, _, _, _, _, _, _, _, _, _, h⟩ := h.m
  exact h.zg
end Bu
end Go.Proofs.YtfpofaniicegaaaGreat

/- The walk of the law WalkBytes: the calls. -/
set_option linter.unusedVariables false
set_option linter.unusedSimpArgs false
namespace Go.Proofs.YtfpofaniicegaaaGreat
open Go.RowKit
open S64
namespace Bu
end Bu
end Go.Proofs.YtfpofaniicegaaaGreat
