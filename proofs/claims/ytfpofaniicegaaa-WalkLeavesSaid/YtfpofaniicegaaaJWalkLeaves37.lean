/- Texts of this claim, one behind the other: RlF. -/
import Derived.Test.YtfpofaniicegaaaJWalkLeaves33
import Derived.Test.YtfpofaniicegaaaJWalkLeaves36
import Derived.Test.YtfpofaniicegaaaJWalkLeaves35
import Derived.Sort.CutIn
import Derived.Deep.Cut
import Derived.Deep.DeepCutAuto
import Derived.Deep.RegionHeld3
import Derived.BigQuiet
/- The walk of the law WalkLeaves. -/
set_option linter.unusedVariables false
set_option linter.unusedSimpArgs false
namespace Go.Proofs.Ytfpofaniicegaaa
open Go.RowKit
open S64
namespace Bu
attribute [local go_sem] Oper.semAt_some
theorem neq_f41 (a : Nat) (w : World) : (binOp .neq 48 (.agg #[.int .i64 41, .int .u64 (a : Nat)]) (.agg #[.int .i64 41, .int .u64 (a : Nat)])).run Try.prog w = .ok (.bool false) w := by
  simp [go_sem, Try.underlying48, Try.underlying25, Try.underlying22]
theorem eql_fn (w : World) (a b c : Value) : (binOp .eql 69 (.func (.func 40) #[] #[a, b, c]) .nilFunc).run Try.prog w = .ok (.bool false) w := by kernel_rfl
set_option maxRecDepth 100000 in
set_option maxHeartbeats 16000000 in
theorem wleaves_walk (A1 A2 Aw Aq : Option Addr) (n1 n2 nw nq c1 c2 cw cq : Nat) (rams devs ws : Sp.S) (asks : List Nat) (root : Nat) (w : World) (h1 : IsS w w.heap.size A1 n1 rams) (h2 : IsS w w.heap.size A2 n2 devs) (hw : IsS w w.heap.size Aw nw ws) (ht : ∀ x ∈ rams ++ devs, x.1 ≤ TOP ∧ x.2 ≤ TOP) (htw : ∀ x ∈ ws, x.1 ≤ TOP ∧ x.2 ≤ TOP) (hr : root ≤ TOP) (hq : IsU w w.heap.size Aq nq asks) :
    Calls Try.prog 6 #[.agg #[.slice A1 n1 c1, .slice A2 n2 c2], .slice Aw nw cw, .int .u64 (root : Nat), .slice Aq nq cq] w fun e w' => e = .returned (.bool true) ∧ Below w.heap.size w w' := by
  have H1 := Lib.hid h1; have H2 := Lib.hid h2; have HW := Lib.hid hw; have HT := Lib.hid ht; have HTW := Lib.hid htw
  have HRT := Lib.hid hr; have HQ := Lib.hid hq
  have hq63 := hq.2.2
  have hr64 : root ≤ 18446744073709551615 := hr
  clear h1 h2 hw ht htw hr hq
  have hdd : ∀ k : Nat, (Fence.wide.depth.isSome = true → 1 ≤ k) := fun k h => by cases h
  refine (callsIn_wide (n := 3)).1 ?_
  refine callsIn_of_wp_marks Try.func6 rfl trivial ?_ rfl
  simp only [Try.ntmps6, List.size_toArray, List.length_cons, List.length_nil, Nat.reduceAdd, Nat.reduceSub, Array.replicate_succ, Array.replicate_zero, List.push_toArray, List.append_toArray, List.nil_append, List.cons_append]
  refine wpIn_wide.2 ?_
  go_upto_region 1 with fail
  have r0 := Row.new w 37 [.slice A1 n1 c1, .slice A2 n2 c2]
  have hb0 : Below w.heap.size w (w.alloc (.cells #[.slice A1 n1 c1, .slice A2 n2 c2] 37)) := (Below.refl _ _).alloc (Nat.le_refl _) _
  obtain ⟨c6, hc⟩ : ∃ c, c = w.heap.size := ⟨_, rfl⟩
  generalize w.alloc (.cells #[.slice A1 n1 c1, .slice A2 n2 c2] 37) = w1 at *
  rw [← hc] at r0 ⊢
  have HB1 := Lib.hid hb0; have HR1 := Lib.hid r0
  clear r0 hb0 hc
  go_wp2_with fail
  refine (awake_any w1).mono ?_
  rintro e w2 ⟨rfl, hb2⟩
  have HB2 := Lib.hid (HB1.out.trans (hb2.mono HB1.out.size))
  have HR2 := Lib.hid (HR1.out.below hb2 HR1.out.lt)
  clear hb2 HR1 HB1
  have p0 := HR2.out.cell 0
  have p1 := HR2.out.cell 1
  have lp := HR2.out.lt
  simp only [List.getElem?_cons_zero, List.getElem?_cons_succ] at p0 p1
  have HGR := Lib.hid (grounds_any A1 A2 Aw n1 n2 nw c1 c2 cw rams devs ws w2 ((H1.out.below HB2.out).more HB2.out.size) ((H2.out.below HB2.out).more HB2.out.size) ((HW.out.below HB2.out).more HB2.out.size) HT.out HTW.out)
  go_wp2_with fail
  refine HGR.out.mono ?_
  rintro e w4 ⟨hb4, hg⟩
  have HB4 := Lib.hid (HB2.out.trans (hb4.mono HB2.out.size))
  have HR4 := Lib.hid (HR2.out.below hb4 HR2.out.lt)
  rcases hg with ⟨hne, rfl⟩ | ⟨hne, g, gv, Z, R, Zv, rfl, htwo⟩
  · have HNE := Lib.hid hne
    clear hb4 hne HGR p0 p1 lp
    have p0 := HR4.out.cell 0
    have p1 := HR4.out.cell 1
    have lp := HR4.out.lt
    simp only [List.getElem?_cons_zero, List.getElem?_cons_succ] at p0 p1
    go_wp2_with fail
    have HRF := Lib.hid (refuses_any A1 A2 n1 n2 c1 c2 rams devs w4 ((H1.out.below HB4.out).more HB4.out.size) ((H2.out.below HB4.out).more HB4.out.size) HT.out)
    obtain ⟨E, hE⟩ : ∃ E, E = newE rams devs := ⟨_, rfl⟩
    rw [← hE] at HRF
    have g1 : ((E : Int) != 0) = true := by have h := HNE.out; rw [← hE] at h; simp; omega
    clear hE
    refine HRF.out.mono ?_
    rintro e w5 ⟨rfl, hb5⟩
    have HB5 := Lib.hid (HB4.out.trans (hb5.mono HB4.out.size))
    clear hb5 p0 p1 lp
    go_wp2_with fail
    refine ⟨.bool true, ?_, rfl, HB5.out⟩
    simp [results, Try.results6, go_sem]
  · obtain ⟨M, hM⟩ : ∃ M, M = wordsM ⟨rams, devs, fun _ => 0, 0, 0, 0⟩ ws := ⟨_, rfl⟩
    rw [← hM] at htwo
    have HTWO := Lib.hid htwo
    have HCL : Hid (c6 < w2.heap.size) := Lib.hid lp
    clear hb4 htwo hM HGR p0 p1 lp hne HR2 HTW HW H1 H2
    go_upto_region 8 with fail
    have hb6 : Below w4.heap.size w4 ((w4.alloc (.cells #[.slice none 0 0] 63)).alloc (.cells #[.slice none 0 0] 64)) := ((Below.refl _ _).alloc (Nat.le_refl _) _).alloc (by simp) _
    have hrl := (Row.new w4 63 [.slice none 0 0]).alloc (.cells #[.slice none 0 0] 64)
    have hrw := Row.new (w4.alloc (.cells #[.slice none 0 0] 63)) 64 [.slice none 0 0]
    rw [show (w4.alloc (.cells #[.slice none 0 0] 63)).heap.size = w4.heap.size + 1 by simp] at hrw
    have HZR : Hid (∀ k, Z k ∨ R k → w2.heap.size ≤ k ∧ k < w4.heap.size) := Lib.hid (fun k hk => ⟨HTWO.out.zl k hk, by rcases hk with h | h; exact HTWO.out.m.z k h; exact HTWO.out.m.r k h⟩)
    have HZV : Hid (∀ k, Zv k → k < w4.heap.size) := Lib.hid (fun k hk => (HTWO.out.v.lt k hk).2)
    have HTW6 := Lib.hid (HTWO.out.below hb6)
    have HB6 := Lib.hid (HB4.out.trans (hb6.mono HB4.out.size))
    have HGW : Hid (w.heap.size ≤ w4.heap.size ∧ w2.heap.size ≤ w4.heap.size) := Lib.hid ⟨HB4.out.size, Nat.le_trans (HTWO.out.zl g (.inl HTWO.out.m.zg)) (Nat.le_of_lt HTWO.out.m.lt)⟩
    have HZ2 : Hid (w.heap.size ≤ w2.heap.size) := Lib.hid HB2.out.size
    obtain ⟨gl, hgl⟩ : ∃ gl, gl = w4.heap.size := ⟨_, rfl⟩
    generalize (w4.alloc (.cells #[.slice none 0 0] 63)).alloc (.cells #[.slice none 0 0] 64) = w6 at *
    rw [← hgl] at hrl hrw HZR HZV HGW ⊢
    have HL6 := Lib.hid hrl; have HW6 := Lib.hid hrw
    clear hb6 hrl hrw hgl HTWO HB4 HR4 HB2 HCL HT
    go_wp2_with fail
    refine (rleaves_any (HTW6.out.v) root 3000 HRT.out (by decide)).mono ?_
    rintro e w8 ⟨Ar, cr, rfl, _, hd8, hc8⟩
    have HM8 : Hid (MZ Z R w8 g (cM M M.strays M.loads)) := Lib.hid (HTW6.out.m.chg hc8 (fun k hk hy => HTW6.out.dis k hk hy))
    have HL8 := Lib.hid (hc8.row HL6.out (fun h => by have := HZV.out _ h; omega))
    have HW8 := Lib.hid (hc8.row HW6.out (fun h => by have := HZV.out _ h; omega))
    have HB8 : Hid (Below w.heap.size w w8) := Lib.hid (HB6.out.trans (hc8.below HB6.out.size (fun k hk => by
      have h := (HTW6.out.v.lt k hk).1
      have h2 := HZ2.out
      omega)))
    obtain ⟨ln, hln⟩ : ∃ ln, ln = (lvs M root 3000).length := ⟨_, rfl⟩
    obtain ⟨en, hen⟩ : ∃ en, en = endsI M root 3000 := ⟨_, rfl⟩
    rw [← hln, ← hen]
    have HEN := Lib.hid hen
    clear hd8 hc8 hln hen HTW6 HB6 HL6 HW6
    cases en with
    | false =>
      go_wp2_with fail
      refine ⟨.bool true, ?_, rfl, HB8.out⟩
      simp [results, Try.results6, go_sem]
    | true =>
      go_wp2_with fail
      refine (leaves_any 41 (.pointer (some ⟨g, 0, none⟩)) root 3000 w8).mono ?_
      rintro e w10 ⟨rfl, rfl⟩
      obtain ⟨hsz10, hb10, hr1, hr2, hr3⟩ := lvW_rows w8 (.iface 41 (.pointer (some ⟨g, 0, none⟩))) root 3000
      have hef := eql_fn (lvW w8 (.iface 41 (.pointer (some ⟨g, 0, none⟩))) root 3000) (.pointer (some ⟨w8.heap.size + 2, 0, none⟩)) (.pointer (some ⟨w8.heap.size, 0, none⟩)) (.pointer (some ⟨w8.heap.size + 1, 0, none⟩))
      unfold lvF pmb
      generalize lvW w8 (.iface 41 (.pointer (some ⟨g, 0, none⟩))) root 3000 = w10 at *
      go_wp2_with fail
      clear hef
      have HLM : Hid (lvM root ≤ 3) := Lib.hid (by unfold lvM; split <;> omega)
      have hgl8 : gl + 1 < w8.heap.size := HW8.out.lt
      have HM10 : Hid (MZ Z R w10 g (sM M M.strays)) := Lib.hid (HM8.out.below (hb10.mono (Nat.le_refl _)))
      have hz10 : ∀ k, Z k ∨ R k → k < gl := fun k hk => (HZR.out k hk).2
      have hlo : ∀ k, w10.heap.size + (lvM root + 2) ≤ k → ¬ upTo Z w10.heap.size (lvM root + 2) k := fun k hk h => by
        rcases h with h | h
        · have := hz10 k (.inl h); omega
        · omega
      have hnT : ∀ k, k < w10.heap.size → ¬ Z k → ¬ upTo Z w10.heap.size (lvM root + 2) k := fun k hk hz h => by
        rcases h with h | h
        · exact hz h
        · omega
      have HLV : Hid ((lvs M root 3000).length ≤ 3000) := Lib.hid (by
        unfold lvs
        split
        · simp
        · split
          · simp
          · have := lvT_len (M := M) 3 0 root 0 3000 (by decide)
            show (lvT M 3 0 root 0 3000).1.length ≤ 3000
            omega)
      have HLZ : Hid (∀ pre x, pre ++ [x] <+: lvs M root 3000 → pre.length < 3000) := Lib.hid (fun pre x h => by
        have hl := h.length_le
        have := HLV.out
        simp at hl
        omega)
      obtain ⟨i0, hi0, hz1, hz2, hz3⟩ := info_parts infoLv
      obtain ⟨i1, hj0, hj1, hj2, hj3⟩ := info_parts infoNo
      refine (wpIn_wide (n := 3)).1 ?_
      refine wpIn_rangeFunc_C (F := Fence.wide) (n := 3) (ps := #[54, 55]) (gf := 40) (lb := #[pmb (w8.heap.size + 2), pmb w8.heap.size, pmb (w8.heap.size + 1)]) rfl (by decide) ?hg trivial (enters_of Try.func40 (by kernel_rfl) rfl)
        (leaves1_seq (smach_i g) (ent_mach g) Z R (fun k => Z k ∨ R k ∨ k = w8.heap.size) M w8.heap.size (w8.heap.size + 1) (w8.heap.size + 2) root 3000 _ w10 (by omega) (by decide) (by decide) (fun k hk => hk) (fun h => by have := hz10 _ (.inl h); omega) (fun k hk => by
          rcases hk with h | h | h
          · have := hz10 k (.inl h); omega
          · have := hz10 k (.inr h); omega
          · omega) ⟨M.strays, HM10.out⟩ hr1 hr2 hr3) (Below.refl _ _)
        (fun k hk => by have := hz10 k (.inl hk); omega) (fun k hk => by
          rcases hk with h | h | h
          · have := hz10 k (.inl h); omega
          · have := hz10 k (.inr h); omega
          · omega) (fun _ => rfl)
        (fun U U' ⟨s, hs⟩ hc => ⟨s, (smach_i g).chg hs hc (fun k hk h => by have := hz10 k hk; omega)⟩)
        (colI gl (gl + 1) (w10.heap.size + (lvM root + 2)) w) (fun _ _ _ => False)
        (colI_ab (hnT gl (by omega) (fun h => by have := hz10 gl (.inl h); omega)) (hnT (gl + 1) (by omega) (fun h => by have := hz10 (gl + 1) (.inl h); omega)) hlo (fun k hk => by
          rcases hk with h | h
          · have := (HZR.out k (.inl h)).1; have := HZ2.out; omega
          · have := HB8.out.size; omega))
        (fun _ _ _ _ hs _ => hs)
        ⟨⟨none, 0, none, 0, rfl, HL8.out.below hb10 HL8.out.lt, HW8.out.below hb10 HW8.out.lt, World.ownsRow_nil _ _ _ _, World.ownsRow_nil _ _ _ _⟩, HB8.out.trans (hb10.mono HB8.out.size)⟩
        (colA (w10.heap.size + (lvM root + 2))) (fun x a' => colA_ab hlo) ?assign ?body ?done ?stop
      case hg => rfl
      case assign =>
        intro l pre x W K hsz hi hpx hK
        obtain ⟨xv, xp, xn, xb, xw, xx, xno⟩ := x
        unfold lvEnc lvV
        have HK := Lib.hid hK
        have HI := Lib.hid hi
        clear hK hi hpx
        gi_wp2_with fail
        have hchg : ∀ Y : Nat → Prop, ChgP Y W (W.alloc (.cells #[.int .u64 (xv : Nat), .int .u64 (xp : Nat), .int .i64 (xn : Nat), .bool xb, .bool xw, .bool xx] 72)) := fun Y => (ChgP.refl Y W).alloc _
        refine HK.out _ _ (hchg _) ?_ ⟨W.heap.size, by omega, Row.new W 72 _, rfl⟩
        exact colI_ab (T := fun _ => False) (fun h => h) (fun h => h) (fun _ _ h => h) (fun _ h => h.elim) _ _ _ HI.out (hchg _)
      case body =>
        rintro l pre x a' W hsz ⟨⟨Ba, da, Bb, db, hcol⟩, hbel0⟩ ⟨Bx, hBx, hxr, rfl⟩ hpx
        have hp5 := HLZ.out pre x hpx
        have HX := Lib.hid (rfl : x = x)
        unfold lvV
        simp only [List.setIfInBounds_toArray, List.set_cons_succ, List.set_cons_zero]
        obtain ⟨LO, hLO⟩ : ∃ LO, LO = w10.heap.size + (lvM root + 2) := ⟨_, rfl⟩
        rw [← hLO] at hcol hBx hlo ⊢
        have hgoL : gl + 1 < LO := by omega
        have hLW : LO ≤ W.heap.size := by rw [hLO]; omega
        obtain ⟨kk, hkk⟩ : ∃ kk, kk = pre.length := ⟨_, rfl⟩
        have hkp : kk < 3000 := by rw [hkk]; exact hp5
        rw [← hkk] at hcol
        have e0 := hcol.r1.cell 0
        have ef := hcol.r1.frozen 0
        have el := hcol.r1.lt
        have x0 := hxr.cell 0
        have x1 := hxr.cell 1
        have x2 := hxr.cell 2
        have x3 := hxr.cell 3
        have x4 := hxr.cell 4
        have x5 := hxr.cell 5
        have xl := hxr.lt
        simp only [lvC, List.getElem?_cons_zero, List.getElem?_cons_succ] at e0 x0 x1 x2 x3 x4 x5
        have HH := Lib.hid (And.intro hcol hbel0)
        have HHZ := Lib.hid hz10
        have HLO := Lib.hid hLO
        have HKK := Lib.hid hkk
        have HHL := Lib.hid hlo; have HHT := Lib.hid hnT
        clear hcol hbel0 hxr hz10 hLO hkk hlo hnT hpx hp5
        gi_wp2_with (gi_at_builtin; refine (?_ : _ ∧ True).1)
        refine ⟨?_, trivial⟩
        refine wpListIn_append_own _ (by rfl) _ _ 63 rfl LO 72 i0 _ 6 32 Try.underlying63 hi0 hz1 hz2 hz3 rfl (by decide) (.slice Ba kk da) kk (lvAll pre) rfl (owns_chgP HH.out.1.o1 ((ChgP.refl (fun _ => False) W).alloc _) (fun _ _ h => h)) ⟨W.heap.size, 0, none⟩ 1 1 (lvC x) rfl rfl (reads_lv W x) (oneCell_lv x) (by unfold maxLen; omega) (by omega) (by simp; omega) ?_
        intro v' w1' hown' hgrow _
        obtain ⟨g', cap', rfl⟩ := ownsRow_succ hown'
        have hc1 : ChgP (fun k => (Value.slice Ba kk da).ownBlock = some k) W w1' := ((ChgP.refl (fun k => (Value.slice Ba kk da).ownBlock = some k) W).alloc _).grown hgrow (fun k hk => .inl hk)
        have hlo1 : ∀ k, (Value.slice Ba kk da).ownBlock = some k → LO ≤ k := fun k hk => (World.ownsRow.lt HH.out.1.o1 k hk).1
        have hr1' := hc1.row HH.out.1.r1 (fun h => by have := hlo1 _ h; omega)
        have hr2' := hc1.row HH.out.1.r2 (fun h => by have := hlo1 _ h; omega)
        have ho2' := owns_chgP HH.out.1.o2 hc1 (fun k hk h => Col.apart HH.out.1.o1 HH.out.1.o2 (by decide) k h hk)
        have f0 := hr1'.cell 0
        have ff := hr1'.frozen 0
        have fl := hr1'.lt
        simp only [List.getElem?_cons_zero] at f0
        have HG := Lib.hid (And.intro hc1 (And.intro hr1' (And.intro hr2' (And.intro ho2' (And.intro hown' hlo1)))))
        clear hc1 hlo1 hr1' hr2' ho2' hown' hgrow x0 x1 x2 x3 x4 x5 xl e0 ef el
        gi_upto_region 18 with fail
        obtain ⟨hc1, hr1', hr2', ho2', ho1', hlo1⟩ := HG.out
        have hc2 : ChgP (fun k => k = gl) w1' (w1'.setCell ⟨gl, 0, none⟩ (.slice (some ⟨g', 0, none⟩) (kk + 1) cap')) := ChgP.set_ (Z := fun k => k = gl) (ChgP.refl _ w1') (p := ⟨gl, 0, none⟩) (.inl rfl) _
        have q1 := hr1'.set_ 0 (.slice (some ⟨g', 0, none⟩) (kk + 1) cap')
        simp only [List.set_cons_zero] at q1
        have q2 := hc2.row hr2' (fun h => by have h : gl + 1 = gl := h; omega)
        have q3 := owns_chgP ho1' hc2 (fun k hk h => by have := (World.ownsRow.lt ho1' k hk).1; have h : k = gl := h; omega)
        have q4 := owns_chgP ho2' hc2 (fun k hk h => by have := (World.ownsRow.lt ho2' k hk).1; have h : k = gl := h; omega)
        have q5 : ChgP (fun k => k = gl ∨ k = gl + 1 ∨ LO ≤ k) W (w1'.setCell ⟨gl, 0, none⟩ (.slice (some ⟨g', 0, none⟩) (kk + 1) cap')) := (hc1.mono (Y := fun k => k = gl ∨ k = gl + 1 ∨ LO ≤ k) (fun k hk => .inl (.inr (.inr (hlo1 k hk))))).trans hc2 (fun k hk => .inl (.inl hk))
        have hW2 : LO ≤ (w1'.setCell ⟨gl, 0, none⟩ (.slice (some ⟨g', 0, none⟩) (kk + 1) cap')).heap.size := Nat.le_trans hLW q5.size
        clear hc1 hr1' hr2' ho2' ho1' hlo1 hc2 f0 ff fl HG
        generalize w1'.setCell ⟨gl, 0, none⟩ (.slice (some ⟨g', 0, none⟩) (kk + 1) cap') = W2 at *
        have e0 := q2.cell 0
        have ef := q2.frozen 0
        have el := q2.lt
        simp only [List.getElem?_cons_zero] at e0
        have HG := Lib.hid (And.intro q1 (And.intro q2 (And.intro q3 (And.intro q4 q5))))
        clear q1 q2 q3 q4 q5
        gi_wp2_with (gi_at_builtin; refine (?_ : _ ∧ True).1)
        refine ⟨?_, trivial⟩
        refine wpListIn_append_own _ (by rfl) _ _ 64 rfl LO 25 i1 _ 1 8 Try.underlying64 hj0 hj1 hj2 hj3 rfl (by decide) (.slice Bb kk db) kk (pre.map noV) rfl (owns_chgP HG.out.2.2.2.1 ((ChgP.refl (fun _ => False) W2).alloc _) (fun _ _ h => h)) ⟨W2.heap.size, 0, none⟩ 1 1 [noV x] rfl rfl (reads_no W2 x) (oneCell_no x) (by unfold maxLen; omega) (by omega) (by simp; omega) ?_
        intro v2' w3' hown2 hgrow2 _
        obtain ⟨g2', cap2', rfl⟩ := ownsRow_succ hown2
        have hc1 : ChgP (fun k => (Value.slice Bb kk db).ownBlock = some k) W2 w3' := ((ChgP.refl (fun k => (Value.slice Bb kk db).ownBlock = some k) W2).alloc _).grown hgrow2 (fun k hk => .inl hk)
        have hlo1 : ∀ k, (Value.slice Bb kk db).ownBlock = some k → LO ≤ k := fun k hk => (World.ownsRow.lt HG.out.2.2.2.1 k hk).1
        have hr1' := hc1.row HG.out.1 (fun h => by have := hlo1 _ h; omega)
        have hr2' := hc1.row HG.out.2.1 (fun h => by have := hlo1 _ h; omega)
        have ho1' := owns_chgP HG.out.2.2.1 hc1 (fun k hk h => Col.apart HG.out.2.2.1 HG.out.2.2.2.1 (by decide) k hk h)
        have hc2 : ChgP (fun k => k = gl + 1) w3' (w3'.setCell ⟨gl + 1, 0, none⟩ (.slice (some ⟨g2', 0, none⟩) (kk + 1) cap2')) := ChgP.set_ (Z := fun k => k = gl + 1) (ChgP.refl _ w3') (p := ⟨gl + 1, 0, none⟩) (.inl rfl) _
        have q2 := hr2'.set_ 0 (.slice (some ⟨g2', 0, none⟩) (kk + 1) cap2')
        simp only [List.set_cons_zero] at q2
        have q1 := hc2.row hr1' (fun h => by have h : gl = gl + 1 := h; omega)
        have q3 := owns_chgP ho1' hc2 (fun k hk h => by have := (World.ownsRow.lt ho1' k hk).1; have h : k = gl + 1 := h; omega)
        have q4 := owns_chgP hown2 hc2 (fun k hk h => by have := (World.ownsRow.lt hown2 k hk).1; have h : k = gl + 1 := h; omega)
        have q5 : ChgP (fun k => k = gl ∨ k = gl + 1 ∨ LO ≤ k) W (w3'.setCell ⟨gl + 1, 0, none⟩ (.slice (some ⟨g2', 0, none⟩) (kk + 1) cap2')) := HG.out.2.2.2.2.trans ((hc1.mono (Y := fun k => k = gl ∨ k = gl + 1 ∨ LO ≤ k) (fun k hk => .inl (.inr (.inr (hlo1 k hk))))).trans hc2 (fun k hk => .inl (.inr (.inl hk)))) (fun k hk => .inl hk)
        have hcol2 : Col gl (gl + 1) LO (some ⟨g', 0, none⟩) cap' (some ⟨g2', 0, none⟩) cap2' (pre ++ [x]).length (pre ++ [x]) (w3'.setCell ⟨gl + 1, 0, none⟩ (.slice (some ⟨g2', 0, none⟩) (kk + 1) cap2')) := by
          have e1 : (pre ++ [x]).length = kk + 1 := by rw [HKK.out]; simp
          refine ⟨rfl, by rw [e1]; exact q1, by rw [e1]; exact q2, by rw [e1, lvAll_snoc]; exact q3, by rw [e1, noAll_snoc]; exact q4⟩
        have hfin : KpC (upTo (fun k => Z k ∨ R k ∨ k = w8.heap.size) w10.heap.size (lvM root + 2)) W (w3'.setCell ⟨gl + 1, 0, none⟩ (.slice (some ⟨g2', 0, none⟩) (kk + 1) cap2')) := q5.mono (fun k hk => .inl (fun h => by
          have hL := HLO.out
          rcases h with (h | h | h) | h
          · have := HHZ.out k (.inl h); omega
          · have := HHZ.out k (.inr h); omega
          · omega
          · omega))
        have hfb : Below w.heap.size w (w3'.setCell ⟨gl + 1, 0, none⟩ (.slice (some ⟨g2', 0, none⟩) (kk + 1) cap2')) := HH.out.2.trans (q5.below HH.out.2.size (fun k hk => by have := HGW.out; omega))
        have HF := Lib.hid (And.intro hfin (show colI gl (gl + 1) LO w (pre ++ [x]) _ from ⟨⟨_, _, _, _, hcol2⟩, hfb⟩))
        have f0 := hr2'.cell 0
        have ff := hr2'.frozen 0
        have fl := hr2'.lt
        simp only [List.getElem?_cons_zero] at f0
        clear hc1 hlo1 hr1' hr2' ho1' hc2 q1 q2 q3 q4 q5 hcol2 hfin hfb hown2 hgrow2 e0 ef el
        gi_wp2_with fail
        exact HF.out
      case done =>
        rintro xs W rfl ⟨⟨Aa, ca, Ab, cb, hcol⟩, hbel⟩ ⟨s0, hmW⟩ hK
        have HWL := Lib.hid (wl_says (M := M) (root := root) HEN.out.symm)
        obtain ⟨D, hD⟩ : ∃ D, D = w10.heap.size := ⟨_, rfl⟩
        have hDg : gl < D := by rw [hD]; omega
        obtain ⟨LO, hLO⟩ : ∃ LO, LO = w10.heap.size + (lvM root + 2) := ⟨_, rfl⟩
        have hgLO : gl < LO := by rw [hLO]; omega
        rw [← hLO] at hcol
        rw [← hD] at hK ⊢
        obtain ⟨L, hL⟩ : ∃ L, L = lvs M root 3000 := ⟨_, rfl⟩
        rw [← hL] at hcol HWL HLV
        obtain ⟨n, hn⟩ : ∃ n, n = L.length := ⟨_, rfl⟩
        rw [← hn] at hcol
        have hn3 : n ≤ 3000 := by rw [hn]; exact HLV.out
        have HWS0 : Hid (WS g Z R M w gl LO D Aa ca Ab cb n L W) := Lib.hid ⟨hcol, hbel, ⟨s0, M.loads, hmW⟩, hK⟩
        have HN := Lib.hid hn
        have HDG := Lib.hid (And.intro hDg hgLO)
        have HZG : Hid (∀ k, Z k → w.heap.size ≤ k ∧ k < gl) := Lib.hid (fun k hk => ⟨Nat.le_trans HZ2.out (HZR.out k (.inl hk)).1, (HZR.out k (.inl hk)).2⟩)
        have HFO := hcol.form
        have l0 := hcol.r1.cell 0
        have ll := hcol.r1.lt
        simp only [List.getElem?_cons_zero] at l0
        clear hcol hbel hmW hK hD hDg hLO hgLO hL hn HLZ HLM HLV hr1 hr2 hr3 hb10 hsz10 hlo hnT hz10 hgl8 HM10 HM8 HEN hi0 hz1 hz2 hz3 hj0 hj1 hj2 hj3 HL8 HW8 HB8
        obtain ⟨ga, gb, HFO⟩ := HFO
        go_wp2_with fail
        go_loopw [18, 19] (fun t i wr => ∃ j : Nat, j ≤ n ∧ i = .int .i64 (j : Nat) ∧ ∃ e : Nat, t = .int .u64 (e : Nat) ∧ Hid (∀ x, L[j]? = some x → e ≤ x.v) ∧ Hid (WS g Z R M w gl LO D Aa ca Ab cb n L wr)) (fun _ i _ => n - (intOf i).toNat)
        case atStart => exact ⟨0, by omega, rfl, 0, rfl, Lib.hid (fun x hx => Nat.zero_le _), HWS0⟩
        case round =>
        obtain ⟨j, hj, rfl, e, rfl, HE, HW⟩ := hrel
        clear l0 ll
        have l0 := HW.out.col.r1.cell 0
        simp only [List.getElem?_cons_zero] at l0
        have ll := HW.out.col.r1.lt
        by_cases hjn : j < n
        · obtain ⟨rfl, rfl⟩ := HFO.out (by omega)
          obtain ⟨x, hx⟩ : ∃ x, L[j]? = some x := ⟨_, List.getElem?_eq_getElem (by have := HN.out; omega)⟩
          have hxm := List.mem_of_getElem? hx
          have hrx := HWL.out.1.2 x hxm
          have hev := HE.out x hx
          have HMA : Hid (∀ wx, WS g Z R M w gl LO D (some ⟨ga, 0, none⟩) ca (some ⟨gb, 0, none⟩) cb n L wx → ∀ a : Nat, x.v ≤ a → a < x.hi → Calls Try.prog 27 #[.pointer (some ⟨g, 0, none⟩), .int .u64 (root : Nat), lvV x, .int .i64 (x.no : Nat), .int .u64 (a : Nat)] wx fun e w' => e = .returned (.bool true) ∧ WS g Z R M w gl LO D (some ⟨ga, 0, none⟩) ca (some ⟨gb, 0, none⟩) cb n L w') := Lib.hid (fun wx hws a h1 h2 => by
            obtain ⟨s, ld, hm⟩ := hws.m
            exact (mapped_any g root a x hm HRT.out (by have := hrx.2.1; unfold TOP; omega) h1 hrx.2.2.2 (fun access hac => HWL.out.2.1 x hxm a h1 h2 access hac)).mono (fun e w' ⟨he, s', ld', hm', hc⟩ => ⟨he, hws.chg ⟨s', ld', hm'⟩ hc HZG.out HDG.out.2 HDG.out.1⟩))
          have HNX : Hid (∀ y, L[j + 1]? = some y → x.hi ≤ y.v) := Lib.hid (fun y hy => by
            have h := List.pairwise_iff_getElem.1 HWL.out.1.1
            obtain ⟨h1, h2⟩ := List.getElem?_eq_some_iff.1 hx
            obtain ⟨h3, h4⟩ := List.getElem?_eq_some_iff.1 hy
            have := h j (j + 1) h1 h3 (by omega)
            rw [h2, h4] at this
            exact this)
          have HRD : Hid (∀ wx, WS g Z R M w gl LO D (some ⟨ga, 0, none⟩) ca (some ⟨gb, 0, none⟩) cb n L wx → WR gl ga gb ca cb n j x wx) := Lib.hid (fun wx h => h.reads hx)
          obtain ⟨xv, xp, xn, xb, xw, xx, xno⟩ := x
          unfold Lv.hi lvV at HMA
          unfold Lv.hi at HNX
          have HRD2 := Lib.hid (fun wx h => (⟨(HRD.out wx h).l0, (HRD.out wx h).w0, (HRD.out wx h).x0, (HRD.out wx h).x1, (HRD.out wx h).x2, (HRD.out wx h).x3, (HRD.out wx h).x4, (HRD.out wx h).x5, (HRD.out wx h).y, Lib.hid h⟩ : _ ∧ _ ∧ _ ∧ _ ∧ _ ∧ _ ∧ _ ∧ _ ∧ _ ∧ Hid (WS g Z R M w gl LO D (some ⟨ga, 0, none⟩) ca (some ⟨gb, 0, none⟩) cb n L wx)))
          obtain ⟨_, r2, r3⟩ := hrx
          unfold Lv.hi at r2
          simp only at HMA HNX HRD2 r2 r3 hev
          obtain ⟨m, hm⟩ : ∃ m, m = xn * 4096 := ⟨_, rfl⟩
          obtain ⟨hi, hhi⟩ : ∃ hi, hi = xv + m := ⟨_, rfl⟩
          rw [← hm, ← hhi] at HMA HNX r2
          have hlh : xv < hi := by omega
          obtain ⟨h1, hh1⟩ : ∃ h1, h1 + 1 = hi := ⟨hi - 1, by omega⟩
          have f1 : ¬ (xv : Int) < (e : Int) := by omega
          have f2 : ¬ (xn : Int) < 1 := by have := r3.1; omega
          have a2 : (xn : Int) * 4096 = (m : Int) := by omega
          have a3 : (xv : Int) + (m : Int) = (hi : Int) := by omega
          have a4 : (hi : Int) - 1 = (h1 : Int) := by omega
          have b1 : IntKind.u64.wrap (xn : Int) = (xn : Int) := by rw [IntKind.wrap_u64]; omega
          have b2 : IntKind.u64.wrap (m : Int) = (m : Int) := by rw [IntKind.wrap_u64]; omega
          have b3 : IntKind.u64.wrap (hi : Int) = (hi : Int) := by rw [IntKind.wrap_u64]; omega
          have b4 : IntKind.u64.wrap (h1 : Int) = (h1 : Int) := by rw [IntKind.wrap_u64]; omega
          have HH1 : Hid (xv ≤ xv ∧ xv < hi ∧ xv ≤ h1 ∧ h1 < hi) := Lib.hid (by omega)
          obtain ⟨c1, c2, c3, c4, c5, c6, c7, c8, c9, _⟩ := HRD2.out wr HW.out
          have HX := Lib.hid hx
          clear hx hxm hev hm hhi hlh hh1 r2 r3 HRD l0
          go_upto_region 25 with fail
          go_quiet (fail)
          go_upto_region 26 with fail
          have HWD := Lib.hid (HW.out.below (below_drewN (Below.refl _ _) nq))
          clear c1 c2 c3 c4 c5 c6 c7 c8 c9
          obtain ⟨c1, c2, c3, c4, c5, c6, c7, c8, c9, _⟩ := HRD2.out _ HWD.out
          have i1 : (0 : Int) ≤ (j : Int) := by omega
          have i2 : (j : Int) < (n : Int) := by omega
          clear f1 f2 a2 a3 b1 b2 b3
          go_region_held3 (fun w' => w'.cell? ⟨gl, 0, none⟩ = some (.slice (some ⟨ga, 0, none⟩) n ca) ∧ w'.cell? ⟨gl + 1, 0, none⟩ = some (.slice (some ⟨gb, 0, none⟩) n cb) ∧ w'.cell? ⟨ga, j * 6, none⟩ = some (.int .u64 (xv : Nat)) ∧ w'.cell? ⟨ga, j * 6 + 1, none⟩ = some (.int .u64 (xp : Nat)) ∧ w'.cell? ⟨ga, j * 6 + 2, none⟩ = some (.int .i64 (xn : Nat)) ∧ w'.cell? ⟨ga, j * 6 + 3, none⟩ = some (.bool xb) ∧ w'.cell? ⟨ga, j * 6 + 4, none⟩ = some (.bool xw) ∧ w'.cell? ⟨ga, j * 6 + 5, none⟩ = some (.bool xx) ∧ w'.cell? ⟨gb, j, none⟩ = some (.int .i64 (xno : Nat)) ∧ Hid (WS g Z R M w gl LO D (some ⟨ga, 0, none⟩) ca (some ⟨gb, 0, none⟩) cb n L w'))
            (first | exact HRD2.out _ HWD.out.drew | exact HRD2.out _ HW5.out | exact HRD2.out _ HW5.out.drew | exact HRD2.out _ HW6.out | exact HRD2.out _ HW6.out.drew | fail)
            (first
              | (have hq := HW5; rw [if_pos (by kernel_rfl)]; go_simp; go_at_call 27; refine (HMA.out _ (hq.out) h1 HH1.out.2.2.1 HH1.out.2.2.2).mono ?_; rintro e w6 ⟨rfl, hw6⟩; have HW6 := Lib.hid hw6; clear hw6 hq; try go_wp2_with fail)
              | (go_at_call 27; refine (HMA.out _ (HWD.out.drew) xv HH1.out.1 HH1.out.2.1).mono ?_; rintro e w5 ⟨rfl, hw5⟩; have HW5 := Lib.hid hw5; clear hw5)
              | fail)
          go_wp2_with fail
          go_roundw
          case rel => exact ⟨j + 1, by omega, by go_num, hi, rfl, HNX, HW6⟩
          case measure => simp [intOf]; omega
        · have ej : n = j := by omega
          subst ej
          obtain ⟨bq, oq, HFQ⟩ := HQ.out.form
          have HQL := Lib.hid HQ.out.len
          clear HE hj hjn HWS0
          go_wp2_with fail
          go_loopw [20] (fun i wr => ∃ k : Nat, k ≤ nq ∧ i = .int .i64 (k : Nat) ∧ Hid (WS g Z R M w gl LO D Aa ca Ab cb n L wr)) (fun i _ => nq - (intOf i).toNat)
          case atStart => exact ⟨0, by omega, rfl, HW⟩
          case round =>
          clear HW l0 ll
          obtain ⟨k, hk, rfl, HW⟩ := hrel
          by_cases hkn : k < nq
          · obtain ⟨rfl, hbB, hcf⟩ := HFQ.out (by omega)
            obtain ⟨u, hu⟩ : ∃ u, asks[k]? = some u := ⟨_, List.getElem?_eq_getElem (by have := HQL.out; omega)⟩
            obtain ⟨hu64, huc⟩ := hcf k u hu
            have q0 := (HW.out.b.cell (p := ⟨bq, oq + k, none⟩) hbB).trans huc
            have hbl2 : bq < wr.heap.size := Nat.lt_of_lt_of_le hbB HW.out.b.size
            obtain ⟨va, ha⟩ : ∃ va, va = u % 549755813888 := ⟨_, rfl⟩
            have e1 : (u : Int) % 549755813888 = (va : Int) := by omega
            have ha39 : va < 549755813888 := by omega
            have HA := Lib.hid ha39
            have l0 := HW.out.col.r1.cell 0
            simp only [List.getElem?_cons_zero] at l0
            have ll := HW.out.col.r1.lt
            clear hcf hu huc ha ha39
            go_upto_region 33 with fail
            go_wp2_with fail
            go_loopw [22, 23] (fun t i wx => ∃ (j : Nat) (inn : Int), j ≤ n ∧ i = .int .i64 (j : Nat) ∧ t = .int .i64 inn ∧ Hid ((inn = -1 ∧ ∀ k x, k < j → L[k]? = some x → ¬ (x.v ≤ va ∧ va < x.hi)) ∨ (∃ k x, inn = ((k : Nat) : Int) ∧ k < n ∧ L[k]? = some x ∧ x.v ≤ va ∧ va < x.hi)) ∧ Hid (WS g Z R M w gl LO D Aa ca Ab cb n L wx)) (fun _ i _ => n - (intOf i).toNat)
            case atStart => exact ⟨0, -1, by omega, rfl, rfl, Lib.hid (.inl ⟨rfl, fun k x h => absurd h (by omega)⟩), HW⟩
            case round =>
            clear HW l0 ll
            obtain ⟨j, inn, hj, rfl, rfl, HIN, HW⟩ := hrel
            have l0 := HW.out.col.r1.cell 0
            simp only [List.getElem?_cons_zero] at l0
            have ll := HW.out.col.r1.lt
            by_cases hjn : j < n
            · obtain ⟨rfl, rfl⟩ := HFO.out (by omega)
              obtain ⟨x, hx⟩ : ∃ x, L[j]? = some x := ⟨_, List.getElem?_eq_getElem (by have := HN.out; omega)⟩
              have hrx := HWL.out.1.2 x (List.mem_of_getElem? hx)
              have hrd := HW.out.reads hx
              obtain ⟨m, hm⟩ : ∃ m, m = x.n * 4096 := ⟨_, rfl⟩
              have hhi : x.hi = x.v + m := by rw [hm]; rfl
              have hB := hrx.2.1
              rw [hhi] at hB
              have HIN2 : Hid (∀ inn' : Int, (x.v ≤ va ∧ va < x.v + m → inn' = (j : Int)) → (¬ (x.v ≤ va ∧ va < x.v + m) → inn' = inn) → (inn' = -1 ∧ ∀ k x, k < j + 1 → L[k]? = some x → ¬ (x.v ≤ va ∧ va < x.hi)) ∨ (∃ k x, inn' = ((k : Nat) : Int) ∧ k < n ∧ L[k]? = some x ∧ x.v ≤ va ∧ va < x.hi)) := Lib.hid (fun inn' h1 h2 => by
                by_cases hh : x.v ≤ va ∧ va < x.v + m
                · exact .inr ⟨j, x, h1 hh, hjn, hx, hh.1, by rw [hhi]; exact hh.2⟩
                · rw [h2 hh]
                  rcases HIN.out with ⟨e1, e2⟩ | h
                  · refine .inl ⟨e1, fun k y hk hy => ?_⟩
                    by_cases hkj : k = j
                    · subst hkj
                      rw [hx] at hy
                      injection hy with hy
                      subst hy
                      rw [hhi]; exact hh
                    · exact e2 k y (by omega) hy
                  · exact .inr h)
              obtain ⟨xv, hxv⟩ : ∃ v, v = x.v := ⟨_, rfl⟩
              obtain ⟨xn, hxn⟩ : ∃ v, v = x.n := ⟨_, rfl⟩
              have x0 := hrd.x0
              have x2 := hrd.x2
              rw [← hxv] at x0 HIN2 hB
              rw [← hxn] at x2 hm
              have haB := HA.out
              have a2 : (xn : Int) * 4096 = (m : Int) := by omega
              have b1 : IntKind.u64.wrap (xn : Int) = (xn : Int) := by rw [IntKind.wrap_u64]; omega
              have b2 : IntKind.u64.wrap (m : Int) = (m : Int) := by rw [IntKind.wrap_u64]; omega
              have i1 : (0 : Int) ≤ (j : Int) := by omega
              have i2 : (j : Int) < (n : Int) := by omega
              clear hx hrx hrd hhi hxv hxn hm HIN
              by_cases h1 : xv ≤ va
              · obtain ⟨d, hd⟩ : ∃ d, d = va - xv := ⟨_, rfl⟩
                have f1 : (xv : Int) ≤ (va : Int) := by omega
                have b3 : (va : Int) - (xv : Int) = (d : Int) := by omega
                have b4 : IntKind.u64.wrap (d : Int) = (d : Int) := by rw [IntKind.wrap_u64]; omega
                by_cases h2 : va < xv + m
                · have f2 : (d : Int) < (m : Int) := by omega
                  have HIN3 := Lib.hid (HIN2.out (j : Int) (fun _ => rfl) (fun h => absurd ⟨h1, h2⟩ h))
                  clear hd h1 h2 hB HIN2 haB
                  go_wp2_with fail
                  go_region_held3 (fun w' => w'.cell? ⟨gl, 0, none⟩ = some (.slice (some ⟨ga, 0, none⟩) n ca) ∧ w'.cell? ⟨ga, j * 6, none⟩ = some (.int .u64 (xv : Nat)) ∧ w'.cell? ⟨ga, j * 6 + 2, none⟩ = some (.int .i64 (xn : Nat)))
                    (first | exact ⟨l0, x0, x2⟩)
                    (first | fail)
                  have HWD := Lib.hid HW.out.drew
                  go_wp2_with fail
                  go_roundw
                  case rel => exact ⟨j + 1, (j : Int), by omega, by go_num, rfl, HIN3, HWD⟩
                  case measure => simp [intOf]; omega
                · have f2 : ¬ (d : Int) < (m : Int) := by omega
                  have HIN3 := Lib.hid (HIN2.out inn (fun h => absurd h.2 h2) (fun _ => rfl))
                  clear hd h1 h2 hB HIN2 haB
                  go_wp2_with fail
                  go_region_held3 (fun w' => w'.cell? ⟨gl, 0, none⟩ = some (.slice (some ⟨ga, 0, none⟩) n ca) ∧ w'.cell? ⟨ga, j * 6, none⟩ = some (.int .u64 (xv : Nat)) ∧ w'.cell? ⟨ga, j * 6 + 2, none⟩ = some (.int .i64 (xn : Nat)))
                    (first | exact ⟨l0, x0, x2⟩)
                    (first | fail)
                  have HWD := Lib.hid HW.out.drew
                  go_wp2_with fail
                  go_roundw
                  case rel => exact ⟨j + 1, inn, by omega, by go_num, rfl, HIN3, HWD⟩
                  case measure => simp [intOf]; omega
              · have f1 : decide (xv ≤ va) = false := by simp; omega
                have HIN3 := Lib.hid (HIN2.out inn (fun h => absurd h.1 h1) (fun _ => rfl))
                clear h1 hB HIN2 haB a2 b1 b2
                go_wp2_with fail
                go_quiet (fail)
                have HWD := Lib.hid (HW.out.below (below_drewN (Below.refl _ _) nq))
                go_wp2_with fail
                go_roundw
                case rel => exact ⟨j + 1, inn, by omega, by go_num, rfl, HIN3, HWD⟩
                case measure => simp [intOf]; omega
            · have ejn : j = n := by omega
              have haB := HA.out
              have HTR : Hid (∀ (wx : World) (s ld : Int), MZ Z R wx g (cM M s ld) → Calls Try.prog 20 #[.iface 41 (.pointer (some ⟨g, 0, none⟩)), .int .u64 (root : Nat), .int .u64 (va : Nat), .int .i64 1] wx fun e w' => e = .returned (.tuple #[.int .u64 ((trI M root va 1).1 : Nat), .agg #[.int .i64 ((trI M root va 1).2 : Nat), .int .u64 ((if (trI M root va 1).2 = 0 then 0 else va : Nat) : Nat)]]) ∧ ∃ s ld, MZ Z R w' g (cM M s ld) ∧ ChgP Z wx w') := Lib.hid (fun wx s ld h => wtr_k g root va 1 h HRT.out (by unfold TOP; omega))
              have HSAY : Hid (inn = -1 → trI M root va 1 = (0, 41)) := Lib.hid (fun h => by
                rcases HIN.out with ⟨_, h2⟩ | ⟨k', x, h2, _⟩
                · refine HWL.out.2.2 va (by omega) (fun x hx hh => ?_) 1 (by decide)
                  obtain ⟨k', hk', hx'⟩ := List.mem_iff_getElem.1 hx
                  exact h2 k' x (by have := HN.out; omega) (by rw [← hx']; exact List.getElem?_eq_getElem hk') hh
                · omega)
              obtain ⟨T1, hT1⟩ : ∃ T, T = trI M root va 1 := ⟨_, rfl⟩
              rw [← hT1] at HTR HSAY
              obtain ⟨P1, N1⟩ := T1
              simp only at HTR
              obtain ⟨D1, hD1⟩ : ∃ D, D = (if N1 = 0 then 0 else va : Nat) := ⟨_, rfl⟩
              rw [← hD1] at HTR
              have HD1 := Lib.hid hD1
              clear hT1 hD1 haB
              have HTRW : Hid (∀ wx, WS g Z R M w gl LO D Aa ca Ab cb n L wx → Calls Try.prog 20 #[.iface 41 (.pointer (some ⟨g, 0, none⟩)), .int .u64 (root : Nat), .int .u64 (va : Nat), .int .i64 1] wx fun e w' => e = .returned (.tuple #[.int .u64 (P1 : Nat), .agg #[.int .i64 (N1 : Nat), .int .u64 (D1 : Nat)]]) ∧ WS g Z R M w gl LO D Aa ca Ab cb n L w') := Lib.hid (fun wx hws => by
                obtain ⟨s, ld, hm⟩ := hws.m
                exact (HTR.out wx s ld hm).mono (fun e w' ⟨he, s', ld', hm', hc⟩ => ⟨he, hws.chg ⟨s', ld', hm'⟩ hc HZG.out HDG.out.2 HDG.out.1⟩))
              clear HTR
              by_cases hin : inn = -1
              · subst hin
                have HS := Lib.hid (HSAY.out rfl)
                have hS := HS.out
                simp only [Prod.mk.injEq] at hS
                obtain ⟨rfl, rfl⟩ := hS
                have hD := HD1.out
                rw [if_neg (by decide)] at hD
                subst hD
                clear HIN HSAY HS HD1
                have hnq := neq_f41 D1
                go_upto_region 38 with fail
                go_quiet (fail)
                have HWD := Lib.hid (HW.out.below (below_drewN (Below.refl _ _) nq))
                clear HW l0 ll
                go_upto_region 40 with fail
                go_upto_region 41 with (go_at_call 20; refine (HTRW.out _ HWD.out).mono ?_; rintro e w2 ⟨rfl, hw2⟩; have HW2 := Lib.hid hw2; clear hw2)
                have hrf := Row.new w2 48 [.int .i64 41, .int .u64 (D1 : Nat)]
                have HW3 := Lib.hid (HW2.out.below ((Below.refl _ _).alloc (Nat.le_refl _) (.cells #[.int .i64 41, .int .u64 (D1 : Nat)] 48)))
                generalize w2.alloc (.cells #[.int .i64 41, .int .u64 (D1 : Nat)] 48) = w3 at *
                obtain ⟨c25, hc25⟩ : ∃ c, c = w2.heap.size := ⟨_, rfl⟩
                rw [← hc25] at hrf ⊢
                have y0 := hrf.cell 0
                have y1 := hrf.cell 1
                have yl := hrf.lt
                simp only [List.getElem?_cons_zero, List.getElem?_cons_succ] at y0 y1
                clear hrf hc25 HW2 HWD
                go_wp2_with fail
                go_roundw
                case rel => exact ⟨k + 1, by omega, by go_num, HW3⟩
                case measure => simp [intOf]; omega
              · have HK : Hid (∃ (k' : Nat) (x : Lv), inn = ((k' : Nat) : Int) ∧ k' < n ∧ L[k']? = some x ∧ x.v ≤ va ∧ va < x.hi) := Lib.hid (by
                  rcases HIN.out with ⟨h, _⟩ | h
                  · exact absurd h hin
                  · exact h)
                obtain ⟨ki, x, rfl, hki, hx, hx1, hx2⟩ := HK.out
                clear HK HIN HSAY hin
                obtain ⟨rfl, rfl⟩ := HFO.out (by omega)
                have hxm := List.mem_of_getElem? hx
                have hrx := HWL.out.1.2 x hxm
                have haB := HA.out
                have HMA : Hid (∀ wx, WS g Z R M w gl LO D (some ⟨ga, 0, none⟩) ca (some ⟨gb, 0, none⟩) cb n L wx → Calls Try.prog 27 #[.pointer (some ⟨g, 0, none⟩), .int .u64 (root : Nat), lvV x, .int .i64 (x.no : Nat), .int .u64 (va : Nat)] wx fun e w' => e = .returned (.bool true) ∧ WS g Z R M w gl LO D (some ⟨ga, 0, none⟩) ca (some ⟨gb, 0, none⟩) cb n L w') := Lib.hid (fun wx hws => by
                  obtain ⟨s, ld, hm⟩ := hws.m
                  exact (mapped_any g root va x hm HRT.out (by unfold TOP; omega) hx1 hrx.2.2.2 (fun access hac => HWL.out.2.1 x hxm va hx1 hx2 access hac)).mono (fun e w' ⟨he, s', ld', hm', hc⟩ => ⟨he, hws.chg ⟨s', ld', hm'⟩ hc HZG.out HDG.out.2 HDG.out.1⟩))
                have HRD : Hid (∀ wx, WS g Z R M w gl LO D (some ⟨ga, 0, none⟩) ca (some ⟨gb, 0, none⟩) cb n L wx → WR gl ga gb ca cb n ki x wx) := Lib.hid (fun wx h => h.reads hx)
                obtain ⟨xv, xp, xn, xb, xw, xx, xno⟩ := x
                unfold lvV at HMA
                have HRD2 := Lib.hid (fun wx h => (⟨(HRD.out wx h).l0, (HRD.out wx h).w0, (HRD.out wx h).x0, (HRD.out wx h).x1, (HRD.out wx h).x2, (HRD.out wx h).x3, (HRD.out wx h).x4, (HRD.out wx h).x5, (HRD.out wx h).y, Lib.hid h⟩ : _ ∧ _ ∧ _ ∧ _ ∧ _ ∧ _ ∧ _ ∧ _ ∧ _ ∧ Hid (WS g Z R M w gl LO D (some ⟨ga, 0, none⟩) ca (some ⟨gb, 0, none⟩) cb n L wx)))
                simp only at HMA HRD2
                have i1 : (0 : Int) ≤ (ki : Int) := by omega
                have i2 : (ki : Int) < (n : Int) := by omega
                have i3 : ¬ (ki : Int) < 0 := by omega
                clear hx hxm hrx hx1 hx2 haB HRD
                go_upto_region 38 with fail
                obtain ⟨c1, c2, c3, c4, c5, c6, c7, c8, c9, _⟩ := HRD2.out _ HW.out
                go_region_held3 (fun w' => w'.cell? ⟨gl, 0, none⟩ = some (.slice (some ⟨ga, 0, none⟩) n ca) ∧ w'.cell? ⟨gl + 1, 0, none⟩ = some (.slice (some ⟨gb, 0, none⟩) n cb) ∧ w'.cell? ⟨ga, ki * 6, none⟩ = some (.int .u64 (xv : Nat)) ∧ w'.cell? ⟨ga, ki * 6 + 1, none⟩ = some (.int .u64 (xp : Nat)) ∧ w'.cell? ⟨ga, ki * 6 + 2, none⟩ = some (.int .i64 (xn : Nat)) ∧ w'.cell? ⟨ga, ki * 6 + 3, none⟩ = some (.bool xb) ∧ w'.cell? ⟨ga, ki * 6 + 4, none⟩ = some (.bool xw) ∧ w'.cell? ⟨ga, ki * 6 + 5, none⟩ = some (.bool xx) ∧ w'.cell? ⟨gb, ki, none⟩ = some (.int .i64 (xno : Nat)) ∧ Hid (WS g Z R M w gl LO D (some ⟨ga, 0, none⟩) ca (some ⟨gb, 0, none⟩) cb n L w'))
                  (first | exact HRD2.out _ HW.out.drew | exact HRD2.out _ HW5.out | fail)
                  (first
                    | (rw [if_pos (by kernel_rfl)]; go_simp; go_at_call 27; refine (HMA.out _ (HW.out.drew)).mono ?_; rintro e w5 ⟨rfl, hw5⟩; have HW5 := Lib.hid hw5; clear hw5; try go_wp2_with fail)
                    | fail)
                clear c1 c2 c3 c4 c5 c6 c7 c8 c9
                go_upto_region 40 with fail
                go_upto_region 41 with (go_at_call 20; refine (HTRW.out _ HW5.out).mono ?_; rintro e w2 ⟨rfl, hw2⟩; have HW2 := Lib.hid hw2; clear hw2)
                have HW3 := Lib.hid (HW2.out.below ((Below.refl _ _).alloc (Nat.le_refl _) (.cells #[.int .i64 (N1 : Nat), .int .u64 (D1 : Nat)] 48)))
                generalize w2.alloc (.cells #[.int .i64 (N1 : Nat), .int .u64 (D1 : Nat)] 48) = w3 at *
                clear HW2 HW5
                go_wp2_with fail
                go_roundw
                case rel => exact ⟨k + 1, by omega, by go_num, HW3⟩
                case measure => simp [intOf]; omega
          · have HK := Lib.hid HW.out.k
            have HDW : Hid (w.heap.size < D) := Lib.hid (by have := HDG.out; have := HGW.out; omega)
            go_wp2_with fail
            refine ⟨by simp, .inl ⟨_, _, rfl, run_takeDeferred HK.out, ?_⟩⟩
            have hcy : ChgP (fun k => k = D) wr (wr.putObj D (.deferred none)) := chgP_put wr D _ rfl
            have hby : Below w.heap.size w (wr.putObj D (.deferred none)) := HW.out.b.trans (hcy.below HW.out.b.size (fun k hk => by have hk : k = D := hk; have := HDW.out; omega))
            generalize wr.putObj D (.deferred none) = wy at *
            refine ⟨.bool true, ?_, rfl, hby⟩
            simp [results, Try.results6, go_sem]
      case stop =>
        intro c pre W _ h _ _
        exact h.elim
end Bu
end Go.Proofs.Ytfpofaniicegaaa
