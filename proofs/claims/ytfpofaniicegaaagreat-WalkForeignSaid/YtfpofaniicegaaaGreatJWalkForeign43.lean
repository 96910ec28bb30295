/- Texts of this claim, one behind the other: WpE, TpE. -/
import Derived.Test.YtfpofaniicegaaaGreatJWalkForeign39
import Derived.Test.YtfpofaniicegaaaGreatJWalkForeign27
import Derived.Test.YtfpofaniicegaaaGreatJWalkForeign28
import Derived.Test.YtfpofaniicegaaaGreatJWalkForeign42
import Derived.BigQuiet
/- The walk of the law WalkPlays; its script, opened. -/
set_option linter.unusedVariables false
set_option linter.unusedSimpArgs false
namespace Go.Proofs.YtfpofaniicegaaaGreat
open Go.Joins Go.ChangeShapes Go.WideShapes Go.RowKit Go.Deep
open S64
namespace Bu
structure OpR where
  kd : Int
  root : Nat
  virt : Nat
  value : Nat
  nn : Int
def OpR.cells (o : OpR) : List Value := [.int .i64 o.kd, .int .u64 (o.root : Nat), .int .u64 (o.virt : Nat), .int .u64 (o.value : Nat), .int .i64 o.nn]
def OpR.ok (o : OpR) : Prop := o.root ≤ 18446744073709551615 ∧ o.virt ≤ 18446744073709551615 ∧ o.value ≤ 18446744073709551615 ∧ -9223372036854775808 ≤ o.nn ∧ o.nn ≤ 9223372036854775807
/-- a script lies at A -/
def IsO (w : World) (A : Option Addr) (n : Nat) (os : List OpR) : Prop := os.length = n ∧ n ≤ 9223372036854775807 ∧ (∀ o ∈ os, o.ok) ∧ (0 < n → ∃ b off, A = some ⟨b, off, none⟩ ∧ b < w.heap.size ∧ ∀ (k : Nat) (o : OpR), os[k]? = some o → ∀ (j : Nat) (u : Value), o.cells[j]? = some u → w.cell? ⟨b, off + k * 5 + j, none⟩ = some u)
section
variable {H : Type} {enc : TypeId × Value → H} {w : World} {base : Nat} {spare : Nat → Bool} {held : Bool}
set_option maxRecDepth 100000 in
theorem open_ops {fuel : Nat} {A : Option Addr} {len cap : Nat} {y : DataW H × List MemPlace} (h : DataW.trod enc Tryz.prog w base spare held fuel 26 [.slice A len cap] = some y) : ∃ os, IsO w A len os := by
  have hC : Tryz.prog.cellsOf 41 = 5 := by kernel_rfl
  rcases open_slice_fields Tryz.underlying26 Tryz.underlying41 (by kernel_rfl) hC h with ⟨hcs, _⟩ | ⟨a, len', cap', m, D, Pl, hcs, hb, hl, hm, hmm, hx, hi⟩
  · simp at hcs
    obtain ⟨rfl, rfl, rfl⟩ := hcs
    exact ⟨[], rfl, by decide, by simp, fun h => absurd h (by decide)⟩
  · simp at hcs
    obtain ⟨rfl, rfl, rfl⟩ := hcs
    have hle : len ≤ m := by rw [hmm]; split <;> omega
    obtain ⟨rows, hol, hrows⟩ := list_of (P := fun i (r : OpR) => (∀ (j : Nat) (v : Value), r.cells[j]? = some v → w.cell? (a.add (i * 5 + j)) = some v) ∧ r.ok) len (fun i hil => by
      obtain ⟨ys, n, _, _, _, hf⟩ := hi i (by omega)
      obtain ⟨v0, y0, c0, _, t0⟩ := hf 0 _ rfl
      obtain ⟨v1, y1, c1, _, t1⟩ := hf 1 _ rfl
      obtain ⟨v2, y2, c2, _, t2⟩ := hf 2 _ rfl
      obtain ⟨v3, y3, c3, _, t3⟩ := hf 3 _ rfl
      obtain ⟨v4, y4, c4, _, t4⟩ := hf 4 _ rfl
      obtain ⟨z0, e0, _, w0⟩ := DataW.trod_int (k := .i64) Tryz.underlying3 t0
      obtain ⟨z1, e1, _, w1⟩ := DataW.trod_int (k := .u64) Tryz.underlying31 t1
      obtain ⟨z2, e2, _, w2⟩ := DataW.trod_int (k := .u64) Tryz.underlying31 t2
      obtain ⟨z3, e3, _, w3⟩ := DataW.trod_int (k := .u64) Tryz.underlying31 t3
      obtain ⟨z4, e4, _, w4⟩ := DataW.trod_int (k := .i64) Tryz.underlying3 t4
      simp at e0 e1 e2 e3 e4
      subst e0 e1 e2 e3 e4
      have b1 := bounds_u64 w1
      have b2 := bounds_u64 w2
      have b3 := bounds_u64 w3
      have b4 := bounds_i64 w4
      obtain ⟨k1, rfl⟩ : ∃ k : Nat, z1 = k := ⟨z1.toNat, by omega⟩
      obtain ⟨k2, rfl⟩ : ∃ k : Nat, z2 = k := ⟨z2.toNat, by omega⟩
      obtain ⟨k3, rfl⟩ : ∃ k : Nat, z3 = k := ⟨z3.toNat, by omega⟩
      refine ⟨⟨z0, k1, k2, k3, z4⟩, ?_, by show k1 ≤ _; omega, by show k2 ≤ _; omega, by show k3 ≤ _; omega, b4⟩
      intro j v hv
      match j, hv with
      | 0, hv => simp [OpR.cells] at hv; subst hv; exact c0
      | 1, hv => simp [OpR.cells] at hv; subst hv; exact c1
      | 2, hv => simp [OpR.cells] at hv; subst hv; exact c2
      | 3, hv => simp [OpR.cells] at hv; subst hv; exact c3
      | 4, hv => simp [OpR.cells] at hv; subst hv; exact c4
      | j + 5, hv => simp [OpR.cells] at hv)
    refine ⟨rows, hol, by unfold maxLen at hm; omega, fun r hr => ?_, fun h0 => ?_⟩
    · obtain ⟨i, hi1, rfl⟩ := List.mem_iff_getElem.1 hr
      exact (hrows i _ (List.getElem?_eq_getElem hi1)).2
    · have hx0 := List.getElem?_eq_getElem (show 0 < rows.length by omega)
      have hc0 := (hrows 0 _ hx0).1 0 _ rfl
      obtain ⟨b, off, sp⟩ := a
      have hs : sp = none := by
        have := World.cell?_spot hc0
        simpa [Addr.add] using this
      subst hs
      refine ⟨b, off, rfl, by have := World.block_lt_of_cell? w _ hc0; rwa [block_of_add] at this, fun k o ho j u hu => ?_⟩
      have hc := (hrows k o ho).1 j u hu
      unfold Addr.add at hc
      split at hc
      · rename_i h1
        rw [show off + k * 5 + j = off by omega]
        exact hc
      · rw [Nat.add_assoc]; exact hc
end
/-- while the script is played -/
def PW (Bg g gv : Nat) (rams devs : Sp.S) (w wr : World) : Prop := (∃ (Z R Zv : Nat → Prop) (M : PM) (s : Int), Two Bg Z R Zv wr g gv M (sM M s) ∧ M.rams = rams ∧ M.devs = devs) ∧ Below w.heap.size w wr
theorem wordsM_bus' (M : PM) (ws : Sp.S) : (wordsM M ws).rams = M.rams ∧ (wordsM M ws).devs = M.devs := wordsM_bus M ws
set_option maxRecDepth 100000 in
set_option maxHeartbeats 4000000 in
theorem walkplays_walk (A1 A2 Aw Ao : Option Addr) (n1 n2 nw no c1 c2 cw co : Nat) (rams devs ws : Sp.S) (os : List OpR) (w : World) (h1 : IsS w w.heap.size A1 n1 rams) (h2 : IsS w w.heap.size A2 n2 devs) (hw : IsS w w.heap.size Aw nw ws) (ht : ∀ x ∈ rams ++ devs, x.1 ≤ TOP ∧ x.2 ≤ TOP) (htw : ∀ x ∈ ws, x.1 ≤ TOP ∧ x.2 ≤ TOP) (ho : IsO w Ao no os) :
    Calls Tryz.prog 4 #[.agg #[.slice A1 n1 c1, .slice A2 n2 c2], .slice Aw nw cw, .slice Ao no co] w fun e w' => e = .returned (.bool true) ∧ Below w.heap.size w w' := by
  have H1 := Lib.hid h1; have H2 := Lib.hid h2; have HW := Lib.hid hw; have HT := Lib.hid ht; have HTW := Lib.hid htw
  have HO := Lib.hid ho
  have hno63 := ho.2.1
  clear h1 h2 hw ht htw ho
  go_enter Tryz.func4, Tryz.ntmps4
  go_upto_region 1 with fail
  have r0 := Row.new w 24 [.slice A1 n1 c1, .slice A2 n2 c2]
  have hb0 : Below w.heap.size w (w.alloc (.cells #[.slice A1 n1 c1, .slice A2 n2 c2] 24)) := (Below.refl _ _).alloc (Nat.le_refl _) _
  obtain ⟨c6, hc⟩ : ∃ c, c = w.heap.size := ⟨_, rfl⟩
  generalize w.alloc (.cells #[.slice A1 n1 c1, .slice A2 n2 c2] 24) = w1 at *
  rw [← hc] at r0 ⊢
  have HB1 := Lib.hid hb0; have HR1 := Lib.hid r0
  clear r0 hb0 hc
  go_wp2_with fail
  refine (awake_any w1).mono ?_
  rintro e w2 ⟨rfl, hb2⟩
  have HB2 := Lib.hid (HB1.out.trans (hb2.mono HB1.out.size))
  have HR2 := Lib.hid (HR1.out.below hb2 HR1.out.lt)
  clear hb2 HR1 HB1
  have p0 := HR2.out.cell 0
  have p1 := HR2.out.cell 1
  have lp := HR2.out.lt
  simp only [List.getElem?_cons_zero, List.getElem?_cons_succ] at p0 p1
  have HGR := Lib.hid (grounds_any A1 A2 Aw n1 n2 nw c1 c2 cw rams devs ws w2 ((H1.out.below HB2.out).more HB2.out.size) ((H2.out.below HB2.out).more HB2.out.size) ((HW.out.below HB2.out).more HB2.out.size) HT.out HTW.out)
  go_wp2_with fail
  refine HGR.out.mono ?_
  rintro e w4 ⟨hb4, hg⟩
  have HB4 := Lib.hid (HB2.out.trans (hb4.mono HB2.out.size))
  have HR4 := Lib.hid (HR2.out.below hb4 HR2.out.lt)
  rcases hg with ⟨hne, rfl⟩ | ⟨hne, g, gv, Z, R, Zv, rfl, htwo⟩
  · have HNE := Lib.hid hne
    clear hb4 hne HGR p0 p1 lp
    have p0 := HR4.out.cell 0
    have p1 := HR4.out.cell 1
    have lp := HR4.out.lt
    simp only [List.getElem?_cons_zero, List.getElem?_cons_succ] at p0 p1
    go_wp2_with fail
    have HRF := Lib.hid (refuses_any A1 A2 n1 n2 c1 c2 rams devs w4 ((H1.out.below HB4.out).more HB4.out.size) ((H2.out.below HB4.out).more HB4.out.size) HT.out)
    obtain ⟨E, hE⟩ : ∃ E, E = newE rams devs := ⟨_, rfl⟩
    rw [← hE] at HRF
    have g1 : ((E : Int) != 0) = true := by have h := HNE.out; rw [← hE] at h; simp; omega
    clear hE
    refine HRF.out.mono ?_
    rintro e w5 ⟨rfl, hb5⟩
    have HB5 := Lib.hid (HB4.out.trans (hb5.mono HB4.out.size))
    clear hb5 p0 p1 lp
    go_wp2_with fail
    go_ret
    exact ⟨rfl, HB5.out⟩
  · have HAL := Lib.hid (newE_al hne)
    have HP4 : Hid (PW w2.heap.size g gv rams devs w w4) := Lib.hid ⟨⟨Z, R, Zv, _, (wordsM ⟨rams, devs, fun _ => 0, 0, 0, 0, fun l => l = []⟩ ws).strays, htwo, (wordsM_bus' _ _).1, (wordsM_bus' _ _).2⟩, HB4.out⟩
    have HW2 : Hid (w.heap.size ≤ w2.heap.size) := Lib.hid HB2.out.size
    clear hb4 hne htwo HGR p0 p1 lp HR2 HR4 HB2 HB4
    go_wp2_with fail
    go_loopw [9] (fun x wr => ∃ j : Nat, j ≤ no ∧ x = .int .i64 (j : Nat) ∧ Hid (PW w2.heap.size g gv rams devs w wr)) (fun x _ => no - (intOf x).toNat)
    case atStart => exact ⟨0, by omega, rfl, HP4⟩
    case round =>
    clear HP4
    obtain ⟨j, hj, rfl, HP⟩ := hrel
    by_cases hjn : j < no
    · obtain ⟨hol, _, hok, hf⟩ := HO.out
      obtain ⟨b, off, rfl, hb, hc⟩ := hf (by omega)
      obtain ⟨o, hoj⟩ : ∃ o, os[j]? = some o := ⟨_, List.getElem?_eq_getElem (by omega)⟩
      obtain ⟨ok1, ok2, ok3, ok4⟩ := hok o (List.mem_of_getElem? hoj)
      have hcell : ∀ (i : Nat) (u : Value), o.cells[i]? = some u → wr.cell? ⟨b, off + j * 5 + i, none⟩ = some u := fun i u hu => (HP.out.2.cell (p := ⟨b, off + j * 5 + i, none⟩) hb).trans (hc j o hoj i u hu)
      have hbl : b < wr.heap.size := Nat.lt_of_lt_of_le hb HP.out.2.size
      obtain ⟨kd, root, virt, value, nn⟩ := o
      have x0 := hcell 0 _ rfl
      have x1 := hcell 1 _ rfl
      have x2 := hcell 2 _ rfl
      have x3 := hcell 3 _ rfl
      have x4 := hcell 4 _ rfl
      simp only [Nat.add_zero] at x0 x1 x2 x3 x4
      have HST : Hid (Calls Tryz.prog 9 #[.iface 50 (.pointer (some ⟨g, 0, none⟩)), .pointer (some ⟨gv, 0, none⟩), opV kd nn root virt value] wr fun e w' => e = .returned (.bool true) ∧ PW w2.heap.size g gv rams devs w w') := Lib.hid (by
        obtain ⟨⟨Z1, R1, Zv1, M1, s1, ht1, hr1, hd1⟩, hbel⟩ := HP.out
        refine (step_any ht1 kd nn root virt value ok1 ok2 ok3 (fun Z R Zv w M s h => leaves_m h kd nn root virt value ok1 ok4)).mono fun e w' hh => ?_
        obtain ⟨he, Z', R', Zv', M', s', h5, h6, h7, h8, h9, h10⟩ := hh
        refine ⟨he, ⟨Z', R', Zv', M', s', h5, h9.trans hr1, h10.trans hd1⟩, hbel.trans (h6.below hbel.size (fun k hk => ?_))⟩
        have hw2 := HW2.out
        rcases hk with hk | hk
        · have := ht1.zl k (.inl hk); omega
        · have := (ht1.v.lt k hk).1; omega)
      unfold opV at HST
      clear hol hok hf hc hoj ok1 ok2 ok3 ok4 hcell hb
      go_wp2_with fail
      refine HST.out.mono ?_
      rintro e w5 ⟨rfl, hp5⟩
      have HP5 := Lib.hid hp5
      clear hp5 HST x0 x1 x2 x3 x4 hbl
      go_wp2_with fail
      go_roundw
      case rel => exact ⟨j + 1, by omega, by go_num, HP5⟩
      case measure => simp [intOf]; omega
    · have HAK : Hid (Calls Tryz.prog 12 #[.pointer (some ⟨g, 0, none⟩), .pointer (some ⟨gv, 0, none⟩)] wr fun e w' => e = .returned (.bool true) ∧ Below w.heap.size w w') := Lib.hid (by
        obtain ⟨⟨Z1, R1, Zv1, M1, s1, ht1, hr1, hd1⟩, hbel⟩ := HP.out
        refine (alike_any ht1 (by rw [hr1, hd1]; exact HAL.out)).mono fun e w' hh => ⟨hh.1, hbel.trans (hh.2.below hbel.size (fun k hk => ?_))⟩
        have hw2 := HW2.out
        have := ht1.zl k (.inl hk)
        omega)
      go_wp2_with fail
      refine HAK.out.mono ?_
      rintro e w5 ⟨rfl, hb5⟩
      have HB5 := Lib.hid hb5
      clear hb5 HAK
      go_wp2_with fail
      go_ret
      exact ⟨rfl, HB5.out⟩
end Bu
end Go.Proofs.YtfpofaniicegaaaGreat

/- The walk of the law WalkForeign. -/
set_option linter.unusedVariables false
set_option linter.unusedSimpArgs false
namespace Go.Proofs.YtfpofaniicegaaaGreat
open Go.RowKit
open S64
namespace Bu
theorem uniq_laid {M : PM} (h : Uniq M.pgn) (a n : Nat) (f : Nat → Nat) (F : Option Nat) : Uniq (laidM M a n f 1 F).pgn := by
  cases F with
  | none => exact uniq_pgF h _ _
  | some x => exact h
theorem uniq_words (ws : Sp.S) : ∀ M : PM, Uniq M.pgn → Uniq (wordsM M ws).pgn := by
  induction ws with
  | nil => intro M h; exact h
  | cons x ws ih => intro M h; exact ih _ (uniq_laid h _ _ _ _)
/-- while the script is played -/
def PWT (g gv : Nat) (rams devs : Sp.S) (w wr : World) : Prop := (∃ (Z R Zv : Nat → Prop) (M : PM) (s : Int), TwoT w.heap.size Z R Zv wr g gv M (sM M s) ∧ M.rams = rams ∧ M.devs = devs ∧ Uniq M.pgn) ∧ Below w.heap.size w wr
/-- while the words are laid -/
def GWT (g gv : Nat) (M Mv : PM) (w wr : World) : Prop := (∃ (Z R Zv : Nat → Prop), TwoT w.heap.size Z R Zv wr g gv M Mv) ∧ Below w.heap.size w wr
theorem GWT.right {g gv : Nat} {M Mv : PM} {w wr : World} (h : GWT g gv M Mv w wr) {a v : Nat} (ha : a ≤ TOP) (hv : v ≤ TOP) :
    Calls Tryz.prog 8 #[.pointer (some ⟨gv, 0, none⟩), .int .u64 (a : Nat), .int .i64 8, .int .u64 (v : Nat)] wr fun e w' => e = .returned (faultV (offF Mv a 8)) ∧ GWT g gv M (laidM Mv a 8 (byteOf v) 1 (offF Mv a 8)) w w' := by
  obtain ⟨⟨Z, R, Zv, ht⟩, hb⟩ := h
  refine (rstore_m (n := 8) ht.v (by omega) hv trivial ha trivial (offF_is ht.v.limM (n := 8) ha)).mono fun e w' hh => ?_
  obtain ⟨he, Z', h1, h2, h3⟩ := hh
  exact ⟨he, ⟨_, _, _, ht.right h1 h2 h3⟩, hb.trans (h2.below hb.size (fun k hk => (ht.v.lt k hk).1))⟩
theorem GWT.left {g gv : Nat} {M Mv : PM} {w wr : World} (h : GWT g gv M Mv w wr) {a v : Nat} (ha : a ≤ TOP) (hv : v ≤ TOP) :
    Calls Tryz.prog 8 #[.pointer (some ⟨g, 0, none⟩), .int .u64 (a : Nat), .int .i64 8, .int .u64 (v : Nat)] wr fun e w' => e = .returned (faultV (offF M a 8)) ∧ GWT g gv (laidM M a 8 (byteOf v) 1 (offF M a 8)) Mv w w' := by
  obtain ⟨⟨Z, R, Zv, ht⟩, hb⟩ := h
  refine (rstore_m (n := 8) ht.m.1 (by omega) hv trivial ha trivial (offF_is ht.m.1.limM (n := 8) ha)).mono fun e w' hh => ?_
  obtain ⟨he, Z', h1, h2, h3⟩ := hh
  exact ⟨he, ⟨_, _, _, ht.left ⟨h1, ht.m.2.1, fun k hk => Nat.lt_of_lt_of_le (ht.m.2.2 k hk) h2.size⟩ h2 h3⟩, hb.trans (h2.below hb.size (fun k hk => ht.zl k hk))⟩
theorem GWT.drew {g gv : Nat} {M Mv : PM} {w wr : World} (h : GWT g gv M Mv w wr) : GWT g gv M Mv w wr.drew := by
  obtain ⟨⟨Z, R, Zv, ht⟩, hb⟩ := h
  exact ⟨⟨_, _, _, ht.below (Below.refl _ _).drew⟩, hb.drew⟩
/-- two of the document's machines with the same pages -/
structure EndP (B g gv : Nat) (w : World) (n : Nat) (wr : World) : Prop where
  same : ∃ (A1 A2 Ap A1' A2' Ap' : Option Addr) (n1 n2 c1 c2 cp n1' n2' c1' c2' cp' : Nat) (M Mv : PM) (pg pg' : List (Nat × Nat)), RMA wr B g M A1 A2 Ap n1 n2 c1 c2 n cp pg ∧ RMA wr B gv Mv A1' A2' Ap' n1' n2' c1' c2' n cp' pg' ∧ pg.map (·.1) = pg'.map (·.1) ∧ M.mem = Mv.mem ∧ M.loads = Mv.loads ∧ M.stores = Mv.stores
  bel : Below B w wr
  bl : B ≤ wr.heap.size
theorem EndP.drewN {B g gv n : Nat} {w wr : World} (h : EndP B g gv w n wr) (m : Nat) : EndP B g gv w n (wr.drewN m) := by
  obtain ⟨⟨A1, A2, Ap, A1', A2', Ap', n1, n2, c1, c2, cp, n1', n2', c1', c2', cp', M, Mv, pg, pg', h1, h2, h3⟩, h4, h5⟩ := h
  have hb : Below wr.heap.size wr (wr.drewN m) := below_drewN (Below.refl _ _) m
  exact ⟨⟨A1, A2, Ap, A1', A2', Ap', n1, n2, c1, c2, cp, n1', n2', c1', c2', cp', M, Mv, pg, pg', h1.below hb, h2.below hb, h3⟩, h4.trans (hb.mono h5), Nat.le_trans h5 hb.size⟩
theorem PWT.fin {g gv : Nat} {rams devs : Sp.S} {w wr : World} (h : PWT g gv rams devs w wr) : ∃ n, n ≤ 1048576 ∧ EndP w.heap.size g gv w n wr := by
  obtain ⟨⟨Z, R, Zv, M, s, ht, _, _, hu⟩, hb⟩ := h
  obtain ⟨A1, A2, Ap, n1, n2, c1, c2, np, cp, pg, hd⟩ := ht.m.1
  obtain ⟨A1', A2', Ap', n1', n2', c1', c2', np', cp', pg', hd'⟩ := ht.v
  have e : pg.map (·.1) = pg'.map (·.1) := hu _ _ hd.ord hd'.ord
  have en : np = np' := by
    have := congrArg List.length e
    rw [List.length_map, List.length_map, hd.m.plen, hd'.m.plen] at this
    exact this
  subst en
  exact ⟨np, hd.np_le, ⟨⟨A1, A2, Ap, A1', A2', Ap', n1, n2, c1, c2, cp, n1', n2', c1', c2', cp', M, sM M s, pg, pg', hd.m, hd'.m, e, rfl, rfl, rfl⟩, hb, hb.size⟩⟩
set_option maxRecDepth 100000 in
set_option maxHeartbeats 4000000 in
theorem walkforeign_walk (A1 A2 Aw Ao : Option Addr) (n1 n2 nw no c1 c2 cw co : Nat) (rams devs ws : Sp.S) (os : List OpR) (w : World) (h1 : IsS w w.heap.size A1 n1 rams) (h2 : IsS w w.heap.size A2 n2 devs) (hw : IsS w w.heap.size Aw nw ws) (ht : ∀ x ∈ rams ++ devs, x.1 ≤ TOP ∧ x.2 ≤ TOP) (htw : ∀ x ∈ ws, x.1 ≤ TOP ∧ x.2 ≤ TOP) (ho : IsO w Ao no os) :
    Calls Tryz.prog 3 #[.agg #[.slice A1 n1 c1, .slice A2 n2 c2], .slice Aw nw cw, .slice Ao no co] w fun e w' => e = .returned (.bool true) ∧ Below w.heap.size w w' := by
  have H1 := Lib.hid h1; have H2 := Lib.hid h2; have HW := Lib.hid hw; have HT := Lib.hid ht; have HTW := Lib.hid htw
  have HO := Lib.hid ho
  have hno63 := ho.2.1
  have hnw : nw ≤ 9223372036854775807 := hw.2.2
  obtain ⟨E, hE⟩ : ∃ E, E = newE rams devs := ⟨_, rfl⟩
  have HE := Lib.hid hE
  clear h1 h2 hw ht htw ho hE
  go_enter Tryz.func3, Tryz.ntmps3
  go_upto_region 1 with fail
  have r0 := Row.new w 24 [.slice A1 n1 c1, .slice A2 n2 c2]
  have hb0 : Below w.heap.size w (w.alloc (.cells #[.slice A1 n1 c1, .slice A2 n2 c2] 24)) := (Below.refl _ _).alloc (Nat.le_refl _) _
  obtain ⟨c6, hc⟩ : ∃ c, c = w.heap.size := ⟨_, rfl⟩
  generalize w.alloc (.cells #[.slice A1 n1 c1, .slice A2 n2 c2] 24) = w1 at *
  rw [← hc] at r0 ⊢
  have HB1 := Lib.hid hb0; have HR1 := Lib.hid r0
  clear r0 hb0 hc
  go_wp2_with fail
  refine (awake_any w1).mono ?_
  rintro e w2 ⟨rfl, hb2⟩
  have HB2 := Lib.hid (HB1.out.trans (hb2.mono HB1.out.size))
  have HR2 := Lib.hid (HR1.out.below hb2 HR1.out.lt)
  clear hb2 HR1 HB1
  have HRF : Hid (Calls Tryz.prog 6 #[.agg #[.slice A1 n1 c1, .slice A2 n2 c2]] w2 fun e w' => e = .returned (.int .i64 (E : Nat)) ∧ Below w2.heap.size w2 w') := Lib.hid (by rw [HE.out]; exact refuses_any A1 A2 n1 n2 c1 c2 rams devs w2 ((H1.out.below HB2.out).more HB2.out.size) ((H2.out.below HB2.out).more HB2.out.size) HT.out)
  have p0 := HR2.out.cell 0
  have p1 := HR2.out.cell 1
  have lp := HR2.out.lt
  simp only [List.getElem?_cons_zero, List.getElem?_cons_succ] at p0 p1
  go_wp2_with fail
  refine HRF.out.mono ?_
  rintro e w3 ⟨rfl, hb3⟩
  have HB3 := Lib.hid (HB2.out.trans (hb3.mono HB2.out.size))
  have HR3 := Lib.hid (HR2.out.below hb3 HR2.out.lt)
  clear hb3 HRF p0 p1 lp HR2 HB2
  by_cases h0 : E = 0
  · subst h0
    have p0 := HR3.out.cell 0
    have p1 := HR3.out.cell 1
    have lp := HR3.out.lt
    simp only [List.getElem?_cons_zero, List.getElem?_cons_succ] at p0 p1
    have HNV := Lib.hid (refnew_any A1 A2 n1 n2 c1 c2 rams devs w3 ((H1.out.below HB3.out).more HB3.out.size) ((H2.out.below HB3.out).more HB3.out.size) (okay_of HE.out.symm))
    go_wp2_with fail
    refine HNV.out.mono ?_
    rintro e w4 ⟨gv, rfl, hgv, hrm, hb4⟩
    have HB4 := Lib.hid (HB3.out.trans (hb4.mono HB3.out.size))
    have HR4 := Lib.hid (HR3.out.below hb4 HR3.out.lt)
    have HV4 : Hid (DM (fun k => k = gv) w4 w.heap.size gv ⟨rams, devs, fun _ => 0, 0, 0, 0, fun l => l = []⟩) := Lib.hid ((hrm.lower HB3.out.size (H1.out.below HB4.out) (H2.out.below HB4.out)).dz rfl)
    have HGV : Hid (w.heap.size ≤ gv ∧ gv < w4.heap.size) := Lib.hid ⟨Nat.le_trans HB3.out.size hgv, hrm.row.lt⟩
    clear hgv hrm hb4 HNV p0 p1 lp HR3 HB3
    have p0 := HR4.out.cell 0
    have p1 := HR4.out.cell 1
    have lp := HR4.out.lt
    simp only [List.getElem?_cons_zero, List.getElem?_cons_succ] at p0 p1
    have HNW := Lib.hid (refnew_any A1 A2 n1 n2 c1 c2 rams devs w4 ((H1.out.below HB4.out).more HB4.out.size) ((H2.out.below HB4.out).more HB4.out.size) (okay_of HE.out.symm))
    go_wp2_with fail
    refine HNW.out.mono ?_
    rintro e w5 ⟨g, rfl, hg, hrm, hb5⟩
    have HB5 := Lib.hid (HB4.out.trans (hb5.mono HB4.out.size))
    have HG0 : Hid (GWT g gv (wordsM ⟨rams, devs, fun _ => 0, 0, 0, 0, fun l => l = []⟩ (ws.take 0)) (wordsM ⟨rams, devs, fun _ => 0, 0, 0, 0, fun l => l = []⟩ (ws.take 0)) w w5) := Lib.hid ⟨⟨fun k => k = g, fun k => k < w.heap.size, fun k => k = gv, ⟨⟨(hrm.lower HB4.out.size (H1.out.below HB5.out) (H2.out.below HB5.out)).dz rfl, fun k hk => hk, fun k hk => Nat.lt_of_lt_of_le hk HB5.out.size⟩, HV4.out.below hb5, fun k hk => by
        have e : k = g := hk
        have := HB4.out.size
        omega, fun k hk hv => by
        have e : k = g := hk
        have e' : k = gv := hv
        have := HGV.out.2
        omega, fun k hk => hk⟩⟩, HB5.out⟩
    clear hg hrm hb5 HNW p0 p1 lp HR4 HB4 HV4 HGV HB5
    go_wp2_with fail
    go_loopw [9] (fun x wr => ∃ i : Nat, i ≤ nw ∧ x = .int .i64 (i : Nat) ∧ Hid (GWT g gv (wordsM ⟨rams, devs, fun _ => 0, 0, 0, 0, fun l => l = []⟩ (ws.take i)) (wordsM ⟨rams, devs, fun _ => 0, 0, 0, 0, fun l => l = []⟩ (ws.take i)) w wr)) (fun x _ => nw - (intOf x).toNat)
    case atStart => exact ⟨0, by omega, rfl, HG0⟩
    case round =>
    clear HG0
    obtain ⟨i, hi, rfl, HG⟩ := hrel
    by_cases hin : i < nw
    · obtain ⟨⟨a, v⟩, hx⟩ : ∃ x, ws[i]? = some x := ⟨_, List.getElem?_eq_getElem (by rw [HW.out.2.1]; exact hin)⟩
      have hav := HTW.out _ (List.mem_of_getElem? hx)
      obtain ⟨bw, ow, hf⟩ := HW.out.form
      obtain ⟨rfl, hbw, _⟩ := hf.out (by omega)
      have HCW : Hid (∀ wx (M Mv : PM), GWT g gv M Mv w wx → wx.cell? ⟨bw, ow + i * 2, none⟩ = some (.int .u64 (a : Nat)) ∧ wx.cell? ⟨bw, ow + i * 2 + 1, none⟩ = some (.int .u64 (v : Nat)) ∧ bw < wx.heap.size) := Lib.hid (fun wx M Mv h => by
        have h' := IsS.at_ (HW.out.below h.2) i _ hx
        exact ⟨h'.1, h'.2, Nat.lt_of_lt_of_le hbw h.2.size⟩)
      obtain ⟨Mi, hMi⟩ : ∃ Mi, Mi = wordsM ⟨rams, devs, fun _ => 0, 0, 0, 0, fun l => l = []⟩ (ws.take i) := ⟨_, rfl⟩
      have HWT : Hid (wordsM ⟨rams, devs, fun _ => 0, 0, 0, 0, fun l => l = []⟩ (ws.take (i + 1)) = laidM Mi a 8 (byteOf v) 1 (offF Mi a 8)) := Lib.hid (by rw [hMi]; exact wordsM_take _ ws i (a, v) hx)
      rw [← hMi] at HG
      have HAV := Lib.hid hav
      have HSA := Lib.hid (HG.out.drew.right (a := a) (v := v) hav.1 hav.2)
      rw [faultV_eq] at HSA
      obtain ⟨x0, x1, lbw⟩ := HCW.out _ _ _ HG.out
      clear hx hav hf hbw hMi
      go_upto_region 10 with fail
      go_region_law (first
        | (go_simp; go_at_call 8; refine HSA.out.mono ?_; rintro e w6 ⟨rfl, h6⟩; have H6 := Lib.hid h6; clear h6))
      all_goals
        clear HSA x0 x1 lbw
        obtain ⟨y0, y1, lby⟩ := HCW.out _ _ _ H6.out
        have HSB := Lib.hid (H6.out.drew.left (a := a) (v := v) HAV.out.1 HAV.out.2)
        rw [faultV_eq] at HSB
        go_upto_region 11 with fail
        go_region_law (first
          | (go_simp; go_at_call 8; refine HSB.out.mono ?_; rintro e w7 ⟨rfl, h7⟩; have H7 := Lib.hid h7; clear h7))
        all_goals
          have HG' : Hid (GWT g gv (wordsM ⟨rams, devs, fun _ => 0, 0, 0, 0, fun l => l = []⟩ (ws.take (i + 1))) (wordsM ⟨rams, devs, fun _ => 0, 0, 0, 0, fun l => l = []⟩ (ws.take (i + 1))) w w7) := Lib.hid (by rw [HWT.out]; exact H7.out)
          clear H7 HSB y0 y1 lby
          go_wp2_with fail
          go_roundw
          case rel => exact ⟨i + 1, by omega, by go_num, HG'⟩
          case measure => simp [intOf]; omega
    · have ei : i = nw := by omega
      subst ei
      have HP4 : Hid (PWT g gv rams devs w wr) := Lib.hid (by
        obtain ⟨⟨Z, R, Zv, ht⟩, hb⟩ := HG.out
        rw [show ws.take i = ws from List.take_of_length_le (by rw [HW.out.2.1]; omega)] at ht
        exact ⟨⟨Z, R, Zv, _, (wordsM ⟨rams, devs, fun _ => 0, 0, 0, 0, fun l => l = []⟩ ws).strays, ht, (wordsM_bus' _ _).1, (wordsM_bus' _ _).2, uniq_words _ _ (fun l l' h h' => by rw [show l = [] from h, show l' = [] from h'])⟩, hb⟩)
      clear HG
      go_wp2_with fail
      go_loopw [10] (fun x wr => ∃ j : Nat, j ≤ no ∧ x = .int .i64 (j : Nat) ∧ Hid (PWT g gv rams devs w wr)) (fun x _ => no - (intOf x).toNat)
      case atStart => exact ⟨0, by omega, rfl, HP4⟩
      case round =>
      clear HP4
      obtain ⟨j, hj, rfl, HP⟩ := hrel
      by_cases hjn : j < no
      · obtain ⟨hol, _, hok, hf⟩ := HO.out
        obtain ⟨b, off, rfl, hb, hc⟩ := hf (by omega)
        obtain ⟨o, hoj⟩ : ∃ o, os[j]? = some o := ⟨_, List.getElem?_eq_getElem (by omega)⟩
        obtain ⟨ok1, ok2, ok3, ok4⟩ := hok o (List.mem_of_getElem? hoj)
        have hcell : ∀ (i : Nat) (u : Value), o.cells[i]? = some u → wr.cell? ⟨b, off + j * 5 + i, none⟩ = some u := fun i u hu => (HP.out.2.cell (p := ⟨b, off + j * 5 + i, none⟩) hb).trans (hc j o hoj i u hu)
        have hbl : b < wr.heap.size := Nat.lt_of_lt_of_le hb HP.out.2.size
        obtain ⟨kd, root, virt, value, nn⟩ := o
        have x0 := hcell 0 _ rfl
        have x1 := hcell 1 _ rfl
        have x2 := hcell 2 _ rfl
        have x3 := hcell 3 _ rfl
        have x4 := hcell 4 _ rfl
        simp only [Nat.add_zero] at x0 x1 x2 x3 x4
        have HST : Hid (Calls Tryz.prog 9 #[.iface 39 (.agg #[.pointer (some ⟨g, 0, none⟩)]), .pointer (some ⟨gv, 0, none⟩), opV kd nn root virt value] wr fun e w' => e = .returned (.bool true) ∧ PWT g gv rams devs w w') := Lib.hid (by
          obtain ⟨⟨Z1, R1, Zv1, M1, s1, ht1, hr1, hd1, hu1⟩, hbel⟩ := HP.out
          refine (step_anyT ht1 kd nn root virt value ok1 ok2 ok3 (fun Z R Zv w M s h => leaves_mT h kd nn root virt value ok1 ok4)).mono fun e w' hh => ?_
          obtain ⟨he, Z', R', Zv', M', s', h5, h6, h7, h8, h9, h10, h11⟩ := hh
          refine ⟨he, ⟨Z', R', Zv', M', s', h5, h9.trans hr1, h10.trans hd1, h11 hu1⟩, hbel.trans (h6.below hbel.size (fun k hk => ?_))⟩
          rcases hk with hk | hk
          · exact ht1.zl k hk
          · exact (ht1.v.lt k hk).1)
        unfold opV at HST
        clear hol hok hf hc hoj ok1 ok2 ok3 ok4 hcell hb
        go_wp2_with fail
        refine HST.out.mono ?_
        rintro e w5 ⟨rfl, hp5⟩
        have HP5 := Lib.hid hp5
        clear hp5 HST x0 x1 x2 x3 x4 hbl
        go_wp2_with fail
        go_roundw
        case rel => exact ⟨j + 1, by omega, by go_num, HP5⟩
        case measure => simp [intOf]; omega
      · obtain ⟨np, hnp, hend⟩ := HP.out.fin
        have HEN := Lib.hid hend
        obtain ⟨⟨B1, B2, Bp, B1', B2', Bp', k1, k2, d1, d2, dp, k1', k2', d1', d2', dp', M, Mv, pg, pg', hm, hv, hpg, hme, hlo, hso⟩, _, _⟩ := hend
        have a2 := hm.row.cell 2
        have a3 := hm.row.cell 3
        have a4 := hm.row.cell 4
        have al := hm.row.lt
        have b2 := hv.row.cell 2
        have b3 := hv.row.cell 3
        have b4 := hv.row.cell 4
        have bl := hv.row.lt
        simp only [List.getElem?_cons_zero, List.getElem?_cons_succ] at a2 a3 a4 b2 b3 b4
        rw [← hlo] at b3
        rw [← hso] at b4
        clear hm hv hpg hme hlo hso HP
        go_upto_region 17 with fail
        go_quiet (fail)
        have HE17 := Lib.hid (HEN.out.drewN nq)
        clear HEN a2 a3 a4 al b2 b3 b4 bl
        go_wp2_with fail
        go_loopw [11] (fun x wr => ∃ j : Nat, j ≤ np ∧ x = .int .i64 (j : Nat) ∧ Hid (EndP w.heap.size g gv w np wr)) (fun x _ => np - (intOf x).toNat)
        case atStart => exact ⟨0, by omega, rfl, HE17⟩
        case round =>
        clear HE17
        obtain ⟨t, ht, rfl, HEN⟩ := hrel
        obtain ⟨⟨B1, B2, Bp, B1', B2', Bp', k1, k2, d1, d2, dp, k1', k2', d1', d2', dp', M, Mv, pg, pg', hm, hv, hpg, hme, _, _⟩, _, _⟩ := HEN.out
        have a2 := hm.row.cell 2
        have al := hm.row.lt
        have b2 := hv.row.cell 2
        have bl := hv.row.lt
        simp only [List.getElem?_cons_zero, List.getElem?_cons_succ] at a2 b2
        by_cases htn : t < np
        · obtain ⟨bp, op, hf⟩ := hm.page
          obtain ⟨rfl, hbl, hc⟩ := hf.out (by omega)
          obtain ⟨bq, oq, hf'⟩ := hv.page
          obtain ⟨rfl, hbl', hc'⟩ := hf'.out (by omega)
          obtain ⟨⟨k, b⟩, hx⟩ : ∃ x, pg[t]? = some x := ⟨_, List.getElem?_eq_getElem (by rw [hm.plen]; exact htn)⟩
          obtain ⟨⟨k', b'⟩, hx'⟩ : ∃ x, pg'[t]? = some x := ⟨_, List.getElem?_eq_getElem (by rw [hv.plen]; exact htn)⟩
          have ek : k = k' := by
            have h := congrArg (fun l => l[t]?) hpg
            simp only [List.getElem?_map, hx, hx', Option.map_some, Option.some.injEq] at h
            exact h
          subst ek
          obtain ⟨x0, x1⟩ := hc t _ hx
          obtain ⟨y0, y1⟩ := hc' t _ hx'
          simp only at x0 x1 y0 y1
          have HSM : Hid (∀ m, Calls Tryz.prog 10 #[.slice (some ⟨b', 0, none⟩) 4096 4096, .slice (some ⟨b, 0, none⟩) 4096 4096] (wr.drewN m) fun e w' => e = .returned (.bool true) ∧ ∃ m', w' = (wr.drewN m).drewN m') := Lib.hid (fun m => by
            have hb : Below wr.heap.size wr (wr.drewN m) := below_drewN (Below.refl _ _) m
            have r1 := ((hm.bytes _ (List.mem_of_getElem? hx)).2).below hb ((hm.bytes _ (List.mem_of_getElem? hx)).2).lt
            have r2 := ((hv.bytes _ (List.mem_of_getElem? hx')).2).below hb ((hv.bytes _ (List.mem_of_getElem? hx')).2).lt
            rw [← hme] at r2
            have hi : ∀ {b0 : Nat}, Row (wr.drewN m) b0 5 (leafRow M.mem k) → IsB (wr.drewN m) (wr.drewN m).heap.size (some ⟨b0, 0, none⟩) 4096 (memB M.mem (k * 4096) 4096) := fun hr => isB_row (by rw [← leafRow_memB]; exact hr) (fun x hx => by
              obtain ⟨i, _, rfl⟩ := List.mem_map.1 hx
              exact hm.byte _) (memB_len _ _ _) (by decide)
            exact same_yes _ _ 4096 4096 4096 _ _ (hi r2) (hi r1))
          clear hm hv hf hf' hc hc' hx hx' hpg hme
          have i1 : (0 : Int) ≤ (t : Int) := by omega
          have i2 : (t : Int) < (np : Int) := by omega
          go_upto_region 22 with fail
          go_quiet (first
            | (go_at_call 10; refine Calls.quiet_of (HSM.out _)))
          have HE22 := Lib.hid (HEN.out.drewN nq)
          clear HEN x0 x1 y0 y1 a2 b2 al bl HSM hbl hbl'
          go_wp2_with fail
          go_roundw
          case rel => exact ⟨t + 1, by omega, by go_num, HE22⟩
          case measure => simp [intOf]; omega
        · have et : t = np := by omega
          clear hm hv hpg hme
          go_wp2_with fail
          go_ret
          exact ⟨rfl, HEN.out.bel⟩
  · have f0 : ((E : Int) != 0) = true := by simp; omega
    clear h0
    go_wp2_with fail
    go_ret
    exact ⟨rfl, HB3.out⟩
end Bu
end Go.Proofs.YtfpofaniicegaaaGreat
