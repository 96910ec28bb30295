/- Texts of this claim, one behind the other: BuC, BuP, More. -/
import Derived.Test.YtfpofaniicegaaaGreatJWalkForeign8
import Derived.Test.YtfpofaniicegaaaGreatJWalkForeign1
import Derived.Test.YtfpofaniicegaaaGreatRows
import Derived.WalkKit
import Derived.WalkSpells
import Derived.WalkLawsBesides
import Derived.Lib.Hide
/- The walk of a machine's access. -/
set_option linter.unusedVariables false
set_option linter.unusedSimpArgs false
namespace Go.Proofs.YtfpofaniicegaaaGreat
open Go.RowKit
open S64
namespace Bu
/-- the first of n bytes that is off the bus -/
def offAt (sp : Sp.S) (at_ n : Nat) : Option Nat := if (Sp.next sp at_).2 = true ∧ 0 < n ∧ (Sp.next sp at_).1 < at_ + n then some (Sp.next sp at_).1 else none
def faultV (f : Option Nat) : Value := match f with
  | none => .agg #[.int .i64 0, .int .u64 0]
  | some p => .agg #[.int .i64 30, .int .u64 (p : Nat)]
def stray (M : PM) (f : Option Nat) : PM := match f with
  | none => M
  | some _ => { M with strays := cInc M.strays }
theorem offAt_none {Z R : Nat → Prop} {w : World} {g : Nat} {M : PM} {A1 A2 Ao : Option Addr} {c1 c2 no co b : Nat} {pm : Nat → Option Nat} {sp : Sp.S} (h : MachAt Z R w g M A1 A2 Ao c1 c2 no co b pm sp) {at_ n : Nat} (ha : at_ ≤ TOP) (hf : offAt sp at_ n = none) : n = 0 ∨ at_ + n ≤ 4294967296 := by
  rcases Nat.eq_zero_or_pos n with h0 | h0
  · exact .inl h0
  refine .inr ?_
  rcases Nat.lt_or_ge 4294967296 (at_ + n) with hc | hc
  · exfalso
    -- a byte at or behind 2^32 is off the bus
    obtain ⟨p, hp1, hp2, hp3, hp4⟩ : ∃ p, at_ ≤ p ∧ p < at_ + n ∧ p ≤ TOP ∧ 4294967296 ≤ p := by
      rcases Nat.lt_or_ge at_ 4294967296 with h1 | h1
      · exact ⟨4294967296, by omega, by omega, by unfold TOP; omega, Nat.le_refl _⟩
      · exact ⟨at_, Nat.le_refl _, by omega, ha, h1⟩
    have hon : Sp.has sp p = true := by
      rw [h.has p hp3]
      cases ho : on (M.rams ++ M.devs) p with
      | false => rfl
      | true => have := h.lim p ho; omega
    unfold offAt at hf
    cases hx : Sp.next sp at_ with
    | mk m o =>
      rw [hx] at hf
      cases o with
      | false =>
        have := (Sp.next_none h.nrm.1 (show (Sp.next sp at_).2 = false by rw [hx])).2 p hp1
        rw [this] at hon; cases hon
      | true =>
        obtain ⟨g1, g2, g3⟩ := Sp.next_some h.nrm.1 hx
        have hm : m ≤ p := by
          rcases Nat.lt_or_ge p m with h4 | h4
          · have := g3 p hp1 h4; rw [this] at hon; cases hon
          · exact h4
        rw [if_pos ⟨rfl, h0, by simp only; omega⟩] at hf
        cases hf
  · exact hc
theorem has_top {s : Sp.S} (h : Sp.Nrm TOP s) {p : Nat} (hp : Sp.has s p = true) : p ≤ TOP := by
  obtain ⟨x, hx, h1, h2⟩ := Sp.has_iff.1 hp
  have := h.ok x hx
  omega
/-- a counter of the machine turned -/
theorem MachAt.count {Z R : Nat → Prop} {w : World} {g : Nat} {M : PM} {A1 A2 Ao : Option Addr} {c1 c2 no co b : Nat} {pm : Nat → Option Nat} {sp : Sp.S} (h : MachAt Z R w g M A1 A2 Ao c1 c2 no co b pm sp) (i : Nat) (v : Value) (M' : PM) (hr : M'.rams = M.rams) (hd : M'.devs = M.devs) (hm : M'.mem = M.mem)
    (hv : [.int .i64 M.loads, .int .i64 M.stores, .int .i64 M.strays, .slice A1 M.rams.length c1, .slice A2 M.devs.length c2, .slice Ao no co, .map (some b)].set i v = [.int .i64 M'.loads, .int .i64 M'.stores, .int .i64 M'.strays, .slice A1 M.rams.length c1, .slice A2 M.devs.length c2, .slice Ao no co, .map (some b)]) :
    MachAt Z R (w.setCell ⟨g, i, none⟩ v) g M' A1 A2 Ao c1 c2 no co b pm sp := by
  have hrow := h.row.set_ i v
  rw [hv] at hrow
  have hc : ChgP (fun k => k = g) w (w.setCell ⟨g, i, none⟩ v) := (ChgP.refl (fun k => k = g) w).set_ (p := ⟨g, i, none⟩) (.inl rfl) v
  have hR : ∀ k, R k → ¬ k = g := fun k hk e => h.dis g h.zg (e ▸ hk)
  have hl1 := h.l1.chg hc hR
  have hl2 := h.l2.chg hc hR
  have hlo := h.lo.chg hc hR
  have hbg : b ≠ g := by
    rintro rfl
    obtain ⟨⟨D, n, ⟨es, clock, hb, _⟩, _⟩, _⟩ := h.map
    have := h.row.symm.trans hb
    cases this
  refine ⟨by rw [hr, hd]; exact hrow, h.zg, h.zb, by rw [hr]; exact hl1, by rw [hd]; exact hl2, hlo, h.nrm, by rw [hr, hd]; exact h.has, by rw [hr, hd]; exact h.lim, h.map.same (hc.block b h.map.lt hbg), fun k p hp => ?_, h.inj, by rw [hm]; exact h.zero, by rw [hm]; exact h.byte, h.dis⟩
  obtain ⟨h1, h2, h3⟩ := h.leaf k p hp
  rw [hm]
  exact ⟨hc.row h1 (Row.ne_t h1 h.row (by decide)), h2, h3⟩
/-- what it owns is there now -/
theorem MachAt.tight {Z R : Nat → Prop} {w : World} {g : Nat} {M : PM} {A1 A2 Ao : Option Addr} {c1 c2 no co b : Nat} {pm : Nat → Option Nat} {sp : Sp.S} (h : MachAt Z R w g M A1 A2 Ao c1 c2 no co b pm sp) :
    MachAt (fun k => Z k ∧ k < w.heap.size) (fun k => R k ∧ k < w.heap.size) w g M A1 A2 Ao c1 c2 no co b pm sp :=
  ⟨h.row, ⟨h.zg, h.row.lt⟩, ⟨h.zb, h.map.lt⟩, ⟨h.l1.1, h.l1.2.1, h.l1.2.2.1, fun ad e h0 => ⟨h.l1.2.2.2 ad e h0, IsS.lt h.l1.1 h0 ad e⟩⟩, ⟨h.l2.1, h.l2.2.1, h.l2.2.2.1, fun ad e h0 => ⟨h.l2.2.2.2 ad e h0, IsS.lt h.l2.1 h0 ad e⟩⟩, ⟨h.lo.1, h.lo.2.1, h.lo.2.2.1, fun ad e h0 => ⟨h.lo.2.2.2 ad e h0, IsS.lt h.lo.1 h0 ad e⟩⟩,
    h.nrm, h.has, h.lim, h.map, fun k p hp => by
      obtain ⟨h1, h2, h3⟩ := h.leaf k p hp
      exact ⟨h1, ⟨h2, h1.lt⟩, h3⟩, h.inj, h.zero, h.byte, fun k hk hr => h.dis k hk.1 hr.1⟩
/-- it stands while new blocks are made, and those that were new are written -/
theorem MachAt.past {Z R : Nat → Prop} {w' w'' : World} {g : Nat} {M : PM} {A1 A2 Ao : Option Addr} {c1 c2 no co b : Nat} {pm : Nat → Option Nat} {sp : Sp.S} {N : Nat} (h : MachAt (fun k => Z k ∧ k < N) (fun k => R k ∧ k < N) w' g M A1 A2 Ao c1 c2 no co b pm sp) (hc : ChgP (fun k => N ≤ k) w' w'') (hd : ∀ k, Z k → ¬ R k) :
    MachAt Z R w'' g M A1 A2 Ao c1 c2 no co b pm sp :=
  (h.chg hc (fun k hk hy => by rcases hk with hk | hk <;> have := hk.2 <;> omega)).mono (fun k hk => hk.1) (fun k hk => hk.1) hd
set_option maxRecDepth 100000 in
set_option maxHeartbeats 1000000 in
theorem access_any (Z R : Nat → Prop) (M : PM) (A1 A2 Ao : Option Addr) (x1 x2 no co b : Nat) (pm : Nat → Option Nat) (sp : Sp.S) (at_ n g : Nat) (w : World)
    (hm : MachAt Z R w g M A1 A2 Ao x1 x2 no co b pm sp) (hn : n ≤ 9223372036854775807) (ha : at_ ≤ TOP) (hs : True) :
    Calls Tryz.prog 55 #[.pointer (some ⟨g, 0, none⟩), .int .u64 (at_ : Nat), .int .i64 (n : Nat)] w
      fun e w' => e = .returned (faultV (offAt sp at_ n)) ∧ MachAt Z R w' g (stray M (offAt sp at_ n)) A1 A2 Ao x1 x2 no co b pm sp ∧ ChgP Z w w' := by
  have HNX : Hid (∀ wx, Below w.heap.size w wx → Calls Tryz.prog 75 #[.agg #[.slice Ao no co], .int .u64 (at_ : Nat)] wx fun e w' => e = .returned (.tuple #[.int .u64 ((Sp.next sp at_).1 : Nat), .bool (Sp.next sp at_).2]) ∧ Below wx.heap.size wx w') := Lib.hid fun wx hb => next_any Ao no co at_ sp wx ((hm.lo.isSet hm.nrm).below hb) ha
  have HM := Lib.hid hm
  have HA := Lib.hid ha
  have HOF : Hid (offAt sp at_ n = if (Sp.next sp at_).2 = true ∧ 0 < n ∧ (Sp.next sp at_).1 < at_ + n then some (Sp.next sp at_).1 else none) := Lib.hid rfl
  have HNS : Hid ((Sp.next sp at_).2 = true → at_ ≤ (Sp.next sp at_).1 ∧ (Sp.next sp at_).1 ≤ TOP) := Lib.hid (by
    intro h
    cases hx : Sp.next sp at_ with
    | mk m o =>
      rw [hx] at h
      simp only at h
      subst h
      obtain ⟨h1, h2, h3⟩ := Sp.next_some hm.nrm.1 hx
      exact ⟨h1, has_top hm.nrm.1 h2⟩)
  obtain ⟨F, hF⟩ : ∃ F, F = offAt sp at_ n := ⟨_, rfl⟩
  rw [← hF] at HOF ⊢
  clear hF
  obtain ⟨P, hP⟩ : ∃ P, P = Sp.next sp at_ := ⟨_, rfl⟩
  rw [← hP] at HNX HOF HNS
  clear hP
  obtain ⟨m, ok⟩ := P
  simp only at HNX HOF HNS
  clear hm ha
  go_enter Tryz.func55, Tryz.ntmps55
  go_upto_region 1 with fail
  have r0 : Row (w.alloc (.cells #[.int .i64 0, .int .u64 0] 57)) w.heap.size 57 [.int .i64 0, .int .u64 0] := Row.new w _ [.int .i64 0, .int .u64 0]
  have hb0 : Below w.heap.size w (w.alloc (.cells #[.int .i64 0, .int .u64 0] 57)) := (Below.refl _ _).alloc (Nat.le_refl _) _
  generalize w.alloc (.cells #[.int .i64 0, .int .u64 0] 57) = w1 at *
  have HM1 : Hid (MachAt Z R w1 g M A1 A2 Ao x1 x2 no co b pm sp) := Lib.hid (HM.out.below hb0)
  have p5 := HM1.out.row.cell 5
  have lg := HM1.out.row.lt
  simp only [List.getElem?_cons_zero, List.getElem?_cons_succ] at p5
  have HB0 := Lib.hid hb0; have HR0 := Lib.hid r0
  clear hb0 r0
  go_upto_region 2 with (go_at_call 75; refine (HNX.out w1 HB0.out).mono ?_; rintro e w2 ⟨rfl, hb2⟩; have HB2 := Lib.hid hb2; clear hb2)
  have hr2 := HR0.out.below HB2.out HR0.out.lt
  have f0 := hr2.cell 0
  have f1 := hr2.cell 1
  have fz0 := hr2.frozen 0
  have fz1 := hr2.frozen 1
  have lf := hr2.lt
  simp only [List.getElem?_cons_zero, List.getElem?_cons_succ] at f0 f1
  have HR2 := Lib.hid hr2
  have HM2 : Hid (MachAt Z R w2 g M A1 A2 Ao x1 x2 no co b pm sp) := Lib.hid (HM1.out.below HB2.out)
  have HBW : Hid (Below w.heap.size w w2) := Lib.hid (HB0.out.trans (HB2.out.mono HB0.out.size))
  have HT2 : Hid (MachAt (fun k => Z k ∧ k < w.heap.size) (fun k => R k ∧ k < w.heap.size) w2 g M A1 A2 Ao x1 x2 no co b pm sp) := Lib.hid (HM.out.tight.below HBW.out)
  have lg2 := HM2.out.row.lt
  have g2 := HM2.out.row.cell 2
  have gz2 := HM2.out.row.frozen 2
  simp only [List.getElem?_cons_zero, List.getElem?_cons_succ] at g2
  clear hr2 p5 lg HNX
  cases ok with
  | false =>
    have HX : Hid (F = none) := Lib.hid (by rw [HOF.out]; rfl)
    go_wp2_with fail
    have hbz : Below w.heap.size w ((w2.setCell ⟨w.heap.size, 0, none⟩ (.int .i64 0)).setCell ⟨w.heap.size, 1, none⟩ (.int .u64 0)) := (HBW.out.setCell (p := ⟨w.heap.size, 0, none⟩) (Nat.le_refl _) _).setCell (p := ⟨w.heap.size, 1, none⟩) (Nat.le_refl _) _
    have hrz := (HR2.out.set_ 0 (.int .i64 0)).set_ 1 (.int .u64 0)
    have z0 := hrz.cell 0
    have z1 := hrz.cell 1
    simp only [List.set_cons_zero, List.set_cons_succ, List.getElem?_cons_zero, List.getElem?_cons_succ] at z0 z1
    refine bodyPost_ret (v := .agg #[.int .i64 0, .int .u64 0]) (by simp [results, Tryz.results55, go_sem, z0, z1]) rfl ⟨by rw [HX.out]; rfl, by rw [HX.out]; exact HM.out.below hbz, ChgP.of_below hbz⟩
  | true =>
    by_cases hn0 : 0 < n
    · have h1 := (HNS.out rfl).1
      have h2 : m ≤ 18446744073709551615 := (HNS.out rfl).2
      by_cases hlt : m - at_ < n
      · have HX : Hid (F = some m) := Lib.hid (by rw [HOF.out, if_pos ⟨rfl, hn0, by omega⟩])
        have h3 : (m : Int) - (at_ : Int) < (n : Int) := by omega
        obtain ⟨yy, hyy⟩ : ∃ yy, yy = cInc M.strays := ⟨_, rfl⟩
        have hw1 : IntKind.i64.wrap (M.strays + 1) = yy := by rw [hyy]; rfl
        have hw2 : wrap64 (M.strays + 1) = yy := by rw [hyy]; unfold cInc wrap64; exact (IntKind.wrap_i64 _).symm
        have HYY := Lib.hid hyy
        clear hyy
        go_upto_region 4 with fail
        have HM3 : Hid (MachAt (fun k => Z k ∧ k < w.heap.size) (fun k => R k ∧ k < w.heap.size) (w2.setCell ⟨g, 2, none⟩ (.int .i64 yy)) g { M with strays := cInc M.strays } A1 A2 Ao x1 x2 no co b pm sp) := Lib.hid (HT2.out.count 2 _ _ rfl rfl rfl (by rw [HYY.out]; simp))
        have hne : w.heap.size ≠ g := Row.ne_t HR2.out HM2.out.row (by decide)
        have HR3 : Hid (Row (w2.setCell ⟨g, 2, none⟩ (.int .i64 yy)) w.heap.size 57 [.int .i64 0, .int .u64 0]) := Lib.hid (HR2.out.far (p := ⟨g, 2, none⟩) hne _)
        have HC3 : Hid (ChgP Z w (w2.setCell ⟨g, 2, none⟩ (.int .i64 yy))) := Lib.hid ((ChgP.of_below HBW.out).set_ (p := ⟨g, 2, none⟩) (.inl HM.out.zg) _)
        clear f0 f1 fz0 fz1 lf g2 gz2 lg2 hne hw1 hw2
        generalize w2.setCell ⟨g, 2, none⟩ (.int .i64 yy) = w3 at *
        have f0 := HR3.out.cell 0
        have f1 := HR3.out.cell 1
        have fz0 := HR3.out.frozen 0
        have fz1 := HR3.out.frozen 1
        have lf := HR3.out.lt
        simp only [List.getElem?_cons_zero, List.getElem?_cons_succ] at f0 f1
        go_wp2_with fail
        have hcz : ChgP Z w ((w3.setCell ⟨w.heap.size, 0, none⟩ (.int .i64 30)).setCell ⟨w.heap.size, 1, none⟩ (.int .u64 (m : Nat))) := (HC3.out.set_ (p := ⟨w.heap.size, 0, none⟩) (.inr (Nat.le_refl _)) _).set_ (p := ⟨w.heap.size, 1, none⟩) (.inr (Nat.le_refl _)) _
        have hq : ChgP (fun k => w.heap.size ≤ k) w3 ((w3.setCell ⟨w.heap.size, 0, none⟩ (.int .i64 30)).setCell ⟨w.heap.size, 1, none⟩ (.int .u64 (m : Nat))) := ((ChgP.refl (fun k => w.heap.size ≤ k) w3).set_ (p := ⟨w.heap.size, 0, none⟩) (.inl (Nat.le_refl _)) _).set_ (p := ⟨w.heap.size, 1, none⟩) (.inl (Nat.le_refl _)) _
        have hrz := (HR3.out.set_ 0 (.int .i64 30)).set_ 1 (.int .u64 (m : Nat))
        have z0 := hrz.cell 0
        have z1 := hrz.cell 1
        simp only [List.set_cons_zero, List.set_cons_succ, List.getElem?_cons_zero, List.getElem?_cons_succ] at z0 z1
        refine bodyPost_ret (v := .agg #[.int .i64 30, .int .u64 (m : Nat)]) (by simp [results, Tryz.results55, go_sem, z0, z1]) rfl ⟨by rw [HX.out]; rfl, by rw [HX.out]; exact HM3.out.past hq HM.out.dis, hcz⟩
      · have HX : Hid (F = none) := Lib.hid (by rw [HOF.out, if_neg (by simp only [true_and]; omega)])
        have h3 : (n : Int) ≤ (m : Int) - (at_ : Int) := by omega
        go_wp2_with fail
        have hbz : Below w.heap.size w ((w2.setCell ⟨w.heap.size, 0, none⟩ (.int .i64 0)).setCell ⟨w.heap.size, 1, none⟩ (.int .u64 0)) := (HBW.out.setCell (p := ⟨w.heap.size, 0, none⟩) (Nat.le_refl _) _).setCell (p := ⟨w.heap.size, 1, none⟩) (Nat.le_refl _) _
        have hrz := (HR2.out.set_ 0 (.int .i64 0)).set_ 1 (.int .u64 0)
        have z0 := hrz.cell 0
        have z1 := hrz.cell 1
        simp only [List.set_cons_zero, List.set_cons_succ, List.getElem?_cons_zero, List.getElem?_cons_succ] at z0 z1
        refine bodyPost_ret (v := .agg #[.int .i64 0, .int .u64 0]) (by simp [results, Tryz.results55, go_sem, z0, z1]) rfl ⟨by rw [HX.out]; rfl, by rw [HX.out]; exact HM.out.below hbz, ChgP.of_below hbz⟩
    · have HX : Hid (F = none) := Lib.hid (by rw [HOF.out, if_neg (by simp only [true_and]; omega)])
      go_wp2_with fail
      have hbz : Below w.heap.size w ((w2.setCell ⟨w.heap.size, 0, none⟩ (.int .i64 0)).setCell ⟨w.heap.size, 1, none⟩ (.int .u64 0)) := (HBW.out.setCell (p := ⟨w.heap.size, 0, none⟩) (Nat.le_refl _) _).setCell (p := ⟨w.heap.size, 1, none⟩) (Nat.le_refl _) _
      have hrz := (HR2.out.set_ 0 (.int .i64 0)).set_ 1 (.int .u64 0)
      have z0 := hrz.cell 0
      have z1 := hrz.cell 1
      simp only [List.set_cons_zero, List.set_cons_succ, List.getElem?_cons_zero, List.getElem?_cons_succ] at z0 z1
      refine bodyPost_ret (v := .agg #[.int .i64 0, .int .u64 0]) (by simp [results, Tryz.results55, go_sem, z0, z1]) rfl ⟨by rw [HX.out]; rfl, by rw [HX.out]; exact HM.out.below hbz, ChgP.of_below hbz⟩
end Bu
end Go.Proofs.YtfpofaniicegaaaGreat

/- The walks of wide, Read, Peek, Load. -/
set_option linter.unusedVariables false
set_option linter.unusedSimpArgs false
namespace Go.Proofs.YtfpofaniicegaaaGreat
open Go.RowKit
open S64
namespace Bu
def wideB (z : Int) : Bool := z == 1 || z == 2 || z == 4 || z == 8
set_option maxRecDepth 100000 in
theorem wide_any (z : Int) (w : World) : Calls Tryz.prog 54 #[.int .i64 z] w fun e w' => e = .returned (.bool (wideB z)) ∧ w' = w := by
  have H1 := Lib.hid (show wideB z = (z == 1 || z == 2 || z == 4 || z == 8) from rfl)
  obtain ⟨b, hb⟩ : ∃ b, b = wideB z := ⟨_, rfl⟩
  rw [← hb] at H1 ⊢
  clear hb
  cases h1 : (z == 1) with
  | true =>
    go_enter Tryz.func54, Tryz.ntmps54
    go_wp2_with fail
    go_ret
    exact ⟨by rw [H1.out, h1]; rfl, rfl⟩
  | false =>
  cases h2 : (z == 2) with
  | true =>
    go_enter Tryz.func54, Tryz.ntmps54
    go_wp2_with fail
    go_ret
    exact ⟨by rw [H1.out, h1, h2]; rfl, rfl⟩
  | false =>
  cases h3 : (z == 4) with
  | true =>
    go_enter Tryz.func54, Tryz.ntmps54
    go_wp2_with fail
    go_ret
    exact ⟨by rw [H1.out, h1, h2, h3]; rfl, rfl⟩
  | false =>
    go_enter Tryz.func54, Tryz.ntmps54
    go_wp2_with fail
    go_ret
    exact ⟨by rw [H1.out, h1, h2, h3]; rfl, rfl⟩
set_option maxRecDepth 100000 in
set_option maxHeartbeats 1000000 in
theorem read_neg (g at_ : Nat) (z : Int) (w : World) (hz : z < 0) :
    Calls Tryz.prog 30 #[.pointer (some ⟨g, 0, none⟩), .int .u64 (at_ : Nat), .int .i64 z] w fun e w' => e = .returned (.tuple #[.slice none 0 0, .agg #[.int .i64 1, .int .u64 (at_ : Nat)]]) ∧ Below w.heap.size w w' := by
  go_enter Tryz.func30, Tryz.ntmps30
  go_upto_region 1 with fail
  have r0 : Row (w.alloc (.cells #[.int .i64 0, .int .u64 0] 57)) w.heap.size 57 [.int .i64 0, .int .u64 0] := Row.new w _ [.int .i64 0, .int .u64 0]
  have hb0 : Below w.heap.size w (w.alloc (.cells #[.int .i64 0, .int .u64 0] 57)) := (Below.refl _ _).alloc (Nat.le_refl _) _
  generalize w.alloc (.cells #[.int .i64 0, .int .u64 0] 57) = w1 at *
  have f0 := r0.cell 0
  have f1 := r0.cell 1
  have fz0 := r0.frozen 0
  have fz1 := r0.frozen 1
  have lf := r0.lt
  simp only [List.getElem?_cons_zero, List.getElem?_cons_succ] at f0 f1
  have HB := Lib.hid hb0; have HR := Lib.hid r0
  clear hb0 r0
  go_wp2_with fail
  have hrz := (HR.out.set_ 0 (.int .i64 1)).set_ 1 (.int .u64 (at_ : Nat))
  have z0 := hrz.cell 0
  have z1 := hrz.cell 1
  simp only [List.set_cons_zero, List.set_cons_succ, List.getElem?_cons_zero, List.getElem?_cons_succ] at z0 z1
  refine bodyPost_ret (v := .tuple #[.slice none 0 0, .agg #[.int .i64 1, .int .u64 (at_ : Nat)]]) (by simp [results, Tryz.results30, go_sem, z0, z1]) rfl ⟨rfl, (HB.out.setCell (p := ⟨w.heap.size, 0, none⟩) (Nat.le_refl _) _).setCell (p := ⟨w.heap.size, 1, none⟩) (Nat.le_refl _) _⟩
/-- what Read tells -/
def ReadSaid (Z R : Nat → Prop) (w : World) (g : Nat) (M : PM) (A1 A2 Ao : Option Addr) (x1 x2 no co b : Nat) (pm : Nat → Option Nat) (sp : Sp.S) (at_ n : Nat) (e : Ending) (w' : World) : Prop :=
  MachAt Z R w' g (stray M (offAt sp at_ n)) A1 A2 Ao x1 x2 no co b pm sp ∧ ChgP Z w w' ∧
  ((∃ p, offAt sp at_ n = some p ∧ e = .returned (.tuple #[.slice none 0 0, faultV (some p)])) ∨
   (offAt sp at_ n = none ∧ ∃ bb, e = .returned (.tuple #[.slice (some ⟨bb, 0, none⟩) n n, faultV none]) ∧ w.heap.size ≤ bb ∧ Row w' bb 5 (outB M.mem at_ n n)))
set_option maxRecDepth 100000 in
set_option maxHeartbeats 1000000 in
theorem read_any (Z R : Nat → Prop) (M : PM) (A1 A2 Ao : Option Addr) (x1 x2 no co b : Nat) (pm : Nat → Option Nat) (sp : Sp.S) (at_ n g : Nat) (w : World)
    (hm : MachAt Z R w g M A1 A2 Ao x1 x2 no co b pm sp) (hn : n ≤ 9223372036854775807) (ha : at_ ≤ TOP) (hs : True) :
    Calls Tryz.prog 30 #[.pointer (some ⟨g, 0, none⟩), .int .u64 (at_ : Nat), .int .i64 (n : Nat)] w (ReadSaid Z R w g M A1 A2 Ao x1 x2 no co b pm sp at_ n) := by
  have HM := Lib.hid hm
  have HA := Lib.hid ha
  have HS := Lib.hid hs
  have HN := Lib.hid hn
  clear hm ha hs
  unfold TOP at HA
  go_enter Tryz.func30, Tryz.ntmps30
  go_upto_region 1 with fail
  have r0 : Row (w.alloc (.cells #[.int .i64 0, .int .u64 0] 57)) w.heap.size 57 [.int .i64 0, .int .u64 0] := Row.new w _ [.int .i64 0, .int .u64 0]
  have hb0 : Below w.heap.size w (w.alloc (.cells #[.int .i64 0, .int .u64 0] 57)) := (Below.refl _ _).alloc (Nat.le_refl _) _
  generalize w.alloc (.cells #[.int .i64 0, .int .u64 0] 57) = w1 at *
  have HM1 : Hid (MachAt (fun k => Z k ∧ k < w.heap.size) (fun k => R k ∧ k < w.heap.size) w1 g M A1 A2 Ao x1 x2 no co b pm sp) := Lib.hid (HM.out.tight.below hb0)
  have HB0 := Lib.hid hb0; have HR0 := Lib.hid r0
  clear hb0 r0
  go_upto_region 3 with fail
  obtain ⟨F, hF⟩ : ∃ F, F = offAt sp at_ n := ⟨_, rfl⟩
  have HF := Lib.hid hF
  clear hF
  cases F with
  | some p =>
    go_upto_region 4 with (go_at_call 55; refine (access_any _ _ M A1 A2 Ao x1 x2 no co b pm sp at_ n g w1 HM1.out HN.out HA.out HS.out).mono ?_; rw [← HF.out]; rintro e w2 ⟨rfl, hm2, hc2⟩; have HM2 := Lib.hid hm2; have HC2 := Lib.hid hc2; clear hm2 hc2; unfold faultV)
    have hra : Row (w2.alloc (.cells #[.int .i64 30, .int .u64 (p : Nat)] 57)) w.heap.size 57 [.int .i64 0, .int .u64 0] := (HC2.out.row HR0.out (fun h => Nat.lt_irrefl _ h.2)).alloc _
    have hrc : Row (w2.alloc (.cells #[.int .i64 30, .int .u64 (p : Nat)] 57)) w2.heap.size 57 [.int .i64 30, .int .u64 (p : Nat)] := Row.new w2 _ [.int .i64 30, .int .u64 (p : Nat)]
    have hm3 := HM2.out.below (w' := w2.alloc (.cells #[.int .i64 30, .int .u64 (p : Nat)] 57)) ((Below.refl _ _).alloc (Nat.le_refl _) _)
    have hc3 : ChgP (fun k => Z k ∧ k < w.heap.size) w1 (w2.alloc (.cells #[.int .i64 30, .int .u64 (p : Nat)] 57)) := HC2.out.alloc _
    have HNE : Hid (w.heap.size ≠ w2.heap.size) := Lib.hid (by have := HC2.out.size; have := HR0.out.lt; omega)
    have hcs : w.heap.size ≤ w2.heap.size := Nat.le_trans HB0.out.size HC2.out.size
    obtain ⟨c, hc⟩ : ∃ c, c = w2.heap.size := ⟨_, rfl⟩
    rw [← hc] at hrc HNE hcs ⊢
    clear hc
    generalize w2.alloc (.cells #[.int .i64 30, .int .u64 (p : Nat)] 57) = w3 at *
    have HRA := Lib.hid hra; have HRC := Lib.hid hrc; have HM3 := Lib.hid hm3; have HC3 := Lib.hid hc3; have HCS := Lib.hid hcs
    have q0 := hra.cell 0
    have q1 := hra.cell 1
    have t0 := hrc.cell 0
    have t1 := hrc.cell 1
    have la := hra.lt
    have lc := hrc.lt
    simp only [List.getElem?_cons_zero, List.getElem?_cons_succ] at q0 q1 t0 t1
    clear hra hrc hm3 hc3 hcs
    go_upto_region 5 with fail
    have a0 := HRA.out.frozen 0
    have a1 := HRA.out.frozen 1
    go_still_tail 2, (by kernel_rfl)
    change wpList _ _ _ _ _ w3.drew
    have hr5 := (HRA.out.drew.set_ 0 (.int .i64 30)).set_ 1 (.int .u64 (p : Nat))
    have z0 := hr5.cell 0
    have z1 := hr5.cell 1
    simp only [List.set_cons_zero, List.set_cons_succ, List.getElem?_cons_zero, List.getElem?_cons_succ] at z0 z1
    have hr6 := (HRA.out.set_ 0 (.int .i64 30)).set_ 1 (.int .u64 (p : Nat))
    have y0 := hr6.cell 0
    have y1 := hr6.cell 1
    simp only [List.set_cons_zero, List.set_cons_succ, List.getElem?_cons_zero, List.getElem?_cons_succ] at y0 y1
    have HY0 := Lib.hid y0; have HY1 := Lib.hid y1
    have hcq : ChgP (fun k => w.heap.size ≤ k) w3 ((w3.drew.setCell ⟨w.heap.size, 0, none⟩ (.int .i64 30)).setCell ⟨w.heap.size, 1, none⟩ (.int .u64 (p : Nat))) := ((ChgP.refl (fun k => w.heap.size ≤ k) w3).drew.set_ (p := ⟨w.heap.size, 0, none⟩) (.inl (Nat.le_refl _)) _).set_ (p := ⟨w.heap.size, 1, none⟩) (.inl (Nat.le_refl _)) _
    have HM5 := Lib.hid (MachAt.past (Z := Z) (R := R) (N := w.heap.size) HM3.out hcq HM.out.dis)
    have HC5 : Hid (ChgP Z w ((w3.drew.setCell ⟨w.heap.size, 0, none⟩ (.int .i64 30)).setCell ⟨w.heap.size, 1, none⟩ (.int .u64 (p : Nat)))) := Lib.hid ((((ChgP.of_below HB0.out).trans HC3.out (fun x hx => .inl hx.1)).drew.set_ (p := ⟨w.heap.size, 0, none⟩) (.inr (Nat.le_refl _)) _).set_ (p := ⟨w.heap.size, 1, none⟩) (.inr (Nat.le_refl _)) _)
    clear hr5 hcq hr6
    go_wp2_with fail
    refine bodyPost_ret (v := .tuple #[.slice none 0 0, .agg #[.int .i64 30, .int .u64 (p : Nat)]]) (by simp [results, Tryz.results30, go_sem, HY0.out, HY1.out, z0, z1]) rfl ⟨by rw [← HF.out]; exact HM5.out, HC5.out, .inl ⟨p, HF.out.symm, rfl⟩⟩
  | none =>
    go_upto_region 4 with (go_at_call 55; refine (access_any _ _ M A1 A2 Ao x1 x2 no co b pm sp at_ n g w1 HM1.out HN.out HA.out HS.out).mono ?_; rw [← HF.out]; rintro e w2 ⟨rfl, hm2, hc2⟩; have HM2 := Lib.hid hm2; have HC2 := Lib.hid hc2; clear hm2 hc2; unfold faultV)
    have hra : Row (w2.alloc (.cells #[.int .i64 0, .int .u64 0] 57)) w.heap.size 57 [.int .i64 0, .int .u64 0] := (HC2.out.row HR0.out (fun h => Nat.lt_irrefl _ h.2)).alloc _
    have hrc : Row (w2.alloc (.cells #[.int .i64 0, .int .u64 0] 57)) w2.heap.size 57 [.int .i64 0, .int .u64 0] := Row.new w2 _ [.int .i64 0, .int .u64 0]
    have hm3 := HM2.out.below (w' := w2.alloc (.cells #[.int .i64 0, .int .u64 0] 57)) ((Below.refl _ _).alloc (Nat.le_refl _) _)
    have hc3 : ChgP (fun k => Z k ∧ k < w.heap.size) w1 (w2.alloc (.cells #[.int .i64 0, .int .u64 0] 57)) := HC2.out.alloc _
    have HNE : Hid (w.heap.size ≠ w2.heap.size) := Lib.hid (by have := HC2.out.size; have := HR0.out.lt; omega)
    have hcs : w.heap.size ≤ w2.heap.size := Nat.le_trans HB0.out.size HC2.out.size
    obtain ⟨c, hc⟩ : ∃ c, c = w2.heap.size := ⟨_, rfl⟩
    rw [← hc] at hrc HNE hcs ⊢
    clear hc
    generalize w2.alloc (.cells #[.int .i64 0, .int .u64 0] 57) = w3 at *
    have HRA := Lib.hid hra; have HRC := Lib.hid hrc; have HM3 := Lib.hid hm3; have HC3 := Lib.hid hc3; have HCS := Lib.hid hcs
    have q0 := hra.cell 0
    have q1 := hra.cell 1
    have t0 := hrc.cell 0
    have t1 := hrc.cell 1
    have la := hra.lt
    have lc := hrc.lt
    simp only [List.getElem?_cons_zero, List.getElem?_cons_succ] at q0 q1 t0 t1
    clear hra hrc hm3 hc3 hcs
    go_upto_region 6 with fail
    have H64 := Lib.hid (offAt_none HM.out HA.out HF.out.symm)
    have HNB : Hid (n ≤ 1099511627776) := Lib.hid (by rcases H64.out with h | h <;> omega)
    have HMD : Hid (MachAt (fun k => Z k ∧ k < w.heap.size) (fun k => R k ∧ k < w.heap.size) w3.drew g M A1 A2 Ao x1 x2 no co b pm sp) := Lib.hid (MachAt.below (M := M) HM3.out (Below.refl w3.heap.size w3).drew)
    have KEEP : Hid (∀ (w' : World) (u v : Value), w'.cell? ⟨c, 0, none⟩ = some (.int .i64 0) → w'.cell? ⟨c, 1, none⟩ = some (.int .u64 0) → ((w'.setCell ⟨w.heap.size, 0, none⟩ u).setCell ⟨w.heap.size, 1, none⟩ v).cell? ⟨c, 0, none⟩ = some (.int .i64 0) ∧ ((w'.setCell ⟨w.heap.size, 0, none⟩ u).setCell ⟨w.heap.size, 1, none⟩ v).cell? ⟨c, 1, none⟩ = some (.int .u64 0)) := Lib.hid fun w' u v h1 h2 => ⟨(World.cell?_setCell_other _ _ _ _ (by intro h; injection h with h; exact HNE.out (by first | exact h | exact h.symm))).trans ((World.cell?_setCell_other _ _ _ _ (by intro h; injection h with h; exact HNE.out (by first | exact h | exact h.symm))).trans h1), (World.cell?_setCell_other _ _ _ _ (by intro h; injection h with h; exact HNE.out (by first | exact h | exact h.symm))).trans ((World.cell?_setCell_other _ _ _ _ (by intro h; injection h with h; exact HNE.out (by first | exact h | exact h.symm))).trans h2)⟩
    clear q0 q1
    go_region_held3 (fun w' => w'.cell? ⟨c, 0, none⟩ = some (.int .i64 0) ∧ w'.cell? ⟨c, 1, none⟩ = some (.int .u64 0))
      (first | exact ⟨t0, t1⟩ | exact KO.out | exact KEEP.out _ _ _ KO.out.1 KO.out.2)
      (first
        | (go_at_call 58; refine (bytes_any _ _ M A1 A2 Ao x1 x2 no co b pm sp at_ n g w3.drew HMD.out (by rcases H64.out with h | h <;> omega) HNB.out HA.out).mono ?_; rintro e w4 ⟨bb, rfl, hle, hrb, hb4⟩; have HB4 : Hid (Below w3.heap.size w3 w4) := Lib.hid ((Below.refl w3.heap.size w3).drew.trans (hb4.mono (Below.refl w3.heap.size w3).drew.size)); have HRB := Lib.hid hrb; have HLE := Lib.hid hle; have KO : Hid (w4.cell? ⟨c, 0, none⟩ = some (.int .i64 0) ∧ w4.cell? ⟨c, 1, none⟩ = some (.int .u64 0)) := Lib.hid ⟨(HB4.out.cell (p := ⟨c, 0, none⟩) lc).trans t0, (HB4.out.cell (p := ⟨c, 1, none⟩) lc).trans t1⟩; have hr4 := HRA.out.below HB4.out la; have q0 := hr4.cell 0; have q1 := hr4.cell 1; have qz0 := hr4.frozen 0; have qz1 := hr4.frozen 1; have la4 := hr4.lt; have HR4 := Lib.hid hr4; simp only [List.getElem?_cons_zero, List.getElem?_cons_succ] at q0 q1; clear hb4 hrb hle hr4))
    all_goals
      have hr5 := (HR4.out.set_ 0 (.int .i64 0)).set_ 1 (.int .u64 0)
      have z0 := hr5.cell 0
      have z1 := hr5.cell 1
      simp only [List.set_cons_zero, List.set_cons_succ, List.getElem?_cons_zero, List.getElem?_cons_succ] at z0 z1
      have hcq : ChgP (fun k => w.heap.size ≤ k) w4 ((w4.setCell ⟨w.heap.size, 0, none⟩ (.int .i64 0)).setCell ⟨w.heap.size, 1, none⟩ (.int .u64 0)) := ((ChgP.refl (fun k => w.heap.size ≤ k) w4).set_ (p := ⟨w.heap.size, 0, none⟩) (.inl (Nat.le_refl _)) _).set_ (p := ⟨w.heap.size, 1, none⟩) (.inl (Nat.le_refl _)) _
      have hm5 := (MachAt.below (M := M) HM3.out HB4.out).past hcq HM.out.dis
      have hc5 : ChgP Z w ((w4.setCell ⟨w.heap.size, 0, none⟩ (.int .i64 0)).setCell ⟨w.heap.size, 1, none⟩ (.int .u64 0)) := ((((ChgP.of_below HB0.out).trans HC3.out (fun x hx => .inl hx.1)).trans (ChgP.of_below (Z := fun _ => False) HB4.out) (fun x hx => hx.elim)).set_ (p := ⟨w.heap.size, 0, none⟩) (.inr (Nat.le_refl _)) _).set_ (p := ⟨w.heap.size, 1, none⟩) (.inr (Nat.le_refl _)) _
      have hnb : bb ≠ w.heap.size := Row.ne_t HRB.out HR4.out (by decide)
      have hrb5 := (HRB.out.far (p := ⟨w.heap.size, 0, none⟩) hnb (.int .i64 0)).far (p := ⟨w.heap.size, 1, none⟩) hnb (.int .u64 0)
      have hbb : w.heap.size ≤ bb := by have := HLE.out; have := HC3.out.size; have := HB0.out.size; simp only [World.drew] at *; omega
      have HE1 := Lib.hid z0; have HE2 := Lib.hid z1; have HM5 := Lib.hid hm5; have HC5 := Lib.hid hc5; have HRB5 := Lib.hid hrb5
      clear hr5 hcq hm5 hc5 hrb5 hnb
      go_wp2_with fail
      refine bodyPost_ret (v := .tuple #[.slice (some ⟨bb, 0, none⟩) n n, .agg #[.int .i64 0, .int .u64 0]]) (by simp [results, Tryz.results30, go_sem, z0, z1]) rfl ⟨by rw [← HF.out]; exact HM5.out, HC5.out, .inr ⟨HF.out.symm, bb, rfl, hbb, HRB5.out⟩⟩
end Bu
end Go.Proofs.YtfpofaniicegaaaGreat

/- The walks of word.More, bulkheadref1.More, word.CRC, bulkheadref1.CRC: the check sum of a list of bytes, of whatever length; nothing that was there is written. -/
set_option linter.unusedVariables false
set_option linter.unusedSimpArgs false
namespace Go.Proofs.YtfpofaniicegaaaGreat
open Go.RowKit

namespace Crc
def tab (k : Nat) : Array Value := Array.ofFn fun j : Fin 16 => .int .u32 ((if j.val < k then stN 4 j.val else 0 : Nat) : Int)
theorem tab_set (k : Nat) : (tab k).setIfInBounds k (.int .u32 (stN 4 k : Nat)) = tab (k + 1) := by
  apply Array.ext
  · simp [tab]
  · intro i h1 h2
    rw [Array.getElem_setIfInBounds (by simpa using h1)]
    by_cases hik : k = i
    · subst hik; simp [tab]
    · have : (i < k + 1) = (i < k) := by rw [eq_iff_iff]; omega
      rw [if_neg hik]
      simp [tab, this]
theorem tab_get (i : Nat) (h : i < 16) : (tab 16)[i]? = some (.int .u32 (stN 4 i : Nat)) := by
  simp [tab, h]
theorem tab_size (k : Nat) : (tab k).size = 16 := by simp [tab]
theorem tab_zero : #[.int .u32 0, .int .u32 0, .int .u32 0, .int .u32 0, .int .u32 0, .int .u32 0, .int .u32 0, .int .u32 0, .int .u32 0, .int .u32 0, .int .u32 0, .int .u32 0, .int .u32 0, .int .u32 0, .int .u32 0, .int .u32 0] = tab 0 := by
  simp [tab, Array.ofFn_succ]
theorem tab_some (k i : Nat) (h : i < 16) : ∃ v, (tab k)[i]? = some v := by simp [tab, h]
end Crc
attribute [irreducible] Crc.tab

theorem stN_succ (n r : Nat) : Crc.stN (n + 1) r = Crc.st (Crc.stN n r) := Crc.stN_add n 1 r
theorem u32and1 (r : Nat) (h : r < 4294967296) : bits .and .u32 (r : Int) 1 = ((r % 2 : Nat) : Int) := by
  have := u32_and_nat r 1 h (by decide)
  rw [Nat.and_one_is_mod] at this
  exact this
theorem walk_st (r : Nat) (h : r < 4294967296) : bits .xor .u32 ((r : Int) / 2) (bits .and .u32 2197175160 (-bits .and .u32 (r : Int) 1 % 4294967296)) = ((Crc.st r : Nat) : Int) := by
  rw [u32and1 r h]
  rcases Nat.mod_two_eq_zero_or_one r with h2 | h2
  · rw [h2]
    have e : bits .and .u32 2197175160 (-((0 : Nat) : Int) % 4294967296) = ((0 : Nat) : Int) := by decide
    rw [e]
    have := u32_xor_nat (r / 2) 0 (by omega) (by decide)
    rw [show ((r : Int) / 2) = ((r / 2 : Nat) : Int) by omega, this]
    simp [Crc.st, h2, Nat.shiftRight_eq_div_pow]
  · rw [h2]
    have e : bits .and .u32 2197175160 (-((1 : Nat) : Int) % 4294967296) = ((2197175160 : Nat) : Int) := by decide
    rw [e]
    have := u32_xor_nat (r / 2) 2197175160 (by omega) (by decide)
    rw [show ((r : Int) / 2) = ((r / 2 : Nat) : Int) by omega, this]
    simp [Crc.st, Crc.poly, h2, Nat.shiftRight_eq_div_pow]

theorem two_steps (r x : Nat) (hr : r < 4294967296) (hx : x < 256) : ∃ y1 i1 t1 y2 i2 t2 y3 : Nat, (y1 < 4294967296 ∧ y2 < 4294967296 ∧ y3 < 4294967296 ∧ i1 < 16 ∧ i2 < 16) ∧
    bits .xor .u32 (r : Int) (x : Int) = y1 ∧ bits .and .u32 (y1 : Int) 15 = i1 ∧ (Crc.tab 16)[i1]? = some (.int .u32 (t1 : Nat)) ∧ bits .xor .u32 ((y1 : Int) / 16) (t1 : Int) = y2 ∧
    bits .and .u32 (y2 : Int) 15 = i2 ∧ (Crc.tab 16)[i2]? = some (.int .u32 (t2 : Nat)) ∧ bits .xor .u32 ((y2 : Int) / 16) (t2 : Int) = y3 ∧ Hid (y3 = Crc.upd r x) := by
  have h1 : r ^^^ x < 4294967296 := Nat.xor_lt_two_pow (n := 32) hr (by omega)
  have l15 (y : Nat) : y &&& 15 < 16 := by have := Nat.and_le_right (n := y) (m := 15); omega
  have ht (i : Nat) (h : i < 16) : Crc.stN 4 i < 4294967296 := Crc.stN_lt 4 (by omega)
  have h16 (y : Nat) (h : y < 4294967296) : y >>> 4 = y / 16 ∧ y / 16 < 4294967296 := ⟨by rw [Nat.shiftRight_eq_div_pow], by omega⟩
  have h2 : (r ^^^ x) >>> 4 ^^^ Crc.stN 4 ((r ^^^ x) &&& 15) < 4294967296 := by
    refine Nat.xor_lt_two_pow (n := 32) ?_ (ht _ (l15 _))
    rw [(h16 _ h1).1]; exact (h16 _ h1).2
  have h3 : Crc.upd r x < 4294967296 := Crc.upd_lt hr (by omega)
  have step (y : Nat) (h : y < 4294967296) : bits .xor .u32 ((y : Int) / 16) ((Crc.stN 4 (y &&& 15) : Nat) : Int) = ((y >>> 4 ^^^ Crc.stN 4 (y &&& 15) : Nat) : Int) := by
    rw [show ((y : Int) / 16) = ((y / 16 : Nat) : Int) by omega, u32_xor_nat _ _ (h16 y h).2 (ht _ (l15 y)), (h16 y h).1]
  refine ⟨r ^^^ x, (r ^^^ x) &&& 15, Crc.stN 4 ((r ^^^ x) &&& 15), _, _, Crc.stN 4 (((r ^^^ x) >>> 4 ^^^ Crc.stN 4 ((r ^^^ x) &&& 15)) &&& 15), Crc.upd r x, ⟨h1, h2, h3, l15 _, l15 _⟩,
    u32_xor_nat r x hr (by omega), u32_and_nat _ 15 h1 (by decide), Crc.tab_get _ (l15 _), step _ h1, u32_and_nat _ 15 h2 (by decide), Crc.tab_get _ (l15 _), ?_, rfl⟩
  rw [step _ h2, Crc.upd_two]

theorem ret_u32 {a b : Int} (h : a = b) : Ending.returned (.int .u32 a) = .returned (.int .u32 b) := by rw [h]
theorem start_eq (s : Nat) (hs : s < 4294967296) : bits .xor .u32 IntKind.u32.max (s : Int) = ((s ^^^ Crc.ones : Nat) : Int) := by
  have h := u32_xor_nat 4294967295 s (by decide) hs
  have e : IntKind.u32.max = ((4294967295 : Nat) : Int) := by decide
  rw [e, h, Nat.xor_comm]; rfl

theorem start_eq' (s : Nat) (hs : s < 4294967296) : bits .xor .u32 (s : Int) 4294967295 = ((s ^^^ Crc.ones : Nat) : Int) := by
  have h := u32_xor_nat s 4294967295 hs (by decide)
  exact h

theorem walk_ref (r : Nat) (h : r < 4294967296) : ∃ o r1 : Nat, bits .and .u32 (r : Int) 1 = o ∧ o < 2 ∧ r1 < 4294967296 ∧ Hid (r1 = r / 2) ∧ (r : Int) / 2 = r1 ∧ (o = 1 → bits .xor .u32 (r1 : Int) 2197175160 = ((Crc.st r : Nat) : Int)) ∧ (o = 0 → r1 = Crc.st r) := by
  refine ⟨r % 2, r / 2, u32and1 r h, by omega, by omega, rfl, by omega, fun h1 => ?_, fun h0 => ?_⟩
  · refine (u32_xor_nat (r / 2) 2197175160 (by omega) (by decide)).trans ?_
    simp [Crc.st, Crc.poly, h1, Nat.shiftRight_eq_div_pow]
  · simp [Crc.st, h0, Nat.shiftRight_eq_div_pow]

end Go.Proofs.YtfpofaniicegaaaGreat
