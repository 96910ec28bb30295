/- Texts of this claim, one behind the other: BuC, BuP, Put, Get. -/
import Derived.Test.YtblfagmoilhdnaaJPagesTold9
import Derived.Test.YtblfagmoilhdnaaJPagesTold2
import Derived.Test.YtblfagmoilhdnaaJPagesTold1
import Derived.Laws.CopyOwn
import Derived.Deep.OwnRows
import Derived.Laws.Bits64b
/- The walk of a machine's access. -/
set_option linter.unusedVariables false
set_option linter.unusedSimpArgs false
namespace Go.Proofs.Ytblfagmoilhdnaa
open Go.RowKit
open S64
namespace Bu
/-- the first of n bytes that is off the bus -/
def offAt (sp : Sp.S) (at_ n : Nat) : Option Nat := if (Sp.next sp at_).2 = true ∧ 0 < n ∧ (Sp.next sp at_).1 < at_ + n then some (Sp.next sp at_).1 else none
def faultV (f : Option Nat) : Value := match f with
  | none => .agg #[.int .i64 0, .int .u64 0]
  | some p => .agg #[.int .i64 30, .int .u64 (p : Nat)]
def stray (M : PM) (f : Option Nat) : PM := match f with
  | none => M
  | some _ => { M with strays := cInc M.strays }
theorem offAt_none {Z R : Nat → Prop} {w : World} {g : Nat} {M : PM} {A1 A2 Ao : Option Addr} {c1 c2 no co b : Nat} {pm : Nat → Option Nat} {sp : Sp.S} (h : MachAt Z R w g M A1 A2 Ao c1 c2 no co b pm sp) {at_ n : Nat} (ha : at_ ≤ TOP) (hf : offAt sp at_ n = none) : n = 0 ∨ at_ + n ≤ 4294967296 := by
  rcases Nat.eq_zero_or_pos n with h0 | h0
  · exact .inl h0
  refine .inr ?_
  rcases Nat.lt_or_ge 4294967296 (at_ + n) with hc | hc
  · exfalso
    -- a byte at or behind 2^32 is off the bus
    obtain ⟨p, hp1, hp2, hp3, hp4⟩ : ∃ p, at_ ≤ p ∧ p < at_ + n ∧ p ≤ TOP ∧ 4294967296 ≤ p := by
      rcases Nat.lt_or_ge at_ 4294967296 with h1 | h1
      · exact ⟨4294967296, by omega, by omega, by unfold TOP; omega, Nat.le_refl _⟩
      · exact ⟨at_, Nat.le_refl _, by omega, ha, h1⟩
    have hon : Sp.has sp p = true := by
      rw [h.has p hp3]
      cases ho : on (M.rams ++ M.devs) p with
      | false => rfl
      | true => have := h.lim p ho; omega
    unfold offAt at hf
    cases hx : Sp.next sp at_ with
    | mk m o =>
      rw [hx] at hf
      cases o with
      | false =>
        have := (Sp.next_none h.nrm.1 (show (Sp.next sp at_).2 = false by rw [hx])).2 p hp1
        rw [this] at hon; cases hon
      | true =>
        obtain ⟨g1, g2, g3⟩ := Sp.next_some h.nrm.1 hx
        have hm : m ≤ p := by
          rcases Nat.lt_or_ge p m with h4 | h4
          · have := g3 p hp1 h4; rw [this] at hon; cases hon
          · exact h4
        rw [if_pos ⟨rfl, h0, by simp only; omega⟩] at hf
        cases hf
  · exact hc
theorem has_top {s : Sp.S} (h : Sp.Nrm TOP s) {p : Nat} (hp : Sp.has s p = true) : p ≤ TOP := by
  obtain ⟨x, hx, h1, h2⟩ := Sp.has_iff.1 hp
  have := h.ok x hx
  omega
/-- a counter of the machine turned -/
theorem MachAt.count {Z R : Nat → Prop} {w : World} {g : Nat} {M : PM} {A1 A2 Ao : Option Addr} {c1 c2 no co b : Nat} {pm : Nat → Option Nat} {sp : Sp.S} (h : MachAt Z R w g M A1 A2 Ao c1 c2 no co b pm sp) (i : Nat) (v : Value) (M' : PM) (hr : M'.rams = M.rams) (hd : M'.devs = M.devs) (hm : M'.mem = M.mem)
    (hv : [.int .i64 M.loads, .int .i64 M.stores, .int .i64 M.strays, .slice A1 M.rams.length c1, .slice A2 M.devs.length c2, .slice Ao no co, .map (some b)].set i v = [.int .i64 M'.loads, .int .i64 M'.stores, .int .i64 M'.strays, .slice A1 M.rams.length c1, .slice A2 M.devs.length c2, .slice Ao no co, .map (some b)]) :
    MachAt Z R (w.setCell ⟨g, i, none⟩ v) g M' A1 A2 Ao c1 c2 no co b pm sp := by
  have hrow := h.row.set_ i v
  rw [hv] at hrow
  have hc : ChgP (fun k => k = g) w (w.setCell ⟨g, i, none⟩ v) := (ChgP.refl (fun k => k = g) w).set_ (p := ⟨g, i, none⟩) (.inl rfl) v
  have hR : ∀ k, R k → ¬ k = g := fun k hk e => h.dis g h.zg (e ▸ hk)
  have hl1 := h.l1.chg hc hR
  have hl2 := h.l2.chg hc hR
  have hlo := h.lo.chg hc hR
  have hbg : b ≠ g := by
    rintro rfl
    obtain ⟨⟨D, n, ⟨es, clock, hb, _⟩, _⟩, _⟩ := h.map
    have := h.row.symm.trans hb
    cases this
  refine ⟨by rw [hr, hd]; exact hrow, h.zg, h.zb, by rw [hr]; exact hl1, by rw [hd]; exact hl2, hlo, h.nrm, by rw [hr, hd]; exact h.has, by rw [hr, hd]; exact h.lim, h.map.same (hc.block b h.map.lt hbg), fun k p hp => ?_, h.inj, by rw [hm]; exact h.zero, by rw [hm]; exact h.byte, h.dis⟩
  obtain ⟨h1, h2, h3⟩ := h.leaf k p hp
  rw [hm]
  exact ⟨hc.row h1 (Row.ne_t h1 h.row (by decide)), h2, h3⟩
/-- what it owns is there now -/
theorem MachAt.tight {Z R : Nat → Prop} {w : World} {g : Nat} {M : PM} {A1 A2 Ao : Option Addr} {c1 c2 no co b : Nat} {pm : Nat → Option Nat} {sp : Sp.S} (h : MachAt Z R w g M A1 A2 Ao c1 c2 no co b pm sp) :
    MachAt (fun k => Z k ∧ k < w.heap.size) (fun k => R k ∧ k < w.heap.size) w g M A1 A2 Ao c1 c2 no co b pm sp :=
  ⟨h.row, ⟨h.zg, h.row.lt⟩, ⟨h.zb, h.map.lt⟩, ⟨h.l1.1, h.l1.2.1, h.l1.2.2.1, fun ad e h0 => ⟨h.l1.2.2.2 ad e h0, IsS.lt h.l1.1 h0 ad e⟩⟩, ⟨h.l2.1, h.l2.2.1, h.l2.2.2.1, fun ad e h0 => ⟨h.l2.2.2.2 ad e h0, IsS.lt h.l2.1 h0 ad e⟩⟩, ⟨h.lo.1, h.lo.2.1, h.lo.2.2.1, fun ad e h0 => ⟨h.lo.2.2.2 ad e h0, IsS.lt h.lo.1 h0 ad e⟩⟩,
    h.nrm, h.has, h.lim, h.map, fun k p hp => by
      obtain ⟨h1, h2, h3⟩ := h.leaf k p hp
      exact ⟨h1, ⟨h2, h1.lt⟩, h3⟩, h.inj, h.zero, h.byte, fun k hk hr => h.dis k hk.1 hr.1⟩
/-- it stands while new blocks are made, and those that were new are written -/
theorem MachAt.past {Z R : Nat → Prop} {w' w'' : World} {g : Nat} {M : PM} {A1 A2 Ao : Option Addr} {c1 c2 no co b : Nat} {pm : Nat → Option Nat} {sp : Sp.S} {N : Nat} (h : MachAt (fun k => Z k ∧ k < N) (fun k => R k ∧ k < N) w' g M A1 A2 Ao c1 c2 no co b pm sp) (hc : ChgP (fun k => N ≤ k) w' w'') (hd : ∀ k, Z k → ¬ R k) :
    MachAt Z R w'' g M A1 A2 Ao c1 c2 no co b pm sp :=
  (h.chg hc (fun k hk hy => by rcases hk with hk | hk <;> have := hk.2 <;> omega)).mono (fun k hk => hk.1) (fun k hk => hk.1) hd
set_option maxRecDepth 100000 in
set_option maxHeartbeats 1000000 in
theorem access_any (Z R : Nat → Prop) (M : PM) (A1 A2 Ao : Option Addr) (x1 x2 no co b : Nat) (pm : Nat → Option Nat) (sp : Sp.S) (at_ n g : Nat) (w : World)
    (hm : MachAt Z R w g M A1 A2 Ao x1 x2 no co b pm sp) (hn : n ≤ 9223372036854775807) (ha : at_ ≤ TOP) (hs : True) :
    Calls Try.prog 75 #[.pointer (some ⟨g, 0, none⟩), .int .u64 (at_ : Nat), .int .i64 (n : Nat)] w
      fun e w' => e = .returned (faultV (offAt sp at_ n)) ∧ MachAt Z R w' g (stray M (offAt sp at_ n)) A1 A2 Ao x1 x2 no co b pm sp ∧ ChgP Z w w' := by
  have HNX : Hid (∀ wx, Below w.heap.size w wx → Calls Try.prog 96 #[.agg #[.slice Ao no co], .int .u64 (at_ : Nat)] wx fun e w' => e = .returned (.tuple #[.int .u64 ((Sp.next sp at_).1 : Nat), .bool (Sp.next sp at_).2]) ∧ Below wx.heap.size wx w') := Lib.hid fun wx hb => next_any Ao no co at_ sp wx ((hm.lo.isSet hm.nrm).below hb) ha
  have HM := Lib.hid hm
  have HA := Lib.hid ha
  have HOF : Hid (offAt sp at_ n = if (Sp.next sp at_).2 = true ∧ 0 < n ∧ (Sp.next sp at_).1 < at_ + n then some (Sp.next sp at_).1 else none) := Lib.hid rfl
  have HNS : Hid ((Sp.next sp at_).2 = true → at_ ≤ (Sp.next sp at_).1 ∧ (Sp.next sp at_).1 ≤ TOP) := Lib.hid (by
    intro h
    cases hx : Sp.next sp at_ with
    | mk m o =>
      rw [hx] at h
      simp only at h
      subst h
      obtain ⟨h1, h2, h3⟩ := Sp.next_some hm.nrm.1 hx
      exact ⟨h1, has_top hm.nrm.1 h2⟩)
  obtain ⟨F, hF⟩ : ∃ F, F = offAt sp at_ n := ⟨_, rfl⟩
  rw [← hF] at HOF ⊢
  clear hF
  obtain ⟨P, hP⟩ : ∃ P, P = Sp.next sp at_ := ⟨_, rfl⟩
  rw [← hP] at HNX HOF HNS
  clear hP
  obtain ⟨m, ok⟩ := P
  simp only at HNX HOF HNS
  clear hm ha
  go_enter Try.func75, Try.ntmps75
  go_upto_region 1 with fail
  have r0 : Row (w.alloc (.cells #[.int .i64 0, .int .u64 0] 111)) w.heap.size 111 [.int .i64 0, .int .u64 0] := Row.new w _ [.int .i64 0, .int .u64 0]
  have hb0 : Below w.heap.size w (w.alloc (.cells #[.int .i64 0, .int .u64 0] 111)) := (Below.refl _ _).alloc (Nat.le_refl _) _
  generalize w.alloc (.cells #[.int .i64 0, .int .u64 0] 111) = w1 at *
  have HM1 : Hid (MachAt Z R w1 g M A1 A2 Ao x1 x2 no co b pm sp) := Lib.hid (HM.out.below hb0)
  have p5 := HM1.out.row.cell 5
  have lg := HM1.out.row.lt
  simp only [List.getElem?_cons_zero, List.getElem?_cons_succ] at p5
  have HB0 := Lib.hid hb0; have HR0 := Lib.hid r0
  clear hb0 r0
  go_upto_region 2 with (go_at_call 96; refine (HNX.out w1 HB0.out).mono ?_; rintro e w2 ⟨rfl, hb2⟩; have HB2 := Lib.hid hb2; clear hb2)
  have hr2 := HR0.out.below HB2.out HR0.out.lt
  have f0 := hr2.cell 0
  have f1 := hr2.cell 1
  have fz0 := hr2.frozen 0
  have fz1 := hr2.frozen 1
  have lf := hr2.lt
  simp only [List.getElem?_cons_zero, List.getElem?_cons_succ] at f0 f1
  have HR2 := Lib.hid hr2
  have HM2 : Hid (MachAt Z R w2 g M A1 A2 Ao x1 x2 no co b pm sp) := Lib.hid (HM1.out.below HB2.out)
  have HBW : Hid (Below w.heap.size w w2) := Lib.hid (HB0.out.trans (HB2.out.mono HB0.out.size))
  have HT2 : Hid (MachAt (fun k => Z k ∧ k < w.heap.size) (fun k => R k ∧ k < w.heap.size) w2 g M A1 A2 Ao x1 x2 no co b pm sp) := Lib.hid (HM.out.tight.below HBW.out)
  have lg2 := HM2.out.row.lt
  have g2 := HM2.out.row.cell 2
  have gz2 := HM2.out.row.frozen 2
  simp only [List.getElem?_cons_zero, List.getElem?_cons_succ] at g2
  clear hr2 p5 lg HNX
  cases ok with
  | false =>
    have HX : Hid (F = none) := Lib.hid (by rw [HOF.out]; rfl)
    go_wp2_with fail
    have hbz : Below w.heap.size w ((w2.setCell ⟨w.heap.size, 0, none⟩ (.int .i64 0)).setCell ⟨w.heap.size, 1, none⟩ (.int .u64 0)) := (HBW.out.setCell (p := ⟨w.heap.size, 0, none⟩) (Nat.le_refl _) _).setCell (p := ⟨w.heap.size, 1, none⟩) (Nat.le_refl _) _
    have hrz := (HR2.out.set_ 0 (.int .i64 0)).set_ 1 (.int .u64 0)
    have z0 := hrz.cell 0
    have z1 := hrz.cell 1
    simp only [List.set_cons_zero, List.set_cons_succ, List.getElem?_cons_zero, List.getElem?_cons_succ] at z0 z1
    refine bodyPost_ret (v := .agg #[.int .i64 0, .int .u64 0]) (by simp [results, Try.results75, go_sem, z0, z1]) rfl ⟨by rw [HX.out]; rfl, by rw [HX.out]; exact HM.out.below hbz, ChgP.of_below hbz⟩
  | true =>
    by_cases hn0 : 0 < n
    · have h1 := (HNS.out rfl).1
      have h2 : m ≤ 18446744073709551615 := (HNS.out rfl).2
      by_cases hlt : m - at_ < n
      · have HX : Hid (F = some m) := Lib.hid (by rw [HOF.out, if_pos ⟨rfl, hn0, by omega⟩])
        have h3 : (m : Int) - (at_ : Int) < (n : Int) := by omega
        obtain ⟨yy, hyy⟩ : ∃ yy, yy = cInc M.strays := ⟨_, rfl⟩
        have hw1 : IntKind.i64.wrap (M.strays + 1) = yy := by rw [hyy]; rfl
        have hw2 : wrap64 (M.strays + 1) = yy := by rw [hyy]; unfold cInc wrap64; exact (IntKind.wrap_i64 _).symm
        have HYY := Lib.hid hyy
        clear hyy
        go_upto_region 4 with fail
        have HM3 : Hid (MachAt (fun k => Z k ∧ k < w.heap.size) (fun k => R k ∧ k < w.heap.size) (w2.setCell ⟨g, 2, none⟩ (.int .i64 yy)) g { M with strays := cInc M.strays } A1 A2 Ao x1 x2 no co b pm sp) := Lib.hid (HT2.out.count 2 _ _ rfl rfl rfl (by rw [HYY.out]; simp))
        have hne : w.heap.size ≠ g := Row.ne_t HR2.out HM2.out.row (by decide)
        have HR3 : Hid (Row (w2.setCell ⟨g, 2, none⟩ (.int .i64 yy)) w.heap.size 111 [.int .i64 0, .int .u64 0]) := Lib.hid (HR2.out.far (p := ⟨g, 2, none⟩) hne _)
        have HC3 : Hid (ChgP Z w (w2.setCell ⟨g, 2, none⟩ (.int .i64 yy))) := Lib.hid ((ChgP.of_below HBW.out).set_ (p := ⟨g, 2, none⟩) (.inl HM.out.zg) _)
        clear f0 f1 fz0 fz1 lf g2 gz2 lg2 hne hw1 hw2
        generalize w2.setCell ⟨g, 2, none⟩ (.int .i64 yy) = w3 at *
        have f0 := HR3.out.cell 0
        have f1 := HR3.out.cell 1
        have fz0 := HR3.out.frozen 0
        have fz1 := HR3.out.frozen 1
        have lf := HR3.out.lt
        simp only [List.getElem?_cons_zero, List.getElem?_cons_succ] at f0 f1
        go_wp2_with fail
        have hcz : ChgP Z w ((w3.setCell ⟨w.heap.size, 0, none⟩ (.int .i64 30)).setCell ⟨w.heap.size, 1, none⟩ (.int .u64 (m : Nat))) := (HC3.out.set_ (p := ⟨w.heap.size, 0, none⟩) (.inr (Nat.le_refl _)) _).set_ (p := ⟨w.heap.size, 1, none⟩) (.inr (Nat.le_refl _)) _
        have hq : ChgP (fun k => w.heap.size ≤ k) w3 ((w3.setCell ⟨w.heap.size, 0, none⟩ (.int .i64 30)).setCell ⟨w.heap.size, 1, none⟩ (.int .u64 (m : Nat))) := ((ChgP.refl (fun k => w.heap.size ≤ k) w3).set_ (p := ⟨w.heap.size, 0, none⟩) (.inl (Nat.le_refl _)) _).set_ (p := ⟨w.heap.size, 1, none⟩) (.inl (Nat.le_refl _)) _
        have hrz := (HR3.out.set_ 0 (.int .i64 30)).set_ 1 (.int .u64 (m : Nat))
        have z0 := hrz.cell 0
        have z1 := hrz.cell 1
        simp only [List.set_cons_zero, List.set_cons_succ, List.getElem?_cons_zero, List.getElem?_cons_succ] at z0 z1
        refine bodyPost_ret (v := .agg #[.int .i64 30, .int .u64 (m : Nat)]) (by simp [results, Try.results75, go_sem, z0, z1]) rfl ⟨by rw [HX.out]; rfl, by rw [HX.out]; exact HM3.out.past hq HM.out.dis, hcz⟩
      · have HX : Hid (F = none) := Lib.hid (by rw [HOF.out, if_neg (by simp only [true_and]; omega)])
        have h3 : (n : Int) ≤ (m : Int) - (at_ : Int) := by omega
        go_wp2_with fail
        have hbz : Below w.heap.size w ((w2.setCell ⟨w.heap.size, 0, none⟩ (.int .i64 0)).setCell ⟨w.heap.size, 1, none⟩ (.int .u64 0)) := (HBW.out.setCell (p := ⟨w.heap.size, 0, none⟩) (Nat.le_refl _) _).setCell (p := ⟨w.heap.size, 1, none⟩) (Nat.le_refl _) _
        have hrz := (HR2.out.set_ 0 (.int .i64 0)).set_ 1 (.int .u64 0)
        have z0 := hrz.cell 0
        have z1 := hrz.cell 1
        simp only [List.set_cons_zero, List.set_cons_succ, List.getElem?_cons_zero, List.getElem?_cons_succ] at z0 z1
        refine bodyPost_ret (v := .agg #[.int .i64 0, .int .u64 0]) (by simp [results, Try.results75, go_sem, z0, z1]) rfl ⟨by rw [HX.out]; rfl, by rw [HX.out]; exact HM.out.below hbz, ChgP.of_below hbz⟩
    · have HX : Hid (F = none) := Lib.hid (by rw [HOF.out, if_neg (by simp only [true_and]; omega)])
      go_wp2_with fail
      have hbz : Below w.heap.size w ((w2.setCell ⟨w.heap.size, 0, none⟩ (.int .i64 0)).setCell ⟨w.heap.size, 1, none⟩ (.int .u64 0)) := (HBW.out.setCell (p := ⟨w.heap.size, 0, none⟩) (Nat.le_refl _) _).setCell (p := ⟨w.heap.size, 1, none⟩) (Nat.le_refl _) _
      have hrz := (HR2.out.set_ 0 (.int .i64 0)).set_ 1 (.int .u64 0)
      have z0 := hrz.cell 0
      have z1 := hrz.cell 1
      simp only [List.set_cons_zero, List.set_cons_succ, List.getElem?_cons_zero, List.getElem?_cons_succ] at z0 z1
      refine bodyPost_ret (v := .agg #[.int .i64 0, .int .u64 0]) (by simp [results, Try.results75, go_sem, z0, z1]) rfl ⟨by rw [HX.out]; rfl, by rw [HX.out]; exact HM.out.below hbz, ChgP.of_below hbz⟩
end Bu
end Go.Proofs.Ytblfagmoilhdnaa

/- The walks of wide, Read, Peek, Load. -/
set_option linter.unusedVariables false
set_option linter.unusedSimpArgs false
namespace Go.Proofs.Ytblfagmoilhdnaa
open Go.RowKit
open S64
namespace Bu
def wideB (z : Int) : Bool := z == 1 || z == 2 || z == 4 || z == 8
set_option maxRecDepth 100000 in
theorem wide_any (z : Int) (w : World) : Calls Try.prog 74 #[.int .i64 z] w fun e w' => e = .returned (.bool (wideB z)) ∧ w' = w := by
  have H1 := Lib.hid (show wideB z = (z == 1 || z == 2 || z == 4 || z == 8) from rfl)
  obtain ⟨b, hb⟩ : ∃ b, b = wideB z := ⟨_, rfl⟩
  rw [← hb] at H1 ⊢
  clear hb
  cases h1 : (z == 1) with
  | true =>
    go_enter Try.func74, Try.ntmps74
    go_wp2_with fail
    go_ret
    exact ⟨by rw [H1.out, h1]; rfl, rfl⟩
  | false =>
  cases h2 : (z == 2) with
  | true =>
    go_enter Try.func74, Try.ntmps74
    go_wp2_with fail
    go_ret
    exact ⟨by rw [H1.out, h1, h2]; rfl, rfl⟩
  | false =>
  cases h3 : (z == 4) with
  | true =>
    go_enter Try.func74, Try.ntmps74
    go_wp2_with fail
    go_ret
    exact ⟨by rw [H1.out, h1, h2, h3]; rfl, rfl⟩
  | false =>
    go_enter Try.func74, Try.ntmps74
    go_wp2_with fail
    go_ret
    exact ⟨by rw [H1.out, h1, h2, h3]; rfl, rfl⟩
/-- what Read tells -/
def ReadSaid (Z R : Nat → Prop) (w : World) (g : Nat) (M : PM) (A1 A2 Ao : Option Addr) (x1 x2 no co b : Nat) (pm : Nat → Option Nat) (sp : Sp.S) (at_ n : Nat) (e : Ending) (w' : World) : Prop :=
  MachAt Z R w' g (stray M (offAt sp at_ n)) A1 A2 Ao x1 x2 no co b pm sp ∧ ChgP Z w w' ∧
  ((∃ p, offAt sp at_ n = some p ∧ e = .returned (.tuple #[.slice none 0 0, faultV (some p)])) ∨
   (offAt sp at_ n = none ∧ ∃ bb, e = .returned (.tuple #[.slice (some ⟨bb, 0, none⟩) n n, faultV none]) ∧ w.heap.size ≤ bb ∧ Row w' bb 5 (outB M.mem at_ n n)))
end Bu
end Go.Proofs.Ytblfagmoilhdnaa

/- The walks of word.width and word.Put over numbers of each type: a number's bytes are laid behind the list, in new memory. -/
set_option linter.unusedVariables false
set_option linter.unusedSimpArgs false
namespace Go.Proofs.Ytblfagmoilhdnaa
open Go.RowKit

/-- a slice of bytes that the call has made, in a row of its own from block 'base' on -/
def Own (w : World) (base : Nat) (A : Option Addr) (n c : Nat) (bs : List Nat) : Prop := w.ownsRow base 5 1 (.slice A n c) n (bs.map u8) ∧ (∀ b ∈ bs, b < 256) ∧ n ≤ 9223372036854775807
theorem Own.isB {w : World} {base n c : Nat} {A : Option Addr} {bs : List Nat} (h : Own w base A n c bs) : IsB w w.heap.size A n bs := ⟨Reads.of_own h.1, h.2⟩
theorem Own.len {w : World} {base n c : Nat} {A : Option Addr} {bs : List Nat} (h : Own w base A n c bs) : bs.length = n := by have := h.1.1; simpa using this
theorem Own.below {w w' : World} {base n c : Nat} {A : Option Addr} {bs : List Nat} (h : Own w base A n c bs) (hb : Below w.heap.size w w') : Own w' base A n c bs := by
  refine ⟨⟨h.1.1, ?_⟩, h.2⟩
  rcases h.1.2 with h2 | ⟨g, cap, cur, hv, hg, hh, r⟩
  · exact .inl h2
  · refine .inr ⟨g, cap, cur, hv, hg, ?_, r⟩
    have hlt : g < w.heap.size := Blk.lt (cs := cur) hh
    rw [hb.block g hlt]; exact hh
theorem Own.mono {w : World} {base base' n c : Nat} {A : Option Addr} {bs : List Nat} (h : Own w base A n c bs) (hb : base' ≤ base) : Own w base' A n c bs := by
  refine ⟨⟨h.1.1, ?_⟩, h.2⟩
  rcases h.1.2 with h2 | ⟨g, cap, cur, hv, hg, r⟩
  · exact .inl h2
  · exact .inr ⟨g, cap, cur, hv, by omega, r⟩
theorem info5w : (Try.prog.info? 5).map (fun i => (i.zero, i.size, i.bytes)) = some (some (.int .u8 0), 1, 1) := by kernel_rfl
theorem size5w : (Try.prog.info? 5).map (·.size) = some 1 := by kernel_rfl
theorem one_u8w (bs : List Nat) : ∀ v ∈ bs.map u8, v.oneCell' = true := by intro v hv; simp at hv; obtain ⟨b, _, rfl⟩ := hv; rfl
theorem madeCells_onew (z : Value) (n : Nat) : madeCells #[z] n = (List.replicate n z).toArray := by
  unfold madeCells
  apply Array.ext
  · simp
  · intro i h1 h2
    simp [Nat.mod_one]
/-- a made row, filled at its head, is owned -/
theorem own_of_splice {w : World} {g n k : Nat} {Z X : List Value} (h : w.heap[g]? = some (.cells (splice Z 0 X).toArray 5 (0, 0))) (hX : X.length = n) (hZ : Z.length = n + k) (hk : n + k ≤ maxLen) : w.ownsRow g 5 1 (.slice (some ⟨g, 0, none⟩) n (n + k)) n X := by
  refine ⟨by simp [hX], .inr ⟨g, n + k, _, rfl, Nat.le_refl _, h, by omega, hk, ?_, ?_⟩⟩
  · simp [splice, hX, hZ]
  · simp [splice, hX]
/-- make([]T, l, c), one cell an element -/
theorem run_make_rowN' {P : Program} (t e : TypeId) (z : Value) (bytes : Nat) (ht : P.underlying t = some (.slice e)) (hinfo : (P.info? e).map (fun i => (i.zero, i.size, i.bytes)) = some (some z, 1, bytes)) (hz1 : z.cells = #[z])
    (kl kc : IntKind) (n c : Nat) (hnc : n ≤ c) (hbytes : bytes * c ≤ 281474976710656) (h63 : c ≤ 9223372036854775807) (w : World) :
    (Instr.makeSlice t (.int kl (n : Int)) (.int kc (c : Int))).run P w = .ok (.slice (some ⟨w.heap.size, 0, none⟩) n c) (w.alloc (.cells (madeCells #[z] c) e)) := by
  obtain ⟨i, hi, hzz⟩ := Option.map_eq_some_iff.1 hinfo
  simp only [Prod.mk.injEq] at hzz
  obtain ⟨hz, hs, hb⟩ := hzz
  have hb' : (i.bytes : Int) * (c : Int) ≤ 281474976710656 := by
    have h : ((i.bytes * c : Nat) : Int) ≤ 281474976710656 := by rw [hb]; omega
    rwa [Int.natCast_mul] at h
  have hr := run_make (P := P) w t e i z ht hi hz kl kc n c (by omega) (by omega) hb' (by omega)
  simp only [Int.toNat_natCast] at hr
  rw [hz1, hs, Nat.mul_one] at hr
  exact hr
theorem shr_u64 (n i : Nat) : (n >>> i : Nat) = n / 2 ^ i := Nat.shiftRight_eq_div_pow n i

set_option maxRecDepth 100000 in
set_option maxHeartbeats 1000000 in
theorem width_uint64 (w : World) : Calls Try.prog 65 #[] w fun e w' => e = .returned (.int .i64 8) ∧ w = w' := by
  go_enter Try.func65, Try.ntmps65
  go_wp2
  go_loop [1, 2] (fun n x => (x = .int .u64 18446744073709551615 ∧ n = .int .i64 0) ∨ (x = .int .u64 72057594037927935 ∧ n = .int .i64 1) ∨ (x = .int .u64 281474976710655 ∧ n = .int .i64 2) ∨ (x = .int .u64 1099511627775 ∧ n = .int .i64 3) ∨ (x = .int .u64 4294967295 ∧ n = .int .i64 4) ∨ (x = .int .u64 16777215 ∧ n = .int .i64 5) ∨ (x = .int .u64 65535 ∧ n = .int .i64 6) ∨ (x = .int .u64 255 ∧ n = .int .i64 7) ∨ (x = .int .u64 0 ∧ n = .int .i64 8)) (fun n _ => 8 - (intOf n).toNat)
  case atStart => exact .inl ⟨congrArg (Value.int _) (by decide), rfl⟩
  case round =>
    rcases hrel with ⟨rfl, rfl⟩ | ⟨rfl, rfl⟩ | ⟨rfl, rfl⟩ | ⟨rfl, rfl⟩ | ⟨rfl, rfl⟩ | ⟨rfl, rfl⟩ | ⟨rfl, rfl⟩ | ⟨rfl, rfl⟩ | ⟨rfl, rfl⟩
    all_goals
      go_wp2
      first
        | (go_ret; exact ⟨rfl, rfl⟩)
        | (go_round
           case rel => simp
           case measure => simp [intOf])

set_option maxRecDepth 100000 in
set_option maxHeartbeats 1000000 in
theorem put_uint64 (A : Option Addr) (m c : Nat) (bs : List Nat) (n : Nat) (w : World) (ha : IsB w w.heap.size A m bs) (hm : m ≤ 140737488351232) (hn : n < 18446744073709551616) :
    Calls Try.prog 84 #[.slice A m c, .int .u64 (n : Nat)] w fun e w' => (∃ g c', e = .returned (.slice (some ⟨g, 0, none⟩) (m + 8) c') ∧ Own w' w.heap.size (some ⟨g, 0, none⟩) (m + 8) c' (bs ++ Wd.le 8 n)) ∧ Below w.heap.size w w' := by
  have hmk := run_make_rowN' (P := Try.prog) 25 5 (.int .u8 0) 1 Try.underlying25 info5w rfl .i64 .i64 m (m + 8) (by omega) (by omega) (by omega)
  rw [madeCells_onew] at hmk
  rw [show ((m + 8 : Nat) : Int) = (m : Int) + 8 by omega] at hmk
  have HBS := Lib.hid ha.2.1
  have HL := Lib.hid ha.len
  obtain ⟨X, hX⟩ : ∃ X, X = bs.map u8 := ⟨_, rfl⟩
  have hXl : X.length = m := by rw [hX]; simpa using ha.len
  obtain ⟨Z, hZ⟩ : ∃ Z : List Value, Z = List.replicate (m + 8) (.int .u8 0) := ⟨_, rfl⟩
  rw [← hZ] at hmk
  have hZl : Z.length = m + 8 := by rw [hZ]; simp
  have hr := ha.1
  rw [← hX] at hr
  have h1 : ∀ v ∈ X, v.oneCell' = true := by rw [hX]; exact one_u8w bs
  have HX := Lib.hid hX
  have HXl := Lib.hid hXl
  have HZl := Lib.hid hZl
  have H1 := Lib.hid h1
  have HR := Lib.hid hr
  obtain ⟨i0, hi0, hz1, hz2, hz3⟩ := info_parts info5w
  have HI := Lib.hid hi0; have HZ2 := Lib.hid hz2
  have ew : IntKind.u64.wrap (n : Int) = (n : Int) := by rw [IntKind.wrap_u64]; omega
  have HN := Lib.hid hn
  clear hX hXl hZ hZl h1 ha hr hi0 hz1 hz2 hz3 hn
  go_enter Try.func84, Try.ntmps84
  go_wp2_with (first
    | (go_at_call 65; refine (width_uint64 _).mono ?_; rintro e w' ⟨rfl, rfl⟩)
    | (with_reducible refine wpList_copy_splice rfl (.tmp 13) (.tmp 14) 25 25 rfl 5 Try.underlying25 size5w _ _ _ _ _ _ rfl rfl w.heap.size 0 Z 5 (Row.new w 5 Z).out X ?hn ?hpos ?hfit H1.out w.heap.size w ((Below.refl _ _).alloc (Nat.le_refl _) _) (Nat.le_refl _) ?_; rotate_right; intro w2 HG hb2))
  case hn => rw [HXl.out]; exact (Nat.min_eq_left (Nat.le_refl _)).symm
  case hpos => intro h0; have h2 := HR.out.alloc (Nat.le_refl _) (.cells Z.toArray 5); obtain ⟨ad, e, _, hc⟩ := h2.2 (by have := HXl.out; omega); first | exact ⟨rfl, ad, e, hc⟩ | exact ⟨ad, e, hc⟩
  case hfit => have := HXl.out; have := HZl.out; omega
  have hown : w2.ownsRow w.heap.size 5 1 (.slice (some ⟨w.heap.size, 0, none⟩) m (m + 8)) m X := own_of_splice HG.out HXl.out HZl.out (by unfold maxLen; omega)
  have HOWN := Lib.hid hown
  have HB2 := Lib.hid hb2
  clear hown hb2 HG hmk
  go_loopw [5, 17] (fun v i wr => ∃ j : Nat, j ≤ 8 ∧ i = .int .i64 j ∧ v = .slice (some ⟨w.heap.size, 0, none⟩) (m + j) (m + 8) ∧ Hid (wr.ownsRow w.heap.size 5 1 (.slice (some ⟨w.heap.size, 0, none⟩) (m + j) (m + 8)) (m + j) ((bs ++ Wd.le j n).map u8)) ∧ Hid (Below w.heap.size w wr)) (fun _ i _ => 8 - (intOf i).toNat)
  case atStart => exact ⟨0, by omega, rfl, rfl, Lib.hid (by rw [Wd.le, List.append_nil, ← HX.out]; exact HOWN.out), HB2⟩
  case round =>
    obtain ⟨j, hj, rfl, rfl, HO, HBr⟩ := hrel
    by_cases hjn : j < 8
    · obtain ⟨y, hy⟩ : ∃ y, y = n / 256 ^ j % 256 := ⟨_, rfl⟩
      obtain ⟨s, hs⟩ : ∃ s, s = n / 256 ^ j := ⟨_, rfl⟩
      have e1 : (n : Int) / 2 ^ (8 * j) = (s : Int) := by
        rw [hs, show (256 : Nat) = 2 ^ 8 from rfl, ← Nat.pow_mul]
        norm_cast
      have e2 : IntKind.u8.wrap (s : Int) = (y : Int) := by rw [hy, ← hs]; simp [IntKind.wrap, IntKind.bits, IntKind.signed]
      have HY := Lib.hid hy
      clear hy hs
      go_wp2_with (at_builtin; refine wpList_append_fits _ rfl (.tmp 20) (.tmp 26) 25 rfl w.heap.size 5 i0 1 Try.underlying25 HI.out HZ2.out w.heap.size (m + j) (m + 8) _ rfl (HO.out.alloc _) ⟨wr.heap.size, 0, none⟩ 1 1 [.int .u8 (y : Int)] rfl rfl (cell_one_new _ _ _) (ints_oneCell .u8 [(y : Int)]) (by omega) ?_; intro w3 hown3 hg3; have HO3 := Lib.hid hown3; have HG3 := Lib.hid hg3; clear hown3 hg3)
      have hb3 : Below w.heap.size w w3 := ((HBr.out.alloc HBr.out.size (.cells #[.int .u8 (y : Int)] 5)).grown HG3.out (Nat.le_trans HBr.out.size (by simp)) (fun k hk => by simp at hk; omega))
      have HB3 := Lib.hid hb3
      clear hb3
      go_roundw
      case rel => exact ⟨j + 1, by omega, by go_num, rfl, Lib.hid (by have h := HO3.out; rw [Wd.le_succ, ← List.append_assoc, List.map_append, ← HY.out]; exact h), HB3⟩
      case measure => simp [intOf]; omega
    · have HJ : Hid (j = 8) := Lib.hid (by omega)
      go_wp2_with fail
      go_ret
      have hjj := HJ.out
      subst hjj
      exact ⟨⟨w.heap.size, _, rfl, HO.out, (by
        intro b hb
        rcases List.mem_append.1 hb with h | h
        · exact HBS.out b h
        · exact Wd.le_lt _ _ b h), by omega⟩, HBr.out⟩
end Go.Proofs.Ytblfagmoilhdnaa

/- The walks of word.Get over numbers of each type: the number that the first bytes are. -/
set_option linter.unusedVariables false
set_option linter.unusedSimpArgs false
namespace Go.Proofs.Ytblfagmoilhdnaa
open Go.RowKit

theorem or_step (bs : List Nat) (j : Nat) (h8 : j < 8) (hj : j < bs.length) (hb : ∀ b ∈ bs, b < 256) :
    bits .or .u64 (Wd.unle (bs.take j) : Nat) (IntKind.u64.wrap (((bs.getD j 0 : Nat) : Int) * 2 ^ (8 * j))) = (Wd.unle (bs.take (j + 1)) : Nat) := by
  have hl : (bs.take j).length = j := by simp; omega
  have h1 := Wd.unle_lt (bs.take j) (fun b hb' => hb b (List.mem_of_mem_take hb'))
  rw [hl] at h1
  have hx := hb _ (getD_mem bs j hj)
  obtain ⟨x, hxe⟩ : ∃ x, x = bs.getD j 0 := ⟨_, rfl⟩
  rw [take_snoc bs j hj, Wd.unle_append, hl]
  rw [← hxe] at hx ⊢
  obtain ⟨y, hy⟩ : ∃ y, y = Wd.unle (bs.take j) := ⟨_, rfl⟩
  rw [← hy] at h1 ⊢
  have hp : (256 : Nat) ^ j = 2 ^ (8 * j) := by rw [show (256 : Nat) = 2 ^ 8 from rfl, ← Nat.pow_mul]
  have hle : (2 : Nat) ^ (8 * j) ≤ 2 ^ 56 := Nat.pow_le_pow_right (by decide) (by omega)
  have hm : x * 2 ^ (8 * j) < 18446744073709551616 := by
    have h3 : x * 2 ^ (8 * j) ≤ 255 * 2 ^ 56 := Nat.mul_le_mul (by omega) hle
    have h4 : (2 : Nat) ^ 56 = 72057594037927936 := by decide
    omega
  have hc : ((x : Nat) : Int) * 2 ^ (8 * j) = ((x * 2 ^ (8 * j) : Nat) : Int) := by norm_cast
  have hw : IntKind.u64.wrap ((x * 2 ^ (8 * j) : Nat) : Int) = ((x * 2 ^ (8 * j) : Nat) : Int) := by rw [IntKind.wrap_u64]; omega
  have hy2 : y < 2 ^ (8 * j) := by rw [← hp]; exact h1
  have hy3 : y < 18446744073709551616 := by
    have h4 : (2 : Nat) ^ 56 = 72057594037927936 := by decide
    omega
  rw [hc, hw, bits_or_u64_nat y _ hy3 hm]
  have h5 : y ||| x * 2 ^ (8 * j) = y + x * 2 ^ (8 * j) := by
    rw [Nat.or_comm, Nat.mul_comm, ← Nat.two_pow_add_eq_or_of_lt hy2, Nat.add_comm]
  rw [h5, hp]
  simp [Wd.unle, Nat.mul_comm]

set_option maxRecDepth 100000 in
set_option maxHeartbeats 1000000 in
theorem get_uint64 (A : Option Addr) (n c : Nat) (bs : List Nat) (w : World) (ha : IsB w w.heap.size A n bs) (hk : 8 ≤ n) (hc : n ≤ c) :
    Calls Try.prog 39 #[.slice A n c] w fun e w' => e = .returned (.tuple #[.int .u64 (Wd.unle (bs.take 8) : Nat), .bool true]) ∧ w = w' := by
  have hn := ha.2.2
  have hlen := ha.len
  obtain ⟨b, off, HF⟩ := ha.form
  have HBY := Lib.hid ha.2.1
  have hlt := Wd.unle_lt (bs.take 8) (fun b hb' => ha.2.1 b (List.mem_of_mem_take hb'))
  rw [show (bs.take 8).length = 8 by simp; omega] at hlt
  have HLT := Lib.hid hlt
  clear ha hlt
  go_enter Try.func39, Try.ntmps39
  go_wp2_with (first
    | (go_at_call 65; refine (width_uint64 _).mono ?_; rintro e w' ⟨rfl, rfl⟩))
  go_loop [5, 17] (fun x i => ∃ j : Nat, j ≤ 8 ∧ i = .int .i64 j ∧ x = .int .u64 (Wd.unle (bs.take j) : Nat)) (fun _ i => 8 - (intOf i).toNat)
  case atStart => exact ⟨0, by omega, rfl, rfl⟩
  case round =>
    obtain ⟨j, hj, rfl, rfl⟩ := hrel
    by_cases hjn : j < 8
    · obtain ⟨hA, hbB, hcc⟩ := HF.out (by omega)
      subst hA
      have hcj := hcc j (by omega)
      have hcb := HBY.out _ (getD_mem bs j (by omega))
      have HS := Lib.hid (or_step bs j (by omega) (by omega) HBY.out)
      obtain ⟨x, hx⟩ : ∃ x, x = bs.getD j 0 := ⟨_, rfl⟩
      rw [← hx] at hcj hcb HS
      obtain ⟨y, hy⟩ : ∃ y, y = Wd.unle (bs.take j) := ⟨_, rfl⟩
      rw [← hy] at HS ⊢
      have HX := Lib.hid hx; have HY := Lib.hid hy; clear hx hy
      clear hcc
      go_wp2
      go_round
      case rel => exact ⟨j + 1, by omega, by go_num, by rw [HS.out]⟩
      case measure => simp [intOf]; omega
    · have HJ : Hid (j = 8) := Lib.hid (by omega)
      obtain ⟨y, hy⟩ : ∃ y, y = Wd.unle (bs.take j) := ⟨_, rfl⟩
      have hyl : y < 18446744073709551616 := by rw [hy, HJ.out]; exact HLT.out
      rw [← hy]
      have HY := Lib.hid hy
      have ew : IntKind.u64.wrap (y : Int) = (y : Int) := by rw [IntKind.wrap_u64]; omega
      clear hy hyl
      go_wp2
      go_ret2
      exact ⟨by rw [HY.out, HJ.out]; rfl, rfl⟩
set_option maxRecDepth 100000 in
set_option maxHeartbeats 1000000 in
theorem getno_uint64 (A : Option Addr) (n c : Nat) (bs : List Nat) (w : World) (hk : n < 8) :
    Calls Try.prog 39 #[.slice A n c] w fun e w' => e = .returned (.tuple #[.int .u64 0, .bool false]) ∧ w = w' := by
  go_enter Try.func39, Try.ntmps39
  go_wp2_with (first
    | (go_at_call 65; refine (width_uint64 _).mono ?_; rintro e w' ⟨rfl, rfl⟩))
  go_ret2
  exact ⟨rfl, rfl⟩
end Go.Proofs.Ytblfagmoilhdnaa
