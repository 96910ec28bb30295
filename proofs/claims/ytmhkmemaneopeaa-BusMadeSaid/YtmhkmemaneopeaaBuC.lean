/- The walk of a machine's access. -/
import Derived.Test.YtmhkmemaneopeaaBuB
set_option linter.unusedVariables false
set_option linter.unusedSimpArgs false
namespace Go.Proofs.Ytmhkmemaneopeaa
open Go.RowKit
open S64
namespace Bu
/-- the first of n bytes that is off the bus -/
def offAt (sp : Sp.S) (at_ n : Nat) : Option Nat := if (Sp.next sp at_).2 = true ∧ 0 < n ∧ (Sp.next sp at_).1 < at_ + n then some (Sp.next sp at_).1 else none
def faultV (f : Option Nat) : Value := match f with
  | none => .agg #[.int .i64 0, .int .u64 0]
  | some p => .agg #[.int .i64 30, .int .u64 (p : Nat)]
def stray (M : PM) (f : Option Nat) : PM := match f with
  | none => M
  | some _ => { M with strays := M.strays + 1 }
theorem offAt_none {Z R : Nat → Prop} {w : World} {g : Nat} {M : PM} {A1 A2 Ao : Option Addr} {c1 c2 no co b : Nat} {pm : Nat → Option Nat} {sp : Sp.S} (h : MachAt Z R w g M A1 A2 Ao c1 c2 no co b pm sp) {at_ n : Nat} (ha : at_ ≤ TOP) (hf : offAt sp at_ n = none) : n = 0 ∨ at_ + n ≤ 4294967296 := by
  rcases Nat.eq_zero_or_pos n with h0 | h0
  · exact .inl h0
  refine .inr ?_
  rcases Nat.lt_or_ge 4294967296 (at_ + n) with hc | hc
  · exfalso
    -- a byte at or behind 2^32 is off the bus
    obtain ⟨p, hp1, hp2, hp3, hp4⟩ : ∃ p, at_ ≤ p ∧ p < at_ + n ∧ p ≤ TOP ∧ 4294967296 ≤ p := by
      rcases Nat.lt_or_ge at_ 4294967296 with h1 | h1
      · exact ⟨4294967296, by omega, by omega, by unfold TOP; omega, Nat.le_refl _⟩
      · exact ⟨at_, Nat.le_refl _, by omega, ha, h1⟩
    have hon : Sp.has sp p = true := by
      rw [h.has p hp3]
      cases ho : on (M.rams ++ M.devs) p with
      | false => rfl
      | true => have := h.lim p ho; omega
    unfold offAt at hf
    cases hx : Sp.next sp at_ with
    | mk m o =>
      rw [hx] at hf
      cases o with
      | false =>
        have := (Sp.next_none h.nrm.1 (show (Sp.next sp at_).2 = false by rw [hx])).2 p hp1
        rw [this] at hon; cases hon
      | true =>
        obtain ⟨g1, g2, g3⟩ := Sp.next_some h.nrm.1 hx
        have hm : m ≤ p := by
          rcases Nat.lt_or_ge p m with h4 | h4
          · have := g3 p hp1 h4; rw [this] at hon; cases hon
          · exact h4
        rw [if_pos ⟨rfl, h0, by simp only; omega⟩] at hf
        cases hf
  · exact hc
theorem has_top {s : Sp.S} (h : Sp.Nrm TOP s) {p : Nat} (hp : Sp.has s p = true) : p ≤ TOP := by
  obtain ⟨x, hx, h1, h2⟩ := Sp.has_iff.1 hp
  have := h.ok x hx
  omega
/-- a counter of the machine turned -/
theorem MachAt.count {Z R : Nat → Prop} {w : World} {g : Nat} {M : PM} {A1 A2 Ao : Option Addr} {c1 c2 no co b : Nat} {pm : Nat → Option Nat} {sp : Sp.S} (h : MachAt Z R w g M A1 A2 Ao c1 c2 no co b pm sp) (i : Nat) (v : Value) (M' : PM) (hr : M'.rams = M.rams) (hd : M'.devs = M.devs) (hm : M'.mem = M.mem)
    (hv : [.int .i64 (M.loads : Nat), .int .i64 (M.stores : Nat), .int .i64 (M.strays : Nat), .slice A1 M.rams.length c1, .slice A2 M.devs.length c2, .slice Ao no co, .map (some b)].set i v = [.int .i64 (M'.loads : Nat), .int .i64 (M'.stores : Nat), .int .i64 (M'.strays : Nat), .slice A1 M.rams.length c1, .slice A2 M.devs.length c2, .slice Ao no co, .map (some b)]) :
    MachAt Z R (w.setCell ⟨g, i, none⟩ v) g M' A1 A2 Ao c1 c2 no co b pm sp := by
  have hrow := h.row.set_ i v
  rw [hv] at hrow
  have hc : ChgP (fun k => k = g) w (w.setCell ⟨g, i, none⟩ v) := (ChgP.refl (fun k => k = g) w).set_ (p := ⟨g, i, none⟩) (.inl rfl) v
  have hR : ∀ k, R k → ¬ k = g := fun k hk e => h.dis g h.zg (e ▸ hk)
  have hl1 := h.l1.chg hc hR
  have hl2 := h.l2.chg hc hR
  have hlo := h.lo.chg hc hR
  have hbg : b ≠ g := by
    rintro rfl
    obtain ⟨⟨D, n, ⟨es, clock, hb, _⟩, _⟩, _⟩ := h.map
    have := h.row.symm.trans hb
    cases this
  refine ⟨by rw [hr, hd]; exact hrow, h.zg, h.zb, by rw [hr]; exact hl1, by rw [hd]; exact hl2, hlo, h.nrm, by rw [hr, hd]; exact h.has, by rw [hr, hd]; exact h.lim, h.map.same (hc.block b h.map.lt hbg), fun k p hp => ?_, h.inj, by rw [hm]; exact h.zero, by rw [hm]; exact h.byte, h.dis⟩
  obtain ⟨h1, h2, h3⟩ := h.leaf k p hp
  rw [hm]
  exact ⟨hc.row h1 (Row.ne_t h1 h.row (by decide)), h2, h3⟩
/-- what it owns is there now -/
theorem MachAt.tight {Z R : Nat → Prop} {w : World} {g : Nat} {M : PM} {A1 A2 Ao : Option Addr} {c1 c2 no co b : Nat} {pm : Nat → Option Nat} {sp : Sp.S} (h : MachAt Z R w g M A1 A2 Ao c1 c2 no co b pm sp) :
    MachAt (fun k => Z k ∧ k < w.heap.size) (fun k => R k ∧ k < w.heap.size) w g M A1 A2 Ao c1 c2 no co b pm sp :=
  ⟨h.row, ⟨h.zg, h.row.lt⟩, ⟨h.zb, h.map.lt⟩, ⟨h.l1.1, h.l1.2.1, h.l1.2.2.1, fun ad e h0 => ⟨h.l1.2.2.2 ad e h0, IsS.lt h.l1.1 h0 ad e⟩⟩, ⟨h.l2.1, h.l2.2.1, h.l2.2.2.1, fun ad e h0 => ⟨h.l2.2.2.2 ad e h0, IsS.lt h.l2.1 h0 ad e⟩⟩, ⟨h.lo.1, h.lo.2.1, h.lo.2.2.1, fun ad e h0 => ⟨h.lo.2.2.2 ad e h0, IsS.lt h.lo.1 h0 ad e⟩⟩,
    h.nrm, h.has, h.lim, h.map, fun k p hp => by
      obtain ⟨h1, h2, h3⟩ := h.leaf k p hp
      exact ⟨h1, ⟨h2, h1.lt⟩, h3⟩, h.inj, h.zero, h.byte, fun k hk hr => h.dis k hk.1 hr.1⟩
/-- it stands while new blocks are made, and those that were new are written -/
theorem MachAt.past {Z R : Nat → Prop} {w' w'' : World} {g : Nat} {M : PM} {A1 A2 Ao : Option Addr} {c1 c2 no co b : Nat} {pm : Nat → Option Nat} {sp : Sp.S} {N : Nat} (h : MachAt (fun k => Z k ∧ k < N) (fun k => R k ∧ k < N) w' g M A1 A2 Ao c1 c2 no co b pm sp) (hc : ChgP (fun k => N ≤ k) w' w'') (hd : ∀ k, Z k → ¬ R k) :
    MachAt Z R w'' g M A1 A2 Ao c1 c2 no co b pm sp :=
  (h.chg hc (fun k hk hy => by rcases hk with hk | hk <;> have := hk.2 <;> omega)).mono (fun k hk => hk.1) (fun k hk => hk.1) hd
set_option maxRecDepth 100000 in
set_option maxHeartbeats 1000000 in
theorem access_any (Z R : Nat → Prop) (M : PM) (A1 A2 Ao : Option Addr) (x1 x2 no co b : Nat) (pm : Nat → Option Nat) (sp : Sp.S) (at_ n g : Nat) (w : World)
    (hm : MachAt Z R w g M A1 A2 Ao x1 x2 no co b pm sp) (hn : n ≤ 9223372036854775807) (ha : at_ ≤ TOP) (hs : M.strays < 9223372036854775807) :
    Calls Try.prog 42 #[.pointer (some ⟨g, 0, none⟩), .int .u64 (at_ : Nat), .int .i64 (n : Nat)] w
      fun e w' => e = .returned (faultV (offAt sp at_ n)) ∧ MachAt Z R w' g (stray M (offAt sp at_ n)) A1 A2 Ao x1 x2 no co b pm sp ∧ ChgP Z w w' := by
  have HNX : Hid (∀ wx, Below w.heap.size w wx → Calls Try.prog 61 #[.agg #[.slice Ao no co], .int .u64 (at_ : Nat)] wx fun e w' => e = .returned (.tuple #[.int .u64 ((Sp.next sp at_).1 : Nat), .bool (Sp.next sp at_).2]) ∧ Below wx.heap.size wx w') := Lib.hid fun wx hb => next_any Ao no co at_ sp wx ((hm.lo.isSet hm.nrm).below hb) ha
  have HM := Lib.hid hm
  have HA := Lib.hid ha
  have HOF : Hid (offAt sp at_ n = if (Sp.next sp at_).2 = true ∧ 0 < n ∧ (Sp.next sp at_).1 < at_ + n then some (Sp.next sp at_).1 else none) := Lib.hid rfl
  have HNS : Hid ((Sp.next sp at_).2 = true → at_ ≤ (Sp.next sp at_).1 ∧ (Sp.next sp at_).1 ≤ TOP) := Lib.hid (by
    intro h
    cases hx : Sp.next sp at_ with
    | mk m o =>
      rw [hx] at h
      simp only at h
      subst h
      obtain ⟨h1, h2, h3⟩ := Sp.next_some hm.nrm.1 hx
      exact ⟨h1, has_top hm.nrm.1 h2⟩)
  obtain ⟨F, hF⟩ : ∃ F, F = offAt sp at_ n := ⟨_, rfl⟩
  rw [← hF] at HOF ⊢
  clear hF
  obtain ⟨P, hP⟩ : ∃ P, P = Sp.next sp at_ := ⟨_, rfl⟩
  rw [← hP] at HNX HOF HNS
  clear hP
  obtain ⟨m, ok⟩ := P
  simp only at HNX HOF HNS
  clear hm ha
  go_enter Try.func42, Try.ntmps42
  go_upto_region 1 with fail
  have r0 : Row (w.alloc (.cells #[.int .i64 0, .int .u64 0] 42)) w.heap.size 42 [.int .i64 0, .int .u64 0] := Row.new w _ [.int .i64 0, .int .u64 0]
  have hb0 : Below w.heap.size w (w.alloc (.cells #[.int .i64 0, .int .u64 0] 42)) := (Below.refl _ _).alloc (Nat.le_refl _) _
  generalize w.alloc (.cells #[.int .i64 0, .int .u64 0] 42) = w1 at *
  have HM1 : Hid (MachAt Z R w1 g M A1 A2 Ao x1 x2 no co b pm sp) := Lib.hid (HM.out.below hb0)
  have p5 := HM1.out.row.cell 5
  have lg := HM1.out.row.lt
  simp only [List.getElem?_cons_zero, List.getElem?_cons_succ] at p5
  have HB0 := Lib.hid hb0; have HR0 := Lib.hid r0
  clear hb0 r0
  go_upto_region 2 with (go_at_call 61; refine (HNX.out w1 HB0.out).mono ?_; rintro e w2 ⟨rfl, hb2⟩; have HB2 := Lib.hid hb2; clear hb2)
  have hr2 := HR0.out.below HB2.out HR0.out.lt
  have f0 := hr2.cell 0
  have f1 := hr2.cell 1
  have fz0 := hr2.frozen 0
  have fz1 := hr2.frozen 1
  have lf := hr2.lt
  simp only [List.getElem?_cons_zero, List.getElem?_cons_succ] at f0 f1
  have HR2 := Lib.hid hr2
  have HM2 : Hid (MachAt Z R w2 g M A1 A2 Ao x1 x2 no co b pm sp) := Lib.hid (HM1.out.below HB2.out)
  have HBW : Hid (Below w.heap.size w w2) := Lib.hid (HB0.out.trans (HB2.out.mono HB0.out.size))
  have HT2 : Hid (MachAt (fun k => Z k ∧ k < w.heap.size) (fun k => R k ∧ k < w.heap.size) w2 g M A1 A2 Ao x1 x2 no co b pm sp) := Lib.hid (HM.out.tight.below HBW.out)
  have lg2 := HM2.out.row.lt
  have g2 := HM2.out.row.cell 2
  have gz2 := HM2.out.row.frozen 2
  simp only [List.getElem?_cons_zero, List.getElem?_cons_succ] at g2
  clear hr2 p5 lg HNX
  cases ok with
  | false =>
    have HX : Hid (F = none) := Lib.hid (by rw [HOF.out]; rfl)
    go_wp2_with fail
    have hbz : Below w.heap.size w ((w2.setCell ⟨w.heap.size, 0, none⟩ (.int .i64 0)).setCell ⟨w.heap.size, 1, none⟩ (.int .u64 0)) := (HBW.out.setCell (p := ⟨w.heap.size, 0, none⟩) (Nat.le_refl _) _).setCell (p := ⟨w.heap.size, 1, none⟩) (Nat.le_refl _) _
    have hrz := (HR2.out.set_ 0 (.int .i64 0)).set_ 1 (.int .u64 0)
    have z0 := hrz.cell 0
    have z1 := hrz.cell 1
    simp only [List.set_cons_zero, List.set_cons_succ, List.getElem?_cons_zero, List.getElem?_cons_succ] at z0 z1
    refine bodyPost_ret (v := .agg #[.int .i64 0, .int .u64 0]) (by simp [results, Try.results42, go_sem, z0, z1]) rfl ⟨by rw [HX.out]; rfl, by rw [HX.out]; exact HM.out.below hbz, ChgP.of_below hbz⟩
  | true =>
    by_cases hn0 : 0 < n
    · have h1 := (HNS.out rfl).1
      have h2 : m ≤ 18446744073709551615 := (HNS.out rfl).2
      by_cases hlt : m - at_ < n
      · have HX : Hid (F = some m) := Lib.hid (by rw [HOF.out, if_pos ⟨rfl, hn0, by omega⟩])
        have h3 : (m : Int) - (at_ : Int) < (n : Int) := by omega
        go_upto_region 4 with fail
        have HM3 : Hid (MachAt (fun k => Z k ∧ k < w.heap.size) (fun k => R k ∧ k < w.heap.size) (w2.setCell ⟨g, 2, none⟩ (.int .i64 ((M.strays : Int) + 1))) g { M with strays := M.strays + 1 } A1 A2 Ao x1 x2 no co b pm sp) := Lib.hid (HT2.out.count 2 _ _ rfl rfl rfl (by simp))
        have hne : w.heap.size ≠ g := Row.ne_t HR2.out HM2.out.row (by decide)
        have HR3 : Hid (Row (w2.setCell ⟨g, 2, none⟩ (.int .i64 ((M.strays : Int) + 1))) w.heap.size 42 [.int .i64 0, .int .u64 0]) := Lib.hid (HR2.out.far (p := ⟨g, 2, none⟩) hne _)
        have HC3 : Hid (ChgP Z w (w2.setCell ⟨g, 2, none⟩ (.int .i64 ((M.strays : Int) + 1)))) := Lib.hid ((ChgP.of_below HBW.out).set_ (p := ⟨g, 2, none⟩) (.inl HM.out.zg) _)
        clear f0 f1 fz0 fz1 lf g2 gz2 lg2 hne
        generalize w2.setCell ⟨g, 2, none⟩ (.int .i64 ((M.strays : Int) + 1)) = w3 at *
        have f0 := HR3.out.cell 0
        have f1 := HR3.out.cell 1
        have fz0 := HR3.out.frozen 0
        have fz1 := HR3.out.frozen 1
        have lf := HR3.out.lt
        simp only [List.getElem?_cons_zero, List.getElem?_cons_succ] at f0 f1
        go_wp2_with fail
        have hcz : ChgP Z w ((w3.setCell ⟨w.heap.size, 0, none⟩ (.int .i64 30)).setCell ⟨w.heap.size, 1, none⟩ (.int .u64 (m : Nat))) := (HC3.out.set_ (p := ⟨w.heap.size, 0, none⟩) (.inr (Nat.le_refl _)) _).set_ (p := ⟨w.heap.size, 1, none⟩) (.inr (Nat.le_refl _)) _
        have hq : ChgP (fun k => w.heap.size ≤ k) w3 ((w3.setCell ⟨w.heap.size, 0, none⟩ (.int .i64 30)).setCell ⟨w.heap.size, 1, none⟩ (.int .u64 (m : Nat))) := ((ChgP.refl (fun k => w.heap.size ≤ k) w3).set_ (p := ⟨w.heap.size, 0, none⟩) (.inl (Nat.le_refl _)) _).set_ (p := ⟨w.heap.size, 1, none⟩) (.inl (Nat.le_refl _)) _
        have hrz := (HR3.out.set_ 0 (.int .i64 30)).set_ 1 (.int .u64 (m : Nat))
        have z0 := hrz.cell 0
        have z1 := hrz.cell 1
        simp only [List.set_cons_zero, List.set_cons_succ, List.getElem?_cons_zero, List.getElem?_cons_succ] at z0 z1
        refine bodyPost_ret (v := .agg #[.int .i64 30, .int .u64 (m : Nat)]) (by simp [results, Try.results42, go_sem, z0, z1]) rfl ⟨by rw [HX.out]; rfl, by rw [HX.out]; exact HM3.out.past hq HM.out.dis, hcz⟩
      · have HX : Hid (F = none) := Lib.hid (by rw [HOF.out, if_neg (by simp only [true_and]; omega)])
        have h3 : (n : Int) ≤ (m : Int) - (at_ : Int) := by omega
        go_wp2_with fail
        have hbz : Below w.heap.size w ((w2.setCell ⟨w.heap.size, 0, none⟩ (.int .i64 0)).setCell ⟨w.heap.size, 1, none⟩ (.int .u64 0)) := (HBW.out.setCell (p := ⟨w.heap.size, 0, none⟩) (Nat.le_refl _) _).setCell (p := ⟨w.heap.size, 1, none⟩) (Nat.le_refl _) _
        have hrz := (HR2.out.set_ 0 (.int .i64 0)).set_ 1 (.int .u64 0)
        have z0 := hrz.cell 0
        have z1 := hrz.cell 1
        simp only [List.set_cons_zero, List.set_cons_succ, List.getElem?_cons_zero, List.getElem?_cons_succ] at z0 z1
        refine bodyPost_ret (v := .agg #[.int .i64 0, .int .u64 0]) (by simp [results, Try.results42, go_sem, z0, z1]) rfl ⟨by rw [HX.out]; rfl, by rw [HX.out]; exact HM.out.below hbz, ChgP.of_below hbz⟩
    · have HX : Hid (F = none) := Lib.hid (by rw [HOF.out, if_neg (by simp only [true_and]; omega)])
      go_wp2_with fail
      have hbz : Below w.heap.size w ((w2.setCell ⟨w.heap.size, 0, none⟩ (.int .i64 0)).setCell ⟨w.heap.size, 1, none⟩ (.int .u64 0)) := (HBW.out.setCell (p := ⟨w.heap.size, 0, none⟩) (Nat.le_refl _) _).setCell (p := ⟨w.heap.size, 1, none⟩) (Nat.le_refl _) _
      have hrz := (HR2.out.set_ 0 (.int .i64 0)).set_ 1 (.int .u64 0)
      have z0 := hrz.cell 0
      have z1 := hrz.cell 1
      simp only [List.set_cons_zero, List.set_cons_succ, List.getElem?_cons_zero, List.getElem?_cons_succ] at z0 z1
      refine bodyPost_ret (v := .agg #[.int .i64 0, .int .u64 0]) (by simp [results, Try.results42, go_sem, z0, z1]) rfl ⟨by rw [HX.out]; rfl, by rw [HX.out]; exact HM.out.below hbz, ChgP.of_below hbz⟩
end Bu
end Go.Proofs.Ytmhkmemaneopeaa
