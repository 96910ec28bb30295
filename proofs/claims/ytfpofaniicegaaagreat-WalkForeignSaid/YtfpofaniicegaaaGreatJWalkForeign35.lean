/- Texts of this claim, one behind the other: RtB, RtC. -/
import Derived.Test.YtfpofaniicegaaaGreatJWalkForeign34
import Derived.Test.YtfpofaniicegaaaGreatJWalkForeign26
import Derived.Test.YtfpofaniicegaaaGreatJWalkForeign27
import Derived.Laws.OwnMore
import Derived.Deep.RegionLaw
import Derived.Deep.Onto
/- The walk of the document's bytes: the addresses of an access. -/
set_option linter.unusedVariables false
set_option linter.unusedSimpArgs false
namespace Go.Proofs.YtfpofaniicegaaaGreat
open Go.RowKit
open S64
namespace Bu
/-- while the document's bytes goes; c: where the fault lies; B1: where the list begins -/
structure RB (Z : Nat → Prop) (B g : Nat) (M : PM) (w : World) (A : Option Addr) (c i : Nat) (p : Nat → Nat) (wr : World) : Prop where
  dm : DM Z wr B g M
  ch : ChgP Z w wr
  rf : Row wr w.heap.size 33 [.int .i64 0, .int .u64 0]
  ow : wr.ownsRow (w.heap.size + 1) 31 1 (.slice A i c) i ((List.range i).map fun j => u64v (p j))
theorem RB.chg {Z Y : Nat → Prop} {B g : Nat} {M : PM} {w : World} {A : Option Addr} {c i : Nat} {p : Nat → Nat} {wr wx : World} (h : RB Z B g M w A c i p wr) (hd : DM Z wx B g M) (hc : ChgP Y wr wx) (hy : ∀ k, Y k → Z k) (hz : ∀ k, Z k → k < w.heap.size) : RB Z B g M w A c i p wx :=
  ⟨hd, h.ch.trans hc (fun k hk => .inl (hy k hk)), hc.row h.rf (fun hk => by have := hz _ (hy _ hk); omega), owns_chgP h.ow hc (fun k hk h1 => by have := (World.ownsRow.lt h.ow k hk).1; have := hz _ (hy _ h1); omega)⟩
theorem RB.below {Z : Nat → Prop} {B g : Nat} {M : PM} {w : World} {A : Option Addr} {c i : Nat} {p : Nat → Nat} {wr wx : World} (h : RB Z B g M w A c i p wr) (hb : Below wr.heap.size wr wx) : RB Z B g M w A c i p wx :=
  ⟨h.dm.below hb, h.ch.trans (ChgP.of_below (Z := fun _ => False) hb) (fun k hk => hk.elim), h.rf.below hb h.rf.lt, owns_chgP h.ow (ChgP.of_below (Z := fun _ => False) hb) (fun k hk h1 => h1)⟩
/-- how bytes ends -/
theorem RB.fin {Z : Nat → Prop} {B g : Nat} {M : PM} {w : World} {A : Option Addr} {c i : Nat} {p : Nat → Nat} {wr : World} (h : RB Z B g M w A c i p wr) (hz : ∀ k, Z k → k < w.heap.size) (hB : B ≤ w.heap.size) (no vi : Nat) {W : World}
    (hW : W = (wr.setCell ⟨w.heap.size, 0, none⟩ (.int .i64 (no : Nat))).setCell ⟨w.heap.size, 1, none⟩ (.int .u64 (vi : Nat))) :
    DM Z W B g M ∧ ChgP Z w W ∧ W.ownsRow w.heap.size 31 1 (.slice A i c) i ((List.range i).map fun j => u64v (p j)) ∧ W.cell? ⟨w.heap.size, 0, none⟩ = some (.int .i64 (no : Nat)) ∧ W.cell? ⟨w.heap.size, 1, none⟩ = some (.int .u64 (vi : Nat)) := by
  subst hW
  have hc : ChgP (fun k => k = w.heap.size) wr ((wr.setCell ⟨w.heap.size, 0, none⟩ (.int .i64 (no : Nat))).setCell ⟨w.heap.size, 1, none⟩ (.int .u64 (vi : Nat))) := (ChgP.set_ (Z := fun k => k = w.heap.size) (ChgP.refl _ wr) (p := ⟨w.heap.size, 0, none⟩) (.inl rfl) _).set_ (p := ⟨w.heap.size, 1, none⟩) (.inl rfl) _
  have q := (h.rf.set_ 0 (.int .i64 (no : Nat))).set_ 1 (.int .u64 (vi : Nat))
  refine ⟨h.dm.chg hc (fun k hk e => ?_), h.ch.trans hc (fun k hk => .inr (by have h : k = w.heap.size := hk; omega)), World.ownsRow.mono (owns_chgP h.ow hc (fun k hk e => by have := (World.ownsRow.lt h.ow k hk).1; have e : k = w.heap.size := e; omega)) (by omega), q.cell 0, q.cell 1⟩
  · have e : k = w.heap.size := e
    rcases hk with hk | hk
    · have := hz k hk; omega
    · omega
/-- one address more -/
theorem RB.app {Z : Nat → Prop} {B g : Nat} {M : PM} {w : World} {A A' : Option Addr} {c c' i : Nat} {p : Nat → Nat} {wu wn : World} (h : RB Z B g M w A c i p wu) (hz : ∀ k, Z k → k < w.heap.size) (hB : B ≤ w.heap.size) (hcn : ChgP (fun x => w.heap.size + 1 ≤ x) wu wn)
    (how : wn.ownsRow (w.heap.size + 1) 31 1 (.slice A' (i + 1) c') (i + 1) (((List.range i).map fun j => u64v (p j)) ++ [u64v (p i)])) : RB Z B g M w A' c' (i + 1) p wn := by
  refine ⟨h.dm.chg hcn (fun k hk e => ?_), h.ch.trans hcn (fun k hk => .inr (by omega)), hcn.row h.rf (fun e => by omega), ?_⟩
  · rcases hk with hk | hk
    · have := hz k hk; omega
    · omega
  · rw [List.range_succ, List.map_append]; exact how
theorem RB.at_ {Z : Nat → Prop} {B g : Nat} {M : PM} {w : World} {A : Option Addr} {c i : Nat} {p : Nat → Nat} {wr : World} (h : RB Z B g M w A c i p wr) (hi : 0 < i) : ∃ gb, A = some ⟨gb, 0, none⟩ := by
  rcases h.ow.2 with ⟨_, hn⟩ | ⟨g', cap', cur', hv', _⟩
  · omega
  · injection hv' with e1
    exact ⟨g', e1⟩
theorem RB.cell {Z : Nat → Prop} {B g : Nat} {M : PM} {w : World} {gb c i : Nat} {p : Nat → Nat} {wr : World} (h : RB Z B g M w (some ⟨gb, 0, none⟩) c i p wr) {k : Nat} (hk : k < i) : wr.cell? ⟨gb, k, none⟩ = some (.int .u64 (p k : Nat)) ∧ gb < wr.heap.size := by
  refine ⟨?_, (World.ownsRow.lt h.ow gb rfl).2⟩
  rw [World.ownsRow.cellAt h.ow k (by omega), List.getElem?_map, List.getElem?_range hk]; rfl
/-- what the document's bytes answers -/
def RbS (Z : Nat → Prop) (B g : Nat) (M : PM) (w : World) (r : List Nat × (Nat × Nat)) (e : Ending) (w' : World) : Prop :=
  (∃ A n c, e = .returned (.tuple #[.slice A n c, flt r.2.1 r.2.2]) ∧ n = (if r.2.1 = 0 then r.1.length else 0) ∧ w'.ownsRow w.heap.size 31 1 (.slice A n c) n ((if r.2.1 = 0 then r.1 else []).map u64v)) ∧ DM Z w' B g M ∧ ChgP Z w w'
set_option maxRecDepth 100000 in
set_option maxHeartbeats 1000000 in
theorem rbytes_bad {Z : Nat → Prop} {w : World} {B g : Nat} {M : PM} (h : DM Z w B g M) (root virt : Nat) (z access : Int) (hz : wideB z = false) (hv : virt ≤ 18446744073709551615) :
    Calls Tryz.prog 42 #[.pointer (some ⟨g, 0, none⟩), .int .u64 (root : Nat), .int .u64 (virt : Nat), .int .i64 z, .int .i64 access] w (RbS Z B g M w (accZ M root virt access z)) := by
  have HM := Lib.hid h
  have HZ : Hid (∀ k, Z k → k < w.heap.size) := Lib.hid (fun k hk => (h.lt k hk).2)
  have HBL : Hid (B ≤ w.heap.size) := Lib.hid (by
    obtain ⟨_, _, _, _, _, _, _, _, _, _, hd⟩ := h
    exact Nat.le_trans hd.m.gB (Nat.le_of_lt hd.m.row.lt))
  have hz4 : ¬ z = 1 ∧ ¬ z = 2 ∧ ¬ z = 4 ∧ ¬ z = 8 := by
    unfold wideB at hz
    simp at hz
    omega
  obtain ⟨z1, z2, z4, z8⟩ := hz4
  have k1 : (z != 1) = true := by simp [z1]
  have k2 : (z != 2) = true := by simp [z2]
  have k4 : (z != 4) = true := by simp [z4]
  have k8 : (z != 8) = true := by simp [z8]
  have HA : Hid (accZ M root virt access z = ([], (31, virt))) := Lib.hid (by unfold accZ; rw [hz]; rfl)
  clear h hz z1 z2 z4 z8
  go_enter Tryz.func42, Tryz.ntmps42
  go_upto_region 1 with fail
  have hr9 := Row.new w 33 [.int .i64 0, .int .u64 0]
  have hm1 := HM.out.below (w' := w.alloc (.cells #[.int .i64 0, .int .u64 0] 33)) ((Below.refl _ _).alloc (Nat.le_refl _) _)
  have hc1 : ChgP Z w (w.alloc (.cells #[.int .i64 0, .int .u64 0] 33)) := (ChgP.refl _ w).alloc _
  have HB1 : Hid (RB Z B g M w none 0 0 (fun _ => 0) (w.alloc (.cells #[.int .i64 0, .int .u64 0] 33))) := Lib.hid ⟨hm1, hc1, hr9, World.ownsRow_nil _ _ _ _⟩
  generalize w.alloc (.cells #[.int .i64 0, .int .u64 0] 33) = w1 at *
  clear hr9 hm1 hc1
  have y0 := HB1.out.rf.frozen 0
  have y1 := HB1.out.rf.frozen 1
  have yl := HB1.out.rf.lt
  have y2 := HB1.out.rf.cell 0
  have y3 := HB1.out.rf.cell 1
  simp only [List.getElem?_cons_zero, List.getElem?_cons_succ] at y2 y3
  go_wp2_with fail
  generalize hW : (w1.setCell ⟨w.heap.size, 0, none⟩ (.int .i64 31)).setCell ⟨w.heap.size, 1, none⟩ (.int .u64 (virt : Nat)) = W
  obtain ⟨q1, q2, _, q3, q4⟩ := HB1.out.fin HZ.out HBL.out 31 virt hW.symm
  rw [HA.out]
  exact bodyPost_ret (v := .tuple #[.slice none 0 0, .agg #[.int .i64 31, .int .u64 (virt : Nat)]]) (by simp [results, Tryz.results42, go_sem, q3, q4]) rfl ⟨⟨none, 0, 0, rfl, rfl, World.ownsRow_nil _ _ _ _⟩, q1, q2⟩
set_option maxRecDepth 100000 in
set_option maxHeartbeats 4000000 in
theorem rbytes_any {Z : Nat → Prop} {w : World} {B g : Nat} {M : PM} (h : DM Z w B g M) (root virt n : Nat) (access : Int) (hn : n = 1 ∨ n = 2 ∨ n = 4 ∨ n = 8) (hr : root ≤ 18446744073709551615) (hv : virt ≤ 18446744073709551615) :
    Calls Tryz.prog 42 #[.pointer (some ⟨g, 0, none⟩), .int .u64 (root : Nat), .int .u64 (virt : Nat), .int .i64 (n : Nat), .int .i64 access] w (RbS Z B g M w (atL M root virt access n, accF M root virt access n)) := by
  have HM := Lib.hid h
  have HN := Lib.hid hn
  have HZ : Hid (∀ k, Z k → k < w.heap.size) := Lib.hid (fun k hk => (h.lt k hk).2)
  have HBL : Hid (B ≤ w.heap.size) := Lib.hid (by
    obtain ⟨_, _, _, _, _, _, _, _, _, _, hd⟩ := h
    exact Nat.le_trans hd.m.gB (Nat.le_of_lt hd.m.row.lt))
  have hn8 : n ≤ 8 := by omega
  obtain ⟨i0, hi0, hz1, hz2, hz3⟩ := info_parts infoU64
  have HI0 := Lib.hid hi0; have HZ1 := Lib.hid hz1; have HZ2 := Lib.hid hz2; have HZ3 := Lib.hid hz3
  clear h hn hi0 hz1 hz2 hz3
  go_enter Tryz.func42, Tryz.ntmps42
  go_upto_region 1 with fail
  have hr9 := Row.new w 33 [.int .i64 0, .int .u64 0]
  have hm1 := HM.out.below (w' := w.alloc (.cells #[.int .i64 0, .int .u64 0] 33)) ((Below.refl _ _).alloc (Nat.le_refl _) _)
  have hc1 : ChgP Z w (w.alloc (.cells #[.int .i64 0, .int .u64 0] 33)) := (ChgP.refl _ w).alloc _
  have HB1 : Hid (RB Z B g M w none 0 0 (fun j => (trI M root (virt + j) access).1) (w.alloc (.cells #[.int .i64 0, .int .u64 0] 33))) := Lib.hid ⟨hm1, hc1, hr9, World.ownsRow_nil _ _ _ _⟩
  generalize w.alloc (.cells #[.int .i64 0, .int .u64 0] 33) = w1 at *
  clear hr9 hm1 hc1
  go_cut [32] (fun x wx => x = .bool false ∧ w1 = wx)
  case first =>
    rcases HN.out with rfl | rfl | rfl | rfl
    all_goals
      go_wp2_with fail
      go_meet
      case rel => exact ⟨rfl, rfl⟩
  case rest =>
  obtain ⟨rfl, rfl⟩ := hcut
  clear HM
  obtain ⟨p, hp⟩ : ∃ p : Nat → Nat, p = fun j => (trI M root (virt + j) access).1 := ⟨_, rfl⟩
  rw [← hp] at HB1
  have HP := Lib.hid hp
  clear hp
  go_wp2_with fail
  go_loopw [12, 13] (fun a x wr => ∃ (i c : Nat) (A : Option Addr), i ≤ n ∧ x = .int .i64 (i : Nat) ∧ a = .slice A i c ∧ Hid (∀ j, j < i → (trI M root (virt + j) access).2 = 0) ∧ Hid (RB Z B g M w A c i p wr)) (fun _ x _ => n - (intOf x).toNat)
  case atStart => exact ⟨0, 0, none, by omega, rfl, rfl, Lib.hid (fun j hj => absurd hj (by omega)), HB1⟩
  case round =>
  clear HB1
  obtain ⟨i, ca, A, hi, rfl, rfl, HOK, HB⟩ := hrel
  have y0 := HB.out.rf.frozen 0
  have y1 := HB.out.rf.frozen 1
  have yl := HB.out.rf.lt
  have y2 := HB.out.rf.cell 0
  have y3 := HB.out.rf.cell 1
  simp only [List.getElem?_cons_zero, List.getElem?_cons_succ] at y2 y3
  by_cases hin : i < n
  · obtain ⟨vi, hvi⟩ : ∃ vi, vi = virt + i := ⟨_, rfl⟩
    have e1 : (virt : Int) + (i : Int) = (vi : Int) := by omega
    have hvt : vi ≤ 18446744073709551615 := by
      rcases Nat.eq_zero_or_pos i with h0 | h0
      · omega
      · have := trI_hole (HOK.out 0 h0); omega
    have e2 : IntKind.u64.wrap (vi : Int) = (vi : Int) := by rw [IntKind.wrap_u64]; omega
    have e3 : IntKind.u64.wrap (i : Int) = (i : Int) := by rw [IntKind.wrap_u64]; omega
    obtain ⟨G, hG⟩ : ∃ G, G = trI M root vi access := ⟨_, rfl⟩
    have HTR : Hid (Calls Tryz.prog 22 #[.pointer (some ⟨g, 0, none⟩), .int .u64 (root : Nat), .int .u64 (vi : Nat), .int .i64 access] wr fun e w' => e = .returned (.tuple #[.int .u64 (G.1 : Nat), .agg #[.int .i64 (G.2 : Nat), .int .u64 ((if G.2 = 0 then 0 else vi : Nat) : Nat)]]) ∧ RB Z B g M w A ca i p w') := Lib.hid (by
      rw [hG]
      exact (rtr_any HB.out.dm root vi access hr hvt).mono (fun e w' ⟨h1, h2, h3⟩ => ⟨h1, HB.out.chg h2 h3 (fun k hk => hk) HZ.out⟩))
    have HG := Lib.hid hG
    have hG33 : G.1 < 8589934592 := by rw [hG]; exact trI_lt.1
    have hG44 : G.2 ≤ 44 := by rw [hG]; exact trI_lt.2
    obtain ⟨P, N⟩ := G
    simp only at HTR hG33 hG44
    obtain ⟨D, hD⟩ : ∃ D, D = (if N = 0 then 0 else vi : Nat) := ⟨_, rfl⟩
    rw [← hD] at HTR
    have HD := Lib.hid hD
    have HVI := Lib.hid hvi
    clear hvi hG hD y0 y1 yl y2 y3
    go_upto_region 7 with fail
    go_upto_region 8 with (go_at_call 22; refine HTR.out.mono ?_; rintro e wt ⟨rfl, hbt⟩; have HBT := Lib.hid hbt; clear hbt)
    have hbt : Below wt.heap.size wt (wt.alloc (.cells #[.int .i64 (N : Nat), .int .u64 (D : Nat)] 33)) := (Below.refl _ _).alloc (Nat.le_refl _) _
    have HB2 := Lib.hid (HBT.out.below hbt)
    have hrf := Row.new wt 33 [.int .i64 (N : Nat), .int .u64 (D : Nat)]
    obtain ⟨c15, hc15⟩ : ∃ c, c = wt.heap.size := ⟨_, rfl⟩
    have hcw : w.heap.size < c15 := by rw [hc15]; exact HBT.out.rf.lt
    generalize wt.alloc (.cells #[.int .i64 (N : Nat), .int .u64 (D : Nat)] 33) = wu at *
    rw [← hc15] at hrf ⊢
    have x0 := hrf.cell 0
    have x1 := hrf.cell 1
    have xl := hrf.lt
    simp only [List.getElem?_cons_zero, List.getElem?_cons_succ] at x0 x1
    clear hbt hrf hc15 HTR HBT
    by_cases hN : N = 0
    · subst hN
      have HPI : Hid (P = p i) := Lib.hid (by
        rw [HP.out]
        show P = (trI M root (virt + i) access).1
        rw [← HVI.out, ← HG.out])
      have HOK' : Hid (∀ j, j < i + 1 → (trI M root (virt + j) access).2 = 0) := Lib.hid (fun j hj => by
        rcases Nat.lt_or_ge j i with h | h
        · exact HOK.out j h
        · obtain rfl : j = i := by omega
          rw [← HVI.out, ← HG.out])
      have HWU : Hid (w.heap.size + 1 ≤ wu.heap.size) := Lib.hid HB2.out.rf.lt
      go_wp2_with (at_builtin; refine wpList_append_sl _ rfl (.tmp 55) (.tmp 57) _ rfl (w.heap.size + 1) 31 i0 _ 1 8 Tryz.underlying102 HI0.out HZ1.out HZ2.out HZ3.out rfl (by omega) (.slice A i ca) i ((List.range i).map fun j => u64v (p j)) rfl (HB2.out.ow.alloc _) (wu.heap.size + 1) (some ⟨wu.heap.size, 0, none⟩) 1 1 [.int .u64 (P : Nat)] rfl (reads_u8v (by omega)) (by simp [Value.oneCell']) (by unfold maxLen; omega) (by omega) (by have := HWU.out; simp; omega) ?_; intro Ab2 cb2 wn hown2 hrd2 hg2 hat2; have HO2 := Lib.hid hown2; have HG2 := Lib.hid hg2; clear hown2 hrd2 hg2 hat2)
      have hb8 : Below (w.heap.size + 1) wu wn := ((Below.refl (w.heap.size + 1) wu).alloc HWU.out _).grown HG2.out (by simp; have := HWU.out; omega) (fun x hx => (HB2.out.ow.lt x hx).1)
      have HB3 : Hid (RB Z B g M w Ab2 cb2 (i + 1) p wn) := Lib.hid (HB2.out.app HZ.out HBL.out ⟨hb8.os, hb8.tape, hb8.output, hb8.size, fun x hx hn => hb8.block x (by omega)⟩ (by rw [← HPI.out]; exact HO2.out))
      refine ⟨?_, ?_⟩
      · exact ⟨i + 1, cb2, Ab2, by omega, by go_num, rfl, HOK', HB3⟩
      · simp [intOf]; omega
    · have g1 : ((N : Int) != 0) = true := by simp; omega
      have hd := HD.out
      rw [if_neg hN] at hd
      have y0 := HB2.out.rf.frozen 0
      have y1 := HB2.out.rf.frozen 1
      have yl := HB2.out.rf.lt
      have y2 := HB2.out.rf.cell 0
      have y3 := HB2.out.rf.cell 1
      simp only [List.getElem?_cons_zero, List.getElem?_cons_succ] at y2 y3
      have HF : Hid (accF M root virt access n = (N, vi)) := Lib.hid (by
        have hg := HG.out
        have h := accF_tr (M := M) (root := root) (virt := virt) (n := n) (i := i) (access := access) hin (by rw [← HVI.out, ← hg]; exact hN) HOK.out
        rw [h, ← HVI.out, ← hg])
      go_upto_region 9 with fail
      go_region_law fail
      all_goals
        go_wp2_with fail
        obtain ⟨q1, q2, _, q3, q4⟩ := HB2.out.fin HZ.out HBL.out N vi rfl
        replace q1 := q1.below (Below.refl _ _).drew
        replace q2 := q2.drew
        replace q3 : World.cell? (World.drew ((wu.setCell ⟨w.heap.size, 0, none⟩ (.int .i64 (N : Nat))).setCell ⟨w.heap.size, 1, none⟩ (.int .u64 (vi : Nat)))) _ = _ := q3
        replace q4 : World.cell? (World.drew ((wu.setCell ⟨w.heap.size, 0, none⟩ (.int .i64 (N : Nat))).setCell ⟨w.heap.size, 1, none⟩ (.int .u64 (vi : Nat)))) _ = _ := q4
        generalize World.drew ((wu.setCell ⟨w.heap.size, 0, none⟩ (.int .i64 (N : Nat))).setCell ⟨w.heap.size, 1, none⟩ (.int .u64 (vi : Nat))) = W at *
        rw [HF.out]
        exact bodyPost_ret (v := .tuple #[.slice none 0 0, .agg #[.int .i64 (N : Nat), .int .u64 (vi : Nat)]]) (by simp [results, Tryz.results42, go_sem, q3, q4]) rfl ⟨⟨none, 0, 0, by unfold flt; rw [if_neg hN]; rfl, by rw [if_neg hN], by rw [if_neg hN]; exact World.ownsRow_nil _ _ _ _⟩, q1, q2⟩
  · have ei : i = n := by omega
    subst ei
    have hi1 : 0 < i := by have := HN.out; omega
    obtain ⟨gb, rfl⟩ := HB.out.at_ hi1
    have hv39 : virt < 549755813888 := trI_hole (HOK.out 0 hi1)
    have HV39 := Lib.hid hv39
    clear y0 y1 yl y2 y3 hin hi hv39
    go_wp2_with fail
    go_loopw [16] (fun x wr => ∃ k : Nat, k ≤ i ∧ x = .int .i64 (k : Nat) ∧ Hid (∀ j, j < k → onM M (p j) = true) ∧ Hid (RB Z B g M w (some ⟨gb, 0, none⟩) ca i p wr)) (fun x _ => i - (intOf x).toNat)
    case atStart => exact ⟨0, by omega, rfl, Lib.hid (fun j hj => absurd hj (by omega)), HB⟩
    case round =>
    clear HB
    obtain ⟨k, hk, rfl, HON, HB⟩ := hrel
    have y0 := HB.out.rf.frozen 0
    have y1 := HB.out.rf.frozen 1
    have yl := HB.out.rf.lt
    have y2 := HB.out.rf.cell 0
    have y3 := HB.out.rf.cell 1
    simp only [List.getElem?_cons_zero, List.getElem?_cons_succ] at y2 y3
    by_cases hki : k < i
    · obtain ⟨x0, xl⟩ := HB.out.cell hki
      obtain ⟨vk, hvk⟩ : ∃ vk, vk = virt + k := ⟨_, rfl⟩
      have hv39 := HV39.out
      have e1 : (virt : Int) + (k : Int) = (vk : Int) := by omega
      have e2 : IntKind.u64.wrap (vk : Int) = (vk : Int) := by rw [IntKind.wrap_u64]; omega
      have e3 : IntKind.u64.wrap (k : Int) = (k : Int) := by rw [IntKind.wrap_u64]; omega
      have hp33 : p k < 8589934592 := by rw [HP.out]; exact trI_lt.1
      obtain ⟨q, hq⟩ : ∃ q, q = p k := ⟨_, rfl⟩
      rw [← hq] at x0 hp33
      have HQ := Lib.hid hq
      have HOF : Hid (Calls Tryz.prog 36 #[.pointer (some ⟨g, 0, none⟩), .int .u64 (q : Nat), .int .i64 1] wr fun e w' => e = .returned (offV (offF M q 1)) ∧ RB Z B g M w (some ⟨gb, 0, none⟩) ca i p w') := Lib.hid (by
        obtain ⟨_, _, _, _, _, _, _, _, _, _, hd⟩ := HB.out.dm
        exact (refoff_any hd.m q 1 (by unfold TOP; omega) (by decide) (offF_is (show Lim M from HB.out.dm.lim) (by unfold TOP; omega))).mono (fun e w' ⟨h1, h2⟩ => ⟨h1, HB.out.below h2⟩))
      rw [offF_one] at HOF
      have HVK := Lib.hid hvk
      clear hvk hq hp33 hv39
      cases ho : onM M q with
      | true =>
        rw [if_pos ho] at HOF
        unfold offV at HOF
        simp only [Option.getD_none, Option.isSome_none] at HOF
        have HON' : Hid (∀ j, j < k + 1 → onM M (p j) = true) := Lib.hid (fun j hj => by
          rcases Nat.lt_or_ge j k with h | h
          · exact HON.out j h
          · obtain rfl : j = k := by omega
            rw [← HQ.out]; exact ho)
        clear ho y0 y1 yl y2 y3
        go_wp2_with fail
        refine HOF.out.mono ?_
        rintro e wt ⟨rfl, hbt⟩
        have HBT := Lib.hid hbt
        clear hbt x0 xl
        go_wp2_with fail
        go_roundw
        case rel => exact ⟨k + 1, by omega, by go_num, HON', HBT⟩
        case measure => simp [intOf]; omega
      | false =>
        rw [if_neg (by rw [ho]; decide)] at HOF
        unfold offV at HOF
        simp only [Option.getD_some, Option.isSome_some] at HOF
        have HF : Hid (accF M root virt access i = (30, vk)) := Lib.hid (by
          rw [HVK.out]
          have e : ∀ j, p j = (trI M root (virt + j) access).1 := fun j => by rw [HP.out]
          refine accF_bus hki HOK.out ?_ (fun j hj => ?_)
          · rw [← e k, ← HQ.out]; exact ho
          · rw [← e j]; exact HON.out j hj)
        clear ho y0 y1 yl y2 y3
        go_wp2_with fail
        refine HOF.out.mono ?_
        rintro e wt ⟨rfl, hbt⟩
        have HBT := Lib.hid hbt
        have y0 := HBT.out.rf.frozen 0
        have y1 := HBT.out.rf.frozen 1
        have yl := HBT.out.rf.lt
        have y2 := HBT.out.rf.cell 0
        have y3 := HBT.out.rf.cell 1
        simp only [List.getElem?_cons_zero, List.getElem?_cons_succ] at y2 y3
        clear hbt x0 xl
        go_wp2_with fail
        generalize hW : (wt.setCell ⟨w.heap.size, 0, none⟩ (.int .i64 30)).setCell ⟨w.heap.size, 1, none⟩ (.int .u64 (vk : Nat)) = W
        obtain ⟨q1, q2, _, q3, q4⟩ := HBT.out.fin HZ.out HBL.out 30 vk hW.symm
        rw [HF.out]
        exact bodyPost_ret (v := .tuple #[.slice none 0 0, .agg #[.int .i64 30, .int .u64 (vk : Nat)]]) (by simp [results, Tryz.results42, go_sem, q3, q4]) rfl ⟨⟨none, 0, 0, rfl, rfl, World.ownsRow_nil _ _ _ _⟩, q1, q2⟩
    · have ek : k = i := by omega
      subst ek
      have HF : Hid (accF M root virt access k = (0, 0)) := Lib.hid (by
        have e : ∀ j, p j = (trI M root (virt + j) access).1 := fun j => by rw [HP.out]
        exact accF_ok HOK.out (fun j hj => by rw [← e j]; exact HON.out j hj))
      have HAT : Hid ((atL M root virt access k).map u64v = (List.range k).map fun j => u64v (p j)) := Lib.hid (by unfold atL; rw [List.map_map, HP.out]; rfl)
      go_wp2_with fail
      generalize hW : (wr.setCell ⟨w.heap.size, 0, none⟩ (.int .i64 0)).setCell ⟨w.heap.size, 1, none⟩ (.int .u64 0) = W
      obtain ⟨q1, q2, q5, q3, q4⟩ := HB.out.fin HZ.out HBL.out 0 0 hW.symm
      rw [HF.out]
      exact bodyPost_ret (v := .tuple #[.slice (some ⟨gb, 0, none⟩) k ca, .agg #[.int .i64 0, .int .u64 0]]) (by simp [results, Tryz.results42, go_sem, q3, q4]) rfl ⟨⟨some ⟨gb, 0, none⟩, k, ca, rfl, by rw [if_pos rfl, atL_len], by rw [if_pos rfl, HAT.out]; exact q5⟩, q1, q2⟩
theorem rbytes_z {Z : Nat → Prop} {w : World} {B g : Nat} {M : PM} (h : DM Z w B g M) (root virt : Nat) (z access : Int) (hr : root ≤ 18446744073709551615) (hv : virt ≤ 18446744073709551615) :
    Calls Tryz.prog 42 #[.pointer (some ⟨g, 0, none⟩), .int .u64 (root : Nat), .int .u64 (virt : Nat), .int .i64 z, .int .i64 access] w (RbS Z B g M w (accZ M root virt access z)) := by
  cases hz : wideB z with
  | false => exact rbytes_bad h root virt z access hz hv
  | true =>
    obtain ⟨n, rfl, hn⟩ := wideB_nat hz
    have e : accZ M root virt access (n : Nat) = (atL M root virt access n, accF M root virt access n) := by unfold accZ; rw [hz, if_pos rfl, Int.toNat_natCast]
    rw [e]
    exact rbytes_any h root virt n access hn hr hv
end Bu
end Go.Proofs.YtfpofaniicegaaaGreat

/- The walk of the document's Load and Store (through its tables). -/
set_option linter.unusedVariables false
set_option linter.unusedSimpArgs false
namespace Go.Proofs.YtfpofaniicegaaaGreat
open Go.RowKit
open S64
namespace Bu
theorem rld1 {Z : Nat → Prop} {w : World} {B g : Nat} {M : PM} (h : DM Z w B g M) (a : Nat) (ha : a ≤ TOP) (ho : onM M a = true) :
    Calls Tryz.prog 43 #[.pointer (some ⟨g, 0, none⟩), .int .u64 (a : Nat), .int .i64 1] w fun e w' => e = .returned (.tuple #[.int .u64 (M.mem a : Nat), .agg #[.int .i64 0, .int .u64 0]]) ∧ DM Z w' B g { M with loads := cInc M.loads } ∧ ChgP Z w w' := by
  have hF := offF_is (show Lim M from h.lim) (n := 1) ha
  have hn : offF M a 1 = none := by rw [offF_one, if_pos ho]
  rw [hn] at hF
  refine (rload_m (n := 1) h (by omega) ha trivial trivial hF).mono fun e w' hh => ⟨?_, hh.2.1, hh.2.2⟩
  rw [hh.1]
  show Ending.returned (.tuple #[.int .u64 (numB M.mem a 1 : Nat), _]) = _
  rw [numB_one]; rfl
/-- while the document's Load goes -/
structure RL (Z : Nat → Prop) (B g : Nat) (M : PM) (w : World) (A : Option Addr) (c n c13 : Nat) (L : List Nat) (F0 F1 i : Nat) (wr : World) : Prop where
  dm : DM Z wr B g (ldM M M.strays i)
  ch : ChgP Z w wr
  rf : Row wr w.heap.size 33 [.int .i64 0, .int .u64 0]
  rg : Row wr c13 33 [.int .i64 (F0 : Nat), .int .u64 (F1 : Nat)]
  cw : w.heap.size < c13
  ow : wr.ownsRow (w.heap.size + 1) 31 1 (.slice A n c) n (L.map u64v)
theorem RL.chg {Z : Nat → Prop} {B g : Nat} {M : PM} {w : World} {A : Option Addr} {c n c13 : Nat} {L : List Nat} {F0 F1 i j : Nat} {wr wx : World} (h : RL Z B g M w A c n c13 L F0 F1 i wr) (hd : DM Z wx B g (ldM M M.strays j)) (hc : ChgP Z wr wx) (hz : ∀ k, Z k → k < w.heap.size) : RL Z B g M w A c n c13 L F0 F1 j wx :=
  ⟨hd, h.ch.trans hc (fun k hk => .inl hk), hc.row h.rf (fun hk => by have := hz _ hk; omega), hc.row h.rg (fun hk => by have := hz _ hk; have := h.cw; omega), h.cw, owns_chgP h.ow hc (fun k hk h1 => by have := (World.ownsRow.lt h.ow k hk).1; have := hz _ h1; omega)⟩
theorem RL.below {Z : Nat → Prop} {B g : Nat} {M : PM} {w : World} {A : Option Addr} {c n c13 : Nat} {L : List Nat} {F0 F1 i : Nat} {wr wx : World} (h : RL Z B g M w A c n c13 L F0 F1 i wr) (hb : Below wr.heap.size wr wx) : RL Z B g M w A c n c13 L F0 F1 i wx :=
  ⟨h.dm.below hb, h.ch.trans (ChgP.of_below (Z := fun _ => False) hb) (fun k hk => hk.elim), h.rf.below hb h.rf.lt, h.rg.below hb h.rg.lt, h.cw, owns_chgP h.ow (ChgP.of_below (Z := fun _ => False) hb) (fun k hk h1 => h1)⟩
theorem RL.at_ {Z : Nat → Prop} {B g : Nat} {M : PM} {w : World} {A : Option Addr} {c n c13 : Nat} {L : List Nat} {F0 F1 i : Nat} {wr : World} (h : RL Z B g M w A c n c13 L F0 F1 i wr) (hi : 0 < n) : ∃ gb, A = some ⟨gb, 0, none⟩ := by
  rcases h.ow.2 with ⟨_, hn⟩ | ⟨g', cap', cur', hv', _⟩
  · omega
  · injection hv' with e1
    exact ⟨g', e1⟩
theorem RL.cell {Z : Nat → Prop} {B g : Nat} {M : PM} {w : World} {gb c n c13 : Nat} {L : List Nat} {F0 F1 i : Nat} {wr : World} (h : RL Z B g M w (some ⟨gb, 0, none⟩) c n c13 L F0 F1 i wr) {k a : Nat} (hk : k < n) (ha : L[k]? = some a) : wr.cell? ⟨gb, k, none⟩ = some (.int .u64 (a : Nat)) ∧ gb < wr.heap.size := by
  refine ⟨?_, (World.ownsRow.lt h.ow gb rfl).2⟩
  rw [World.ownsRow.cellAt h.ow k (by omega), List.getElem?_map, ha]; rfl
/-- how Load ends -/
theorem RL.fin {Z : Nat → Prop} {B g : Nat} {M : PM} {w : World} {A : Option Addr} {c n c13 : Nat} {L : List Nat} {F0 F1 i : Nat} {wr : World} (h : RL Z B g M w A c n c13 L F0 F1 i wr) (hz : ∀ k, Z k → k < w.heap.size) (hB : B ≤ w.heap.size) (no vi : Nat) {W : World}
    (hW : W = World.drew ((wr.setCell ⟨w.heap.size, 0, none⟩ (.int .i64 (no : Nat))).setCell ⟨w.heap.size, 1, none⟩ (.int .u64 (vi : Nat)))) :
    DM Z W B g (ldM M M.strays i) ∧ ChgP Z w W ∧ W.cell? ⟨w.heap.size, 0, none⟩ = some (.int .i64 (no : Nat)) ∧ W.cell? ⟨w.heap.size, 1, none⟩ = some (.int .u64 (vi : Nat)) := by
  subst hW
  have hc : ChgP (fun k => k = w.heap.size) wr ((wr.setCell ⟨w.heap.size, 0, none⟩ (.int .i64 (no : Nat))).setCell ⟨w.heap.size, 1, none⟩ (.int .u64 (vi : Nat))) := (ChgP.set_ (Z := fun k => k = w.heap.size) (ChgP.refl _ wr) (p := ⟨w.heap.size, 0, none⟩) (.inl rfl) _).set_ (p := ⟨w.heap.size, 1, none⟩) (.inl rfl) _
  have q := (h.rf.set_ 0 (.int .i64 (no : Nat))).set_ 1 (.int .u64 (vi : Nat))
  refine ⟨(h.dm.chg hc (fun k hk e => ?_)).below (Below.refl _ _).drew, (h.ch.trans hc (fun k hk => .inr (by have h : k = w.heap.size := hk; omega))).drew, q.cell 0, q.cell 1⟩
  have e : k = w.heap.size := e
  rcases hk with hk | hk
  · have := hz k hk; omega
  · omega
/-- what the document's Load answers -/
def RloS (Z : Nat → Prop) (B g : Nat) (M : PM) (w : World) (r : List Nat × (Nat × Nat)) (e : Ending) (w' : World) : Prop :=
  e = .returned (.tuple #[.int .u64 ((if r.2.1 = 0 then Wd.unle (r.1.map M.mem) else 0 : Nat) : Nat), flt r.2.1 r.2.2]) ∧ DM Z w' B g (ldM M M.strays (if r.2.1 = 0 then r.1.length else 0)) ∧ ChgP Z w w'
theorem sM_strays (M : PM) : ldM M M.strays 0 = M := rfl
set_option maxRecDepth 100000 in
set_option maxHeartbeats 4000000 in
theorem rload4_z {Z : Nat → Prop} {w : World} {B g : Nat} {M : PM} (h : DM Z w B g M) (root virt : Nat) (z access : Int) (hr : root ≤ 18446744073709551615) (hv : virt ≤ 18446744073709551615) :
    Calls Tryz.prog 24 #[.pointer (some ⟨g, 0, none⟩), .int .u64 (root : Nat), .int .u64 (virt : Nat), .int .i64 z, .int .i64 access] w (RloS Z B g M w (accZ M root virt access z)) := by
  have HM := Lib.hid h
  have HZ : Hid (∀ k, Z k → k < w.heap.size) := Lib.hid (fun k hk => (h.lt k hk).2)
  have HBL : Hid (B ≤ w.heap.size) := Lib.hid (by
    obtain ⟨_, _, _, _, _, _, _, _, _, _, hd⟩ := h
    exact Nat.le_trans hd.m.gB (Nat.le_of_lt hd.m.row.lt))
  have HBY := Lib.hid h.byte
  have HL8 := Lib.hid (@accZ_len M root virt access z)
  have HON := Lib.hid (@accZ_on M root virt access z)
  obtain ⟨r, hrr⟩ : ∃ r, r = accZ M root virt access z := ⟨_, rfl⟩
  have HBC : Hid (∀ wx, DM Z wx B g M → Calls Tryz.prog 42 #[.pointer (some ⟨g, 0, none⟩), .int .u64 (root : Nat), .int .u64 (virt : Nat), .int .i64 z, .int .i64 access] wx (RbS Z B g M wx r)) := Lib.hid (fun wx hd => by rw [hrr]; exact rbytes_z hd root virt z access hr hv)
  rw [← hrr] at HL8 HON ⊢
  clear hrr h
  obtain ⟨at_, F0, F1⟩ := r
  obtain ⟨L, hL⟩ : ∃ L, L = if F0 = 0 then at_ else [] := ⟨_, rfl⟩
  have HLB : Hid (L.length ≤ 8 ∧ ∀ a ∈ L, onM M a = true ∧ a ≤ TOP) := Lib.hid (by
    by_cases h0 : F0 = 0
    · rw [hL, if_pos h0]; exact ⟨HL8.out, HON.out h0⟩
    · rw [hL, if_neg h0]; exact ⟨by simp, by simp⟩)
  have HLD : Hid ((if F0 = 0 then Wd.unle (at_.map M.mem) else 0) = Wd.unle (L.map M.mem) ∧ (if F0 = 0 then at_.length else 0) = L.length) := Lib.hid (by
    by_cases h0 : F0 = 0
    · rw [hL, if_pos h0, if_pos h0, if_pos h0]; exact ⟨rfl, rfl⟩
    · rw [hL, if_neg h0, if_neg h0, if_neg h0]; exact ⟨rfl, rfl⟩)
  have HLE := Lib.hid hL
  clear HL8 HON hL
  obtain ⟨D1, hD1⟩ : ∃ D, D = (if F0 = 0 then 0 else F1 : Nat) := ⟨_, rfl⟩
  have HFL : Hid (flt F0 F1 = .agg #[.int .i64 (F0 : Nat), .int .u64 (D1 : Nat)]) := Lib.hid (by rw [flt_agg, hD1])
  clear hD1
  go_enter Tryz.func24, Tryz.ntmps24
  go_upto_region 1 with fail
  have hr9 := Row.new w 33 [.int .i64 0, .int .u64 0]
  have hm1 := HM.out.below (w' := w.alloc (.cells #[.int .i64 0, .int .u64 0] 33)) ((Below.refl _ _).alloc (Nat.le_refl _) _)
  have hc1 : ChgP Z w (w.alloc (.cells #[.int .i64 0, .int .u64 0] 33)) := (ChgP.refl _ w).alloc _
  have hs1 : (w.alloc (.cells #[.int .i64 0, .int .u64 0] 33)).heap.size = w.heap.size + 1 := by simp
  generalize w.alloc (.cells #[.int .i64 0, .int .u64 0] 33) = w1 at *
  have H1 := Lib.hid (And.intro hr9 (And.intro hc1 hs1))
  have HM1 := Lib.hid hm1
  clear hr9 hm1 hc1 hs1 HM
  go_upto_region 2 with (go_at_call 42; refine (HBC.out _ HM1.out).mono ?_; rintro e wt ⟨⟨A, n, c, rfl, hn, how⟩, hdt, hct⟩; simp only at hn how ⊢; rw [HFL.out]; have HT := Lib.hid (And.intro hn (And.intro how (And.intro hdt hct))); clear hn how hdt hct)
  obtain ⟨c13, hc13⟩ : ∃ c, c = wt.heap.size := ⟨_, rfl⟩
  have HRL : Hid (RL Z B g M w A c n c13 L F0 D1 0 (wt.alloc (.cells #[.int .i64 (F0 : Nat), .int .u64 (D1 : Nat)] 33)) ∧ n = L.length) := Lib.hid (by
    obtain ⟨hn, how, hdt, hct⟩ := HT.out
    obtain ⟨h1, h2, h3⟩ := H1.out
    have hb : Below wt.heap.size wt (wt.alloc (.cells #[.int .i64 (F0 : Nat), .int .u64 (D1 : Nat)] 33)) := (Below.refl _ _).alloc (Nat.le_refl _) _
    rw [h3, ← HLE.out] at how
    have hrt := hct.row h1 (fun hk => by have := HZ.out _ hk; omega)
    refine ⟨⟨hdt.below hb, (h2.trans hct (fun k hk => .inl hk)).alloc _, hrt.below hb hrt.lt, by rw [hc13]; exact Row.new wt _ _, by rw [hc13]; exact hrt.lt, how.alloc _⟩, by rw [hn, HLD.out.2]⟩)
  generalize wt.alloc (.cells #[.int .i64 (F0 : Nat), .int .u64 (D1 : Nat)] 33) = wu at *
  rw [← hc13]
  clear HT H1 hc13 HBC HM1
  obtain ⟨hRL, hnL⟩ := HRL.out
  have HNL := Lib.hid hnL
  have HR0 := Lib.hid hRL
  have hn8 : n ≤ 8 := by rw [hnL]; exact HLB.out.1
  clear hRL hnL HRL
  go_wp2_with fail
  go_loopw [14, 15] (fun x y wr => ∃ (i v : Nat), i ≤ n ∧ x = .int .u64 (v : Nat) ∧ y = .int .i64 (i : Nat) ∧ Hid (v = Wd.unle ((L.take i).map M.mem)) ∧ Hid (RL Z B g M w A c n c13 L F0 D1 i wr)) (fun _ y _ => n - (intOf y).toNat)
  case atStart => exact ⟨0, 0, by omega, rfl, rfl, rfl, HR0⟩
  case round =>
  clear HR0
  obtain ⟨i, v, hi, rfl, rfl, HV, HR⟩ := hrel
  by_cases hin : i < n
  · obtain ⟨gb, rfl⟩ := HR.out.at_ (by omega)
    obtain ⟨a, ha⟩ : ∃ a, L[i]? = some a := ⟨_, List.getElem?_eq_getElem (by have := HNL.out; omega)⟩
    obtain ⟨x0, xl⟩ := HR.out.cell hin ha
    obtain ⟨ho, hat⟩ := HLB.out.2 a (List.mem_of_getElem? ha)
    have HLO : Hid (Calls Tryz.prog 43 #[.pointer (some ⟨g, 0, none⟩), .int .u64 (a : Nat), .int .i64 1] wr fun e w' => e = .returned (.tuple #[.int .u64 (M.mem a : Nat), .agg #[.int .i64 0, .int .u64 0]]) ∧ RL Z B g M w (some ⟨gb, 0, none⟩) c n c13 L F0 D1 (i + 1) w') := Lib.hid
      ((rld1 HR.out.dm a hat ho).mono (fun e w' ⟨h1, h2, h3⟩ => ⟨h1, HR.out.chg h2 h3 HZ.out⟩))
    obtain ⟨x, hx⟩ : ∃ x, x = M.mem a := ⟨_, rfl⟩
    have hx8 : x < 256 := by rw [hx]; exact HBY.out a
    rw [← hx] at HLO
    have hV' : v + 256 ^ i * x = Wd.unle ((L.take (i + 1)).map M.mem) := by
      have e : L.take (i + 1) = L.take i ++ [a] := by
        have hil := (List.getElem?_eq_some_iff.1 ha).1
        rw [List.take_succ_eq_append_getElem hil]
        congr 2
        rw [List.getElem?_eq_getElem hil] at ha
        injection ha
      rw [e, List.map_append, Wd.unle_append, ← HV.out, List.length_map, List.length_take, Nat.min_eq_left (by have := HNL.out; omega)]
      simp only [List.map_cons, List.map_nil, Wd.unle, Nat.mul_zero, Nat.add_zero, ← hx]
    have hlt : v + 256 ^ i * x < 18446744073709551616 := by
      rw [hV']
      have h := Wd.unle_lt ((L.take (i + 1)).map M.mem) (fun b hb => by obtain ⟨y, _, rfl⟩ := List.mem_map.1 hb; exact HBY.out y)
      have h2 : 256 ^ ((L.take (i + 1)).map M.mem).length ≤ 256 ^ 8 := Nat.pow_le_pow_right (by decide) (by rw [List.length_map, List.length_take]; omega)
      have h3 : (256 : Nat) ^ 8 = 18446744073709551616 := by decide
      omega
    obtain ⟨sh, hsh⟩ : ∃ sh, sh = 256 ^ i * x := ⟨_, rfl⟩
    rw [← hsh] at hV' hlt
    obtain ⟨nv, hnv⟩ : ∃ nv, nv = v + sh := ⟨_, rfl⟩
    rw [← hnv] at hV' hlt
    have HV' := Lib.hid hV'
    have e2 : IntKind.u64.wrap ((x : Int) * 2 ^ (8 * i)) = (sh : Int) := by
      have e : (x : Int) * 2 ^ (8 * i) = (sh : Int) := by
        rw [hsh, show (256 : Nat) ^ i = 2 ^ (8 * i) by rw [show (256 : Nat) = 2 ^ 8 from rfl, ← Nat.pow_mul], Int.mul_comm]; push_cast; rfl
      rw [e, IntKind.wrap_u64]; omega
    have e3 : IntKind.i64.wrap (8 * (i : Int)) = 8 * (i : Int) := by rw [IntKind.wrap_i64]; omega
    have e4 : (v : Int) + (sh : Int) = (nv : Int) := by omega
    have e5 : IntKind.u64.wrap (nv : Int) = (nv : Int) := by rw [IntKind.wrap_u64]; omega
    clear hx hsh hV' hlt hnv ha ho hat
    go_upto_region 6 with fail
    go_upto_region 7 with (go_at_call 43; refine HLO.out.mono ?_; rintro e wt ⟨rfl, ht⟩; have HT := Lib.hid ht; clear ht)
    have HT2 := Lib.hid (HT.out.below ((Below.refl _ _).alloc (Nat.le_refl _) (.cells #[.int .i64 0, .int .u64 0] 33)))
    generalize wt.alloc (.cells #[.int .i64 0, .int .u64 0] 33) = wv at *
    clear HT HLO x0 xl
    go_wp2_with fail
    go_roundw
    case rel => exact ⟨i + 1, nv, by omega, by go_num, by go_num, HV', HT2⟩
    case measure => simp [intOf]; omega
  · have ei : i = n := by omega
    subst ei
    have y0 := HR.out.rf.frozen 0
    have y1 := HR.out.rf.frozen 1
    have yl := HR.out.rf.lt
    have y2 := HR.out.rf.cell 0
    have y3 := HR.out.rf.cell 1
    have x0 := HR.out.rg.cell 0
    have x1 := HR.out.rg.cell 1
    have xl := HR.out.rg.lt
    simp only [List.getElem?_cons_zero, List.getElem?_cons_succ] at y2 y3 x0 x1
    have HVE : Hid (v = Wd.unle (L.map M.mem)) := Lib.hid (by rw [HV.out, List.take_of_length_le (by rw [HNL.out]; omega)])
    go_upto_region 8 with fail
    go_region_law fail
    all_goals
      go_wp2_with fail
      generalize hW : World.drew ((wr.setCell ⟨w.heap.size, 0, none⟩ (.int .i64 (F0 : Nat))).setCell ⟨w.heap.size, 1, none⟩ (.int .u64 (D1 : Nat))) = W
      obtain ⟨q1, q2, q3, q4⟩ := HR.out.fin HZ.out HBL.out F0 D1 hW.symm
      exact bodyPost_ret (v := .tuple #[.int .u64 (v : Nat), .agg #[.int .i64 (F0 : Nat), .int .u64 (D1 : Nat)]]) (by simp [results, Tryz.results24, go_sem, q3, q4]) rfl ⟨by simp only; rw [HFL.out, HLD.out.1, ← HVE.out], by simp only; rw [HLD.out.2, ← HNL.out]; exact q1, q2⟩
end Bu
end Go.Proofs.YtfpofaniicegaaaGreat
