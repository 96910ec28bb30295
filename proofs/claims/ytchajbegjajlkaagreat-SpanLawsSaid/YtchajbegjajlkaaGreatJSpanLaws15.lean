/- Texts of this claim, one behind the other: SoL64. -/
import Derived.Test.YtchajbegjajlkaaGreatJSpanLaws11
import Derived.Deep.RegionHeld
import Derived.Deep.Cut
import Derived.Deep.DeepCutAuto
/- The walk of the law's laws: what sets of one type have to do with one another. -/
set_option linter.unusedVariables false
set_option linter.unusedSimpArgs false
namespace Go.Proofs.YtchajbegjajlkaaGreat
open Go.RowKit
namespace S64
theorem Below.step_ {a b c : World} (h : Below a.heap.size a b) (k : Below b.heap.size b c) : Below a.heap.size a c := h.trans (k.mono h.size)
set_option maxRecDepth 100000 in
set_option maxHeartbeats 16000000 in
theorem laws_any (A1 A2 A3 : Option Addr) (n1 c1 n2 c2 n3 c3 p : Nat) (us1 us2 us3 : List Nat) (w : World) (h1 : IsU w w.heap.size A1 n1 us1) (h2 : IsU w w.heap.size A2 n2 us2) (h3 : IsU w w.heap.size A3 n3 us3) (hp : p ≤ TOP) (hn1 : n1 ≤ 2147483648) (hn2 : n2 ≤ 2147483648) (hn3 : n3 ≤ 2147483648) :
    Calls Tryz.prog 13 #[.slice A1 n1 c1, .slice A2 n2 c2, .slice A3 n3 c3, .int .u64 (p : Nat)] w fun e w' => e = .returned (.bool true) ∧ Below w.heap.size w w' := by
  obtain ⟨F1, hF1⟩ : ∃ F, F = fun q => Sp.has (prs us1) q := ⟨_, rfl⟩
  obtain ⟨F2, hF2⟩ : ∃ F, F = fun q => Sp.has (prs us2) q := ⟨_, rfl⟩
  obtain ⟨F3, hF3⟩ : ∃ F, F = fun q => Sp.has (prs us3) q := ⟨_, rfl⟩
  have HM1 : Hid (∀ wx, Below w.heap.size w wx → Calls Tryz.prog 56 #[.slice A1 n1 c1] wx fun e w' => ∃ Ao no co, e = .returned (.agg #[.slice Ao no co]) ∧ SetV w' F1 2147483648 Ao no co ∧ Below wx.heap.size wx w') := Lib.hid (fun wx hb => by rw [hF1]; exact many_v A1 n1 c1 _ us1 wx ((h1.below hb).more hb.size) hn1 (by omega))
  have HM2 : Hid (∀ wx, Below w.heap.size w wx → Calls Tryz.prog 56 #[.slice A2 n2 c2] wx fun e w' => ∃ Ao no co, e = .returned (.agg #[.slice Ao no co]) ∧ SetV w' F2 2147483648 Ao no co ∧ Below wx.heap.size wx w') := Lib.hid (fun wx hb => by rw [hF2]; exact many_v A2 n2 c2 _ us2 wx ((h2.below hb).more hb.size) hn2 (by omega))
  have HM3 : Hid (∀ wx, Below w.heap.size w wx → Calls Tryz.prog 56 #[.slice A3 n3 c3] wx fun e w' => ∃ Ao no co, e = .returned (.agg #[.slice Ao no co]) ∧ SetV w' F3 2147483648 Ao no co ∧ Below wx.heap.size wx w') := Lib.hid (fun wx hb => by rw [hF3]; exact many_v A3 n3 c3 _ us3 wx ((h3.below hb).more hb.size) hn3 (by omega))
  have HP : Hid (p ≤ TOP) := Lib.hid hp
  clear hF1 hF2 hF3 h1 h2 h3 hp hn1 hn2 hn3
  go_enter Tryz.func13, Tryz.ntmps13
  go_upto_region 2 with (go_at_call 56; refine (HM1.out _ (Below.refl _ _)).mono ?_; rintro e wa ⟨As, ns, cs, rfl, hv, hb⟩; have HV1 := Lib.hid hv; have HB1 := Lib.hid hb; clear hv hb)
  have r9 := Row.new wa 56 [.slice As ns cs]
  have b9 : Below w.heap.size w (wa.alloc (.cells #[.slice As ns cs] 56)) := HB1.out.alloc HB1.out.size _
  have v9 := HV1.out.below ((Below.refl _ _).alloc (Nat.le_refl _) (.cells #[.slice As ns cs] 56))
  obtain ⟨g9, hg9⟩ : ∃ g, g = wa.heap.size := ⟨_, rfl⟩
  generalize wa.alloc (.cells #[.slice As ns cs] 56) = w1 at *
  rw [← hg9] at r9 ⊢
  have HR9 := Lib.hid r9; have HB9 := Lib.hid b9; have HV9 := Lib.hid v9
  clear r9 b9 v9 hg9 HV1 HB1 HM1
  go_upto_region 3 with (go_at_call 56; refine (HM2.out _ HB9.out).mono ?_; rintro e wb ⟨At, nt, ct, rfl, hv, hb⟩; have HV1 := Lib.hid hv; have HB1 := Lib.hid hb; clear hv hb)
  have r10 := Row.new wb 56 [.slice At nt ct]
  have b10 : Below w1.heap.size w1 (wb.alloc (.cells #[.slice At nt ct] 56)) := HB1.out.alloc HB1.out.size _
  have v10 := HV1.out.below ((Below.refl _ _).alloc (Nat.le_refl _) (.cells #[.slice At nt ct] 56))
  obtain ⟨g10, hg10⟩ : ∃ g, g = wb.heap.size := ⟨_, rfl⟩
  generalize wb.alloc (.cells #[.slice At nt ct] 56) = w2 at *
  rw [← hg10] at r10 ⊢
  have HR10 := Lib.hid r10; have HB10 := Lib.hid b10; have HV10 := Lib.hid v10
  clear r10 b10 v10 hg10 HV1 HB1 HM2
  go_upto_region 4 with (go_at_call 56; refine (HM3.out _ (HB9.out.trans (HB10.out.mono HB9.out.size))).mono ?_; rintro e wz ⟨Au, nu, cu, rfl, hv, hb⟩; have HV1 := Lib.hid hv; have HB1 := Lib.hid hb; clear hv hb)
  have r11 := Row.new wz 56 [.slice Au nu cu]
  have b11 : Below w2.heap.size w2 (wz.alloc (.cells #[.slice Au nu cu] 56)) := HB1.out.alloc HB1.out.size _
  have v11 := HV1.out.below ((Below.refl _ _).alloc (Nat.le_refl _) (.cells #[.slice Au nu cu] 56))
  obtain ⟨g11, hg11⟩ : ∃ g, g = wz.heap.size := ⟨_, rfl⟩
  generalize wz.alloc (.cells #[.slice Au nu cu] 56) = wc at *
  rw [← hg11] at r11 ⊢
  have HRu := Lib.hid r11; have HVu := Lib.hid v11
  have HRt := Lib.hid (HR10.out.below b11 HR10.out.lt); have HVt := Lib.hid (HV10.out.below b11)
  have hb12 := Below.step_ HB10.out b11
  have HRs := Lib.hid (HR9.out.below hb12 HR9.out.lt); have HVs := Lib.hid (HV9.out.below hb12)
  have HBw : Hid (Below w.heap.size w wc) := Lib.hid (HB9.out.trans (hb12.mono HB9.out.size))
  clear r11 b11 v11 hg11 hb12 HV1 HB1 HM3 HR9 HB9 HV9 HR10 HB10 HV10

  go_cut [54] (fun x wx => x = .bool false ∧ Hid (Below wc.heap.size wc wx))
  case first =>
    as_aux_lemma =>
    have HG : Hid (∀ wy, Below wc.heap.size wc wy → wy.cell? ⟨g9, 0, none⟩ = some (.slice As ns cs) ∧ wy.cell? ⟨g10, 0, none⟩ = some (.slice At nt ct) ∧ wy.cell? ⟨g11, 0, none⟩ = some (.slice Au nu cu)) := Lib.hid (fun wy hb => ⟨(HRs.out.below hb HRs.out.lt).cell 0, (HRt.out.below hb HRt.out.lt).cell 0, (HRu.out.below hb HRu.out.lt).cell 0⟩)
    have HBD : Hid (Below wc.heap.size wc wc.drew) := Lib.hid (Below.refl _ _).drew
    have HVsf : Hid (∀ wy, Below wc.heap.size wc wy → SetV wy F1 2147483648 As ns cs) := Lib.hid (fun wy hb => HVs.out.below hb)
    have HVtf : Hid (∀ wy, Below wc.heap.size wc wy → SetV wy F2 2147483648 At nt ct) := Lib.hid (fun wy hb => HVt.out.below hb)
    have HVuf : Hid (∀ wy, Below wc.heap.size wc wy → SetV wy F3 2147483648 Au nu cu) := Lib.hid (fun wy hb => HVu.out.below hb)
    refine wp_region_held_drew (S := (fun w' => w'.cell? ⟨g9, 0, none⟩ = some (.slice As ns cs) ∧ w'.cell? ⟨g10, 0, none⟩ = some (.slice At nt ct) ∧ w'.cell? ⟨g11, 0, none⟩ = some (.slice Au nu cu))) (by kernel_rfl) (HG.out _ HBD.out) (fun hHeld => ?q4_s)
    refine wpAnyH_take (i := 0) (v := ?q4_v0) rfl (by kernel_rfl) (by kernel_rfl) (by kernel_rfl) (fun _ _ _ h => h) (Or.inl ⟨by kernel_rfl, ?q4_y0⟩) (by assumption) ?q4_r0
    case q4_y0 =>
      intro w' hSw
      try dsimp only at hSw
      go_simp
      try with_reducible rfl
    try simp only [Act.put, List.getElem_toArray, List.getElem_cons_succ, List.getElem_cons_zero, List.setIfInBounds_toArray, List.set_cons_zero, List.set_cons_succ]
    refine wpAnyH_take (i := 1) (v := ?q4_v1) rfl (by kernel_rfl) (by kernel_rfl) (by kernel_rfl) (fun _ _ _ h => h) (Or.inl ⟨by kernel_rfl, ?q4_y1⟩) (by assumption) ?q4_r1
    case q4_y1 =>
      intro w' hSw
      try dsimp only at hSw
      go_simp
      try with_reducible rfl
    try simp only [Act.put, List.getElem_toArray, List.getElem_cons_succ, List.getElem_cons_zero, List.setIfInBounds_toArray, List.set_cons_zero, List.set_cons_succ]
    refine wpAnyH_take (i := 3) (v := ?q4_v3) rfl (by kernel_rfl) (by kernel_rfl) (by kernel_rfl) (fun _ _ _ h => h) (Or.inl ⟨by kernel_rfl, ?q4_y3⟩) (by assumption) ?q4_r3
    case q4_y3 =>
      intro w' hSw
      try dsimp only at hSw
      go_simp
      try with_reducible rfl
    try simp only [Act.put, List.getElem_toArray, List.getElem_cons_succ, List.getElem_cons_zero, List.setIfInBounds_toArray, List.set_cons_zero, List.set_cons_succ]
    refine wpAnyH_take (i := 4) (v := ?q4_v4) rfl (by kernel_rfl) (by kernel_rfl) (by kernel_rfl) (fun _ _ _ h => h) (Or.inl ⟨by kernel_rfl, ?q4_y4⟩) (by assumption) ?q4_r4
    case q4_y4 =>
      intro w' hSw
      try dsimp only at hSw
      go_simp
      try with_reducible rfl
    try simp only [Act.put, List.getElem_toArray, List.getElem_cons_succ, List.getElem_cons_zero, List.setIfInBounds_toArray, List.set_cons_zero, List.set_cons_succ]
    refine wpAnyH_ready (rs := [2]) (by kernel_rfl) (by simp) ?q4_r2
    refine AllReadyH.cons rfl (fun K hK => ?q4_b2) AllReadyH.nil
    rw [if_pos (by kernel_rfl)]
    go_simp
    go_at_call 57
    refine (or_v _ _ _ _ _ _ _ _ _ _ _ (HVsf.out _ HBD.out) (HVtf.out _ HBD.out) (by omega)).mono ?_
    rintro e w4_1 ⟨A4_1, n4_1, c4_1, rfl, hv, hb1⟩
    have HV4_1 : Hid (∀ wy, Below w4_1.heap.size w4_1 wy → SetV wy _ _ A4_1 n4_1 c4_1) := Lib.hid (fun wy hb => hv.below hb)
    clear hv
    have HW4_1 := Lib.hid hb1
    have HB4_1 : Hid (Below wc.heap.size wc w4_1) := Lib.hid (HBD.out.trans (hb1.mono HBD.out.size))
    refine hK.out _ _ (HG.out _ HB4_1.out) (fun hHeld4_1 => ?q4_c2)
    clear hK hb1
    try simp only [Act.put, List.getElem_toArray, List.getElem_cons_succ, List.getElem_cons_zero, List.setIfInBounds_toArray, List.set_cons_zero, List.set_cons_succ]
    refine wpAnyH_ready (rs := [5]) (by kernel_rfl) (by simp) ?q4_r5
    refine AllReadyH.cons rfl (fun K hK => ?q4_b5) AllReadyH.nil
    rw [if_pos (by kernel_rfl)]
    go_simp
    go_at_call 57
    refine (or_v _ _ _ _ _ _ _ _ _ _ _ (HVtf.out _ HB4_1.out) (HVsf.out _ HB4_1.out) (by omega)).mono ?_
    rintro e w4_2 ⟨A4_2, n4_2, c4_2, rfl, hv, hb2⟩
    have HV4_2 : Hid (∀ wy, Below w4_2.heap.size w4_2 wy → SetV wy _ _ A4_2 n4_2 c4_2) := Lib.hid (fun wy hb => hv.below hb)
    clear hv
    have HW4_2 := Lib.hid hb2
    have HB4_2 : Hid (Below wc.heap.size wc w4_2) := Lib.hid (HB4_1.out.trans (hb2.mono HB4_1.out.size))
    refine hK.out _ _ (HG.out _ HB4_2.out) (fun hHeld4_2 => ?q4_c5)
    clear hK hb2
    try simp only [Act.put, List.getElem_toArray, List.getElem_cons_succ, List.getElem_cons_zero, List.setIfInBounds_toArray, List.set_cons_zero, List.set_cons_succ]
    refine wpAnyH_ready (rs := [6]) (by kernel_rfl) (by simp) ?q4_r6
    refine AllReadyH.cons rfl (fun K hK => ?q4_b6) AllReadyH.nil
    rw [if_pos (by kernel_rfl)]
    go_simp
    go_at_call 58
    refine (same_v _ _ _ _ _ _ _ _ _ _ true _ (HV4_1.out _ (Below.step_ (Below.refl _ _) HW4_2.out)) (HV4_2.out _ (Below.refl _ _)) ⟨fun _ => by intro q hq; first | rfl | (cases F1 q <;> cases F2 q <;> cases F3 q <;> rfl) | (dsimp only; cases F1 q <;> cases F2 q <;> cases F3 q <;> rfl), fun _ => rfl⟩).mono ?_
    rintro e w4_3 ⟨rfl, hb3⟩
    have HW4_3 := Lib.hid hb3
    have HB4_3 : Hid (Below wc.heap.size wc w4_3) := Lib.hid (HB4_2.out.trans (hb3.mono HB4_2.out.size))
    refine hK.out _ _ (HG.out _ HB4_3.out) (fun hHeld4_3 => ?q4_c6)
    clear hK hb3
    try simp only [Act.put, List.getElem_toArray, List.getElem_cons_succ, List.getElem_cons_zero, List.setIfInBounds_toArray, List.set_cons_zero, List.set_cons_succ]
    refine wpAnyH_take (i := 7) (v := ?q4_v7) rfl (by kernel_rfl) (by kernel_rfl) (by kernel_rfl) (fun _ _ _ h => h) (Or.inl ⟨by kernel_rfl, ?q4_y7⟩) (by assumption) ?q4_r7
    case q4_y7 =>
      intro w' hSw
      try dsimp only at hSw
      go_simp
      try with_reducible rfl
    try simp only [Act.put, List.getElem_toArray, List.getElem_cons_succ, List.getElem_cons_zero, List.setIfInBounds_toArray, List.set_cons_zero, List.set_cons_succ]
    refine wpAnyH_take (i := 8) (v := ?q4_v8) rfl (by kernel_rfl) (by kernel_rfl) (by kernel_rfl) (fun _ _ _ h => h) (Or.inl ⟨by kernel_rfl, ?q4_y8⟩) (by assumption) ?q4_r8
    case q4_y8 =>
      intro w' hSw
      try dsimp only at hSw
      go_simp
      try with_reducible rfl
    try simp only [Act.put, List.getElem_toArray, List.getElem_cons_succ, List.getElem_cons_zero, List.setIfInBounds_toArray, List.set_cons_zero, List.set_cons_succ]
    refine wpAnyH_take (i := 9) (v := ?q4_v9) rfl (by kernel_rfl) (by kernel_rfl) (by kernel_rfl) (fun _ _ _ h => h) (Or.inl ⟨by kernel_rfl, ?q4_y9⟩) (by assumption) ?q4_r9
    case q4_y9 =>
      intro w' hSw
      try dsimp only at hSw
      go_simp
      try with_reducible rfl
    try simp only [Act.put, List.getElem_toArray, List.getElem_cons_succ, List.getElem_cons_zero, List.setIfInBounds_toArray, List.set_cons_zero, List.set_cons_succ]
    refine wpAnyH_take (i := 10) (v := ?q4_v10) rfl (by kernel_rfl) (by kernel_rfl) (by kernel_rfl) (fun _ _ _ h => h) (Or.inl ⟨by kernel_rfl, ?q4_y10⟩) (by assumption) ?q4_r10
    case q4_y10 =>
      intro w' hSw
      try dsimp only at hSw
      go_simp
      try with_reducible rfl
    try simp only [Act.put, List.getElem_toArray, List.getElem_cons_succ, List.getElem_cons_zero, List.setIfInBounds_toArray, List.set_cons_zero, List.set_cons_succ]
    refine wpAnyH_take (i := 12) (v := ?q4_v12) rfl (by kernel_rfl) (by kernel_rfl) (by kernel_rfl) (fun _ _ _ h => h) (Or.inl ⟨by kernel_rfl, ?q4_y12⟩) (by assumption) ?q4_r12
    case q4_y12 =>
      intro w' hSw
      try dsimp only at hSw
      go_simp
      try with_reducible rfl
    try simp only [Act.put, List.getElem_toArray, List.getElem_cons_succ, List.getElem_cons_zero, List.setIfInBounds_toArray, List.set_cons_zero, List.set_cons_succ]
    refine wpAnyH_take (i := 13) (v := ?q4_v13) rfl (by kernel_rfl) (by kernel_rfl) (by kernel_rfl) (fun _ _ _ h => h) (Or.inl ⟨by kernel_rfl, ?q4_y13⟩) (by assumption) ?q4_r13
    case q4_y13 =>
      intro w' hSw
      try dsimp only at hSw
      go_simp
      try with_reducible rfl
    try simp only [Act.put, List.getElem_toArray, List.getElem_cons_succ, List.getElem_cons_zero, List.setIfInBounds_toArray, List.set_cons_zero, List.set_cons_succ]
    refine wpAnyH_take (i := 14) (v := ?q4_v14) rfl (by kernel_rfl) (by kernel_rfl) (by kernel_rfl) (fun _ _ _ h => h) (Or.inl ⟨by kernel_rfl, ?q4_y14⟩) (by assumption) ?q4_r14
    case q4_y14 =>
      intro w' hSw
      try dsimp only at hSw
      go_simp
      try with_reducible rfl
    try simp only [Act.put, List.getElem_toArray, List.getElem_cons_succ, List.getElem_cons_zero, List.setIfInBounds_toArray, List.set_cons_zero, List.set_cons_succ]
    refine wpAnyH_ready (rs := [11]) (by kernel_rfl) (by simp) ?q4_r11
    refine AllReadyH.cons rfl (fun K hK => ?q4_b11) AllReadyH.nil
    rw [if_pos (by kernel_rfl)]
    go_simp
    go_at_call 59
    refine (meet_v _ _ _ _ _ _ _ _ _ _ _ (HVsf.out _ HB4_3.out) (HVtf.out _ HB4_3.out) (by omega)).mono ?_
    rintro e w4_4 ⟨A4_4, n4_4, c4_4, rfl, hv, hb4⟩
    have HV4_4 : Hid (∀ wy, Below w4_4.heap.size w4_4 wy → SetV wy _ _ A4_4 n4_4 c4_4) := Lib.hid (fun wy hb => hv.below hb)
    clear hv
    have HW4_4 := Lib.hid hb4
    have HB4_4 : Hid (Below wc.heap.size wc w4_4) := Lib.hid (HB4_3.out.trans (hb4.mono HB4_3.out.size))
    refine hK.out _ _ (HG.out _ HB4_4.out) (fun hHeld4_4 => ?q4_c11)
    clear hK hb4
    try simp only [Act.put, List.getElem_toArray, List.getElem_cons_succ, List.getElem_cons_zero, List.setIfInBounds_toArray, List.set_cons_zero, List.set_cons_succ]
    refine wpAnyH_ready (rs := [15]) (by kernel_rfl) (by simp) ?q4_r15
    refine AllReadyH.cons rfl (fun K hK => ?q4_b15) AllReadyH.nil
    rw [if_pos (by kernel_rfl)]
    go_simp
    go_at_call 60
    refine (less_v _ _ _ _ _ _ _ _ _ _ _ (HVsf.out _ HB4_4.out) (HVtf.out _ HB4_4.out) (by omega)).mono ?_
    rintro e w4_5 ⟨A4_5, n4_5, c4_5, rfl, hv, hb5⟩
    have HV4_5 : Hid (∀ wy, Below w4_5.heap.size w4_5 wy → SetV wy _ _ A4_5 n4_5 c4_5) := Lib.hid (fun wy hb => hv.below hb)
    clear hv
    have HW4_5 := Lib.hid hb5
    have HB4_5 : Hid (Below wc.heap.size wc w4_5) := Lib.hid (HB4_4.out.trans (hb5.mono HB4_4.out.size))
    refine hK.out _ _ (HG.out _ HB4_5.out) (fun hHeld4_5 => ?q4_c15)
    clear hK hb5
    try simp only [Act.put, List.getElem_toArray, List.getElem_cons_succ, List.getElem_cons_zero, List.setIfInBounds_toArray, List.set_cons_zero, List.set_cons_succ]
    refine wpAnyH_ready (rs := [16]) (by kernel_rfl) (by simp) ?q4_r16
    refine AllReadyH.cons rfl (fun K hK => ?q4_b16) AllReadyH.nil
    rw [if_pos (by kernel_rfl)]
    go_simp
    go_at_call 60
    refine (less_v _ _ _ _ _ _ _ _ _ _ _ (HVsf.out _ HB4_5.out) (HV4_5.out _ (Below.refl _ _)) (by omega)).mono ?_
    rintro e w4_6 ⟨A4_6, n4_6, c4_6, rfl, hv, hb6⟩
    have HV4_6 : Hid (∀ wy, Below w4_6.heap.size w4_6 wy → SetV wy _ _ A4_6 n4_6 c4_6) := Lib.hid (fun wy hb => hv.below hb)
    clear hv
    have HW4_6 := Lib.hid hb6
    have HB4_6 : Hid (Below wc.heap.size wc w4_6) := Lib.hid (HB4_5.out.trans (hb6.mono HB4_5.out.size))
    refine hK.out _ _ (HG.out _ HB4_6.out) (fun hHeld4_6 => ?q4_c16)
    clear hK hb6
    try simp only [Act.put, List.getElem_toArray, List.getElem_cons_succ, List.getElem_cons_zero, List.setIfInBounds_toArray, List.set_cons_zero, List.set_cons_succ]
    refine wpAnyH_ready (rs := [17]) (by kernel_rfl) (by simp) ?q4_r17
    refine AllReadyH.cons rfl (fun K hK => ?q4_b17) AllReadyH.nil
    rw [if_pos (by kernel_rfl)]
    go_simp
    go_at_call 58
    refine (same_v _ _ _ _ _ _ _ _ _ _ true _ (HV4_4.out _ (Below.step_ (Below.step_ (Below.refl _ _) HW4_5.out) HW4_6.out)) (HV4_6.out _ (Below.refl _ _)) ⟨fun _ => by intro q hq; first | rfl | (cases F1 q <;> cases F2 q <;> cases F3 q <;> rfl) | (dsimp only; cases F1 q <;> cases F2 q <;> cases F3 q <;> rfl), fun _ => rfl⟩).mono ?_
    rintro e w4_7 ⟨rfl, hb7⟩
    have HW4_7 := Lib.hid hb7
    have HB4_7 : Hid (Below wc.heap.size wc w4_7) := Lib.hid (HB4_6.out.trans (hb7.mono HB4_6.out.size))
    refine hK.out _ _ (HG.out _ HB4_7.out) (fun hHeld4_7 => ?q4_c17)
    clear hK hb7
    try simp only [Act.put, List.getElem_toArray, List.getElem_cons_succ, List.getElem_cons_zero, List.setIfInBounds_toArray, List.set_cons_zero, List.set_cons_succ]
    refine wpAnyH_take (i := 18) (v := ?q4_v18) rfl (by kernel_rfl) (by kernel_rfl) (by kernel_rfl) (fun _ _ _ h => h) (Or.inl ⟨by kernel_rfl, ?q4_y18⟩) (by assumption) ?q4_r18
    case q4_y18 =>
      intro w' hSw
      try dsimp only at hSw
      go_simp
      try with_reducible rfl
    try simp only [Act.put, List.getElem_toArray, List.getElem_cons_succ, List.getElem_cons_zero, List.setIfInBounds_toArray, List.set_cons_zero, List.set_cons_succ]
    refine wpAnyH_take (i := 19) (v := ?q4_v19) rfl (by kernel_rfl) (by kernel_rfl) (by kernel_rfl) (fun _ _ _ h => h) (Or.inl ⟨by kernel_rfl, ?q4_y19⟩) (by assumption) ?q4_r19
    case q4_y19 =>
      intro w' hSw
      try dsimp only at hSw
      go_simp
      try with_reducible rfl
    try simp only [Act.put, List.getElem_toArray, List.getElem_cons_succ, List.getElem_cons_zero, List.setIfInBounds_toArray, List.set_cons_zero, List.set_cons_succ]
    refine wpAnyH_take (i := 20) (v := ?q4_v20) rfl (by kernel_rfl) (by kernel_rfl) (by kernel_rfl) (fun _ _ _ h => h) (Or.inl ⟨by kernel_rfl, ?q4_y20⟩) (by assumption) ?q4_r20
    case q4_y20 =>
      intro w' hSw
      try dsimp only at hSw
      go_simp
      try with_reducible rfl
    try simp only [Act.put, List.getElem_toArray, List.getElem_cons_succ, List.getElem_cons_zero, List.setIfInBounds_toArray, List.set_cons_zero, List.set_cons_succ]
    refine wpAnyH_take (i := 21) (v := ?q4_v21) rfl (by kernel_rfl) (by kernel_rfl) (by kernel_rfl) (fun _ _ _ h => h) (Or.inl ⟨by kernel_rfl, ?q4_y21⟩) (by assumption) ?q4_r21
    case q4_y21 =>
      intro w' hSw
      try dsimp only at hSw
      go_simp
      try with_reducible rfl
    try simp only [Act.put, List.getElem_toArray, List.getElem_cons_succ, List.getElem_cons_zero, List.setIfInBounds_toArray, List.set_cons_zero, List.set_cons_succ]
    refine wpAnyH_take (i := 22) (v := ?q4_v22) rfl (by kernel_rfl) (by kernel_rfl) (by kernel_rfl) (fun _ _ _ h => h) (Or.inl ⟨by kernel_rfl, ?q4_y22⟩) (by assumption) ?q4_r22
    case q4_y22 =>
      intro w' hSw
      try dsimp only at hSw
      go_simp
      try with_reducible rfl
    try simp only [Act.put, List.getElem_toArray, List.getElem_cons_succ, List.getElem_cons_zero, List.setIfInBounds_toArray, List.set_cons_zero, List.set_cons_succ]
    refine wpAnyH_take (i := 23) (v := ?q4_v23) rfl (by kernel_rfl) (by kernel_rfl) (by kernel_rfl) (fun _ _ _ h => h) (Or.inl ⟨by kernel_rfl, ?q4_y23⟩) (by assumption) ?q4_r23
    case q4_y23 =>
      intro w' hSw
      try dsimp only at hSw
      go_simp
      try with_reducible rfl
    try simp only [Act.put, List.getElem_toArray, List.getElem_cons_succ, List.getElem_cons_zero, List.setIfInBounds_toArray, List.set_cons_zero, List.set_cons_succ]
    refine wpAnyH_take (i := 26) (v := ?q4_v26) rfl (by kernel_rfl) (by kernel_rfl) (by kernel_rfl) (fun _ _ _ h => h) (Or.inl ⟨by kernel_rfl, ?q4_y26⟩) (by assumption) ?q4_r26
    case q4_y26 =>
      intro w' hSw
      try dsimp only at hSw
      go_simp
      try with_reducible rfl
    try simp only [Act.put, List.getElem_toArray, List.getElem_cons_succ, List.getElem_cons_zero, List.setIfInBounds_toArray, List.set_cons_zero, List.set_cons_succ]
    refine wpAnyH_take (i := 27) (v := ?q4_v27) rfl (by kernel_rfl) (by kernel_rfl) (by kernel_rfl) (fun _ _ _ h => h) (Or.inl ⟨by kernel_rfl, ?q4_y27⟩) (by assumption) ?q4_r27
    case q4_y27 =>
      intro w' hSw
      try dsimp only at hSw
      go_simp
      try with_reducible rfl
    try simp only [Act.put, List.getElem_toArray, List.getElem_cons_succ, List.getElem_cons_zero, List.setIfInBounds_toArray, List.set_cons_zero, List.set_cons_succ]
    refine wpAnyH_take (i := 29) (v := ?q4_v29) rfl (by kernel_rfl) (by kernel_rfl) (by kernel_rfl) (fun _ _ _ h => h) (Or.inl ⟨by kernel_rfl, ?q4_y29⟩) (by assumption) ?q4_r29
    case q4_y29 =>
      intro w' hSw
      try dsimp only at hSw
      go_simp
      try with_reducible rfl
    try simp only [Act.put, List.getElem_toArray, List.getElem_cons_succ, List.getElem_cons_zero, List.setIfInBounds_toArray, List.set_cons_zero, List.set_cons_succ]
    refine wpAnyH_ready (rs := [24]) (by kernel_rfl) (by simp) ?q4_r24
    refine AllReadyH.cons rfl (fun K hK => ?q4_b24) AllReadyH.nil
    rw [if_pos (by kernel_rfl)]
    go_simp
    go_at_call 57
    refine (or_v _ _ _ _ _ _ _ _ _ _ _ (HVtf.out _ HB4_7.out) (HVuf.out _ HB4_7.out) (by omega)).mono ?_
    rintro e w4_8 ⟨A4_8, n4_8, c4_8, rfl, hv, hb8⟩
    have HV4_8 : Hid (∀ wy, Below w4_8.heap.size w4_8 wy → SetV wy _ _ A4_8 n4_8 c4_8) := Lib.hid (fun wy hb => hv.below hb)
    clear hv
    have HW4_8 := Lib.hid hb8
    have HB4_8 : Hid (Below wc.heap.size wc w4_8) := Lib.hid (HB4_7.out.trans (hb8.mono HB4_7.out.size))
    refine hK.out _ _ (HG.out _ HB4_8.out) (fun hHeld4_8 => ?q4_c24)
    clear hK hb8
    try simp only [Act.put, List.getElem_toArray, List.getElem_cons_succ, List.getElem_cons_zero, List.setIfInBounds_toArray, List.set_cons_zero, List.set_cons_succ]
    refine wpAnyH_ready (rs := [25]) (by kernel_rfl) (by simp) ?q4_r25
    refine AllReadyH.cons rfl (fun K hK => ?q4_b25) AllReadyH.nil
    rw [if_pos (by kernel_rfl)]
    go_simp
    go_at_call 60
    refine (less_v _ _ _ _ _ _ _ _ _ _ _ (HVsf.out _ HB4_8.out) (HV4_8.out _ (Below.refl _ _)) (by omega)).mono ?_
    rintro e w4_9 ⟨A4_9, n4_9, c4_9, rfl, hv, hb9⟩
    have HV4_9 : Hid (∀ wy, Below w4_9.heap.size w4_9 wy → SetV wy _ _ A4_9 n4_9 c4_9) := Lib.hid (fun wy hb => hv.below hb)
    clear hv
    have HW4_9 := Lib.hid hb9
    have HB4_9 : Hid (Below wc.heap.size wc w4_9) := Lib.hid (HB4_8.out.trans (hb9.mono HB4_8.out.size))
    refine hK.out _ _ (HG.out _ HB4_9.out) (fun hHeld4_9 => ?q4_c25)
    clear hK hb9
    try simp only [Act.put, List.getElem_toArray, List.getElem_cons_succ, List.getElem_cons_zero, List.setIfInBounds_toArray, List.set_cons_zero, List.set_cons_succ]
    refine wpAnyH_ready (rs := [28]) (by kernel_rfl) (by simp) ?q4_r28
    refine AllReadyH.cons rfl (fun K hK => ?q4_b28) AllReadyH.nil
    rw [if_pos (by kernel_rfl)]
    go_simp
    go_at_call 60
    refine (less_v _ _ _ _ _ _ _ _ _ _ _ (HVsf.out _ HB4_9.out) (HVtf.out _ HB4_9.out) (by omega)).mono ?_
    rintro e w4_10 ⟨A4_10, n4_10, c4_10, rfl, hv, hb10⟩
    have HV4_10 : Hid (∀ wy, Below w4_10.heap.size w4_10 wy → SetV wy _ _ A4_10 n4_10 c4_10) := Lib.hid (fun wy hb => hv.below hb)
    clear hv
    have HW4_10 := Lib.hid hb10
    have HB4_10 : Hid (Below wc.heap.size wc w4_10) := Lib.hid (HB4_9.out.trans (hb10.mono HB4_9.out.size))
    refine hK.out _ _ (HG.out _ HB4_10.out) (fun hHeld4_10 => ?q4_c28)
    clear hK hb10
    try simp only [Act.put, List.getElem_toArray, List.getElem_cons_succ, List.getElem_cons_zero, List.setIfInBounds_toArray, List.set_cons_zero, List.set_cons_succ]
    refine wpAnyH_ready (rs := [30]) (by kernel_rfl) (by simp) ?q4_r30
    refine AllReadyH.cons rfl (fun K hK => ?q4_b30) AllReadyH.nil
    rw [if_pos (by kernel_rfl)]
    go_simp
    go_at_call 60
    refine (less_v _ _ _ _ _ _ _ _ _ _ _ (HV4_10.out _ (Below.refl _ _)) (HVuf.out _ HB4_10.out) (by omega)).mono ?_
    rintro e w4_11 ⟨A4_11, n4_11, c4_11, rfl, hv, hb11⟩
    have HV4_11 : Hid (∀ wy, Below w4_11.heap.size w4_11 wy → SetV wy _ _ A4_11 n4_11 c4_11) := Lib.hid (fun wy hb => hv.below hb)
    clear hv
    have HW4_11 := Lib.hid hb11
    have HB4_11 : Hid (Below wc.heap.size wc w4_11) := Lib.hid (HB4_10.out.trans (hb11.mono HB4_10.out.size))
    refine hK.out _ _ (HG.out _ HB4_11.out) (fun hHeld4_11 => ?q4_c30)
    clear hK hb11
    try simp only [Act.put, List.getElem_toArray, List.getElem_cons_succ, List.getElem_cons_zero, List.setIfInBounds_toArray, List.set_cons_zero, List.set_cons_succ]
    refine wpAnyH_ready (rs := [31]) (by kernel_rfl) (by simp) ?q4_r31
    refine AllReadyH.cons rfl (fun K hK => ?q4_b31) AllReadyH.nil
    rw [if_pos (by kernel_rfl)]
    go_simp
    go_at_call 58
    refine (same_v _ _ _ _ _ _ _ _ _ _ true _ (HV4_9.out _ (Below.step_ (Below.step_ (Below.refl _ _) HW4_10.out) HW4_11.out)) (HV4_11.out _ (Below.refl _ _)) ⟨fun _ => by intro q hq; first | rfl | (cases F1 q <;> cases F2 q <;> cases F3 q <;> rfl) | (dsimp only; cases F1 q <;> cases F2 q <;> cases F3 q <;> rfl), fun _ => rfl⟩).mono ?_
    rintro e w4_12 ⟨rfl, hb12⟩
    have HW4_12 := Lib.hid hb12
    have HB4_12 : Hid (Below wc.heap.size wc w4_12) := Lib.hid (HB4_11.out.trans (hb12.mono HB4_11.out.size))
    refine hK.out _ _ (HG.out _ HB4_12.out) (fun hHeld4_12 => ?q4_c31)
    clear hK hb12
    try simp only [Act.put, List.getElem_toArray, List.getElem_cons_succ, List.getElem_cons_zero, List.setIfInBounds_toArray, List.set_cons_zero, List.set_cons_succ]
    refine wpAnyH_take (i := 32) (v := ?q4_v32) rfl (by kernel_rfl) (by kernel_rfl) (by kernel_rfl) (fun _ _ _ h => h) (Or.inl ⟨by kernel_rfl, ?q4_y32⟩) (by assumption) ?q4_r32
    case q4_y32 =>
      intro w' hSw
      try dsimp only at hSw
      go_simp
      try with_reducible rfl
    try simp only [Act.put, List.getElem_toArray, List.getElem_cons_succ, List.getElem_cons_zero, List.setIfInBounds_toArray, List.set_cons_zero, List.set_cons_succ]
    refine wpAnyH_take (i := 33) (v := ?q4_v33) rfl (by kernel_rfl) (by kernel_rfl) (by kernel_rfl) (fun _ _ _ h => h) (Or.inl ⟨by kernel_rfl, ?q4_y33⟩) (by assumption) ?q4_r33
    case q4_y33 =>
      intro w' hSw
      try dsimp only at hSw
      go_simp
      try with_reducible rfl
    try simp only [Act.put, List.getElem_toArray, List.getElem_cons_succ, List.getElem_cons_zero, List.setIfInBounds_toArray, List.set_cons_zero, List.set_cons_succ]
    refine wpAnyH_done (by kernel_rfl) ?_ _
    go_wp2_with fail
    go_meet
    case rel => exact ⟨rfl, HB4_12⟩
  case rest =>
  as_aux_lemma =>
  obtain ⟨rfl, HBx⟩ := hcut
  have HRs' := Lib.hid (HRs.out.below HBx.out HRs.out.lt); have HVs' := Lib.hid (HVs.out.below HBx.out)
  have HRt' := Lib.hid (HRt.out.below HBx.out HRt.out.lt); have HVt' := Lib.hid (HVt.out.below HBx.out)
  have HRu' := Lib.hid (HRu.out.below HBx.out HRu.out.lt); have HVu' := Lib.hid (HVu.out.below HBx.out)
  have HBw' := Lib.hid (HBw.out.trans (HBx.out.mono HBw.out.size))
  clear HBx HBw HRs HVs HRt HVt HRu HVu
  have HRs := HRs'; clear HRs'
  have HVs := HVs'; clear HVs'
  have HRt := HRt'; clear HRt'
  have HVt := HVt'; clear HVt'
  have HRu := HRu'; clear HRu'
  have HVu := HVu'; clear HVu'
  have HBw := HBw'; clear HBw'
  go_upto_region 6 with fail
  go_cut [88] (fun x wx => x = .bool false ∧ Hid (Below wc.heap.size wc wx))
  case first =>
    as_aux_lemma =>
    have HG : Hid (∀ wy, Below wc.heap.size wc wy → wy.cell? ⟨g9, 0, none⟩ = some (.slice As ns cs) ∧ wy.cell? ⟨g10, 0, none⟩ = some (.slice At nt ct) ∧ wy.cell? ⟨g11, 0, none⟩ = some (.slice Au nu cu)) := Lib.hid (fun wy hb => ⟨(HRs.out.below hb HRs.out.lt).cell 0, (HRt.out.below hb HRt.out.lt).cell 0, (HRu.out.below hb HRu.out.lt).cell 0⟩)
    have HBD : Hid (Below wc.heap.size wc wc.drew) := Lib.hid (Below.refl _ _).drew
    have HVsf : Hid (∀ wy, Below wc.heap.size wc wy → SetV wy F1 2147483648 As ns cs) := Lib.hid (fun wy hb => HVs.out.below hb)
    have HVtf : Hid (∀ wy, Below wc.heap.size wc wy → SetV wy F2 2147483648 At nt ct) := Lib.hid (fun wy hb => HVt.out.below hb)
    have HVuf : Hid (∀ wy, Below wc.heap.size wc wy → SetV wy F3 2147483648 Au nu cu) := Lib.hid (fun wy hb => HVu.out.below hb)
    refine wp_region_held_drew (S := (fun w' => w'.cell? ⟨g9, 0, none⟩ = some (.slice As ns cs) ∧ w'.cell? ⟨g10, 0, none⟩ = some (.slice At nt ct) ∧ w'.cell? ⟨g11, 0, none⟩ = some (.slice Au nu cu))) (by kernel_rfl) (HG.out _ HBD.out) (fun hHeld => ?q6_s)
    refine wpAnyH_take (i := 0) (v := ?q6_v0) rfl (by kernel_rfl) (by kernel_rfl) (by kernel_rfl) (fun _ _ _ h => h) (Or.inl ⟨by kernel_rfl, ?q6_y0⟩) (by assumption) ?q6_r0
    case q6_y0 =>
      intro w' hSw
      try dsimp only at hSw
      go_simp
      try with_reducible rfl
    try simp only [Act.put, List.getElem_toArray, List.getElem_cons_succ, List.getElem_cons_zero, List.setIfInBounds_toArray, List.set_cons_zero, List.set_cons_succ]
    refine wpAnyH_take (i := 1) (v := ?q6_v1) rfl (by kernel_rfl) (by kernel_rfl) (by kernel_rfl) (fun _ _ _ h => h) (Or.inl ⟨by kernel_rfl, ?q6_y1⟩) (by assumption) ?q6_r1
    case q6_y1 =>
      intro w' hSw
      try dsimp only at hSw
      go_simp
      try with_reducible rfl
    try simp only [Act.put, List.getElem_toArray, List.getElem_cons_succ, List.getElem_cons_zero, List.setIfInBounds_toArray, List.set_cons_zero, List.set_cons_succ]
    refine wpAnyH_take (i := 2) (v := ?q6_v2) rfl (by kernel_rfl) (by kernel_rfl) (by kernel_rfl) (fun _ _ _ h => h) (Or.inl ⟨by kernel_rfl, ?q6_y2⟩) (by assumption) ?q6_r2
    case q6_y2 =>
      intro w' hSw
      try dsimp only at hSw
      go_simp
      try with_reducible rfl
    try simp only [Act.put, List.getElem_toArray, List.getElem_cons_succ, List.getElem_cons_zero, List.setIfInBounds_toArray, List.set_cons_zero, List.set_cons_succ]
    refine wpAnyH_take (i := 5) (v := ?q6_v5) rfl (by kernel_rfl) (by kernel_rfl) (by kernel_rfl) (fun _ _ _ h => h) (Or.inl ⟨by kernel_rfl, ?q6_y5⟩) (by assumption) ?q6_r5
    case q6_y5 =>
      intro w' hSw
      try dsimp only at hSw
      go_simp
      try with_reducible rfl
    try simp only [Act.put, List.getElem_toArray, List.getElem_cons_succ, List.getElem_cons_zero, List.setIfInBounds_toArray, List.set_cons_zero, List.set_cons_succ]
    refine wpAnyH_take (i := 6) (v := ?q6_v6) rfl (by kernel_rfl) (by kernel_rfl) (by kernel_rfl) (fun _ _ _ h => h) (Or.inl ⟨by kernel_rfl, ?q6_y6⟩) (by assumption) ?q6_r6
    case q6_y6 =>
      intro w' hSw
      try dsimp only at hSw
      go_simp
      try with_reducible rfl
    try simp only [Act.put, List.getElem_toArray, List.getElem_cons_succ, List.getElem_cons_zero, List.setIfInBounds_toArray, List.set_cons_zero, List.set_cons_succ]
    refine wpAnyH_take (i := 8) (v := ?q6_v8) rfl (by kernel_rfl) (by kernel_rfl) (by kernel_rfl) (fun _ _ _ h => h) (Or.inl ⟨by kernel_rfl, ?q6_y8⟩) (by assumption) ?q6_r8
    case q6_y8 =>
      intro w' hSw
      try dsimp only at hSw
      go_simp
      try with_reducible rfl
    try simp only [Act.put, List.getElem_toArray, List.getElem_cons_succ, List.getElem_cons_zero, List.setIfInBounds_toArray, List.set_cons_zero, List.set_cons_succ]
    refine wpAnyH_take (i := 9) (v := ?q6_v9) rfl (by kernel_rfl) (by kernel_rfl) (by kernel_rfl) (fun _ _ _ h => h) (Or.inl ⟨by kernel_rfl, ?q6_y9⟩) (by assumption) ?q6_r9
    case q6_y9 =>
      intro w' hSw
      try dsimp only at hSw
      go_simp
      try with_reducible rfl
    try simp only [Act.put, List.getElem_toArray, List.getElem_cons_succ, List.getElem_cons_zero, List.setIfInBounds_toArray, List.set_cons_zero, List.set_cons_succ]
    refine wpAnyH_ready (rs := [3]) (by kernel_rfl) (by simp) ?q6_r3
    refine AllReadyH.cons rfl (fun K hK => ?q6_b3) AllReadyH.nil
    rw [if_pos (by kernel_rfl)]
    go_simp
    go_at_call 57
    refine (or_v _ _ _ _ _ _ _ _ _ _ _ (HVtf.out _ HBD.out) (HVuf.out _ HBD.out) (by omega)).mono ?_
    rintro e w6_1 ⟨A6_1, n6_1, c6_1, rfl, hv, hb1⟩
    have HV6_1 : Hid (∀ wy, Below w6_1.heap.size w6_1 wy → SetV wy _ _ A6_1 n6_1 c6_1) := Lib.hid (fun wy hb => hv.below hb)
    clear hv
    have HW6_1 := Lib.hid hb1
    have HB6_1 : Hid (Below wc.heap.size wc w6_1) := Lib.hid (HBD.out.trans (hb1.mono HBD.out.size))
    refine hK.out _ _ (HG.out _ HB6_1.out) (fun hHeld6_1 => ?q6_c3)
    clear hK hb1
    try simp only [Act.put, List.getElem_toArray, List.getElem_cons_succ, List.getElem_cons_zero, List.setIfInBounds_toArray, List.set_cons_zero, List.set_cons_succ]
    refine wpAnyH_ready (rs := [4]) (by kernel_rfl) (by simp) ?q6_r4
    refine AllReadyH.cons rfl (fun K hK => ?q6_b4) AllReadyH.nil
    rw [if_pos (by kernel_rfl)]
    go_simp
    go_at_call 59
    refine (meet_v _ _ _ _ _ _ _ _ _ _ _ (HVsf.out _ HB6_1.out) (HV6_1.out _ (Below.refl _ _)) (by omega)).mono ?_
    rintro e w6_2 ⟨A6_2, n6_2, c6_2, rfl, hv, hb2⟩
    have HV6_2 : Hid (∀ wy, Below w6_2.heap.size w6_2 wy → SetV wy _ _ A6_2 n6_2 c6_2) := Lib.hid (fun wy hb => hv.below hb)
    clear hv
    have HW6_2 := Lib.hid hb2
    have HB6_2 : Hid (Below wc.heap.size wc w6_2) := Lib.hid (HB6_1.out.trans (hb2.mono HB6_1.out.size))
    refine hK.out _ _ (HG.out _ HB6_2.out) (fun hHeld6_2 => ?q6_c4)
    clear hK hb2
    try simp only [Act.put, List.getElem_toArray, List.getElem_cons_succ, List.getElem_cons_zero, List.setIfInBounds_toArray, List.set_cons_zero, List.set_cons_succ]
    refine wpAnyH_ready (rs := [7]) (by kernel_rfl) (by simp) ?q6_r7
    refine AllReadyH.cons rfl (fun K hK => ?q6_b7) AllReadyH.nil
    rw [if_pos (by kernel_rfl)]
    go_simp
    go_at_call 59
    refine (meet_v _ _ _ _ _ _ _ _ _ _ _ (HVsf.out _ HB6_2.out) (HVtf.out _ HB6_2.out) (by omega)).mono ?_
    rintro e w6_3 ⟨A6_3, n6_3, c6_3, rfl, hv, hb3⟩
    have HV6_3 : Hid (∀ wy, Below w6_3.heap.size w6_3 wy → SetV wy _ _ A6_3 n6_3 c6_3) := Lib.hid (fun wy hb => hv.below hb)
    clear hv
    have HW6_3 := Lib.hid hb3
    have HB6_3 : Hid (Below wc.heap.size wc w6_3) := Lib.hid (HB6_2.out.trans (hb3.mono HB6_2.out.size))
    refine hK.out _ _ (HG.out _ HB6_3.out) (fun hHeld6_3 => ?q6_c7)
    clear hK hb3
    try simp only [Act.put, List.getElem_toArray, List.getElem_cons_succ, List.getElem_cons_zero, List.setIfInBounds_toArray, List.set_cons_zero, List.set_cons_succ]
    refine wpAnyH_ready (rs := [10]) (by kernel_rfl) (by simp) ?q6_r10
    refine AllReadyH.cons rfl (fun K hK => ?q6_b10) AllReadyH.nil
    rw [if_pos (by kernel_rfl)]
    go_simp
    go_at_call 59
    refine (meet_v _ _ _ _ _ _ _ _ _ _ _ (HVsf.out _ HB6_3.out) (HVuf.out _ HB6_3.out) (by omega)).mono ?_
    rintro e w6_4 ⟨A6_4, n6_4, c6_4, rfl, hv, hb4⟩
    have HV6_4 : Hid (∀ wy, Below w6_4.heap.size w6_4 wy → SetV wy _ _ A6_4 n6_4 c6_4) := Lib.hid (fun wy hb => hv.below hb)
    clear hv
    have HW6_4 := Lib.hid hb4
    have HB6_4 : Hid (Below wc.heap.size wc w6_4) := Lib.hid (HB6_3.out.trans (hb4.mono HB6_3.out.size))
    refine hK.out _ _ (HG.out _ HB6_4.out) (fun hHeld6_4 => ?q6_c10)
    clear hK hb4
    try simp only [Act.put, List.getElem_toArray, List.getElem_cons_succ, List.getElem_cons_zero, List.setIfInBounds_toArray, List.set_cons_zero, List.set_cons_succ]
    refine wpAnyH_ready (rs := [11]) (by kernel_rfl) (by simp) ?q6_r11
    refine AllReadyH.cons rfl (fun K hK => ?q6_b11) AllReadyH.nil
    rw [if_pos (by kernel_rfl)]
    go_simp
    go_at_call 57
    refine (or_v _ _ _ _ _ _ _ _ _ _ _ (HV6_3.out _ (Below.step_ (Below.refl _ _) HW6_4.out)) (HV6_4.out _ (Below.refl _ _)) (by omega)).mono ?_
    rintro e w6_5 ⟨A6_5, n6_5, c6_5, rfl, hv, hb5⟩
    have HV6_5 : Hid (∀ wy, Below w6_5.heap.size w6_5 wy → SetV wy _ _ A6_5 n6_5 c6_5) := Lib.hid (fun wy hb => hv.below hb)
    clear hv
    have HW6_5 := Lib.hid hb5
    have HB6_5 : Hid (Below wc.heap.size wc w6_5) := Lib.hid (HB6_4.out.trans (hb5.mono HB6_4.out.size))
    refine hK.out _ _ (HG.out _ HB6_5.out) (fun hHeld6_5 => ?q6_c11)
    clear hK hb5
    try simp only [Act.put, List.getElem_toArray, List.getElem_cons_succ, List.getElem_cons_zero, List.setIfInBounds_toArray, List.set_cons_zero, List.set_cons_succ]
    refine wpAnyH_ready (rs := [12]) (by kernel_rfl) (by simp) ?q6_r12
    refine AllReadyH.cons rfl (fun K hK => ?q6_b12) AllReadyH.nil
    rw [if_pos (by kernel_rfl)]
    go_simp
    go_at_call 58
    refine (same_v _ _ _ _ _ _ _ _ _ _ true _ (HV6_2.out _ (Below.step_ (Below.step_ (Below.step_ (Below.refl _ _) HW6_3.out) HW6_4.out) HW6_5.out)) (HV6_5.out _ (Below.refl _ _)) ⟨fun _ => by intro q hq; first | rfl | (cases F1 q <;> cases F2 q <;> cases F3 q <;> rfl) | (dsimp only; cases F1 q <;> cases F2 q <;> cases F3 q <;> rfl), fun _ => rfl⟩).mono ?_
    rintro e w6_6 ⟨rfl, hb6⟩
    have HW6_6 := Lib.hid hb6
    have HB6_6 : Hid (Below wc.heap.size wc w6_6) := Lib.hid (HB6_5.out.trans (hb6.mono HB6_5.out.size))
    refine hK.out _ _ (HG.out _ HB6_6.out) (fun hHeld6_6 => ?q6_c12)
    clear hK hb6
    try simp only [Act.put, List.getElem_toArray, List.getElem_cons_succ, List.getElem_cons_zero, List.setIfInBounds_toArray, List.set_cons_zero, List.set_cons_succ]
    refine wpAnyH_take (i := 13) (v := ?q6_v13) rfl (by kernel_rfl) (by kernel_rfl) (by kernel_rfl) (fun _ _ _ h => h) (Or.inl ⟨by kernel_rfl, ?q6_y13⟩) (by assumption) ?q6_r13
    case q6_y13 =>
      intro w' hSw
      try dsimp only at hSw
      go_simp
      try with_reducible rfl
    try simp only [Act.put, List.getElem_toArray, List.getElem_cons_succ, List.getElem_cons_zero, List.setIfInBounds_toArray, List.set_cons_zero, List.set_cons_succ]
    refine wpAnyH_take (i := 14) (v := ?q6_v14) rfl (by kernel_rfl) (by kernel_rfl) (by kernel_rfl) (fun _ _ _ h => h) (Or.inl ⟨by kernel_rfl, ?q6_y14⟩) (by assumption) ?q6_r14
    case q6_y14 =>
      intro w' hSw
      try dsimp only at hSw
      go_simp
      try with_reducible rfl
    try simp only [Act.put, List.getElem_toArray, List.getElem_cons_succ, List.getElem_cons_zero, List.setIfInBounds_toArray, List.set_cons_zero, List.set_cons_succ]
    refine wpAnyH_take (i := 15) (v := ?q6_v15) rfl (by kernel_rfl) (by kernel_rfl) (by kernel_rfl) (fun _ _ _ h => h) (Or.inl ⟨by kernel_rfl, ?q6_y15⟩) (by assumption) ?q6_r15
    case q6_y15 =>
      intro w' hSw
      try dsimp only at hSw
      go_simp
      try with_reducible rfl
    try simp only [Act.put, List.getElem_toArray, List.getElem_cons_succ, List.getElem_cons_zero, List.setIfInBounds_toArray, List.set_cons_zero, List.set_cons_succ]
    refine wpAnyH_take (i := 16) (v := ?q6_v16) rfl (by kernel_rfl) (by kernel_rfl) (by kernel_rfl) (fun _ _ _ h => h) (Or.inl ⟨by kernel_rfl, ?q6_y16⟩) (by assumption) ?q6_r16
    case q6_y16 =>
      intro w' hSw
      try dsimp only at hSw
      go_simp
      try with_reducible rfl
    try simp only [Act.put, List.getElem_toArray, List.getElem_cons_succ, List.getElem_cons_zero, List.setIfInBounds_toArray, List.set_cons_zero, List.set_cons_succ]
    refine wpAnyH_take (i := 18) (v := ?q6_v18) rfl (by kernel_rfl) (by kernel_rfl) (by kernel_rfl) (fun _ _ _ h => h) (Or.inl ⟨by kernel_rfl, ?q6_y18⟩) (by assumption) ?q6_r18
    case q6_y18 =>
      intro w' hSw
      try dsimp only at hSw
      go_simp
      try with_reducible rfl
    try simp only [Act.put, List.getElem_toArray, List.getElem_cons_succ, List.getElem_cons_zero, List.setIfInBounds_toArray, List.set_cons_zero, List.set_cons_succ]
    refine wpAnyH_take (i := 19) (v := ?q6_v19) rfl (by kernel_rfl) (by kernel_rfl) (by kernel_rfl) (fun _ _ _ h => h) (Or.inl ⟨by kernel_rfl, ?q6_y19⟩) (by assumption) ?q6_r19
    case q6_y19 =>
      intro w' hSw
      try dsimp only at hSw
      go_simp
      try with_reducible rfl
    try simp only [Act.put, List.getElem_toArray, List.getElem_cons_succ, List.getElem_cons_zero, List.setIfInBounds_toArray, List.set_cons_zero, List.set_cons_succ]
    refine wpAnyH_take (i := 22) (v := ?q6_v22) rfl (by kernel_rfl) (by kernel_rfl) (by kernel_rfl) (fun _ _ _ h => h) (Or.inl ⟨by kernel_rfl, ?q6_y22⟩) (by assumption) ?q6_r22
    case q6_y22 =>
      intro w' hSw
      try dsimp only at hSw
      go_simp
      try with_reducible rfl
    try simp only [Act.put, List.getElem_toArray, List.getElem_cons_succ, List.getElem_cons_zero, List.setIfInBounds_toArray, List.set_cons_zero, List.set_cons_succ]
    refine wpAnyH_ready (rs := [17]) (by kernel_rfl) (by simp) ?q6_r17
    refine AllReadyH.cons rfl (fun K hK => ?q6_b17) AllReadyH.nil
    rw [if_pos (by kernel_rfl)]
    go_simp
    go_at_call 60
    refine (less_v _ _ _ _ _ _ _ _ _ _ _ (HVsf.out _ HB6_6.out) (HVtf.out _ HB6_6.out) (by omega)).mono ?_
    rintro e w6_7 ⟨A6_7, n6_7, c6_7, rfl, hv, hb7⟩
    have HV6_7 : Hid (∀ wy, Below w6_7.heap.size w6_7 wy → SetV wy _ _ A6_7 n6_7 c6_7) := Lib.hid (fun wy hb => hv.below hb)
    clear hv
    have HW6_7 := Lib.hid hb7
    have HB6_7 : Hid (Below wc.heap.size wc w6_7) := Lib.hid (HB6_6.out.trans (hb7.mono HB6_6.out.size))
    refine hK.out _ _ (HG.out _ HB6_7.out) (fun hHeld6_7 => ?q6_c17)
    clear hK hb7
    try simp only [Act.put, List.getElem_toArray, List.getElem_cons_succ, List.getElem_cons_zero, List.setIfInBounds_toArray, List.set_cons_zero, List.set_cons_succ]
    refine wpAnyH_ready (rs := [20]) (by kernel_rfl) (by simp) ?q6_r20
    refine AllReadyH.cons rfl (fun K hK => ?q6_b20) AllReadyH.nil
    rw [if_pos (by kernel_rfl)]
    go_simp
    go_at_call 59
    refine (meet_v _ _ _ _ _ _ _ _ _ _ _ (HVsf.out _ HB6_7.out) (HVtf.out _ HB6_7.out) (by omega)).mono ?_
    rintro e w6_8 ⟨A6_8, n6_8, c6_8, rfl, hv, hb8⟩
    have HV6_8 : Hid (∀ wy, Below w6_8.heap.size w6_8 wy → SetV wy _ _ A6_8 n6_8 c6_8) := Lib.hid (fun wy hb => hv.below hb)
    clear hv
    have HW6_8 := Lib.hid hb8
    have HB6_8 : Hid (Below wc.heap.size wc w6_8) := Lib.hid (HB6_7.out.trans (hb8.mono HB6_7.out.size))
    refine hK.out _ _ (HG.out _ HB6_8.out) (fun hHeld6_8 => ?q6_c20)
    clear hK hb8
    try simp only [Act.put, List.getElem_toArray, List.getElem_cons_succ, List.getElem_cons_zero, List.setIfInBounds_toArray, List.set_cons_zero, List.set_cons_succ]
    refine wpAnyH_ready (rs := [21]) (by kernel_rfl) (by simp) ?q6_r21
    refine AllReadyH.cons rfl (fun K hK => ?q6_b21) AllReadyH.nil
    rw [if_pos (by kernel_rfl)]
    go_simp
    go_at_call 57
    refine (or_v _ _ _ _ _ _ _ _ _ _ _ (HV6_7.out _ (Below.step_ (Below.refl _ _) HW6_8.out)) (HV6_8.out _ (Below.refl _ _)) (by omega)).mono ?_
    rintro e w6_9 ⟨A6_9, n6_9, c6_9, rfl, hv, hb9⟩
    have HV6_9 : Hid (∀ wy, Below w6_9.heap.size w6_9 wy → SetV wy _ _ A6_9 n6_9 c6_9) := Lib.hid (fun wy hb => hv.below hb)
    clear hv
    have HW6_9 := Lib.hid hb9
    have HB6_9 : Hid (Below wc.heap.size wc w6_9) := Lib.hid (HB6_8.out.trans (hb9.mono HB6_8.out.size))
    refine hK.out _ _ (HG.out _ HB6_9.out) (fun hHeld6_9 => ?q6_c21)
    clear hK hb9
    try simp only [Act.put, List.getElem_toArray, List.getElem_cons_succ, List.getElem_cons_zero, List.setIfInBounds_toArray, List.set_cons_zero, List.set_cons_succ]
    refine wpAnyH_ready (rs := [23]) (by kernel_rfl) (by simp) ?q6_r23
    refine AllReadyH.cons rfl (fun K hK => ?q6_b23) AllReadyH.nil
    rw [if_pos (by kernel_rfl)]
    go_simp
    go_at_call 58
    refine (same_v _ _ _ _ _ _ _ _ _ _ true _ (HV6_9.out _ (Below.refl _ _)) (HVsf.out _ HB6_9.out) ⟨fun _ => by intro q hq; first | rfl | (cases F1 q <;> cases F2 q <;> cases F3 q <;> rfl) | (dsimp only; cases F1 q <;> cases F2 q <;> cases F3 q <;> rfl), fun _ => rfl⟩).mono ?_
    rintro e w6_10 ⟨rfl, hb10⟩
    have HW6_10 := Lib.hid hb10
    have HB6_10 : Hid (Below wc.heap.size wc w6_10) := Lib.hid (HB6_9.out.trans (hb10.mono HB6_9.out.size))
    refine hK.out _ _ (HG.out _ HB6_10.out) (fun hHeld6_10 => ?q6_c23)
    clear hK hb10
    try simp only [Act.put, List.getElem_toArray, List.getElem_cons_succ, List.getElem_cons_zero, List.setIfInBounds_toArray, List.set_cons_zero, List.set_cons_succ]
    refine wpAnyH_take (i := 24) (v := ?q6_v24) rfl (by kernel_rfl) (by kernel_rfl) (by kernel_rfl) (fun _ _ _ h => h) (Or.inl ⟨by kernel_rfl, ?q6_y24⟩) (by assumption) ?q6_r24
    case q6_y24 =>
      intro w' hSw
      try dsimp only at hSw
      go_simp
      try with_reducible rfl
    try simp only [Act.put, List.getElem_toArray, List.getElem_cons_succ, List.getElem_cons_zero, List.setIfInBounds_toArray, List.set_cons_zero, List.set_cons_succ]
    refine wpAnyH_take (i := 25) (v := ?q6_v25) rfl (by kernel_rfl) (by kernel_rfl) (by kernel_rfl) (fun _ _ _ h => h) (Or.inl ⟨by kernel_rfl, ?q6_y25⟩) (by assumption) ?q6_r25
    case q6_y25 =>
      intro w' hSw
      try dsimp only at hSw
      go_simp
      try with_reducible rfl
    try simp only [Act.put, List.getElem_toArray, List.getElem_cons_succ, List.getElem_cons_zero, List.setIfInBounds_toArray, List.set_cons_zero, List.set_cons_succ]
    refine wpAnyH_take (i := 26) (v := ?q6_v26) rfl (by kernel_rfl) (by kernel_rfl) (by kernel_rfl) (fun _ _ _ h => h) (Or.inl ⟨by kernel_rfl, ?q6_y26⟩) (by assumption) ?q6_r26
    case q6_y26 =>
      intro w' hSw
      try dsimp only at hSw
      go_simp
      try with_reducible rfl
    try simp only [Act.put, List.getElem_toArray, List.getElem_cons_succ, List.getElem_cons_zero, List.setIfInBounds_toArray, List.set_cons_zero, List.set_cons_succ]
    refine wpAnyH_take (i := 27) (v := ?q6_v27) rfl (by kernel_rfl) (by kernel_rfl) (by kernel_rfl) (fun _ _ _ h => h) (Or.inl ⟨by kernel_rfl, ?q6_y27⟩) (by assumption) ?q6_r27
    case q6_y27 =>
      intro w' hSw
      try dsimp only at hSw
      go_simp
      try with_reducible rfl
    try simp only [Act.put, List.getElem_toArray, List.getElem_cons_succ, List.getElem_cons_zero, List.setIfInBounds_toArray, List.set_cons_zero, List.set_cons_succ]
    refine wpAnyH_take (i := 30) (v := ?q6_v30) rfl (by kernel_rfl) (by kernel_rfl) (by kernel_rfl) (fun _ _ _ h => h) (Or.inl ⟨by kernel_rfl, ?q6_y30⟩) (by assumption) ?q6_r30
    case q6_y30 =>
      intro w' hSw
      try dsimp only at hSw
      go_simp
      try with_reducible rfl
    try simp only [Act.put, List.getElem_toArray, List.getElem_cons_succ, List.getElem_cons_zero, List.setIfInBounds_toArray, List.set_cons_zero, List.set_cons_succ]
    refine wpAnyH_ready (rs := [28]) (by kernel_rfl) (by simp) ?q6_r28
    refine AllReadyH.cons rfl (fun K hK => ?q6_b28) AllReadyH.nil
    rw [if_pos (by kernel_rfl)]
    go_simp
    go_at_call 61
    refine (spans_v _ _ _ _ _ _ (HVsf.out _ HB6_10.out)).mono ?_
    rintro e w6_11 ⟨A6_11, n6_11, c6_11, s6_11, rfl, hv, hb11⟩
    obtain ⟨hv1, hv2, hv3, hv4, hb11⟩ := And.intro hv hb11
    have HV6_11 := Lib.hid (And.intro hv1 (And.intro hv2 (And.intro hv3 hv4)))
    clear hv hv1 hv2 hv3 hv4
    have HW6_11 := Lib.hid hb11
    have HB6_11 : Hid (Below wc.heap.size wc w6_11) := Lib.hid (HB6_10.out.trans (hb11.mono HB6_10.out.size))
    refine hK.out _ _ (HG.out _ HB6_11.out) (fun hHeld6_11 => ?q6_c28)
    clear hK hb11
    try simp only [Act.put, List.getElem_toArray, List.getElem_cons_succ, List.getElem_cons_zero, List.setIfInBounds_toArray, List.set_cons_zero, List.set_cons_succ]
    refine wpAnyH_ready (rs := [29]) (by kernel_rfl) (by simp) ?q6_r29
    refine AllReadyH.cons rfl (fun K hK => ?q6_b29) AllReadyH.nil
    rw [if_pos (by kernel_rfl)]
    go_simp
    go_at_call 22
    refine (of_v _ _ _ 2147483648 _ _ _ HV6_11.out.1 HV6_11.out.2.1 HV6_11.out.2.2.1 (Nat.le_trans HV6_11.out.2.2.2 (by omega)) (by omega)).mono ?_
    rintro e w6_12 ⟨A6_12, n6_12, c6_12, rfl, hv, hb12⟩
    have HV6_12 : Hid (∀ wy, Below w6_12.heap.size w6_12 wy → SetV wy _ _ A6_12 n6_12 c6_12) := Lib.hid (fun wy hb => hv.below hb)
    clear hv
    have HW6_12 := Lib.hid hb12
    have HB6_12 : Hid (Below wc.heap.size wc w6_12) := Lib.hid (HB6_11.out.trans (hb12.mono HB6_11.out.size))
    refine hK.out _ _ (HG.out _ HB6_12.out) (fun hHeld6_12 => ?q6_c29)
    clear hK hb12
    try simp only [Act.put, List.getElem_toArray, List.getElem_cons_succ, List.getElem_cons_zero, List.setIfInBounds_toArray, List.set_cons_zero, List.set_cons_succ]
    refine wpAnyH_ready (rs := [31]) (by kernel_rfl) (by simp) ?q6_r31
    refine AllReadyH.cons rfl (fun K hK => ?q6_b31) AllReadyH.nil
    rw [if_pos (by kernel_rfl)]
    go_simp
    go_at_call 58
    refine (same_v _ _ _ _ _ _ _ _ _ _ true _ (HV6_12.out _ (Below.refl _ _)) (HVsf.out _ HB6_12.out) ⟨fun _ => by intro q hq; first | rfl | (cases F1 q <;> cases F2 q <;> cases F3 q <;> rfl) | (dsimp only; cases F1 q <;> cases F2 q <;> cases F3 q <;> rfl), fun _ => rfl⟩).mono ?_
    rintro e w6_13 ⟨rfl, hb13⟩
    have HW6_13 := Lib.hid hb13
    have HB6_13 : Hid (Below wc.heap.size wc w6_13) := Lib.hid (HB6_12.out.trans (hb13.mono HB6_12.out.size))
    refine hK.out _ _ (HG.out _ HB6_13.out) (fun hHeld6_13 => ?q6_c31)
    clear hK hb13
    try simp only [Act.put, List.getElem_toArray, List.getElem_cons_succ, List.getElem_cons_zero, List.setIfInBounds_toArray, List.set_cons_zero, List.set_cons_succ]
    refine wpAnyH_take (i := 32) (v := ?q6_v32) rfl (by kernel_rfl) (by kernel_rfl) (by kernel_rfl) (fun _ _ _ h => h) (Or.inl ⟨by kernel_rfl, ?q6_y32⟩) (by assumption) ?q6_r32
    case q6_y32 =>
      intro w' hSw
      try dsimp only at hSw
      go_simp
      try with_reducible rfl
    try simp only [Act.put, List.getElem_toArray, List.getElem_cons_succ, List.getElem_cons_zero, List.setIfInBounds_toArray, List.set_cons_zero, List.set_cons_succ]
    refine wpAnyH_take (i := 33) (v := ?q6_v33) rfl (by kernel_rfl) (by kernel_rfl) (by kernel_rfl) (fun _ _ _ h => h) (Or.inl ⟨by kernel_rfl, ?q6_y33⟩) (by assumption) ?q6_r33
    case q6_y33 =>
      intro w' hSw
      try dsimp only at hSw
      go_simp
      try with_reducible rfl
    try simp only [Act.put, List.getElem_toArray, List.getElem_cons_succ, List.getElem_cons_zero, List.setIfInBounds_toArray, List.set_cons_zero, List.set_cons_succ]
    refine wpAnyH_done (by kernel_rfl) ?_ _
    go_wp2_with fail
    go_meet
    case rel => exact ⟨rfl, HB6_13⟩
  case rest =>
  as_aux_lemma =>
  obtain ⟨rfl, HBx⟩ := hcut
  have HRs' := Lib.hid (HRs.out.below HBx.out HRs.out.lt); have HVs' := Lib.hid (HVs.out.below HBx.out)
  have HRt' := Lib.hid (HRt.out.below HBx.out HRt.out.lt); have HVt' := Lib.hid (HVt.out.below HBx.out)
  have HRu' := Lib.hid (HRu.out.below HBx.out HRu.out.lt); have HVu' := Lib.hid (HVu.out.below HBx.out)
  have HBw' := Lib.hid (HBw.out.trans (HBx.out.mono HBw.out.size))
  clear HBx HBw HRs HVs HRt HVt HRu HVu
  have HRs := HRs'; clear HRs'
  have HVs := HVs'; clear HVs'
  have HRt := HRt'; clear HRt'
  have HVt := HVt'; clear HVt'
  have HRu := HRu'; clear HRu'
  have HVu := HVu'; clear HVu'
  have HBw := HBw'; clear HBw'
  have e1 : bits .xor .u64 IntKind.u64.max 0 = 18446744073709551615 := by decide
  have e2 : IntKind.u64.wrap 0 = 0 := by decide
  have e3 : IntKind.u64.wrap 18446744073709551615 = 18446744073709551615 := by decide
  have e4 : IntKind.u64.wrap 18446744073709551615 = 18446744073709551615 := by decide
  have HPR : Hid (∀ wx : World, Calls Tryz.prog 62 #[.int .u64 0, .int .u64 18446744073709551615] wx fun e w' => e = .returned (.agg #[.int .u64 0, .int .u64 18446744073709551615]) ∧ Below wx.heap.size wx w') := Lib.hid (fun wx => pair_any 0 18446744073709551615 wx (by decide) (by decide))
  go_upto_region 9 with (first
    | (go_at_call 62; refine (HPR.out _).mono ?_; rintro e wp ⟨rfl, hb⟩; have HB1 := Lib.hid hb; have HRp := Lib.hid (Row.new wp 59 (scell (0, 18446744073709551615))); have HB2 := Lib.hid (hb.alloc hb.size (.cells (scell (0, 18446744073709551615)).toArray 59)); clear hb)
    | (go_at_call 22; refine (one_v wp.heap.size 1 0 18446744073709551615 1 _ HRp.out (by decide) (by decide) (by decide) (by decide)).mono ?_; rintro e wq ⟨Aa, na, ca, rfl, hv, hb⟩; have HV1 := Lib.hid hv; have HB3 := Lib.hid (Below.step_ HB2.out hb); clear hv hb))
  have r12 := Row.new wq 56 [.slice Aa na ca]
  have b12 : Below wc.heap.size wc (wq.alloc (.cells #[.slice Aa na ca] 56)) := HB3.out.alloc HB3.out.size _
  have v12 := HV1.out.below ((Below.refl _ _).alloc (Nat.le_refl _) (.cells #[.slice Aa na ca] 56))
  obtain ⟨g12, hg12⟩ : ∃ g, g = wq.heap.size := ⟨_, rfl⟩
  generalize wq.alloc (.cells #[.slice Aa na ca] 56) = wd at *
  rw [← hg12] at r12 ⊢
  obtain ⟨FA, hFA⟩ : ∃ F, F = fun q : Nat => decide (0 ≤ q ∧ q ≤ 18446744073709551615) := ⟨_, rfl⟩
  rw [← hFA] at v12
  have HFA : Hid (∀ q, q ≤ TOP → FA q = true) := Lib.hid (fun q hq => by rw [hFA]; exact decide_eq_true ⟨Nat.zero_le _, hq⟩)
  have HRa := Lib.hid r12; have HVa := Lib.hid v12
  have HRs' := Lib.hid (HRs.out.below b12 HRs.out.lt); have HVs' := Lib.hid (HVs.out.below b12)
  have HBw' := Lib.hid (HBw.out.trans (b12.mono HBw.out.size))
  clear HRs HVs HRt HVt HRu HVu HBw r12 v12 b12 hg12 hFA HV1 HB1 HB2 HB3 HRp HPR
  have HRs := HRs'; clear HRs'
  have HVs := HVs'; clear HVs'
  have HBw := HBw'; clear HBw'
  have q12 := HRa.out.cell 0
  have q9 := HRs.out.cell 0
  have q12l := HRa.out.lt
  have q9l := HRs.out.lt
  simp only [List.getElem?_cons_zero] at q12 q9
  go_upto_region 10 with (go_at_call 60; refine (less_v _ _ _ _ _ _ _ _ _ _ _ HVa.out HVs.out (by omega)).mono ?_; rintro e we ⟨Ac, nc, cc, rfl, hv, hb⟩; have HV1 := Lib.hid (hv.le (M := 4294967298) (by omega)); have HB3 := Lib.hid hb; clear hv hb)
  have r13 := Row.new we 56 [.slice Ac nc cc]
  have b13 : Below wd.heap.size wd (we.alloc (.cells #[.slice Ac nc cc] 56)) := HB3.out.alloc HB3.out.size _
  have v13 := HV1.out.below ((Below.refl _ _).alloc (Nat.le_refl _) (.cells #[.slice Ac nc cc] 56))
  obtain ⟨g13, hg13⟩ : ∃ g, g = we.heap.size := ⟨_, rfl⟩
  generalize we.alloc (.cells #[.slice Ac nc cc] 56) = wc at *
  rw [← hg13] at r13 ⊢
  obtain ⟨FC, hFC⟩ : ∃ F, F = fun q : Nat => FA q && !F1 q := ⟨_, rfl⟩
  rw [← hFC] at v13
  have HFC : Hid (∀ q, q ≤ TOP → FC q = !F1 q) := Lib.hid (fun q hq => by rw [hFC]; simp only [HFA.out q hq, Bool.true_and])
  have HRc := Lib.hid r13; have HVc := Lib.hid v13
  have HRs' := Lib.hid (HRs.out.below b13 HRs.out.lt); have HVs' := Lib.hid (HVs.out.below b13)
  have HRa' := Lib.hid (HRa.out.below b13 HRa.out.lt); have HVa' := Lib.hid (HVa.out.below b13)
  have HBw' := Lib.hid (HBw.out.trans (b13.mono HBw.out.size))
  clear HRs HVs HRa HVa HBw r13 v13 b13 hg13 hFC HV1 HB3 q12 q9 q12l q9l
  have HRs := HRs'; clear HRs'
  have HVs := HVs'; clear HVs'
  have HRa := HRa'; clear HRa'
  have HVa := HVa'; clear HVa'
  have HBw := HBw'; clear HBw'
  obtain ⟨BP, hBP⟩ : ∃ B, B = F1 p := ⟨_, rfl⟩
  have hBC : FC p = !BP := by rw [HFC.out p HP.out, hBP]
  have hbe : ((!BP) == BP) = false := by cases BP <;> rfl
  have HBP := Lib.hid hBP; have HBC := Lib.hid hBC; have HBE := Lib.hid hbe
  clear hBP hBC hbe
  go_cut [119] (fun x wx => x = .bool false ∧ Hid (Below wc.heap.size wc wx))
  case first =>
    as_aux_lemma =>
    have HG : Hid (∀ wy, Below wc.heap.size wc wy → wy.cell? ⟨g9, 0, none⟩ = some (.slice As ns cs) ∧ wy.cell? ⟨g12, 0, none⟩ = some (.slice Aa na ca) ∧ wy.cell? ⟨g13, 0, none⟩ = some (.slice Ac nc cc)) := Lib.hid (fun wy hb => ⟨(HRs.out.below hb HRs.out.lt).cell 0, (HRa.out.below hb HRa.out.lt).cell 0, (HRc.out.below hb HRc.out.lt).cell 0⟩)
    have HBD : Hid (Below wc.heap.size wc wc.drew) := Lib.hid (Below.refl _ _).drew
    have HVsf : Hid (∀ wy, Below wc.heap.size wc wy → SetV wy F1 2147483648 As ns cs) := Lib.hid (fun wy hb => HVs.out.below hb)
    have HVaf : Hid (∀ wy, Below wc.heap.size wc wy → SetV wy FA 1 Aa na ca) := Lib.hid (fun wy hb => HVa.out.below hb)
    have HVcf : Hid (∀ wy, Below wc.heap.size wc wy → SetV wy FC 4294967298 Ac nc cc) := Lib.hid (fun wy hb => HVc.out.below hb)
    refine wp_region_held_drew (S := (fun w' => w'.cell? ⟨g9, 0, none⟩ = some (.slice As ns cs) ∧ w'.cell? ⟨g12, 0, none⟩ = some (.slice Aa na ca) ∧ w'.cell? ⟨g13, 0, none⟩ = some (.slice Ac nc cc))) (by kernel_rfl) (HG.out _ HBD.out) (fun hHeld => ?q10_s)
    refine wpAnyH_take (i := 0) (v := ?q10_v0) rfl (by kernel_rfl) (by kernel_rfl) (by kernel_rfl) (fun _ _ _ h => h) (Or.inl ⟨by kernel_rfl, ?q10_y0⟩) (by assumption) ?q10_r0
    case q10_y0 =>
      intro w' hSw
      try dsimp only at hSw
      go_simp
      try with_reducible rfl
    try simp only [Act.put, List.getElem_toArray, List.getElem_cons_succ, List.getElem_cons_zero, List.setIfInBounds_toArray, List.set_cons_zero, List.set_cons_succ]
    refine wpAnyH_take (i := 1) (v := ?q10_v1) rfl (by kernel_rfl) (by kernel_rfl) (by kernel_rfl) (fun _ _ _ h => h) (Or.inl ⟨by kernel_rfl, ?q10_y1⟩) (by assumption) ?q10_r1
    case q10_y1 =>
      intro w' hSw
      try dsimp only at hSw
      go_simp
      try with_reducible rfl
    try simp only [Act.put, List.getElem_toArray, List.getElem_cons_succ, List.getElem_cons_zero, List.setIfInBounds_toArray, List.set_cons_zero, List.set_cons_succ]
    refine wpAnyH_take (i := 3) (v := ?q10_v3) rfl (by kernel_rfl) (by kernel_rfl) (by kernel_rfl) (fun _ _ _ h => h) (Or.inl ⟨by kernel_rfl, ?q10_y3⟩) (by assumption) ?q10_r3
    case q10_y3 =>
      intro w' hSw
      try dsimp only at hSw
      go_simp
      try with_reducible rfl
    try simp only [Act.put, List.getElem_toArray, List.getElem_cons_succ, List.getElem_cons_zero, List.setIfInBounds_toArray, List.set_cons_zero, List.set_cons_succ]
    refine wpAnyH_ready (rs := [2]) (by kernel_rfl) (by simp) ?q10_r2
    refine AllReadyH.cons rfl (fun K hK => ?q10_b2) AllReadyH.nil
    rw [if_pos (by kernel_rfl)]
    go_simp
    go_at_call 60
    refine (less_v _ _ _ _ _ _ _ _ _ _ _ (HVaf.out _ HBD.out) (HVcf.out _ HBD.out) (by omega)).mono ?_
    rintro e w10_1 ⟨A10_1, n10_1, c10_1, rfl, hv, hb1⟩
    have HV10_1 : Hid (∀ wy, Below w10_1.heap.size w10_1 wy → SetV wy _ _ A10_1 n10_1 c10_1) := Lib.hid (fun wy hb => hv.below hb)
    clear hv
    have HW10_1 := Lib.hid hb1
    have HB10_1 : Hid (Below wc.heap.size wc w10_1) := Lib.hid (HBD.out.trans (hb1.mono HBD.out.size))
    refine hK.out _ _ (HG.out _ HB10_1.out) (fun hHeld10_1 => ?q10_c2)
    clear hK hb1
    try simp only [Act.put, List.getElem_toArray, List.getElem_cons_succ, List.getElem_cons_zero, List.setIfInBounds_toArray, List.set_cons_zero, List.set_cons_succ]
    refine wpAnyH_ready (rs := [4]) (by kernel_rfl) (by simp) ?q10_r4
    refine AllReadyH.cons rfl (fun K hK => ?q10_b4) AllReadyH.nil
    rw [if_pos (by kernel_rfl)]
    go_simp
    go_at_call 58
    refine (same_v _ _ _ _ _ _ _ _ _ _ true _ (HV10_1.out _ (Below.refl _ _)) (HVsf.out _ HB10_1.out) ⟨fun _ => by intro q hq; (try dsimp only); rw [HFC.out q hq, HFA.out q hq]; cases F1 q <;> rfl, fun _ => rfl⟩).mono ?_
    rintro e w10_2 ⟨rfl, hb2⟩
    have HW10_2 := Lib.hid hb2
    have HB10_2 : Hid (Below wc.heap.size wc w10_2) := Lib.hid (HB10_1.out.trans (hb2.mono HB10_1.out.size))
    refine hK.out _ _ (HG.out _ HB10_2.out) (fun hHeld10_2 => ?q10_c4)
    clear hK hb2
    try simp only [Act.put, List.getElem_toArray, List.getElem_cons_succ, List.getElem_cons_zero, List.setIfInBounds_toArray, List.set_cons_zero, List.set_cons_succ]
    refine wpAnyH_take (i := 5) (v := ?q10_v5) rfl (by kernel_rfl) (by kernel_rfl) (by kernel_rfl) (fun _ _ _ h => h) (Or.inl ⟨by kernel_rfl, ?q10_y5⟩) (by assumption) ?q10_r5
    case q10_y5 =>
      intro w' hSw
      try dsimp only at hSw
      go_simp
      try with_reducible rfl
    try simp only [Act.put, List.getElem_toArray, List.getElem_cons_succ, List.getElem_cons_zero, List.setIfInBounds_toArray, List.set_cons_zero, List.set_cons_succ]
    refine wpAnyH_take (i := 6) (v := ?q10_v6) rfl (by kernel_rfl) (by kernel_rfl) (by kernel_rfl) (fun _ _ _ h => h) (Or.inl ⟨by kernel_rfl, ?q10_y6⟩) (by assumption) ?q10_r6
    case q10_y6 =>
      intro w' hSw
      try dsimp only at hSw
      go_simp
      try with_reducible rfl
    try simp only [Act.put, List.getElem_toArray, List.getElem_cons_succ, List.getElem_cons_zero, List.setIfInBounds_toArray, List.set_cons_zero, List.set_cons_succ]
    refine wpAnyH_take (i := 7) (v := ?q10_v7) rfl (by kernel_rfl) (by kernel_rfl) (by kernel_rfl) (fun _ _ _ h => h) (Or.inl ⟨by kernel_rfl, ?q10_y7⟩) (by assumption) ?q10_r7
    case q10_y7 =>
      intro w' hSw
      try dsimp only at hSw
      go_simp
      try with_reducible rfl
    try simp only [Act.put, List.getElem_toArray, List.getElem_cons_succ, List.getElem_cons_zero, List.setIfInBounds_toArray, List.set_cons_zero, List.set_cons_succ]
    refine wpAnyH_take (i := 8) (v := ?q10_v8) rfl (by kernel_rfl) (by kernel_rfl) (by kernel_rfl) (fun _ _ _ h => h) (Or.inl ⟨by kernel_rfl, ?q10_y8⟩) (by assumption) ?q10_r8
    case q10_y8 =>
      intro w' hSw
      try dsimp only at hSw
      go_simp
      try with_reducible rfl
    try simp only [Act.put, List.getElem_toArray, List.getElem_cons_succ, List.getElem_cons_zero, List.setIfInBounds_toArray, List.set_cons_zero, List.set_cons_succ]
    refine wpAnyH_take (i := 10) (v := ?q10_v10) rfl (by kernel_rfl) (by kernel_rfl) (by kernel_rfl) (fun _ _ _ h => h) (Or.inl ⟨by kernel_rfl, ?q10_y10⟩) (by assumption) ?q10_r10
    case q10_y10 =>
      intro w' hSw
      try dsimp only at hSw
      go_simp
      try with_reducible rfl
    try simp only [Act.put, List.getElem_toArray, List.getElem_cons_succ, List.getElem_cons_zero, List.setIfInBounds_toArray, List.set_cons_zero, List.set_cons_succ]
    refine wpAnyH_take (i := 11) (v := ?q10_v11) rfl (by kernel_rfl) (by kernel_rfl) (by kernel_rfl) (fun _ _ _ h => h) (Or.inl ⟨by kernel_rfl, ?q10_y11⟩) (by assumption) ?q10_r11
    case q10_y11 =>
      intro w' hSw
      try dsimp only at hSw
      go_simp
      try with_reducible rfl
    try simp only [Act.put, List.getElem_toArray, List.getElem_cons_succ, List.getElem_cons_zero, List.setIfInBounds_toArray, List.set_cons_zero, List.set_cons_succ]
    refine wpAnyH_ready (rs := [9]) (by kernel_rfl) (by simp) ?q10_r9
    refine AllReadyH.cons rfl (fun K hK => ?q10_b9) AllReadyH.nil
    rw [if_pos (by kernel_rfl)]
    go_simp
    go_at_call 25
    refine (has_v _ _ _ _ _ _ _ (HVcf.out _ HB10_2.out) HP.out).mono ?_
    rintro e w10_3 ⟨rfl, hb3⟩
    rw [HBC.out]
    have HW10_3 := Lib.hid hb3
    have HB10_3 : Hid (Below wc.heap.size wc w10_3) := Lib.hid (HB10_2.out.trans (hb3.mono HB10_2.out.size))
    refine hK.out _ _ (HG.out _ HB10_3.out) (fun hHeld10_3 => ?q10_c9)
    clear hK hb3
    try simp only [Act.put, List.getElem_toArray, List.getElem_cons_succ, List.getElem_cons_zero, List.setIfInBounds_toArray, List.set_cons_zero, List.set_cons_succ]
    refine wpAnyH_ready (rs := [12]) (by kernel_rfl) (by simp) ?q10_r12
    refine AllReadyH.cons rfl (fun K hK => ?q10_b12) AllReadyH.nil
    rw [if_pos (by kernel_rfl)]
    go_simp
    go_at_call 25
    refine (has_v _ _ _ _ _ _ _ (HVsf.out _ HB10_3.out) HP.out).mono ?_
    rintro e w10_4 ⟨rfl, hb4⟩
    rw [← HBP.out]; have hbe := HBE.out
    have HW10_4 := Lib.hid hb4
    have HB10_4 : Hid (Below wc.heap.size wc w10_4) := Lib.hid (HB10_3.out.trans (hb4.mono HB10_3.out.size))
    refine hK.out _ _ (HG.out _ HB10_4.out) (fun hHeld10_4 => ?q10_c12)
    clear hK hb4
    try simp only [Act.put, List.getElem_toArray, List.getElem_cons_succ, List.getElem_cons_zero, List.setIfInBounds_toArray, List.set_cons_zero, List.set_cons_succ]
    refine wpAnyH_take (i := 13) (v := ?q10_v13) rfl (by kernel_rfl) (by kernel_rfl) (by kernel_rfl) (fun _ _ _ h => h) (Or.inl ⟨by kernel_rfl, ?q10_y13⟩) (by assumption) ?q10_r13
    case q10_y13 =>
      intro w' hSw
      try dsimp only at hSw
      go_simp
      try with_reducible rfl
    try simp only [Act.put, List.getElem_toArray, List.getElem_cons_succ, List.getElem_cons_zero, List.setIfInBounds_toArray, List.set_cons_zero, List.set_cons_succ]
    refine wpAnyH_take (i := 14) (v := ?q10_v14) rfl (by kernel_rfl) (by kernel_rfl) (by kernel_rfl) (fun _ _ _ h => h) (Or.inl ⟨by kernel_rfl, ?q10_y14⟩) (by assumption) ?q10_r14
    case q10_y14 =>
      intro w' hSw
      try dsimp only at hSw
      go_simp
      try with_reducible rfl
    try simp only [Act.put, List.getElem_toArray, List.getElem_cons_succ, List.getElem_cons_zero, List.setIfInBounds_toArray, List.set_cons_zero, List.set_cons_succ]
    refine wpAnyH_take (i := 15) (v := ?q10_v15) rfl (by kernel_rfl) (by kernel_rfl) (by kernel_rfl) (fun _ _ _ h => h) (Or.inl ⟨by kernel_rfl, ?q10_y15⟩) (by assumption) ?q10_r15
    case q10_y15 =>
      intro w' hSw
      try dsimp only at hSw
      go_simp
      try with_reducible rfl
    try simp only [Act.put, List.getElem_toArray, List.getElem_cons_succ, List.getElem_cons_zero, List.setIfInBounds_toArray, List.set_cons_zero, List.set_cons_succ]
    refine wpAnyH_take (i := 16) (v := ?q10_v16) rfl (by kernel_rfl) (by kernel_rfl) (by kernel_rfl) (fun _ _ _ h => h) (Or.inl ⟨by kernel_rfl, ?q10_y16⟩) (by assumption) ?q10_r16
    case q10_y16 =>
      intro w' hSw
      try dsimp only at hSw
      go_simp
      try with_reducible rfl
    try simp only [Act.put, List.getElem_toArray, List.getElem_cons_succ, List.getElem_cons_zero, List.setIfInBounds_toArray, List.set_cons_zero, List.set_cons_succ]
    refine wpAnyH_take (i := 17) (v := ?q10_v17) rfl (by kernel_rfl) (by kernel_rfl) (by kernel_rfl) (fun _ _ _ h => h) (Or.inl ⟨by kernel_rfl, ?q10_y17⟩) (by assumption) ?q10_r17
    case q10_y17 =>
      intro w' hSw
      try dsimp only at hSw
      go_simp
      try with_reducible rfl
    try simp only [Act.put, List.getElem_toArray, List.getElem_cons_succ, List.getElem_cons_zero, List.setIfInBounds_toArray, List.set_cons_zero, List.set_cons_succ]
    refine wpAnyH_ready (rs := [18]) (by kernel_rfl) (by simp) ?q10_r18
    refine AllReadyH.cons rfl (fun K hK => ?q10_b18) AllReadyH.nil
    rw [if_pos (by kernel_rfl)]
    go_simp
    go_at_call 59
    refine (meet_v _ _ _ _ _ _ _ _ _ _ _ (HVcf.out _ HB10_4.out) (HVsf.out _ HB10_4.out) (by omega)).mono ?_
    rintro e w10_5 ⟨A10_5, n10_5, c10_5, rfl, hv, hb5⟩
    have HV10_5 : Hid (∀ wy, Below w10_5.heap.size w10_5 wy → SetV wy _ _ A10_5 n10_5 c10_5) := Lib.hid (fun wy hb => hv.below hb)
    clear hv
    have HW10_5 := Lib.hid hb5
    have HB10_5 : Hid (Below wc.heap.size wc w10_5) := Lib.hid (HB10_4.out.trans (hb5.mono HB10_4.out.size))
    refine hK.out _ _ (HG.out _ HB10_5.out) (fun hHeld10_5 => ?q10_c18)
    clear hK hb5
    try simp only [Act.put, List.getElem_toArray, List.getElem_cons_succ, List.getElem_cons_zero, List.setIfInBounds_toArray, List.set_cons_zero, List.set_cons_succ]
    refine wpAnyH_ready (rs := [19]) (by kernel_rfl) (by simp) ?q10_r19
    refine AllReadyH.cons rfl (fun K hK => ?q10_b19) AllReadyH.nil
    rw [if_pos (by kernel_rfl)]
    go_simp
    go_at_call 22
    refine (none_v 0 _).mono ?_
    rintro e w10_6 ⟨A10_6, n10_6, c10_6, rfl, hv, hb6⟩
    have HV10_6 : Hid (∀ wy, Below w10_6.heap.size w10_6 wy → SetV wy _ _ A10_6 n10_6 c10_6) := Lib.hid (fun wy hb => hv.below hb)
    clear hv
    have HW10_6 := Lib.hid hb6
    have HB10_6 : Hid (Below wc.heap.size wc w10_6) := Lib.hid (HB10_5.out.trans (hb6.mono HB10_5.out.size))
    refine hK.out _ _ (HG.out _ HB10_6.out) (fun hHeld10_6 => ?q10_c19)
    clear hK hb6
    try simp only [Act.put, List.getElem_toArray, List.getElem_cons_succ, List.getElem_cons_zero, List.setIfInBounds_toArray, List.set_cons_zero, List.set_cons_succ]
    refine wpAnyH_ready (rs := [20]) (by kernel_rfl) (by simp) ?q10_r20
    refine AllReadyH.cons rfl (fun K hK => ?q10_b20) AllReadyH.nil
    rw [if_pos (by kernel_rfl)]
    go_simp
    go_at_call 58
    refine (same_v _ _ _ _ _ _ _ _ _ _ true _ (HV10_5.out _ (Below.step_ (Below.refl _ _) HW10_6.out)) (HV10_6.out _ (Below.refl _ _)) ⟨fun _ => by intro q hq; (try dsimp only); rw [HFC.out q hq]; cases F1 q <;> rfl, fun _ => rfl⟩).mono ?_
    rintro e w10_7 ⟨rfl, hb7⟩
    have HW10_7 := Lib.hid hb7
    have HB10_7 : Hid (Below wc.heap.size wc w10_7) := Lib.hid (HB10_6.out.trans (hb7.mono HB10_6.out.size))
    refine hK.out _ _ (HG.out _ HB10_7.out) (fun hHeld10_7 => ?q10_c20)
    clear hK hb7
    try simp only [Act.put, List.getElem_toArray, List.getElem_cons_succ, List.getElem_cons_zero, List.setIfInBounds_toArray, List.set_cons_zero, List.set_cons_succ]
    refine wpAnyH_take (i := 21) (v := ?q10_v21) rfl (by kernel_rfl) (by kernel_rfl) (by kernel_rfl) (fun _ _ _ h => h) (Or.inl ⟨by kernel_rfl, ?q10_y21⟩) (by assumption) ?q10_r21
    case q10_y21 =>
      intro w' hSw
      try dsimp only at hSw
      go_simp
      try with_reducible rfl
    try simp only [Act.put, List.getElem_toArray, List.getElem_cons_succ, List.getElem_cons_zero, List.setIfInBounds_toArray, List.set_cons_zero, List.set_cons_succ]
    refine wpAnyH_take (i := 22) (v := ?q10_v22) rfl (by kernel_rfl) (by kernel_rfl) (by kernel_rfl) (fun _ _ _ h => h) (Or.inl ⟨by kernel_rfl, ?q10_y22⟩) (by assumption) ?q10_r22
    case q10_y22 =>
      intro w' hSw
      try dsimp only at hSw
      go_simp
      try with_reducible rfl
    try simp only [Act.put, List.getElem_toArray, List.getElem_cons_succ, List.getElem_cons_zero, List.setIfInBounds_toArray, List.set_cons_zero, List.set_cons_succ]
    refine wpAnyH_done (by kernel_rfl) ?_ _
    go_wp2_with fail
    go_meet
    case rel => exact ⟨rfl, HB10_7⟩
  case rest =>
  as_aux_lemma =>
  obtain ⟨rfl, HBx⟩ := hcut
  have HRs' := Lib.hid (HRs.out.below HBx.out HRs.out.lt); have HVs' := Lib.hid (HVs.out.below HBx.out)
  have HRa' := Lib.hid (HRa.out.below HBx.out HRa.out.lt); have HVa' := Lib.hid (HVa.out.below HBx.out)
  have HRc' := Lib.hid (HRc.out.below HBx.out HRc.out.lt); have HVc' := Lib.hid (HVc.out.below HBx.out)
  have HBw' := Lib.hid (HBw.out.trans (HBx.out.mono HBw.out.size))
  clear HBx HBw HRs HVs HRa HVa HRc HVc
  have HRs := HRs'; clear HRs'
  have HVs := HVs'; clear HVs'
  have HRa := HRa'; clear HRa'
  have HVa := HVa'; clear HVa'
  have HRc := HRc'; clear HRc'
  have HVc := HVc'; clear HVc'
  have HBw := HBw'; clear HBw'
  have e5 : bits BinOp.xor IntKind.u64 (if IntKind.u64.signed = true then -1 else IntKind.u64.max) 0 = 18446744073709551615 := by decide
  go_upto_region 13 with fail
  try rw [e5]
  clear e5
  have r14 := Row.new wc 59 [.int .u64 (p : Nat), .int .u64 18446744073709551615]
  have b14 : Below wc.heap.size wc (wc.alloc (.cells #[.int .u64 (p : Nat), .int .u64 18446744073709551615] 59)) := (Below.refl _ _).alloc (Nat.le_refl _) _
  obtain ⟨g14, hg14⟩ : ∃ g, g = wc.heap.size := ⟨_, rfl⟩
  have HRs' := Lib.hid (HRs.out.below b14 HRs.out.lt); have HVs' := Lib.hid (HVs.out.below b14)
  have HRc' := Lib.hid (HRc.out.below b14 HRc.out.lt); have HVc' := Lib.hid (HVc.out.below b14)
  have HBw' := Lib.hid (HBw.out.trans (b14.mono HBw.out.size))
  clear HRs HVs HRa HVa HRc HVc HBw b14
  generalize wc.alloc (.cells #[.int .u64 (p : Nat), .int .u64 18446744073709551615] 59) = wc at *
  rw [← hg14] at r14 ⊢
  have HRx := Lib.hid r14
  clear r14 hg14
  have HRs := HRs'; clear HRs'
  have HVs := HVs'; clear HVs'
  have HRc := HRc'; clear HRc'
  have HVc := HVc'; clear HVc'
  have HBw := HBw'; clear HBw'
  obtain ⟨T1, hT1⟩ : ∃ T : Bool, T = true ↔ ∃ q, p ≤ q ∧ q ≤ 18446744073709551615 ∧ F1 q = true := by
    by_cases h : ∃ q, p ≤ q ∧ q ≤ 18446744073709551615 ∧ F1 q = true
    · exact ⟨true, fun _ => h, fun _ => rfl⟩
    · exact ⟨false, fun h' => (by cases h'), fun h' => absurd h' h⟩
  obtain ⟨C2, hC2⟩ : ∃ T : Bool, T = true ↔ ∀ q, p ≤ q → q ≤ 18446744073709551615 → F1 q = true := by
    by_cases h : ∀ q, p ≤ q → q ≤ 18446744073709551615 → F1 q = true
    · exact ⟨true, fun _ => h, fun _ => rfl⟩
    · exact ⟨false, fun h' => (by cases h'), fun h' => absurd h' h⟩
  have hC1 : (!T1) = true ↔ ∀ q, p ≤ q → q ≤ 18446744073709551615 → FC q = true := by
    rw [Bool.not_eq_true', ← Bool.not_eq_true, hT1]
    constructor
    · intro h q h1 h2
      rw [HFC.out q h2]
      cases hf : F1 q
      · rfl
      · exact absurd ⟨q, h1, h2, hf⟩ h
    · rintro h ⟨q, h1, h2, h3⟩
      have := h q h1 h2
      rw [HFC.out q h2, h3] at this
      cases this
  have hT2 : (!C2) = true ↔ ∃ q, p ≤ q ∧ q ≤ 18446744073709551615 ∧ FC q = true := by
    rw [Bool.not_eq_true', ← Bool.not_eq_true, hC2]
    constructor
    · intro h
      apply Classical.byContradiction
      intro hn
      refine h fun q h1 h2 => ?_
      cases hf : F1 q
      · exact absurd ⟨q, h1, h2, by rw [HFC.out q h2, hf]; rfl⟩ hn
      · rfl
    · rintro ⟨q, h1, h2, h3⟩ h
      rw [HFC.out q h2, h q h1 h2] at h3
      cases h3
  have HT1 := Lib.hid hT1; have HC2 := Lib.hid hC2; have HC1 := Lib.hid hC1; have HT2 := Lib.hid hT2
  have hb1 : (T1 != !T1) = true := by cases T1 <;> rfl
  have hb2 : (C2 != !C2) = true := by cases C2 <;> rfl
  have hcc : (((18446744073709551615 : Nat) : Int)) = 18446744073709551615 := rfl
  clear hT1 hC2 hC1 hT2
  have HG : Hid (∀ wy, Below wc.heap.size wc wy → wy.cell? ⟨g9, 0, none⟩ = some (.slice As ns cs) ∧ wy.cell? ⟨g13, 0, none⟩ = some (.slice Ac nc cc) ∧ wy.cell? ⟨g14, 0, none⟩ = some (.int .u64 (p : Nat)) ∧ wy.cell? ⟨g14, 1, none⟩ = some (.int .u64 18446744073709551615)) := Lib.hid (fun wy hb => ⟨(HRs.out.below hb HRs.out.lt).cell 0, (HRc.out.below hb HRc.out.lt).cell 0, (HRx.out.below hb HRx.out.lt).cell 0, (HRx.out.below hb HRx.out.lt).cell 1⟩)
  have HBD : Hid (Below wc.heap.size wc wc.drew) := Lib.hid (Below.refl _ _).drew
  have HVsf : Hid (∀ wy, Below wc.heap.size wc wy → SetV wy F1 2147483648 As ns cs) := Lib.hid (fun wy hb => HVs.out.below hb)
  have HVcf : Hid (∀ wy, Below wc.heap.size wc wy → SetV wy FC 4294967298 Ac nc cc) := Lib.hid (fun wy hb => HVc.out.below hb)
  refine wp_region_held_drew (S := (fun w' => w'.cell? ⟨g9, 0, none⟩ = some (.slice As ns cs) ∧ w'.cell? ⟨g13, 0, none⟩ = some (.slice Ac nc cc) ∧ w'.cell? ⟨g14, 0, none⟩ = some (.int .u64 (p : Nat)) ∧ w'.cell? ⟨g14, 1, none⟩ = some (.int .u64 18446744073709551615))) (by kernel_rfl) (HG.out _ HBD.out) (fun hHeld => ?q13_s)
  refine wpAnyH_take (i := 0) (v := ?q13_v0) rfl (by kernel_rfl) (by kernel_rfl) (by kernel_rfl) (fun _ _ _ h => h) (Or.inl ⟨by kernel_rfl, ?q13_y0⟩) (by assumption) ?q13_r0
  case q13_y0 =>
    intro w' hSw
    try dsimp only at hSw
    go_simp
    try with_reducible rfl
  try simp only [Act.put, List.getElem_toArray, List.getElem_cons_succ, List.getElem_cons_zero, List.setIfInBounds_toArray, List.set_cons_zero, List.set_cons_succ]
  refine wpAnyH_take (i := 1) (v := ?q13_v1) rfl (by kernel_rfl) (by kernel_rfl) (by kernel_rfl) (fun _ _ _ h => h) (Or.inl ⟨by kernel_rfl, ?q13_y1⟩) (by assumption) ?q13_r1
  case q13_y1 =>
    intro w' hSw
    try dsimp only at hSw
    go_simp
    try with_reducible rfl
  try simp only [Act.put, List.getElem_toArray, List.getElem_cons_succ, List.getElem_cons_zero, List.setIfInBounds_toArray, List.set_cons_zero, List.set_cons_succ]
  refine wpAnyH_take (i := 3) (v := ?q13_v3) rfl (by kernel_rfl) (by kernel_rfl) (by kernel_rfl) (fun _ _ _ h => h) (Or.inl ⟨by kernel_rfl, ?q13_y3⟩) (by assumption) ?q13_r3
  case q13_y3 =>
    intro w' hSw
    try dsimp only at hSw
    go_simp
    try with_reducible rfl
  try simp only [Act.put, List.getElem_toArray, List.getElem_cons_succ, List.getElem_cons_zero, List.setIfInBounds_toArray, List.set_cons_zero, List.set_cons_succ]
  refine wpAnyH_take (i := 4) (v := ?q13_v4) rfl (by kernel_rfl) (by kernel_rfl) (by kernel_rfl) (fun _ _ _ h => h) (Or.inl ⟨by kernel_rfl, ?q13_y4⟩) (by assumption) ?q13_r4
  case q13_y4 =>
    intro w' hSw
    try dsimp only at hSw
    go_simp
    try with_reducible rfl
  try simp only [Act.put, List.getElem_toArray, List.getElem_cons_succ, List.getElem_cons_zero, List.setIfInBounds_toArray, List.set_cons_zero, List.set_cons_succ]
  refine wpAnyH_ready (rs := [2]) (by kernel_rfl) (by simp) ?q13_r2
  refine AllReadyH.cons rfl (fun K hK => ?q13_b2) AllReadyH.nil
  rw [if_pos (by kernel_rfl)]
  go_simp
  go_at_call 63
  refine (touches_v _ _ _ _ _ _ _ T1 _ (HVsf.out _ HBD.out) HP.out (Nat.le_refl _) HT1.out).mono ?_
  rintro e w13_1 ⟨rfl, hb1⟩
  have HW13_1 := Lib.hid hb1
  have HB13_1 : Hid (Below wc.heap.size wc w13_1) := Lib.hid (HBD.out.trans (hb1.mono HBD.out.size))
  refine hK.out _ _ (HG.out _ HB13_1.out) (fun hHeld13_1 => ?q13_c2)
  clear hK hb1
  try simp only [Act.put, List.getElem_toArray, List.getElem_cons_succ, List.getElem_cons_zero, List.setIfInBounds_toArray, List.set_cons_zero, List.set_cons_succ]
  refine wpAnyH_ready (rs := [5]) (by kernel_rfl) (by simp) ?q13_r5
  refine AllReadyH.cons rfl (fun K hK => ?q13_b5) AllReadyH.nil
  rw [if_pos (by kernel_rfl)]
  go_simp
  go_at_call 64
  refine (covers_v _ _ _ _ _ _ _ (!T1) _ (HVcf.out _ HB13_1.out) HP.out (Nat.le_refl _) HC1.out).mono ?_
  rintro e w13_2 ⟨rfl, hb2⟩
  have HW13_2 := Lib.hid hb2
  have HB13_2 : Hid (Below wc.heap.size wc w13_2) := Lib.hid (HB13_1.out.trans (hb2.mono HB13_1.out.size))
  refine hK.out _ _ (HG.out _ HB13_2.out) (fun hHeld13_2 => ?q13_c5)
  clear hK hb2
  try simp only [Act.put, List.getElem_toArray, List.getElem_cons_succ, List.getElem_cons_zero, List.setIfInBounds_toArray, List.set_cons_zero, List.set_cons_succ]
  refine wpAnyH_take (i := 6) (v := ?q13_v6) rfl (by kernel_rfl) (by kernel_rfl) (by kernel_rfl) (fun _ _ _ h => h) (Or.inl ⟨by kernel_rfl, ?q13_y6⟩) (by assumption) ?q13_r6
  case q13_y6 =>
    intro w' hSw
    try dsimp only at hSw
    go_simp
    try with_reducible rfl
  try simp only [Act.put, List.getElem_toArray, List.getElem_cons_succ, List.getElem_cons_zero, List.setIfInBounds_toArray, List.set_cons_zero, List.set_cons_succ]
  refine wpAnyH_take (i := 7) (v := ?q13_v7) rfl (by kernel_rfl) (by kernel_rfl) (by kernel_rfl) (fun _ _ _ h => h) (Or.inl ⟨by kernel_rfl, ?q13_y7⟩) (by assumption) ?q13_r7
  case q13_y7 =>
    intro w' hSw
    try dsimp only at hSw
    go_simp
    try with_reducible rfl
  try simp only [Act.put, List.getElem_toArray, List.getElem_cons_succ, List.getElem_cons_zero, List.setIfInBounds_toArray, List.set_cons_zero, List.set_cons_succ]
  refine wpAnyH_take (i := 8) (v := ?q13_v8) rfl (by kernel_rfl) (by kernel_rfl) (by kernel_rfl) (fun _ _ _ h => h) (Or.inl ⟨by kernel_rfl, ?q13_y8⟩) (by assumption) ?q13_r8
  case q13_y8 =>
    intro w' hSw
    try dsimp only at hSw
    go_simp
    try with_reducible rfl
  try simp only [Act.put, List.getElem_toArray, List.getElem_cons_succ, List.getElem_cons_zero, List.setIfInBounds_toArray, List.set_cons_zero, List.set_cons_succ]
  refine wpAnyH_take (i := 9) (v := ?q13_v9) rfl (by kernel_rfl) (by kernel_rfl) (by kernel_rfl) (fun _ _ _ h => h) (Or.inl ⟨by kernel_rfl, ?q13_y9⟩) (by assumption) ?q13_r9
  case q13_y9 =>
    intro w' hSw
    try dsimp only at hSw
    go_simp
    try with_reducible rfl
  try simp only [Act.put, List.getElem_toArray, List.getElem_cons_succ, List.getElem_cons_zero, List.setIfInBounds_toArray, List.set_cons_zero, List.set_cons_succ]
  refine wpAnyH_take (i := 11) (v := ?q13_v11) rfl (by kernel_rfl) (by kernel_rfl) (by kernel_rfl) (fun _ _ _ h => h) (Or.inl ⟨by kernel_rfl, ?q13_y11⟩) (by assumption) ?q13_r11
  case q13_y11 =>
    intro w' hSw
    try dsimp only at hSw
    go_simp
    try with_reducible rfl
  try simp only [Act.put, List.getElem_toArray, List.getElem_cons_succ, List.getElem_cons_zero, List.setIfInBounds_toArray, List.set_cons_zero, List.set_cons_succ]
  refine wpAnyH_take (i := 12) (v := ?q13_v12) rfl (by kernel_rfl) (by kernel_rfl) (by kernel_rfl) (fun _ _ _ h => h) (Or.inl ⟨by kernel_rfl, ?q13_y12⟩) (by assumption) ?q13_r12
  case q13_y12 =>
    intro w' hSw
    try dsimp only at hSw
    go_simp
    try with_reducible rfl
  try simp only [Act.put, List.getElem_toArray, List.getElem_cons_succ, List.getElem_cons_zero, List.setIfInBounds_toArray, List.set_cons_zero, List.set_cons_succ]
  refine wpAnyH_ready (rs := [10]) (by kernel_rfl) (by simp) ?q13_r10
  refine AllReadyH.cons rfl (fun K hK => ?q13_b10) AllReadyH.nil
  rw [if_pos (by kernel_rfl)]
  go_simp
  go_at_call 64
  refine (covers_v _ _ _ _ _ _ _ C2 _ (HVsf.out _ HB13_2.out) HP.out (Nat.le_refl _) HC2.out).mono ?_
  rintro e w13_3 ⟨rfl, hb3⟩
  have HW13_3 := Lib.hid hb3
  have HB13_3 : Hid (Below wc.heap.size wc w13_3) := Lib.hid (HB13_2.out.trans (hb3.mono HB13_2.out.size))
  refine hK.out _ _ (HG.out _ HB13_3.out) (fun hHeld13_3 => ?q13_c10)
  clear hK hb3
  try simp only [Act.put, List.getElem_toArray, List.getElem_cons_succ, List.getElem_cons_zero, List.setIfInBounds_toArray, List.set_cons_zero, List.set_cons_succ]
  refine wpAnyH_ready (rs := [13]) (by kernel_rfl) (by simp) ?q13_r13
  refine AllReadyH.cons rfl (fun K hK => ?q13_b13) AllReadyH.nil
  rw [if_pos (by kernel_rfl)]
  go_simp
  go_at_call 63
  refine (touches_v _ _ _ _ _ _ _ (!C2) _ (HVcf.out _ HB13_3.out) HP.out (Nat.le_refl _) HT2.out).mono ?_
  rintro e w13_4 ⟨rfl, hb4⟩
  have HW13_4 := Lib.hid hb4
  have HB13_4 : Hid (Below wc.heap.size wc w13_4) := Lib.hid (HB13_3.out.trans (hb4.mono HB13_3.out.size))
  refine hK.out _ _ (HG.out _ HB13_4.out) (fun hHeld13_4 => ?q13_c13)
  clear hK hb4
  try simp only [Act.put, List.getElem_toArray, List.getElem_cons_succ, List.getElem_cons_zero, List.setIfInBounds_toArray, List.set_cons_zero, List.set_cons_succ]
  refine wpAnyH_take (i := 14) (v := ?q13_v14) rfl (by kernel_rfl) (by kernel_rfl) (by kernel_rfl) (fun _ _ _ h => h) (Or.inl ⟨by kernel_rfl, ?q13_y14⟩) (by assumption) ?q13_r14
  case q13_y14 =>
    intro w' hSw
    try dsimp only at hSw
    go_simp
    try with_reducible rfl
  try simp only [Act.put, List.getElem_toArray, List.getElem_cons_succ, List.getElem_cons_zero, List.setIfInBounds_toArray, List.set_cons_zero, List.set_cons_succ]
  refine wpAnyH_take (i := 15) (v := ?q13_v15) rfl (by kernel_rfl) (by kernel_rfl) (by kernel_rfl) (fun _ _ _ h => h) (Or.inl ⟨by kernel_rfl, ?q13_y15⟩) (by assumption) ?q13_r15
  case q13_y15 =>
    intro w' hSw
    try dsimp only at hSw
    go_simp
    try with_reducible rfl
  try simp only [Act.put, List.getElem_toArray, List.getElem_cons_succ, List.getElem_cons_zero, List.setIfInBounds_toArray, List.set_cons_zero, List.set_cons_succ]
  refine wpAnyH_take (i := 16) (v := ?q13_v16) rfl (by kernel_rfl) (by kernel_rfl) (by kernel_rfl) (fun _ _ _ h => h) (Or.inl ⟨by kernel_rfl, ?q13_y16⟩) (by assumption) ?q13_r16
  case q13_y16 =>
    intro w' hSw
    try dsimp only at hSw
    go_simp
    try with_reducible rfl
  try simp only [Act.put, List.getElem_toArray, List.getElem_cons_succ, List.getElem_cons_zero, List.setIfInBounds_toArray, List.set_cons_zero, List.set_cons_succ]
  refine wpAnyH_take (i := 17) (v := ?q13_v17) rfl (by kernel_rfl) (by kernel_rfl) (by kernel_rfl) (fun _ _ _ h => h) (Or.inl ⟨by kernel_rfl, ?q13_y17⟩) (by assumption) ?q13_r17
  case q13_y17 =>
    intro w' hSw
    try dsimp only at hSw
    go_simp
    try with_reducible rfl
  try simp only [Act.put, List.getElem_toArray, List.getElem_cons_succ, List.getElem_cons_zero, List.setIfInBounds_toArray, List.set_cons_zero, List.set_cons_succ]
  refine wpAnyH_take (i := 18) (v := ?q13_v18) rfl (by kernel_rfl) (by kernel_rfl) (by kernel_rfl) (fun _ _ _ h => h) (Or.inl ⟨by kernel_rfl, ?q13_y18⟩) (by assumption) ?q13_r18
  case q13_y18 =>
    intro w' hSw
    try dsimp only at hSw
    go_simp
    try with_reducible rfl
  try simp only [Act.put, List.getElem_toArray, List.getElem_cons_succ, List.getElem_cons_zero, List.setIfInBounds_toArray, List.set_cons_zero, List.set_cons_succ]
  refine wpAnyH_take (i := 20) (v := ?q13_v20) rfl (by kernel_rfl) (by kernel_rfl) (by kernel_rfl) (fun _ _ _ h => h) (Or.inl ⟨by kernel_rfl, ?q13_y20⟩) (by assumption) ?q13_r20
  case q13_y20 =>
    intro w' hSw
    try dsimp only at hSw
    go_simp
    try with_reducible rfl
  try simp only [Act.put, List.getElem_toArray, List.getElem_cons_succ, List.getElem_cons_zero, List.setIfInBounds_toArray, List.set_cons_zero, List.set_cons_succ]
  refine wpAnyH_ready (rs := [19]) (by kernel_rfl) (by simp) ?q13_r19
  refine AllReadyH.cons rfl (fun K hK => ?q13_b19) AllReadyH.nil
  rw [if_pos (by kernel_rfl)]
  go_simp
  go_at_call 65
  refine (with_v _ _ _ _ _ _ _ _ (HVsf.out _ HB13_4.out) HP.out (Nat.le_refl _) (by omega)).mono ?_
  rintro e w13_5 ⟨A13_5, n13_5, c13_5, rfl, hv, hb5⟩
  have HV13_5 : Hid (∀ wy, Below w13_5.heap.size w13_5 wy → SetV wy _ _ A13_5 n13_5 c13_5) := Lib.hid (fun wy hb => hv.below hb)
  clear hv
  have HW13_5 := Lib.hid hb5
  have HB13_5 : Hid (Below wc.heap.size wc w13_5) := Lib.hid (HB13_4.out.trans (hb5.mono HB13_4.out.size))
  refine hK.out _ _ (HG.out _ HB13_5.out) (fun hHeld13_5 => ?q13_c19)
  clear hK hb5
  try simp only [Act.put, List.getElem_toArray, List.getElem_cons_succ, List.getElem_cons_zero, List.setIfInBounds_toArray, List.set_cons_zero, List.set_cons_succ]
  refine wpAnyH_ready (rs := [21]) (by kernel_rfl) (by simp) ?q13_r21
  refine AllReadyH.cons rfl (fun K hK => ?q13_b21) AllReadyH.nil
  rw [if_pos (by kernel_rfl)]
  go_simp
  go_at_call 64
  refine (covers_v _ _ _ _ _ _ _ true _ (HV13_5.out _ (Below.refl _ _)) HP.out (Nat.le_refl _) ⟨fun _ => by intro q h1 h2; (try dsimp only); rw [decide_eq_true ⟨h1, h2⟩, Bool.or_true], fun _ => rfl⟩).mono ?_
  rintro e w13_6 ⟨rfl, hb6⟩
  have HW13_6 := Lib.hid hb6
  have HB13_6 : Hid (Below wc.heap.size wc w13_6) := Lib.hid (HB13_5.out.trans (hb6.mono HB13_5.out.size))
  refine hK.out _ _ (HG.out _ HB13_6.out) (fun hHeld13_6 => ?q13_c21)
  clear hK hb6
  try simp only [Act.put, List.getElem_toArray, List.getElem_cons_succ, List.getElem_cons_zero, List.setIfInBounds_toArray, List.set_cons_zero, List.set_cons_succ]
  refine wpAnyH_take (i := 22) (v := ?q13_v22) rfl (by kernel_rfl) (by kernel_rfl) (by kernel_rfl) (fun _ _ _ h => h) (Or.inl ⟨by kernel_rfl, ?q13_y22⟩) (by assumption) ?q13_r22
  case q13_y22 =>
    intro w' hSw
    try dsimp only at hSw
    go_simp
    try with_reducible rfl
  try simp only [Act.put, List.getElem_toArray, List.getElem_cons_succ, List.getElem_cons_zero, List.setIfInBounds_toArray, List.set_cons_zero, List.set_cons_succ]
  refine wpAnyH_take (i := 23) (v := ?q13_v23) rfl (by kernel_rfl) (by kernel_rfl) (by kernel_rfl) (fun _ _ _ h => h) (Or.inl ⟨by kernel_rfl, ?q13_y23⟩) (by assumption) ?q13_r23
  case q13_y23 =>
    intro w' hSw
    try dsimp only at hSw
    go_simp
    try with_reducible rfl
  try simp only [Act.put, List.getElem_toArray, List.getElem_cons_succ, List.getElem_cons_zero, List.setIfInBounds_toArray, List.set_cons_zero, List.set_cons_succ]
  refine wpAnyH_take (i := 24) (v := ?q13_v24) rfl (by kernel_rfl) (by kernel_rfl) (by kernel_rfl) (fun _ _ _ h => h) (Or.inl ⟨by kernel_rfl, ?q13_y24⟩) (by assumption) ?q13_r24
  case q13_y24 =>
    intro w' hSw
    try dsimp only at hSw
    go_simp
    try with_reducible rfl
  try simp only [Act.put, List.getElem_toArray, List.getElem_cons_succ, List.getElem_cons_zero, List.setIfInBounds_toArray, List.set_cons_zero, List.set_cons_succ]
  refine wpAnyH_take (i := 25) (v := ?q13_v25) rfl (by kernel_rfl) (by kernel_rfl) (by kernel_rfl) (fun _ _ _ h => h) (Or.inl ⟨by kernel_rfl, ?q13_y25⟩) (by assumption) ?q13_r25
  case q13_y25 =>
    intro w' hSw
    try dsimp only at hSw
    go_simp
    try with_reducible rfl
  try simp only [Act.put, List.getElem_toArray, List.getElem_cons_succ, List.getElem_cons_zero, List.setIfInBounds_toArray, List.set_cons_zero, List.set_cons_succ]
  refine wpAnyH_take (i := 27) (v := ?q13_v27) rfl (by kernel_rfl) (by kernel_rfl) (by kernel_rfl) (fun _ _ _ h => h) (Or.inl ⟨by kernel_rfl, ?q13_y27⟩) (by assumption) ?q13_r27
  case q13_y27 =>
    intro w' hSw
    try dsimp only at hSw
    go_simp
    try with_reducible rfl
  try simp only [Act.put, List.getElem_toArray, List.getElem_cons_succ, List.getElem_cons_zero, List.setIfInBounds_toArray, List.set_cons_zero, List.set_cons_succ]
  refine wpAnyH_ready (rs := [26]) (by kernel_rfl) (by simp) ?q13_r26
  refine AllReadyH.cons rfl (fun K hK => ?q13_b26) AllReadyH.nil
  rw [if_pos (by kernel_rfl)]
  go_simp
  go_at_call 66
  refine (without_v _ _ _ _ _ _ _ _ (HVsf.out _ HB13_6.out) HP.out (Nat.le_refl _) (by omega)).mono ?_
  rintro e w13_7 ⟨A13_7, n13_7, c13_7, rfl, hv, hb7⟩
  have HV13_7 : Hid (∀ wy, Below w13_7.heap.size w13_7 wy → SetV wy _ _ A13_7 n13_7 c13_7) := Lib.hid (fun wy hb => hv.below hb)
  clear hv
  have HW13_7 := Lib.hid hb7
  have HB13_7 : Hid (Below wc.heap.size wc w13_7) := Lib.hid (HB13_6.out.trans (hb7.mono HB13_6.out.size))
  refine hK.out _ _ (HG.out _ HB13_7.out) (fun hHeld13_7 => ?q13_c26)
  clear hK hb7
  try simp only [Act.put, List.getElem_toArray, List.getElem_cons_succ, List.getElem_cons_zero, List.setIfInBounds_toArray, List.set_cons_zero, List.set_cons_succ]
  refine wpAnyH_ready (rs := [28]) (by kernel_rfl) (by simp) ?q13_r28
  refine AllReadyH.cons rfl (fun K hK => ?q13_b28) AllReadyH.nil
  rw [if_pos (by kernel_rfl)]
  go_simp
  go_at_call 63
  refine (touches_v _ _ _ _ _ _ _ false _ (HV13_7.out _ (Below.refl _ _)) HP.out (Nat.le_refl _) ⟨fun h => (by cases h), fun ⟨q, h1, h2, h3⟩ => by (try dsimp only at h3); rw [decide_eq_true ⟨h1, h2⟩] at h3; simp at h3⟩).mono ?_
  rintro e w13_8 ⟨rfl, hb8⟩
  have HW13_8 := Lib.hid hb8
  have HB13_8 : Hid (Below wc.heap.size wc w13_8) := Lib.hid (HB13_7.out.trans (hb8.mono HB13_7.out.size))
  refine hK.out _ _ (HG.out _ HB13_8.out) (fun hHeld13_8 => ?q13_c28)
  clear hK hb8
  try simp only [Act.put, List.getElem_toArray, List.getElem_cons_succ, List.getElem_cons_zero, List.setIfInBounds_toArray, List.set_cons_zero, List.set_cons_succ]
  refine wpAnyH_take (i := 29) (v := ?q13_v29) rfl (by kernel_rfl) (by kernel_rfl) (by kernel_rfl) (fun _ _ _ h => h) (Or.inl ⟨by kernel_rfl, ?q13_y29⟩) (by assumption) ?q13_r29
  case q13_y29 =>
    intro w' hSw
    try dsimp only at hSw
    go_simp
    try with_reducible rfl
  try simp only [Act.put, List.getElem_toArray, List.getElem_cons_succ, List.getElem_cons_zero, List.setIfInBounds_toArray, List.set_cons_zero, List.set_cons_succ]
  refine wpAnyH_take (i := 30) (v := ?q13_v30) rfl (by kernel_rfl) (by kernel_rfl) (by kernel_rfl) (fun _ _ _ h => h) (Or.inl ⟨by kernel_rfl, ?q13_y30⟩) (by assumption) ?q13_r30
  case q13_y30 =>
    intro w' hSw
    try dsimp only at hSw
    go_simp
    try with_reducible rfl
  try simp only [Act.put, List.getElem_toArray, List.getElem_cons_succ, List.getElem_cons_zero, List.setIfInBounds_toArray, List.set_cons_zero, List.set_cons_succ]
  refine wpAnyH_take (i := 31) (v := ?q13_v31) rfl (by kernel_rfl) (by kernel_rfl) (by kernel_rfl) (fun _ _ _ h => h) (Or.inl ⟨by kernel_rfl, ?q13_y31⟩) (by assumption) ?q13_r31
  case q13_y31 =>
    intro w' hSw
    try dsimp only at hSw
    go_simp
    try with_reducible rfl
  try simp only [Act.put, List.getElem_toArray, List.getElem_cons_succ, List.getElem_cons_zero, List.setIfInBounds_toArray, List.set_cons_zero, List.set_cons_succ]
  refine wpAnyH_done (by kernel_rfl) ?_ _
  go_wp2_with fail
  go_ret
  exact ⟨rfl, HBw.out.trans (HB13_8.out.mono HBw.out.size)⟩
end S64
end Go.Proofs.YtchajbegjajlkaaGreat
