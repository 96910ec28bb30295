/- Texts of this claim, one behind the other: SoW, Structs, RowOpen, UOpen. -/
import Derived.Test.YtchajbegjajlkaaGreatJSpanLaws13
import Derived.Test.YtchajbegjajlkaaGreatJSpanLaws14
import Derived.Test.YtchajbegjajlkaaGreatJSpanLaws15
import Derived.Test.YtchajbegjajlkaaGreatJSpanLaws16
import Derived.Test.YtchajbegjajlkaaGreatJSpanLaws9
import Derived.ProofKit
import Derived.Lib.SmallJoins
import Derived.Deep.Slices
import Derived.OpenShut
import Derived.Test.YtchajbegjajlkaaGreatJSpanLaws1
/- The walk of the law SpanLaws. -/
set_option linter.unusedVariables false
set_option linter.unusedSimpArgs false
namespace Go.Proofs.YtchajbegjajlkaaGreat
open Go.RowKit
theorem few_pts (q : Nat) : Sp.has (S8.prs [3, 5, 6, 9, 20, 19]) q = decide (3 ≤ q ∧ q ≤ 9) := by
  rw [Bool.eq_iff_iff]
  simp [S8.prs, S8.cutN, Sp.has]
  omega
theorem beyond3_no {a b c : Nat} (h : beyondL 2147483647 [a, b, c] = false) : a ≤ 2147483648 ∧ b ≤ 2147483648 ∧ c ≤ 2147483648 := by
  unfold beyondL at h
  split at h
  · cases h
  unfold beyondL at h
  split at h
  · cases h
  unfold beyondL at h
  split at h
  · cases h
  omega
set_option maxRecDepth 100000 in
set_option maxHeartbeats 8000000 in
theorem spanlaws_walk (A1 A2 A3 : Option Addr) (n1 c1 n2 c2 n3 c3 p : Nat) (us1 us2 us3 : List Nat) (w : World) (h1 : IsU w w.heap.size A1 n1 us1) (h2 : IsU w w.heap.size A2 n2 us2) (h3 : IsU w w.heap.size A3 n3 us3) (hp : p ≤ 18446744073709551615) :
    Calls Tryz.prog 3 #[.slice A1 n1 c1, .slice A2 n2 c2, .slice A3 n3 c3, .int .u64 (p : Nat)] w fun e w' => e = .returned (.bool true) ∧ Below w.heap.size w w' := by
  obtain ⟨B, hB⟩ : ∃ B, B = beyondL 2147483647 [n1, n2, n3] := ⟨_, rfl⟩
  have m1 := h1.2.2.1
  have m2 := h2.2.2.1
  have m3 := h3.2.2.1
  have hcb := beyond_any (some ⟨w.heap.size, 0, none⟩) 3 3 [n1, n2, n3] (w.alloc (.cells #[.int .i64 (n1 : Nat), .int .i64 (n2 : Nat), .int .i64 (n3 : Nat)] 3)) ((Row.new w 3 [i64 n1, i64 n2, i64 n3]).reads 0 3 (by simp) (Row.new w 3 [i64 n1, i64 n2, i64 n3]).lt) (by omega) (by intro x hx; simp at hx; omega)
  rw [← hB] at hcb
  have HCB := Lib.hid hcb
  have hb0 : Below w.heap.size w (w.alloc (.cells #[.int .i64 (n1 : Nat), .int .i64 (n2 : Nat), .int .i64 (n3 : Nat)] 3)) := (Below.refl _ _).alloc (Nat.le_refl _) _
  have HB0 := Lib.hid hb0
  have H1 := Lib.hid h1; have H2 := Lib.hid h2; have H3 := Lib.hid h3
  have HBB := Lib.hid hB
  clear hcb hb0 hB h1 h2 h3
  go_enter Tryz.func3, Tryz.ntmps3
  cases B with
  | true =>
    go_wp2_with (go_at_call 6; refine HCB.out.mono ?_; rintro e w1 ⟨rfl, rfl⟩)
    go_ret
    exact ⟨rfl, HB0.out⟩
  | false =>
    obtain ⟨k1, k2, k3⟩ := beyond3_no HBB.out.symm
    have HK := Lib.hid (And.intro k1 (And.intro k2 k3))
    clear k1 k2 k3 m1 m2 m3
    go_upto_region 3 with (go_at_call 6; refine HCB.out.mono ?_; rintro e w1 ⟨rfl, rfl⟩)
    generalize w.alloc (.cells #[.int .i64 (n1 : Nat), .int .i64 (n2 : Nat), .int .i64 (n3 : Nat)] 3) = wA at *
    have hU : IsU (wA.alloc (.cells #[.int .u64 3, .int .u64 5, .int .u64 6, .int .u64 9, .int .u64 20, .int .u64 19] 23)) (wA.alloc (.cells #[.int .u64 3, .int .u64 5, .int .u64 6, .int .u64 9, .int .u64 20, .int .u64 19] 23)).heap.size (some ⟨wA.heap.size, 0, none⟩) 6 [3, 5, 6, 9, 20, 19] := ⟨(Row.new wA 23 [.int .u64 3, .int .u64 5, .int .u64 6, .int .u64 9, .int .u64 20, .int .u64 19]).reads 0 6 (by simp) (Row.new wA 23 [.int .u64 3, .int .u64 5, .int .u64 6, .int .u64 9, .int .u64 20, .int .u64 19]).lt, rfl, by omega, by decide⟩
    have HBS : Hid (Below w.heap.size w (wA.alloc (.cells #[.int .u64 3, .int .u64 5, .int .u64 6, .int .u64 9, .int .u64 20, .int .u64 19] 23))) := Lib.hid (HB0.out.alloc HB0.out.size _)
    have HMN := Lib.hid (S8.many_v _ 6 6 6 _ _ hU (by omega) (by omega))
    clear hU
    go_upto_region 4 with (go_at_call 7; refine HMN.out.mono ?_; rintro e wb ⟨As, ns, cs, rfl, hv, hb⟩; have HV1 := Lib.hid hv; have HB1 := Lib.hid hb; clear hv hb)
    have r9 := Row.new wb 27 [.slice As ns cs]
    have b9 : Below w.heap.size w (wb.alloc (.cells #[.slice As ns cs] 27)) := (HBS.out.trans (HB1.out.mono HBS.out.size)).alloc (Nat.le_trans HBS.out.size HB1.out.size) _
    have v9 := HV1.out.below ((Below.refl _ _).alloc (Nat.le_refl _) (.cells #[.slice As ns cs] 27))
    obtain ⟨g9, hg9⟩ : ∃ g, g = wb.heap.size := ⟨_, rfl⟩
    generalize wb.alloc (.cells #[.slice As ns cs] 27) = wc at *
    rw [← hg9] at r9 ⊢
    have HRs := Lib.hid r9; have HBw := Lib.hid b9; have HVs := Lib.hid v9
    clear r9 b9 v9 hg9 HV1 HB1 HMN HBS HCB HB0
    go_cut [32] (fun x wx => x = .bool false ∧ Hid (Below wc.heap.size wc wx))
    case first =>
      as_aux_lemma =>
      have HG : Hid (∀ wy, Below wc.heap.size wc wy → wy.cell? ⟨g9, 0, none⟩ = some (.slice As ns cs)) := Lib.hid (fun wy hb => (HRs.out.below hb HRs.out.lt).cell 0)
      have HBD : Hid (Below wc.heap.size wc wc.drew) := Lib.hid (Below.refl _ _).drew
      have HPR1 : Hid (∀ wx : World, Calls Tryz.prog 10 #[.int .u64 3, .int .u64 9] wx fun e w' => e = .returned (.agg #[.int .u8 3, .int .u8 9]) ∧ Below wx.heap.size wx w') := Lib.hid (fun wx => S8.pair_any 3 9 wx (by decide) (by decide))
      have HPR2 : Hid (∀ wx : World, Calls Tryz.prog 10 #[.int .u64 3, .int .u64 10] wx fun e w' => e = .returned (.agg #[.int .u8 3, .int .u8 10]) ∧ Below wx.heap.size wx w') := Lib.hid (fun wx => S8.pair_any 3 10 wx (by decide) (by decide))
      refine wp_region_held_drew (S := (fun w' => w'.cell? ⟨g9, 0, none⟩ = some (.slice As ns cs))) (by kernel_rfl) (HG.out _ HBD.out) (fun hHeld => ?q4_s)
      refine wpAnyH_take (i := 0) (v := ?q4_v0) rfl (by kernel_rfl) (by kernel_rfl) (by kernel_rfl) (fun _ _ _ h => h) (Or.inl ⟨by kernel_rfl, ?q4_y0⟩) (by assumption) ?q4_r0
      case q4_y0 =>
        intro w' hSw
        try dsimp only at hSw
        go_simp
        try with_reducible rfl
      try simp only [Act.put, List.getElem_toArray, List.getElem_cons_succ, List.getElem_cons_zero, List.setIfInBounds_toArray, List.set_cons_zero, List.set_cons_succ]
      refine wpAnyH_ready (rs := [1]) (by kernel_rfl) (by simp) ?q4_r1
      refine AllReadyH.cons rfl (fun K hK => ?q4_b1) AllReadyH.nil
      rw [if_pos (by kernel_rfl)]
      go_simp
      go_at_call 10
      refine (HPR1.out _).mono ?_
      rintro e wp1 ⟨rfl, hb⟩
      have HBp1 : Hid (Below wc.heap.size wc wp1) := Lib.hid (HBD.out.trans (hb.mono HBD.out.size))
      clear hb
      refine hK.out _ _ (HG.out _ HBp1.out) (fun hHeld4_1 => ?q4_c1)
      clear hK
      try simp only [Act.put, List.getElem_toArray, List.getElem_cons_succ, List.getElem_cons_zero, List.setIfInBounds_toArray, List.set_cons_zero, List.set_cons_succ]
      have HRp1 := Lib.hid (Row.new wp1 32 (S8.scell (3, 9)))
      have HBs1 : Hid (Below wc.heap.size wc (wp1.alloc (.cells #[.int .u8 3, .int .u8 9] 32))) := Lib.hid (HBp1.out.alloc HBp1.out.size _)
      refine wpAnyH_ready (rs := [2]) (by kernel_rfl) (by simp) ?q4_r2
      refine AllReadyH.cons rfl (fun K hK => ?q4_b2) AllReadyH.nil
      rw [if_pos (by kernel_rfl)]
      go_simp
      refine hK.out _ _ (HG.out _ HBs1.out) (fun hHeld4_2 => ?q4_c2)
      clear hK
      try simp only [Act.put, List.getElem_toArray, List.getElem_cons_succ, List.getElem_cons_zero, List.setIfInBounds_toArray, List.set_cons_zero, List.set_cons_succ]
      refine wpAnyH_ready (rs := [3]) (by kernel_rfl) (by simp) ?q4_r3
      refine AllReadyH.cons rfl (fun K hK => ?q4_b3) AllReadyH.nil
      rw [if_pos (by kernel_rfl)]
      go_simp
      go_at_call 9
      refine (S8.one_v wp1.heap.size 1 3 9 1 _ HRp1.out (by decide) (by decide) (by decide) (by decide)).mono ?_
      rintro e wo1 ⟨Ao1, no1, co1, rfl, hv, hb⟩
      have HVo1 := Lib.hid hv
      have HBo1 : Hid (Below wc.heap.size wc wo1) := Lib.hid (HBs1.out.trans (hb.mono HBs1.out.size))
      clear hv hb
      refine hK.out _ _ (HG.out _ HBo1.out) (fun hHeld4_3 => ?q4_c3)
      clear hK
      try simp only [Act.put, List.getElem_toArray, List.getElem_cons_succ, List.getElem_cons_zero, List.setIfInBounds_toArray, List.set_cons_zero, List.set_cons_succ]
      refine wpAnyH_ready (rs := [4]) (by kernel_rfl) (by simp) ?q4_r4
      refine AllReadyH.cons rfl (fun K hK => ?q4_b4) AllReadyH.nil
      rw [if_pos (by kernel_rfl)]
      go_simp
      go_at_call 8
      refine (S8.same_v _ _ _ _ _ _ _ _ _ _ true _ (HVs.out.below HBo1.out) HVo1.out ⟨fun _ => fun q _ => few_pts q, fun _ => rfl⟩).mono ?_
      rintro e we1 ⟨rfl, hb⟩
      have HBe1 : Hid (Below wc.heap.size wc we1) := Lib.hid (HBo1.out.trans (hb.mono HBo1.out.size))
      clear hb
      refine hK.out _ _ (HG.out _ HBe1.out) (fun hHeld4_4 => ?q4_c4)
      clear hK
      try simp only [Act.put, List.getElem_toArray, List.getElem_cons_succ, List.getElem_cons_zero, List.setIfInBounds_toArray, List.set_cons_zero, List.set_cons_succ]
      refine wpAnyH_take (i := 5) (v := ?q4_v5) rfl (by kernel_rfl) (by kernel_rfl) (by kernel_rfl) (fun _ _ _ h => h) (Or.inl ⟨by kernel_rfl, ?q4_y5⟩) (by assumption) ?q4_r5
      case q4_y5 =>
        intro w' hSw
        try dsimp only at hSw
        go_simp
        try with_reducible rfl
      try simp only [Act.put, List.getElem_toArray, List.getElem_cons_succ, List.getElem_cons_zero, List.setIfInBounds_toArray, List.set_cons_zero, List.set_cons_succ]
      refine wpAnyH_take (i := 6) (v := ?q4_v6) rfl (by kernel_rfl) (by kernel_rfl) (by kernel_rfl) (fun _ _ _ h => h) (Or.inl ⟨by kernel_rfl, ?q4_y6⟩) (by assumption) ?q4_r6
      case q4_y6 =>
        intro w' hSw
        try dsimp only at hSw
        go_simp
        try with_reducible rfl
      try simp only [Act.put, List.getElem_toArray, List.getElem_cons_succ, List.getElem_cons_zero, List.setIfInBounds_toArray, List.set_cons_zero, List.set_cons_succ]
      refine wpAnyH_take (i := 7) (v := ?q4_v7) rfl (by kernel_rfl) (by kernel_rfl) (by kernel_rfl) (fun _ _ _ h => h) (Or.inl ⟨by kernel_rfl, ?q4_y7⟩) (by assumption) ?q4_r7
      case q4_y7 =>
        intro w' hSw
        try dsimp only at hSw
        go_simp
        try with_reducible rfl
      try simp only [Act.put, List.getElem_toArray, List.getElem_cons_succ, List.getElem_cons_zero, List.setIfInBounds_toArray, List.set_cons_zero, List.set_cons_succ]
      refine wpAnyH_ready (rs := [8]) (by kernel_rfl) (by simp) ?q4_r8
      refine AllReadyH.cons rfl (fun K hK => ?q4_b8) AllReadyH.nil
      rw [if_pos (by kernel_rfl)]
      go_simp
      go_at_call 10
      refine (HPR2.out _).mono ?_
      rintro e wp2 ⟨rfl, hb⟩
      have HBp2 : Hid (Below wc.heap.size wc wp2) := Lib.hid (HBe1.out.trans (hb.mono HBe1.out.size))
      clear hb
      refine hK.out _ _ (HG.out _ HBp2.out) (fun hHeld4_8 => ?q4_c8)
      clear hK
      try simp only [Act.put, List.getElem_toArray, List.getElem_cons_succ, List.getElem_cons_zero, List.setIfInBounds_toArray, List.set_cons_zero, List.set_cons_succ]
      have HRp2 := Lib.hid (Row.new wp2 32 (S8.scell (3, 10)))
      have HBs2 : Hid (Below wc.heap.size wc (wp2.alloc (.cells #[.int .u8 3, .int .u8 10] 32))) := Lib.hid (HBp2.out.alloc HBp2.out.size _)
      refine wpAnyH_ready (rs := [9]) (by kernel_rfl) (by simp) ?q4_r9
      refine AllReadyH.cons rfl (fun K hK => ?q4_b9) AllReadyH.nil
      rw [if_pos (by kernel_rfl)]
      go_simp
      refine hK.out _ _ (HG.out _ HBs2.out) (fun hHeld4_9 => ?q4_c9)
      clear hK
      try simp only [Act.put, List.getElem_toArray, List.getElem_cons_succ, List.getElem_cons_zero, List.setIfInBounds_toArray, List.set_cons_zero, List.set_cons_succ]
      refine wpAnyH_ready (rs := [10]) (by kernel_rfl) (by simp) ?q4_r10
      refine AllReadyH.cons rfl (fun K hK => ?q4_b10) AllReadyH.nil
      rw [if_pos (by kernel_rfl)]
      go_simp
      go_at_call 9
      refine (S8.one_v wp2.heap.size 1 3 10 1 _ HRp2.out (by decide) (by decide) (by decide) (by decide)).mono ?_
      rintro e wo2 ⟨Ao2, no2, co2, rfl, hv, hb⟩
      have HVo2 := Lib.hid hv
      have HBo2 : Hid (Below wc.heap.size wc wo2) := Lib.hid (HBs2.out.trans (hb.mono HBs2.out.size))
      clear hv hb
      refine hK.out _ _ (HG.out _ HBo2.out) (fun hHeld4_10 => ?q4_c10)
      clear hK
      try simp only [Act.put, List.getElem_toArray, List.getElem_cons_succ, List.getElem_cons_zero, List.setIfInBounds_toArray, List.set_cons_zero, List.set_cons_succ]
      refine wpAnyH_ready (rs := [11]) (by kernel_rfl) (by simp) ?q4_r11
      refine AllReadyH.cons rfl (fun K hK => ?q4_b11) AllReadyH.nil
      rw [if_pos (by kernel_rfl)]
      go_simp
      go_at_call 8
      refine (S8.same_v _ _ _ _ _ _ _ _ _ _ false _ (HVs.out.below HBo2.out) HVo2.out ⟨fun h => (by cases h), fun h => absurd (h 10 (by decide)) (by decide)⟩).mono ?_
      rintro e we2 ⟨rfl, hb⟩
      have HBe2 : Hid (Below wc.heap.size wc we2) := Lib.hid (HBo2.out.trans (hb.mono HBo2.out.size))
      clear hb
      refine hK.out _ _ (HG.out _ HBe2.out) (fun hHeld4_11 => ?q4_c11)
      clear hK
      try simp only [Act.put, List.getElem_toArray, List.getElem_cons_succ, List.getElem_cons_zero, List.setIfInBounds_toArray, List.set_cons_zero, List.set_cons_succ]
      refine wpAnyH_take (i := 12) (v := ?q4_v12) rfl (by kernel_rfl) (by kernel_rfl) (by kernel_rfl) (fun _ _ _ h => h) (Or.inl ⟨by kernel_rfl, ?q4_y12⟩) (by assumption) ?q4_r12
      case q4_y12 =>
        intro w' hSw
        try dsimp only at hSw
        go_simp
        try with_reducible rfl
      try simp only [Act.put, List.getElem_toArray, List.getElem_cons_succ, List.getElem_cons_zero, List.setIfInBounds_toArray, List.set_cons_zero, List.set_cons_succ]
      refine wpAnyH_done (by kernel_rfl) ?_ _
      go_wp2_with fail
      go_meet
      case rel => exact ⟨rfl, HBe2⟩
    case rest =>
    as_aux_lemma =>
    obtain ⟨rfl, HBx⟩ := hcut
    have HB0 : Hid (Below w.heap.size w wc) := Lib.hid (HBw.out.trans (HBx.out.mono HBw.out.size))
    obtain ⟨p8, hp8⟩ : ∃ q, q = p % 256 := ⟨_, rfl⟩
    obtain ⟨p16, hp16⟩ : ∃ q, q = p % 65536 := ⟨_, rfl⟩
    have e8 : IntKind.u8.wrap (p : Int) = (p8 : Int) := by rw [IntKind.wrap_u8]; omega
    have e16 : IntKind.u16.wrap (p : Int) = (p16 : Int) := by rw [IntKind.wrap_u16]; omega
    have HP : Hid (p8 ≤ 255 ∧ p16 ≤ 65535 ∧ p ≤ 18446744073709551615) := Lib.hid ⟨by omega, by omega, hp⟩
    have HI : Hid (∀ wx, Below w.heap.size w wx → IsU wx wx.heap.size A1 n1 us1 ∧ IsU wx wx.heap.size A2 n2 us2 ∧ IsU wx wx.heap.size A3 n3 us3) := Lib.hid (fun wx hb => ⟨(H1.out.below hb).more hb.size, (H2.out.below hb).more hb.size, (H3.out.below hb).more hb.size⟩)
    clear HBx HBw HRs HVs hp hp8 hp16
    go_wp2_with (first
      | (go_at_call 11; refine (S8.laws_any A1 A2 A3 n1 c1 n2 c2 n3 c3 p8 us1 us2 us3 _ (HI.out _ HB0.out).1 (HI.out _ HB0.out).2.1 (HI.out _ HB0.out).2.2 HP.out.1 HK.out.1 HK.out.2.1 HK.out.2.2).mono ?_; rintro e x1 ⟨rfl, hb⟩; have HB1 : Hid (Below w.heap.size w x1) := Lib.hid (HB0.out.trans (hb.mono HB0.out.size)); clear hb)
      | (go_at_call 12; refine (S16.laws_any A1 A2 A3 n1 c1 n2 c2 n3 c3 p16 us1 us2 us3 _ (HI.out _ HB1.out).1 (HI.out _ HB1.out).2.1 (HI.out _ HB1.out).2.2 HP.out.2.1 HK.out.1 HK.out.2.1 HK.out.2.2).mono ?_; rintro e x2 ⟨rfl, hb⟩; have HB2 : Hid (Below w.heap.size w x2) := Lib.hid (HB1.out.trans (hb.mono HB1.out.size)); clear hb)
      | (go_at_call 13; refine (S64.laws_any A1 A2 A3 n1 c1 n2 c2 n3 c3 p us1 us2 us3 _ (HI.out _ HB2.out).1 (HI.out _ HB2.out).2.1 (HI.out _ HB2.out).2.2 HP.out.2.2 HK.out.1 HK.out.2.1 HK.out.2.2).mono ?_; rintro e x3 ⟨rfl, hb⟩; have HB3 : Hid (Below w.heap.size w x3) := Lib.hid (HB2.out.trans (hb.mono HB2.out.size)); clear hb)
      | (go_at_call 14; refine (ST.laws_any A1 A2 A3 n1 c1 n2 c2 n3 c3 p8 us1 us2 us3 _ (HI.out _ HB3.out).1 (HI.out _ HB3.out).2.1 (HI.out _ HB3.out).2.2 HP.out.1 HK.out.1 HK.out.2.1 HK.out.2.2).mono ?_; rintro e x4 ⟨rfl, hb⟩; have HB4 : Hid (Below w.heap.size w x4) := Lib.hid (HB3.out.trans (hb.mono HB3.out.size)); clear hb))
    go_ret
    exact ⟨rfl, HB4.out⟩
end Go.Proofs.YtchajbegjajlkaaGreat

/- Arguments that are structs by value or slices of structs, opened (the guide's page extra-structs, turned to this seat). -/
set_option linter.unusedVariables false
set_option linter.unusedSimpArgs false
namespace Go.Proofs.YtchajbegjajlkaaGreat
open Go.Joins Go.ChangeShapes Go.WideShapes Go.RowKit Go.Deep
section
variable {H : Type} {enc : TypeId × Value → H} {P : Program} {w : World} {base : Nat} {spare : Nat → Bool} {held : Bool}
theorem open_slice_fields {t e : TypeId} {fs : Array Field} {fuel : Nat} {cs : List Value} {x : DataW H × List MemPlace} (ht : P.underlying t = some (.slice e)) (he : P.underlying e = some (.struct fs))
    (hone : oneCellFields P fs = true) (hC : P.cellsOf e = fs.size) (h : DataW.trod enc P w base spare held fuel t cs = some x) :
    (cs = [.slice none 0 0] ∧ x = (.nil, [])) ∨
    ∃ (a : Addr) (len cap m : Nat) (D : Nat → DataW H) (Pl : Nat → List MemPlace), cs = [.slice (some a) len cap] ∧ base ≤ a.block ∧ len ≤ cap ∧ cap ≤ maxLen ∧ m = (if spare a.block then cap else len) ∧
      x = (.slice ((List.range len).map D) ((List.range (m - len)).map fun j => D (len + j)), MemPlace.row a (m * fs.size) ++ (List.range m).flatMap Pl) ∧
      ∀ i, i < m → ∃ (ys : List (DataW H × List MemPlace)) (n : Nat), D i = .agg (ys.map (·.1)) ∧ Pl i = ys.flatMap (·.2) ∧ ys.length = fs.size ∧
        ∀ (j : Nat) (f : Field), fs[j]? = some f → ∃ (v : Value) (y : DataW H × List MemPlace), w.cell? (a.add (i * fs.size + j)) = some v ∧ ys[j]? = some y ∧ DataW.trod enc P w base spare held n f.type [v] = some y := by
  rcases open_slice ht h with h0 | ⟨a, len, cap, m, n, D, Pl, hcs, hb, hl, hm, hmm, hx, hi⟩
  · exact .inl h0
  · refine .inr ⟨a, len, cap, m, D, Pl, hcs, hb, hl, hm, hmm, by rw [hC] at hx; exact hx, fun i him => ?_⟩
    obtain ⟨cs', hc, ht'⟩ := hi i him
    rw [hC] at hc
    obtain ⟨ys, n', hn', hy, hlen, hyl, hf⟩ := DataW.trod_struct he ht'
    obtain ⟨_, hcl, hat⟩ := World.cells?_some hc
    simp only [Prod.mk.injEq] at hy
    refine ⟨ys, n', hy.1, hy.2, hyl, fun j f hj => ?_⟩
    obtain ⟨ho, hk⟩ := hone_of hone j f hj
    have hjl : j < fs.size := (Array.getElem?_eq_some_iff.1 hj).1
    have hcell := hat j hjl
    have hv : cs'[j]? = some (cs'[j]'(by omega)) := List.getElem?_eq_getElem (by omega)
    have h1 := hf j f hj
    rw [ho, hk] at h1
    have hone' : (cs'.drop j).take 1 = [cs'[j]'(by omega)] := by
      rw [List.drop_eq_getElem_cons (by omega)]
      rfl
    rw [hone'] at h1
    have hys : ys[j]? = some (ys[j]'(by omega)) := List.getElem?_eq_getElem (by omega)
    refine ⟨_, _, ?_, hys, h1.trans hys⟩
    rw [← Go.Deep.add_add, hcell, hv]
end

section
variable {H : Type} {enc : TypeId × Value → H} {P : Program} {w : World} {base : Nat} {spare : Nat → Bool} {held : Bool}
theorem open_agg5 {r : Reach} {b0 : Nat} {t : TypeId} {f0 f1 f2 f3 f4 : Field} {v : Value} {d : DataW H} {p : List MemPlace} (hs : P.underlying t = some (.struct #[f0, f1, f2, f3, f4])) (hone : oneCellFields P #[f0, f1, f2, f3, f4] = true) (hC : P.cellsOf t = 5)
    (hv : Value.okWide P w r b0 t v) (h : DataW.Trod enc P w base spare held t v d p) :
    ∃ (v0 v1 v2 v3 v4 : Value) (y0 y1 y2 y3 y4 : DataW H × List MemPlace) (n : Nat), v = .agg #[v0, v1, v2, v3, v4] ∧ d = .agg [y0.1, y1.1, y2.1, y3.1, y4.1] ∧ p = y0.2 ++ (y1.2 ++ (y2.2 ++ (y3.2 ++ y4.2))) ∧
      DataW.trod enc P w base spare held n f0.type [v0] = some y0 ∧ DataW.trod enc P w base spare held n f1.type [v1] = some y1 ∧ DataW.trod enc P w base spare held n f2.type [v2] = some y2 ∧ DataW.trod enc P w base spare held n f3.type [v3] = some y3 ∧ DataW.trod enc P w base spare held n f4.type [v4] = some y4 := by
  obtain ⟨cs, rfl, hsz⟩ := okWide_struct hs hv
  obtain ⟨l⟩ := cs
  match l, hsz.trans hC with
  | [c0, c1, c2, c3, c4], _ =>
    obtain ⟨fuel, hf⟩ := h
    obtain ⟨xs, n, _, hx, _, hlen, hg⟩ := DataW.trod_struct hs hf
    obtain ⟨o0, k0⟩ := hone_of hone 0 f0 rfl
    obtain ⟨o1, k1⟩ := hone_of hone 1 f1 rfl
    obtain ⟨o2, k2⟩ := hone_of hone 2 f2 rfl
    obtain ⟨o3, k3⟩ := hone_of hone 3 f3 rfl
    obtain ⟨o4, k4⟩ := hone_of hone 4 f4 rfl
    match xs, hlen with
    | [y0, y1, y2, y3, y4], _ =>
      simp only [Prod.mk.injEq] at hx
      exact ⟨c0, c1, c2, c3, c4, y0, y1, y2, y3, y4, n, rfl, by simpa using hx.1, by simpa using hx.2, by simpa [Value.cells, o0, k0] using hg 0 f0 rfl, by simpa [Value.cells, o1, k1] using hg 1 f1 rfl, by simpa [Value.cells, o2, k2] using hg 2 f2 rfl, by simpa [Value.cells, o3, k3] using hg 3 f3 rfl, by simpa [Value.cells, o4, k4] using hg 4 f4 rfl⟩

theorem open_agg6 {r : Reach} {b0 : Nat} {t : TypeId} {f0 f1 f2 f3 f4 f5 : Field} {v : Value} {d : DataW H} {p : List MemPlace} (hs : P.underlying t = some (.struct #[f0, f1, f2, f3, f4, f5])) (hone : oneCellFields P #[f0, f1, f2, f3, f4, f5] = true) (hC : P.cellsOf t = 6)
    (hv : Value.okWide P w r b0 t v) (h : DataW.Trod enc P w base spare held t v d p) :
    ∃ (v0 v1 v2 v3 v4 v5 : Value) (y0 y1 y2 y3 y4 y5 : DataW H × List MemPlace) (n : Nat), v = .agg #[v0, v1, v2, v3, v4, v5] ∧ d = .agg [y0.1, y1.1, y2.1, y3.1, y4.1, y5.1] ∧ p = y0.2 ++ (y1.2 ++ (y2.2 ++ (y3.2 ++ (y4.2 ++ y5.2)))) ∧
      DataW.trod enc P w base spare held n f0.type [v0] = some y0 ∧ DataW.trod enc P w base spare held n f1.type [v1] = some y1 ∧ DataW.trod enc P w base spare held n f2.type [v2] = some y2 ∧ DataW.trod enc P w base spare held n f3.type [v3] = some y3 ∧ DataW.trod enc P w base spare held n f4.type [v4] = some y4 ∧ DataW.trod enc P w base spare held n f5.type [v5] = some y5 := by
  obtain ⟨cs, rfl, hsz⟩ := okWide_struct hs hv
  obtain ⟨l⟩ := cs
  match l, hsz.trans hC with
  | [c0, c1, c2, c3, c4, c5], _ =>
    obtain ⟨fuel, hf⟩ := h
    obtain ⟨xs, n, _, hx, _, hlen, hg⟩ := DataW.trod_struct hs hf
    obtain ⟨o0, k0⟩ := hone_of hone 0 f0 rfl
    obtain ⟨o1, k1⟩ := hone_of hone 1 f1 rfl
    obtain ⟨o2, k2⟩ := hone_of hone 2 f2 rfl
    obtain ⟨o3, k3⟩ := hone_of hone 3 f3 rfl
    obtain ⟨o4, k4⟩ := hone_of hone 4 f4 rfl
    obtain ⟨o5, k5⟩ := hone_of hone 5 f5 rfl
    match xs, hlen with
    | [y0, y1, y2, y3, y4, y5], _ =>
      simp only [Prod.mk.injEq] at hx
      exact ⟨c0, c1, c2, c3, c4, c5, y0, y1, y2, y3, y4, y5, n, rfl, by simpa using hx.1, by simpa using hx.2, by simpa [Value.cells, o0, k0] using hg 0 f0 rfl, by simpa [Value.cells, o1, k1] using hg 1 f1 rfl, by simpa [Value.cells, o2, k2] using hg 2 f2 rfl, by simpa [Value.cells, o3, k3] using hg 3 f3 rfl, by simpa [Value.cells, o4, k4] using hg 4 f4 rfl, by simpa [Value.cells, o5, k5] using hg 5 f5 rfl⟩
end

end Go.Proofs.YtchajbegjajlkaaGreat

/- An argument that is a slice of bytes: opened to its bytes. -/
set_option linter.unusedVariables false
set_option linter.unusedSimpArgs false
namespace Go.Proofs.YtchajbegjajlkaaGreat
open Go.Joins Go.ChangeShapes Go.WideShapes Go.RowKit Go.Deep
theorem list_of {α : Type} {P : Nat → α → Prop} : ∀ n, (∀ i, i < n → ∃ x, P i x) → ∃ l : List α, l.length = n ∧ ∀ (i : Nat) (x : α), l[i]? = some x → P i x
  | 0, _ => ⟨[], rfl, fun i x h => by simp at h⟩
  | n + 1, h => by
    obtain ⟨l, hl, hp⟩ := list_of n (fun i hi => h i (by omega))
    obtain ⟨x, hx⟩ := h n (by omega)
    refine ⟨l ++ [x], by simp [hl], fun i y hy => ?_⟩
    by_cases hi : i < l.length
    · rw [List.getElem?_append_left hi] at hy
      exact hp i y hy
    · have hlt := (List.getElem?_eq_some_iff.1 hy).1
      simp at hlt
      have : i = n := by omega
      subst this
      rw [List.getElem?_append_right (by omega)] at hy
      simp [hl] at hy
      subst hy
      exact hx
section
variable {H : Type} {enc : TypeId × Value → H} {w : World} {base : Nat} {spare : Nat → Bool} {held : Bool}
end
end Go.Proofs.YtchajbegjajlkaaGreat

/- An argument that is a slice of uint64: opened to its numbers. -/
set_option linter.unusedVariables false
set_option linter.unusedSimpArgs false
namespace Go.Proofs.YtchajbegjajlkaaGreat
open Go.Joins Go.ChangeShapes Go.WideShapes Go.RowKit Go.Deep
section
variable {H : Type} {enc : TypeId × Value → H} {w : World} {base : Nat} {spare : Nat → Bool} {held : Bool}
theorem open_u64s {fuel : Nat} {A : Option Addr} {len cap : Nat} {y : DataW H × List MemPlace} (h : DataW.trod enc Tryz.prog w base spare held fuel 22 [.slice A len cap] = some y) : ∃ us, IsU w w.heap.size A len us ∧ len ≤ cap := by
  rcases open_slice Tryz.underlying22 h with ⟨h0, _⟩ | ⟨a, len', cap', m, n', D, Pl, hcs, hb, hl, hm, hmm, hx, hi⟩
  · simp at h0
    obtain ⟨rfl, rfl, rfl⟩ := h0
    exact ⟨[], ⟨Reads.none_, rfl, by omega, by simp⟩, Nat.le_refl _⟩
  · simp at hcs
    obtain ⟨rfl, rfl, rfl⟩ := hcs
    have hle : len ≤ m := by rw [hmm]; split <;> omega
    have hc1 : Tryz.prog.cellsOf 23 = 1 := by kernel_rfl
    obtain ⟨us, hbl, hbs⟩ := list_of (P := fun i u => w.cell? (a.add i) = some (.int .u64 (u : Nat)) ∧ u < 18446744073709551616) len (fun i hil => by
      obtain ⟨cs', h1, h2⟩ := hi i (by omega)
      rw [hc1, Nat.mul_one] at h1
      obtain ⟨z, rfl, _, hw⟩ := DataW.trod_int (k := .u64) Tryz.underlying23 h2
      obtain ⟨_, _, hat⟩ := World.cells?_some h1
      obtain ⟨s, rfl, hs⟩ : ∃ s : Nat, z = s ∧ s < 18446744073709551616 := by have := bounds_u64 hw; exact ⟨z.toNat, by omega, by omega⟩
      have := hat 0 (by omega)
      rw [add_of_add, Nat.add_zero] at this
      exact ⟨s, by rw [this]; rfl, hs⟩)
    refine ⟨us, ⟨⟨by simp [hbl], fun h0 => ⟨a, rfl, ?_, fun j u hu => ?_⟩⟩, hbl, by unfold maxLen at hm; omega, fun b hb' => ?_⟩, hl⟩
    · have h2 := (hbs 0 _ (List.getElem?_eq_getElem (by omega))).1
      have := World.block_lt_of_cell? w _ h2
      rwa [block_of_add] at this
    · rw [List.getElem?_map] at hu
      obtain ⟨b, hb1, rfl⟩ := Option.map_eq_some_iff.1 hu
      exact (hbs j b hb1).1
    · obtain ⟨i, hi1, rfl⟩ := List.mem_iff_getElem.1 hb'
      have := (hbs i _ (List.getElem?_eq_getElem hi1)).2; omega
end
end Go.Proofs.YtchajbegjajlkaaGreat
