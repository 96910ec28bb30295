/- Texts of this claim, one behind the other: WkL. -/
import Derived.Test.YtfpofaniicegaaaJWalkLeaves28
/- The walk of the law WalkBytes: the calls. -/
set_option linter.unusedVariables false
set_option linter.unusedSimpArgs false
namespace Go.Proofs.Ytfpofaniicegaaa
open Go.RowKit
open S64
namespace Bu
set_option maxRecDepth 100000 in
set_option maxHeartbeats 2000000 in
theorem bytes_walk (A1 A2 Aw : Option Addr) (n1 n2 nw c1 c2 cw : Nat) (rams devs ws : Sp.S) (root virt value : Nat) (nn : Int) (w : World) (h1 : IsS w w.heap.size A1 n1 rams) (h2 : IsS w w.heap.size A2 n2 devs) (hw : IsS w w.heap.size Aw nw ws) (ht : ∀ x ∈ rams ++ devs, x.1 ≤ TOP ∧ x.2 ≤ TOP) (htw : ∀ x ∈ ws, x.1 ≤ TOP ∧ x.2 ≤ TOP) (hr : root ≤ TOP) (hv : virt ≤ TOP) (hvv : value ≤ TOP) (hnn : -9223372036854775808 ≤ nn ∧ nn ≤ 9223372036854775807) :
    Calls Try.prog 5 #[.agg #[.slice A1 n1 c1, .slice A2 n2 c2], .slice Aw nw cw, .int .u64 (root : Nat), .int .u64 (virt : Nat), .int .i64 nn, .int .u64 (value : Nat)] w fun e w' => e = .returned (.bool true) ∧ Below w.heap.size w w' := by
  have H1 := Lib.hid h1; have H2 := Lib.hid h2; have HW := Lib.hid hw; have HT := Lib.hid ht; have HTW := Lib.hid htw
  have HRT := Lib.hid hr; have HVT := Lib.hid hv; have HVV := Lib.hid hvv; have HNN := Lib.hid hnn
  have hv64 : virt ≤ 18446744073709551615 := hv
  have hvv64 : value ≤ 18446744073709551615 := hvv
  obtain ⟨i0, hi, hz1, hz2, hz3⟩ := info_parts infoU64
  have HI0 := Lib.hid hi; have HZ1 := Lib.hid hz1; have HZ2 := Lib.hid hz2; have HZ3 := Lib.hid hz3
  clear h1 h2 hw ht htw hr hv hvv hnn hi hz1 hz2 hz3
  go_enter Try.func5, Try.ntmps5
  go_upto_region 1 with fail
  have r0 := Row.new w 37 [.slice A1 n1 c1, .slice A2 n2 c2]
  have hb0 : Below w.heap.size w (w.alloc (.cells #[.slice A1 n1 c1, .slice A2 n2 c2] 37)) := (Below.refl _ _).alloc (Nat.le_refl _) _
  obtain ⟨c6, hc⟩ : ∃ c, c = w.heap.size := ⟨_, rfl⟩
  generalize w.alloc (.cells #[.slice A1 n1 c1, .slice A2 n2 c2] 37) = w1 at *
  rw [← hc] at r0 ⊢
  have HB1 := Lib.hid hb0; have HR1 := Lib.hid r0
  clear r0 hb0 hc
  go_wp2_with fail
  refine (awake_any w1).mono ?_
  rintro e w2 ⟨rfl, hb2⟩
  have HB2 := Lib.hid (HB1.out.trans (hb2.mono HB1.out.size))
  have HR2 := Lib.hid (HR1.out.below hb2 HR1.out.lt)
  clear hb2 HR1 HB1
  have p0 := HR2.out.cell 0
  have p1 := HR2.out.cell 1
  have lp := HR2.out.lt
  simp only [List.getElem?_cons_zero, List.getElem?_cons_succ] at p0 p1
  have HSM := Lib.hid (small_any A1 A2 n1 n2 c1 c2 rams devs w2 ((H1.out.below HB2.out).more HB2.out.size) ((H2.out.below HB2.out).more HB2.out.size) HT.out)
  go_wp2_with fail
  refine HSM.out.mono ?_
  rintro e w3 ⟨rfl, hb3⟩
  have HB3 := Lib.hid (HB2.out.trans (hb3.mono HB2.out.size))
  have HR3 := Lib.hid (HR2.out.below hb3 HR2.out.lt)
  clear hb3 HR2 HB2 p0 p1 lp HSM
  cases hsb : smallB rams devs with
  | false =>
    go_wp2_with fail
    go_ret
    exact ⟨rfl, HB3.out⟩
  | true =>
    have hs2 : newE rams devs = 0 ∧ sumS (rams ++ devs) ≤ 500000 := by
      unfold smallB at hsb
      simp only [Bool.and_eq_true, decide_eq_true_eq] at hsb
      exact hsb
    have HNE := Lib.hid hs2.1; have HSUM := Lib.hid hs2.2
    have HOK := Lib.hid (okay_of hs2.1)
    clear hsb hs2
    have p0 := HR3.out.cell 0
    have p1 := HR3.out.cell 1
    have lp := HR3.out.lt
    simp only [List.getElem?_cons_zero, List.getElem?_cons_succ] at p0 p1
    have HGR := Lib.hid (grounds_any A1 A2 Aw n1 n2 nw c1 c2 cw rams devs ws w3 ((H1.out.below HB3.out).more HB3.out.size) ((H2.out.below HB3.out).more HB3.out.size) ((HW.out.below HB3.out).more HB3.out.size) HT.out HTW.out)
    go_wp2_with fail
    refine HGR.out.mono ?_
    rintro e w4 ⟨hb4, hg⟩
    obtain ⟨g, gv, Z, R, Zv, rfl, htwo⟩ : ∃ g gv Z R Zv, e = .returned (.tuple #[.pointer (some ⟨g, 0, none⟩), .pointer (some ⟨gv, 0, none⟩)]) ∧ Two w3.heap.size Z R Zv w4 g gv (wordsM ⟨rams, devs, fun _ => 0, 0, 0, 0⟩ ws) (wordsM ⟨rams, devs, fun _ => 0, 0, 0, 0⟩ ws) := by
      rcases hg with hg | hg
      · exact absurd HNE.out hg.1
      · exact hg.2
    obtain ⟨M, hM⟩ : ∃ M, M = wordsM ⟨rams, devs, fun _ => 0, 0, 0, 0⟩ ws := ⟨_, rfl⟩
    have HMR : Hid (M.rams = rams ∧ M.devs = devs) := Lib.hid (by rw [hM]; exact wordsM_bus _ _)
    rw [← hM] at htwo
    have HB4 := Lib.hid (HB3.out.trans (hb4.mono HB3.out.size))
    have HR4 := Lib.hid (HR3.out.below hb4 HR3.out.lt)
    have HM4 : Hid (MZ Z R w4 g (cM M M.strays M.loads)) := Lib.hid htwo.m
    have HZB : Hid (∀ k, Z k ∨ R k → w3.heap.size ≤ k) := Lib.hid htwo.zl
    have HCL : Hid (c6 < w3.heap.size) := Lib.hid lp
    clear hb4 hg htwo hM HGR p0 p1 lp HR3 HTW HW
    have HWN : Hid (∀ wx, Calls Try.prog 15 #[.int .i64 nn, .int .i64 0, .int .i64 3] wx fun e w' => (∃ x : Nat, e = .returned (.int .i64 x) ∧ x ≤ 3) ∧ wx = w') := Lib.hid (fun wx => within_any nn 3 wx HNN.out (by omega))
    go_wp2_with fail
    refine (HWN.out _).mono ?_
    rintro e w' ⟨⟨x, rfl, hx⟩, rfl⟩
    have hr8 := Row.new w4 3 [.int .i64 1, .int .i64 2, .int .i64 4, .int .i64 8]
    have hb8 : Below w4.heap.size w4 (w4.alloc (.cells #[.int .i64 1, .int .i64 2, .int .i64 4, .int .i64 8] 3)) := (Below.refl _ _).alloc (Nat.le_refl _) _
    have HX : Hid (∃ k : Nat, (k = 1 ∨ k = 2 ∨ k = 4 ∨ k = 8) ∧ [Value.int .i64 1, .int .i64 2, .int .i64 4, .int .i64 8][x]? = some (.int .i64 (k : Nat))) := Lib.hid (by
      match x, hx with
      | 0, _ => exact ⟨1, .inl rfl, rfl⟩
      | 1, _ => exact ⟨2, .inr (.inl rfl), rfl⟩
      | 2, _ => exact ⟨4, .inr (.inr (.inl rfl)), rfl⟩
      | 3, _ => exact ⟨8, .inr (.inr (.inr rfl)), rfl⟩)
    obtain ⟨k, hk, hkx⟩ := HX.out
    have c0 := hr8.cell x
    rw [hkx] at c0
    have lr := hr8.lt
    have HK := Lib.hid hk
    have hk8 : k ≤ 8 := by omega
    have HM5 := Lib.hid (HM4.out.below hb8)
    have HB5 := Lib.hid (HB4.out.alloc HB4.out.size (.cells #[.int .i64 1, .int .i64 2, .int .i64 4, .int .i64 8] 3))
    have HR5 := Lib.hid (HR4.out.below hb8 HR4.out.lt)
    have HS5 : Hid (w3.heap.size ≤ w4.heap.size) := Lib.hid (by have := HM4.out.z; have h := HZB.out; have := HM4.out.lt; exact Nat.le_of_lt (Nat.lt_of_le_of_lt (HZB.out g (.inl (MZ.zg HM4.out))) HM4.out.lt))
    clear hr8 hb8 hk hkx HX HM4 HB4 HR4 HWN HNN
    generalize w4.alloc (.cells #[.int .i64 1, .int .i64 2, .int .i64 4, .int .i64 8] 3) = w5 at *
    have HS1 : Hid (∀ (wx : World) (s ld : Int), MZ Z R wx g (cM M s ld) → Calls Try.prog 16 #[.pointer (some ⟨g, 0, none⟩), .int .u64 (root : Nat), .int .u64 (virt : Nat), .int .i64 (k : Nat), .int .i64 1] wx fun e w' => e = .returned (.tuple #[.int .u64 (accV M root virt 1 k : Nat), .agg #[.int .i64 ((accF M root virt 1 k).1 : Nat), .int .u64 (accA M root virt 1 k : Nat)]]) ∧ ∃ s ld, MZ Z R w' g (cM M s ld) ∧ ChgP Z wx w') := Lib.hid (fun wx s ld h => split_k g root virt k 1 HK.out h HRT.out HVT.out)
    have HL1 : Hid (∀ (wx : World) (s ld : Int), MZ Z R wx g (cM M s ld) → Calls Try.prog 17 #[.iface 41 (.pointer (some ⟨g, 0, none⟩)), .int .u64 (root : Nat), .int .u64 (virt : Nat), .int .i64 (k : Nat)] wx fun e w' => e = .returned (.tuple #[.int .u64 (accV M root virt 1 k : Nat), .agg #[.int .i64 ((accF M root virt 1 k).1 : Nat), .int .u64 (accA M root virt 1 k : Nat)]]) ∧ ∃ s ld, MZ Z R w' g (cM M s ld) ∧ ChgP Z wx w') := Lib.hid (fun wx s ld h => load_k g root virt k HK.out h HRT.out HVT.out)
    have HS3 : Hid (∀ (wx : World) (s ld : Int), MZ Z R wx g (cM M s ld) → Calls Try.prog 16 #[.pointer (some ⟨g, 0, none⟩), .int .u64 (root : Nat), .int .u64 (virt : Nat), .int .i64 (k : Nat), .int .i64 3] wx fun e w' => e = .returned (.tuple #[.int .u64 (accV M root virt 3 k : Nat), .agg #[.int .i64 ((accF M root virt 3 k).1 : Nat), .int .u64 (accA M root virt 3 k : Nat)]]) ∧ ∃ s ld, MZ Z R w' g (cM M s ld) ∧ ChgP Z wx w') := Lib.hid (fun wx s ld h => split_k g root virt k 3 HK.out h HRT.out HVT.out)
    have HF3 : Hid (∀ (wx : World) (s ld : Int), MZ Z R wx g (cM M s ld) → Calls Try.prog 18 #[.iface 41 (.pointer (some ⟨g, 0, none⟩)), .int .u64 (root : Nat), .int .u64 (virt : Nat), .int .i64 (k : Nat)] wx fun e w' => e = .returned (.tuple #[.int .u64 (accV M root virt 3 k : Nat), .agg #[.int .i64 ((accF M root virt 3 k).1 : Nat), .int .u64 (accA M root virt 3 k : Nat)]]) ∧ ∃ s ld, MZ Z R w' g (cM M s ld) ∧ ChgP Z wx w') := Lib.hid (fun wx s ld h => fetch_k g root virt k HK.out h HRT.out HVT.out)
    have HS2 : Hid (∀ (wx : World) (s ld : Int), MZ Z R wx g (cM M s ld) → Calls Try.prog 16 #[.pointer (some ⟨g, 0, none⟩), .int .u64 (root : Nat), .int .u64 (virt : Nat), .int .i64 (k : Nat), .int .i64 2] wx fun e w' => e = .returned (.tuple #[.int .u64 (accV M root virt 2 k : Nat), .agg #[.int .i64 ((accF M root virt 2 k).1 : Nat), .int .u64 (accA M root virt 2 k : Nat)]]) ∧ ∃ s ld, MZ Z R w' g (cM M s ld) ∧ ChgP Z wx w') := Lib.hid (fun wx s ld h => split_k g root virt k 2 HK.out h HRT.out HVT.out)
    have HST : Hid (∀ (wx : World) (s ld : Int), MZ Z R wx g (cM M s ld) → Calls Try.prog 21 #[.iface 41 (.pointer (some ⟨g, 0, none⟩)), .int .u64 (root : Nat), .int .u64 (virt : Nat), .int .i64 (k : Nat), .int .u64 (value : Nat)] wx fun e w' => e = .returned (.agg #[.int .i64 ((accF M root virt 2 k).1 : Nat), .int .u64 (accA M root virt 2 k : Nat)]) ∧ ∃ M' Z', MZ Z' R w' g M' ∧ M'.rams = M.rams ∧ M'.devs = M.devs ∧ M'.mem = memN M.mem (fun j => (atL M root virt 2 k).getD j 0) value (if (accF M root virt 2 k).1 = 0 then k else 0) ∧ ChgP Z wx w' ∧ ∀ x, Z' x → Z x ∨ wx.heap.size ≤ x) := Lib.hid (fun wx s ld h => wstore_k g root virt value k HK.out h HRT.out HVT.out HVV.out)
    have HF2 : Hid ((accF M root virt 2 k).1 = 0 → ∀ i, i < k → (trI M root (virt + i) 2).2 = 0) := Lib.hid (fun h i hi => (accF_on h i hi).1)
    obtain ⟨V1, hV1⟩ : ∃ V, V = accV M root virt 1 k := ⟨_, rfl⟩
    obtain ⟨F1, hF1⟩ : ∃ V, V = (accF M root virt 1 k).1 := ⟨_, rfl⟩
    obtain ⟨D1, hD1⟩ : ∃ V, V = accA M root virt 1 k := ⟨_, rfl⟩
    obtain ⟨V3, hV3⟩ : ∃ V, V = accV M root virt 3 k := ⟨_, rfl⟩
    obtain ⟨F3, hF3⟩ : ∃ V, V = (accF M root virt 3 k).1 := ⟨_, rfl⟩
    obtain ⟨D3, hD3⟩ : ∃ V, V = accA M root virt 3 k := ⟨_, rfl⟩
    obtain ⟨V2, hV2⟩ : ∃ V, V = accV M root virt 2 k := ⟨_, rfl⟩
    obtain ⟨F2, hF2⟩ : ∃ V, V = (accF M root virt 2 k).1 := ⟨_, rfl⟩
    obtain ⟨D2, hD2⟩ : ∃ V, V = accA M root virt 2 k := ⟨_, rfl⟩
    rw [← hV1, ← hF1, ← hD1] at HS1 HL1
    rw [← hV3, ← hF3, ← hD3] at HS3 HF3
    rw [← hV2, ← hF2, ← hD2] at HS2
    rw [← hF2, ← hD2] at HST
    rw [← hF2] at HF2
    clear hV1 hF1 hD1 hV3 hF3 hD3 hV2 hF2 hD2
    go_upto_region 9 with fail
    go_upto_region 10 with (go_at_call 16; refine (HS1.out w5 _ _ HM5.out).mono ?_; rintro e w6 ⟨rfl, s6, ld6, hm6, hc6⟩; have HM6 := Lib.hid hm6; have HC6 := Lib.hid hc6; clear hm6 hc6)
    have HB6 := Lib.hid (HB5.out.trans (HC6.out.below HB5.out.size (fun x hx => Nat.le_trans HB3.out.size (HZB.out x (.inl hx)))))
    have HR6 := Lib.hid (HC6.out.row HR5.out (fun h => by have := HZB.out _ (.inl h); have := HCL.out; omega))
    have hr17 := Row.new w6 48 [.int .i64 (F1 : Nat), .int .u64 (D1 : Nat)]
    have hb7 : Below w6.heap.size w6 (w6.alloc (.cells #[.int .i64 (F1 : Nat), .int .u64 (D1 : Nat)] 48)) := (Below.refl _ _).alloc (Nat.le_refl _) _
    have HN17 : Hid (¬ Z w6.heap.size ∧ ¬ R w6.heap.size) := Lib.hid ⟨fun h => Nat.lt_irrefl _ (HM6.out.z _ h), fun h => Nat.lt_irrefl _ (HM6.out.r _ h)⟩
    have HM7 := Lib.hid (HM6.out.below hb7)
    have HB7 := Lib.hid (HB6.out.alloc HB6.out.size (.cells #[.int .i64 (F1 : Nat), .int .u64 (D1 : Nat)] 48))
    have HR7 := Lib.hid (HR6.out.below hb7 HR6.out.lt)
    have HW17 : Hid (w.heap.size ≤ w6.heap.size) := Lib.hid HB6.out.size
    have HW317 : Hid (w3.heap.size ≤ w6.heap.size) := Lib.hid (Nat.le_trans (HZB.out g (.inl HM6.out.zg)) (Nat.le_of_lt HM6.out.lt))
    obtain ⟨c17, hc17⟩ : ∃ c, c = w6.heap.size := ⟨_, rfl⟩
    generalize w6.alloc (.cells #[.int .i64 (F1 : Nat), .int .u64 (D1 : Nat)] 48) = w7 at *
    rw [← hc17] at hr17 HN17 HW17 HW317 ⊢
    have H17 := Lib.hid hr17
    clear hr17 hb7 hc17 HM6 HC6 HB6 HR6 HM5 HB5 HR5 HS1 c0 lr hx
    go_upto_region 11 with (go_at_call 17; refine (HL1.out w7 _ _ HM7.out).mono ?_; rintro e w8 ⟨rfl, s8, ld8, hm8, hc8⟩; have HM8 := Lib.hid hm8; have HC8 := Lib.hid hc8; clear hm8 hc8)
    have HB8 := Lib.hid (HB7.out.trans (HC8.out.below HB7.out.size (fun x hx => Nat.le_trans HB3.out.size (HZB.out x (.inl hx)))))
    have HR8 := Lib.hid (HC8.out.row HR7.out (fun h => by have := HZB.out _ (.inl h); have := HCL.out; omega))
    have H178 := Lib.hid (HC8.out.row H17.out HN17.out.1)
    have hr19 := Row.new w8 48 [.int .i64 (F1 : Nat), .int .u64 (D1 : Nat)]
    have hb9 : Below w8.heap.size w8 (w8.alloc (.cells #[.int .i64 (F1 : Nat), .int .u64 (D1 : Nat)] 48)) := (Below.refl _ _).alloc (Nat.le_refl _) _
    have HN19 : Hid (¬ Z w8.heap.size ∧ ¬ R w8.heap.size) := Lib.hid ⟨fun h => Nat.lt_irrefl _ (HM8.out.z _ h), fun h => Nat.lt_irrefl _ (HM8.out.r _ h)⟩
    have HNE : Hid (c17 ≠ w8.heap.size) := Lib.hid (fun e => by have := H178.out.lt; omega)
    have HM9 := Lib.hid (HM8.out.below hb9)
    have HB9 := Lib.hid (HB8.out.alloc HB8.out.size (.cells #[.int .i64 (F1 : Nat), .int .u64 (D1 : Nat)] 48))
    have HR9 := Lib.hid (HR8.out.below hb9 HR8.out.lt)
    have H179 := Lib.hid (H178.out.below hb9 H178.out.lt)
    have HW19 : Hid (w.heap.size ≤ w8.heap.size) := Lib.hid HB8.out.size
    have HW319 : Hid (w3.heap.size ≤ w8.heap.size) := Lib.hid (Nat.le_trans (HZB.out g (.inl HM8.out.zg)) (Nat.le_of_lt HM8.out.lt))
    obtain ⟨c19, hc19⟩ : ∃ c, c = w8.heap.size := ⟨_, rfl⟩
    generalize w8.alloc (.cells #[.int .i64 (F1 : Nat), .int .u64 (D1 : Nat)] 48) = w9 at *
    rw [← hc19] at hr19 HN19 HW19 HW319 HNE ⊢
    have H199 := Lib.hid hr19
    clear hr19 hb9 hc19 HM8 HC8 HB8 HR8 HM7 HB7 HR7 HL1 H17 H178
    have a0 := H179.out.cell 0
    have a1 := H179.out.cell 1
    have al := H179.out.lt
    have af0 := H179.out.frozen 0
    have af1 := H179.out.frozen 1
    have b0 := H199.out.cell 0
    have b1 := H199.out.cell 1
    have bl := H199.out.lt
    have bf0 := H199.out.frozen 0
    have bf1 := H199.out.frozen 1
    simp only [List.getElem?_cons_zero, List.getElem?_cons_succ] at a0 a1 b0 b1
    go_upto_region 13 with fail
    clear a0 a1 al af0 af1 b0 b1 bl bf0 bf1
    go_upto_region 14 with (go_at_call 16; refine (HS3.out w9 _ _ HM9.out).mono ?_; rintro e w10 ⟨rfl, s10, ld10, hm, hc⟩; have HMa := Lib.hid hm; have HCa := Lib.hid hc; have HSa := Lib.hid (hc.row H179.out HN17.out.1); clear hm hc; have d0 := HSa.out.cell 0; have d1 := HSa.out.cell 1; have dl := HSa.out.lt; have df0 := HSa.out.frozen 0; have df1 := HSa.out.frozen 1; simp only [List.getElem?_cons_zero, List.getElem?_cons_succ] at d0 d1)
    have HOa := Lib.hid (HCa.out.row H199.out HN19.out.1)
    have HBa := Lib.hid (HB9.out.trans (HCa.out.below HB9.out.size (fun x hx => Nat.le_trans HB3.out.size (HZB.out x (.inl hx)))))
    have HRa := Lib.hid (HCa.out.row HR9.out (fun h => by have := HZB.out _ (.inl h); have := HCL.out; omega))
    have hcy : ChgP (fun k => k = c17) w10 ((w10.setCell ⟨c17, 0, none⟩ (.int .i64 (F3 : Nat))).setCell ⟨c17, 1, none⟩ (.int .u64 (D3 : Nat))) := ((ChgP.refl (fun k => k = c17) w10).set_ (p := ⟨c17, 0, none⟩) (.inl rfl) _).set_ (p := ⟨c17, 1, none⟩) (.inl rfl) _
    have HMb := Lib.hid (HMa.out.chg hcy (fun k hk hy => by rw [show k = c17 from hy] at hk; rcases hk with hk | hk; exact HN17.out.1 hk; exact HN17.out.2 hk))
    have HBb := Lib.hid (HBa.out.trans (hcy.below HBa.out.size (fun x hx => by rw [show x = c17 from hx]; exact HW17.out)))
    have HRb := Lib.hid (hcy.row HRa.out (fun h => by have h : c6 = c17 := h; have h1 := HCL.out; have h2 := HW317.out; omega))
    have H17b := Lib.hid ((HSa.out.set_ 0 (.int .i64 (F3 : Nat))).set_ 1 (.int .u64 (D3 : Nat)))
    simp only [List.set_cons_zero, List.set_cons_succ] at H17b
    have H19b := Lib.hid (hcy.row HOa.out (fun h => by have h : c19 = c17 := h; have := HNE.out; omega))
    generalize (w10.setCell ⟨c17, 0, none⟩ (.int .i64 (F3 : Nat))).setCell ⟨c17, 1, none⟩ (.int .u64 (D3 : Nat)) = w11 at *
    clear hcy HMa HCa HSa HOa HBa HRa d0 d1 dl df0 df1 HM9 H179 H199 HB9 HR9 HS3
    go_upto_region 15 with (go_at_call 18; refine (HF3.out w11 _ _ HMb.out).mono ?_; rintro e w12 ⟨rfl, s12, ld12, hm, hc⟩; have HMa := Lib.hid hm; have HCa := Lib.hid hc; have HSa := Lib.hid (hc.row H19b.out HN19.out.1); clear hm hc; have d0 := HSa.out.cell 0; have d1 := HSa.out.cell 1; have dl := HSa.out.lt; have df0 := HSa.out.frozen 0; have df1 := HSa.out.frozen 1; simp only [List.getElem?_cons_zero, List.getElem?_cons_succ] at d0 d1)
    have HOa := Lib.hid (HCa.out.row H17b.out HN17.out.1)
    have HBa := Lib.hid (HBb.out.trans (HCa.out.below HBb.out.size (fun x hx => Nat.le_trans HB3.out.size (HZB.out x (.inl hx)))))
    have HRa := Lib.hid (HCa.out.row HRb.out (fun h => by have := HZB.out _ (.inl h); have := HCL.out; omega))
    have hcy : ChgP (fun k => k = c19) w12 ((w12.setCell ⟨c19, 0, none⟩ (.int .i64 (F3 : Nat))).setCell ⟨c19, 1, none⟩ (.int .u64 (D3 : Nat))) := ((ChgP.refl (fun k => k = c19) w12).set_ (p := ⟨c19, 0, none⟩) (.inl rfl) _).set_ (p := ⟨c19, 1, none⟩) (.inl rfl) _
    have HMc := Lib.hid (HMa.out.chg hcy (fun k hk hy => by rw [show k = c19 from hy] at hk; rcases hk with hk | hk; exact HN19.out.1 hk; exact HN19.out.2 hk))
    have HBc := Lib.hid (HBa.out.trans (hcy.below HBa.out.size (fun x hx => by rw [show x = c19 from hx]; exact HW19.out)))
    have HRc := Lib.hid (hcy.row HRa.out (fun h => by have h : c6 = c19 := h; have h1 := HCL.out; have h2 := HW319.out; omega))
    have H19c := Lib.hid ((HSa.out.set_ 0 (.int .i64 (F3 : Nat))).set_ 1 (.int .u64 (D3 : Nat)))
    simp only [List.set_cons_zero, List.set_cons_succ] at H19c
    have H17c := Lib.hid (hcy.row HOa.out (fun h => by have h : c17 = c19 := h; have := HNE.out; omega))
    generalize (w12.setCell ⟨c19, 0, none⟩ (.int .i64 (F3 : Nat))).setCell ⟨c19, 1, none⟩ (.int .u64 (D3 : Nat)) = w13 at *
    clear hcy HMa HCa HSa HOa HBa HRa d0 d1 dl df0 df1 HMb H19b H17b HBb HRb HF3
    have a0 := H17c.out.cell 0
    have a1 := H17c.out.cell 1
    have al := H17c.out.lt
    have b0 := H19c.out.cell 0
    have b1 := H19c.out.cell 1
    have bl := H19c.out.lt
    simp only [List.getElem?_cons_zero, List.getElem?_cons_succ] at a0 a1 b0 b1
    go_upto_region 17 with fail
    clear a0 a1 al b0 b1 bl
    go_upto_region 18 with (go_at_call 16; refine (HS2.out w13 _ _ HMc.out).mono ?_; rintro e w14 ⟨rfl, s14, ld14, hm, hc⟩; have HMa := Lib.hid hm; have HCa := Lib.hid hc; have HSa := Lib.hid (hc.row H17c.out HN17.out.1); clear hm hc; have d0 := HSa.out.cell 0; have d1 := HSa.out.cell 1; have dl := HSa.out.lt; have df0 := HSa.out.frozen 0; have df1 := HSa.out.frozen 1; simp only [List.getElem?_cons_zero, List.getElem?_cons_succ] at d0 d1)
    have HOa := Lib.hid (HCa.out.row H19c.out HN19.out.1)
    have HBa := Lib.hid (HBc.out.trans (HCa.out.below HBc.out.size (fun x hx => Nat.le_trans HB3.out.size (HZB.out x (.inl hx)))))
    have HRa := Lib.hid (HCa.out.row HRc.out (fun h => by have := HZB.out _ (.inl h); have := HCL.out; omega))
    have hcy : ChgP (fun k => k = c17) w14 ((w14.setCell ⟨c17, 0, none⟩ (.int .i64 (F2 : Nat))).setCell ⟨c17, 1, none⟩ (.int .u64 (D2 : Nat))) := ((ChgP.refl (fun k => k = c17) w14).set_ (p := ⟨c17, 0, none⟩) (.inl rfl) _).set_ (p := ⟨c17, 1, none⟩) (.inl rfl) _
    have HMd := Lib.hid (HMa.out.chg hcy (fun k hk hy => by rw [show k = c17 from hy] at hk; rcases hk with hk | hk; exact HN17.out.1 hk; exact HN17.out.2 hk))
    have HBd := Lib.hid (HBa.out.trans (hcy.below HBa.out.size (fun x hx => by rw [show x = c17 from hx]; exact HW17.out)))
    have HRd := Lib.hid (hcy.row HRa.out (fun h => by have h : c6 = c17 := h; have h1 := HCL.out; have h2 := HW317.out; omega))
    have H17d := Lib.hid ((HSa.out.set_ 0 (.int .i64 (F2 : Nat))).set_ 1 (.int .u64 (D2 : Nat)))
    simp only [List.set_cons_zero, List.set_cons_succ] at H17d
    have H19d := Lib.hid (hcy.row HOa.out (fun h => by have h : c19 = c17 := h; have := HNE.out; omega))
    generalize (w14.setCell ⟨c17, 0, none⟩ (.int .i64 (F2 : Nat))).setCell ⟨c17, 1, none⟩ (.int .u64 (D2 : Nat)) = w15 at *
    clear hcy HMa HCa HSa HOa HBa HRa d0 d1 dl df0 df1 HMc H17c H19c HBc HRc HS2
    have p0 := HRd.out.cell 0
    have p1 := HRd.out.cell 1
    have lp := HRd.out.lt
    simp only [List.getElem?_cons_zero, List.getElem?_cons_succ] at p0 p1
    obtain ⟨l, hl⟩ : ∃ l, l = rams ++ devs := ⟨_, rfl⟩
    have HLE := Lib.hid hl
    have HWH : Hid (Calls Try.prog 19 #[.pointer (some ⟨g, 0, none⟩), .agg #[.slice A1 n1 c1, .slice A2 n2 c2]] w15 (WholeS g Z R w15 (cM M s14 ld14) (allR M.mem l))) := Lib.hid (by
      have h := whole_any g (M := cM M s14 ld14) A1 A2 n1 n2 c1 c2 w15 (by rw [show (cM M s14 ld14).rams = rams from HMR.out.1]; exact (H1.out.below HBd.out).more HBd.out.size) (by rw [show (cM M s14 ld14).devs = devs from HMR.out.2]; exact (H2.out.below HBd.out).more HBd.out.size) (by rw [show (cM M s14 ld14).rams = rams from HMR.out.1, show (cM M s14 ld14).devs = devs from HMR.out.2]; exact HOK.out) (by rw [show (cM M s14 ld14).rams = rams from HMR.out.1, show (cM M s14 ld14).devs = devs from HMR.out.2]; exact HSUM.out) HMd.out
      rw [show (cM M s14 ld14).rams = rams from HMR.out.1, show (cM M s14 ld14).devs = devs from HMR.out.2, ← hl] at h
      exact h)
    clear hl
    go_wp2_with fail
    refine HWH.out.mono ?_
    rintro e w16 ⟨Aw2, cw2, rfl, how, hm16, hc16⟩
    obtain ⟨nW, hnW⟩ : ∃ nW, nW = (allR M.mem l).length := ⟨_, rfl⟩
    rw [← hnW] at how ⊢
    have HNW : Hid (nW = sumS l) := Lib.hid (by rw [hnW, allR_len])
    have HOW := Lib.hid how
    have HM16 := Lib.hid hm16
    have HB16 := Lib.hid (HBd.out.trans (hc16.below HBd.out.size (fun x hx => Nat.le_trans HB3.out.size (HZB.out x (.inl hx)))))
    have HR16 := Lib.hid (hc16.row HRd.out (fun h => by have := HZB.out _ (.inl h); have := HCL.out; omega))
    have H1716 := Lib.hid (hc16.row H17d.out HN17.out.1)
    have HSZ16 : Hid (w15.heap.size ≤ w16.heap.size) := Lib.hid hc16.size
    have HL17 : Hid (c17 < w15.heap.size) := Lib.hid H17d.out.lt
    have HLR6 : Hid (c6 < w15.heap.size) := Lib.hid HRd.out.lt
    have HWS15 : Hid (w.heap.size ≤ w15.heap.size) := Lib.hid HBd.out.size
    have HZ15 : Hid (∀ x, Z x ∨ R x → x < w15.heap.size) := Lib.hid (fun x hx => by rcases hx with h | h; exact HMd.out.z x h; exact HMd.out.r x h)
    clear how hm16 hc16 hnW HMd HBd HRd H17d H19d p0 p1 lp HWH
    obtain ⟨K2, hK2⟩ : ∃ K2, K2 = if F2 = 0 then k else 0 := ⟨_, rfl⟩
    have hK28 : K2 ≤ k := by rw [hK2]; split <;> omega
    obtain ⟨p, hp⟩ : ∃ p : Nat → Nat, p = fun j => (atL M root virt 2 k).getD j 0 := ⟨_, rfl⟩
    have HPJ : Hid (∀ j, j < k → (trI M root (virt + j) 2).1 = p j ∧ p j < 8589934592) := Lib.hid (fun j hj => by
      have h1 : p j = (trI M root (virt + j) 2).1 := by
        rw [hp]
        show (atL M root virt 2 k).getD j 0 = _
        rw [List.getD_eq_getElem?_getD, atL, List.getElem?_map, List.getElem?_range hj]; rfl
      rw [h1]
      exact ⟨rfl, trI_lt.1⟩)
    rw [← hp] at HST
    have HKE := Lib.hid hK2
    clear hp hK2
    go_wp2_with fail
    go_loopw [21, 22] (fun a x wr => ∃ (i ca : Nat) (Aa : Option Addr), i ≤ K2 ∧ x = .int .i64 (i : Nat) ∧ a = .slice Aa i ca ∧ Hid (wr.ownsRow w16.heap.size 22 1 (.slice Aa i ca) i ((List.range i).map fun j => u64v (p j))) ∧ Hid ((∃ s ld, MZ Z R wr g (cM M s ld)) ∧ ChgP Z w16 wr)) (fun _ x _ => K2 - (intOf x).toNat)
    case atStart => exact ⟨0, 0, none, by omega, rfl, rfl, Lib.hid (World.ownsRow_nil _ _ _ _), Lib.hid ⟨⟨_, _, HM16.out⟩, ChgP.refl _ _⟩⟩
    case round =>
    obtain ⟨i, ca, Aa, hi, rfl, rfl, HOA, HMC⟩ := hrel
    obtain ⟨⟨si, ldi, hmi⟩, hci⟩ := HMC.out
    have HMI := Lib.hid hmi; have HCI := Lib.hid hci
    have HR17 := Lib.hid (hci.row H1716.out HN17.out.1)
    have a0 := HR17.out.cell 0
    have al := HR17.out.lt
    simp only [List.getElem?_cons_zero, List.getElem?_cons_succ] at a0
    clear hmi hci
    by_cases hik : i < K2
    · have hF0 : F2 = 0 := by have := HKE.out; by_cases h : F2 = 0; exact h; rw [if_neg h] at this; omega
      have hik2 : i < k := by omega
      obtain ⟨vi, hvi⟩ : ∃ vi, vi = virt + i := ⟨_, rfl⟩
      have e1 : (virt : Int) + (i : Int) = (vi : Int) := by omega
      have hvt : vi ≤ 18446744073709551615 := by have := trI_hole (HF2.out hF0 i hik2); omega
      have HTC := Lib.hid (wtr_k g root vi 2 HMI.out HRT.out hvt)
      have hno := HF2.out hF0 i hik2
      obtain ⟨hq, hq33⟩ := HPJ.out i hik2
      rw [← hvi] at hno hq
      rw [hno, hq] at HTC
      rw [if_pos rfl] at HTC
      have HQ33 := Lib.hid hq33
      obtain ⟨q, hqe⟩ : ∃ q, q = p i := ⟨_, rfl⟩
      rw [← hqe] at HTC
      have HQE := Lib.hid hqe
      subst hF0
      clear hvi hno hq hq33 hqe
      go_upto_region 23 with fail
      go_upto_region 24 with (go_at_call 20; refine HTC.out.mono ?_; rintro e wt ⟨rfl, st, ldt, hmt, hct⟩; have HMT := Lib.hid hmt; have HCT := Lib.hid hct; clear hmt hct)
      have hbt : Below wt.heap.size wt (wt.alloc (.cells #[.int .i64 0, .int .u64 0] 48)) := (Below.refl _ _).alloc (Nat.le_refl _) _
      have HMT2 := Lib.hid (HMT.out.below hbt)
      have HCT2 : Hid (ChgP Z wr (wt.alloc (.cells #[.int .i64 0, .int .u64 0] 48))) := Lib.hid (HCT.out.trans (ChgP.of_below (Z := Z) hbt) (fun x hx => .inl hx))
      generalize wt.alloc (.cells #[.int .i64 0, .int .u64 0] 48) = wu at *
      have HOA2 := Lib.hid (owns_chgP HOA.out HCT2.out (fun x hx h => by have := (HOA.out.lt x hx).1; have := HZ15.out x (.inl h); have := HSZ16.out; omega))
      have HWU : Hid (w16.heap.size ≤ wu.heap.size) := Lib.hid (Nat.le_trans HCI.out.size HCT2.out.size)
      clear hbt HMT HCT HTC a0 al
      go_wp2_with (at_builtin; refine wpList_append_sl _ rfl (.tmp 129) (.tmp 131) _ rfl w16.heap.size 22 i0 _ 1 8 Try.underlying54 HI0.out HZ1.out HZ2.out HZ3.out rfl (by omega) (.slice Aa i ca) i ((List.range i).map fun j => u64v (p j)) rfl (HOA2.out.alloc _) (wu.heap.size + 1) (some ⟨wu.heap.size, 0, none⟩) 1 1 [.int .u64 (q : Nat)] rfl (reads_u8v (by omega)) (by simp [Value.oneCell']) (by unfold maxLen; omega) (by omega) (by have := HWU.out; simp; omega) ?_; intro Ab2 cb2 wn hown2 hrd2 hg2 hat2; have HO2 := Lib.hid hown2; have HG2 := Lib.hid hg2; clear hown2 hrd2 hg2 hat2)
      refine ⟨?_, ?_⟩
      · (repeat apply Exists.intro)
        refine ⟨?_, rfl⟩
        have hb8 : Below w16.heap.size wu wn := ((Below.refl w16.heap.size wu).alloc HWU.out _).grown HG2.out (by simp; have := HWU.out; omega) (fun x hx => (HOA2.out.lt x hx).1)
        have hcn : ChgP (fun x => w16.heap.size ≤ x) wu wn := ⟨hb8.os, hb8.tape, hb8.output, hb8.size, fun x hx hn => hb8.block x (by omega)⟩
        refine ⟨i + 1, cb2, Ab2, by omega, by go_num, rfl, Lib.hid ?_, Lib.hid ⟨⟨st, ldt, HMT2.out.chg hcn (fun x hx hy => by have := HZ15.out x hx; have := HSZ16.out; omega)⟩, (HCI.out.trans HCT2.out (fun x hx => .inl hx)).trans hcn (fun x hx => .inr hx)⟩⟩
        rw [List.range_succ, List.map_append]
        have := HO2.out
        rw [HQE.out] at this
        exact this
      · simp [intOf]; omega
    · have ei : i = K2 := by omega
      subst ei
      clear hik
      go_upto_region 21 with fail
      go_cut [115] (fun x wx => x = .bool false ∧ wr = wx)
      case first =>
        by_cases hF0 : F2 = 0
        · have hkk : i = k := by have := HKE.out; rw [if_pos hF0] at this; exact this
          have f1 : ¬ (i : Int) < (k : Int) := by omega
          subst hF0
          clear hkk
          go_wp2_with fail
          go_meet
          case rel => exact ⟨rfl, rfl⟩
        · have f1 : (i : Int) < (k : Int) := by
            have h1 := HKE.out
            rw [if_neg hF0] at h1
            have := HK.out
            omega
          have f2 : ((F2 : Int) == 0) = false := by simp; omega
          clear hF0
          go_wp2_with fail
          go_meet
          case rel => exact ⟨rfl, rfl⟩
      case rest =>
      obtain ⟨rfl, rfl⟩ := hcut
      have a1 := HR17.out.cell 1
      simp only [List.getElem?_cons_zero, List.getElem?_cons_succ] at a1
      have HSD := Lib.hid (HST.out wr.drew si ldi (HMI.out.below (Below.refl _ _).drew))
      go_upto_region 25 with fail
      go_cut [141] (fun x wx => x = .bool false ∧ Hid (∃ M' Z', MZ Z' R wx g M' ∧ M'.rams = M.rams ∧ M'.devs = M.devs ∧ M'.mem = memN M.mem p value i ∧ ChgP Z wr wx ∧ ∀ x, Z' x → Z x ∨ wr.heap.size ≤ x))
      case first =>
        go_region_law (first
          | (go_simp; go_at_call 21; refine HSD.out.mono ?_; rintro e w25 ⟨rfl, M', Z', hm, e1, e2, e3, hc, hz⟩; have HM25 := Lib.hid hm; have HE1 := Lib.hid e1; have HE2 := Lib.hid e2; have HE3 := Lib.hid e3; have HC25 := Lib.hid hc; have HZ25 := Lib.hid hz; have HR25 := Lib.hid (hc.row HR17.out.drew HN17.out.1); clear hm e1 e2 e3 hc hz; have d0 := HR25.out.cell 0; have d1 := HR25.out.cell 1; have dl := HR25.out.lt; simp only [List.getElem?_cons_zero, List.getElem?_cons_succ] at d0 d1))
        all_goals
          have HFIN : Hid (∃ M' Z', MZ Z' R w25 g M' ∧ M'.rams = M.rams ∧ M'.devs = M.devs ∧ M'.mem = memN M.mem p value i ∧ ChgP Z wr w25 ∧ ∀ x, Z' x → Z x ∨ wr.heap.size ≤ x) := Lib.hid ⟨M', Z', HM25.out, HE1.out, HE2.out, by rw [HE3.out, ← HKE.out], (ChgP.refl Z wr).drew.trans HC25.out (fun x hx => .inl hx), HZ25.out⟩
          go_wp2_with fail
          go_meet
          case rel => exact ⟨rfl, HFIN⟩
      case rest =>
      obtain ⟨rfl, hcz⟩ := hcut
      obtain ⟨M', Z', hm25, he1, he2, he3, hc25, hz25⟩ := hcz.out
      have HM25 := Lib.hid hm25; have HE1 := Lib.hid (he1.trans HMR.out.1); have HE2 := Lib.hid (he2.trans HMR.out.2); have HE3 := Lib.hid he3
      have hcc : ChgP Z w16 wc := HCI.out.trans hc25 (fun x hx => .inl hx)
      have HCC := Lib.hid hcc
      have HZ25 : Hid (∀ x, Z' x → Z x ∨ w16.heap.size ≤ x) := Lib.hid (fun x hx => by rcases hz25 x hx with h | h; exact .inl h; exact .inr (Nat.le_trans HCI.out.size h))
      have HBc := Lib.hid (HB16.out.trans (hcc.below HB16.out.size (fun x hx => Nat.le_trans HB3.out.size (HZB.out x (.inl hx)))))
      have HRc := Lib.hid (hcc.row HR16.out (fun h => by have := HZB.out _ (.inl h); have := HCL.out; omega))
      have HOAc := Lib.hid (owns_chgP HOA.out hc25 (fun x hx h => by have := (HOA.out.lt x hx).1; have := HZ15.out x (.inl h); have := HSZ16.out; omega))
      have HOWc : Hid (Own wc w15.heap.size Aw2 nW cw2 (allR M.mem l)) := Lib.hid ⟨owns_chgP HOW.out.1 hcc (fun x hx h => by have := (HOW.out.1.lt x hx).1; have := HZ15.out x (.inl h); omega), HOW.out.2⟩
      have HOWL : Hid (∀ ad, Aw2 = some ad → ad.block < w16.heap.size ∧ ¬ Z' ad.block ∧ w15.heap.size ≤ ad.block ∧ ¬ R ad.block) := Lib.hid (fun ad had => by
        obtain ⟨h1, h2⟩ := own_adr HOW.out.1 ad had
        refine ⟨h2, fun h => ?_, h1, fun h => ?_⟩
        · rcases HZ25.out _ h with h3 | h3
          · have := HZ15.out _ (.inl h3); omega
          · omega
        · have := HZ15.out _ (.inr h); omega)
      have HZNA : Hid (∀ x, (Value.slice Aa i ca).ownBlock = some x → w16.heap.size ≤ x) := Lib.hid (fun x hx => (HOAc.out.lt x hx).1)
      clear hcz hm25 he1 he2 he3 hc25 hz25 a0 a1 al hcc HOA HMC HMI HCI HR17 HSD HOW
      have p0 := HRc.out.cell 0
      have p1 := HRc.out.cell 1
      have lp := HRc.out.lt
      simp only [List.getElem?_cons_zero, List.getElem?_cons_succ] at p0 p1
      have hn1 : n1 ≤ 8 := by have := HOK.out.r8; have := H1.out.2.1; omega
      have hn2 : n2 ≤ 32 := by have := HOK.out.d32; have := H2.out.2.1; omega
      have HAL := Lib.hid (refall_new A1 A2 n1 n2 c1 c2 rams devs wc ((H1.out.below HBc.out).more HBc.out.size) ((H2.out.below HBc.out).more HBc.out.size) (by omega) (by omega))
      go_wp2_with fail
      refine HAL.out.mono ?_
      rintro e w27 ⟨AL, cl, rfl, hl27, hb27, hn27⟩
      obtain ⟨N, hN⟩ : ∃ N, N = n1 + n2 := ⟨_, rfl⟩
      rw [← HLE.out, ← hN] at hl27
      rw [← hN]
      have hN40 : N ≤ 40 := by omega
      have HLI := Lib.hid hl27
      have HLN := Lib.hid hn27
      have HM27 := Lib.hid (HM25.out.below hb27)
      have HB27 := Lib.hid (HBc.out.trans (hb27.mono HBc.out.size))
      have HR27 := Lib.hid (HRc.out.below hb27 HRc.out.lt)
      have HOA27 := Lib.hid (owns_below2 HOAc.out hb27)
      have HOW27 : Hid (Own w27 w15.heap.size Aw2 nW cw2 (allR M.mem l)) := Lib.hid ⟨owns_below2 HOWc.out.1 hb27, HOWc.out.2⟩
      have HSZ27 : Hid (w16.heap.size ≤ wc.heap.size ∧ wc.heap.size ≤ w27.heap.size) := Lib.hid ⟨HCC.out.size, hb27.size⟩
      clear hl27 hb27 hn27 hN p0 p1 lp HAL HRc HBc HOAc HOWc HM25
      obtain ⟨YW, hYW⟩ : ∃ YW : Nat → Prop, YW = fun x => ∃ ad, Aw2 = some ad ∧ x = ad.block := ⟨_, rfl⟩
      have HYW := Lib.hid hYW
      have HYB : Hid (∀ x, YW x → x < w16.heap.size ∧ ¬ Z' x ∧ w15.heap.size ≤ x ∧ ¬ R x) := Lib.hid (fun x hx => by rw [hYW] at hx; obtain ⟨ad, had, rfl⟩ := hx; exact HOWL.out ad had)
      have HOW0 : Hid (Own w27 w15.heap.size Aw2 nW cw2 (allR (memN M.mem p value 0) l)) := HOW27
      clear hYW
      go_wp2_with fail
      go_loopw [26] (fun x wr => ∃ t : Nat, t ≤ i ∧ x = .int .i64 (t : Nat) ∧ Hid (Own wr w15.heap.size Aw2 nW cw2 (allR (memN M.mem p value t) l)) ∧ Hid (ChgP YW w27 wr)) (fun x _ => i - (intOf x).toNat)
      case atStart => exact ⟨0, by omega, rfl, HOW0, Lib.hid (ChgP.refl _ _)⟩
      case round =>
      obtain ⟨t, ht, rfl, HOWT, HCT⟩ := hrel
      by_cases hti : t < i
      · have htk : t < k := by omega
        obtain ⟨a, hae⟩ : ∃ a, a = p t := ⟨_, rfl⟩
        have ha33 : a < 8589934592 := by rw [hae]; exact (HPJ.out t htk).2
        obtain ⟨ga, hga, hg1, hg2, _, _⟩ := own_somer HOA27.out (by omega)
        subst hga
        have HGA : Hid (∀ wx, ChgP YW w27 wx → wx.cell? ⟨ga, t, none⟩ = some (.int .u64 (a : Nat)) ∧ ga < wx.heap.size) := Lib.hid (fun wx hc => by
          have ho := owns_chgP HOA27.out hc (fun x hx h => by
            have h1 := (HYB.out x h).1
            have h2 : some x = some ga := hx.symm.trans rfl
            injection h2 with h2
            omega)
          have h1 := ho.cells (g := ga) rfl t (u64v (p t)) (by rw [List.getElem?_map, List.getElem?_range hti]; rfl)
          rw [Addr.add_mid, Nat.zero_add, ← hae] at h1
          exact ⟨h1, (ho.lt ga rfl).2⟩)
        obtain ⟨m0, hm0⟩ : ∃ m0, m0 = memN M.mem p value t := ⟨_, rfl⟩
        obtain ⟨m1, hm1⟩ : ∃ m1, m1 = memN M.mem p value (t + 1) := ⟨_, rfl⟩
        obtain ⟨y8, hy8⟩ : ∃ y8, y8 = byteOf value t := ⟨_, rfl⟩
        have hy256 : y8 < 256 := by rw [hy8]; exact byteOf_lt _ _
        have HMM : Hid (∀ q, m1 q = if q = a then y8 else m0 q) := Lib.hid (fun q => by
          rw [hm1, hm0, hae]
          show (if q = p t then byteOf value t % 256 else memN M.mem p value t q) = _
          rw [← hy8, Nat.mod_eq_of_lt hy256])
        have HJ0 : Hid (Own wr w15.heap.size Aw2 nW cw2 (wantJ m0 m1 l 0)) := Lib.hid (by rw [wantJ_zero, hm0]; exact HOWT.out)
        have HJN : Hid (wantJ m0 m1 l N = allR (memN M.mem p value (t + 1)) l) := Lib.hid (by
          have h := wantJ_end m0 m1 l
          rw [show l.length = N from HLI.out.2.1, hm1] at h
          rw [hm1]; exact h)
        have HAE := Lib.hid hae; have HY8 := Lib.hid hy8; have HG1 := Lib.hid hg1
        have HOKL : Hid (∀ r ∈ l, 0 < r.2 ∧ r.1 + r.2 ≤ 4294967296) := Lib.hid (by rw [HLE.out]; exact HOK.out.good)
        clear hae hm0 hm1 hy8 hg1 hg2 HOWT
        go_wp2_with fail
        go_loopw [27, 28] (fun bg x wr => ∃ j b0 : Nat, j ≤ N ∧ x = .int .i64 (j : Nat) ∧ bg = .int .u64 (b0 : Nat) ∧ Hid (b0 = sumS (l.take j)) ∧ Hid (Own wr w15.heap.size Aw2 nW cw2 (wantJ m0 m1 l j)) ∧ Hid (ChgP YW w27 wr)) (fun _ x _ => N - (intOf x).toNat)
        case atStart => exact ⟨0, 0, by omega, rfl, rfl, Lib.hid (by simp [sumS]), HJ0, HCT⟩
        case round =>
        clear HJ0 HCT
        obtain ⟨j, bg, hj, rfl, rfl, HBG, HOWJ, HCT⟩ := hrel
        by_cases hjN : j < N
        · obtain ⟨⟨b, tt⟩, hx⟩ : ∃ x, l[j]? = some x := ⟨_, List.getElem?_eq_getElem (by rw [HLI.out.2.1]; exact hjN)⟩
          obtain ⟨bl, ol, hf⟩ := HLI.out.form
          obtain ⟨rfl, hbB, _⟩ := hf.out (by omega)
          have HRL : Hid (∀ wx, ChgP YW w27 wx → wx.cell? ⟨bl, ol + j * 2, none⟩ = some (.int .u64 (b : Nat)) ∧ wx.cell? ⟨bl, ol + j * 2 + 1, none⟩ = some (.int .u64 (tt : Nat)) ∧ bl < wx.heap.size) := Lib.hid (fun wx hc => by
            have hs := IsS.same HLI.out (w' := wx) (fun ad had h0 => hc.block _ (by injection had with had; subst had; exact hbB) (fun h => by
              injection had with had
              subst had
              have h1 := (HYB.out _ h).1
              have h2 := (HLN.out _ rfl).1
              have h3 := HSZ27.out.1
              have h4 : wc.heap.size ≤ bl := h2
              have h5 : bl < w16.heap.size := h1
              omega))
            obtain ⟨x0, x1⟩ := IsS.at_ hs j _ hx
            exact ⟨x0, x1, Nat.lt_of_lt_of_le hbB hc.size⟩)
          have hgd := HOKL.out _ (List.mem_of_getElem? hx)
          simp only at hgd
          obtain ⟨g1, g2⟩ := HGA.out wr HCT.out
          obtain ⟨x0, x1, lx⟩ := HRL.out wr HCT.out
          have hsl := sumS_at hx
          simp only at hsl
          have hbg5 : bg + tt ≤ nW := by rw [HBG.out, HNW.out]; exact hsl
          have hn5 : nW ≤ 500000 := by rw [HNW.out, HLE.out]; exact HSUM.out
          have HX := Lib.hid hx
          have htt : tt ≤ 500000 := by omega
          clear hf hx hsl hbB
          go_upto_region 35 with fail
          obtain ⟨Bq, hBq⟩ : ∃ Bq, Bq = decide (b ≤ a ∧ a - b < tt) := ⟨_, rfl⟩
          have HBQ := Lib.hid hBq
          clear hBq
          go_cut [183] (fun x wx => x = .bool Bq ∧ Hid (∃ m, wx = wr.drewN m))
          case first =>
            by_cases q : b ≤ a ∧ a - b < tt
            · have HDQ := Lib.hid (decide_eq_true q)
              have f1 : (b : Int) ≤ (a : Int) := by omega
              have f2 : (a : Int) - (b : Int) < (tt : Int) := by omega
              have f3 : (0 : Int) ≤ (a : Int) - (b : Int) := by omega
              clear q
              go_quiet (fail)
              go_wp2_with fail
              go_meet
              case rel => exact ⟨by rw [HBQ.out, HDQ.out], Lib.hid ⟨_, rfl⟩⟩
            · have HDQ := Lib.hid (decide_eq_false q)
              by_cases q1 : b ≤ a
              · have f1 : (b : Int) ≤ (a : Int) := by omega
                have f2 : ¬ (a : Int) - (b : Int) < (tt : Int) := by omega
                have f3 : (0 : Int) ≤ (a : Int) - (b : Int) := by omega
                clear q
                go_quiet (fail)
                go_wp2_with fail
                go_meet
                case rel => exact ⟨by rw [HBQ.out, HDQ.out], Lib.hid ⟨_, rfl⟩⟩
              · have f1 : ¬ (b : Int) ≤ (a : Int) := by omega
                clear q
                go_quiet (fail)
                go_wp2_with fail
                go_meet
                case rel => exact ⟨by rw [HBQ.out, HDQ.out], Lib.hid ⟨_, rfl⟩⟩
          case rest =>
          obtain ⟨rfl, hmm⟩ := hcut
          obtain ⟨mm, rfl⟩ := hmm.out
          have HCQ : Hid (ChgP YW w27 (wr.drewN mm)) := Lib.hid ⟨HCT.out.os, HCT.out.tape, HCT.out.output, HCT.out.size, HCT.out.block⟩
          have HOQ : Hid (Own (wr.drewN mm) w15.heap.size Aw2 nW cw2 (wantJ m0 m1 l j)) := Lib.hid ⟨owns_chgP (Z := fun _ => False) HOWJ.out.1 ⟨rfl, rfl, rfl, Nat.le_refl _, fun _ _ _ => rfl⟩ (fun _ _ h => h), HOWJ.out.2⟩
          clear hmm g1 g2 x0 x1 lx HOWJ HCT
          generalize wr.drewN mm = wq at *
          obtain ⟨g1, g2⟩ := HGA.out wq HCQ.out
          obtain ⟨x0, x1, lx⟩ := HRL.out wq HCQ.out
          have hbg64 : bg + tt ≤ 500000 := by omega
          cases hBv : Bq with
          | true =>
            have q : b ≤ a ∧ a - b < tt := of_decide_eq_true (by rw [← HBQ.out]; exact hBv)
            clear hBv
            obtain ⟨q1, q2⟩ := q
            obtain ⟨ix, hix⟩ : ∃ ix, ix = bg + (a - b) := ⟨_, rfl⟩
            obtain ⟨s1, hs1⟩ : ∃ s1, s1 = bg + a := ⟨_, rfl⟩
            have e1 : (bg : Int) + (a : Int) = (s1 : Int) := by omega
            have e2 : (s1 : Int) - (b : Int) = (ix : Int) := by omega
            have hs164 : s1 ≤ 17179869184 := by omega
            have hixn : ix < nW := by omega
            have hix5 : ix < 500000 := by omega
            obtain ⟨gw, hgw, _, _, ⟨csW, hrW⟩, ⟨yW, hyW⟩, hfW, hOW⟩ := Own.setW (v := y8) HOQ.out hixn hy256
            obtain ⟨xv, hxv⟩ : ∃ xv, xv = value / 2 ^ (8 * t) := ⟨_, rfl⟩
            have ew1 : IntKind.i64.wrap (8 * (t : Int)) = 8 * (t : Int) := by rw [IntKind.wrap_i64]; omega
            have ew2 : (value : Int) / 2 ^ (8 * t) = (xv : Int) := by rw [hxv]; norm_cast
            have ew3 : (value : Int) / 2 ^ (8 * (t : Int)).toNat = (xv : Int) := by rw [show (8 * (t : Int)).toNat = 8 * t by omega]; exact ew2
            have ew4 : (xv : Int) % 256 = (y8 : Int) := by rw [hxv]; have h1 := HY8.out; unfold byteOf at h1; omega
            have ew5 : IntKind.u8.wrap (xv : Int) = (y8 : Int) := by rw [IntKind.wrap_u8]; exact ew4
            have ewA : IntKind.u64.wrap (8 * (t : Int)) = 8 * (t : Int) := by rw [IntKind.wrap_u64]; omega
            have ewB : (value : Int) / 2 ^ min (8 * (t : Int)).toNat 64 = (xv : Int) := by rw [show min (8 * (t : Int)).toNat 64 = 8 * t by omega]; exact ew2
            have ewC : IntKind.u8.wrap ((value : Int) / 2 ^ min (IntKind.u64.wrap (8 * (t : Int))).toNat 64) = (y8 : Int) := by rw [ewA, ewB]; exact ew5
            have ew6 : IntKind.u64.wrap (s1 : Int) = (s1 : Int) := by rw [IntKind.wrap_u64]; omega
            have ew7 : IntKind.u64.wrap (ix : Int) = (ix : Int) := by rw [IntKind.wrap_u64]; omega
            have HWJ : Hid (wantJ m0 m1 l (j + 1) = (wantJ m0 m1 l j).set ix y8) := Lib.hid (by
              rw [wantJ_in (v := y8) HX.out HMM.out q1 (by show a < b + tt; omega), hix, HBG.out])
            have HOS := Lib.hid hOW
            have HCS : Hid (ChgP YW w27 (wq.setCell ⟨gw, ix, none⟩ (u8 y8))) := Lib.hid (HCQ.out.set_ (p := ⟨gw, ix, none⟩) (.inl (by rw [HYW.out]; exact ⟨_, hgw, rfl⟩)) _)
            have lW := hrW.lt
            have HXV := Lib.hid hxv
            subst hgw
            unfold Go.Proofs.Ytfpofaniicegaaa.u8 at HOS HCS
            clear q1 q2 hix hs1 hrW hOW hxv hbg5 hgd
            go_upto_region 36 with fail
            go_cut [] (fun wx => Hid (∃ wm, Below wq.heap.size wq wm ∧ wx = wm.setCell ⟨gw, ix, none⟩ (.int .u8 (y8 : Nat))))
            case first =>
              go_region_law fail
              all_goals
                go_wp2_with fail
                go_meet
                case rel => first | exact Lib.hid ⟨wq.drew, (Below.refl _ _).drew, rfl⟩ | exact Lib.hid ⟨wq, Below.refl _ _, rfl⟩
            case rest =>
            obtain ⟨wm, hbm, rfl⟩ := hcut.out
            have HOM : Hid (Own wm w15.heap.size (some ⟨gw, 0, none⟩) nW cw2 (wantJ m0 m1 l j)) := Lib.hid ⟨owns_below2 HOQ.out.1 hbm, HOQ.out.2⟩
            obtain ⟨gx, hgx, _, _, _, _, _, hOX⟩ := Own.setW (v := y8) HOM.out hixn hy256
            injection hgx with hgx
            injection hgx with hgx
            subst hgx
            have HOZ : Hid (Own (wm.setCell ⟨gw, ix, none⟩ (.int .u8 (y8 : Nat))) w15.heap.size (some ⟨gw, 0, none⟩) nW cw2 (wantJ m0 m1 l (j + 1))) := Lib.hid (by rw [HWJ.out]; exact hOX)
            have HCZ : Hid (ChgP YW w27 (wm.setCell ⟨gw, ix, none⟩ (.int .u8 (y8 : Nat)))) := Lib.hid ((HCQ.out.trans (ChgP.of_below (Z := YW) hbm) (fun x hx => .inl hx)).set_ (p := ⟨gw, ix, none⟩) (.inl (by rw [HYW.out]; exact ⟨_, rfl, rfl⟩)) _)
            have HBG' : Hid (bg + tt = sumS (l.take (j + 1))) := Lib.hid (by rw [sumS_take _ _ _ HX.out, HBG.out])
            clear hcut hbm hOX HOM HOS HCS HOQ HCQ g1 g2 x0 x1 lx hyW hfW lW
            generalize wm.setCell ⟨gw, ix, none⟩ (.int .u8 (y8 : Nat)) = wz at *
            obtain ⟨x0, x1, lx⟩ := HRL.out wz HCZ.out
            clear x0
            go_wp2_with fail
            go_roundw
            case rel => exact ⟨j + 1, bg + tt, by omega, by go_num, by go_num, HBG', HOZ, HCZ⟩
            case measure => simp [intOf]; omega
          | false =>
            have q : ¬ (b ≤ a ∧ a - b < tt) := of_decide_eq_false (by rw [← HBQ.out]; exact hBv)
            clear hBv
            have HWJ : Hid (Own wq w15.heap.size Aw2 nW cw2 (wantJ m0 m1 l (j + 1))) := Lib.hid (by rw [wantJ_out HX.out HMM.out (by intro h; apply q; have h1 : b ≤ a := h.1; have h2 : a < b + tt := h.2; omega)]; exact HOQ.out)
            have HBG' : Hid (bg + tt = sumS (l.take (j + 1))) := Lib.hid (by rw [sumS_take _ _ _ HX.out, HBG.out])
            clear q g1 g2 x0
            go_wp2_with fail
            go_roundw
            case rel => exact ⟨j + 1, bg + tt, by omega, by go_num, by go_num, HBG', HWJ, HCQ⟩
            case measure => simp [intOf]; omega
        · have ej : j = N := by omega
          subst ej
          have HOE : Hid (Own wr w15.heap.size Aw2 nW cw2 (allR (memN M.mem p value (t + 1)) l)) := Lib.hid (by rw [← HJN.out]; exact HOWJ.out)
          go_wp2_with fail
          go_roundw
          case rel => exact ⟨t + 1, by omega, by go_num, HOE, HCT⟩
          case measure => simp [intOf]; omega
      · have et : t = i := by omega
        subst et
        have HCW27 := Lib.hid (HCT.out.below (B := w.heap.size) (Nat.le_trans HWS15.out (by have := HSZ16.out; have := HSZ27.out; omega)) (fun x hx => Nat.le_trans HWS15.out (HYB.out x hx).2.2.1))
        have HBF := Lib.hid (HB27.out.trans HCW27.out)
        have HRF := Lib.hid (HCT.out.row HR27.out (fun h => by have := (HYB.out _ h).2.2.1; have := HLR6.out; omega))
        have HMF := Lib.hid (HM27.out.chg HCT.out (fun x hx hy => by rcases hx with h | h; exact (HYB.out x hy).2.1 h; exact (HYB.out x hy).2.2.2 h))
        have p0 := HRF.out.cell 0
        have p1 := HRF.out.cell 1
        have lp := HRF.out.lt
        simp only [List.getElem?_cons_zero, List.getElem?_cons_succ] at p0 p1
        have HWF : Hid (Calls Try.prog 19 #[.pointer (some ⟨g, 0, none⟩), .agg #[.slice A1 n1 c1, .slice A2 n2 c2]] wr (WholeS g Z' R wr M' (allR (memN M.mem p value t) l))) := Lib.hid (by
          have h := whole_any g (M := M') A1 A2 n1 n2 c1 c2 wr (by rw [HE1.out]; exact (H1.out.below HBF.out).more HBF.out.size) (by rw [HE2.out]; exact (H2.out.below HBF.out).more HBF.out.size) (by rw [HE1.out, HE2.out]; exact HOK.out) (by rw [HE1.out, HE2.out]; exact HSUM.out) HMF.out
          rw [HE1.out, HE2.out, HE3.out, ← HLE.out] at h
          exact h)
        go_wp2_with fail
        refine HWF.out.mono ?_
        rintro e wv ⟨A3, c3, rfl, ho3, hm3, hc3⟩
        have hl3 : (allR (memN M.mem p value t) l).length = nW := by rw [allR_len, HNW.out]
        rw [hl3] at ho3 ⊢
        have HOF : Hid (Own wv w15.heap.size Aw2 nW cw2 (allR (memN M.mem p value t) l)) := Lib.hid ⟨owns_chgP HOWT.out.1 hc3 (fun x hx h => by
          obtain ⟨ad, h1, h2⟩ := own_ad HOWT.out.1 hx
          have := (HOWL.out ad h1).2.1
          rw [h2] at this
          exact this h), HOWT.out.2⟩
        have HSAME : Hid (Calls Try.prog 23 #[.slice A3 nW c3, .slice Aw2 nW cw2] wv fun e w' => e = .returned (.bool true) ∧ ∃ m, w' = wv.drewN m) := Lib.hid ((same_any A3 Aw2 nW nW c3 cw2 _ _ wv ho3.isB HOF.out.isB).mono fun e w' hh => ⟨by rw [hh.1, decide_eq_true rfl], hh.2⟩)
        have HBV := Lib.hid (HBF.out.trans (hc3.below HBF.out.size (fun x hx => by
          rcases HZ25.out x hx with h | h
          · exact Nat.le_trans HB3.out.size (HZB.out x (.inl h))
          · exact Nat.le_trans HWS15.out (Nat.le_trans HSZ16.out h))))
        clear ho3 hm3 hc3 hl3 p0 p1 lp HWF HMF HRF
        go_wp2_with fail
        refine HSAME.out.mono ?_
        rintro e wz ⟨rfl, mm, rfl⟩
        go_wp2_with fail
        go_ret
        exact ⟨rfl, ⟨HBV.out.os, HBV.out.tape, HBV.out.output, HBV.out.size, HBV.out.block⟩⟩
end Bu
end Go.Proofs.Ytfpofaniicegaaa
