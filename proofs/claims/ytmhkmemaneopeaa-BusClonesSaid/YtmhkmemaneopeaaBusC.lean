/- The walk of the law BusClones. -/
import Derived.Test.YtmhkmemaneopeaaBuH
import Derived.Test.YtmhkmemaneopeaaBusS
set_option linter.unusedVariables false
set_option linter.unusedSimpArgs false
namespace Go.Proofs.Ytmhkmemaneopeaa
open Go.RowKit
open S64
namespace Bu
/-- neither turns what the other leans on -/
def Apt (Z1 R1 Z2 R2 : Nat → Prop) : Prop := (∀ k, Z1 k → ¬ (Z2 k ∨ R2 k)) ∧ ∀ k, Z2 k → ¬ (Z1 k ∨ R1 k)
theorem Apt.symm {Z1 R1 Z2 R2 : Nat → Prop} (h : Apt Z1 R1 Z2 R2) : Apt Z2 R2 Z1 R1 := ⟨h.2, h.1⟩
theorem Apt.grow1 {Z1 R1 Z2 R2 Z1' : Nat → Prop} {N : Nat} (h : Apt Z1 R1 Z2 R2) (hz : ∀ k, Z1' k → Z1 k ∨ N ≤ k) (h1 : ∀ k, Z2 k → k < N) (h2 : ∀ k, R2 k → k < N) : Apt Z1' R1 Z2 R2 :=
  ⟨fun k hk h3 => by
    rcases hz k hk with h4 | h4
    · exact h.1 k h4 h3
    · rcases h3 with h3 | h3
      · exact absurd (h1 k h3) (by omega)
      · exact absurd (h2 k h3) (by omega), fun k hk h3 => by
    rcases h3 with h3 | h3
    · rcases hz k h3 with h4 | h4
      · exact h.2 k hk (.inl h4)
      · exact absurd (h1 k hk) (by omega)
    · exact h.2 k hk (.inr h3)⟩
theorem MZ.dis {Z R : Nat → Prop} {w : World} {g : Nat} {M : PM} (h : MZ Z R w g M) : ∀ k, Z k → ¬ R k := by
  obtain ⟨_, _, _, _, _, _, _, _, _, _, h⟩ := h.m
  exact h.dis
theorem Apt.clone {Za Ra Zd Rd : Nat → Prop} {w : World} {g : Nat} {M : PM} (h : MZ Za Ra w g M) (hz : ∀ k, Zd k → w.heap.size ≤ k) (hr : ∀ k, Rd k → (Ra k ∧ k < w.heap.size) ∨ w.heap.size ≤ k) : Apt Za Ra Zd Rd :=
  ⟨fun k hk h3 => by
    rcases h3 with h3 | h3
    · exact absurd (h.z k hk) (by have := hz k h3; omega)
    · rcases hr k h3 with h4 | h4
      · exact h.dis k hk h4.1
      · exact absurd (h.z k hk) (by omega), fun k hk h3 => by
    have := hz k hk
    rcases h3 with h3 | h3
    · exact absurd (h.z k h3) (by omega)
    · exact absurd (h.r k h3) (by omega)⟩
theorem Apt.clone2 {Za Ra Zb Rb Zd Rd : Nat → Prop} {w : World} {g : Nat} {M : PM} (ha : Apt Za Ra Zb Rb) (h : MZ Zb Rb w g M) (hz : ∀ k, Zd k → w.heap.size ≤ k) (hr : ∀ k, Rd k → (Ra k ∧ k < w.heap.size) ∨ w.heap.size ≤ k) : Apt Zb Rb Zd Rd :=
  ⟨fun k hk h3 => by
    rcases h3 with h3 | h3
    · exact absurd (h.z k hk) (by have := hz k h3; omega)
    · rcases hr k h3 with h4 | h4
      · exact ha.2 k hk (.inr h4.1)
      · exact absurd (h.z k hk) (by omega), fun k hk h3 => by
    have := hz k hk
    rcases h3 with h3 | h3
    · exact absurd (h.z k h3) (by omega)
    · exact absurd (h.r k h3) (by omega)⟩
/-- two machines of the ground, beside one another -/
structure Two (w0 : World) (ga : Nat) (Za Ra : Nat → Prop) (Ma : PM) (gb : Nat) (Zb Rb : Nat → Prop) (Mb : PM) (w : World) : Prop where
  a : MZ Za Ra w ga Ma
  b : MZ Zb Rb w gb Mb
  apt : Apt Za Ra Zb Rb
  gea : ∀ k, Za k → w0.heap.size ≤ k
  geb : ∀ k, Zb k → w0.heap.size ≤ k
  bel : Below w0.heap.size w0 w
theorem Two.swap {w0 : World} {ga : Nat} {Za Ra : Nat → Prop} {Ma : PM} {gb : Nat} {Zb Rb : Nat → Prop} {Mb : PM} {w : World} (h : Two w0 ga Za Ra Ma gb Zb Rb Mb w) : Two w0 gb Zb Rb Mb ga Za Ra Ma w := ⟨h.b, h.a, h.apt.symm, h.geb, h.gea, h.bel⟩
theorem Two.below {w0 : World} {ga : Nat} {Za Ra : Nat → Prop} {Ma : PM} {gb : Nat} {Zb Rb : Nat → Prop} {Mb : PM} {w w' : World} (h : Two w0 ga Za Ra Ma gb Zb Rb Mb w) (hb : Below w.heap.size w w') : Two w0 ga Za Ra Ma gb Zb Rb Mb w' := ⟨h.a.below hb, h.b.below hb, h.apt, h.gea, h.geb, h.bel.trans (hb.mono h.bel.size)⟩
theorem Two.step {w0 : World} {ga : Nat} {Za Ra : Nat → Prop} {Ma : PM} {gb : Nat} {Zb Rb : Nat → Prop} {Mb Ma' : PM} {w w' : World} {Za' : Nat → Prop} (h : Two w0 ga Za Ra Ma gb Zb Rb Mb w) (hm : MZ Za' Ra w' ga Ma') (hc : ChgP Za w w') (hz : ∀ k, Za' k → Za k ∨ w.heap.size ≤ k) : Two w0 ga Za' Ra Ma' gb Zb Rb Mb w' :=
  ⟨hm, h.b.chg hc (fun k hk hy => h.apt.1 k hy hk), h.apt.grow1 hz h.b.z h.b.r, fun k hk => by
    rcases hz k hk with h1 | h1
    · exact h.gea k h1
    · exact Nat.le_trans h.bel.size h1, h.geb, h.bel.trans (hc.below h.bel.size h.gea)⟩
theorem Two.quiet {w0 : World} {ga : Nat} {Za Ra : Nat → Prop} {Ma : PM} {gb : Nat} {Zb Rb : Nat → Prop} {Mb Ma' : PM} {w w' : World} (h : Two w0 ga Za Ra Ma gb Zb Rb Mb w) (hm : MZ Za Ra w' ga Ma') (hc : ChgP Za w w') : Two w0 ga Za Ra Ma' gb Zb Rb Mb w' := h.step hm hc (fun k hk => .inl hk)
/-- three machines of the ground, beside one another -/
structure Three (w0 : World) (ga : Nat) (Za Ra : Nat → Prop) (Ma : PM) (gb : Nat) (Zb Rb : Nat → Prop) (Mb : PM) (gd : Nat) (Zd Rd : Nat → Prop) (Md : PM) (w : World) : Prop where
  ab : Two w0 ga Za Ra Ma gb Zb Rb Mb w
  d : MZ Zd Rd w gd Md
  ad : Apt Za Ra Zd Rd
  bd : Apt Zb Rb Zd Rd
  ged : ∀ k, Zd k → w0.heap.size ≤ k
section
variable {w0 : World} {ga : Nat} {Za Ra : Nat → Prop} {Ma : PM} {gb : Nat} {Zb Rb : Nat → Prop} {Mb : PM} {gd : Nat} {Zd Rd : Nat → Prop} {Md : PM} {w w' : World}
theorem Three.below (h : Three w0 ga Za Ra Ma gb Zb Rb Mb gd Zd Rd Md w) (hb : Below w.heap.size w w') : Three w0 ga Za Ra Ma gb Zb Rb Mb gd Zd Rd Md w' := ⟨h.ab.below hb, h.d.below hb, h.ad, h.bd, h.ged⟩
theorem Three.ona {Ma' : PM} (h : Three w0 ga Za Ra Ma gb Zb Rb Mb gd Zd Rd Md w) (hm : MZ Za Ra w' ga Ma') (hc : ChgP Za w w') : Three w0 ga Za Ra Ma' gb Zb Rb Mb gd Zd Rd Md w' := ⟨h.ab.quiet hm hc, h.d.chg hc (fun k hk hy => h.ad.1 k hy hk), h.ad, h.bd, h.ged⟩
theorem Three.ond {Md' : PM} (h : Three w0 ga Za Ra Ma gb Zb Rb Mb gd Zd Rd Md w) (hm : MZ Zd Rd w' gd Md') (hc : ChgP Zd w w') : Three w0 ga Za Ra Ma gb Zb Rb Mb gd Zd Rd Md' w' :=
  ⟨⟨h.ab.a.chg hc (fun k hk hy => h.ad.2 k hy hk), h.ab.b.chg hc (fun k hk hy => h.bd.2 k hy hk), h.ab.apt, h.ab.gea, h.ab.geb, h.ab.bel.trans (hc.below h.ab.bel.size h.ged)⟩, hm, h.ad, h.bd, h.ged⟩
theorem Three.onb {Mb' : PM} {Zb' : Nat → Prop} (h : Three w0 ga Za Ra Ma gb Zb Rb Mb gd Zd Rd Md w) (hm : MZ Zb' Rb w' gb Mb') (hc : ChgP Zb w w') (hz : ∀ k, Zb' k → Zb k ∨ w.heap.size ≤ k) : Three w0 ga Za Ra Ma gb Zb' Rb Mb' gd Zd Rd Md w' :=
  ⟨(h.ab.swap.step hm hc hz).swap, h.d.chg hc (fun k hk hy => h.bd.1 k hy hk), h.ad, h.bd.grow1 hz h.d.z h.d.r, h.ged⟩
end
set_option maxRecDepth 100000 in
set_option maxHeartbeats 1000000 in
theorem busclones_walk (A : Option Addr) (n c : Nat) (bs : List Nat) (at_ v : Nat) (wh : Bool) (w : World) (hb : IsB w w.heap.size A n bs) (hat : at_ ≤ TOP) (hv : v ≤ TOP) :
    Calls Try.prog 7 #[.slice A n c, .int .u64 (at_ : Nat), .int .u64 (v : Nat), .bool wh] w fun e w' => e = .returned (.bool true) ∧ Below w.heap.size w w' := by
  have HG := Lib.hid (ground_any A n c bs w hb)
  have HV := Lib.hid hv
  obtain ⟨m, hm⟩ : ∃ m, m = min n 100 := ⟨_, rfl⟩
  rw [← hm] at HG
  have hm100 : m ≤ 100 := by omega
  have hat64 : at_ ≤ 18446744073709551615 := hat
  have hv64 : v ≤ 18446744073709551615 := hv
  clear hb hat hv hm
  go_enter Try.func7, Try.ntmps7
  go_upto_region 4 with (go_at_call 19; refine HG.out.mono ?_; rintro e w1 ⟨g, Z, R, rfl, hm1, hzr, hb1⟩; have HM1 := Lib.hid hm1; have HZR := Lib.hid hzr; have HB1 := Lib.hid hb1; clear hm1 hzr hb1)
  clear HG
  go_wp2_with fail
  refine (clone_m (w := w1) HM1.out (show 2 ≤ 1000000 by decide) (show 1 ≤ 1000000 by decide)).mono ?_
  intro e w2 hcl
  obtain ⟨hb2, g2, Z2, R2, rfl, hm2, hz2, hr2⟩ := hcl.mz
  have HT : Hid (Two w g Z R (gm bs m) g2 Z2 R2 ⟨gR, gD, gMem bs m, 0, 0, 0⟩ w2) := Lib.hid ⟨HM1.out.below hb2, hm2, Apt.clone HM1.out hz2 hr2, fun k hk => HZR.out k (.inl hk), fun k hk => Nat.le_trans HB1.out.size (hz2 k hk), HB1.out.trans (hb2.mono HB1.out.size)⟩
  clear hcl hb2 hm2 hz2 hr2
  clear HM1 HZR HB1
  have HOUT := Lib.hid (gMem_out bs m hm100)
  obtain ⟨kn, hkn⟩ : ∃ kn, kn = (gKs (gMem bs m)).length := ⟨_, rfl⟩
  have HKN := Lib.hid hkn
  clear hkn
  have HA1 : Hid (∀ wx, MZ Z R wx g (gm bs m) → Calls Try.prog 21 #[.pointer (some ⟨g, 0, none⟩)] wx (AllSaid Z R wx g (gm bs m))) := Lib.hid (fun wx h => all_g h rfl rfl (show 0 < 9223372036854775807 by decide))
  have HA2 : Hid (∀ wx, MZ Z2 R2 wx g2 ⟨gR, gD, gMem bs m, 0, 0, 0⟩ → Calls Try.prog 21 #[.pointer (some ⟨g2, 0, none⟩)] wx (AllSaid Z2 R2 wx g2 ⟨gR, gD, gMem bs m, 0, 0, 0⟩)) := Lib.hid (fun wx h => all_g h rfl rfl (show 0 < 9223372036854775807 by decide))
  have HK1 : Hid (∀ wx, MZ Z R wx g (gm bs m) → Calls Try.prog 11 #[.pointer (some ⟨g, 0, none⟩)] wx fun e w' => e = .returned (.int .i64 (kn : Nat)) ∧ wx = w') := Lib.hid (fun wx h => by rw [HKN.out]; exact kept_g h HOUT.out)
  have HK2 : Hid (∀ wx, MZ Z2 R2 wx g2 ⟨gR, gD, gMem bs m, 0, 0, 0⟩ → Calls Try.prog 11 #[.pointer (some ⟨g2, 0, none⟩)] wx fun e w' => e = .returned (.int .i64 (kn : Nat)) ∧ wx = w') := Lib.hid (fun wx h => by rw [HKN.out]; exact kept_g h HOUT.out)
  have HB1 : Hid (∀ wx, MZ Z R wx g (gm bs m) → Calls Try.prog 10 #[.pointer (some ⟨g, 0, none⟩)] wx (Twinned wx 2 1 gR gD)) := Lib.hid (fun wx h => bus_m h (show 2 ≤ 1000000 by decide) (show 1 ≤ 1000000 by decide))
  have HB2 : Hid (∀ wx, MZ Z2 R2 wx g2 ⟨gR, gD, gMem bs m, 0, 0, 0⟩ → Calls Try.prog 10 #[.pointer (some ⟨g2, 0, none⟩)] wx (Twinned wx 2 1 gR gD)) := Lib.hid (fun wx h => bus_m h (show 2 ≤ 1000000 by decide) (show 1 ≤ 1000000 by decide))
  go_wp2_with fail
  refine (HA1.out w2 HT.out.a).mono ?_
  rintro e w3 ⟨b1, rfl, h1, h2, h3, h4, h5⟩
  have HR1 := Lib.hid h2
  have HX1 := Lib.hid h3
  have HN1 : Hid (¬ Z2 b1) := Lib.hid (fun h => absurd (HT.out.b.z _ h) (by omega))
  have HT3 := Lib.hid (HT.out.quiet h4 h5)
  clear h1 h2 h3 h4 h5
  go_wp2_with fail
  refine (HA2.out w3 HT3.out.b).mono ?_
  rintro e w4 ⟨b2, rfl, h1, h2, h3, h4, h5⟩
  have HR2 := Lib.hid h2
  have HR14 := Lib.hid (h5.row HR1.out HN1.out)
  have HI1 := Lib.hid (allB_isB HR14.out HX1.out)
  have HI2 : Hid (IsB w4 w4.heap.size (some ⟨b2, 0, none⟩) 16384 (allB (gm bs m))) := Lib.hid (allB_isB (M := gm bs m) HR2.out HX1.out)
  have HT4 := Lib.hid (HT3.out.swap.quiet h4 h5).swap
  clear h1 h2 h3 h4 h5
  go_wp2_with fail
  refine (same_yes _ _ 16384 16384 16384 (allB (gm bs m)) w4 HI1.out HI2.out).mono ?_
  rintro e w5 ⟨rfl, mm, rfl⟩
  have HT5 := Lib.hid (HT4.out.below (below_drewN (Below.refl _ _) mm))
  go_wp2_with fail
  refine (HK2.out _ HT5.out.b).mono ?_
  rintro e w6 ⟨rfl, rfl⟩
  go_wp2_with fail
  refine (HK1.out _ HT5.out.a).mono ?_
  rintro e w6 ⟨rfl, rfl⟩
  go_wp2_with fail
  refine (HB1.out _ HT5.out.a).mono ?_
  rintro e w7 ⟨B1, B2, d1, d2, rfl, ht⟩
  have HT7 := Lib.hid (HT5.out.below ht.bel)
  have HB7 := Lib.hid ht
  clear ht
  go_wp2_with fail
  refine (HB2.out w7 HT7.out.b).mono ?_
  rintro e w8 ⟨B3, B4, d3, d4, rfl, ht⟩
  have HT8 := Lib.hid (HT7.out.below ht.bel)
  have HB8 := Lib.hid ht
  have HU1 : Hid (IsBus w8 B1 B2 2 1 gR gD) := Lib.hid ⟨(HB7.out.own1.below ht.bel).isS, (HB7.out.own2.below ht.bel).isS⟩
  have HU2 : Hid (IsBus w8 B3 B4 2 1 gR gD) := Lib.hid ⟨ht.own1.isS, ht.own2.isS⟩
  clear ht
  go_wp2_with fail
  refine (samebus_yes B1 B2 B3 B4 2 1 d1 d2 d3 d4 gR gD w8 HU1.out HU2.out).mono ?_
  rintro e w9 ⟨rfl, hb9⟩
  have HT9 := Lib.hid (HT8.out.below hb9)
  clear hb9
  go_upto_if 50 with fail
  go_upto_if 53 with fail
  go_cut [11, 12] (fun va vb wx => w9 = wx ∧ ∃ ga gb, va = .pointer (some ⟨ga, 0, none⟩) ∧ vb = .pointer (some ⟨gb, 0, none⟩) ∧ Hid (∃ Za Ra Zb Rb sa sb, sa ≤ 100 ∧ sb ≤ 100 ∧ Two w ga Za Ra ⟨gR, gD, gMem bs m, 0, sa, 0⟩ gb Zb Rb ⟨gR, gD, gMem bs m, 0, sb, 0⟩ w9))
  case first =>
    cases wh
    · go_wp2_with fail
      go_meet
      case rel => exact ⟨rfl, _, _, rfl, rfl, Lib.hid ⟨_, _, _, _, m, 0, hm100, by omega, HT9.out⟩⟩
    · go_wp2_with fail
      go_meet
      case rel => exact ⟨rfl, _, _, rfl, rfl, Lib.hid ⟨_, _, _, _, 0, m, by omega, hm100, HT9.out.swap⟩⟩
  case rest =>
  obtain ⟨rfl, ga, gb, rfl, rfl, hh⟩ := hcut
  clear HT HT3 HT4 HT5 HT7 HT8 HT9 HU1 HU2 HB7 HB8 HI1 HI2 HR1 HR2 HR14 HN1 HA1 HA2 HK1 HK2 HB1 HB2 HKN
  obtain ⟨Za, Ra, Zb, Rb, sa, sb, hsa, hsb, ht⟩ := hh.out
  have HT := Lib.hid ht
  clear hh ht
  go_wp2_with fail
  refine (all_g HT.out.b rfl rfl (show 0 < 9223372036854775807 by decide)).mono ?_
  rintro e w10 ⟨bw, rfl, h1, h2, h3, h4, h5⟩
  have HBX := Lib.hid h3
  have HRW := Lib.hid h2
  have HNA : Hid (¬ Za bw) := Lib.hid (fun h => absurd (HT.out.a.z _ h) (by omega))
  have HNB : Hid (¬ Zb bw) := Lib.hid (fun h => absurd (HT.out.b.z _ h) (by omega))
  have HT10 := Lib.hid (HT.out.swap.quiet h4 h5).swap
  clear h1 h2 h3 h4 h5 HT
  have HLB : Hid (∀ (wx : World) (Z R : Nat → Prop) (mem : Nat → Nat) (s : Nat), MZ Z R wx gb ⟨gR, gD, mem, 0, s, 0⟩ → Calls Try.prog 30 #[.pointer (some ⟨gb, 0, none⟩)] wx fun e w' => e = .returned (.int .i64 0) ∧ wx = w') := Lib.hid (fun wx Z R mem s h => loads_m h)
  go_wp2_with fail
  refine (HLB.out _ _ _ _ _ HT10.out.b).mono ?_
  rintro e w' ⟨rfl, rfl⟩
  obtain ⟨r, hr⟩ : ∃ r, r = at_ % 16376 := ⟨_, rfl⟩
  have e1 : (at_ : Int) % 16376 = (r : Int) := by omega
  obtain ⟨a, ha⟩ : ∃ a, a = 8192 + r := ⟨_, rfl⟩
  have e2 : (8192 : Int) + (r : Int) = (a : Int) := by omega
  have ha1 : 8192 ≤ a := by omega
  have ha2 : a + 8 ≤ 24576 := by omega
  have hr2 : r ≤ 16375 := by omega
  clear hr ha
  obtain ⟨y, hy⟩ : ∃ y, y = v % 256 := ⟨_, rfl⟩
  have e3 : (v : Int) % 256 = (y : Int) := by omega
  have hy256 : y < 256 := by omega
  clear hy
  go_wp2_with fail
  refine (store_m (n := 8) (v := v) (F := none) HT10.out.a (by omega) HV.out (show sa < _ by omega) (by unfold TOP; omega) (show 0 < 9223372036854775807 by decide) (g_in ⟨ha1, ha2⟩)).mono ?_
  rintro e w11 ⟨rfl, Z3, h1, h2, h3⟩
  have HT11 := Lib.hid (HT10.out.step h1 h2 h3)
  have HRW11 := Lib.hid (h2.row HRW.out HNA.out)
  have HNA11 : Hid (¬ Z3 bw) := Lib.hid (fun h => by rcases h3 bw h with h | h; exact HNA.out h; exact absurd HRW.out.lt (by omega))
  clear h1 h2 h3 HT10 HRW HNA
  go_wp2_with fail
  refine (load_m (n := 8) (at_ := a) (F := none) HT11.out.a (by omega) (by unfold TOP; omega) (show 0 < 9223372036854775807 by decide) (show 0 < 9223372036854775807 by decide) (g_in ⟨ha1, ha2⟩)).mono ?_
  rintro e w12 ⟨rfl, h1, h2⟩
  have HT12 := Lib.hid (HT11.out.quiet h1 h2)
  have HRW12 := Lib.hid (h2.row HRW11.out HNA11.out)
  clear h1 h2 HT11 HRW11
  go_wp2_with fail
  refine (fill_m (n := 4096) (at_ := 12288) (v := y) (F := none) HT12.out.a (by omega) hy256 (by decide) (show 0 < 9223372036854775807 by decide) (g_in ⟨by omega, by omega⟩)).mono ?_
  rintro e w13 ⟨rfl, Z4, h1, h2, h3⟩
  have HT13 := Lib.hid (HT12.out.step h1 h2 h3)
  have HRW13 := Lib.hid (h2.row HRW12.out HNA11.out)
  have HNA13 : Hid (¬ Z4 bw) := Lib.hid (fun h => by rcases h3 bw h with h | h; exact HNA11.out h; exact absurd HRW12.out.lt (by omega))
  clear h1 h2 h3 HT12 HRW12 HNA11
  obtain ⟨ma, hma⟩ : ∃ ma, ma = layM (layM (gMem bs m) a 8 (byteOf v)) 12288 4096 (fun _ => y) := ⟨_, rfl⟩
  have HMA : Hid (ma 12288 = y) := Lib.hid (by rw [hma]; exact if_pos ⟨by omega, by omega⟩)
  have HT14 : Hid (Two w ga Z4 Ra ⟨gR, gD, ma, 1, sa + 1, 0⟩ gb Zb Rb ⟨gR, gD, gMem bs m, 0, sb, 0⟩ w13) := Lib.hid (by rw [hma]; exact HT13.out)
  clear hma HT13
  go_wp2_with fail
  refine (clone_m HT14.out.a (show 2 ≤ 1000000 by decide) (show 1 ≤ 1000000 by decide)).mono ?_
  intro e w14 hcl
  obtain ⟨hb2, gd, Zd, Rd, rfl, hm2, hz2, hr2'⟩ := hcl.mz
  have HT3 : Hid (Three w ga Z4 Ra ⟨gR, gD, ma, 1, sa + 1, 0⟩ gb Zb Rb ⟨gR, gD, gMem bs m, 0, sb, 0⟩ gd Zd Rd ⟨gR, gD, ma, 0, 0, 0⟩ w14) := Lib.hid ⟨HT14.out.below hb2, hm2, Apt.clone HT14.out.a hz2 hr2', Apt.clone2 HT14.out.apt HT14.out.b hz2 hr2', fun k hk => Nat.le_trans HT14.out.bel.size (hz2 k hk)⟩
  have HRW14 := Lib.hid (HRW13.out.below hb2 HRW13.out.lt)
  have HND : Hid (¬ Zd bw) := Lib.hid (fun h => absurd (hz2 _ h) (by have := HRW13.out.lt; omega))
  clear hcl hb2 hm2 hz2 hr2' HT14 HRW13
  go_wp2_with fail
  refine (all_g HT3.out.ab.b rfl rfl (show 0 < 9223372036854775807 by decide)).mono ?_
  rintro e w15 ⟨bx, rfl, h1, h2, h3, h4, h5⟩
  have HJ1 := Lib.hid (allB_isB h2 h3)
  have HJ2 := Lib.hid (allB_isB (h5.row HRW14.out HNB.out) HBX.out)
  have HT15 := Lib.hid (HT3.out.onb h4 h5 (fun k hk => .inl hk))
  clear h1 h2 h3 h4 h5 HT3 HRW14
  go_wp2_with fail
  refine (same_yes _ _ 16384 16384 16384 _ w15 HJ1.out HJ2.out).mono ?_
  rintro e w16 ⟨rfl, mm, rfl⟩
  have HT16 := Lib.hid (HT15.out.below (below_drewN (Below.refl _ _) mm))
  clear HT15 HJ1 HJ2
  go_wp2_with fail
  refine (HLB.out _ _ _ _ _ HT16.out.ab.b).mono ?_
  rintro e w' ⟨rfl, rfl⟩
  go_wp2_with fail
  refine (all_g HT16.out.d rfl rfl (show 0 < 9223372036854775807 by decide)).mono ?_
  rintro e w17 ⟨b5, rfl, h1, h2, h3, h4, h5⟩
  have HX5 := Lib.hid h3
  have HR5 := Lib.hid h2
  have HN5 : Hid (¬ Z4 b5) := Lib.hid (fun h => absurd (HT16.out.ab.a.z _ h) (by omega))
  have HT17 := Lib.hid (HT16.out.ond h4 h5)
  clear h1 h2 h3 h4 h5 HT16
  go_wp2_with fail
  refine (all_g HT17.out.ab.a rfl rfl (show 0 < 9223372036854775807 by decide)).mono ?_
  rintro e w18 ⟨b6, rfl, h1, h2, h3, h4, h5⟩
  have HJ1 : Hid (IsB w18 w18.heap.size (some ⟨b5, 0, none⟩) 16384 (allB ⟨gR, gD, ma, 0, 0, 0⟩)) := Lib.hid (allB_isB (h5.row HR5.out HN5.out) HX5.out)
  have HJ2 : Hid (IsB w18 w18.heap.size (some ⟨b6, 0, none⟩) 16384 (allB ⟨gR, gD, ma, 0, 0, 0⟩)) := Lib.hid (allB_isB (M := ⟨gR, gD, ma, 0, 0, 0⟩) h2 h3)
  have HT18 := Lib.hid (HT17.out.ona h4 h5)
  clear h1 h2 h3 h4 h5 HT17
  go_wp2_with fail
  refine (same_yes _ _ 16384 16384 16384 _ w18 HJ1.out HJ2.out).mono ?_
  rintro e w19 ⟨rfl, mm2, rfl⟩
  have HT19 := Lib.hid (HT18.out.below (below_drewN (Below.refl _ _) mm2))
  clear HT18 HJ1 HJ2
  go_wp2_with fail
  refine (fill_m (n := 16384) (at_ := 8192) (v := 0) (F := none) HT19.out.ab.b (by omega) (by omega) (by decide) (show 0 < 9223372036854775807 by decide) (g_in ⟨by omega, by omega⟩)).mono ?_
  rintro e w20 ⟨rfl, Z5, h1, h2, h3⟩
  have HT20 := Lib.hid (HT19.out.onb h1 h2 h3)
  clear h1 h2 h3 HT19
  have HL1 : Hid (∀ (wx : World) (Z R : Nat → Prop) (g l s : Nat), l ≤ 5 → MZ Z R wx g ⟨gR, gD, ma, l, s, 0⟩ → Calls Try.prog 15 #[.pointer (some ⟨g, 0, none⟩), .int .u64 12288, .int .i64 1] wx fun e w' => e = .returned (.tuple #[.int .u64 (y : Nat), .agg #[.int .i64 0, .int .u64 0]]) ∧ Quiet1 Z R wx g ⟨gR, gD, ma, l + 1, s, 0⟩ w') := Lib.hid (fun wx Z R g l s hl h => by
    have hh := load_m (n := 1) (at_ := 12288) (F := none) h (by omega) (by decide) (show 0 < 9223372036854775807 by decide) (show l < 9223372036854775807 by omega) (g_in ⟨by omega, by omega⟩)
    unfold peekV at hh
    rw [numB_one, show (⟨gR, gD, ma, l, s, 0⟩ : PM).mem 12288 = y from HMA.out] at hh
    exact hh)
  go_wp2_with fail
  refine (HL1.out _ _ _ _ _ _ (by omega) HT20.out.ab.a).mono ?_
  rintro e w21 ⟨rfl, h1, h2⟩
  have HT21 := Lib.hid (HT20.out.ona h1 h2)
  clear h1 h2 HT20
  go_upto_region 23 with fail
  have hra := Row.new w21 42 [.int .i64 0, .int .u64 0]
  have HN6 : Hid (¬ Zd w21.heap.size) := Lib.hid (fun h => Nat.lt_irrefl _ (HT21.out.d.z _ h))
  have HT22 := Lib.hid (HT21.out.below ((Below.refl _ _).alloc (Nat.le_refl _) (.cells #[.int .i64 0, .int .u64 0] 42)))
  have HRA := Lib.hid hra
  clear hra HT21
  obtain ⟨ba, hba⟩ : ∃ ba, ba = w21.heap.size := ⟨_, rfl⟩
  generalize w21.alloc (.cells #[.int .i64 0, .int .u64 0] 42) = w22 at *
  rw [← hba] at HRA HN6 ⊢
  clear hba
  go_wp2_with fail
  refine (HL1.out _ _ _ _ _ _ (by omega) HT22.out.d).mono ?_
  rintro e w23 ⟨rfl, h1, h2⟩
  have HT23 := Lib.hid (HT22.out.ond h1 h2)
  have HRA23 := Lib.hid (h2.row HRA.out HN6.out)
  clear h1 h2 HT22 HRA
  go_upto_region 24 with fail
  have hrb := Row.new w23 42 [.int .i64 0, .int .u64 0]
  have HT24 := Lib.hid (HT23.out.below ((Below.refl _ _).alloc (Nat.le_refl _) (.cells #[.int .i64 0, .int .u64 0] 42)))
  have hra24 := HRA23.out.alloc (.cells #[.int .i64 0, .int .u64 0] 42)
  clear HT23 HRA23
  obtain ⟨bb, hbb⟩ : ∃ bb, bb = w23.heap.size := ⟨_, rfl⟩
  generalize w23.alloc (.cells #[.int .i64 0, .int .u64 0] 42) = w24 at *
  rw [← hbb] at hrb ⊢
  clear hbb
  have a0 := hra24.cell 0
  have la := hra24.lt
  have b0 := hrb.cell 0
  have lb := hrb.lt
  simp only [List.getElem?_cons_zero] at a0 b0
  clear hra24 hrb
  have HZ0 : Hid (∀ p, layM (gMem bs m) 8192 16384 (fun _ => 0) p = 0) := Lib.hid (fun p => by
    unfold layM
    split
    · rfl
    · exact HOUT.out p (by omega))
  have HKP : Hid (Calls Try.prog 11 #[.pointer (some ⟨gb, 0, none⟩)] w24 fun e w' => e = .returned (.int .i64 0) ∧ w24 = w') := Lib.hid (kept_m (ks := []) HT24.out.ab.b List.nodup_nil (fun k => ⟨fun h => (by cases h), fun ⟨i, _, hn⟩ => absurd (HZ0.out _) hn⟩))
  go_wp2_with fail
  refine HKP.out.mono ?_
  rintro e w' ⟨rfl, rfl⟩
  go_wp2_with fail
  go_ret
  exact ⟨by first | rfl | trivial, HT24.out.ab.bel⟩
end Bu
end Go.Proofs.Ytmhkmemaneopeaa
