/- The walk of the law BusNames. -/
import Derived.Test.YtmhkmemaneopeaaBuW
set_option linter.unusedVariables false
set_option linter.unusedSimpArgs false
namespace Go.Proofs.Ytmhkmemaneopeaa
open Go.RowKit
open S64
namespace Bu
theorem isS_row {w : World} {g n : Nat} {t : TypeId} {s : Sp.S} (h : Row w g t (s.map scell).flatten) (hn : s.length = n) (hl : n ≤ 1000) : IsS w w.heap.size (some ⟨g, 0, none⟩) n s := by
  have hle := flat_len (s := 2) (s.map scell) (scell_len s)
  rw [List.length_map, hn] at hle
  refine ⟨⟨by rw [hle, Nat.mul_comm], fun _ => ⟨_, rfl, h.lt, fun j u hu => ?_⟩⟩, hn, by omega⟩
  rw [Addr.add_mid, Nat.zero_add, h.cell]; exact hu
/-- a block that is none of the machine's stays -/
theorem Laid1.row {Z R : Nat → Prop} {w w' : World} {g g' : Nat} {M : PM} {t : TypeId} {cs : List Value} (h : Laid1 Z R w g M w') (hr : Row w g' t cs) (hz : ¬ Z g') : Row w' g' t cs := by
  obtain ⟨Z', _, hc, _⟩ := h
  exact hc.row hr hz
def nR : Sp.S := [(4096, 8192)]
def nD : Sp.S := [(12288, 4096)]
def nM1 : PM := ⟨nR, nD, fun _ => 0, 0, 0, 0⟩
def nM2 : PM := ⟨nR, nD, layM (fun _ => 0) 12284 8 (byteOf 18446744073709551615), 0, 1, 0⟩
def nM3 : PM := ⟨nR, nD, layM (fun _ => 0) 12284 8 (byteOf 18446744073709551615), 1, 1, 0⟩
def nM4 : PM := ⟨nR, nD, layM (fun _ => 0) 12284 8 (byteOf 18446744073709551615), 1, 1, 1⟩
theorem n_new : newE nR nD = 0 := by decide +kernel
theorem n_on {p : Nat} (h1 : 4096 ≤ p) (h2 : p < 16384) : on (nR ++ nD) p = true := by
  simp [on, nR, nD]; omega
theorem n_off : on (nR ++ nD) 16384 = false := by decide
theorem n_load : numB nM2.mem 12287 2 = 65535 := by decide +kernel
theorem n_where : spotF nM3 12290 3 = some (2, 0, 2) := by decide +kernel
theorem n_kept (k : Nat) : k ∈ [2, 3] ↔ nz nM4.mem k := by
  constructor
  · intro h
    rcases List.mem_cons.1 h with rfl | h
    · exact ⟨4092, by omega, by decide +kernel⟩
    · rw [List.mem_singleton.1 h]
      exact ⟨0, by omega, by decide +kernel⟩
  · rintro ⟨i, hi, hn⟩
    by_cases h : 12284 ≤ 4096 * k + i ∧ 4096 * k + i < 12284 + 8
    · simp; omega
    · exfalso
      apply hn
      simp only [nM4, layM]
      rw [if_neg h]
set_option maxRecDepth 100000 in
set_option maxHeartbeats 2000000 in
theorem busnames_walk (w : World) : Calls Try.prog 6 #[] w fun e w' => e = .returned (.bool true) ∧ Below w.heap.size w w' := by
  have HNW : Hid (∀ (wx : World) (a b : Nat), Row wx a 31 [.int .u64 4096, .int .u64 8192] → Row wx b 31 [.int .u64 12288, .int .u64 4096] → Calls Try.prog 29 #[.agg #[.slice (some ⟨a, 0, none⟩) 1 1, .slice (some ⟨b, 0, none⟩) 1 1]] wx (NewSaid wx nR nD)) := Lib.hid (fun wx a b ha hb =>
    new_any _ _ 1 1 1 1 nR nD wx (isS_row (s := nR) ha rfl (by omega)) (isS_row (s := nD) hb rfl (by omega)) (by intro x hx; rw [List.mem_singleton.1 hx]; decide) (by intro x hx; rw [List.mem_singleton.1 hx]; decide))
  have HST : Hid (∀ (wx : World) (Z R : Nat → Prop) (g : Nat), MZ Z R wx g nM1 → Calls Try.prog 27 #[.pointer (some ⟨g, 0, none⟩), .int .u64 12284, .int .i64 8, .int .u64 18446744073709551615] wx fun e w' => e = .returned (.agg #[.int .i64 0, .int .u64 0]) ∧ Laid1 Z R wx g nM2 w') := Lib.hid (fun wx Z R g h => store_m (n := 8) (at_ := 12284) (v := 18446744073709551615) (F := none) h (by omega) (by decide) (by decide) (by decide) (by decide) (fun p h1 h2 => n_on (by omega) (by omega)))
  have HL1 : Hid (∀ (wx : World) (Z R : Nat → Prop) (g : Nat), MZ Z R wx g nM2 → Calls Try.prog 15 #[.pointer (some ⟨g, 0, none⟩), .int .u64 12287, .int .i64 2] wx fun e w' => e = .returned (.tuple #[.int .u64 65535, .agg #[.int .i64 0, .int .u64 0]]) ∧ Quiet1 Z R wx g nM3 w') := Lib.hid (fun wx Z R g h => by
    have hh := load_m (n := 2) (at_ := 12287) (F := none) h (by omega) (by decide) (by decide) (by decide) (fun p h1 h2 => n_on (by omega) (by omega))
    unfold peekV at hh
    rw [n_load] at hh
    exact hh)
  have HWH : Hid (∀ (wx : World) (Z R : Nat → Prop) (g : Nat), MZ Z R wx g nM3 → Calls Try.prog 13 #[.pointer (some ⟨g, 0, none⟩), .int .u64 12290] wx fun e w' => e = .returned (.tuple #[.agg #[.int .i64 2, .int .i64 0, .int .u64 2], .bool true]) ∧ Below wx.heap.size wx w') := Lib.hid (fun wx Z R g h => by
    have hh := where_m (at_ := 12290) h (by decide)
    rw [n_where] at hh
    exact hh)
  have HL2 : Hid (∀ (wx : World) (Z R : Nat → Prop) (g : Nat), MZ Z R wx g nM3 → Calls Try.prog 15 #[.pointer (some ⟨g, 0, none⟩), .int .u64 16380, .int .i64 8] wx fun e w' => e = .returned (.tuple #[.int .u64 0, .agg #[.int .i64 30, .int .u64 16384]]) ∧ Quiet1 Z R wx g nM4 w') := Lib.hid (fun wx Z R g h =>
    load_m (n := 8) (at_ := 16380) (F := some 16384) h (by omega) (by decide) (by decide) (by decide) ⟨by omega, by omega, n_off, by decide, fun p h1 h2 => n_on (by omega) (by omega)⟩)
  have HKP : Hid (∀ (wx : World) (Z R : Nat → Prop) (g : Nat), MZ Z R wx g nM4 → Calls Try.prog 11 #[.pointer (some ⟨g, 0, none⟩)] wx fun e w' => e = .returned (.int .i64 2) ∧ wx = w') := Lib.hid (fun wx Z R g h => kept_m (ks := [2, 3]) h (by decide) n_kept)
  have HA1 : Hid (∀ (wx : World) (Z R : Nat → Prop) (g : Nat), MZ Z R wx g nM4 → Calls Try.prog 28 #[.pointer (some ⟨g, 0, none⟩)] wx fun e w' => e = .returned (.int .i64 1) ∧ wx = w') := Lib.hid (fun wx Z R g h => strays_m h)
  have HA2 : Hid (∀ (wx : World) (Z R : Nat → Prop) (g : Nat), MZ Z R wx g nM4 → Calls Try.prog 30 #[.pointer (some ⟨g, 0, none⟩)] wx fun e w' => e = .returned (.int .i64 1) ∧ wx = w') := Lib.hid (fun wx Z R g h => loads_m h)
  have HA3 : Hid (∀ (wx : World) (Z R : Nat → Prop) (g : Nat), MZ Z R wx g nM4 → Calls Try.prog 31 #[.pointer (some ⟨g, 0, none⟩)] wx fun e w' => e = .returned (.int .i64 1) ∧ wx = w') := Lib.hid (fun wx Z R g h => stores_m h)
  go_enter Try.func6, Try.ntmps6
  go_wp2_with fail
  have hr2 : Row ((w.alloc (.cells #[.int .u64 4096, .int .u64 8192] 31)).alloc (.cells #[.int .u64 12288, .int .u64 4096] 31)) (w.heap.size + 1) 31 [.int .u64 12288, .int .u64 4096] := by
    have h := Row.new (w.alloc (.cells #[.int .u64 4096, .int .u64 8192] 31)) 31 [.int .u64 12288, .int .u64 4096]
    rw [sz_alloc] at h
    exact h
  have hr1 : Row ((w.alloc (.cells #[.int .u64 4096, .int .u64 8192] 31)).alloc (.cells #[.int .u64 12288, .int .u64 4096] 31)) w.heap.size 31 [.int .u64 4096, .int .u64 8192] := (Row.new w _ [.int .u64 4096, .int .u64 8192]).alloc _
  have hb0 : Below w.heap.size w ((w.alloc (.cells #[.int .u64 4096, .int .u64 8192] 31)).alloc (.cells #[.int .u64 12288, .int .u64 4096] 31)) := ((Below.refl _ _).alloc (Nat.le_refl _) _).alloc (by simp) _
  have HR1 := Lib.hid hr1; have HR2 := Lib.hid hr2; have HB0 := Lib.hid hb0
  clear hr1 hr2 hb0
  generalize (w.alloc (.cells #[.int .u64 4096, .int .u64 8192] 31)).alloc (.cells #[.int .u64 12288, .int .u64 4096] 31) = w0 at *
  refine (HNW.out w0 w.heap.size (w.heap.size + 1) HR1.out HR2.out).mono ?_
  intro e w1 hn
  obtain ⟨hb1, g, Z, R, rfl, hm1, hzr⟩ := hn.mz n_new
  have HB1 := Lib.hid (HB0.out.trans (hb1.mono HB0.out.size))
  have HM1 := Lib.hid hm1
  have HZR : Hid (∀ k, Z k → w.heap.size ≤ k) := Lib.hid (fun k hk => Nat.le_trans HB0.out.size (hzr k (.inl hk)))
  clear hn hb1 hm1 hzr HR1 HR2 HB0 HNW
  go_upto_region 6 with fail
  go_upto_region 7 with (go_at_call 27; refine (HST.out w1 Z R g HM1.out).mono ?_; rintro e w2 ⟨rfl, Z2, hm2, hc2, hz2⟩; have HM2 := Lib.hid hm2; have HB2 : Hid (Below w.heap.size w w2) := Lib.hid (HB1.out.trans (hc2.below HB1.out.size HZR.out)); have HZ2 : Hid (∀ k, Z2 k → w.heap.size ≤ k) := Lib.hid (fun k hk => by rcases hz2 k hk with h | h; exact HZR.out k h; exact Nat.le_trans HB1.out.size h); clear hm2 hc2 hz2)
  have hra := Row.new w2 42 [.int .i64 0, .int .u64 0]
  have HM3 := Lib.hid (HM2.out.below ((Below.refl _ _).alloc (Nat.le_refl _) (.cells #[.int .i64 0, .int .u64 0] 42)))
  have HB3 := Lib.hid (HB2.out.alloc HB2.out.size (.cells #[.int .i64 0, .int .u64 0] 42))
  have HNA : Hid (¬ Z2 w2.heap.size) := Lib.hid (fun h => Nat.lt_irrefl _ (HM2.out.z _ h))
  have HRA := Lib.hid hra
  clear hra HM1 HB1 HZR HST HM2 HB2
  obtain ⟨ba, hba⟩ : ∃ ba, ba = w2.heap.size := ⟨_, rfl⟩
  generalize w2.alloc (.cells #[.int .i64 0, .int .u64 0] 42) = w3 at *
  rw [← hba] at HRA HNA ⊢
  clear hba
  go_upto_region 8 with (go_at_call 15; refine (HL1.out w3 Z2 R g HM3.out).mono ?_; rintro e w4 ⟨rfl, hm4, hc4⟩; have HM4 := Lib.hid hm4; have HB4 : Hid (Below w.heap.size w w4) := Lib.hid (HB3.out.trans (hc4.below HB3.out.size HZ2.out)); have HRA4 := Lib.hid (hc4.row HRA.out HNA.out); clear hm4 hc4)
  have hrb := Row.new w4 42 [.int .i64 0, .int .u64 0]
  have HM5 := Lib.hid (HM4.out.below ((Below.refl _ _).alloc (Nat.le_refl _) (.cells #[.int .i64 0, .int .u64 0] 42)))
  have HB5 := Lib.hid (HB4.out.alloc HB4.out.size (.cells #[.int .i64 0, .int .u64 0] 42))
  have HNB : Hid (¬ Z2 w4.heap.size) := Lib.hid (fun h => Nat.lt_irrefl _ (HM4.out.z _ h))
  have HRA5 := Lib.hid (HRA4.out.alloc (.cells #[.int .i64 0, .int .u64 0] 42))
  have HRB := Lib.hid hrb
  clear hrb HM3 HB3 HL1 HM4 HB4 HRA HRA4
  obtain ⟨bb, hbb⟩ : ∃ bb, bb = w4.heap.size := ⟨_, rfl⟩
  generalize w4.alloc (.cells #[.int .i64 0, .int .u64 0] 42) = w5 at *
  rw [← hbb] at HRB HNB ⊢
  clear hbb
  go_upto_region 9 with (go_at_call 13; refine (HWH.out w5 Z2 R g HM5.out).mono ?_; rintro e w6 ⟨rfl, hb6⟩; have HM6 := Lib.hid (HM5.out.below hb6); have HB6 := Lib.hid (HB5.out.trans (hb6.mono HB5.out.size)); have HRA6 := Lib.hid (HRA5.out.below hb6 HRA5.out.lt); have HRB6 := Lib.hid (HRB.out.below hb6 HRB.out.lt); clear hb6)
  have hrc := Row.new w6 37 [.int .i64 2, .int .i64 0, .int .u64 2]
  have HM7 := Lib.hid (HM6.out.below ((Below.refl _ _).alloc (Nat.le_refl _) (.cells #[.int .i64 2, .int .i64 0, .int .u64 2] 37)))
  have HB7 := Lib.hid (HB6.out.alloc HB6.out.size (.cells #[.int .i64 2, .int .i64 0, .int .u64 2] 37))
  have HNC : Hid (¬ Z2 w6.heap.size) := Lib.hid (fun h => Nat.lt_irrefl _ (HM6.out.z _ h))
  have HRA7 := Lib.hid (HRA6.out.alloc (.cells #[.int .i64 2, .int .i64 0, .int .u64 2] 37))
  have HRB7 := Lib.hid (HRB6.out.alloc (.cells #[.int .i64 2, .int .i64 0, .int .u64 2] 37))
  have HRC := Lib.hid hrc
  clear hrc HM5 HB5 HWH HM6 HB6 HRA5 HRB HRA6 HRB6
  obtain ⟨bc, hbc⟩ : ∃ bc, bc = w6.heap.size := ⟨_, rfl⟩
  generalize w6.alloc (.cells #[.int .i64 2, .int .i64 0, .int .u64 2] 37) = w7 at *
  rw [← hbc] at HRC HNC ⊢
  clear hbc
  go_upto_region 10 with (go_at_call 15; refine (HL2.out w7 Z2 R g HM7.out).mono ?_; rintro e w8 ⟨rfl, hm8, hc8⟩; have HM8 := Lib.hid hm8; have HB8 : Hid (Below w.heap.size w w8) := Lib.hid (HB7.out.trans (hc8.below HB7.out.size HZ2.out)); have HRA8 := Lib.hid (hc8.row HRA7.out HNA.out); have HRB8 := Lib.hid (hc8.row HRB7.out HNB.out); have HRC8 := Lib.hid (hc8.row HRC.out HNC.out); clear hm8 hc8)
  have hrd := Row.new w8 42 [.int .i64 30, .int .u64 16384]
  have HM9 := Lib.hid (HM8.out.below ((Below.refl _ _).alloc (Nat.le_refl _) (.cells #[.int .i64 30, .int .u64 16384] 42)))
  have HB9 := Lib.hid (HB8.out.alloc HB8.out.size (.cells #[.int .i64 30, .int .u64 16384] 42))
  have hra9 := HRA8.out.alloc (.cells #[.int .i64 30, .int .u64 16384] 42)
  have hrb9 := HRB8.out.alloc (.cells #[.int .i64 30, .int .u64 16384] 42)
  have hrc9 := HRC8.out.alloc (.cells #[.int .i64 30, .int .u64 16384] 42)
  clear HM7 HB7 HL2 HM8 HB8 HRA7 HRB7 HRC HRA8 HRB8 HRC8
  obtain ⟨bd, hbd⟩ : ∃ bd, bd = w8.heap.size := ⟨_, rfl⟩
  generalize w8.alloc (.cells #[.int .i64 30, .int .u64 16384] 42) = w9 at *
  rw [← hbd] at hrd ⊢
  clear hbd
  have a0 := hra9.cell 0
  have a1 := hra9.cell 1
  have la := hra9.lt
  have b0 := hrb9.cell 0
  have b1 := hrb9.cell 1
  have lb := hrb9.lt
  have c0 := hrc9.cell 0
  have c1 := hrc9.cell 1
  have c2 := hrc9.cell 2
  have lc := hrc9.lt
  have d0 := hrd.cell 0
  have d1 := hrd.cell 1
  have ld := hrd.lt
  have lg := HM9.out.lt
  simp only [List.getElem?_cons_zero, List.getElem?_cons_succ] at a0 a1 b0 b1 c0 c1 c2 d0 d1
  clear hra9 hrb9 hrc9 hrd
  go_wp2_with (first
    | (go_at_call 11; refine (HKP.out w9 Z2 R g HM9.out).mono ?_; rintro e w' ⟨rfl, rfl⟩)
    | (go_at_call 28; refine (HA1.out w9 Z2 R g HM9.out).mono ?_; rintro e w' ⟨rfl, rfl⟩)
    | (go_at_call 30; refine (HA2.out w9 Z2 R g HM9.out).mono ?_; rintro e w' ⟨rfl, rfl⟩)
    | (go_at_call 31; refine (HA3.out w9 Z2 R g HM9.out).mono ?_; rintro e w' ⟨rfl, rfl⟩))
  go_ret
  exact ⟨rfl, HB9.out⟩
end Bu
end Go.Proofs.Ytmhkmemaneopeaa
