/- The walk of the law BusStores. -/
import Derived.Test.YtmhkmemaneopeaaBuG
set_option linter.unusedVariables false
set_option linter.unusedSimpArgs false
namespace Go.Proofs.Ytmhkmemaneopeaa
open Go.RowKit
open S64
namespace Bu
theorem numB_one (mem : Nat → Nat) (a : Nat) : numB mem a 1 = mem a := by simp [numB, Wd.unle]
theorem unle_bytes (v : Nat) : ∀ (k j : Nat), Wd.unle ((List.range k).map fun i => byteOf v (j + i)) = v / 2 ^ (8 * j) % 256 ^ k
  | 0, j => by simp [Wd.unle, Nat.mod_one]
  | k + 1, j => by
    rw [List.range_succ_eq_map, List.map_cons, List.map_map, Wd.unle]
    have e : ((fun i => byteOf v (j + i)) ∘ Nat.succ) = fun i => byteOf v ((j + 1) + i) := by
      funext i
      show byteOf v (j + (i + 1)) = byteOf v (j + 1 + i)
      rw [Nat.add_assoc, Nat.add_comm 1 i]
    rw [e, unle_bytes v k (j + 1)]
    unfold byteOf
    rw [show 8 * (j + 1) = 8 * j + 8 by omega, Nat.pow_add, ← Nat.div_div_eq_div_mul, Nat.add_zero, show (2 : Nat) ^ 8 = 256 from rfl, Nat.pow_succ, Nat.mul_comm (256 ^ k) 256, Nat.mod_mul]
theorem numB_lay (mem : Nat → Nat) (at_ k v : Nat) : numB (layM mem at_ k (byteOf v)) at_ k = v % 256 ^ k := by
  have h := unle_bytes v k 0
  simp only [Nat.mul_zero, Nat.pow_zero, Nat.div_one, Nat.zero_add] at h
  rw [← h, numB]
  congr 1
  refine List.map_congr_left fun i hi => ?_
  unfold layM
  rw [if_pos ⟨by omega, by have := List.mem_range.1 hi; omega⟩, show at_ + i - at_ = i by omega]
theorem allB_get (M : PM) (j : Nat) (hj : j < 16384) : ((allB M).map u8)[j]? = some (.int .u8 ((M.mem (8192 + j) : Nat) : Int)) := by
  rw [List.getElem?_map, allB, memB_get _ _ _ _ hj]; rfl
theorem allB_len (M : PM) : (allB M).length = 16384 := memB_len _ _ _
theorem allB_isB {w : World} {b : Nat} {M : PM} (h : Row w b 5 ((allB M).map u8)) (hb : ∀ x ∈ allB M, x < 256) : IsB w w.heap.size (some ⟨b, 0, none⟩) 16384 (allB M) :=
  IsB.of_row h (by rw [List.drop_zero, List.take_of_length_le (by rw [List.length_map, allB_len]; omega)]) (allB_len M) hb h.lt (by omega) (by rw [List.length_map, allB_len]; omega)
/-- what holds while the bytes are asked -/
structure StI (w : World) (g : Nat) (Z R : Nat → Prop) (M0 M1 : PM) (b1 b2 bf : Nat) (j : Nat) (wr : World) : Prop where
  m : ∃ c, c ≤ j ∧ MZ Z R wr g { M1 with loads := c }
  r1 : Row wr b1 5 ((allB M0).map u8)
  r2 : Row wr b2 5 ((allB M1).map u8)
  rf : Row wr bf 42 [.int .i64 0, .int .u64 0]
  n1 : ¬ Z b1
  n2 : ¬ Z b2
  nf : ¬ Z bf
  ge : ∀ x, Z x → w.heap.size ≤ x
  bel : Below w.heap.size w wr
theorem StI.next {w : World} {g : Nat} {Z R : Nat → Prop} {M0 M1 : PM} {b1 b2 bf j : Nat} {wr : World} (h : StI w g Z R M0 M1 b1 b2 bf j wr) : StI w g Z R M0 M1 b1 b2 bf (j + 1) wr := by
  obtain ⟨⟨c, hc, hm⟩, h2, h3, h4, h5, h6, h7, h8, h9⟩ := h
  exact ⟨⟨c, by omega, hm⟩, h2, h3, h4, h5, h6, h7, h8, h9⟩
set_option maxRecDepth 100000 in
set_option maxHeartbeats 4000000 in
theorem busstores_walk (A : Option Addr) (n c : Nat) (bs : List Nat) (at_ v : Nat) (z : Int) (w : World) (hb : IsB w w.heap.size A n bs) (hat : at_ ≤ TOP) (hv : v ≤ TOP) (hz : -9223372036854775808 ≤ z ∧ z ≤ 9223372036854775807) :
    Calls Try.prog 5 #[.slice A n c, .int .u64 (at_ : Nat), .int .i64 z, .int .u64 (v : Nat)] w fun e w' => e = .returned (.bool true) ∧ Below w.heap.size w w' := by
  have HG := Lib.hid (ground_any A n c bs w hb)
  have HAT := Lib.hid hat
  have HV := Lib.hid hv
  have HZ := Lib.hid hz
  obtain ⟨m, hm⟩ : ∃ m, m = min n 100 := ⟨_, rfl⟩
  rw [← hm] at HG
  have hm100 : m ≤ 100 := by omega
  clear hb hat hv hz hm
  have hat64 : at_ ≤ 18446744073709551615 := HAT.out
  have hv64 : v ≤ 18446744073709551615 := HV.out
  go_enter Try.func5, Try.ntmps5
  go_upto_region 4 with (go_at_call 19; refine HG.out.mono ?_; rintro e w1 ⟨g, Z, R, rfl, hm1, hzr, hb1⟩; have HM1 := Lib.hid hm1; have HZR := Lib.hid hzr; have HB1 := Lib.hid hb1; clear hm1 hzr hb1)
  clear HG
  go_upto_region 5 with (go_at_call 26; refine (widen_any z w1 HZ.out).mono ?_; rintro e w2 ⟨k, hk, rfl, hb2⟩; have HK := Lib.hid hk; have HM2 := Lib.hid (HM1.out.below hb2); have HB2 := Lib.hid (HB1.out.trans (hb2.mono HB1.out.size)); clear hk hb2)
  clear HM1 HB1
  have hk8 : k ≤ 8 := by rcases HK.out with h | h | h | h <;> omega
  have hk0 : 0 < k := by rcases HK.out with h | h | h | h <;> omega
  go_upto_region 6 with (go_at_call 21; refine (all_g (w := w2) HM2.out rfl rfl (show 0 < 9223372036854775807 by decide)).mono ?_; rintro e w3 ⟨b1, rfl, h1, h2, h3, h4, h5⟩; have HN1 : Hid (¬ Z b1) := Lib.hid (fun h => absurd (HM2.out.z _ h) (by omega)); have HR1 := Lib.hid h2; have HX1 := Lib.hid h3; have HM3 := Lib.hid h4; have HB3 : Hid (Below w.heap.size w w3) := Lib.hid (HB2.out.trans (h5.below HB2.out.size (fun x hx => HZR.out x (.inl hx)))); clear h1 h2 h3 h4 h5)
  clear HM2 HB2
  have HZG : Hid (∀ x, Z x → w.heap.size ≤ x) := Lib.hid (fun x hx => HZR.out x (.inl hx))
  by_cases hin : 8192 ≤ at_ ∧ at_ + k ≤ 24576
  · have HIN : Hid (inB at_ k = true) := Lib.hid (decide_eq_true hin)
    have hk63 : k ≤ 9223372036854775807 := by omega
    have hin1 : 8192 ≤ at_ := hin.1
    have hin2 : at_ + k ≤ 24576 := hin.2
    have HF := Lib.hid (g_in hin)
    clear hin
    obtain ⟨M1, hM1⟩ : ∃ M1 : PM, M1 = ⟨gR, gD, layM (gMem bs m) at_ k (byteOf v), 0, m + 1, 0⟩ := ⟨_, rfl⟩
    have HSM : Hid (Calls Try.prog 27 #[.pointer (some ⟨g, 0, none⟩), .int .u64 (at_ : Nat), .int .i64 (k : Nat), .int .u64 (v : Nat)] w3 fun e w' => e = .returned (.agg #[.int .i64 0, .int .u64 0]) ∧ Laid1 Z R w3 g M1 w') := Lib.hid (by
      rw [hM1]
      exact store_m HM3.out HK.out HV.out (show m < 9223372036854775807 by omega) HAT.out (show 0 < 9223372036854775807 by decide) HF.out)
    have HE1 : Hid (M1.rams = gR ∧ M1.devs = gD ∧ M1.strays = 0 ∧ M1.mem = layM (gMem bs m) at_ k (byteOf v)) := Lib.hid (by rw [hM1]; exact ⟨rfl, rfl, rfl, rfl⟩)
    have HL0 : Hid (M1 = { M1 with loads := 0 }) := Lib.hid (by rw [hM1])
    clear hM1
    go_upto_region 7 with (go_at_call 27; refine HSM.out.mono ?_; rintro e w4 ⟨rfl, Z4, h1, h2, h3⟩; have HM4 := Lib.hid h1; have HR4 := Lib.hid (h2.row HR1.out HN1.out); have HN4 : Hid (¬ Z4 b1) := Lib.hid (fun h => by rcases h3 b1 h with h | h; exact HN1.out h; exact absurd HR1.out.lt (by omega)); have HB4 : Hid (Below w.heap.size w w4) := Lib.hid (HB3.out.trans (h2.below HB3.out.size HZG.out)); have HZ4 : Hid (∀ x, Z4 x → w.heap.size ≤ x) := Lib.hid (fun x hx => by rcases h3 x hx with h | h; exact HZG.out x h; exact Nat.le_trans HB3.out.size h); clear h1 h2 h3)
    clear HSM HM3 HR1 HN1 HB3 HZG HZR
    have hrf := Row.new w4 42 [.int .i64 0, .int .u64 0]
    have HM5 := Lib.hid (HM4.out.below ((Below.refl _ _).alloc (Nat.le_refl _) (.cells #[.int .i64 0, .int .u64 0] 42)))
    have HB5 := Lib.hid (HB4.out.alloc HB4.out.size (.cells #[.int .i64 0, .int .u64 0] 42))
    have HR5 := Lib.hid (HR4.out.alloc (.cells #[.int .i64 0, .int .u64 0] 42))
    have HNF : Hid (¬ Z4 w4.heap.size) := Lib.hid (fun h => Nat.lt_irrefl _ (HM4.out.z _ h))
    have HRF := Lib.hid hrf
    clear hrf HM4 HB4 HR4
    obtain ⟨bf, hbf⟩ : ∃ bf, bf = w4.heap.size := ⟨_, rfl⟩
    generalize w4.alloc (.cells #[.int .i64 0, .int .u64 0] 42) = w5 at *
    rw [← hbf] at HRF HNF ⊢
    clear hbf
    go_upto_region 8 with (go_at_call 21; refine (all_g (w := w5) HM5.out HE1.out.1 HE1.out.2.1 (by rw [HE1.out.2.2.1]; decide)).mono ?_; rintro e w6 ⟨b2, rfl, hb2, h2, h3, h4, h5⟩; have HX2 := Lib.hid h3; have HI : Hid (StI w g Z4 R (gm bs m) M1 b1 b2 bf 0 w6) := Lib.hid ⟨⟨0, Nat.le_refl _, by rw [← HL0.out]; exact h4⟩, h5.row HR5.out HN4.out, h2, h5.row HRF.out HNF.out, HN4.out, (fun h => absurd (HM5.out.z _ h) (by omega)), HNF.out, HZ4.out, HB5.out.trans (h5.below HB5.out.size HZ4.out)⟩; clear hb2 h2 h3 h4 h5)
    clear HM5 HB5 HR5 HRF HN4 HNF HZ4
    go_upto_region 11 with (go_at_call 23; refine (inside_any at_ k w6 HAT.out (by omega)).mono ?_; rw [HIN.out]; rintro e w' ⟨rfl, rfl⟩)
    go_wp2_with fail
    go_loopw [15] (fun i wr => ∃ j : Nat, j ≤ 16384 ∧ i = .int .i64 (j : Nat) ∧ Hid (StI w g Z4 R (gm bs m) M1 b1 b2 bf j wr)) (fun i _ => 16384 - (intOf i).toNat)
    case atStart => exact ⟨0, by omega, rfl, HI⟩
    case round =>
      clear HI
      obtain ⟨j, hj, rfl, HI⟩ := hrel
      by_cases hlt : j < 16384
      · obtain ⟨a, ha⟩ : ∃ a, a = 8192 + j := ⟨_, rfl⟩
        have ha1 : 8192 ≤ a := by omega
        have ha2 : a < 24576 := by omega
        obtain ⟨x0, hx0⟩ : ∃ x, x = (gm bs m).mem a := ⟨_, rfl⟩
        have r1 := HI.out.r1.cell j
        have r2 := HI.out.r2.cell j
        have l1 := HI.out.r1.lt
        have l2 := HI.out.r2.lt
        rw [allB_get _ _ hlt, ← ha, ← hx0] at r1
        rw [allB_get _ _ hlt, ← ha] at r2
        have e1 : (8192 : Int) + (j : Int) = (a : Int) := by omega
        have HNX := Lib.hid HI.out.next
        clear ha
        by_cases hwin : at_ ≤ a ∧ a < at_ + k
        · obtain ⟨d, hd⟩ : ∃ d, d = a - at_ := ⟨_, rfl⟩
          obtain ⟨y, hy⟩ : ∃ y, y = byteOf v d := ⟨_, rfl⟩
          have hmy : M1.mem a = y := by rw [HE1.out.2.2.2, hy, hd]; exact if_pos hwin
          have hy256 : y < 256 := by rw [hy]; exact byteOf_lt _ _
          have e9 : (v : Int) / 2 ^ (8 * d) % 256 = (y : Int) := by rw [hy]; unfold byteOf; rw [Int.natCast_emod, Int.natCast_ediv, Int.natCast_pow]; rfl
          have hge : (at_ : Int) ≤ (a : Int) := by omega
          have e2 : (a : Int) - (at_ : Int) = (d : Int) := by omega
          have hdk : (d : Int) < (k : Int) := by omega
          have hd8 : d < 8 := by omega
          obtain ⟨c, hc, hmz⟩ := HI.out.m
          have HLD : Hid (Calls Try.prog 15 #[.pointer (some ⟨g, 0, none⟩), .int .u64 (a : Nat), .int .i64 1] wr fun e w' => e = .returned (.tuple #[.int .u64 (y : Nat), .agg #[.int .i64 0, .int .u64 0]]) ∧ Quiet1 Z4 R wr g { M1 with loads := c + 1 } w') := Lib.hid (by
            have h := load_m (n := 1) (at_ := a) (F := none) hmz (by omega) (by unfold TOP; omega) (by show M1.strays < _; rw [HE1.out.2.2.1]; decide) (show c < _ by omega) (by show OffIs (M1.rams ++ M1.devs) _ _ _; rw [HE1.out.1, HE1.out.2.1]; exact g_in ⟨by omega, by omega⟩)
            unfold peekV at h
            rw [numB_one] at h
            rw [← hmy]
            exact h)
          rw [hmy] at r2
          have HR2 := Lib.hid r2
          clear hd hy hmy hmz hx0 hwin r2 l2
          go_upto_region 27 with (go_at_call 15; refine HLD.out.mono ?_; rintro e w7 ⟨rfl, hm7, hc7⟩; have HI7 : Hid (StI w g Z4 R (gm bs m) M1 b1 b2 bf (j + 1) (w7.alloc (.cells #[.int .i64 0, .int .u64 0] 42))) := Lib.hid ⟨⟨c + 1, by omega, hm7.below ((Below.refl _ _).alloc (Nat.le_refl _) _)⟩, (hc7.row HI.out.r1 HI.out.n1).alloc _, (hc7.row HI.out.r2 HI.out.n2).alloc _, (hc7.row HI.out.rf HI.out.nf).alloc _, HI.out.n1, HI.out.n2, HI.out.nf, HI.out.ge, (HI.out.bel.trans (hc7.below HI.out.bel.size HI.out.ge)).alloc (HI.out.bel.trans (hc7.below HI.out.bel.size HI.out.ge)).size _⟩; clear hm7 hc7)
          have hra : Row (w7.alloc (.cells #[.int .i64 0, .int .u64 0] 42)) w7.heap.size 42 [.int .i64 0, .int .u64 0] := Row.new w7 42 [.int .i64 0, .int .u64 0]
          obtain ⟨bx, hbx⟩ : ∃ bx, bx = w7.heap.size := ⟨_, rfl⟩
          generalize w7.alloc (.cells #[.int .i64 0, .int .u64 0] 42) = w8 at *
          rw [← hbx] at hra ⊢
          clear hbx
          have a0 := hra.cell 0
          have la := hra.lt
          simp only [List.getElem?_cons_zero] at a0
          have r2 : w8.cell? ⟨b2, j, none⟩ = some (.int .u8 (y : Nat)) := by
            have h1 := HI7.out.r2.cell j
            have h2 := HI.out.r2.cell j
            rw [h1, ← h2]; exact HR2.out
          have l2 := HI7.out.r2.lt
          clear hra r1 l1
          go_wp2_with fail
          go_roundw
          case rel => exact ⟨j + 1, by omega, by go_num, HI7⟩
          case measure => simp [intOf]; omega
        · have hmy : M1.mem a = x0 := by rw [HE1.out.2.2.2, hx0]; exact if_neg hwin
          rw [hmy] at r2
          clear hmy hx0
          by_cases hge : at_ ≤ a
          · have h1 : (at_ : Int) ≤ (a : Int) := by omega
            have h2 : (k : Int) ≤ (a : Int) - (at_ : Int) := by omega
            clear hwin
            go_wp2_with fail
            go_roundw
            case rel => exact ⟨j + 1, by omega, by go_num, HNX⟩
            case measure => simp [intOf]; omega
          · have h1 : (a : Int) < (at_ : Int) := by omega
            clear hwin
            go_wp2_with fail
            go_roundw
            case rel => exact ⟨j + 1, by omega, by go_num, HNX⟩
            case measure => simp [intOf]; omega
      · obtain ⟨c, hc, hmz⟩ := HI.out.m
        obtain ⟨y, hy⟩ : ∃ y, y = v % 256 ^ k := ⟨_, rfl⟩
        have HLD : Hid (Calls Try.prog 15 #[.pointer (some ⟨g, 0, none⟩), .int .u64 (at_ : Nat), .int .i64 (k : Nat)] wr fun e w' => e = .returned (.tuple #[.int .u64 (y : Nat), .agg #[.int .i64 0, .int .u64 0]]) ∧ Quiet1 Z4 R wr g { M1 with loads := c + 1 } w') := Lib.hid (by
          have h := load_m (n := k) (at_ := at_) (F := none) hmz HK.out HAT.out (by show M1.strays < _; rw [HE1.out.2.2.1]; decide) (show c < _ by omega) (by show OffIs (M1.rams ++ M1.devs) _ _ _; rw [HE1.out.1, HE1.out.2.1]; exact HF.out)
          unfold peekV at h
          rw [show numB ({ M1 with loads := c } : PM).mem at_ k = y from by
            show numB M1.mem at_ k = y
            rw [HE1.out.2.2.2, hy, numB_lay]] at h
          exact h)
        have HY := Lib.hid hy
        clear hmz hy
        go_upto_region 32 with (go_at_call 15; refine HLD.out.mono ?_; rintro e w7 ⟨rfl, hm7, hc7⟩; have HF7 := Lib.hid ((hc7.row HI.out.rf HI.out.nf).alloc (.cells #[.int .i64 0, .int .u64 0] 42)); have HB7 := Lib.hid ((HI.out.bel.trans (hc7.below HI.out.bel.size HI.out.ge)).alloc (HI.out.bel.trans (hc7.below HI.out.bel.size HI.out.ge)).size (.cells #[.int .i64 0, .int .u64 0] 42)); clear hm7 hc7)
        have hra : Row (w7.alloc (.cells #[.int .i64 0, .int .u64 0] 42)) w7.heap.size 42 [.int .i64 0, .int .u64 0] := Row.new w7 42 [.int .i64 0, .int .u64 0]
        obtain ⟨bx, hbx⟩ : ∃ bx, bx = w7.heap.size := ⟨_, rfl⟩
        generalize w7.alloc (.cells #[.int .i64 0, .int .u64 0] 42) = w8 at *
        rw [← hbx] at hra ⊢
        clear hbx
        have a0 := hra.cell 0
        have a1 := hra.cell 1
        have la := hra.lt
        have f0 := HF7.out.cell 0
        have f1 := HF7.out.cell 1
        have lf := HF7.out.lt
        simp only [List.getElem?_cons_zero, List.getElem?_cons_succ] at a0 a1 f0 f1
        clear hra
        by_cases hk8e : k = 8
        · have hkb : ¬ (k : Int) < 8 := by omega
          have hvy : v = y := by rw [HY.out, hk8e]; exact (Nat.mod_eq_of_lt (by have h8 : (256 : Nat) ^ 8 = 18446744073709551616 := (by decide); rw [h8]; omega)).symm
          have hb0 : ((y : Int) == (v : Int)) = true := by rw [hvy]; simp
          clear hk8e hvy
          go_wp2_with fail
          go_ret
          exact ⟨by first | rfl | trivial, HB7.out⟩
        · have hkb : (k : Int) < 8 := by omega
          obtain ⟨p, hp⟩ : ∃ p, p = 256 ^ k := ⟨_, rfl⟩
          have hpk : p = 256 ∨ p = 65536 ∨ p = 4294967296 := by
            rw [hp]
            rcases HK.out with h | h | h | h
            · rw [h]; exact .inl rfl
            · rw [h]; exact .inr (.inl rfl)
            · rw [h]; exact .inr (.inr rfl)
            · exact absurd h hk8e
          have e6 : ((2 : Int) ^ (8 * k)) = (p : Int) := by rw [hp, Int.natCast_pow, Int.pow_mul]; rfl
          have e7 : IntKind.u64.wrap (p : Int) = (p : Int) := by rw [IntKind.wrap_u64]; omega
          have hp0 : ¬ p = 0 := by omega
          have hp1 : ¬ (p : Int) = 0 := by omega
          have e8 : (v : Int) % (p : Int) = (y : Int) := by rw [HY.out, hp]; exact (Int.natCast_emod _ _).symm
          clear hp hpk hk8e
          go_wp2_with fail
          go_ret
          exact ⟨by first | rfl | trivial, HB7.out⟩
  · obtain ⟨q, hq⟩ : ∃ q, q = gOff at_ := ⟨_, rfl⟩
    have hF := g_out HAT.out hk0 hin
    rw [← hq] at hF
    have HF := Lib.hid hF
    have hqa : at_ ≤ q := hF.1
    have hqk : q < at_ + k := hF.2.1
    have hq64 : q ≤ 18446744073709551615 := hF.2.2.2.1
    have HQO : Hid (inB q 1 = false) := Lib.hid (by
      have := hF.2.2.1
      rw [g_on] at this
      unfold inB
      rw [decide_eq_false_iff_not] at this ⊢
      omega)
    have HQI : Hid (∀ x, at_ ≤ x → x < q → inB x 1 = true) := Lib.hid (fun x h1 h2 => by
      have := hF.2.2.2.2 x h1 h2
      rw [g_on] at this
      unfold inB
      rw [decide_eq_true_iff] at this ⊢
      omega)
    have HNI : Hid (inB at_ k = false) := Lib.hid (decide_eq_false hin)
    clear hF hq hin
    have HSM : Hid (Calls Try.prog 27 #[.pointer (some ⟨g, 0, none⟩), .int .u64 (at_ : Nat), .int .i64 (k : Nat), .int .u64 (v : Nat)] w3 fun e w' => e = .returned (.agg #[.int .i64 30, .int .u64 (q : Nat)]) ∧ Laid1 Z R w3 g ⟨gR, gD, gMem bs m, 0, m, 1⟩ w') := Lib.hid (store_m HM3.out HK.out HV.out (show m < 9223372036854775807 by omega) HAT.out (show 0 < 9223372036854775807 by decide) HF.out)
    go_upto_region 7 with (go_at_call 27; refine HSM.out.mono ?_; rintro e w4 ⟨rfl, Z4, h1, h2, h3⟩; have HM4 := Lib.hid h1; have HR4 := Lib.hid (h2.row HR1.out HN1.out); have HN4 : Hid (¬ Z4 b1) := Lib.hid (fun h => by rcases h3 b1 h with h | h; exact HN1.out h; exact absurd HR1.out.lt (by omega)); have HB4 : Hid (Below w.heap.size w w4) := Lib.hid (HB3.out.trans (h2.below HB3.out.size HZG.out)); have HZ4 : Hid (∀ x, Z4 x → w.heap.size ≤ x) := Lib.hid (fun x hx => by rcases h3 x hx with h | h; exact HZG.out x h; exact Nat.le_trans HB3.out.size h); clear h1 h2 h3)
    clear HSM HM3 HR1 HN1 HB3 HZG HZR
    have hrf := Row.new w4 42 [.int .i64 30, .int .u64 (q : Nat)]
    have HM5 := Lib.hid (HM4.out.below ((Below.refl _ _).alloc (Nat.le_refl _) (.cells #[.int .i64 30, .int .u64 (q : Nat)] 42)))
    have HB5 := Lib.hid (HB4.out.alloc HB4.out.size (.cells #[.int .i64 30, .int .u64 (q : Nat)] 42))
    have HR5 := Lib.hid (HR4.out.alloc (.cells #[.int .i64 30, .int .u64 (q : Nat)] 42))
    have HNF : Hid (¬ Z4 w4.heap.size) := Lib.hid (fun h => Nat.lt_irrefl _ (HM4.out.z _ h))
    have HRF := Lib.hid hrf
    clear hrf HM4 HB4 HR4
    obtain ⟨bf, hbf⟩ : ∃ bf, bf = w4.heap.size := ⟨_, rfl⟩
    generalize w4.alloc (.cells #[.int .i64 30, .int .u64 (q : Nat)] 42) = w5 at *
    rw [← hbf] at HRF HNF ⊢
    clear hbf
    go_upto_region 8 with (go_at_call 21; refine (all_g (w := w5) HM5.out rfl rfl (show 1 < 9223372036854775807 by decide)).mono ?_; rintro e w6 ⟨b2, rfl, h1, h2, h3, h4, h5⟩; have HR2 := Lib.hid h2; have HX2 := Lib.hid h3; have HM6 := Lib.hid h4; have HB6 : Hid (Below w.heap.size w w6) := Lib.hid (HB5.out.trans (h5.below HB5.out.size HZ4.out)); have HR6 := Lib.hid (h5.row HR5.out HN4.out); have HF6 := Lib.hid (h5.row HRF.out HNF.out); clear h1 h2 h3 h4 h5)
    clear HM5 HB5 HR5 HRF
    have f0 := HF6.out.cell 0
    have f1 := HF6.out.cell 1
    have lf := HF6.out.lt
    simp only [List.getElem?_cons_zero, List.getElem?_cons_succ] at f0 f1
    have hqs : (q : Int) - (at_ : Int) < (k : Int) := by omega
    go_upto_region 11 with (go_at_call 23; refine (inside_any at_ k w6 HAT.out (by omega)).mono ?_; rw [HNI.out]; rintro e w' ⟨rfl, rfl⟩)
    go_upto_region 13 with (go_at_call 23; refine (inside_any q 1 w6 hq64 (by omega)).mono ?_; rw [HQO.out]; rintro e w' ⟨rfl, rfl⟩)
    go_wp2_with fail
    go_loopw [14] (fun a wr => ∃ x : Nat, at_ ≤ x ∧ x ≤ q ∧ a = .int .u64 (x : Nat) ∧ w6 = wr) (fun a _ => q - (intOf a).toNat)
    case atStart => exact ⟨at_, Nat.le_refl _, hqa, rfl, rfl⟩
    case round =>
      obtain ⟨x, hx1, hx2, rfl, rfl⟩ := hrel
      by_cases hxq : x = q
      · have hb0 : ((x : Int) != (q : Int)) = false := by rw [hxq]; simp
        have HSY : Hid (IsB w6 w6.heap.size (some ⟨b1, 0, none⟩) 16384 (allB (gm bs m))) := Lib.hid (allB_isB HR6.out HX1.out)
        have HSZ : Hid (IsB w6 w6.heap.size (some ⟨b2, 0, none⟩) 16384 (allB (gm bs m))) := Lib.hid (allB_isB (M := gm bs m) HR2.out HX2.out)
        clear hxq
        go_wp2_with (first
          | (go_at_call 24; refine (same_yes _ _ 16384 16384 16384 (allB (gm bs m)) w6 HSY.out HSZ.out).mono ?_; rintro e w' ⟨rfl, mm, rfl⟩)
          | (go_at_call 28; refine (strays_m (M := ⟨gR, gD, gMem bs m, 0, m, 1⟩) (HM6.out.below (below_drewN (Below.refl _ _) _))).mono ?_; rintro e w' ⟨rfl, rfl⟩))
        go_ret
        exact ⟨by first | rfl | trivial, below_drewN HB6.out _⟩
      · have hb0 : ((x : Int) != (q : Int)) = true := by rw [bne_iff_ne]; omega
        have HXI := Lib.hid (HQI.out x hx1 (by omega))
        have hxq2 : x + 1 ≤ q := by omega
        clear hxq
        go_wp2_with (go_at_call 23; refine (inside_any x 1 w6 (by unfold TOP; omega) (by omega)).mono ?_; rw [HXI.out]; rintro e w' ⟨rfl, rfl⟩)
        go_roundw
        case rel => exact ⟨x + 1, by omega, by omega, by go_num, trivial⟩
        case measure => simp [intOf]; omega
end Bu
end Go.Proofs.Ytmhkmemaneopeaa
