/- The walk of the law PagesBytes. -/
import Derived.Test.YtblfagmoilhdnaaPgE
import Derived.Test.YtblfagmoilhdnaaKeep
import Derived.Test.YtblfagmoilhdnaaApart
set_option linter.unusedVariables false
set_option linter.unusedSimpArgs false
namespace Go.Proofs.Ytblfagmoilhdnaa
open Go.RowKit

def bookZ : List Value := [.slice none 0 0, .slice none 0 0, .int .i64 0, .bool false]
theorem bk_zero (w : World) : Bk (w.alloc (.cells bookZ.toArray 30)) w.heap.size 0 30 bookZ [] :=
  ⟨Row.new w _ _, ⟨by decide, by decide⟩, by simp, [], .slice none 0 0, .slice none 0 0, 0, [], [], rfl, rfl, rfl, rfl, by simp, ⟨Tl.nil_ _ _, Tl.nil_ _ _, by simp, by simp, by simp, by simp, by simp, by simp⟩⟩
theorem Bk.lt0 {w : World} {gb off : Nat} {t : TypeId} {cs : List Value} {S : List Nat} (h : Bk w gb off t cs S) : ∀ k ∈ S, k < w.heap.size := by
  obtain ⟨xs, L, M, held, SL, SM, _, _, _, _, _, hk⟩ := h.rest
  exact hk.lt
set_option maxRecDepth 100000 in
set_option maxHeartbeats 4000000 in
theorem pagesbytes_near (t : List Nat) (ht : t.length = 512) (hx : ∀ x ∈ t, x < 18446744073709551616) (A : Option Addr) (n c : Nat) (bs : List Nat) (w : World) (hb : IsB w w.heap.size A n bs ∧ n ≤ c ∧ (A = none → c = 0)) (hbe : beyondL 2147483647 [n] = false) (hn : n ≤ 2147483647) :
    Calls Try.prog 3 #[tabV t, .slice A n c] w fun e w' => e = .returned (.bool true) ∧ Below w.heap.size w w' := by
  obtain ⟨i0, hi0, hz1, hz2, hz3⟩ := info_parts info5w
  have HI := Lib.hid hi0; have HZ1 := Lib.hid hz1; have HZ2 := Lib.hid hz2; have HZ3 := Lib.hid hz3
  unfold tabV
  obtain ⟨V, hv⟩ : ∃ V, V = t.map u64v := ⟨_, rfl⟩
  rw [← hv]
  have HV := Lib.hid hv
  have HX := Lib.hid hx
  have HT := Lib.hid ht
  have HIB := Lib.hid hb
  have HBY := Lib.hid (beyond_one (w.alloc (.cells V.toArray 24)) n hb.1.2.2 false hbe)
  have hszV : (w.alloc (.cells V.toArray 24)).heap.size = w.heap.size + 1 := by simp
  rw [hszV] at HBY
  have hr0 : Row (((w.alloc (.cells V.toArray 24)).alloc (.cells #[.int .i64 (n : Nat)] 3)).alloc (.cells bookZ.toArray 30)) w.heap.size 24 V := ((Row.new w _ V).alloc _).alloc _
  have hbk := bk_zero ((w.alloc (.cells V.toArray 24)).alloc (.cells #[.int .i64 (n : Nat)] 3))
  have hbel : Below w.heap.size w (((w.alloc (.cells V.toArray 24)).alloc (.cells #[.int .i64 (n : Nat)] 3)).alloc (.cells bookZ.toArray 30)) := (((Below.refl _ _).alloc (Nat.le_refl _) _).alloc (by simp) _).alloc (by simp; omega) _
  have hsz2 : ((w.alloc (.cells V.toArray 24)).alloc (.cells #[.int .i64 (n : Nat)] 3)).heap.size = w.heap.size + 1 + 1 := by simp
  rw [hsz2] at hbk
  obtain ⟨w2, hw2⟩ : ∃ w2, w2 = ((w.alloc (.cells V.toArray 24)).alloc (.cells #[.int .i64 (n : Nat)] 3)).alloc (.cells bookZ.toArray 30) := ⟨_, rfl⟩
  rw [← hw2] at hr0 hbk hbel
  have HR0 := Lib.hid hr0; have HBK := Lib.hid hbk; have HBEL := Lib.hid hbel
  unfold bookZ at hw2
  clear hv hx ht hb hbe hi0 hz1 hz2 hz3 hszV hsz2 hr0 hbk hbel
  go_enter Try.func3, Try.ntmps3
  go_wp2_with fail
  refine HBY.out.mono ?_
  rintro e w1 ⟨rfl, rfl⟩
  clear HBY
  go_upto_region 5 with fail
  rw [← hw2]
  clear hw2
  have hg0 := HBEL.out.size
  have hlt2 := HBK.out.row.lt
  go_wp2_with fail
  go_loopw [6, 7] (fun v i wr => ∃ k c1 A1, k ≤ 512 ∧ i = .int .i64 (k : Nat) ∧ v = .slice A1 (8 * k) c1 ∧ Hid (Own wr w2.heap.size A1 (8 * k) c1 (tbs (t.take k))) ∧ Hid (Below w2.heap.size w2 wr)) (fun _ i _ => 512 - (intOf i).toNat)
  case atStart => exact ⟨0, 0, none, by omega, rfl, rfl, Lib.hid ⟨World.ownsRow_nil _ _ _ _, by simp [tbs], by omega⟩, Lib.hid (Below.refl _ _)⟩
  case round =>
    obtain ⟨k, c1, A1, hk, rfl, rfl, HO, HB⟩ := hrel
    by_cases hk2 : k < 512
    · have e1 : decide ((k : Int) < 512) = true := decide_eq_true (by omega)
      go_wp2_with fail
      go_loopw [6, 8] (fun v i wr => ∃ j c1 A1, j ≤ 8 ∧ i = .int .i64 (j : Nat) ∧ v = .slice A1 (8 * k + j) c1 ∧ Hid (Own wr w2.heap.size A1 (8 * k + j) c1 (tbs (t.take k) ++ Wd.le j (t.getD k 0))) ∧ Hid (Below w2.heap.size w2 wr)) (fun _ i _ => 8 - (intOf i).toNat)
      case atStart => exact ⟨0, c1, A1, by omega, rfl, rfl, by simpa [Wd.le] using HO, HB⟩
      case round =>
        clear HO HB
        obtain ⟨j, c2, A2, hj, rfl, rfl, HO, HB⟩ := hrel
        by_cases hj2 : j < 8
        · obtain ⟨x, hx⟩ : ∃ x, x = t.getD k 0 := ⟨_, rfl⟩
          obtain ⟨y, hy⟩ : ∃ y, y = x / 2 ^ (8 * j) % 256 := ⟨_, rfl⟩
          have e1 : decide ((j : Int) < 8) = true := decide_eq_true (by omega)
          have hc0 : wr.cell? ⟨w.heap.size, k, none⟩ = some (.int .u64 (x : Nat)) := by
            rw [HB.out.cell (by show w.heap.size < w2.heap.size; omega), HR0.out.cell, HV.out, List.getElem?_map, List.getElem?_eq_getElem (by rw [HT.out]; omega), hx, List.getD_eq_getElem?_getD, List.getElem?_eq_getElem (by rw [HT.out]; omega)]; rfl
          have hx64 : x < 18446744073709551616 := by rw [hx]; exact HX.out _ (getD_mem _ _ (by rw [HT.out]; omega))
          have hlt0 : w.heap.size < wr.heap.size := by have := HB.out.size; omega
          have hcap := own_capd HO.out
          have hszr := HB.out.size
          have hki : (k : Int) < 512 := by omega
          have hk0 : (0 : Int) ≤ (k : Int) := by omega
          have HX64 := Lib.hid hx64
          have HXX := Lib.hid hx
          have HY := Lib.hid hy
          have e3 : IntKind.i64.wrap (8 * (j : Int)) = 8 * (j : Int) := by rw [IntKind.wrap_i64]; omega
          have HE2 : Hid (((x : Int) / 2 ^ (8 * j) % 256) = (y : Int)) := Lib.hid (by rw [hy]; norm_cast)
          clear hx hy hx64
          go_wp2_with (at_builtin; refine wpList_append_sl _ rfl (.tmp 29) (.tmp 38) _ rfl w2.heap.size 5 i0 _ 1 1 Try.underlying25 HI.out HZ1.out HZ2.out HZ3.out rfl (by omega) (.slice A2 (8 * k + j) c2) (8 * k + j) ((tbs (t.take k) ++ Wd.le j (t.getD k 0)).map Go.Proofs.Ytblfagmoilhdnaa.u8) rfl (HO.out.1.alloc _) (wr.heap.size + 1) (some ⟨wr.heap.size, 0, none⟩) 1 1 [.int .u8 ((x : Int) / 2 ^ (8 * j) % 256)] rfl (reads_u8 (by omega)) (by simp [Value.oneCell']) (by unfold maxLen; omega) (by omega) (by simp; omega) ?_; intro A3 c3 w3 hown2 hrd2 hg2 hat2; have HO2 := Lib.hid hown2; have HG2 := Lib.hid hg2; clear hown2 hrd2 hg2 hat2)
          go_roundw
          case rel =>
            refine ⟨j + 1, c3, A3, by omega, by go_num, rfl, Lib.hid ⟨?_, ?_, by omega⟩, Lib.hid (((HB.out.alloc HB.out.size _)).grown HG2.out (by simp; omega) (fun k hk => (HO.out.1.lt k hk).1))⟩
            · rw [Wd.le_succ, ← List.append_assoc, List.map_append]
              have e3 : t.getD k 0 / 256 ^ j % 256 = y := by rw [HY.out, HXX.out, Nat.pow_mul]
              rw [e3]
              have := HO2.out
              rw [HE2.out] at this
              exact this
            · intro b hb
              rcases List.mem_append.1 hb with hb | hb
              · exact tbs_lt _ b hb
              · exact Wd.le_lt _ _ b hb
          case measure => simp [intOf]; omega
        · obtain rfl : j = 8 := by omega
          have HO3 : Hid (Own wr w2.heap.size A2 (8 * (k + 1)) c2 (tbs (t.take (k + 1)))) := Lib.hid (by
            rw [tbs_snoc t k (by rw [HT.out]; omega)]; exact HO.out)
          clear HO
          go_wp2_with fail
          go_roundw
          case rel => exact ⟨k + 1, c2, A2, by omega, by go_num, rfl, HO3, HB⟩
          case measure => simp [intOf]; omega
    · obtain rfl : k = 512 := by omega
      have HO3 : Hid (Own wr w2.heap.size A1 4096 c1 (tbs t)) := Lib.hid (by
        have := HO.out
        rwa [← HT.out, List.take_length, HT.out] at this)
      obtain ⟨b1, off1, hf⟩ := HO3.out.isB.form
      obtain ⟨rfl, hb1, _⟩ := hf.out (by omega)
      have HW : Hid (∀ k, (Value.slice (some ⟨b1, off1, none⟩) 4096 c1).ownBlock = some k → w2.heap.size ≤ k ∧ k < wr.heap.size) := Lib.hid fun k hk => HO3.out.1.lt k hk
      have HCAP := own_capd HO3.out
      have HK3 : Hid (∃ cs S, Bk wr (w.heap.size + 1 + 1) 0 30 cs S ∧ ∀ k ∈ S, wr.heap.size ≤ k) := Lib.hid ⟨bookZ, [], HBK.out.chg (T := []) (Chg.of_below HB.out) (by simp) (by simp), by simp⟩
      have HR3 : Hid (Row wr w.heap.size 24 V) := Lib.hid (HR0.out.below HB.out (by omega))
      have HB3 := Lib.hid (HBEL.out.trans (HB.out.mono hg0))
      have hszr := HB.out.size
      obtain ⟨H, hH⟩ : ∃ H, H = wr.heap.size := ⟨_, rfl⟩
      rw [← hH] at HW HK3 hb1
      have HH : Hid (H ≤ wr.heap.size) := Lib.hid (by omega)
      have hHb : w2.heap.size ≤ H := by omega
      clear HO HB HBK HR0 HBEL hf hH hszr
      rw [show (8 * 512 : Nat) = 4096 from rfl, show ((512 : Nat) : Int) = 512 from rfl]
      go_wp2_with fail
      go_loopw [9] (fun i wr => ∃ k, k ≤ 2 ∧ i = .int .i64 (k : Nat) ∧ Hid (Own wr w2.heap.size (some ⟨b1, off1, none⟩) 4096 c1 (tbs t)) ∧ Hid (∃ cs S, Bk wr (w.heap.size + 1 + 1) 0 30 cs S ∧ ∀ k ∈ S, H ≤ k) ∧ Hid (Row wr w.heap.size 24 V) ∧ Hid (Below w.heap.size w wr) ∧ Hid (H ≤ wr.heap.size)) (fun i _ => 2 - (intOf i).toNat)
      case atStart => exact ⟨0, by omega, rfl, HO3, HK3, HR3, HB3, HH⟩
      case round =>
        clear HO3 HK3 HR3 HB3 HH
        obtain ⟨k, hk, rfl, HO3, HK3, HR3, HB3, HH⟩ := hrel
        by_cases hk2 : k < 2
        · have e1 : decide ((k : Int) < 2) = true := decide_eq_true (by omega)
          have hpb := pbytes_any t HT.out HX.out wr
          unfold tabV at hpb
          rw [← HV.out] at hpb
          have HPB := Lib.hid hpb
          clear hpb
          have hvl : V.length = 512 := by rw [HV.out, List.length_map, HT.out]
          have HVL := Lib.hid hvl
          clear hvl
          go_wp2_with (first | (refine wpList_load_mid rfl _ _ rfl _ _ (by rfl) V (.array 512 22) (row_rangeAt HR3.out) Try.underlying24 rfl (by rw [infoTab, HVL.out]) ?_))
          refine HPB.out.mono ?_
          rintro e w3 ⟨⟨A4, c4, rfl, hown⟩, hb4⟩
          have HO4 := Lib.hid hown
          have HO5 : Hid (Own w3 w2.heap.size (some ⟨b1, off1, none⟩) 4096 c1 (tbs t)) := Lib.hid (HO3.out.below hb4)
          have HB4 := Lib.hid hb4
          have HSM := Lib.hid (same_yes A4 (some ⟨b1, off1, none⟩) 4096 c4 c1 (tbs t) w3 hown.isB HO5.out.isB)
          clear hown hb4 HPB
          go_wp2_with fail
          refine HSM.out.mono ?_
          rintro e w4 ⟨rfl, mm, rfl⟩
          clear HSM
          obtain ⟨cs, S, hbk, hS⟩ := HK3.out
          have hbd : Below wr.heap.size wr (w3.drewN mm) := below_drewN HB4.out mm
          have hbk4 := hbk.chg (T := []) (Chg.of_below hbd) (by simp) (by simp)
          have HKP := Lib.hid (keep_any (w.heap.size + 1 + 1) 0 _ cs S A4 4096 c4 (tbs t) (w3.drewN mm) hbk4 ((HO4.out.below (below_drewN (Below.refl _ _) mm)).mono (Nat.zero_le _)) (by omega) (fun k hk => by
            have h1 := (HO4.out.1.lt k hk).1
            have h2 := HH.out
            exact ⟨fun hm => by have := Bk.lt0 hbk k hm; omega, by omega⟩))
          have HS := Lib.hid hS
          have HBD := Lib.hid hbd
          have HLT := Lib.hid (Bk.lt0 hbk)
          clear hbk hS hbk4 hbd
          go_wp2_with fail
          refine HKP.out.mono ?_
          rintro e w5 ⟨rfl, cs', S', hbk5, hch5, hS5, _⟩
          have HK5 : Hid (∃ cs S, Bk w5 (w.heap.size + 1 + 1) 0 30 cs S ∧ ∀ k ∈ S, H ≤ k) := Lib.hid ⟨cs', S', hbk5, fun k hk => by
            have h1 := HH.out; have h2 := HBD.out.size
            rcases hS5 k hk with h | h | h
            · exact HS.out k h
            · omega
            · have := (HO4.out.1.lt k h).1; omega⟩
          have hTB : ∀ x ∈ (w.heap.size + 1 + 1) :: S, w.heap.size ≤ x := fun x hx => by
            rcases List.mem_cons.1 hx with rfl | hx
            · omega
            · have := HS.out x hx; omega
          have HB5 := Lib.hid (below_chg (HB3.out.trans (HBD.out.mono HB3.out.size)) (Nat.le_refl _) hch5 hTB)
          have HH5 : Hid (H ≤ w5.heap.size) := Lib.hid (by have h1 := HH.out; have h2 := HBD.out.size; have h3 := hch5.size; omega)
          have HR5 : Hid (Row w5 w.heap.size 24 V) := Lib.hid (hch5.row (HR3.out.below HBD.out HR3.out.lt) (by
            intro hm
            rcases List.mem_cons.1 hm with hm | hm
            · omega
            · have := HS.out _ hm; omega))
          have HO6 : Hid (Own w5 w2.heap.size (some ⟨b1, off1, none⟩) 4096 c1 (tbs t)) := Lib.hid (own_chg (HO5.out.below (below_drewN (Below.refl _ _) mm)) hch5 (fun k hk hm => by
            have h1 := HW.out k hk
            rcases List.mem_cons.1 hm with hm | hm
            · omega
            · have := HS.out _ hm; omega))
          clear hbk5 hch5 hS5 hTB HKP HS HBD HLT HO3 HO4 HO5 HB3 HB4 HK3 HR3 HH
          go_wp2_with fail
          go_roundw
          case rel => exact ⟨k + 1, by omega, by go_num, HO6, HK5, HR5, HB5, HH5⟩
          case measure => simp [intOf]; omega
        · have hvl : V.length = 512 := by rw [HV.out, List.length_map, HT.out]
          obtain ⟨hz, hsz⟩ := zero_of_info infoTabZ
          obtain ⟨Z, hZ⟩ : ∃ Z, Z = zeros 512 := ⟨_, rfl⟩
          rw [← hZ] at hz
          have hzl : Z.length = 512 := by rw [hZ]; simp [zeros]
          have HPR := Lib.hid (pread_yes b1 off1 c1 (tbs t) wr HO3.out.isB HCAP.1)
          have hV1 := oneCell_tab t
          rw [← HV.out] at hV1
          have HV1 := Lib.hid hV1
          have HZZ := Lib.hid hZ
          have HSZ := Lib.hid hsz
          clear hZ hV1 hsz
          go_wp2_with fail
          refine HPR.out.mono ?_
          rintro e w6 ⟨rfl, hb6⟩
          rw [tun_tbs t HT.out HX.out]
          have e1 : tabV t = .agg V.toArray := by unfold tabV; rw [HV.out]
          rw [e1]
          have hrx := Row.new w6 24 Z
          have hst := run_storeCells_row (P := Try.prog) (ty := 24) hrx (by rw [hvl]; exact HSZ.out) (by rw [hvl, hzl]) HV1.out
          have HRX := Lib.hid (hrx.setRow V)
          have hbel6 : Below wr.heap.size wr ((w6.alloc (.cells Z.toArray 24)).setRow w6.heap.size V.toArray) := below_setRow (hb6.alloc hb6.size _) hb6.size V.toArray
          have HBX := Lib.hid hbel6
          have hcells : ∀ (U : List Nat) (X : List Value), X = U.map u64v → ∀ i, i < X.length → ∃ n, X[i]? = some (.int .u64 n) := fun U X hX i hi => by
            subst hX
            rw [List.length_map] at hi
            exact ⟨(U[i] : Nat), by rw [List.getElem?_map, List.getElem?_eq_getElem hi]; rfl⟩
          have hzu : Z = (List.replicate 512 0).map u64v := by rw [HZZ.out]; simp [zeros]
          have heqV := fun w => tab_eq_self V (hcells t V HV.out) hvl w
          have heqZ := fun w => tab_eq_self Z (hcells _ Z hzu) hzl w
          clear hb6 hrx hbel6 e1 hcells hzu
          go_wp2_with (first | (refine wpList_load_midw (by rfl) _ _ rfl _ _ (by rfl) V (.array 512 22) (row_rangeAt HRX.out) Try.underlying24 rfl (by rw [infoTab, hvl]) ?_) | (refine wpList_load_midw (by rfl) _ _ rfl _ _ (by rfl) V (.array 512 22) (row_rangeAt (HR3.out.below HBX.out HR3.out.lt)) Try.underlying24 rfl (by rw [infoTab, hvl]) ?_))
          have hB7 := Lib.hid (HB3.out.trans (HBX.out.mono HB3.out.size))
          have HK7 : Hid (∃ cs S, Bk ((w6.alloc (.cells Z.toArray 24)).setRow w6.heap.size V.toArray) (w.heap.size + 1 + 1) 0 30 cs S ∧ ∀ k ∈ S, H ≤ k) := Lib.hid (by
            obtain ⟨cs, S, hbk, hS⟩ := HK3.out
            exact ⟨cs, S, hbk.chg (T := []) (Chg.of_below HBX.out) (by simp) (by simp), hS⟩)
          obtain ⟨w7, hw7⟩ : ∃ w7, w7 = (w6.alloc (.cells Z.toArray 24)).setRow w6.heap.size V.toArray := ⟨_, rfl⟩
          rw [← hw7] at HRX HBX hB7 HK7 ⊢
          clear hw7 hst HO3 HR3 HK3 HB3 HPR HRX HBX
          have hsz7 := hB7.out.size
          have HRM := Lib.hid (roomy_any A n c bs 165 w7 ((HIB.out.1.below hB7.out).more hsz7) (by omega))
          go_wp2_with fail
          refine HRM.out.mono ?_
          rintro e w8 ⟨rfl, hrow8, hb8⟩
          have HF := Lib.hid hrow8
          have HB8 := Lib.hid (hB7.out.trans (hb8.mono hsz7))
          have HIN := Lib.hid (room_isB hrow8 HIB.out.1.len HIB.out.1.2.1 hrow8.lt (by omega))
          have HK8 : Hid (∃ cs S, Bk w8 (w.heap.size + 1 + 1) 0 30 cs S ∧ ∀ k ∈ S, H ≤ k) := Lib.hid (by
            obtain ⟨cs, S, hbk, hS⟩ := HK7.out
            exact ⟨cs, S, hbk.chg (T := []) (Chg.of_below hb8) (by simp) (by simp), hS⟩)
          clear hrow8 hb8 HRM HK7
          by_cases hn4 : n = 4096
          · have HN := Lib.hid hn4
            have hlb : bs.length = 4096 := by rw [HIB.out.1.len, hn4]
            have hin := HIN.out
            rw [hn4] at hin
            have hpy := pread_yes w7.heap.size 0 (n + 80) bs w8 hin (by omega)
            have hnn : (4096 : Nat) = n := hn4.symm
            rw [show (Value.slice (some ⟨w7.heap.size, 0, none⟩) 4096 (n + 80)) = .slice (some ⟨w7.heap.size, 0, none⟩) n (n + 80) by rw [hn4]] at hpy
            have HPY := Lib.hid hpy
            have e4 : ((n : Int) == 4096) = true := by rw [hn4]; decide
            clear hin hpy hnn hn4
            go_wp2_with fail
            refine HPY.out.mono ?_
            rintro e w9 ⟨rfl, hb9⟩
            have hbs := HIB.out.1.2.1
            have HPB := Lib.hid (fun w => pbytes_any (tun bs) (tun_len bs) (tun_lt bs hbs) w)
            have hv2 := oneCell_tab (tun bs)
            rw [tbs_tun bs hlb hbs] at HPB
            unfold tabV at HPB ⊢
            have hul : ((tun bs).map u64v).length = 512 := by rw [List.length_map, tun_len]
            obtain ⟨U, hU⟩ : ∃ U, U = (tun bs).map u64v := ⟨_, rfl⟩
            rw [← hU] at HPB hv2 hul ⊢
            have hrx := Row.new w9 24 Z
            have hst := run_storeCells_row (P := Try.prog) (ty := 24) hrx (by rw [hul]; exact HSZ.out) (by rw [hul, hzl]) hv2
            have HRX := Lib.hid (hrx.setRow U)
            have hbel9 : Below w8.heap.size w8 ((w9.alloc (.cells Z.toArray 24)).setRow w9.heap.size U.toArray) := below_setRow (hb9.alloc hb9.size _) hb9.size U.toArray
            have HBX := Lib.hid hbel9
            clear hb9 hrx hbel9 HPY hv2 hU hbs
            go_wp2_with fail
            have HB9 := Lib.hid (HB8.out.trans (HBX.out.mono HB8.out.size))
            have HK9 : Hid (∃ cs S, Bk ((w9.alloc (.cells Z.toArray 24)).setRow w9.heap.size U.toArray) (w.heap.size + 1 + 1) 0 30 cs S ∧ ∀ k ∈ S, H ≤ k) := Lib.hid (by
              obtain ⟨cs, S, hbk, hS⟩ := HK8.out
              exact ⟨cs, S, hbk.chg (T := []) (Chg.of_below HBX.out) (by simp) (by simp), hS⟩)
            have HIT := Lib.hid (intact_yes A n c w7.heap.size bs 165 ((w9.alloc (.cells Z.toArray 24)).setRow w9.heap.size U.toArray) ((HIB.out.1.below HB9.out).more HB9.out.size) (HF.out.below HBX.out HF.out.lt) (by omega))
            refine HIT.out.mono ?_
            rintro e w10 ⟨rfl, k10, rfl⟩
            clear HIT
            obtain ⟨w12, hw12⟩ : ∃ w12, w12 = ((w9.alloc (.cells Z.toArray 24)).setRow w9.heap.size U.toArray).drewN k10 := ⟨_, rfl⟩
            have HB12 : Hid (Below w.heap.size w w12) := Lib.hid (by rw [hw12]; exact below_drewN HB9.out k10)
            have HK12 : Hid (∃ cs S, Bk w12 (w.heap.size + 1 + 1) 0 30 cs S ∧ ∀ k ∈ S, H ≤ k) := Lib.hid (by
              rw [hw12]
              obtain ⟨cs, S, hbk, hS⟩ := HK9.out
              exact ⟨cs, S, hbk.chg (T := []) (Chg.of_below (below_drewN (Below.refl _ _) k10)) (by simp) (by simp), hS⟩)
            have HR12 : Hid (Row w12 w9.heap.size 24 U) := Lib.hid (by rw [hw12]; exact HRX.out)
            rw [← hw12]
            clear hw12 hst HB9 HK9 HK8 HB8 HBX HRX
            go_wp2_with (first | (refine wpList_load_midw (by rfl) _ _ rfl _ _ (by rfl) U (.array 512 22) (row_rangeAt HR12.out) Try.underlying24 rfl (by rw [infoTab, hul]) ?_))
            refine (HPB.out w12).mono ?_
            rintro e w13 ⟨⟨A5, c5, rfl, hown⟩, hb13⟩
            have HB13 := Lib.hid (HB12.out.trans (hb13.mono HB12.out.size))
            have hsm := same_any A5 A 4096 n c5 c bs bs w13 hown.isB ((HIB.out.1.below HB13.out).more HB13.out.size)
            rw [decide_eq_true (rfl : bs = bs)] at hsm
            have HSM := Lib.hid hsm
            clear hsm
            have HK13 : Hid (∃ cs S, Bk w13 (w.heap.size + 1 + 1) 0 30 cs S ∧ ∀ k ∈ S, H ≤ k) := Lib.hid (by
              obtain ⟨cs, S, hbk, hS⟩ := HK12.out
              exact ⟨cs, S, hbk.chg (T := []) (Chg.of_below hb13) (by simp) (by simp), hS⟩)
            clear hown hb13 HPB
            go_wp2_with fail
            refine HSM.out.mono ?_
            rintro e w14 ⟨rfl, k14, rfl⟩
            obtain ⟨cs, S, hbk, hS⟩ := HK13.out
            have HAP := Lib.hid (apart_any (w.heap.size + 1 + 1) 0 _ cs S (w13.drewN k14) (hbk.chg (T := []) (Chg.of_below (below_drewN (Below.refl _ _) k14)) (by simp) (by simp)))
            have HS := Lib.hid hS
            clear hbk hS HSM
            go_wp2_with fail
            refine HAP.out.mono ?_
            rintro e w11 ⟨rfl, hch⟩
            have HB11 := Lib.hid (below_chg (below_drewN HB13.out k14) (Nat.le_refl _) hch (fun x hx => by
              rcases List.mem_cons.1 hx with rfl | hx
              · omega
              · have := HS.out x hx; omega))
            clear hch
            go_wp2_with fail
            go_ret
            exact ⟨rfl, HB11.out⟩
          · have HPN := Lib.hid (pread_no (some ⟨w7.heap.size, 0, none⟩) n (n + 80) w8 hn4)
            have e4 : ((n : Int) == 4096) = false := by rw [beq_eq_false_iff_ne]; omega
            go_wp2_with fail
            refine HPN.out.mono ?_
            rintro e w9 ⟨rfl, hb9⟩
            rw [← HZZ.out]
            have hrx := Row.new w9 24 Z
            have hst := run_storeCells_row (P := Try.prog) (ty := 24) hrx (by rw [hzl]; exact HSZ.out) rfl (by rw [HZZ.out]; exact oneCell_zeros 512)
            have HRX := Lib.hid (hrx.setRow Z)
            have hbel9 : Below w8.heap.size w8 ((w9.alloc (.cells Z.toArray 24)).setRow w9.heap.size Z.toArray) := below_setRow (hb9.alloc hb9.size _) hb9.size Z.toArray
            have HBX := Lib.hid hbel9
            clear hb9 hrx hbel9 HPN
            go_wp2_with (first | (refine wpList_load_midw (by rfl) _ _ rfl _ _ (by rfl) Z (.array 512 22) (row_rangeAt HRX.out) Try.underlying24 rfl (by rw [infoTab, hzl]) ?_))
            have HB9 := Lib.hid (HB8.out.trans (HBX.out.mono HB8.out.size))
            have HK9 : Hid (∃ cs S, Bk ((w9.alloc (.cells Z.toArray 24)).setRow w9.heap.size Z.toArray) (w.heap.size + 1 + 1) 0 30 cs S ∧ ∀ k ∈ S, H ≤ k) := Lib.hid (by
              obtain ⟨cs, S, hbk, hS⟩ := HK8.out
              exact ⟨cs, S, hbk.chg (T := []) (Chg.of_below HBX.out) (by simp) (by simp), hS⟩)
            have HIT := Lib.hid (intact_yes A n c w7.heap.size bs 165 ((w9.alloc (.cells Z.toArray 24)).setRow w9.heap.size Z.toArray) ((HIB.out.1.below HB9.out).more HB9.out.size) (HF.out.below HBX.out HF.out.lt) (by omega))
            refine HIT.out.mono ?_
            rintro e w10 ⟨rfl, k10, rfl⟩
            clear HIT
            obtain ⟨cs, S, hbk, hS⟩ := HK9.out
            have HAP := Lib.hid (apart_any (w.heap.size + 1 + 1) 0 _ cs S (((w9.alloc (.cells Z.toArray 24)).setRow w9.heap.size Z.toArray).drewN k10) (hbk.chg (T := []) (Chg.of_below (below_drewN (Below.refl _ _) k10)) (by simp) (by simp)))
            have HS := Lib.hid hS
            clear hbk hS
            go_wp2_with fail
            refine HAP.out.mono ?_
            rintro e w11 ⟨rfl, hch⟩
            have HB11 := Lib.hid (below_chg (below_drewN HB9.out k10) (Nat.le_refl _) hch (fun x hx => by
              rcases List.mem_cons.1 hx with rfl | hx
              · omega
              · have := HS.out x hx; omega))
            clear hch
            go_wp2_with fail
            go_ret
            exact ⟨rfl, HB11.out⟩
set_option maxRecDepth 100000 in
set_option maxHeartbeats 1000000 in
theorem pagesbytes_far (t : List Nat) (A : Option Addr) (n c : Nat) (bs : List Nat) (w : World) (hb : IsB w w.heap.size A n bs) (hbe : beyondL 2147483647 [n] = true) :
    Calls Try.prog 3 #[tabV t, .slice A n c] w fun e w' => e = .returned (.bool true) ∧ Below w.heap.size w w' := by
  unfold tabV
  obtain ⟨V, hv⟩ : ∃ V, V = t.map u64v := ⟨_, rfl⟩
  rw [← hv]
  have HBY := Lib.hid (beyond_one (w.alloc (.cells V.toArray 24)) n hb.2.2 true hbe)
  have hszV : (w.alloc (.cells V.toArray 24)).heap.size = w.heap.size + 1 := by simp
  rw [hszV] at HBY
  clear hv hb hbe hszV
  go_enter Try.func3, Try.ntmps3
  go_wp2_with fail
  refine HBY.out.mono ?_
  rintro e w' ⟨rfl, rfl⟩
  go_wp2_with fail
  go_ret
  exact ⟨rfl, ((Below.refl _ _).alloc (Nat.le_refl _) _).alloc (by simp) _⟩
theorem pagesbytes_walk (t : List Nat) (ht : t.length = 512) (hx : ∀ x ∈ t, x < 18446744073709551616) (A : Option Addr) (n c : Nat) (bs : List Nat) (w : World) (hb : IsB w w.heap.size A n bs) (hc : n ≤ c) (hA : A = none → c = 0) :
    Calls Try.prog 3 #[tabV t, .slice A n c] w fun e w' => e = .returned (.bool true) ∧ Below w.heap.size w w' := by
  cases hbe : beyondL 2147483647 [n] with
  | true => exact pagesbytes_far t A n c bs w hb hbe
  | false =>
    refine pagesbytes_near t ht hx A n c bs w ⟨hb, hc, hA⟩ hbe ?_
    unfold beyondL at hbe
    split at hbe
    · cases hbe
    · omega
end Go.Proofs.Ytblfagmoilhdnaa
