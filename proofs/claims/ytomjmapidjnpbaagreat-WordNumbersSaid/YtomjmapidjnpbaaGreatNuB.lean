/- The walks of the law's numbers[N]. -/
import Derived.Test.YtomjmapidjnpbaaGreatNbB
set_option linter.unusedVariables false
set_option linter.unusedSimpArgs false
namespace Go.Proofs.YtomjmapidjnpbaaGreat
open Go.RowKit

set_option maxRecDepth 100000 in
set_option maxHeartbeats 2000000 in
theorem nlong_uint16 (A : Option Addr) (n c a b B gk : Nat) (ps : List Nat) (w : World) (hp : IsB w B A n ps) (hn : n ≤ 2147483647) (ha : a < 65536) (hb : b < 65536) (hB : B ≤ w.heap.size) (hbk : BK w B gk []) (hs : 2 ≤ n) :
    Calls Tryz.prog 6 #[.int .i64 2, .int .u16 (a : Nat), .int .u16 (b : Nat), .slice A n c, .pointer (some ⟨gk, 0, none⟩)] w fun e w' => e = .returned (.bool true) ∧ BK w' B gk [] ∧ Below B w w' := by
  obtain ⟨i0, hi0, hz1, hz2, hz3⟩ := info5'
  have HI := Lib.hid hi0; have HZ1 := Lib.hid hz1; have HZ2 := Lib.hid hz2; have HZ3 := Lib.hid hz3
  have HP := Lib.hid hp
  have HL := Lib.hid hp.len
  have HBK := Lib.hid hbk
  have HA := Lib.hid ha
  have HBb := Lib.hid hb
  have va : IntKind.u64.wrap (a : Int) = (a : Int) := Num.wrapN _ (by omega)
  clear hp hbk hi0 hz1 hz2 hz3 ha hb
  go_enter Tryz.func6, Tryz.ntmps6
  go_wp2_with fail
  refine (roomy_any A n c ps 165 w (HP.out.more hB) (by omega)).mono ?_
  rintro e w1 ⟨rfl, hrow1, hb1⟩
  obtain ⟨g, hg⟩ : ∃ g, g = w.heap.size := ⟨_, rfl⟩
  rw [← hg] at hrow1 ⊢
  have HROW1 := Lib.hid hrow1
  have HB1 := Lib.hid (hb1.mono hB)
  have HBK1 := Lib.hid ((HBK.out.more (F' := [g]) (fun k hk => .inr (by simp at hk; omega))).below hb1)
  have HS1 := Lib.hid hb1.size
  have hgB : B ≤ g := by omega
  have HP1 := Lib.hid ((HP.out.below HB1.out).more (B' := w1.heap.size) (by have := HS1.out; omega))
  have HG := Lib.hid hg
  clear hrow1 hb1 HBK hg
  go_wp2_with (at_builtin; refine wpList_append_nil _ rfl (.const (.slice none 0 0)) (.tmp 23) _ rfl 5 i0 _ 1 1 Tryz.underlying23 HI.out HZ1.out HZ2.out HZ3.out rfl (by omega) rfl w1.heap.size A n c (ps.map u8) rfl HP1.out.1 (one_u8 ps) (by simp only [maxLen]; omega) (by omega) ?_; intro A2 c2 w2 HN2)
  refine (refbytes_n a 2 w2 (by have := HA.out; omega) (by omega)).mono ?_
  rintro e w3 ⟨⟨A3, c3, rfl, hown3⟩, hb3⟩
  have HN3 : Hid (Own w3 w1.heap.size A2 n c2 ps) := Lib.hid (Own.below ⟨HN2.out.1, HP.out.2⟩ hb3)
  have HX3 := Lib.hid hown3.isB
  have HB3 := Lib.hid (HN2.out.below.trans (hb3.mono HN2.out.below.size))
  clear hown3 hb3 HN2
  go_wp2_with (at_builtin; refine wpList_append_more _ rfl (.tmp 24) (.tmp 28) _ rfl w1.heap.size 5 i0 _ 1 1 Tryz.underlying23 HI.out HZ1.out HZ2.out HZ3.out rfl (by omega) _ _ _ _ rfl HN3.out.1 w3.heap.size A3 2 c3 ((Wd.le 2 a).map Go.Proofs.YtomjmapidjnpbaaGreat.u8) rfl HX3.out.1 (one_u8 _) (by simp only [maxLen]; omega) (by omega) HB3.out.size ?_; intro A4 c4 w4 HN4)
  have hO4 : Own w4 w1.heap.size A4 (n + 2) c4 (ps ++ Wd.le 2 a) := ⟨by rw [List.map_append]; exact HN4.out.1, by
    intro b hb
    rcases List.mem_append.1 hb with hb | hb
    · exact HP.out.2.1 b hb
    · exact Wd.le_lt _ _ b hb, by omega⟩
  obtain ⟨g2, cur2, rfl, hg2, _, _⟩ := own_blk hO4 (by omega)
  have HO4 := Lib.hid hO4
  have hb4 := HB3.out.trans (HN4.out.2.2)
  have HROW4 := Lib.hid (HROW1.out.below hb4 HROW1.out.lt)
  have HBK4 := Lib.hid ((HBK1.out.more (F' := [g, g2]) (fun k hk => by simp at hk; rcases hk with rfl | rfl; exact .inl (by simp); exact .inr hg2)).below hb4)
  have HB4 := Lib.hid (HB1.out.trans (hb4.mono (by have := HS1.out; omega)))
  have HG2 := Lib.hid hg2
  have hcap := (own_capn hO4).1
  have HS4 : Hid (w.heap.size ≤ w4.heap.size) := Lib.hid (Nat.le_trans HS1.out hb4.size)
  have HGG : Hid (g < w1.heap.size) := Lib.hid HROW1.out.lt
  clear hO4 hb4 HN3 HX3 HN4 HB3 HROW1 HBK1 HB1 hg2 HP1
  go_loopw [13] (fun i wr => ∃ j : Nat, j ≤ 2 ∧ i = .int .i64 j ∧ Hid (Row wr g 5 (fillM (ps.map u8) (u8 165) 80)) ∧ Hid (Own wr w1.heap.size (some ⟨g2, 0, none⟩) (n + 2) c4 (ps ++ Wd.le 2 a)) ∧ Hid (BK wr B gk [g, g2]) ∧ Hid (Below B w wr) ∧ Hid (w1.heap.size ≤ wr.heap.size)) (fun i _ => 2 - (intOf i).toNat)
  case atStart => exact ⟨0, by omega, rfl, HROW4, HO4, HBK4, HB4, Lib.hid (by have := (HO4.out.1.lt g2 rfl); omega)⟩
  case round =>
    clear HROW4 HO4 HBK4 HB4 HS4
    obtain ⟨j, hj, rfl, HROW, HO, HBK, HBW, HSW⟩ := hrel
    by_cases hjn : j < 2
    · go_wp2_with fail
      refine (put_uint16 (some ⟨g, 0, none⟩) n (n + 80) ps a wr (room_isB HROW.out HL.out HP.out.2.1 HROW.out.lt (by omega)) (by omega) HA.out).mono ?_
      rintro e w5 ⟨⟨g3, c5, rfl, hown5⟩, hb5⟩
      have HO5 := Lib.hid hown5
      have HO5' := Lib.hid (HO.out.below hb5)
      have HR5 := Lib.hid (HROW.out.below hb5 HROW.out.lt)
      have HB5 := Lib.hid hb5
      have HP5 := Lib.hid ((HP.out.below (HBW.out.trans (hb5.mono (by have := HSW.out; have := HS1.out; omega)))).more (B' := w5.heap.size) (by have := HSW.out; have := HS1.out; have := hb5.size; omega))
      clear hown5 hb5
      go_wp2_with fail
      refine (same_yes _ _ _ _ _ _ w5 HO5.out.isB HO5'.out.isB).mono ?_
      rintro e w6 ⟨rfl, m6, rfl⟩
      go_wp2_with fail
      refine (intact_yes A n c g ps 165 (w5.drewN m6) HP5.out (HR5.out.drewN m6) (by omega)).mono ?_
      rintro e w7 ⟨rfl, m7, rfl⟩
      go_wp2_with fail
      refine (keep_bk (F := [g, g2]) HBK.out (below_drewN HB5.out (m6 + m7)) ?_ (by have := HSW.out; have := HS1.out; omega) (A := some ⟨g3, 0, none⟩) (n := n + 2) (c := c5) (bs := ps ++ Wd.le 2 a) HO5.out (by omega)).mono ?_
      · intro k hk
        simp at hk
        rcases hk with rfl | rfl
        · exact HROW.out.lt
        · exact (HO.out.1.lt k rfl).2
      · rintro e w8 ⟨rfl, hbk8, T, hT, hT2, hT3⟩
        have HBK8 := Lib.hid hbk8
        have HR8 : Hid (Row w8 g 5 (fillM (ps.map u8) (u8 165) 80)) := Lib.hid (hT.row (HR5.out.drewN (m6 + m7)) (hT3 g (by simp)))
        have HO8 : Hid (Own w8 w1.heap.size (some ⟨g2, 0, none⟩) (n + 2) c4 (ps ++ Wd.le 2 a)) := Lib.hid (chg_own5 (w := w5.drewN (m6 + m7)) HO5'.out hT (hT3 g2 (by simp)))
        have HB8 : Hid (Below B w w8) := Lib.hid (below_chg (below_drewN (HBW.out.trans (HB5.out.mono (by have := HSW.out; have := HS1.out; omega))) (m6 + m7)) hB hT hT2)
        have HS8 : Hid (w1.heap.size ≤ w8.heap.size) := Lib.hid (Nat.le_trans (Nat.le_trans HSW.out HB5.out.size) hT.size)
        clear hbk8 hT hT2 hT3 HR5 HO5 HO5' HB5 HBK HBW HSW HROW HO HP5
        go_wp2_with fail
        go_roundw
        case rel => exact ⟨j + 1, by omega, by go_num, HR8, HO8, HBK8, HB8, HS8⟩
        case measure => simp [intOf]; omega
    · have HJ : Hid (j = 2) := Lib.hid (by omega)
      obtain ⟨x, hx⟩ : ∃ x, x = Wd.unle (ps.take 2) := ⟨_, rfl⟩
      have hxl : x < 65536 := by
        have h := Wd.unle_lt (ps.take 2) (fun b h => HP.out.2.1 b (List.mem_of_mem_take h))
        rw [← hx, List.length_take, HL.out, Nat.min_eq_left hs] at h
        exact h
      have vx : IntKind.u64.wrap (x : Int) = (x : Int) := Num.wrapN _ (by omega)
      have hg5 := get_uint16 (some ⟨g, 0, none⟩) n (n + 80) ps wr (room_isB HROW.out HL.out HP.out.2.1 HROW.out.lt (by omega)) hs (by omega)
      have hn5 := dnum_of A n c 2 ps wr ((HP.out.below HBW.out).more (by have := HSW.out; have := HS1.out; omega)) (by omega) (by omega) hs
      rw [← hx] at hg5 hn5
      have HG5 := Lib.hid hg5
      have HN5 := Lib.hid hn5
      have HX := Lib.hid hx
      have HPW := Lib.hid ((HP.out.below HBW.out).more (B' := wr.heap.size) (by have := HSW.out; have := HS1.out; omega))
      have HXL := Lib.hid hxl
      clear hg5 hn5 hx hxl
      go_wp2_with fail
      refine HG5.out.mono ?_
      rintro e w5 ⟨rfl, rfl⟩
      go_wp2_with fail
      refine HN5.out.mono ?_
      rintro e w5 ⟨rfl, rfl⟩
      go_wp2_with fail
      refine (intact_yes A n c g ps 165 wr HPW.out HROW.out (by omega)).mono ?_
      rintro e w5 ⟨rfl, m5, rfl⟩
      go_wp2_with fail
      have HF0 := Lib.hid ((fl_start HL.out (HROW.out.drewN m5)))
      have HO0 : Hid (Own (wr.drewN m5) w1.heap.size (some ⟨g2, 0, none⟩) (n + 2) c4 (ps ++ Wd.le 2 a)) := HO
      have HBK0 : Hid (BK (wr.drewN m5) B gk [g, g2]) := Lib.hid (HBK.out.below (below_drewN (Below.refl _ _) m5))
      have HB0 : Hid (Below B w (wr.drewN m5)) := Lib.hid (below_drewN HBW.out m5)
      have HS0 : Hid (w1.heap.size ≤ (wr.drewN m5).heap.size) := HSW
      clear HROW HO HBK HBW HSW HG5 HN5 HPW
      generalize wr.drewN m5 = wq at *
      go_loopw [19] (fun i wr => ∃ j : Nat, j ≤ n ∧ i = .int .i64 j ∧ Hid (Fl wr g n ps j) ∧ Hid (Chg [g] wq wr)) (fun i _ => n - (intOf i).toNat)
      case atStart => exact ⟨0, by omega, rfl, HF0, Lib.hid (Chg.refl _ _)⟩
      case round =>
        obtain ⟨k, hk, rfl, HF, HC⟩ := hrel
        by_cases hkn : k < n
        · obtain ⟨h3, h4, h5⟩ := fl_round HL.out hkn HF.out
          have hy0 := HP.out.2.1 _ (getD_mem ps k (by have := HL.out; omega))
          obtain ⟨y, hye⟩ : ∃ x, x = ps.getD k 0 := ⟨_, rfl⟩
          rw [← hye] at h3 h5 hy0
          have e := u8_xor_nat y 255 hy0 (by decide)
          obtain ⟨z, hz⟩ : ∃ z, z = y ^^^ 255 := ⟨_, rfl⟩
          rw [← hz] at e h5
          have e' : bits .xor .u8 (y : Int) 255 = (z : Int) := e
          have H5 := Lib.hid h5
          clear h5 e hz hye
          go_wp2_with fail
          go_roundw
          case rel => exact ⟨k + 1, by omega, by go_num, H5, Lib.hid (HC.out.set_ (.inl (by simp)) _)⟩
          case measure => simp [intOf]; omega
        · obtain rfl : k = n := by omega
          have hfe := fl_end HL.out HP.out.2.1 (by omega) HF.out
          obtain ⟨z, hz⟩ : ∃ z, z = x ^^^ (65536 - 1) := ⟨_, rfl⟩
          have hzl : z < 65536 := by rw [hz]; exact Nat.xor_lt_two_pow (n := 16) HXL.out (by decide)
          have hq5 := get_uint16 (some ⟨g, 0, none⟩) k (k + 80) _ wr hfe hs (by omega)
          have hflip : Wd.unle ((ps.map (· ^^^ 255)).take 2) = z := by
            rw [← List.map_take, unle_flip _ (fun b h => HP.out.2.1 b (List.mem_of_mem_take h)), ← HX.out, List.length_take, HL.out, Nat.min_eq_left hs, hz]
          rw [hflip] at hq5
          obtain ⟨G, hG⟩ : ∃ G, G = 65536 - 1 := ⟨_, rfl⟩
          have hgr := rgreatest_any 2 65536 (by omega) (by decide) wr
          have e1 : bits .xor .u64 (x : Int) (G : Int) = (z : Int) := by rw [u64_xor_nat x G (by have := HXL.out; omega) (by omega), hz, hG]
          have vz : IntKind.u64.wrap (z : Int) = (z : Int) := Num.wrapN _ (by omega)
          rw [← hG] at hgr
          have hOr := chg_own5 HO0.out HC.out (by simp; have := HG2.out; have := HGG.out; omega)
          have hw5 := want_cut hOr HL.out (by omega)
          have hcap := (own_capn hOr).1
          have hgw := get_uint16 (some ⟨g2, k, none⟩) 2 (c4 - k) _ wr hw5 (by omega) (by omega)
          have hle : Wd.unle ((Wd.le 2 a).take 2) = a := by
            rw [List.take_of_length_le (Nat.le_of_eq (Wd.le_len 2 a)), Wd.unle_le]; exact Nat.mod_eq_of_lt (by have := HA.out; omega)
          rw [hle] at hgw
          have HGW := Lib.hid hgw
          have HQ5 := Lib.hid hq5
          have HGR := Lib.hid hgr
          have HHZ := Lib.hid hz
          have HHG := Lib.hid hG
          have HS1' := Lib.hid (sums_uint16 a b wr HA.out HBb.out)
          have HS2' := Lib.hid (sums_uint16 b a wr HBb.out HA.out)
          have HS3' := Lib.hid (sums_uint16 a a wr HA.out HA.out)
          clear hfe hq5 hgw hgr hz hG hOr hw5 hle hflip hzl
          go_wp2_with fail
          refine HQ5.out.mono ?_
          rintro e w5 ⟨rfl, rfl⟩
          go_wp2_with fail
          refine HGR.out.mono ?_
          rintro e w5 ⟨rfl, rfl⟩
          go_wp2_with fail
          refine HGW.out.mono ?_
          rintro e w5 ⟨rfl, rfl⟩
          have ea : ((a : Int) == (a : Int)) = true := by simp
          go_wp2_with fail
          refine HS1'.out.mono ?_
          rintro e w5 ⟨rfl, rfl⟩
          go_wp2_with fail
          refine HS2'.out.mono ?_
          rintro e w5 ⟨rfl, rfl⟩
          go_wp2_with fail
          refine HS3'.out.mono ?_
          rintro e w5 ⟨rfl, rfl⟩
          go_wp2_with fail
          go_ret
          exact ⟨rfl, (HBK0.out.chg HC.out (by simp)).more (by simp), below_chg HB0.out hB HC.out (by simp; exact hgB)⟩
set_option maxRecDepth 100000 in
set_option maxHeartbeats 2000000 in
theorem nshort_uint16 (A : Option Addr) (n c a b B gk : Nat) (ps : List Nat) (w : World) (hp : IsB w B A n ps) (hn : n ≤ 2147483647) (ha : a < 65536) (hb : b < 65536) (hB : B ≤ w.heap.size) (hbk : BK w B gk []) (hs : n < 2) :
    Calls Tryz.prog 6 #[.int .i64 2, .int .u16 (a : Nat), .int .u16 (b : Nat), .slice A n c, .pointer (some ⟨gk, 0, none⟩)] w fun e w' => e = .returned (.bool true) ∧ BK w' B gk [] ∧ Below B w w' := by
  obtain ⟨i0, hi0, hz1, hz2, hz3⟩ := info5'
  have HI := Lib.hid hi0; have HZ1 := Lib.hid hz1; have HZ2 := Lib.hid hz2; have HZ3 := Lib.hid hz3
  have HP := Lib.hid hp
  have HL := Lib.hid hp.len
  have HBK := Lib.hid hbk
  have HA := Lib.hid ha
  have HBb := Lib.hid hb
  have va : IntKind.u64.wrap (a : Int) = (a : Int) := Num.wrapN _ (by omega)
  have HSH := Lib.hid hs
  clear hp hbk hi0 hz1 hz2 hz3 ha hb hs
  go_enter Tryz.func6, Tryz.ntmps6
  go_wp2_with fail
  refine (roomy_any A n c ps 165 w (HP.out.more hB) (by omega)).mono ?_
  rintro e w1 ⟨rfl, hrow1, hb1⟩
  obtain ⟨g, hg⟩ : ∃ g, g = w.heap.size := ⟨_, rfl⟩
  rw [← hg] at hrow1 ⊢
  have HROW1 := Lib.hid hrow1
  have HB1 := Lib.hid (hb1.mono hB)
  have HBK1 := Lib.hid ((HBK.out.more (F' := [g]) (fun k hk => .inr (by simp at hk; omega))).below hb1)
  have HS1 := Lib.hid hb1.size
  have hgB : B ≤ g := by omega
  have HP1 := Lib.hid ((HP.out.below HB1.out).more (B' := w1.heap.size) (by have := HS1.out; omega))
  have HG := Lib.hid hg
  clear hrow1 hb1 HBK hg
  go_wp2_with (at_builtin; refine wpList_append_nil _ rfl (.const (.slice none 0 0)) (.tmp 23) _ rfl 5 i0 _ 1 1 Tryz.underlying23 HI.out HZ1.out HZ2.out HZ3.out rfl (by omega) rfl w1.heap.size A n c (ps.map u8) rfl HP1.out.1 (one_u8 ps) (by simp only [maxLen]; omega) (by omega) ?_; intro A2 c2 w2 HN2)
  refine (refbytes_n a 2 w2 (by have := HA.out; omega) (by omega)).mono ?_
  rintro e w3 ⟨⟨A3, c3, rfl, hown3⟩, hb3⟩
  have HN3 : Hid (Own w3 w1.heap.size A2 n c2 ps) := Lib.hid (Own.below ⟨HN2.out.1, HP.out.2⟩ hb3)
  have HX3 := Lib.hid hown3.isB
  have HB3 := Lib.hid (HN2.out.below.trans (hb3.mono HN2.out.below.size))
  clear hown3 hb3 HN2
  go_wp2_with (at_builtin; refine wpList_append_more _ rfl (.tmp 24) (.tmp 28) _ rfl w1.heap.size 5 i0 _ 1 1 Tryz.underlying23 HI.out HZ1.out HZ2.out HZ3.out rfl (by omega) _ _ _ _ rfl HN3.out.1 w3.heap.size A3 2 c3 ((Wd.le 2 a).map Go.Proofs.YtomjmapidjnpbaaGreat.u8) rfl HX3.out.1 (one_u8 _) (by simp only [maxLen]; omega) (by omega) HB3.out.size ?_; intro A4 c4 w4 HN4)
  have hO4 : Own w4 w1.heap.size A4 (n + 2) c4 (ps ++ Wd.le 2 a) := ⟨by rw [List.map_append]; exact HN4.out.1, by
    intro b hb
    rcases List.mem_append.1 hb with hb | hb
    · exact HP.out.2.1 b hb
    · exact Wd.le_lt _ _ b hb, by omega⟩
  obtain ⟨g2, cur2, rfl, hg2, _, _⟩ := own_blk hO4 (by omega)
  have HO4 := Lib.hid hO4
  have hb4 := HB3.out.trans (HN4.out.2.2)
  have HROW4 := Lib.hid (HROW1.out.below hb4 HROW1.out.lt)
  have HBK4 := Lib.hid ((HBK1.out.more (F' := [g, g2]) (fun k hk => by simp at hk; rcases hk with rfl | rfl; exact .inl (by simp); exact .inr hg2)).below hb4)
  have HB4 := Lib.hid (HB1.out.trans (hb4.mono (by have := HS1.out; omega)))
  have HG2 := Lib.hid hg2
  have hcap := (own_capn hO4).1
  have HS4 : Hid (w.heap.size ≤ w4.heap.size) := Lib.hid (Nat.le_trans HS1.out hb4.size)
  have HGG : Hid (g < w1.heap.size) := Lib.hid HROW1.out.lt
  clear hO4 hb4 HN3 HX3 HN4 HB3 HROW1 HBK1 HB1 hg2 HP1
  go_loopw [13] (fun i wr => ∃ j : Nat, j ≤ 2 ∧ i = .int .i64 j ∧ Hid (Row wr g 5 (fillM (ps.map u8) (u8 165) 80)) ∧ Hid (Own wr w1.heap.size (some ⟨g2, 0, none⟩) (n + 2) c4 (ps ++ Wd.le 2 a)) ∧ Hid (BK wr B gk [g, g2]) ∧ Hid (Below B w wr) ∧ Hid (w1.heap.size ≤ wr.heap.size)) (fun i _ => 2 - (intOf i).toNat)
  case atStart => exact ⟨0, by omega, rfl, HROW4, HO4, HBK4, HB4, Lib.hid (by have := (HO4.out.1.lt g2 rfl); omega)⟩
  case round =>
    clear HROW4 HO4 HBK4 HB4 HS4
    obtain ⟨j, hj, rfl, HROW, HO, HBK, HBW, HSW⟩ := hrel
    by_cases hjn : j < 2
    · go_wp2_with fail
      refine (put_uint16 (some ⟨g, 0, none⟩) n (n + 80) ps a wr (room_isB HROW.out HL.out HP.out.2.1 HROW.out.lt (by omega)) (by omega) HA.out).mono ?_
      rintro e w5 ⟨⟨g3, c5, rfl, hown5⟩, hb5⟩
      have HO5 := Lib.hid hown5
      have HO5' := Lib.hid (HO.out.below hb5)
      have HR5 := Lib.hid (HROW.out.below hb5 HROW.out.lt)
      have HB5 := Lib.hid hb5
      have HP5 := Lib.hid ((HP.out.below (HBW.out.trans (hb5.mono (by have := HSW.out; have := HS1.out; omega)))).more (B' := w5.heap.size) (by have := HSW.out; have := HS1.out; have := hb5.size; omega))
      clear hown5 hb5
      go_wp2_with fail
      refine (same_yes _ _ _ _ _ _ w5 HO5.out.isB HO5'.out.isB).mono ?_
      rintro e w6 ⟨rfl, m6, rfl⟩
      go_wp2_with fail
      refine (intact_yes A n c g ps 165 (w5.drewN m6) HP5.out (HR5.out.drewN m6) (by omega)).mono ?_
      rintro e w7 ⟨rfl, m7, rfl⟩
      go_wp2_with fail
      refine (keep_bk (F := [g, g2]) HBK.out (below_drewN HB5.out (m6 + m7)) ?_ (by have := HSW.out; have := HS1.out; omega) (A := some ⟨g3, 0, none⟩) (n := n + 2) (c := c5) (bs := ps ++ Wd.le 2 a) HO5.out (by omega)).mono ?_
      · intro k hk
        simp at hk
        rcases hk with rfl | rfl
        · exact HROW.out.lt
        · exact (HO.out.1.lt k rfl).2
      · rintro e w8 ⟨rfl, hbk8, T, hT, hT2, hT3⟩
        have HBK8 := Lib.hid hbk8
        have HR8 : Hid (Row w8 g 5 (fillM (ps.map u8) (u8 165) 80)) := Lib.hid (hT.row (HR5.out.drewN (m6 + m7)) (hT3 g (by simp)))
        have HO8 : Hid (Own w8 w1.heap.size (some ⟨g2, 0, none⟩) (n + 2) c4 (ps ++ Wd.le 2 a)) := Lib.hid (chg_own5 (w := w5.drewN (m6 + m7)) HO5'.out hT (hT3 g2 (by simp)))
        have HB8 : Hid (Below B w w8) := Lib.hid (below_chg (below_drewN (HBW.out.trans (HB5.out.mono (by have := HSW.out; have := HS1.out; omega))) (m6 + m7)) hB hT hT2)
        have HS8 : Hid (w1.heap.size ≤ w8.heap.size) := Lib.hid (Nat.le_trans (Nat.le_trans HSW.out HB5.out.size) hT.size)
        clear hbk8 hT hT2 hT3 HR5 HO5 HO5' HB5 HBK HBW HSW HROW HO HP5
        go_wp2_with fail
        go_roundw
        case rel => exact ⟨j + 1, by omega, by go_num, HR8, HO8, HBK8, HB8, HS8⟩
        case measure => simp [intOf]; omega
    · have HJ : Hid (j = 2) := Lib.hid (by omega)
      have HG5 := Lib.hid (getno_uint16 (some ⟨g, 0, none⟩) n (n + 80) ps wr HSH.out)
      have HN5 := Lib.hid (dnum_no A n c 2 wr HSH.out (by omega))
      have HPW := Lib.hid ((HP.out.below HBW.out).more (B' := wr.heap.size) (by have := HSW.out; have := HS1.out; omega))
      go_wp2_with fail
      refine HG5.out.mono ?_
      rintro e w5 ⟨rfl, rfl⟩
      go_wp2_with fail
      refine HN5.out.mono ?_
      rintro e w5 ⟨rfl, rfl⟩
      go_wp2_with fail
      refine (intact_yes A n c g ps 165 wr HPW.out HROW.out (by omega)).mono ?_
      rintro e w5 ⟨rfl, m5, rfl⟩
      go_wp2_with fail
      have HF0 := Lib.hid ((fl_start HL.out (HROW.out.drewN m5)))
      have HO0 : Hid (Own (wr.drewN m5) w1.heap.size (some ⟨g2, 0, none⟩) (n + 2) c4 (ps ++ Wd.le 2 a)) := HO
      have HBK0 : Hid (BK (wr.drewN m5) B gk [g, g2]) := Lib.hid (HBK.out.below (below_drewN (Below.refl _ _) m5))
      have HB0 : Hid (Below B w (wr.drewN m5)) := Lib.hid (below_drewN HBW.out m5)
      have HS0 : Hid (w1.heap.size ≤ (wr.drewN m5).heap.size) := HSW
      clear HROW HO HBK HBW HSW HG5 HN5 HPW
      generalize wr.drewN m5 = wq at *
      go_loopw [19] (fun i wr => ∃ j : Nat, j ≤ n ∧ i = .int .i64 j ∧ Hid (Fl wr g n ps j) ∧ Hid (Chg [g] wq wr)) (fun i _ => n - (intOf i).toNat)
      case atStart => exact ⟨0, by omega, rfl, HF0, Lib.hid (Chg.refl _ _)⟩
      case round =>
        obtain ⟨k, hk, rfl, HF, HC⟩ := hrel
        by_cases hkn : k < n
        · obtain ⟨h3, h4, h5⟩ := fl_round HL.out hkn HF.out
          have hy0 := HP.out.2.1 _ (getD_mem ps k (by have := HL.out; omega))
          obtain ⟨y, hye⟩ : ∃ x, x = ps.getD k 0 := ⟨_, rfl⟩
          rw [← hye] at h3 h5 hy0
          have e := u8_xor_nat y 255 hy0 (by decide)
          obtain ⟨z, hz⟩ : ∃ z, z = y ^^^ 255 := ⟨_, rfl⟩
          rw [← hz] at e h5
          have e' : bits .xor .u8 (y : Int) 255 = (z : Int) := e
          have H5 := Lib.hid h5
          clear h5 e hz hye
          go_wp2_with fail
          go_roundw
          case rel => exact ⟨k + 1, by omega, by go_num, H5, Lib.hid (HC.out.set_ (.inl (by simp)) _)⟩
          case measure => simp [intOf]; omega
        · obtain rfl : k = n := by omega
          have HQ5 := Lib.hid (getno_uint16 (some ⟨g, 0, none⟩) k (k + 80) ps wr HSH.out)
          have hOr := chg_own5 HO0.out HC.out (by simp; have := HG2.out; have := HGG.out; omega)
          have hw5 := want_cut hOr HL.out (by omega)
          have hcap := (own_capn hOr).1
          have hgw := get_uint16 (some ⟨g2, k, none⟩) 2 (c4 - k) _ wr hw5 (by omega) (by omega)
          have hle : Wd.unle ((Wd.le 2 a).take 2) = a := by
            rw [List.take_of_length_le (Nat.le_of_eq (Wd.le_len 2 a)), Wd.unle_le]; exact Nat.mod_eq_of_lt (by have := HA.out; omega)
          rw [hle] at hgw
          have HGW := Lib.hid hgw
          have HS1' := Lib.hid (sums_uint16 a b wr HA.out HBb.out)
          have HS2' := Lib.hid (sums_uint16 b a wr HBb.out HA.out)
          have HS3' := Lib.hid (sums_uint16 a a wr HA.out HA.out)
          clear hgw hOr hw5 hle
          go_wp2_with fail
          refine HQ5.out.mono ?_
          rintro e w5 ⟨rfl, rfl⟩
          go_wp2_with fail
          refine HGW.out.mono ?_
          rintro e w5 ⟨rfl, rfl⟩
          have ea : ((a : Int) == (a : Int)) = true := by simp
          go_wp2_with fail
          refine HS1'.out.mono ?_
          rintro e w5 ⟨rfl, rfl⟩
          go_wp2_with fail
          refine HS2'.out.mono ?_
          rintro e w5 ⟨rfl, rfl⟩
          go_wp2_with fail
          refine HS3'.out.mono ?_
          rintro e w5 ⟨rfl, rfl⟩
          go_wp2_with fail
          go_ret
          exact ⟨rfl, (HBK0.out.chg HC.out (by simp)).more (by simp), below_chg HB0.out hB HC.out (by simp; exact hgB)⟩
theorem numbers_uint16 (A : Option Addr) (n c a b B gk : Nat) (ps : List Nat) (w : World) (hp : IsB w B A n ps) (hn : n ≤ 2147483647) (ha : a < 65536) (hb : b < 65536) (hB : B ≤ w.heap.size) (hbk : BK w B gk []) :
    Calls Tryz.prog 6 #[.int .i64 2, .int .u16 (a : Nat), .int .u16 (b : Nat), .slice A n c, .pointer (some ⟨gk, 0, none⟩)] w fun e w' => e = .returned (.bool true) ∧ BK w' B gk [] ∧ Below B w w' := by
  rcases Nat.lt_or_ge n 2 with h | h
  · exact nshort_uint16 A n c a b B gk ps w hp hn ha hb hB hbk h
  · exact nlong_uint16 A n c a b B gk ps w hp hn ha hb hB hbk h
set_option maxRecDepth 100000 in
set_option maxHeartbeats 2000000 in
theorem nlong_Small (A : Option Addr) (n c a b B gk : Nat) (ps : List Nat) (w : World) (hp : IsB w B A n ps) (hn : n ≤ 2147483647) (ha : a < 65536) (hb : b < 65536) (hB : B ≤ w.heap.size) (hbk : BK w B gk []) (hs : 2 ≤ n) :
    Calls Tryz.prog 10 #[.int .i64 2, .int .u16 (a : Nat), .int .u16 (b : Nat), .slice A n c, .pointer (some ⟨gk, 0, none⟩)] w fun e w' => e = .returned (.bool true) ∧ BK w' B gk [] ∧ Below B w w' := by
  obtain ⟨i0, hi0, hz1, hz2, hz3⟩ := info5'
  have HI := Lib.hid hi0; have HZ1 := Lib.hid hz1; have HZ2 := Lib.hid hz2; have HZ3 := Lib.hid hz3
  have HP := Lib.hid hp
  have HL := Lib.hid hp.len
  have HBK := Lib.hid hbk
  have HA := Lib.hid ha
  have HBb := Lib.hid hb
  have va : IntKind.u64.wrap (a : Int) = (a : Int) := Num.wrapN _ (by omega)
  clear hp hbk hi0 hz1 hz2 hz3 ha hb
  go_enter Tryz.func10, Tryz.ntmps10
  go_wp2_with fail
  refine (roomy_any A n c ps 165 w (HP.out.more hB) (by omega)).mono ?_
  rintro e w1 ⟨rfl, hrow1, hb1⟩
  obtain ⟨g, hg⟩ : ∃ g, g = w.heap.size := ⟨_, rfl⟩
  rw [← hg] at hrow1 ⊢
  have HROW1 := Lib.hid hrow1
  have HB1 := Lib.hid (hb1.mono hB)
  have HBK1 := Lib.hid ((HBK.out.more (F' := [g]) (fun k hk => .inr (by simp at hk; omega))).below hb1)
  have HS1 := Lib.hid hb1.size
  have hgB : B ≤ g := by omega
  have HP1 := Lib.hid ((HP.out.below HB1.out).more (B' := w1.heap.size) (by have := HS1.out; omega))
  have HG := Lib.hid hg
  clear hrow1 hb1 HBK hg
  go_wp2_with (at_builtin; refine wpList_append_nil _ rfl (.const (.slice none 0 0)) (.tmp 23) _ rfl 5 i0 _ 1 1 Tryz.underlying23 HI.out HZ1.out HZ2.out HZ3.out rfl (by omega) rfl w1.heap.size A n c (ps.map u8) rfl HP1.out.1 (one_u8 ps) (by simp only [maxLen]; omega) (by omega) ?_; intro A2 c2 w2 HN2)
  refine (refbytes_n a 2 w2 (by have := HA.out; omega) (by omega)).mono ?_
  rintro e w3 ⟨⟨A3, c3, rfl, hown3⟩, hb3⟩
  have HN3 : Hid (Own w3 w1.heap.size A2 n c2 ps) := Lib.hid (Own.below ⟨HN2.out.1, HP.out.2⟩ hb3)
  have HX3 := Lib.hid hown3.isB
  have HB3 := Lib.hid (HN2.out.below.trans (hb3.mono HN2.out.below.size))
  clear hown3 hb3 HN2
  go_wp2_with (at_builtin; refine wpList_append_more _ rfl (.tmp 24) (.tmp 28) _ rfl w1.heap.size 5 i0 _ 1 1 Tryz.underlying23 HI.out HZ1.out HZ2.out HZ3.out rfl (by omega) _ _ _ _ rfl HN3.out.1 w3.heap.size A3 2 c3 ((Wd.le 2 a).map Go.Proofs.YtomjmapidjnpbaaGreat.u8) rfl HX3.out.1 (one_u8 _) (by simp only [maxLen]; omega) (by omega) HB3.out.size ?_; intro A4 c4 w4 HN4)
  have hO4 : Own w4 w1.heap.size A4 (n + 2) c4 (ps ++ Wd.le 2 a) := ⟨by rw [List.map_append]; exact HN4.out.1, by
    intro b hb
    rcases List.mem_append.1 hb with hb | hb
    · exact HP.out.2.1 b hb
    · exact Wd.le_lt _ _ b hb, by omega⟩
  obtain ⟨g2, cur2, rfl, hg2, _, _⟩ := own_blk hO4 (by omega)
  have HO4 := Lib.hid hO4
  have hb4 := HB3.out.trans (HN4.out.2.2)
  have HROW4 := Lib.hid (HROW1.out.below hb4 HROW1.out.lt)
  have HBK4 := Lib.hid ((HBK1.out.more (F' := [g, g2]) (fun k hk => by simp at hk; rcases hk with rfl | rfl; exact .inl (by simp); exact .inr hg2)).below hb4)
  have HB4 := Lib.hid (HB1.out.trans (hb4.mono (by have := HS1.out; omega)))
  have HG2 := Lib.hid hg2
  have hcap := (own_capn hO4).1
  have HS4 : Hid (w.heap.size ≤ w4.heap.size) := Lib.hid (Nat.le_trans HS1.out hb4.size)
  have HGG : Hid (g < w1.heap.size) := Lib.hid HROW1.out.lt
  clear hO4 hb4 HN3 HX3 HN4 HB3 HROW1 HBK1 HB1 hg2 HP1
  go_loopw [13] (fun i wr => ∃ j : Nat, j ≤ 2 ∧ i = .int .i64 j ∧ Hid (Row wr g 5 (fillM (ps.map u8) (u8 165) 80)) ∧ Hid (Own wr w1.heap.size (some ⟨g2, 0, none⟩) (n + 2) c4 (ps ++ Wd.le 2 a)) ∧ Hid (BK wr B gk [g, g2]) ∧ Hid (Below B w wr) ∧ Hid (w1.heap.size ≤ wr.heap.size)) (fun i _ => 2 - (intOf i).toNat)
  case atStart => exact ⟨0, by omega, rfl, HROW4, HO4, HBK4, HB4, Lib.hid (by have := (HO4.out.1.lt g2 rfl); omega)⟩
  case round =>
    clear HROW4 HO4 HBK4 HB4 HS4
    obtain ⟨j, hj, rfl, HROW, HO, HBK, HBW, HSW⟩ := hrel
    by_cases hjn : j < 2
    · go_wp2_with fail
      refine (put_Small (some ⟨g, 0, none⟩) n (n + 80) ps a wr (room_isB HROW.out HL.out HP.out.2.1 HROW.out.lt (by omega)) (by omega) HA.out).mono ?_
      rintro e w5 ⟨⟨g3, c5, rfl, hown5⟩, hb5⟩
      have HO5 := Lib.hid hown5
      have HO5' := Lib.hid (HO.out.below hb5)
      have HR5 := Lib.hid (HROW.out.below hb5 HROW.out.lt)
      have HB5 := Lib.hid hb5
      have HP5 := Lib.hid ((HP.out.below (HBW.out.trans (hb5.mono (by have := HSW.out; have := HS1.out; omega)))).more (B' := w5.heap.size) (by have := HSW.out; have := HS1.out; have := hb5.size; omega))
      clear hown5 hb5
      go_wp2_with fail
      refine (same_yes _ _ _ _ _ _ w5 HO5.out.isB HO5'.out.isB).mono ?_
      rintro e w6 ⟨rfl, m6, rfl⟩
      go_wp2_with fail
      refine (intact_yes A n c g ps 165 (w5.drewN m6) HP5.out (HR5.out.drewN m6) (by omega)).mono ?_
      rintro e w7 ⟨rfl, m7, rfl⟩
      go_wp2_with fail
      refine (keep_bk (F := [g, g2]) HBK.out (below_drewN HB5.out (m6 + m7)) ?_ (by have := HSW.out; have := HS1.out; omega) (A := some ⟨g3, 0, none⟩) (n := n + 2) (c := c5) (bs := ps ++ Wd.le 2 a) HO5.out (by omega)).mono ?_
      · intro k hk
        simp at hk
        rcases hk with rfl | rfl
        · exact HROW.out.lt
        · exact (HO.out.1.lt k rfl).2
      · rintro e w8 ⟨rfl, hbk8, T, hT, hT2, hT3⟩
        have HBK8 := Lib.hid hbk8
        have HR8 : Hid (Row w8 g 5 (fillM (ps.map u8) (u8 165) 80)) := Lib.hid (hT.row (HR5.out.drewN (m6 + m7)) (hT3 g (by simp)))
        have HO8 : Hid (Own w8 w1.heap.size (some ⟨g2, 0, none⟩) (n + 2) c4 (ps ++ Wd.le 2 a)) := Lib.hid (chg_own5 (w := w5.drewN (m6 + m7)) HO5'.out hT (hT3 g2 (by simp)))
        have HB8 : Hid (Below B w w8) := Lib.hid (below_chg (below_drewN (HBW.out.trans (HB5.out.mono (by have := HSW.out; have := HS1.out; omega))) (m6 + m7)) hB hT hT2)
        have HS8 : Hid (w1.heap.size ≤ w8.heap.size) := Lib.hid (Nat.le_trans (Nat.le_trans HSW.out HB5.out.size) hT.size)
        clear hbk8 hT hT2 hT3 HR5 HO5 HO5' HB5 HBK HBW HSW HROW HO HP5
        go_wp2_with fail
        go_roundw
        case rel => exact ⟨j + 1, by omega, by go_num, HR8, HO8, HBK8, HB8, HS8⟩
        case measure => simp [intOf]; omega
    · have HJ : Hid (j = 2) := Lib.hid (by omega)
      obtain ⟨x, hx⟩ : ∃ x, x = Wd.unle (ps.take 2) := ⟨_, rfl⟩
      have hxl : x < 65536 := by
        have h := Wd.unle_lt (ps.take 2) (fun b h => HP.out.2.1 b (List.mem_of_mem_take h))
        rw [← hx, List.length_take, HL.out, Nat.min_eq_left hs] at h
        exact h
      have vx : IntKind.u64.wrap (x : Int) = (x : Int) := Num.wrapN _ (by omega)
      have hg5 := get_Small (some ⟨g, 0, none⟩) n (n + 80) ps wr (room_isB HROW.out HL.out HP.out.2.1 HROW.out.lt (by omega)) hs (by omega)
      have hn5 := dnum_of A n c 2 ps wr ((HP.out.below HBW.out).more (by have := HSW.out; have := HS1.out; omega)) (by omega) (by omega) hs
      rw [← hx] at hg5 hn5
      have HG5 := Lib.hid hg5
      have HN5 := Lib.hid hn5
      have HX := Lib.hid hx
      have HPW := Lib.hid ((HP.out.below HBW.out).more (B' := wr.heap.size) (by have := HSW.out; have := HS1.out; omega))
      have HXL := Lib.hid hxl
      clear hg5 hn5 hx hxl
      go_wp2_with fail
      refine HG5.out.mono ?_
      rintro e w5 ⟨rfl, rfl⟩
      go_wp2_with fail
      refine HN5.out.mono ?_
      rintro e w5 ⟨rfl, rfl⟩
      go_wp2_with fail
      refine (intact_yes A n c g ps 165 wr HPW.out HROW.out (by omega)).mono ?_
      rintro e w5 ⟨rfl, m5, rfl⟩
      go_wp2_with fail
      have HF0 := Lib.hid ((fl_start HL.out (HROW.out.drewN m5)))
      have HO0 : Hid (Own (wr.drewN m5) w1.heap.size (some ⟨g2, 0, none⟩) (n + 2) c4 (ps ++ Wd.le 2 a)) := HO
      have HBK0 : Hid (BK (wr.drewN m5) B gk [g, g2]) := Lib.hid (HBK.out.below (below_drewN (Below.refl _ _) m5))
      have HB0 : Hid (Below B w (wr.drewN m5)) := Lib.hid (below_drewN HBW.out m5)
      have HS0 : Hid (w1.heap.size ≤ (wr.drewN m5).heap.size) := HSW
      clear HROW HO HBK HBW HSW HG5 HN5 HPW
      generalize wr.drewN m5 = wq at *
      go_loopw [19] (fun i wr => ∃ j : Nat, j ≤ n ∧ i = .int .i64 j ∧ Hid (Fl wr g n ps j) ∧ Hid (Chg [g] wq wr)) (fun i _ => n - (intOf i).toNat)
      case atStart => exact ⟨0, by omega, rfl, HF0, Lib.hid (Chg.refl _ _)⟩
      case round =>
        obtain ⟨k, hk, rfl, HF, HC⟩ := hrel
        by_cases hkn : k < n
        · obtain ⟨h3, h4, h5⟩ := fl_round HL.out hkn HF.out
          have hy0 := HP.out.2.1 _ (getD_mem ps k (by have := HL.out; omega))
          obtain ⟨y, hye⟩ : ∃ x, x = ps.getD k 0 := ⟨_, rfl⟩
          rw [← hye] at h3 h5 hy0
          have e := u8_xor_nat y 255 hy0 (by decide)
          obtain ⟨z, hz⟩ : ∃ z, z = y ^^^ 255 := ⟨_, rfl⟩
          rw [← hz] at e h5
          have e' : bits .xor .u8 (y : Int) 255 = (z : Int) := e
          have H5 := Lib.hid h5
          clear h5 e hz hye
          go_wp2_with fail
          go_roundw
          case rel => exact ⟨k + 1, by omega, by go_num, H5, Lib.hid (HC.out.set_ (.inl (by simp)) _)⟩
          case measure => simp [intOf]; omega
        · obtain rfl : k = n := by omega
          have hfe := fl_end HL.out HP.out.2.1 (by omega) HF.out
          obtain ⟨z, hz⟩ : ∃ z, z = x ^^^ (65536 - 1) := ⟨_, rfl⟩
          have hzl : z < 65536 := by rw [hz]; exact Nat.xor_lt_two_pow (n := 16) HXL.out (by decide)
          have hq5 := get_Small (some ⟨g, 0, none⟩) k (k + 80) _ wr hfe hs (by omega)
          have hflip : Wd.unle ((ps.map (· ^^^ 255)).take 2) = z := by
            rw [← List.map_take, unle_flip _ (fun b h => HP.out.2.1 b (List.mem_of_mem_take h)), ← HX.out, List.length_take, HL.out, Nat.min_eq_left hs, hz]
          rw [hflip] at hq5
          obtain ⟨G, hG⟩ : ∃ G, G = 65536 - 1 := ⟨_, rfl⟩
          have hgr := rgreatest_any 2 65536 (by omega) (by decide) wr
          have e1 : bits .xor .u64 (x : Int) (G : Int) = (z : Int) := by rw [u64_xor_nat x G (by have := HXL.out; omega) (by omega), hz, hG]
          have vz : IntKind.u64.wrap (z : Int) = (z : Int) := Num.wrapN _ (by omega)
          rw [← hG] at hgr
          have hOr := chg_own5 HO0.out HC.out (by simp; have := HG2.out; have := HGG.out; omega)
          have hw5 := want_cut hOr HL.out (by omega)
          have hcap := (own_capn hOr).1
          have hgw := get_Small (some ⟨g2, k, none⟩) 2 (c4 - k) _ wr hw5 (by omega) (by omega)
          have hle : Wd.unle ((Wd.le 2 a).take 2) = a := by
            rw [List.take_of_length_le (Nat.le_of_eq (Wd.le_len 2 a)), Wd.unle_le]; exact Nat.mod_eq_of_lt (by have := HA.out; omega)
          rw [hle] at hgw
          have HGW := Lib.hid hgw
          have HQ5 := Lib.hid hq5
          have HGR := Lib.hid hgr
          have HHZ := Lib.hid hz
          have HHG := Lib.hid hG
          have HS1' := Lib.hid (sums_Small a b wr HA.out HBb.out)
          have HS2' := Lib.hid (sums_Small b a wr HBb.out HA.out)
          have HS3' := Lib.hid (sums_Small a a wr HA.out HA.out)
          clear hfe hq5 hgw hgr hz hG hOr hw5 hle hflip hzl
          go_wp2_with fail
          refine HQ5.out.mono ?_
          rintro e w5 ⟨rfl, rfl⟩
          go_wp2_with fail
          refine HGR.out.mono ?_
          rintro e w5 ⟨rfl, rfl⟩
          go_wp2_with fail
          refine HGW.out.mono ?_
          rintro e w5 ⟨rfl, rfl⟩
          have ea : ((a : Int) == (a : Int)) = true := by simp
          go_wp2_with fail
          refine HS1'.out.mono ?_
          rintro e w5 ⟨rfl, rfl⟩
          go_wp2_with fail
          refine HS2'.out.mono ?_
          rintro e w5 ⟨rfl, rfl⟩
          go_wp2_with fail
          refine HS3'.out.mono ?_
          rintro e w5 ⟨rfl, rfl⟩
          go_wp2_with fail
          go_ret
          exact ⟨rfl, (HBK0.out.chg HC.out (by simp)).more (by simp), below_chg HB0.out hB HC.out (by simp; exact hgB)⟩
set_option maxRecDepth 100000 in
set_option maxHeartbeats 2000000 in
theorem nshort_Small (A : Option Addr) (n c a b B gk : Nat) (ps : List Nat) (w : World) (hp : IsB w B A n ps) (hn : n ≤ 2147483647) (ha : a < 65536) (hb : b < 65536) (hB : B ≤ w.heap.size) (hbk : BK w B gk []) (hs : n < 2) :
    Calls Tryz.prog 10 #[.int .i64 2, .int .u16 (a : Nat), .int .u16 (b : Nat), .slice A n c, .pointer (some ⟨gk, 0, none⟩)] w fun e w' => e = .returned (.bool true) ∧ BK w' B gk [] ∧ Below B w w' := by
  obtain ⟨i0, hi0, hz1, hz2, hz3⟩ := info5'
  have HI := Lib.hid hi0; have HZ1 := Lib.hid hz1; have HZ2 := Lib.hid hz2; have HZ3 := Lib.hid hz3
  have HP := Lib.hid hp
  have HL := Lib.hid hp.len
  have HBK := Lib.hid hbk
  have HA := Lib.hid ha
  have HBb := Lib.hid hb
  have va : IntKind.u64.wrap (a : Int) = (a : Int) := Num.wrapN _ (by omega)
  have HSH := Lib.hid hs
  clear hp hbk hi0 hz1 hz2 hz3 ha hb hs
  go_enter Tryz.func10, Tryz.ntmps10
  go_wp2_with fail
  refine (roomy_any A n c ps 165 w (HP.out.more hB) (by omega)).mono ?_
  rintro e w1 ⟨rfl, hrow1, hb1⟩
  obtain ⟨g, hg⟩ : ∃ g, g = w.heap.size := ⟨_, rfl⟩
  rw [← hg] at hrow1 ⊢
  have HROW1 := Lib.hid hrow1
  have HB1 := Lib.hid (hb1.mono hB)
  have HBK1 := Lib.hid ((HBK.out.more (F' := [g]) (fun k hk => .inr (by simp at hk; omega))).below hb1)
  have HS1 := Lib.hid hb1.size
  have hgB : B ≤ g := by omega
  have HP1 := Lib.hid ((HP.out.below HB1.out).more (B' := w1.heap.size) (by have := HS1.out; omega))
  have HG := Lib.hid hg
  clear hrow1 hb1 HBK hg
  go_wp2_with (at_builtin; refine wpList_append_nil _ rfl (.const (.slice none 0 0)) (.tmp 23) _ rfl 5 i0 _ 1 1 Tryz.underlying23 HI.out HZ1.out HZ2.out HZ3.out rfl (by omega) rfl w1.heap.size A n c (ps.map u8) rfl HP1.out.1 (one_u8 ps) (by simp only [maxLen]; omega) (by omega) ?_; intro A2 c2 w2 HN2)
  refine (refbytes_n a 2 w2 (by have := HA.out; omega) (by omega)).mono ?_
  rintro e w3 ⟨⟨A3, c3, rfl, hown3⟩, hb3⟩
  have HN3 : Hid (Own w3 w1.heap.size A2 n c2 ps) := Lib.hid (Own.below ⟨HN2.out.1, HP.out.2⟩ hb3)
  have HX3 := Lib.hid hown3.isB
  have HB3 := Lib.hid (HN2.out.below.trans (hb3.mono HN2.out.below.size))
  clear hown3 hb3 HN2
  go_wp2_with (at_builtin; refine wpList_append_more _ rfl (.tmp 24) (.tmp 28) _ rfl w1.heap.size 5 i0 _ 1 1 Tryz.underlying23 HI.out HZ1.out HZ2.out HZ3.out rfl (by omega) _ _ _ _ rfl HN3.out.1 w3.heap.size A3 2 c3 ((Wd.le 2 a).map Go.Proofs.YtomjmapidjnpbaaGreat.u8) rfl HX3.out.1 (one_u8 _) (by simp only [maxLen]; omega) (by omega) HB3.out.size ?_; intro A4 c4 w4 HN4)
  have hO4 : Own w4 w1.heap.size A4 (n + 2) c4 (ps ++ Wd.le 2 a) := ⟨by rw [List.map_append]; exact HN4.out.1, by
    intro b hb
    rcases List.mem_append.1 hb with hb | hb
    · exact HP.out.2.1 b hb
    · exact Wd.le_lt _ _ b hb, by omega⟩
  obtain ⟨g2, cur2, rfl, hg2, _, _⟩ := own_blk hO4 (by omega)
  have HO4 := Lib.hid hO4
  have hb4 := HB3.out.trans (HN4.out.2.2)
  have HROW4 := Lib.hid (HROW1.out.below hb4 HROW1.out.lt)
  have HBK4 := Lib.hid ((HBK1.out.more (F' := [g, g2]) (fun k hk => by simp at hk; rcases hk with rfl | rfl; exact .inl (by simp); exact .inr hg2)).below hb4)
  have HB4 := Lib.hid (HB1.out.trans (hb4.mono (by have := HS1.out; omega)))
  have HG2 := Lib.hid hg2
  have hcap := (own_capn hO4).1
  have HS4 : Hid (w.heap.size ≤ w4.heap.size) := Lib.hid (Nat.le_trans HS1.out hb4.size)
  have HGG : Hid (g < w1.heap.size) := Lib.hid HROW1.out.lt
  clear hO4 hb4 HN3 HX3 HN4 HB3 HROW1 HBK1 HB1 hg2 HP1
  go_loopw [13] (fun i wr => ∃ j : Nat, j ≤ 2 ∧ i = .int .i64 j ∧ Hid (Row wr g 5 (fillM (ps.map u8) (u8 165) 80)) ∧ Hid (Own wr w1.heap.size (some ⟨g2, 0, none⟩) (n + 2) c4 (ps ++ Wd.le 2 a)) ∧ Hid (BK wr B gk [g, g2]) ∧ Hid (Below B w wr) ∧ Hid (w1.heap.size ≤ wr.heap.size)) (fun i _ => 2 - (intOf i).toNat)
  case atStart => exact ⟨0, by omega, rfl, HROW4, HO4, HBK4, HB4, Lib.hid (by have := (HO4.out.1.lt g2 rfl); omega)⟩
  case round =>
    clear HROW4 HO4 HBK4 HB4 HS4
    obtain ⟨j, hj, rfl, HROW, HO, HBK, HBW, HSW⟩ := hrel
    by_cases hjn : j < 2
    · go_wp2_with fail
      refine (put_Small (some ⟨g, 0, none⟩) n (n + 80) ps a wr (room_isB HROW.out HL.out HP.out.2.1 HROW.out.lt (by omega)) (by omega) HA.out).mono ?_
      rintro e w5 ⟨⟨g3, c5, rfl, hown5⟩, hb5⟩
      have HO5 := Lib.hid hown5
      have HO5' := Lib.hid (HO.out.below hb5)
      have HR5 := Lib.hid (HROW.out.below hb5 HROW.out.lt)
      have HB5 := Lib.hid hb5
      have HP5 := Lib.hid ((HP.out.below (HBW.out.trans (hb5.mono (by have := HSW.out; have := HS1.out; omega)))).more (B' := w5.heap.size) (by have := HSW.out; have := HS1.out; have := hb5.size; omega))
      clear hown5 hb5
      go_wp2_with fail
      refine (same_yes _ _ _ _ _ _ w5 HO5.out.isB HO5'.out.isB).mono ?_
      rintro e w6 ⟨rfl, m6, rfl⟩
      go_wp2_with fail
      refine (intact_yes A n c g ps 165 (w5.drewN m6) HP5.out (HR5.out.drewN m6) (by omega)).mono ?_
      rintro e w7 ⟨rfl, m7, rfl⟩
      go_wp2_with fail
      refine (keep_bk (F := [g, g2]) HBK.out (below_drewN HB5.out (m6 + m7)) ?_ (by have := HSW.out; have := HS1.out; omega) (A := some ⟨g3, 0, none⟩) (n := n + 2) (c := c5) (bs := ps ++ Wd.le 2 a) HO5.out (by omega)).mono ?_
      · intro k hk
        simp at hk
        rcases hk with rfl | rfl
        · exact HROW.out.lt
        · exact (HO.out.1.lt k rfl).2
      · rintro e w8 ⟨rfl, hbk8, T, hT, hT2, hT3⟩
        have HBK8 := Lib.hid hbk8
        have HR8 : Hid (Row w8 g 5 (fillM (ps.map u8) (u8 165) 80)) := Lib.hid (hT.row (HR5.out.drewN (m6 + m7)) (hT3 g (by simp)))
        have HO8 : Hid (Own w8 w1.heap.size (some ⟨g2, 0, none⟩) (n + 2) c4 (ps ++ Wd.le 2 a)) := Lib.hid (chg_own5 (w := w5.drewN (m6 + m7)) HO5'.out hT (hT3 g2 (by simp)))
        have HB8 : Hid (Below B w w8) := Lib.hid (below_chg (below_drewN (HBW.out.trans (HB5.out.mono (by have := HSW.out; have := HS1.out; omega))) (m6 + m7)) hB hT hT2)
        have HS8 : Hid (w1.heap.size ≤ w8.heap.size) := Lib.hid (Nat.le_trans (Nat.le_trans HSW.out HB5.out.size) hT.size)
        clear hbk8 hT hT2 hT3 HR5 HO5 HO5' HB5 HBK HBW HSW HROW HO HP5
        go_wp2_with fail
        go_roundw
        case rel => exact ⟨j + 1, by omega, by go_num, HR8, HO8, HBK8, HB8, HS8⟩
        case measure => simp [intOf]; omega
    · have HJ : Hid (j = 2) := Lib.hid (by omega)
      have HG5 := Lib.hid (getno_Small (some ⟨g, 0, none⟩) n (n + 80) ps wr HSH.out)
      have HN5 := Lib.hid (dnum_no A n c 2 wr HSH.out (by omega))
      have HPW := Lib.hid ((HP.out.below HBW.out).more (B' := wr.heap.size) (by have := HSW.out; have := HS1.out; omega))
      go_wp2_with fail
      refine HG5.out.mono ?_
      rintro e w5 ⟨rfl, rfl⟩
      go_wp2_with fail
      refine HN5.out.mono ?_
      rintro e w5 ⟨rfl, rfl⟩
      go_wp2_with fail
      refine (intact_yes A n c g ps 165 wr HPW.out HROW.out (by omega)).mono ?_
      rintro e w5 ⟨rfl, m5, rfl⟩
      go_wp2_with fail
      have HF0 := Lib.hid ((fl_start HL.out (HROW.out.drewN m5)))
      have HO0 : Hid (Own (wr.drewN m5) w1.heap.size (some ⟨g2, 0, none⟩) (n + 2) c4 (ps ++ Wd.le 2 a)) := HO
      have HBK0 : Hid (BK (wr.drewN m5) B gk [g, g2]) := Lib.hid (HBK.out.below (below_drewN (Below.refl _ _) m5))
      have HB0 : Hid (Below B w (wr.drewN m5)) := Lib.hid (below_drewN HBW.out m5)
      have HS0 : Hid (w1.heap.size ≤ (wr.drewN m5).heap.size) := HSW
      clear HROW HO HBK HBW HSW HG5 HN5 HPW
      generalize wr.drewN m5 = wq at *
      go_loopw [19] (fun i wr => ∃ j : Nat, j ≤ n ∧ i = .int .i64 j ∧ Hid (Fl wr g n ps j) ∧ Hid (Chg [g] wq wr)) (fun i _ => n - (intOf i).toNat)
      case atStart => exact ⟨0, by omega, rfl, HF0, Lib.hid (Chg.refl _ _)⟩
      case round =>
        obtain ⟨k, hk, rfl, HF, HC⟩ := hrel
        by_cases hkn : k < n
        · obtain ⟨h3, h4, h5⟩ := fl_round HL.out hkn HF.out
          have hy0 := HP.out.2.1 _ (getD_mem ps k (by have := HL.out; omega))
          obtain ⟨y, hye⟩ : ∃ x, x = ps.getD k 0 := ⟨_, rfl⟩
          rw [← hye] at h3 h5 hy0
          have e := u8_xor_nat y 255 hy0 (by decide)
          obtain ⟨z, hz⟩ : ∃ z, z = y ^^^ 255 := ⟨_, rfl⟩
          rw [← hz] at e h5
          have e' : bits .xor .u8 (y : Int) 255 = (z : Int) := e
          have H5 := Lib.hid h5
          clear h5 e hz hye
          go_wp2_with fail
          go_roundw
          case rel => exact ⟨k + 1, by omega, by go_num, H5, Lib.hid (HC.out.set_ (.inl (by simp)) _)⟩
          case measure => simp [intOf]; omega
        · obtain rfl : k = n := by omega
          have HQ5 := Lib.hid (getno_Small (some ⟨g, 0, none⟩) k (k + 80) ps wr HSH.out)
          have hOr := chg_own5 HO0.out HC.out (by simp; have := HG2.out; have := HGG.out; omega)
          have hw5 := want_cut hOr HL.out (by omega)
          have hcap := (own_capn hOr).1
          have hgw := get_Small (some ⟨g2, k, none⟩) 2 (c4 - k) _ wr hw5 (by omega) (by omega)
          have hle : Wd.unle ((Wd.le 2 a).take 2) = a := by
            rw [List.take_of_length_le (Nat.le_of_eq (Wd.le_len 2 a)), Wd.unle_le]; exact Nat.mod_eq_of_lt (by have := HA.out; omega)
          rw [hle] at hgw
          have HGW := Lib.hid hgw
          have HS1' := Lib.hid (sums_Small a b wr HA.out HBb.out)
          have HS2' := Lib.hid (sums_Small b a wr HBb.out HA.out)
          have HS3' := Lib.hid (sums_Small a a wr HA.out HA.out)
          clear hgw hOr hw5 hle
          go_wp2_with fail
          refine HQ5.out.mono ?_
          rintro e w5 ⟨rfl, rfl⟩
          go_wp2_with fail
          refine HGW.out.mono ?_
          rintro e w5 ⟨rfl, rfl⟩
          have ea : ((a : Int) == (a : Int)) = true := by simp
          go_wp2_with fail
          refine HS1'.out.mono ?_
          rintro e w5 ⟨rfl, rfl⟩
          go_wp2_with fail
          refine HS2'.out.mono ?_
          rintro e w5 ⟨rfl, rfl⟩
          go_wp2_with fail
          refine HS3'.out.mono ?_
          rintro e w5 ⟨rfl, rfl⟩
          go_wp2_with fail
          go_ret
          exact ⟨rfl, (HBK0.out.chg HC.out (by simp)).more (by simp), below_chg HB0.out hB HC.out (by simp; exact hgB)⟩
theorem numbers_Small (A : Option Addr) (n c a b B gk : Nat) (ps : List Nat) (w : World) (hp : IsB w B A n ps) (hn : n ≤ 2147483647) (ha : a < 65536) (hb : b < 65536) (hB : B ≤ w.heap.size) (hbk : BK w B gk []) :
    Calls Tryz.prog 10 #[.int .i64 2, .int .u16 (a : Nat), .int .u16 (b : Nat), .slice A n c, .pointer (some ⟨gk, 0, none⟩)] w fun e w' => e = .returned (.bool true) ∧ BK w' B gk [] ∧ Below B w w' := by
  rcases Nat.lt_or_ge n 2 with h | h
  · exact nshort_Small A n c a b B gk ps w hp hn ha hb hB hbk h
  · exact nlong_Small A n c a b B gk ps w hp hn ha hb hB hbk h
end Go.Proofs.YtomjmapidjnpbaaGreat
