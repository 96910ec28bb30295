/- Texts of this claim, one behind the other: SoB8, SoM8, SoV8, SpP16, SoA16, SoB16, SoM16. -/
import Derived.Test.YtchajbegjajlkaaGreatJSpanLaws9
import Derived.Test.YtchajbegjajlkaaGreatJSpanLaws3
import Derived.StillTailTactics
import Derived.Deep.RegionHeld3
import Derived.Test.YtchajbegjajlkaaGreatJSpanLaws5
import Derived.Shelf.SlSortCmp.WholeK
import Derived.Shelf.Lay
import Derived.Ground.SlsfProg
/- The walk of Of at any list of spans. -/
set_option linter.unusedVariables false
set_option linter.unusedSimpArgs false
namespace Go.Proofs.YtchajbegjajlkaaGreat
open Go.RowKit
namespace S8
theorem some_take {l : Sp.S} {k : Nat} {x : Nat × Nat} (h : l[k]? = some x) : Sp.some_ (l.take (k + 1)) = Sp.some_ (l.take k) ++ (if x.2 < x.1 then [] else [x]) := by
  unfold Sp.some_
  rw [List.take_add_one, h, List.filter_append]
  congr 1
  simp only [Option.toList_some, List.filter_cons, List.filter_nil]
  by_cases hx : x.2 < x.1
  · rw [if_pos hx, if_neg (by simp; omega)]
  · rw [if_neg hx, if_pos (by simp; omega)]
theorem join_take {l : Sp.S} {k : Nat} {x : Nat × Nat} (h : l[k]? = some x) : (l.take (k + 1)).foldl Sp.join1 [] = Sp.join1 ((l.take k).foldl Sp.join1 []) x := by
  rw [List.take_add_one, h, List.foldl_append]
  rfl
theorem join1_len (out : Sp.S) (x : Nat × Nat) : (Sp.join1 out x).length ≤ out.length + 1 := by
  rcases Sp.snoc_or out with rfl | ⟨a, y, rfl⟩
  · simp [Sp.join1_nil]
  · rw [Sp.join1_snoc]
    split <;> simp
theorem joins_len : ∀ (l out : Sp.S), (l.foldl Sp.join1 out).length ≤ out.length + l.length
  | [], _ => by simp
  | x :: l, out => by
    have h1 := joins_len l (Sp.join1 out x)
    have h2 := join1_len out x
    simp only [List.foldl_cons, List.length_cons]
    omega
theorem some_len (l : Sp.S) : (Sp.some_ l).length ≤ l.length := List.length_filter_le _ _
theorem join1_le {M : Nat} {out : Sp.S} (h : ∀ y ∈ out, y.1 ≤ M ∧ y.2 ≤ M) {x : Nat × Nat} (h1 : x.1 ≤ M) (h2 : x.2 ≤ M) : ∀ y ∈ Sp.join1 out x, y.1 ≤ M ∧ y.2 ≤ M := by
  rcases Sp.snoc_or out with rfl | ⟨a, z, rfl⟩
  · rw [Sp.join1_nil]
    intro y hy
    rw [List.mem_singleton.1 hy]
    exact ⟨h1, h2⟩
  · rw [Sp.join1_snoc]
    have hz := h z (by simp)
    intro y hy
    split at hy
    · rcases List.mem_append.1 hy with hy | hy
      · exact h y (by simp [hy])
      · rw [List.mem_singleton.1 hy]
        exact ⟨hz.1, by simp only; omega⟩
    · rcases List.mem_append.1 hy with hy | hy
      · exact h y hy
      · rw [List.mem_singleton.1 hy]
        exact ⟨h1, h2⟩
theorem joins_le {M : Nat} : ∀ (l out : Sp.S), (∀ y ∈ out, y.1 ≤ M ∧ y.2 ≤ M) → (∀ y ∈ l, y.1 ≤ M ∧ y.2 ≤ M) → ∀ y ∈ l.foldl Sp.join1 out, y.1 ≤ M ∧ y.2 ≤ M
  | [], _, h, _ => h
  | x :: l, out, h, hl => joins_le l _ (join1_le h (hl x (by simp)).1 (hl x (by simp)).2) (fun y hy => hl y (by simp [hy]))
set_option maxRecDepth 100000 in
set_option maxHeartbeats 4000000 in
theorem of_any (A : Option Addr) (n c : Nat) (L : Sp.S) (w : World) (hL : IsS w w.heap.size A n L) (hM : ∀ x ∈ L, x.1 ≤ TOP ∧ x.2 ≤ TOP) (hn : n ≤ 1099511627776) :
    Calls Tryz.prog 9 #[.slice A n c] w fun e w' => ∃ Ao no co out, e = .returned (.agg #[.slice Ao no co]) ∧ OwnS w' w.heap.size Ao no co out ∧ Sp.Of TOP L out ∧ no ≤ n ∧ Below w.heap.size w w' := by
  obtain ⟨i0, hi0, hz1, hz2, hz3⟩ := info_parts infoSp
  have HI := Lib.hid hi0; have HZ1 := Lib.hid hz1; have HZ2 := Lib.hid hz2; have HZ3 := Lib.hid hz3
  have HL := Lib.hid hL; have HM := Lib.hid hM
  have HLL := Lib.hid hL.2.1
  unfold TOP at HM
  clear hi0 hz1 hz2 hz3 hL hM
  go_enter Tryz.func9, Tryz.ntmps9
  go_wp2_with fail
  have HB0 : Hid (Below w.heap.size w (w.alloc (.cells #[.slice none 0 0] 27))) := Lib.hid ((Below.refl _ _).alloc (Nat.le_refl _) _)
  have HR0 : Hid (Row (w.alloc (.cells #[.slice none 0 0] 27)) w.heap.size 27 [.slice none 0 0]) := Lib.hid (Row.new w _ [.slice none 0 0])
  go_loopw [3, 12] (fun l i wr => ∃ (k : Nat) (A1 : Option Addr) (c1 n1 : Nat), k ≤ n ∧ i = .int .i64 (k : Nat) ∧ l = .slice A1 n1 c1 ∧ Hid (OwnS wr w.heap.size A1 n1 c1 (Sp.some_ (L.take k)) ∧ Below w.heap.size w wr ∧ Row wr w.heap.size 27 [.slice none 0 0])) (fun _ i _ => n - (intOf i).toNat)
  case atStart => exact ⟨0, none, 0, 0, by omega, rfl, rfl, Lib.hid ⟨⟨World.ownsRow_nil _ _ _ _, rfl⟩, HB0.out, HR0.out⟩⟩
  case round =>
    clear HB0 HR0
    obtain ⟨k, A1, c1, n1, hk, rfl, rfl, HW⟩ := hrel
    have hsz := HW.out.2.1.size
    have hnk : n1 ≤ k := by
      have h1 := HW.out.1.2
      have h2 := some_len (L.take k)
      rw [List.length_take] at h2
      omega
    by_cases hkn : k < n
    · obtain ⟨bl, ol, x0, x1, rfl, hbl, hx, d0, d1⟩ := ((HL.out.below HW.out.2.1).more hsz).cells hkn
      have hi0 : (0 : Int) ≤ (k : Int) := by omega
      have hi1 : (k : Int) < (n : Int) := by omega
      have hxt := HM.out _ (List.mem_of_getElem? hx)
      simp only at hxt
      have HTK := Lib.hid (some_take hx)
      have HKN := Lib.hid hkn
      have HOWN0 := Lib.hid HW.out.1
      clear hx hkn
      go_upto_region 5 with fail
      have hrx := Row.new wr 32 (scell (x0, x1))
      have hbx : Below wr.heap.size wr (wr.alloc (.cells (scell (x0, x1)).toArray 32)) := (Below.refl _ _).alloc (Nat.le_refl _) _
      unfold scell at hrx hbx
      simp only [] at hrx hbx
      obtain ⟨gx, hgx⟩ : ∃ gx, gx = wr.heap.size := ⟨_, rfl⟩
      obtain ⟨w5, hw5⟩ : ∃ w5, w5 = wr.alloc (.cells #[.int .u8 (x0 : Nat), .int .u8 (x1 : Nat)] 32) := ⟨_, rfl⟩
      rw [← hw5] at hrx hbx ⊢
      rw [← hgx] at hrx ⊢
      have y0 := hrx.cell 0
      have y1 := hrx.cell 1
      simp only [List.getElem?_cons_zero, List.getElem?_cons_succ] at y0 y1
      have hxl := hrx.lt
      have HBX := Lib.hid hbx
      clear hrx hbx hgx hw5 d0 d1
      by_cases hab : x1 < x0
      · have f1 : decide (x1 < x0) = true := decide_eq_true hab
        have HON : Hid (Sp.some_ (L.take (k + 1)) = Sp.some_ (L.take k)) := Lib.hid (by rw [HTK.out, if_pos hab, List.append_nil])
        clear hab
        go_wp2_with (go_at_call 37; refine (none_any x0 x1 _).mono ?_; rintro e w' ⟨rfl, hb'⟩; have HBN := Lib.hid hb'; clear hb')
        have hba : Below wr.heap.size wr w' := HBX.out.trans (HBN.out.mono HBX.out.size)
        go_roundw
        case rel => exact ⟨k + 1, A1, c1, n1, by have := HKN.out; omega, by go_num, rfl, Lib.hid ⟨by rw [HON.out]; exact ⟨owns_chgr HOWN0.out.1 (Chg.of_below (S := []) hba) (by simp), HOWN0.out.2⟩, HW.out.2.1.trans (hba.mono hsz), HW.out.2.2.below hba HW.out.2.2.lt⟩⟩
        case measure => have := HKN.out; simp [intOf]; try omega
      · have f1 : decide (x1 < x0) = false := decide_eq_false hab
        have HON : Hid (Sp.some_ (L.take (k + 1)) = Sp.some_ (L.take k) ++ [(x0, x1)]) := Lib.hid (by rw [HTK.out, if_neg hab])
        clear hab
        go_upto_region 6 with (go_at_call 37; refine (none_any x0 x1 _).mono ?_; rintro e w' ⟨rfl, hb'⟩; have HBN := Lib.hid hb'; have z0 := (hb'.cell (p := ⟨gx, 0, none⟩) hxl).trans y0; have z1 := (hb'.cell (p := ⟨gx, 1, none⟩) hxl).trans y1; clear hb')
        have hba : Below wr.heap.size wr w' := HBX.out.trans (HBN.out.mono HBX.out.size)
        have HBA := Lib.hid hba
        obtain ⟨S1, hS1⟩ : ∃ S1, S1 = Sp.some_ (L.take k) := ⟨_, rfl⟩
        rw [← hS1] at HON HOWN0
        have HOWN1 : Hid (w'.ownsRow w.heap.size 32 2 (.slice A1 n1 c1) n1 (S1.map scell).flatten) := Lib.hid (owns_chgr HOWN0.out.1 (Chg.of_below (S := []) hba) (by simp))
        have HRD : Hid (Reads (w'.alloc (.cells (scell (x0, x1)).toArray 32)) (w'.alloc (.cells (scell (x0, x1)).toArray 32)).heap.size 2 (some ⟨w'.heap.size, 0, none⟩) 1 (scell (x0, x1))) := Lib.hid (new_reads w' (x0, x1))
        unfold scell at HRD
        simp only [] at HRD
        have hws : w.heap.size ≤ w'.heap.size := Nat.le_trans hsz hba.size
        clear hba y0 y1 hS1
        go_wp2_with (at_builtin; refine wpList_append_sl _ (by rfl) (.tmp 19) (.tmp 21) 25 rfl w.heap.size 32 i0 _ 2 2 Tryz.underlying25 HI.out HZ1.out HZ2.out HZ3.out rfl (by omega) (.slice A1 n1 c1) n1 (S1.map scell).flatten rfl (HOWN1.out.alloc _) _ (some ⟨w'.heap.size, 0, none⟩) 1 1 [.int .u8 (x0 : Nat), .int .u8 (x1 : Nat)] rfl HRD.out (by simp [Value.oneCell']) (by unfold maxLen; omega) (by omega) (by simp; omega) ?_; intro A2 c2 wz hown hrd hgr hat; have HOWN := Lib.hid hown; have HGR := Lib.hid hgr; clear hown hrd hgr hat)
        go_roundw
        case rel =>
          have hb1 : Below w.heap.size w wz := ((HW.out.2.1.trans (HBA.out.mono hsz)).alloc hws _).grown HGR.out (by simp; omega) (fun k hk => (HOWN1.out.lt k hk).1)
          have hrr := HW.out.2.2.below HBA.out HW.out.2.2.lt
          have hre : Row wz w.heap.size 27 [.slice none 0 0] := by
            refine (chg_app HGR.out).row hrr (fun hm => ?_)
            obtain ⟨cur, hb⟩ := own_blkr HOWN1.out w.heap.size (by simpa using hm)
            exact absurd rfl (Blk.ne_ (cs' := cur) hrr hb (by decide))
          exact ⟨k + 1, A2, c2, n1 + 1, by have := HKN.out; omega, by go_num, rfl, Lib.hid ⟨by rw [HON.out]; exact ⟨by rw [push_scell]; exact HOWN.out, by have := HOWN0.out.2; simp [this]⟩, hb1, hre⟩⟩
        case measure => have := HKN.out; simp [intOf]; try omega
    · have HS1 : Hid (OwnS wr w.heap.size A1 n1 c1 (Sp.some_ L)) := Lib.hid (by
        have h := HW.out.1
        rw [List.take_of_length_le (by have := HLL.out; omega)] at h
        exact h)
      have f0 : decide (k < n) = false := decide_eq_false hkn
      have f0' : decide ((k : Int) < (n : Int)) = false := decide_eq_false (by omega)
      have hn1 : n1 ≤ n := by omega
      have HCS := Lib.hid (sort_own A1 n1 c1 w.heap.size (Sp.some_ L) wr HS1.out (by omega))
      clear hkn hnk
      go_upto_region 8 with fail
      go_upto_region 9 with (go_at_call 38; refine HCS.out.mono ?_; rintro e w2 ⟨rfl, s', hp, hs, ho, hc⟩)
      have hr2 : Row w2 w.heap.size 27 [.slice none 0 0] := by
        refine hc.row HW.out.2.2 (fun hm => ?_)
        obtain ⟨cur, hb⟩ := own_blkr HS1.out.1 w.heap.size (by simpa using hm)
        exact absurd rfl (Blk.ne_ (cs' := cur) HW.out.2.2 hb (by decide))
      have hb2 : Below w.heap.size w w2 := below_chg HW.out.2.1 (Nat.le_refl _) hc (fun k hk => (HS1.out.1.lt k (by simpa using hk)).1)
      have his : IsS w2 w2.heap.size A1 n1 s' := ⟨Reads.of_own ho.1, ho.2, by omega⟩
      have hM' : ∀ x ∈ s', x.1 ≤ 255 ∧ x.2 ≤ 255 := fun x hx => by
        have h := hp.mem_iff.1 hx
        unfold Sp.some_ at h
        exact HM.out x (List.mem_filter.1 h).1
      have hof := Sp.of_sorted (M := TOP) hp hs (fun x hx => (HM.out x hx).2)
      have HIS := Lib.hid his; have HM2 := Lib.hid hM'; have HOF := Lib.hid hof; have HR2 := Lib.hid hr2; have HB2 := Lib.hid hb2
      have hsl := his.2.1
      have HSL := Lib.hid hsl
      clear hr2 hb2 his hM' hof hsl hp hs ho hc HCS HS1 HW f0 f0' hsz
      go_wp2_with fail
      go_loopw [6, 28] (fun o i wx => ∃ (j : Nat) (A3 : Option Addr) (c3 n3 : Nat), j ≤ n1 ∧ i = .int .i64 (j : Nat) ∧ o = .slice A3 n3 c3 ∧ Hid (OwnS wx w2.heap.size A3 n3 c3 ((s'.take j).foldl Sp.join1 []) ∧ Below w2.heap.size w2 wx)) (fun _ i _ => n1 - (intOf i).toNat)
      case atStart => exact ⟨0, none, 0, 0, by omega, rfl, rfl, Lib.hid ⟨⟨World.ownsRow_nil _ _ _ _, rfl⟩, Below.refl _ _⟩⟩
      case round =>
        obtain ⟨j, A3, c3, n3, hj, rfl, rfl, HW⟩ := hrel
        have hsz := HW.out.2.size
        have hnj : n3 ≤ j := by
          have h1 := HW.out.1.2
          have h2 := joins_len (s'.take j) []
          rw [List.length_take, List.length_nil] at h2
          omega
        by_cases hjn : j < n1
        · obtain ⟨bl, ol, x0, x1, rfl, hbl, hx, d0, d1⟩ := ((HIS.out.below HW.out.2).more hsz).cells hjn
          have hi0 : (0 : Int) ≤ (j : Int) := by omega
          have hi1 : (j : Int) < (n1 : Int) := by omega
          have hxt := HM2.out _ (List.mem_of_getElem? hx)
          simp only at hxt
          have HTK := Lib.hid (join_take hx)
          have HJN := Lib.hid hjn
          obtain ⟨O, hO⟩ : ∃ O, O = (s'.take j).foldl Sp.join1 [] := ⟨_, rfl⟩
          have hOM : ∀ y ∈ O, y.1 ≤ 255 ∧ y.2 ≤ 255 := by
            rw [hO]
            exact joins_le (s'.take j) [] (by simp) (fun y hy => HM2.out y (List.mem_of_mem_take hy))
          rw [← hO] at HTK HW
          have HOM := Lib.hid hOM
          clear hx hjn hO hOM
          go_upto_region 13 with fail
          have hrx := Row.new wr 32 (scell (x0, x1))
          have hbx : Below wr.heap.size wr (wr.alloc (.cells (scell (x0, x1)).toArray 32)) := (Below.refl _ _).alloc (Nat.le_refl _) _
          unfold scell at hrx hbx
          simp only [] at hrx hbx
          obtain ⟨gx, hgx⟩ : ∃ gx, gx = wr.heap.size := ⟨_, rfl⟩
          obtain ⟨w5, hw5⟩ : ∃ w5, w5 = wr.alloc (.cells #[.int .u8 (x0 : Nat), .int .u8 (x1 : Nat)] 32) := ⟨_, rfl⟩
          rw [← hw5] at hrx hbx ⊢
          rw [← hgx] at hrx ⊢
          have y0 := hrx.cell 0
          have y1 := hrx.cell 1
          simp only [List.getElem?_cons_zero, List.getElem?_cons_succ] at y0 y1
          have hxl := hrx.lt
          have HBX := Lib.hid hbx
          have HW5 : Hid (OwnS w5 w2.heap.size A3 n3 c3 O ∧ Below w2.heap.size w2 w5) := Lib.hid ⟨⟨owns_chgr HW.out.1.1 (Chg.of_below (S := []) hbx) (by simp), HW.out.1.2⟩, HW.out.2.trans (hbx.mono hsz)⟩
          clear hrx hbx hgx hw5 d0 d1 HW
          rcases Sp.snoc_or O with rfl | ⟨a, y, rfl⟩
          · obtain rfl : n3 = 0 := HW5.out.1.2.symm
            have HO2 : Hid ((s'.take (j + 1)).foldl Sp.join1 [] = [(x0, x1)]) := Lib.hid (by rw [HTK.out, Sp.join1_nil])
            go_upto_region 14 with fail
            go_quiet (fail)
            have hd := below_drewN (Below.refl w5.heap.size w5) nq
            have z0 : (w5.drewN nq).cell? ⟨gx, 0, none⟩ = some (.int .u8 (x0 : Nat)) := y0
            have z1 : (w5.drewN nq).cell? ⟨gx, 1, none⟩ = some (.int .u8 (x1 : Nat)) := y1
            have HW6 : Hid (OwnS (w5.drewN nq) w2.heap.size A3 0 c3 [] ∧ Below w2.heap.size w2 (w5.drewN nq)) := Lib.hid ⟨⟨owns_chgr HW5.out.1.1 (Chg.of_below (S := []) hd) (by simp), rfl⟩, HW5.out.2.trans (hd.mono HW5.out.2.size)⟩
            clear hd y0 y1 HW5 HBX hxl
            generalize w5.drewN nq = w6 at *
            have hws : w2.heap.size ≤ w6.heap.size := HW6.out.2.size
            have HRD : Hid (Reads (w6.alloc (.cells (scell (x0, x1)).toArray 32)) (w6.alloc (.cells (scell (x0, x1)).toArray 32)).heap.size 2 (some ⟨w6.heap.size, 0, none⟩) 1 (scell (x0, x1))) := Lib.hid (new_reads w6 (x0, x1))
            unfold scell at HRD
            simp only [] at HRD
            go_wp2_with (at_builtin; refine wpList_append_sl _ (by rfl) (.tmp 73) (.tmp 75) 25 rfl w2.heap.size 32 i0 _ 2 2 Tryz.underlying25 HI.out HZ1.out HZ2.out HZ3.out rfl (by omega) (.slice A3 0 c3) 0 (([] : Sp.S).map scell).flatten rfl (HW6.out.1.1.alloc _) _ (some ⟨w6.heap.size, 0, none⟩) 1 1 [.int .u8 (x0 : Nat), .int .u8 (x1 : Nat)] rfl HRD.out (by simp [Value.oneCell']) (by unfold maxLen; omega) (by omega) (by simp; omega) ?_; intro A2 c2 wz hown hrd hgr hat; have HOWN := Lib.hid hown; have HGR := Lib.hid hgr; clear hown hrd hgr hat)
            go_roundw
            case rel => exact ⟨j + 1, A2, c2, 1, by have := HJN.out; omega, by go_num, rfl, Lib.hid ⟨by rw [HO2.out]; exact ⟨HOWN.out, rfl⟩, (HW6.out.2.alloc hws _).grown HGR.out (by simp; omega) (fun k hk => (HW6.out.1.1.lt k hk).1)⟩⟩
            case measure => have := HJN.out; simp [intOf]; try omega
          · obtain ⟨m, rfl⟩ : ∃ m, n3 = m + 1 := ⟨a.length, by have := HW5.out.1.2; simp at this; omega⟩
            have hal : a.length = m := by have := HW5.out.1.2; simp at this; exact this
            have HAL := Lib.hid hal
            obtain ⟨go, rfl, hgo1, hgo2, hgo3, hgo4⟩ := own_somer HW5.out.1.1 (by omega)
            unfold maxLen at hgo4
            have hyM := HOM.out y (by simp)
            have cy : w5.cell? ⟨go, m * 2 + 1, none⟩ = some (.int .u8 (y.2 : Nat)) := by
              have h := HW5.out.1.1.cellAt (m * 2 + 1) (by omega)
              rw [h, List.map_append, List.flatten_append, List.getElem?_append_right (by rw [flat_len (s := 2) _ (scell_len a), List.length_map]; omega), flat_len (s := 2) _ (scell_len a), List.length_map, hal, show m * 2 + 1 - 2 * m = 1 by omega]
              rfl
            have zy : w5.frozen? ⟨go, m * 2 + 1, none⟩ = false := HW5.out.1.1.frozenAt _
            have hgl : go < w5.heap.size := hgo2
            obtain ⟨ya, yb⟩ := y
            simp only at hyM cy
            have e5 : IntKind.i64.wrap (((m : Int) + 1) - 1) = (m : Int) := by rw [IntKind.wrap_i64]; omega
            have e5' : (m : Int) + 1 - 1 = (m : Int) := by omega
            have hm0 : (0 : Int) ≤ (m : Int) := by omega
            have hm1 : (m : Int) < (m : Int) + 1 := by omega
            have hm2 : decide ((0 : Int) < (m : Int) + 1) = true := decide_eq_true (by omega)
            obtain ⟨D, hD⟩ : ∃ D, D = decide (x0 ≤ yb ∨ x0 = yb + 1) := ⟨_, rfl⟩
            have HD := Lib.hid hD
            have HTK2 : Hid ((s'.take (j + 1)).foldl Sp.join1 [] = if D = true then a ++ [(ya, max yb x1)] else a ++ [(ya, yb)] ++ [(x0, x1)]) := Lib.hid (by rw [HTK.out, Sp.join1_snoc, hD]; simp only [decide_eq_true_eq])
            clear hal hD HTK
            go_upto_region 14 with fail
            go_cut [58] (fun x wx => x = .bool D ∧ ∃ nq, wx = w5.drewN nq)
            case first =>
              by_cases h1 : x0 ≤ yb
              · have f1 : decide (x0 ≤ yb) = true := decide_eq_true h1
                have f1' : decide ((x0 : Int) ≤ (yb : Int)) = true := decide_eq_true (by omega)
                have HDT : Hid (D = true) := Lib.hid (by rw [HD.out]; exact decide_eq_true (.inl h1))
                clear h1
                go_quiet (fail)
                go_wp2_with fail
                go_meet
                case rel => exact ⟨by rw [HDT.out], nq, rfl⟩
              · have f1 : decide (x0 ≤ yb) = false := decide_eq_false h1
                have f1' : decide ((x0 : Int) ≤ (yb : Int)) = false := decide_eq_false (by omega)
                obtain ⟨zz, hzz⟩ : ∃ zz, zz = yb + 1 := ⟨_, rfl⟩
                have e7 : IntKind.u8.wrap ((yb : Int) + 1) = (zz : Int) := by rw [IntKind.wrap_u8]; omega
                have e7' : (yb : Int) + 1 = (zz : Int) := by omega
                have e8 : IntKind.u8.wrap (zz : Int) = (zz : Int) := by rw [IntKind.wrap_u8]; omega
                by_cases h2 : x0 = yb + 1
                · have f2 : ((x0 : Int) == (zz : Int)) = true := by rw [beq_iff_eq]; omega
                  have HDT : Hid (D = true) := Lib.hid (by rw [HD.out]; exact decide_eq_true (.inr h2))
                  clear h1 h2 hzz
                  go_quiet (fail)
                  go_wp2_with fail
                  go_meet
                  case rel => exact ⟨by rw [HDT.out], nq, rfl⟩
                · have f2 : ((x0 : Int) == (zz : Int)) = false := by rw [beq_eq_false_iff_ne]; omega
                  have HDT : Hid (D = false) := Lib.hid (by rw [HD.out]; exact decide_eq_false (fun h => h.elim h1 h2))
                  clear h1 h2 hzz
                  go_quiet (fail)
                  go_wp2_with fail
                  go_meet
                  case rel => exact ⟨by rw [HDT.out], nq, rfl⟩
            case rest =>
            obtain ⟨rfl, nq, hwc⟩ := hcut
            have hd := below_drewN (Below.refl w5.heap.size w5) nq
            rw [← hwc] at hd
            have z0 : wc.cell? ⟨gx, 0, none⟩ = some (.int .u8 (x0 : Nat)) := by rw [hwc]; exact y0
            have z1 : wc.cell? ⟨gx, 1, none⟩ = some (.int .u8 (x1 : Nat)) := by rw [hwc]; exact y1
            have zc : wc.cell? ⟨go, m * 2 + 1, none⟩ = some (.int .u8 (yb : Nat)) := by rw [hwc]; exact cy
            have zz : wc.frozen? ⟨go, m * 2 + 1, none⟩ = false := by rw [hwc]; exact zy
            have zl : go < wc.heap.size := Nat.lt_of_lt_of_le hgl hd.size
            have HW6 : Hid (OwnS wc w2.heap.size (some ⟨go, 0, none⟩) (m + 1) c3 (a ++ [(ya, yb)]) ∧ Below w2.heap.size w2 wc) := Lib.hid ⟨⟨owns_chgr HW5.out.1.1 (Chg.of_below (S := []) hd) (by simp), HW5.out.1.2⟩, HW5.out.2.trans (hd.mono HW5.out.2.size)⟩
            have hws : w2.heap.size ≤ wc.heap.size := HW6.out.2.size
            clear hd hwc y0 y1 cy zy hgl HW5 HBX hxl
            cases D with
            | true =>
              have hOS : ∀ MX : Nat, OwnS (wc.drew.setCell ⟨go, m * 2 + 1, none⟩ (.int .u8 (MX : Nat))) w2.heap.size (some ⟨go, 0, none⟩) (m + 1) c3 (a ++ [(ya, MX)]) := fun MX => by
                refine ⟨?_, by have := HAL.out; simp [this]⟩
                have h := ((owns_chgr HW6.out.1.1 (Chg.of_below (S := []) (Below.refl _ _).drew) (by simp)).stored (2 * m + 1) (.int .u8 (MX : Nat))).1
                rw [← HAL.out, set_scell, HAL.out] at h
                rw [show m * 2 + 1 = 2 * m + 1 by omega]
                exact h
              have HOS := Lib.hid hOS
              have HBS : Hid (∀ MX : Nat, Below w2.heap.size w2 (wc.drew.setCell ⟨go, m * 2 + 1, none⟩ (.int .u8 (MX : Nat)))) := Lib.hid (fun MX => HW6.out.2.drew.setCell (p := ⟨go, m * 2 + 1, none⟩) hgo1 _)
              clear hOS
              go_upto_region 15 with fail
              rcases Nat.lt_or_ge yb x1 with hlt | hlt
              · have HO2 : Hid ((s'.take (j + 1)).foldl Sp.join1 [] = a ++ [(ya, x1)]) := Lib.hid (by rw [HTK2.out, if_pos rfl, Nat.max_eq_right (by omega)])
                have f5 : decide (yb < x1) = true := decide_eq_true hlt
                have f6 : decide (x1 < yb) = false := decide_eq_false (by omega)
                have f7 : max (yb : Int) (x1 : Int) = (x1 : Int) := by omega
                clear hlt HTK2
                go_region
                all_goals
                  go_wp2_with fail
                  go_roundw
                  case rel => exact ⟨j + 1, _, c3, m + 1, by have := HJN.out; omega, by go_num, rfl, Lib.hid ⟨by rw [HO2.out]; exact HOS.out _, HBS.out _⟩⟩
                  case measure => have := HJN.out; simp [intOf]; try omega
              · have HO2 : Hid ((s'.take (j + 1)).foldl Sp.join1 [] = a ++ [(ya, yb)]) := Lib.hid (by rw [HTK2.out, if_pos rfl, Nat.max_eq_left hlt])
                have f5 : decide (yb < x1) = false := decide_eq_false (by omega)
                have f7 : max (yb : Int) (x1 : Int) = (yb : Int) := by omega
                clear hlt HTK2
                go_region
                all_goals
                  go_wp2_with fail
                  go_roundw
                  case rel => exact ⟨j + 1, _, c3, m + 1, by have := HJN.out; omega, by go_num, rfl, Lib.hid ⟨by rw [HO2.out]; exact HOS.out _, HBS.out _⟩⟩
                  case measure => have := HJN.out; simp [intOf]; try omega
            | false =>
              have HO2 : Hid ((s'.take (j + 1)).foldl Sp.join1 [] = a ++ [(ya, yb)] ++ [(x0, x1)]) := Lib.hid (by rw [HTK2.out, if_neg (by simp)])
              have HRD : Hid (Reads (wc.alloc (.cells (scell (x0, x1)).toArray 32)) (wc.alloc (.cells (scell (x0, x1)).toArray 32)).heap.size 2 (some ⟨wc.heap.size, 0, none⟩) 1 (scell (x0, x1))) := Lib.hid (new_reads wc (x0, x1))
              unfold scell at HRD
              simp only [] at HRD
              clear HTK2
              go_wp2_with (at_builtin; refine wpList_append_sl _ (by rfl) (.tmp 73) (.tmp 75) 25 rfl w2.heap.size 32 i0 _ 2 2 Tryz.underlying25 HI.out HZ1.out HZ2.out HZ3.out rfl (by omega) (.slice (some ⟨go, 0, none⟩) (m + 1) c3) (m + 1) ((a ++ [(ya, yb)]).map scell).flatten rfl (HW6.out.1.1.alloc _) _ (some ⟨wc.heap.size, 0, none⟩) 1 1 [.int .u8 (x0 : Nat), .int .u8 (x1 : Nat)] rfl HRD.out (by simp [Value.oneCell']) (by unfold maxLen; omega) (by omega) (by simp; omega) ?_; intro A2 c2 wz hown hrd hgr hat; have HOWN := Lib.hid hown; have HGR := Lib.hid hgr; clear hown hrd hgr hat)
              go_roundw
              case rel => exact ⟨j + 1, A2, c2, m + 1 + 1, by have := HJN.out; omega, by go_num, rfl, Lib.hid ⟨by rw [HO2.out]; exact ⟨by rw [push_scell]; exact HOWN.out, by have := HAL.out; simp [this]⟩, (HW6.out.2.alloc hws _).grown HGR.out (by simp; omega) (fun k hk => (HW6.out.1.1.lt k hk).1)⟩⟩
              case measure => have := HJN.out; simp [intOf]; try omega
        · obtain rfl : j = n1 := by omega
          have HO9 : Hid (OwnS wr w2.heap.size A3 n3 c3 (s'.foldl Sp.join1 [])) := Lib.hid (by
            have h := HW.out.1
            rw [List.take_of_length_le (by have := HSL.out; omega)] at h
            exact h)
          have r2 := HR2.out.below HW.out.2 HR2.out.lt
          have z0 := r2.cell 0
          have fz := r2.frozen 0
          have hl2 := r2.lt
          simp only [List.getElem?_cons_zero] at z0
          have HR3 : Hid (Row (wr.setCell ⟨w.heap.size, 0, none⟩ (.slice A3 n3 c3)) w.heap.size 27 [.slice A3 n3 c3]) := Lib.hid (r2.set_ 0 _)
          have HOS : Hid (OwnS (wr.setCell ⟨w.heap.size, 0, none⟩ (.slice A3 n3 c3)) w.heap.size A3 n3 c3 (s'.foldl Sp.join1 []) ∧ Below w.heap.size w (wr.setCell ⟨w.heap.size, 0, none⟩ (.slice A3 n3 c3))) := Lib.hid ⟨⟨own_setr (own_monor HO9.out.1 HB2.out.size) r2 (by decide) 0 _, HO9.out.2⟩, (HB2.out.trans (HW.out.2.mono HB2.out.size)).setCell (p := ⟨w.heap.size, 0, none⟩) (Nat.le_refl _) _⟩
          have z2 := HR3.out.cell 0
          simp only [List.getElem?_cons_zero] at z2
          have f9 : decide (j < j) = false := decide_eq_false (by omega)
          have HNN : Hid (n3 ≤ n) := Lib.hid (by omega)
          clear r2
          go_wp2_with fail
          refine bodyPost_ret (v := .agg #[.slice A3 n3 c3]) (by simp [results, Tryz.results9, go_sem, z2]) rfl ⟨A3, n3, c3, s'.foldl Sp.join1 [], rfl, HOS.out.1, HOF.out, HNN.out, HOS.out.2⟩
end S8
end Go.Proofs.YtchajbegjajlkaaGreat

/- The walk of the law's many: a set out of a list of numbers, two and two. -/
set_option linter.unusedVariables false
set_option linter.unusedSimpArgs false
namespace Go.Proofs.YtchajbegjajlkaaGreat
open Go.RowKit
namespace S8
/-- the spans of a list of numbers, two and two -/
def prs : List Nat → Sp.S
  | a :: b :: r => (cutN a, cutN b) :: prs r
  | _ => []
theorem prs_le : ∀ (l : List Nat), ∀ x ∈ prs l, x.1 ≤ TOP ∧ x.2 ≤ TOP
  | [], _, h => by simp [prs] at h
  | [a], _, h => by simp [prs] at h
  | a :: b :: r, x, h => by
    unfold prs at h
    rcases List.mem_cons.1 h with rfl | h
    · exact ⟨cutN_le a, cutN_le b⟩
    · exact prs_le r x h
theorem prs_len : ∀ (l : List Nat), (prs l).length = l.length / 2
  | [] => rfl
  | [a] => by simp [prs]
  | a :: b :: r => by
    unfold prs
    rw [List.length_cons, prs_len r]
    simp only [List.length_cons]
    omega
theorem prs_at : ∀ (l : List Nat) (k x y : Nat), l[2 * k]? = some x → l[2 * k + 1]? = some y → (prs l)[k]? = some (cutN x, cutN y)
  | [], k, x, y, h, _ => by simp at h
  | [a], k, x, y, _, h => by simp at h
  | a :: b :: r, 0, x, y, h1, h2 => by
    simp at h1 h2
    rw [h1, h2]
    rfl
  | a :: b :: r, k + 1, x, y, h1, h2 => by
    unfold prs
    rw [List.getElem?_cons_succ]
    refine prs_at r k x y ?_ ?_
    · rw [show 2 * (k + 1) = 2 * k + 1 + 1 by omega] at h1
      simpa using h1
    · rw [show 2 * (k + 1) + 1 = 2 * k + 1 + 1 + 1 by omega] at h2
      simpa using h2
set_option maxRecDepth 100000 in
set_option maxHeartbeats 4000000 in
theorem many_any (A : Option Addr) (n c : Nat) (us : List Nat) (w : World) (hU : IsU w w.heap.size A n us) (hn : n ≤ 1099511627776) :
    Calls Tryz.prog 7 #[.slice A n c] w fun e w' => ∃ Ao no co out, e = .returned (.agg #[.slice Ao no co]) ∧ OwnS w' w.heap.size Ao no co out ∧ Sp.Of TOP (prs us) out ∧ no ≤ n ∧ Below w.heap.size w w' := by
  obtain ⟨i0, hi0, hz1, hz2, hz3⟩ := info_parts infoSp
  have HI := Lib.hid hi0; have HZ1 := Lib.hid hz1; have HZ2 := Lib.hid hz2; have HZ3 := Lib.hid hz3
  have HU := Lib.hid hU
  clear hi0 hz1 hz2 hz3 hU
  go_enter Tryz.func7, Tryz.ntmps7
  go_wp2_with fail
  have HB0 : Hid (Below w.heap.size w (w.alloc (.cells #[.slice none 0 0] 27))) := Lib.hid ((Below.refl _ _).alloc (Nat.le_refl _) _)
  have HR0 : Hid (Row (w.alloc (.cells #[.slice none 0 0] 27)) w.heap.size 27 [.slice none 0 0]) := Lib.hid (Row.new w _ [.slice none 0 0])
  go_loopw [3, 4] (fun l i wr => ∃ (k : Nat) (A1 : Option Addr) (c1 : Nat), 2 * k ≤ n ∧ i = .int .i64 (2 * k : Nat) ∧ l = .slice A1 k c1 ∧ Hid (OwnS wr w.heap.size A1 k c1 ((prs us).take k) ∧ Below w.heap.size w wr ∧ Row wr w.heap.size 27 [.slice none 0 0])) (fun _ i _ => n - (intOf i).toNat)
  case atStart => exact ⟨0, none, 0, by omega, rfl, rfl, Lib.hid ⟨⟨World.ownsRow_nil _ _ _ _, rfl⟩, HB0.out, HR0.out⟩⟩
  case round =>
    clear HB0 HR0
    obtain ⟨k, A1, c1, hk, rfl, rfl, HW⟩ := hrel
    have hsz := HW.out.2.1.size
    obtain ⟨m, hm⟩ : ∃ m, m = 2 * k := ⟨_, rfl⟩
    rw [← hm] at hk ⊢
    have HMM := Lib.hid hm
    obtain ⟨m1, hm1⟩ : ∃ m1, m1 = m + 1 := ⟨_, rfl⟩
    have ew : IntKind.i64.wrap ((m : Int) + 1) = (m1 : Int) := by rw [IntKind.wrap_i64]; omega
    have ew' : (m : Int) + 1 = (m1 : Int) := by omega
    have ew'' : IntKind.i64.wrap (m1 : Int) = (m1 : Int) := by rw [IntKind.wrap_i64]; omega
    have HM1 := Lib.hid hm1
    have hk40 : k ≤ 1099511627776 := by omega
    clear hm
    by_cases hkn : m1 < n
    · have f1 : decide (m1 < n) = true := decide_eq_true hkn
      have f1' : decide ((m1 : Int) < (n : Int)) = true := decide_eq_true (by omega)
      obtain ⟨bl, ol, rfl, hbl, hc⟩ := HU.out.cells (by omega)
      obtain ⟨x, hx1, hx2, hx3⟩ := hc m (by omega)
      obtain ⟨y, hy1, hy2, hy3⟩ := hc m1 hkn
      have hpk := prs_at us k x y (by rw [← HMM.out]; exact hx1) (by rw [← HMM.out, ← HM1.out]; exact hy1)
      have HTK : Hid ((prs us).take (k + 1) = (prs us).take k ++ [(cutN x, cutN y)]) := Lib.hid (by rw [List.take_add_one, hpk]; rfl)
      have d0 : wr.cell? ⟨bl, ol + m, none⟩ = some (.int .u64 (x : Nat)) := (HW.out.2.1.cell (p := ⟨bl, ol + m, none⟩) hbl).trans hx3
      have d1 : wr.cell? ⟨bl, ol + m1, none⟩ = some (.int .u64 (y : Nat)) := (HW.out.2.1.cell (p := ⟨bl, ol + m1, none⟩) hbl).trans hy3
      have hbr : bl < wr.heap.size := by omega
      have hi0 : (0 : Int) ≤ (m : Int) := by omega
      have hi1 : (m : Int) < (n : Int) := by omega
      have hi2 : (0 : Int) ≤ (m1 : Int) := by omega
      have hi3 : (m1 : Int) < (n : Int) := by omega
      have HKN := Lib.hid hkn
      obtain ⟨S1, hS1⟩ : ∃ S1, S1 = (prs us).take k := ⟨_, rfl⟩
      rw [← hS1] at HTK HW
      have HPA : Hid (∀ wx : World, Calls Tryz.prog 10 #[.int .u64 (x : Nat), .int .u64 (y : Nat)] wx fun e w' => e = .returned (.agg #[.int .u8 (cutN x : Nat), .int .u8 (cutN y : Nat)]) ∧ Below wx.heap.size wx w') := Lib.hid (fun wx => pair_any x y wx hx2 hy2)
      obtain ⟨p, hp⟩ : ∃ p, p = cutN x := ⟨_, rfl⟩
      obtain ⟨q, hq⟩ : ∃ q, q = cutN y := ⟨_, rfl⟩
      rw [← hp, ← hq] at HTK HPA
      clear hm1 hx1 hx2 hx3 hy1 hy2 hy3 hc hpk hS1 hkn hp hq
      go_upto_region 5 with fail
      have HGD : Hid (∀ wx, Below wr.heap.size wr wx → wx.cell? ⟨bl, ol + m, none⟩ = some (.int .u64 (x : Nat)) ∧ wx.cell? ⟨bl, ol + m1, none⟩ = some (.int .u64 (y : Nat))) := Lib.hid (fun wx hb => ⟨(hb.cell (p := ⟨bl, ol + m, none⟩) hbr).trans d0, (hb.cell (p := ⟨bl, ol + m1, none⟩) hbr).trans d1⟩)
      have HBD : Hid (Below wr.heap.size wr wr.drew) := Lib.hid (Below.refl _ _).drew
      clear d0 d1
      go_region_held3 (fun wx => wx.cell? ⟨bl, ol + m, none⟩ = some (.int .u64 (x : Nat)) ∧ wx.cell? ⟨bl, ol + m1, none⟩ = some (.int .u64 (y : Nat)))
        (first | exact HCE.out | exact HGD.out _ HBB.out | exact HGD.out _ HBA.out | exact HGD.out _ HBD.out | fail)
        (first
          | (have hq := HBB; clear hq; rw [if_pos (by kernel_rfl)]; refine wp_append_sl _ (.tmp 12) (.tmp 23) 25 rfl w.heap.size 32 i0 _ 2 2 Tryz.underlying25 HI.out HZ1.out HZ2.out HZ3.out rfl (by omega) (.slice A1 k c1) k (S1.map scell).flatten rfl HOW.out _ (some ⟨wa.heap.size, 0, none⟩) 1 1 [.int .u8 (p : Nat), .int .u8 (q : Nat)] rfl HRD.out (by simp [Value.oneCell']) (by unfold maxLen; omega) (by omega) HSZ.out ?_; intro A2 c2 wz hown hrd hgr hat; have HOWN := Lib.hid hown; have HGR := Lib.hid hgr; have HCE := Lib.hid (And.intro (hgr.cell (HGD.out _ HBB.out).1 HNE.out) (hgr.cell (HGD.out _ HBB.out).2 HNE.out)); clear hown hrd hgr hat)
          | (go_at_call 10; refine (HPA.out _).mono ?_; rintro e wa ⟨rfl, hba⟩; have HBA : Hid (Below wr.heap.size wr wa) := Lib.hid (HBD.out.trans (hba.mono HBD.out.size)); have HBB : Hid (Below wr.heap.size wr (wa.alloc (.cells (scell (p, q)).toArray 32))) := Lib.hid (HBA.out.alloc HBA.out.size _); have HOW : Hid ((wa.alloc (.cells (scell (p, q)).toArray 32)).ownsRow w.heap.size 32 2 (.slice A1 k c1) k (S1.map scell).flatten) := Lib.hid (owns_chgr HW.out.1.1 (Chg.of_below (S := []) HBB.out) (by simp)); have HRD : Hid (Reads (wa.alloc (.cells (scell (p, q)).toArray 32)) (wa.alloc (.cells (scell (p, q)).toArray 32)).heap.size 2 (some ⟨wa.heap.size, 0, none⟩) 1 (scell (p, q))) := Lib.hid (new_reads wa (p, q)); have HSZ : Hid (w.heap.size ≤ (wa.alloc (.cells (scell (p, q)).toArray 32)).heap.size) := Lib.hid (Nat.le_trans hsz HBB.out.size); have HNE : Hid (some bl ≠ (Value.slice A1 k c1).ownBlock) := Lib.hid (fun e => by have := (HOW.out.lt bl e.symm).1; omega); unfold scell at HBB HOW HRD HSZ; simp only [] at HBB HOW HRD HSZ; clear hba)
          | fail)
      all_goals
        go_wp2_with fail
        go_roundw
        case rel =>
          have hb1 : Below w.heap.size w wz := (HW.out.2.1.trans (HBB.out.mono hsz)).grown HGR.out HSZ.out (fun k hk => (HOW.out.lt k hk).1)
          have hrr := HW.out.2.2.below HBA.out HW.out.2.2.lt
          have hre : Row wz w.heap.size 27 [.slice none 0 0] := by
            refine (chg_app HGR.out).row hrr (fun hm => ?_)
            obtain ⟨cur, hb⟩ := own_blkr HOW.out w.heap.size (by simpa using hm)
            exact absurd rfl (Blk.ne_ (cs' := cur) (hrr.alloc _) hb (by decide))
          exact ⟨k + 1, A2, c2, by have := HKN.out; have := HMM.out; have := HM1.out; omega, by have := HMM.out; go_num, rfl, Lib.hid ⟨by rw [HTK.out]; exact ⟨by rw [push_scell]; exact HOWN.out, by have := HW.out.1.2; simp [this]⟩, hb1, hre⟩⟩
        case measure => have := HKN.out; have := HMM.out; have := HM1.out; simp [intOf]; try omega
    · have f1 : decide (m1 < n) = false := decide_eq_false hkn
      have f1' : decide ((m1 : Int) < (n : Int)) = false := decide_eq_false (by omega)
      have HO9 : Hid (OwnS wr w.heap.size A1 k c1 (prs us)) := Lib.hid (by
        have h := HW.out.1
        rw [List.take_of_length_le (by rw [prs_len, HU.out.2.1]; have := HMM.out; omega)] at h
        exact h)
      have HCO := Lib.hid (of_any A1 k c1 (prs us) wr ⟨Reads.of_own HO9.out.1, HO9.out.2, by omega⟩ (prs_le us) (by omega))
      have HKN : Hid (k ≤ n) := Lib.hid (by have := HMM.out; omega)
      clear hkn hm1
      go_wp2_with (go_at_call 9; refine HCO.out.mono ?_; rintro e w2 ⟨Ao, no, co, out, rfl, ho, hf, hl, hb⟩; have r2 := HW.out.2.2.below hb HW.out.2.2.lt; have z0 := r2.cell 0; have fz := r2.frozen 0; have hl2 := r2.lt; simp only [List.getElem?_cons_zero] at z0; have HR2 := Lib.hid r2; have HOO := Lib.hid ho; have HOF := Lib.hid (And.intro hf hl); have HOB := Lib.hid hb; clear r2 ho hf hl hb)
      have r3 := (HR2.out.set_ 0 (.slice Ao no co)).cell 0
      simp only [List.set_cons_zero, List.getElem?_cons_zero] at r3
      refine bodyPost_ret (v := .agg #[.slice Ao no co]) (by simp [results, Tryz.results7, go_sem, r3]) rfl ⟨Ao, no, co, out, rfl, ⟨own_setr (own_monor HOO.out.1 hsz) HR2.out (by decide) 0 _, HOO.out.2⟩, HOF.out.1, by have := HOF.out.2; have := HKN.out; omega, (HW.out.2.1.trans (HOB.out.mono hsz)).setCell (p := ⟨w.heap.size, 0, none⟩) (Nat.le_refl _) _⟩
end S8
end Go.Proofs.YtchajbegjajlkaaGreat

/- A set's contracts, said by its points. -/
set_option linter.unusedVariables false
set_option linter.unusedSimpArgs false
namespace Go.Proofs.YtchajbegjajlkaaGreat
open Go.RowKit
namespace S8
/-- a slice is a set's: its points, and how many spans it has at most -/
def SetV (w : World) (P : Nat → Bool) (N : Nat) (A : Option Addr) (n c : Nat) : Prop := ∃ s, IsSet w A n c s ∧ (∀ p, p ≤ TOP → Sp.has s p = P p) ∧ n ≤ N
theorem SetV.below {w w' : World} {P : Nat → Bool} {N n c : Nat} {A : Option Addr} (h : SetV w P N A n c) (hb : Below w.heap.size w w') : SetV w' P N A n c := by
  obtain ⟨s, h1, h2⟩ := h
  exact ⟨s, h1.below hb, h2⟩
theorem SetV.le {w : World} {P : Nat → Bool} {N M n c : Nat} {A : Option Addr} (h : SetV w P N A n c) (hm : N ≤ M) : SetV w P M A n c := by
  obtain ⟨s, h1, h2, h3⟩ := h
  exact ⟨s, h1, h2, Nat.le_trans h3 hm⟩
theorem SetV.nil (w : World) (N : Nat) : SetV w (fun _ => false) N none 0 0 := ⟨[], IsSet.nil w, fun _ _ => rfl, Nat.zero_le _⟩
theorem set_of_own {w : World} {B n c N : Nat} {A : Option Addr} {s : Sp.S} {P : Nat → Bool} (h : OwnS w B A n c s) (hn : Sp.Nrm TOP s) (hp : ∀ p, p ≤ TOP → Sp.has s p = P p) (hl : n ≤ N) (hN : N ≤ 1099511627776) : SetV w P N A n c := ⟨s, h.isSet hn (by omega), hp, hl⟩
theorem or_v (A A' : Option Addr) (n c n' c' N M : Nat) (P Q : Nat → Bool) (w : World) (h : SetV w P N A n c) (k : SetV w Q M A' n' c') (hb : 2 * N + 2 * M ≤ 1099511627776) :
    Calls Tryz.prog 40 #[.agg #[.slice A n c], .agg #[.slice A' n' c']] w fun e w' => ∃ Ao no co, e = .returned (.agg #[.slice Ao no co]) ∧ SetV w' (fun p => P p || Q p) (2 * N + 2 * M) Ao no co ∧ Below w.heap.size w w' := by
  obtain ⟨s, h1, h2, h3⟩ := h
  obtain ⟨t, k1, k2, k3⟩ := k
  refine (or_any A A' n c n' c' s t w h1 k1 (by omega)).mono fun e w' hh => ?_
  obtain ⟨Ao, no, co, out, he, ho, hm, hw⟩ := hh
  have hlen := Sp.mk_len h1.2.2.2.1 k1.2.2.2.1 rfl hm
  refine ⟨Ao, no, co, he, set_of_own ho hm.nrm (fun p hp => by rw [hm.pts p hp, h2 p hp, k2 p hp]) ?_ hb, hw⟩
  have := ho.2; have := h1.1.2.1; have := k1.1.2.1
  omega
theorem less_v (A A' : Option Addr) (n c n' c' N M : Nat) (P Q : Nat → Bool) (w : World) (h : SetV w P N A n c) (k : SetV w Q M A' n' c') (hb : 2 * N + 2 * M ≤ 1099511627776) :
    Calls Tryz.prog 42 #[.agg #[.slice A n c], .agg #[.slice A' n' c']] w fun e w' => ∃ Ao no co, e = .returned (.agg #[.slice Ao no co]) ∧ SetV w' (fun p => P p && !Q p) (2 * N + 2 * M) Ao no co ∧ Below w.heap.size w w' := by
  obtain ⟨s, h1, h2, h3⟩ := h
  obtain ⟨t, k1, k2, k3⟩ := k
  refine (less_any A A' n c n' c' s t w h1 k1 (by omega)).mono fun e w' hh => ?_
  obtain ⟨Ao, no, co, out, he, ho, hm, hw⟩ := hh
  have hlen := Sp.mk_len h1.2.2.2.1 k1.2.2.2.1 rfl hm
  refine ⟨Ao, no, co, he, set_of_own ho hm.nrm (fun p hp => by rw [hm.pts p hp, h2 p hp, k2 p hp]) ?_ hb, hw⟩
  have := ho.2; have := h1.1.2.1; have := k1.1.2.1
  omega
theorem meet_v (A A' : Option Addr) (n c n' c' N M : Nat) (P Q : Nat → Bool) (w : World) (h : SetV w P N A n c) (k : SetV w Q M A' n' c') (hb : 2 * N + 2 * M ≤ 1099511627776) :
    Calls Tryz.prog 41 #[.agg #[.slice A n c], .agg #[.slice A' n' c']] w fun e w' => ∃ Ao no co, e = .returned (.agg #[.slice Ao no co]) ∧ SetV w' (fun p => P p && Q p) (2 * N + 2 * M) Ao no co ∧ Below w.heap.size w w' := by
  obtain ⟨s, h1, h2, h3⟩ := h
  obtain ⟨t, k1, k2, k3⟩ := k
  refine (meet_any A A' n c n' c' s t w h1 k1 (by omega)).mono fun e w' hh => ?_
  obtain ⟨Ao, no, co, out, he, ho, hm, hw⟩ := hh
  have hlen := Sp.mk_len h1.2.2.2.1 k1.2.2.2.1 rfl hm
  refine ⟨Ao, no, co, he, set_of_own ho hm.nrm (fun p hp => by rw [hm.pts p hp, h2 p hp, k2 p hp]) ?_ hb, hw⟩
  have := ho.2; have := h1.1.2.1; have := k1.1.2.1
  omega
theorem same_v (A A' : Option Addr) (n c n' c' N M : Nat) (P Q : Nat → Bool) (T : Bool) (w : World) (h : SetV w P N A n c) (k : SetV w Q M A' n' c') (hT : T = true ↔ ∀ p, p ≤ TOP → P p = Q p) :
    Calls Tryz.prog 8 #[.agg #[.slice A n c], .agg #[.slice A' n' c']] w fun e w' => e = .returned (.bool T) ∧ Below w.heap.size w w' := by
  obtain ⟨s, h1, h2, h3⟩ := h
  obtain ⟨t, k1, k2, k3⟩ := k
  refine (ssame_any A A' n n' c c' s t w h1 k1).mono fun e w' hh => ?_
  obtain ⟨he, hb⟩ := hh
  refine ⟨?_, hb⟩
  rw [he]
  congr 2
  rw [Bool.eq_iff_iff, hT, decide_eq_true_iff]
  constructor
  · rintro rfl p hp
    rw [← h2 p hp, ← k2 p hp]
  · intro hpq
    exact Sp.ext h1.2.2.2.1 k1.2.2.2.1 (fun p hp => by rw [h2 p hp, k2 p hp, hpq p hp])
theorem spans_v (A : Option Addr) (n c N : Nat) (P : Nat → Bool) (w : World) (h : SetV w P N A n c) :
    Calls Tryz.prog 43 #[.agg #[.slice A n c]] w fun e w' => ∃ Ao no co s, e = .returned (.slice Ao no co) ∧ IsS w' w'.heap.size Ao no s ∧ (∀ x ∈ s, x.1 ≤ TOP ∧ x.2 ≤ TOP) ∧ (∀ p, p ≤ TOP → Sp.has s p = P p) ∧ no ≤ N ∧ Below w.heap.size w w' := by
  obtain ⟨s, h1, h2, h3⟩ := h
  refine (spans_any A n c s w h1).mono fun e w' hh => ?_
  obtain ⟨⟨A', c', he, ho, _, _⟩, hb⟩ := hh
  exact ⟨A', n, c', s, he, ⟨Reads.of_own ho.1, ho.2, h1.1.2.2⟩, fun x hx => by have := h1.2.2.2.1.ok x hx; omega, h2, h3, hb⟩
theorem of_v (A : Option Addr) (n c N : Nat) (P : Nat → Bool) (s : Sp.S) (w : World) (h : IsS w w.heap.size A n s) (hM : ∀ x ∈ s, x.1 ≤ TOP ∧ x.2 ≤ TOP) (hp : ∀ p, p ≤ TOP → Sp.has s p = P p) (hn : n ≤ N) (hN : N ≤ 1099511627776) :
    Calls Tryz.prog 9 #[.slice A n c] w fun e w' => ∃ Ao no co, e = .returned (.agg #[.slice Ao no co]) ∧ SetV w' P N Ao no co ∧ Below w.heap.size w w' := by
  refine (of_any A n c s w h hM (by omega)).mono fun e w' hh => ?_
  obtain ⟨Ao, no, co, out, he, ho, hf, hl, hb⟩ := hh
  exact ⟨Ao, no, co, he, set_of_own ho hf.nrm (fun p hq => by rw [hf.pts p hq, hp p hq]) (by omega) hN, hb⟩
theorem many_v (A : Option Addr) (n c N : Nat) (us : List Nat) (w : World) (hU : IsU w w.heap.size A n us) (hn : n ≤ N) (hN : N ≤ 1099511627776) :
    Calls Tryz.prog 7 #[.slice A n c] w fun e w' => ∃ Ao no co, e = .returned (.agg #[.slice Ao no co]) ∧ SetV w' (fun p => Sp.has (prs us) p) N Ao no co ∧ Below w.heap.size w w' := by
  refine (many_any A n c us w hU (by omega)).mono fun e w' hh => ?_
  obtain ⟨Ao, no, co, out, he, ho, hf, hl, hb⟩ := hh
  exact ⟨Ao, no, co, he, set_of_own ho hf.nrm (fun p hq => hf.pts p hq) (by omega) hN, hb⟩
theorem one_v (g c a b N : Nat) (w : World) (hr : Row w g 32 (scell (a, b))) (ha : a ≤ TOP) (hb : b ≤ TOP) (h1 : 1 ≤ N) (hN : N ≤ 1099511627776) :
    Calls Tryz.prog 9 #[.slice (some ⟨g, 0, none⟩) 1 c] w fun e w' => ∃ Ao no co, e = .returned (.agg #[.slice Ao no co]) ∧ SetV w' (fun p => decide (a ≤ p ∧ p ≤ b)) N Ao no co ∧ Below w.heap.size w w' := by
  refine (of_one g c a b w hr ha hb).mono fun e w' hh => ?_
  obtain ⟨Ao, co, he, ho, hw⟩ := hh
  have hf := one_of (a := a) hb
  refine ⟨Ao, _, co, he, set_of_own ho hf.nrm (fun p hq => ?_) ?_ hN, hw⟩
  · rw [hf.pts p hq, Sp.has_cons, Sp.has_nil, Bool.or_false]
  · unfold one
    split
    · simp
    · simpa using h1
theorem none_v (N : Nat) (w : World) :
    Calls Tryz.prog 9 #[.slice none 0 0] w fun e w' => ∃ Ao no co, e = .returned (.agg #[.slice Ao no co]) ∧ SetV w' (fun _ => false) N Ao no co ∧ Below w.heap.size w w' := by
  refine (of_nil w).mono fun e w' hh => ?_
  obtain ⟨he, hb⟩ := hh
  exact ⟨none, 0, 0, he, SetV.nil _ _, hb⟩
theorem has_v (A : Option Addr) (n c N p : Nat) (P : Nat → Bool) (w : World) (h : SetV w P N A n c) (hp : p ≤ TOP) :
    Calls Tryz.prog 44 #[.agg #[.slice A n c], .int .u8 (p : Nat)] w fun e w' => e = .returned (.bool (P p)) ∧ Below w.heap.size w w' := by
  obtain ⟨s, h1, h2, h3⟩ := h
  rw [← h2 p hp]
  exact has_any A n c p s w h1 hp
theorem covers_v (A : Option Addr) (n c N a b : Nat) (P : Nat → Bool) (B : Bool) (w : World) (h : SetV w P N A n c) (ha : a ≤ TOP) (hb : b ≤ TOP) (hB : B = true ↔ ∀ p, a ≤ p → p ≤ b → P p = true) :
    Calls Tryz.prog 46 #[.agg #[.slice A n c], .agg #[.int .u8 (a : Nat), .int .u8 (b : Nat)]] w fun e w' => e = .returned (.bool B) ∧ Below w.heap.size w w' := by
  obtain ⟨s, h1, h2, h3⟩ := h
  have e : B = cov s a b := by
    rw [Bool.eq_iff_iff, hB, cov_iff h1.2.2.2.1]
    constructor
    · intro h p h4 h5; rw [h2 p (by omega)]; exact h p h4 h5
    · intro h p h4 h5; rw [← h2 p (by omega)]; exact h p h4 h5
  rw [e]
  exact covers_any A n c a b s w h1 ha hb
theorem touches_v (A : Option Addr) (n c N a b : Nat) (P : Nat → Bool) (B : Bool) (w : World) (h : SetV w P N A n c) (ha : a ≤ TOP) (hb : b ≤ TOP) (hB : B = true ↔ ∃ p, a ≤ p ∧ p ≤ b ∧ P p = true) :
    Calls Tryz.prog 45 #[.agg #[.slice A n c], .agg #[.int .u8 (a : Nat), .int .u8 (b : Nat)]] w fun e w' => e = .returned (.bool B) ∧ Below w.heap.size w w' := by
  obtain ⟨s, h1, h2, h3⟩ := h
  have e : B = touch s a b := by
    rw [Bool.eq_iff_iff, hB, touch_iff h1.2.2.2.1]
    constructor
    · rintro ⟨p, h4, h5, h6⟩; exact ⟨p, h4, h5, by rw [h2 p (by omega)]; exact h6⟩
    · rintro ⟨p, h4, h5, h6⟩; exact ⟨p, h4, h5, by rw [← h2 p (by omega)]; exact h6⟩
  rw [e]
  exact touches_any A n c a b s w h1 ha hb
theorem one_has {a b : Nat} (hb : b ≤ TOP) {q : Nat} (hq : q ≤ TOP) : Sp.has (one a b) q = decide (a ≤ q ∧ q ≤ b) := by
  rw [(one_of (a := a) hb).pts q hq, Sp.has_cons, Sp.has_nil, Bool.or_false]
theorem with_v (A : Option Addr) (n c N a b : Nat) (P : Nat → Bool) (w : World) (h : SetV w P N A n c) (ha : a ≤ TOP) (hb : b ≤ TOP) (hN : 2 * N + 2 ≤ 1099511627776) :
    Calls Tryz.prog 47 #[.agg #[.slice A n c], .agg #[.int .u8 (a : Nat), .int .u8 (b : Nat)]] w fun e w' => ∃ Ao no co, e = .returned (.agg #[.slice Ao no co]) ∧ SetV w' (fun q => P q || decide (a ≤ q ∧ q ≤ b)) (2 * N + 2) Ao no co ∧ Below w.heap.size w w' := by
  obtain ⟨s, h1, h2, h3⟩ := h
  refine (with_any A n c a b s w h1 ha hb (by omega)).mono fun e w' hh => ?_
  obtain ⟨Ao, no, co, out, he, ho, hm, hw⟩ := hh
  have hlen := Sp.mk_len h1.2.2.2.1 (one_nrm (a := a) hb) rfl hm
  have h5 := one_len a b
  refine ⟨Ao, no, co, he, set_of_own ho hm.nrm (fun p hp => by rw [hm.pts p hp, h2 p hp, one_has hb hp]) ?_ hN, hw⟩
  have := ho.2; have := h1.1.2.1
  omega
theorem without_v (A : Option Addr) (n c N a b : Nat) (P : Nat → Bool) (w : World) (h : SetV w P N A n c) (ha : a ≤ TOP) (hb : b ≤ TOP) (hN : 2 * N + 2 ≤ 1099511627776) :
    Calls Tryz.prog 48 #[.agg #[.slice A n c], .agg #[.int .u8 (a : Nat), .int .u8 (b : Nat)]] w fun e w' => ∃ Ao no co, e = .returned (.agg #[.slice Ao no co]) ∧ SetV w' (fun q => P q && !decide (a ≤ q ∧ q ≤ b)) (2 * N + 2) Ao no co ∧ Below w.heap.size w w' := by
  obtain ⟨s, h1, h2, h3⟩ := h
  refine (without_any A n c a b s w h1 ha hb (by omega)).mono fun e w' hh => ?_
  obtain ⟨Ao, no, co, out, he, ho, hm, hw⟩ := hh
  have hlen := Sp.mk_len h1.2.2.2.1 (one_nrm (a := a) hb) rfl hm
  have h5 := one_len a b
  refine ⟨Ao, no, co, he, set_of_own ho hm.nrm (fun p hp => by rw [hm.pts p hp, h2 p hp, one_has hb hp]) ?_ hN, hw⟩
  have := ho.2; have := h1.1.2.1
  omega
end S8
end Go.Proofs.YtchajbegjajlkaaGreat

/- The walk of the law's pair. -/
set_option linter.unusedVariables false
set_option linter.unusedSimpArgs false
namespace Go.Proofs.YtchajbegjajlkaaGreat
open Go.RowKit
namespace S16
/-- a number as far as the type holds it -/
abbrev cutN (x : Nat) : Nat := x % 65536
theorem cutN_le (x : Nat) : cutN x ≤ TOP := by unfold cutN TOP; omega
set_option maxRecDepth 100000 in
set_option maxHeartbeats 1000000 in
theorem pair_any (x y : Nat) (w : World) (hx : x ≤ 18446744073709551615) (hy : y ≤ 18446744073709551615) :
    Calls Tryz.prog 53 #[.int .u64 (x : Nat), .int .u64 (y : Nat)] w fun e w' => e = .returned (.agg #[.int .u16 (cutN x : Nat), .int .u16 (cutN y : Nat)]) ∧ Below w.heap.size w w' := by
  obtain ⟨a, ha⟩ : ∃ a, a = cutN x := ⟨_, rfl⟩
  obtain ⟨b, hb⟩ : ∃ b, b = cutN y := ⟨_, rfl⟩
  have e1 : IntKind.u16.wrap (x : Int) = (a : Int) := by rw [IntKind.wrap_u16, ha]; unfold cutN; omega
  have e2 : IntKind.u16.wrap (y : Int) = (b : Int) := by rw [IntKind.wrap_u16, hb]; unfold cutN; omega
  rw [← ha, ← hb]
  clear ha hb hx hy
  go_enter Tryz.func53, Tryz.ntmps53
  have HB : Hid (Below w.heap.size w (w.alloc (.cells #[.int .u16 (a : Nat), .int .u16 (b : Nat)] 46))) := Lib.hid ((Below.refl _ _).alloc (Nat.le_refl _) _)
  have hr := Row.new w 46 [.int .u16 0, .int .u16 0]
  have hb0 : Below w.heap.size w (w.alloc (.cells #[.int .u16 0, .int .u16 0] 46)) := (Below.refl _ _).alloc (Nat.le_refl _) _
  go_upto_region 1 with fail
  generalize w.alloc (.cells #[.int .u16 0, .int .u16 0] 46) = w1 at *
  have r2 := (hr.set_ 0 (.int .u16 (a : Nat))).set_ 1 (.int .u16 (b : Nat))
  have HBZ := Lib.hid ((hb0.setCell (p := ⟨w.heap.size, 0, none⟩) (Nat.le_refl _) (.int .u16 (a : Nat))).setCell (p := ⟨w.heap.size, 1, none⟩) (Nat.le_refl _) (.int .u16 (b : Nat)))
  have f0 := hr.frozen 0
  have f1 := hr.frozen 1
  have c0 := hr.cell 0
  have c1 := hr.cell 1
  have cl := hr.lt
  have HP0 := Lib.hid ((hr.set_ 0 (.int .u16 (a : Nat))).cell 0)
  have HP1 := Lib.hid (r2.cell 1)
  simp only [List.set_cons_zero, List.set_cons_succ, List.getElem?_cons_zero, List.getElem?_cons_succ] at c0 c1 HP0 HP1
  clear hr hb0 r2
  go_wp2_with fail
  have p0 := HP0.out
  have p1 := HP1.out
  exact bodyPost_ret (v := .agg #[.int .u16 (a : Nat), .int .u16 (b : Nat)]) (by simp [results, Tryz.results53, go_sem, p0, p1]) rfl ⟨rfl, HBZ.out⟩
end S16
end Go.Proofs.YtchajbegjajlkaaGreat

/- The shelf's contract of slices.SortFunc, at a list of spans of one's own. -/
set_option linter.unusedVariables false
set_option linter.unusedSimpArgs false
namespace Go.Proofs.YtchajbegjajlkaaGreat
open Go.RowKit
namespace S16
/-- what the closure of Of tells of two spans -/
def cmpF (x y : Nat × Nat) : Int := if x.1 < y.1 then -1 else if y.1 < x.1 then 1 else 0
theorem cmpF_lt (x y : Nat × Nat) : ltOf cmpF x y = decide (x.1 < y.1) := by
  unfold ltOf cmpF
  by_cases h1 : x.1 < y.1
  · simp [h1]
  · by_cases h2 : y.1 < x.1 <;> simp [h1, h2]
theorem cmpF_swo : Go.Sort.SWO (ltOf cmpF) where
  irrefl x := by rw [cmpF_lt]; simp
  trans x y z h1 h2 := by rw [cmpF_lt] at *; simp at *; omega
  ntrans x y z h1 h2 := by rw [cmpF_lt] at *; simp at *; omega
theorem flat_flatK (s : Sp.S) : (Go.Sort.flatK scell 2 s.toArray).toList = (s.map scell).flatten := by
  have hl := flat_len (s := 2) _ (scell_len s)
  rw [List.length_map] at hl
  refine List.ext_getElem? fun i => ?_
  by_cases hi : i < 2 * s.length
  · have hj : i / 2 < s.length := by omega
    have h1 : (s.map scell).flatten[i]? = (scell s[i / 2])[i % 2]? := by
      have h := flat_cell (s := 2) _ (scell_len s) (i / 2) (i % 2) (scell s[i / 2]) (by simp [hj]) (by omega)
      rw [← h]
      congr 1
      omega
    have hm : i % 2 < (scell s[i / 2]).length := by show i % 2 < 2; omega
    rw [h1, Array.getElem?_toList]
    simp only [Go.Sort.flatK, Array.getElem?_map]
    rw [Array.getElem?_eq_getElem (by simp; omega)]
    simp only [Option.map_some, Array.getElem_range, List.getElem!_toArray]
    rw [getElem!_pos s (i / 2) hj, getElem!_pos (scell s[i / 2]) (i % 2) hm, List.getElem?_eq_getElem hm]
  · rw [List.getElem?_eq_none (by simp; omega), List.getElem?_eq_none (by omega)]
theorem take_putCellsK (cur F : Array Value) (h : F.size ≤ cur.size) : (Go.Sort.putCells id 0 F cur).toList.take F.size = F.toList := by
  refine List.ext_getElem? fun j => ?_
  by_cases hj : j < F.size
  · rw [List.getElem?_take_of_lt hj, Array.getElem?_toList]
    simp [Go.Sort.putCells, hj, show j < cur.size by omega]
  · rw [List.getElem?_take_eq_none (by omega), List.getElem?_eq_none (by simp; omega)]
theorem sorted_block {w : World} {g : Nat} {fr : Nat × Nat} {e : TypeId} {cur : Array Value} (h : w.heap[g]? = some (.cells cur e fr)) (m : Nat) (d : Array (Nat × Nat)) (os : Array Obj) :
    (sortWorldK scell 2 w g 0 m d os).heap[g]? = some (.cells (Go.Sort.putCells id 0 (Go.Sort.flatK scell 2 d) cur) e fr) := by
  have hg : g < w.heap.size := (Array.getElem?_eq_some_iff.1 h).1
  unfold sortWorldK Go.Sort.grow Go.Sort.putRowK Go.Sort.putRow Go.Sort.mapBlock Go.Sort.ahead
  simp only
  rw [Array.getElem?_append_left (by simpa using hg), Array.getElem?_modify, if_pos rfl, h]
  rfl
theorem sorted_chg (w : World) (g m : Nat) (d : Array (Nat × Nat)) (os : Array Obj) : Chg [g] w (sortWorldK scell 2 w g 0 m d os) := by
  unfold sortWorldK Go.Sort.grow Go.Sort.putRowK Go.Sort.putRow Go.Sort.mapBlock Go.Sort.ahead
  refine ⟨rfl, rfl, rfl, by simp, fun k hk hne => ?_⟩
  simp only
  rw [Array.getElem?_append_left (by simpa using hk), Array.getElem?_modify, if_neg (by simpa using fun e : g = k => hne (by simp [e]))]
theorem sorted_own {w : World} {B n c g : Nat} {s s' : Sp.S} (h : OwnS w B (some ⟨g, 0, none⟩) n c s) (hl : s'.length = s.length) (m : Nat) (os : Array Obj) :
    OwnS (sortWorldK scell 2 w g 0 m s'.toArray os) B (some ⟨g, 0, none⟩) n c s' := by
  obtain ⟨⟨hx, h1⟩, hn⟩ := h
  rcases h1 with ⟨h1, _⟩ | ⟨g', cap, cur, e, hB, hh, hc, hm, hs, ht⟩
  · cases h1
  · cases e
    have hfl := flat_len (s := 2) _ (scell_len s')
    rw [List.length_map] at hfl
    have hfs : (Go.Sort.flatK scell 2 s'.toArray).size = n * 2 := by rw [Go.Sort.size_flatK]; simp [hl, hn]
    refine ⟨⟨by rw [hfl]; omega, .inr ⟨g, c, _, rfl, hB, sorted_block hh m _ os, hc, hm, by simp [Go.Sort.putCells, hs], ?_⟩⟩, by omega⟩
    rw [← flat_flatK, ← hfs]
    exact take_putCellsK _ _ (by rw [hfs, hs]; exact Nat.mul_le_mul_right 2 hc)
theorem own_holds {w : World} {B n c g : Nat} {s : Sp.S} (h : OwnS w B (some ⟨g, 0, none⟩) n c s) : Go.Sort.HoldsK scell 2 w g 0 s.toArray := by
  intro j hj
  rw [Go.Sort.size_flatK] at hj
  have hj2 : j < s.length * 2 := by simpa using hj
  have hfl := flat_len (s := 2) _ (scell_len s)
  rw [List.length_map] at hfl
  refine ⟨?_, h.1.frozenAt _⟩
  rw [Nat.zero_add, h.1.cellAt j (by have := h.2; omega), ← flat_flatK]
  have hz : j < (Go.Sort.flatK scell 2 s.toArray).size := by rw [Go.Sort.size_flatK]; simpa using hj2
  rw [getElem!_pos _ j hz, Array.getElem?_toList, Array.getElem?_eq_getElem hz]
  rfl
theorem perm_list {s : Sp.S} {d' : Array (Nat × Nat)} (h : Go.Sort.PermIn 0 s.toArray.size s.toArray d') (hs : Go.Sort.SortedIn (ltOf cmpF) 0 s.toArray.size d') : d'.toList.Perm s ∧ d'.toList.Pairwise (fun a b => a.1 ≤ b.1) := by
  obtain ⟨h1, _, h3⟩ := h
  have hsz : d'.size = s.length := by simpa using h1
  constructor
  · have e1 : (d'.extract 0 s.toArray.size).toList = d'.toList := by rw [← h1]; simp
    have e2 : (s.toArray.extract 0 s.toArray.size).toList = s := by simp
    rw [e1, e2] at h3
    exact h3
  · rw [List.pairwise_iff_getElem]
    intro i j hi hj hij
    have hi2 : i < d'.size := by simpa using hi
    have hj2 : j < d'.size := by simpa using hj
    have := hs i j (Nat.zero_le _) hij (by simp; omega)
    rw [cmpF_lt, getElem!_pos d' i hi2, getElem!_pos d' j hj2] at this
    have h5 := of_decide_eq_false this
    simp only [Array.getElem_toList]
    omega
set_option maxRecDepth 100000 in
set_option maxHeartbeats 1000000 in
theorem cmp_any (x y : Nat × Nat) (W : World) : Calls Tryz.prog 95 #[.agg (scell x).toArray, .agg (scell y).toArray] W fun e w' => e = .returned (.int .i64 (cmpF x y)) ∧ ∃ q os', w' = Go.Sort.grow (W.drewN q) os' := by
  obtain ⟨a, b⟩ := x
  obtain ⟨c, d⟩ := y
  obtain ⟨R, hR⟩ : ∃ R, R = cmpF (a, b) (c, d) := ⟨_, rfl⟩
  rw [← hR]
  unfold scell
  simp only []
  by_cases h1 : a < c
  · have f1 : decide (a < c) = true := decide_eq_true h1
    obtain rfl : R = -1 := by rw [hR]; unfold cmpF; rw [if_pos h1]
    clear hR h1
    go_enter Tryz.func95, Tryz.ntmps95
    go_wp2_with fail
    go_ret
    exact ⟨rfl, 0, _, by rw [Go.Sort.alloc_eq_grow, Go.Sort.alloc_eq_grow, Go.Sort.grow_grow]; rfl⟩
  · have f1 : decide (a < c) = false := decide_eq_false h1
    by_cases h2 : c < a
    · have f2 : decide (c < a) = true := decide_eq_true h2
      obtain rfl : R = 1 := by rw [hR]; unfold cmpF; rw [if_neg h1, if_pos h2]
      clear hR h1 h2
      go_enter Tryz.func95, Tryz.ntmps95
      go_wp2_with fail
      go_ret
      exact ⟨rfl, 0, _, by rw [Go.Sort.alloc_eq_grow, Go.Sort.alloc_eq_grow, Go.Sort.grow_grow]; rfl⟩
    · have f2 : decide (c < a) = false := decide_eq_false h2
      obtain rfl : R = 0 := by rw [hR]; unfold cmpF; rw [if_neg h1, if_neg h2]
      clear hR h1 h2
      go_enter Tryz.func95, Tryz.ntmps95
      go_wp2_with fail
      go_ret
      exact ⟨rfl, 0, _, by rw [Go.Sort.alloc_eq_grow, Go.Sort.alloc_eq_grow, Go.Sort.grow_grow]; rfl⟩
theorem cmp_lays (g n m : Nat) (w : World) : CmpLays Tryz.prog 95 #[] scell 2 cmpF g n m w := fun _ _ _ _ x y => cmp_any x y _
end S16
shelf_lay_g SlLaysF0.n6 Slsf 6 at Tryz 94 as S16.sortL
namespace S16
set_option maxRecDepth 100000 in
set_option maxHeartbeats 1000000 in
theorem sort_own (A : Option Addr) (n c B : Nat) (s : Sp.S) (w : World) (ho : OwnS w B A n c s) (hn : n ≤ 4398046511104) : Calls Tryz.prog 94 #[.slice A n c, .func (.func 95) #[] #[]] w fun e w' => e = .returned (.tuple #[]) ∧ ∃ s', s'.Perm s ∧ s'.Pairwise (fun a b => a.1 ≤ b.1) ∧ OwnS w' B A n c s' ∧ Chg (Value.slice A n c).ownBlock.toList w w' := by
  rcases Nat.lt_or_ge 0 n with h0 | h0
  · obtain ⟨g, rfl, hB, hg, _, _⟩ := own_somer ho.1 h0
    have eg : ∀ args w, (callFunc 95 args).run Tryz.prog w = .ok (.enter 95 args) w := enters_of Tryz.func95 (by kernel_rfl) rfl
    have hsz : s.toArray.size = n := by simp [ho.2]
    have h := AnyQ.slices_SortFunc sortL 2 Tryz.isAgg46 Tryz.sizeOf46 scell (fun _ => rfl) (fun x v hv => by simp [scell] at hv; rcases hv with rfl | rfl <;> rfl) cmpF cmpF_swo 95 #[] g 0 c s.toArray w eg (cmp_lays g 0 _ w) (own_holds ho) hg (by rw [hsz]; omega)
    change Calls Tryz.prog 94 _ _ _ at h
    rw [hsz] at h
    refine h.mono fun e w' hh => ?_
    obtain ⟨he, d', m, os, hp, hs, rfl⟩ := hh
    rw [← hsz] at hp hs
    obtain ⟨p1, p2⟩ := perm_list hp hs
    refine ⟨he, d'.toList, p1, p2, ?_, sorted_chg w g m d' os⟩
    have := sorted_own (s' := d'.toList) ho (by simpa using p1.length_eq) m os
    simpa using this
  · obtain rfl : n = 0 := by omega
    have hs0 : s = [] := List.length_eq_zero_iff.1 ho.2
    refine (sort_small A 0 c w (by omega)).mono fun e w' hh => ?_
    obtain ⟨he, rfl⟩ := hh
    exact ⟨he, s, List.Perm.refl _, by rw [hs0]; exact List.Pairwise.nil, ho, Chg.refl _ _⟩
end S16
end Go.Proofs.YtchajbegjajlkaaGreat

/- The walk of Of at any list of spans. -/
set_option linter.unusedVariables false
set_option linter.unusedSimpArgs false
namespace Go.Proofs.YtchajbegjajlkaaGreat
open Go.RowKit
namespace S16
theorem some_take {l : Sp.S} {k : Nat} {x : Nat × Nat} (h : l[k]? = some x) : Sp.some_ (l.take (k + 1)) = Sp.some_ (l.take k) ++ (if x.2 < x.1 then [] else [x]) := by
  unfold Sp.some_
  rw [List.take_add_one, h, List.filter_append]
  congr 1
  simp only [Option.toList_some, List.filter_cons, List.filter_nil]
  by_cases hx : x.2 < x.1
  · rw [if_pos hx, if_neg (by simp; omega)]
  · rw [if_neg hx, if_pos (by simp; omega)]
theorem join_take {l : Sp.S} {k : Nat} {x : Nat × Nat} (h : l[k]? = some x) : (l.take (k + 1)).foldl Sp.join1 [] = Sp.join1 ((l.take k).foldl Sp.join1 []) x := by
  rw [List.take_add_one, h, List.foldl_append]
  rfl
theorem join1_len (out : Sp.S) (x : Nat × Nat) : (Sp.join1 out x).length ≤ out.length + 1 := by
  rcases Sp.snoc_or out with rfl | ⟨a, y, rfl⟩
  · simp [Sp.join1_nil]
  · rw [Sp.join1_snoc]
    split <;> simp
theorem joins_len : ∀ (l out : Sp.S), (l.foldl Sp.join1 out).length ≤ out.length + l.length
  | [], _ => by simp
  | x :: l, out => by
    have h1 := joins_len l (Sp.join1 out x)
    have h2 := join1_len out x
    simp only [List.foldl_cons, List.length_cons]
    omega
theorem some_len (l : Sp.S) : (Sp.some_ l).length ≤ l.length := List.length_filter_le _ _
theorem join1_le {M : Nat} {out : Sp.S} (h : ∀ y ∈ out, y.1 ≤ M ∧ y.2 ≤ M) {x : Nat × Nat} (h1 : x.1 ≤ M) (h2 : x.2 ≤ M) : ∀ y ∈ Sp.join1 out x, y.1 ≤ M ∧ y.2 ≤ M := by
  rcases Sp.snoc_or out with rfl | ⟨a, z, rfl⟩
  · rw [Sp.join1_nil]
    intro y hy
    rw [List.mem_singleton.1 hy]
    exact ⟨h1, h2⟩
  · rw [Sp.join1_snoc]
    have hz := h z (by simp)
    intro y hy
    split at hy
    · rcases List.mem_append.1 hy with hy | hy
      · exact h y (by simp [hy])
      · rw [List.mem_singleton.1 hy]
        exact ⟨hz.1, by simp only; omega⟩
    · rcases List.mem_append.1 hy with hy | hy
      · exact h y hy
      · rw [List.mem_singleton.1 hy]
        exact ⟨h1, h2⟩
theorem joins_le {M : Nat} : ∀ (l out : Sp.S), (∀ y ∈ out, y.1 ≤ M ∧ y.2 ≤ M) → (∀ y ∈ l, y.1 ≤ M ∧ y.2 ≤ M) → ∀ y ∈ l.foldl Sp.join1 out, y.1 ≤ M ∧ y.2 ≤ M
  | [], _, h, _ => h
  | x :: l, out, h, hl => joins_le l _ (join1_le h (hl x (by simp)).1 (hl x (by simp)).2) (fun y hy => hl y (by simp [hy]))
set_option maxRecDepth 100000 in
set_option maxHeartbeats 4000000 in
theorem of_any (A : Option Addr) (n c : Nat) (L : Sp.S) (w : World) (hL : IsS w w.heap.size A n L) (hM : ∀ x ∈ L, x.1 ≤ TOP ∧ x.2 ≤ TOP) (hn : n ≤ 1099511627776) :
    Calls Tryz.prog 29 #[.slice A n c] w fun e w' => ∃ Ao no co out, e = .returned (.agg #[.slice Ao no co]) ∧ OwnS w' w.heap.size Ao no co out ∧ Sp.Of TOP L out ∧ no ≤ n ∧ Below w.heap.size w w' := by
  obtain ⟨i0, hi0, hz1, hz2, hz3⟩ := info_parts infoSp
  have HI := Lib.hid hi0; have HZ1 := Lib.hid hz1; have HZ2 := Lib.hid hz2; have HZ3 := Lib.hid hz3
  have HL := Lib.hid hL; have HM := Lib.hid hM
  have HLL := Lib.hid hL.2.1
  unfold TOP at HM
  clear hi0 hz1 hz2 hz3 hL hM
  go_enter Tryz.func29, Tryz.ntmps29
  go_wp2_with fail
  have HB0 : Hid (Below w.heap.size w (w.alloc (.cells #[.slice none 0 0] 42))) := Lib.hid ((Below.refl _ _).alloc (Nat.le_refl _) _)
  have HR0 : Hid (Row (w.alloc (.cells #[.slice none 0 0] 42)) w.heap.size 42 [.slice none 0 0]) := Lib.hid (Row.new w _ [.slice none 0 0])
  go_loopw [3, 12] (fun l i wr => ∃ (k : Nat) (A1 : Option Addr) (c1 n1 : Nat), k ≤ n ∧ i = .int .i64 (k : Nat) ∧ l = .slice A1 n1 c1 ∧ Hid (OwnS wr w.heap.size A1 n1 c1 (Sp.some_ (L.take k)) ∧ Below w.heap.size w wr ∧ Row wr w.heap.size 42 [.slice none 0 0])) (fun _ i _ => n - (intOf i).toNat)
  case atStart => exact ⟨0, none, 0, 0, by omega, rfl, rfl, Lib.hid ⟨⟨World.ownsRow_nil _ _ _ _, rfl⟩, HB0.out, HR0.out⟩⟩
  case round =>
    clear HB0 HR0
    obtain ⟨k, A1, c1, n1, hk, rfl, rfl, HW⟩ := hrel
    have hsz := HW.out.2.1.size
    have hnk : n1 ≤ k := by
      have h1 := HW.out.1.2
      have h2 := some_len (L.take k)
      rw [List.length_take] at h2
      omega
    by_cases hkn : k < n
    · obtain ⟨bl, ol, x0, x1, rfl, hbl, hx, d0, d1⟩ := ((HL.out.below HW.out.2.1).more hsz).cells hkn
      have hi0 : (0 : Int) ≤ (k : Int) := by omega
      have hi1 : (k : Int) < (n : Int) := by omega
      have hxt := HM.out _ (List.mem_of_getElem? hx)
      simp only at hxt
      have HTK := Lib.hid (some_take hx)
      have HKN := Lib.hid hkn
      have HOWN0 := Lib.hid HW.out.1
      clear hx hkn
      go_upto_region 5 with fail
      have hrx := Row.new wr 46 (scell (x0, x1))
      have hbx : Below wr.heap.size wr (wr.alloc (.cells (scell (x0, x1)).toArray 46)) := (Below.refl _ _).alloc (Nat.le_refl _) _
      unfold scell at hrx hbx
      simp only [] at hrx hbx
      obtain ⟨gx, hgx⟩ : ∃ gx, gx = wr.heap.size := ⟨_, rfl⟩
      obtain ⟨w5, hw5⟩ : ∃ w5, w5 = wr.alloc (.cells #[.int .u16 (x0 : Nat), .int .u16 (x1 : Nat)] 46) := ⟨_, rfl⟩
      rw [← hw5] at hrx hbx ⊢
      rw [← hgx] at hrx ⊢
      have y0 := hrx.cell 0
      have y1 := hrx.cell 1
      simp only [List.getElem?_cons_zero, List.getElem?_cons_succ] at y0 y1
      have hxl := hrx.lt
      have HBX := Lib.hid hbx
      clear hrx hbx hgx hw5 d0 d1
      by_cases hab : x1 < x0
      · have f1 : decide (x1 < x0) = true := decide_eq_true hab
        have HON : Hid (Sp.some_ (L.take (k + 1)) = Sp.some_ (L.take k)) := Lib.hid (by rw [HTK.out, if_pos hab, List.append_nil])
        clear hab
        go_wp2_with (go_at_call 82; refine (none_any x0 x1 _).mono ?_; rintro e w' ⟨rfl, hb'⟩; have HBN := Lib.hid hb'; clear hb')
        have hba : Below wr.heap.size wr w' := HBX.out.trans (HBN.out.mono HBX.out.size)
        go_roundw
        case rel => exact ⟨k + 1, A1, c1, n1, by have := HKN.out; omega, by go_num, rfl, Lib.hid ⟨by rw [HON.out]; exact ⟨owns_chgr HOWN0.out.1 (Chg.of_below (S := []) hba) (by simp), HOWN0.out.2⟩, HW.out.2.1.trans (hba.mono hsz), HW.out.2.2.below hba HW.out.2.2.lt⟩⟩
        case measure => have := HKN.out; simp [intOf]; try omega
      · have f1 : decide (x1 < x0) = false := decide_eq_false hab
        have HON : Hid (Sp.some_ (L.take (k + 1)) = Sp.some_ (L.take k) ++ [(x0, x1)]) := Lib.hid (by rw [HTK.out, if_neg hab])
        clear hab
        go_upto_region 6 with (go_at_call 82; refine (none_any x0 x1 _).mono ?_; rintro e w' ⟨rfl, hb'⟩; have HBN := Lib.hid hb'; have z0 := (hb'.cell (p := ⟨gx, 0, none⟩) hxl).trans y0; have z1 := (hb'.cell (p := ⟨gx, 1, none⟩) hxl).trans y1; clear hb')
        have hba : Below wr.heap.size wr w' := HBX.out.trans (HBN.out.mono HBX.out.size)
        have HBA := Lib.hid hba
        obtain ⟨S1, hS1⟩ : ∃ S1, S1 = Sp.some_ (L.take k) := ⟨_, rfl⟩
        rw [← hS1] at HON HOWN0
        have HOWN1 : Hid (w'.ownsRow w.heap.size 46 2 (.slice A1 n1 c1) n1 (S1.map scell).flatten) := Lib.hid (owns_chgr HOWN0.out.1 (Chg.of_below (S := []) hba) (by simp))
        have HRD : Hid (Reads (w'.alloc (.cells (scell (x0, x1)).toArray 46)) (w'.alloc (.cells (scell (x0, x1)).toArray 46)).heap.size 2 (some ⟨w'.heap.size, 0, none⟩) 1 (scell (x0, x1))) := Lib.hid (new_reads w' (x0, x1))
        unfold scell at HRD
        simp only [] at HRD
        have hws : w.heap.size ≤ w'.heap.size := Nat.le_trans hsz hba.size
        clear hba y0 y1 hS1
        go_wp2_with (at_builtin; refine wpList_append_sl _ (by rfl) (.tmp 19) (.tmp 21) 40 rfl w.heap.size 46 i0 _ 2 4 Tryz.underlying40 HI.out HZ1.out HZ2.out HZ3.out rfl (by omega) (.slice A1 n1 c1) n1 (S1.map scell).flatten rfl (HOWN1.out.alloc _) _ (some ⟨w'.heap.size, 0, none⟩) 1 1 [.int .u16 (x0 : Nat), .int .u16 (x1 : Nat)] rfl HRD.out (by simp [Value.oneCell']) (by unfold maxLen; omega) (by omega) (by simp; omega) ?_; intro A2 c2 wz hown hrd hgr hat; have HOWN := Lib.hid hown; have HGR := Lib.hid hgr; clear hown hrd hgr hat)
        go_roundw
        case rel =>
          have hb1 : Below w.heap.size w wz := ((HW.out.2.1.trans (HBA.out.mono hsz)).alloc hws _).grown HGR.out (by simp; omega) (fun k hk => (HOWN1.out.lt k hk).1)
          have hrr := HW.out.2.2.below HBA.out HW.out.2.2.lt
          have hre : Row wz w.heap.size 42 [.slice none 0 0] := by
            refine (chg_app HGR.out).row hrr (fun hm => ?_)
            obtain ⟨cur, hb⟩ := own_blkr HOWN1.out w.heap.size (by simpa using hm)
            exact absurd rfl (Blk.ne_ (cs' := cur) hrr hb (by decide))
          exact ⟨k + 1, A2, c2, n1 + 1, by have := HKN.out; omega, by go_num, rfl, Lib.hid ⟨by rw [HON.out]; exact ⟨by rw [push_scell]; exact HOWN.out, by have := HOWN0.out.2; simp [this]⟩, hb1, hre⟩⟩
        case measure => have := HKN.out; simp [intOf]; try omega
    · have HS1 : Hid (OwnS wr w.heap.size A1 n1 c1 (Sp.some_ L)) := Lib.hid (by
        have h := HW.out.1
        rw [List.take_of_length_le (by have := HLL.out; omega)] at h
        exact h)
      have f0 : decide (k < n) = false := decide_eq_false hkn
      have f0' : decide ((k : Int) < (n : Int)) = false := decide_eq_false (by omega)
      have hn1 : n1 ≤ n := by omega
      have HCS := Lib.hid (sort_own A1 n1 c1 w.heap.size (Sp.some_ L) wr HS1.out (by omega))
      clear hkn hnk
      go_upto_region 8 with fail
      go_upto_region 9 with (go_at_call 94; refine HCS.out.mono ?_; rintro e w2 ⟨rfl, s', hp, hs, ho, hc⟩)
      have hr2 : Row w2 w.heap.size 42 [.slice none 0 0] := by
        refine hc.row HW.out.2.2 (fun hm => ?_)
        obtain ⟨cur, hb⟩ := own_blkr HS1.out.1 w.heap.size (by simpa using hm)
        exact absurd rfl (Blk.ne_ (cs' := cur) HW.out.2.2 hb (by decide))
      have hb2 : Below w.heap.size w w2 := below_chg HW.out.2.1 (Nat.le_refl _) hc (fun k hk => (HS1.out.1.lt k (by simpa using hk)).1)
      have his : IsS w2 w2.heap.size A1 n1 s' := ⟨Reads.of_own ho.1, ho.2, by omega⟩
      have hM' : ∀ x ∈ s', x.1 ≤ 65535 ∧ x.2 ≤ 65535 := fun x hx => by
        have h := hp.mem_iff.1 hx
        unfold Sp.some_ at h
        exact HM.out x (List.mem_filter.1 h).1
      have hof := Sp.of_sorted (M := TOP) hp hs (fun x hx => (HM.out x hx).2)
      have HIS := Lib.hid his; have HM2 := Lib.hid hM'; have HOF := Lib.hid hof; have HR2 := Lib.hid hr2; have HB2 := Lib.hid hb2
      have hsl := his.2.1
      have HSL := Lib.hid hsl
      clear hr2 hb2 his hM' hof hsl hp hs ho hc HCS HS1 HW f0 f0' hsz
      go_wp2_with fail
      go_loopw [6, 28] (fun o i wx => ∃ (j : Nat) (A3 : Option Addr) (c3 n3 : Nat), j ≤ n1 ∧ i = .int .i64 (j : Nat) ∧ o = .slice A3 n3 c3 ∧ Hid (OwnS wx w2.heap.size A3 n3 c3 ((s'.take j).foldl Sp.join1 []) ∧ Below w2.heap.size w2 wx)) (fun _ i _ => n1 - (intOf i).toNat)
      case atStart => exact ⟨0, none, 0, 0, by omega, rfl, rfl, Lib.hid ⟨⟨World.ownsRow_nil _ _ _ _, rfl⟩, Below.refl _ _⟩⟩
      case round =>
        obtain ⟨j, A3, c3, n3, hj, rfl, rfl, HW⟩ := hrel
        have hsz := HW.out.2.size
        have hnj : n3 ≤ j := by
          have h1 := HW.out.1.2
          have h2 := joins_len (s'.take j) []
          rw [List.length_take, List.length_nil] at h2
          omega
        by_cases hjn : j < n1
        · obtain ⟨bl, ol, x0, x1, rfl, hbl, hx, d0, d1⟩ := ((HIS.out.below HW.out.2).more hsz).cells hjn
          have hi0 : (0 : Int) ≤ (j : Int) := by omega
          have hi1 : (j : Int) < (n1 : Int) := by omega
          have hxt := HM2.out _ (List.mem_of_getElem? hx)
          simp only at hxt
          have HTK := Lib.hid (join_take hx)
          have HJN := Lib.hid hjn
          obtain ⟨O, hO⟩ : ∃ O, O = (s'.take j).foldl Sp.join1 [] := ⟨_, rfl⟩
          have hOM : ∀ y ∈ O, y.1 ≤ 65535 ∧ y.2 ≤ 65535 := by
            rw [hO]
            exact joins_le (s'.take j) [] (by simp) (fun y hy => HM2.out y (List.mem_of_mem_take hy))
          rw [← hO] at HTK HW
          have HOM := Lib.hid hOM
          clear hx hjn hO hOM
          go_upto_region 13 with fail
          have hrx := Row.new wr 46 (scell (x0, x1))
          have hbx : Below wr.heap.size wr (wr.alloc (.cells (scell (x0, x1)).toArray 46)) := (Below.refl _ _).alloc (Nat.le_refl _) _
          unfold scell at hrx hbx
          simp only [] at hrx hbx
          obtain ⟨gx, hgx⟩ : ∃ gx, gx = wr.heap.size := ⟨_, rfl⟩
          obtain ⟨w5, hw5⟩ : ∃ w5, w5 = wr.alloc (.cells #[.int .u16 (x0 : Nat), .int .u16 (x1 : Nat)] 46) := ⟨_, rfl⟩
          rw [← hw5] at hrx hbx ⊢
          rw [← hgx] at hrx ⊢
          have y0 := hrx.cell 0
          have y1 := hrx.cell 1
          simp only [List.getElem?_cons_zero, List.getElem?_cons_succ] at y0 y1
          have hxl := hrx.lt
          have HBX := Lib.hid hbx
          have HW5 : Hid (OwnS w5 w2.heap.size A3 n3 c3 O ∧ Below w2.heap.size w2 w5) := Lib.hid ⟨⟨owns_chgr HW.out.1.1 (Chg.of_below (S := []) hbx) (by simp), HW.out.1.2⟩, HW.out.2.trans (hbx.mono hsz)⟩
          clear hrx hbx hgx hw5 d0 d1 HW
          rcases Sp.snoc_or O with rfl | ⟨a, y, rfl⟩
          · obtain rfl : n3 = 0 := HW5.out.1.2.symm
            have HO2 : Hid ((s'.take (j + 1)).foldl Sp.join1 [] = [(x0, x1)]) := Lib.hid (by rw [HTK.out, Sp.join1_nil])
            go_upto_region 14 with fail
            go_quiet (fail)
            have hd := below_drewN (Below.refl w5.heap.size w5) nq
            have z0 : (w5.drewN nq).cell? ⟨gx, 0, none⟩ = some (.int .u16 (x0 : Nat)) := y0
            have z1 : (w5.drewN nq).cell? ⟨gx, 1, none⟩ = some (.int .u16 (x1 : Nat)) := y1
            have HW6 : Hid (OwnS (w5.drewN nq) w2.heap.size A3 0 c3 [] ∧ Below w2.heap.size w2 (w5.drewN nq)) := Lib.hid ⟨⟨owns_chgr HW5.out.1.1 (Chg.of_below (S := []) hd) (by simp), rfl⟩, HW5.out.2.trans (hd.mono HW5.out.2.size)⟩
            clear hd y0 y1 HW5 HBX hxl
            generalize w5.drewN nq = w6 at *
            have hws : w2.heap.size ≤ w6.heap.size := HW6.out.2.size
            have HRD : Hid (Reads (w6.alloc (.cells (scell (x0, x1)).toArray 46)) (w6.alloc (.cells (scell (x0, x1)).toArray 46)).heap.size 2 (some ⟨w6.heap.size, 0, none⟩) 1 (scell (x0, x1))) := Lib.hid (new_reads w6 (x0, x1))
            unfold scell at HRD
            simp only [] at HRD
            go_wp2_with (at_builtin; refine wpList_append_sl _ (by rfl) (.tmp 73) (.tmp 75) 40 rfl w2.heap.size 46 i0 _ 2 4 Tryz.underlying40 HI.out HZ1.out HZ2.out HZ3.out rfl (by omega) (.slice A3 0 c3) 0 (([] : Sp.S).map scell).flatten rfl (HW6.out.1.1.alloc _) _ (some ⟨w6.heap.size, 0, none⟩) 1 1 [.int .u16 (x0 : Nat), .int .u16 (x1 : Nat)] rfl HRD.out (by simp [Value.oneCell']) (by unfold maxLen; omega) (by omega) (by simp; omega) ?_; intro A2 c2 wz hown hrd hgr hat; have HOWN := Lib.hid hown; have HGR := Lib.hid hgr; clear hown hrd hgr hat)
            go_roundw
            case rel => exact ⟨j + 1, A2, c2, 1, by have := HJN.out; omega, by go_num, rfl, Lib.hid ⟨by rw [HO2.out]; exact ⟨HOWN.out, rfl⟩, (HW6.out.2.alloc hws _).grown HGR.out (by simp; omega) (fun k hk => (HW6.out.1.1.lt k hk).1)⟩⟩
            case measure => have := HJN.out; simp [intOf]; try omega
          · obtain ⟨m, rfl⟩ : ∃ m, n3 = m + 1 := ⟨a.length, by have := HW5.out.1.2; simp at this; omega⟩
            have hal : a.length = m := by have := HW5.out.1.2; simp at this; exact this
            have HAL := Lib.hid hal
            obtain ⟨go, rfl, hgo1, hgo2, hgo3, hgo4⟩ := own_somer HW5.out.1.1 (by omega)
            unfold maxLen at hgo4
            have hyM := HOM.out y (by simp)
            have cy : w5.cell? ⟨go, m * 2 + 1, none⟩ = some (.int .u16 (y.2 : Nat)) := by
              have h := HW5.out.1.1.cellAt (m * 2 + 1) (by omega)
              rw [h, List.map_append, List.flatten_append, List.getElem?_append_right (by rw [flat_len (s := 2) _ (scell_len a), List.length_map]; omega), flat_len (s := 2) _ (scell_len a), List.length_map, hal, show m * 2 + 1 - 2 * m = 1 by omega]
              rfl
            have zy : w5.frozen? ⟨go, m * 2 + 1, none⟩ = false := HW5.out.1.1.frozenAt _
            have hgl : go < w5.heap.size := hgo2
            obtain ⟨ya, yb⟩ := y
            simp only at hyM cy
            have e5 : IntKind.i64.wrap (((m : Int) + 1) - 1) = (m : Int) := by rw [IntKind.wrap_i64]; omega
            have e5' : (m : Int) + 1 - 1 = (m : Int) := by omega
            have hm0 : (0 : Int) ≤ (m : Int) := by omega
            have hm1 : (m : Int) < (m : Int) + 1 := by omega
            have hm2 : decide ((0 : Int) < (m : Int) + 1) = true := decide_eq_true (by omega)
            obtain ⟨D, hD⟩ : ∃ D, D = decide (x0 ≤ yb ∨ x0 = yb + 1) := ⟨_, rfl⟩
            have HD := Lib.hid hD
            have HTK2 : Hid ((s'.take (j + 1)).foldl Sp.join1 [] = if D = true then a ++ [(ya, max yb x1)] else a ++ [(ya, yb)] ++ [(x0, x1)]) := Lib.hid (by rw [HTK.out, Sp.join1_snoc, hD]; simp only [decide_eq_true_eq])
            clear hal hD HTK
            go_upto_region 14 with fail
            go_cut [58] (fun x wx => x = .bool D ∧ ∃ nq, wx = w5.drewN nq)
            case first =>
              by_cases h1 : x0 ≤ yb
              · have f1 : decide (x0 ≤ yb) = true := decide_eq_true h1
                have f1' : decide ((x0 : Int) ≤ (yb : Int)) = true := decide_eq_true (by omega)
                have HDT : Hid (D = true) := Lib.hid (by rw [HD.out]; exact decide_eq_true (.inl h1))
                clear h1
                go_quiet (fail)
                go_wp2_with fail
                go_meet
                case rel => exact ⟨by rw [HDT.out], nq, rfl⟩
              · have f1 : decide (x0 ≤ yb) = false := decide_eq_false h1
                have f1' : decide ((x0 : Int) ≤ (yb : Int)) = false := decide_eq_false (by omega)
                obtain ⟨zz, hzz⟩ : ∃ zz, zz = yb + 1 := ⟨_, rfl⟩
                have e7 : IntKind.u16.wrap ((yb : Int) + 1) = (zz : Int) := by rw [IntKind.wrap_u16]; omega
                have e7' : (yb : Int) + 1 = (zz : Int) := by omega
                have e8 : IntKind.u16.wrap (zz : Int) = (zz : Int) := by rw [IntKind.wrap_u16]; omega
                by_cases h2 : x0 = yb + 1
                · have f2 : ((x0 : Int) == (zz : Int)) = true := by rw [beq_iff_eq]; omega
                  have HDT : Hid (D = true) := Lib.hid (by rw [HD.out]; exact decide_eq_true (.inr h2))
                  clear h1 h2 hzz
                  go_quiet (fail)
                  go_wp2_with fail
                  go_meet
                  case rel => exact ⟨by rw [HDT.out], nq, rfl⟩
                · have f2 : ((x0 : Int) == (zz : Int)) = false := by rw [beq_eq_false_iff_ne]; omega
                  have HDT : Hid (D = false) := Lib.hid (by rw [HD.out]; exact decide_eq_false (fun h => h.elim h1 h2))
                  clear h1 h2 hzz
                  go_quiet (fail)
                  go_wp2_with fail
                  go_meet
                  case rel => exact ⟨by rw [HDT.out], nq, rfl⟩
            case rest =>
            obtain ⟨rfl, nq, hwc⟩ := hcut
            have hd := below_drewN (Below.refl w5.heap.size w5) nq
            rw [← hwc] at hd
            have z0 : wc.cell? ⟨gx, 0, none⟩ = some (.int .u16 (x0 : Nat)) := by rw [hwc]; exact y0
            have z1 : wc.cell? ⟨gx, 1, none⟩ = some (.int .u16 (x1 : Nat)) := by rw [hwc]; exact y1
            have zc : wc.cell? ⟨go, m * 2 + 1, none⟩ = some (.int .u16 (yb : Nat)) := by rw [hwc]; exact cy
            have zz : wc.frozen? ⟨go, m * 2 + 1, none⟩ = false := by rw [hwc]; exact zy
            have zl : go < wc.heap.size := Nat.lt_of_lt_of_le hgl hd.size
            have HW6 : Hid (OwnS wc w2.heap.size (some ⟨go, 0, none⟩) (m + 1) c3 (a ++ [(ya, yb)]) ∧ Below w2.heap.size w2 wc) := Lib.hid ⟨⟨owns_chgr HW5.out.1.1 (Chg.of_below (S := []) hd) (by simp), HW5.out.1.2⟩, HW5.out.2.trans (hd.mono HW5.out.2.size)⟩
            have hws : w2.heap.size ≤ wc.heap.size := HW6.out.2.size
            clear hd hwc y0 y1 cy zy hgl HW5 HBX hxl
            cases D with
            | true =>
              have hOS : ∀ MX : Nat, OwnS (wc.drew.setCell ⟨go, m * 2 + 1, none⟩ (.int .u16 (MX : Nat))) w2.heap.size (some ⟨go, 0, none⟩) (m + 1) c3 (a ++ [(ya, MX)]) := fun MX => by
                refine ⟨?_, by have := HAL.out; simp [this]⟩
                have h := ((owns_chgr HW6.out.1.1 (Chg.of_below (S := []) (Below.refl _ _).drew) (by simp)).stored (2 * m + 1) (.int .u16 (MX : Nat))).1
                rw [← HAL.out, set_scell, HAL.out] at h
                rw [show m * 2 + 1 = 2 * m + 1 by omega]
                exact h
              have HOS := Lib.hid hOS
              have HBS : Hid (∀ MX : Nat, Below w2.heap.size w2 (wc.drew.setCell ⟨go, m * 2 + 1, none⟩ (.int .u16 (MX : Nat)))) := Lib.hid (fun MX => HW6.out.2.drew.setCell (p := ⟨go, m * 2 + 1, none⟩) hgo1 _)
              clear hOS
              go_upto_region 15 with fail
              rcases Nat.lt_or_ge yb x1 with hlt | hlt
              · have HO2 : Hid ((s'.take (j + 1)).foldl Sp.join1 [] = a ++ [(ya, x1)]) := Lib.hid (by rw [HTK2.out, if_pos rfl, Nat.max_eq_right (by omega)])
                have f5 : decide (yb < x1) = true := decide_eq_true hlt
                have f6 : decide (x1 < yb) = false := decide_eq_false (by omega)
                have f7 : max (yb : Int) (x1 : Int) = (x1 : Int) := by omega
                clear hlt HTK2
                go_region
                all_goals
                  go_wp2_with fail
                  go_roundw
                  case rel => exact ⟨j + 1, _, c3, m + 1, by have := HJN.out; omega, by go_num, rfl, Lib.hid ⟨by rw [HO2.out]; exact HOS.out _, HBS.out _⟩⟩
                  case measure => have := HJN.out; simp [intOf]; try omega
              · have HO2 : Hid ((s'.take (j + 1)).foldl Sp.join1 [] = a ++ [(ya, yb)]) := Lib.hid (by rw [HTK2.out, if_pos rfl, Nat.max_eq_left hlt])
                have f5 : decide (yb < x1) = false := decide_eq_false (by omega)
                have f7 : max (yb : Int) (x1 : Int) = (yb : Int) := by omega
                clear hlt HTK2
                go_region
                all_goals
                  go_wp2_with fail
                  go_roundw
                  case rel => exact ⟨j + 1, _, c3, m + 1, by have := HJN.out; omega, by go_num, rfl, Lib.hid ⟨by rw [HO2.out]; exact HOS.out _, HBS.out _⟩⟩
                  case measure => have := HJN.out; simp [intOf]; try omega
            | false =>
              have HO2 : Hid ((s'.take (j + 1)).foldl Sp.join1 [] = a ++ [(ya, yb)] ++ [(x0, x1)]) := Lib.hid (by rw [HTK2.out, if_neg (by simp)])
              have HRD : Hid (Reads (wc.alloc (.cells (scell (x0, x1)).toArray 46)) (wc.alloc (.cells (scell (x0, x1)).toArray 46)).heap.size 2 (some ⟨wc.heap.size, 0, none⟩) 1 (scell (x0, x1))) := Lib.hid (new_reads wc (x0, x1))
              unfold scell at HRD
              simp only [] at HRD
              clear HTK2
              go_wp2_with (at_builtin; refine wpList_append_sl _ (by rfl) (.tmp 73) (.tmp 75) 40 rfl w2.heap.size 46 i0 _ 2 4 Tryz.underlying40 HI.out HZ1.out HZ2.out HZ3.out rfl (by omega) (.slice (some ⟨go, 0, none⟩) (m + 1) c3) (m + 1) ((a ++ [(ya, yb)]).map scell).flatten rfl (HW6.out.1.1.alloc _) _ (some ⟨wc.heap.size, 0, none⟩) 1 1 [.int .u16 (x0 : Nat), .int .u16 (x1 : Nat)] rfl HRD.out (by simp [Value.oneCell']) (by unfold maxLen; omega) (by omega) (by simp; omega) ?_; intro A2 c2 wz hown hrd hgr hat; have HOWN := Lib.hid hown; have HGR := Lib.hid hgr; clear hown hrd hgr hat)
              go_roundw
              case rel => exact ⟨j + 1, A2, c2, m + 1 + 1, by have := HJN.out; omega, by go_num, rfl, Lib.hid ⟨by rw [HO2.out]; exact ⟨by rw [push_scell]; exact HOWN.out, by have := HAL.out; simp [this]⟩, (HW6.out.2.alloc hws _).grown HGR.out (by simp; omega) (fun k hk => (HW6.out.1.1.lt k hk).1)⟩⟩
              case measure => have := HJN.out; simp [intOf]; try omega
        · obtain rfl : j = n1 := by omega
          have HO9 : Hid (OwnS wr w2.heap.size A3 n3 c3 (s'.foldl Sp.join1 [])) := Lib.hid (by
            have h := HW.out.1
            rw [List.take_of_length_le (by have := HSL.out; omega)] at h
            exact h)
          have r2 := HR2.out.below HW.out.2 HR2.out.lt
          have z0 := r2.cell 0
          have fz := r2.frozen 0
          have hl2 := r2.lt
          simp only [List.getElem?_cons_zero] at z0
          have HR3 : Hid (Row (wr.setCell ⟨w.heap.size, 0, none⟩ (.slice A3 n3 c3)) w.heap.size 42 [.slice A3 n3 c3]) := Lib.hid (r2.set_ 0 _)
          have HOS : Hid (OwnS (wr.setCell ⟨w.heap.size, 0, none⟩ (.slice A3 n3 c3)) w.heap.size A3 n3 c3 (s'.foldl Sp.join1 []) ∧ Below w.heap.size w (wr.setCell ⟨w.heap.size, 0, none⟩ (.slice A3 n3 c3))) := Lib.hid ⟨⟨own_setr (own_monor HO9.out.1 HB2.out.size) r2 (by decide) 0 _, HO9.out.2⟩, (HB2.out.trans (HW.out.2.mono HB2.out.size)).setCell (p := ⟨w.heap.size, 0, none⟩) (Nat.le_refl _) _⟩
          have z2 := HR3.out.cell 0
          simp only [List.getElem?_cons_zero] at z2
          have f9 : decide (j < j) = false := decide_eq_false (by omega)
          have HNN : Hid (n3 ≤ n) := Lib.hid (by omega)
          clear r2
          go_wp2_with fail
          refine bodyPost_ret (v := .agg #[.slice A3 n3 c3]) (by simp [results, Tryz.results29, go_sem, z2]) rfl ⟨A3, n3, c3, s'.foldl Sp.join1 [], rfl, HOS.out.1, HOF.out, HNN.out, HOS.out.2⟩
end S16
end Go.Proofs.YtchajbegjajlkaaGreat

/- The walk of the law's many: a set out of a list of numbers, two and two. -/
set_option linter.unusedVariables false
set_option linter.unusedSimpArgs false
namespace Go.Proofs.YtchajbegjajlkaaGreat
open Go.RowKit
namespace S16
/-- the spans of a list of numbers, two and two -/
def prs : List Nat → Sp.S
  | a :: b :: r => (cutN a, cutN b) :: prs r
  | _ => []
theorem prs_le : ∀ (l : List Nat), ∀ x ∈ prs l, x.1 ≤ TOP ∧ x.2 ≤ TOP
  | [], _, h => by simp [prs] at h
  | [a], _, h => by simp [prs] at h
  | a :: b :: r, x, h => by
    unfold prs at h
    rcases List.mem_cons.1 h with rfl | h
    · exact ⟨cutN_le a, cutN_le b⟩
    · exact prs_le r x h
theorem prs_len : ∀ (l : List Nat), (prs l).length = l.length / 2
  | [] => rfl
  | [a] => by simp [prs]
  | a :: b :: r => by
    unfold prs
    rw [List.length_cons, prs_len r]
    simp only [List.length_cons]
    omega
theorem prs_at : ∀ (l : List Nat) (k x y : Nat), l[2 * k]? = some x → l[2 * k + 1]? = some y → (prs l)[k]? = some (cutN x, cutN y)
  | [], k, x, y, h, _ => by simp at h
  | [a], k, x, y, _, h => by simp at h
  | a :: b :: r, 0, x, y, h1, h2 => by
    simp at h1 h2
    rw [h1, h2]
    rfl
  | a :: b :: r, k + 1, x, y, h1, h2 => by
    unfold prs
    rw [List.getElem?_cons_succ]
    refine prs_at r k x y ?_ ?_
    · rw [show 2 * (k + 1) = 2 * k + 1 + 1 by omega] at h1
      simpa using h1
    · rw [show 2 * (k + 1) + 1 = 2 * k + 1 + 1 + 1 by omega] at h2
      simpa using h2
set_option maxRecDepth 100000 in
set_option maxHeartbeats 4000000 in
theorem many_any (A : Option Addr) (n c : Nat) (us : List Nat) (w : World) (hU : IsU w w.heap.size A n us) (hn : n ≤ 1099511627776) :
    Calls Tryz.prog 49 #[.slice A n c] w fun e w' => ∃ Ao no co out, e = .returned (.agg #[.slice Ao no co]) ∧ OwnS w' w.heap.size Ao no co out ∧ Sp.Of TOP (prs us) out ∧ no ≤ n ∧ Below w.heap.size w w' := by
  obtain ⟨i0, hi0, hz1, hz2, hz3⟩ := info_parts infoSp
  have HI := Lib.hid hi0; have HZ1 := Lib.hid hz1; have HZ2 := Lib.hid hz2; have HZ3 := Lib.hid hz3
  have HU := Lib.hid hU
  clear hi0 hz1 hz2 hz3 hU
  go_enter Tryz.func49, Tryz.ntmps49
  go_wp2_with fail
  have HB0 : Hid (Below w.heap.size w (w.alloc (.cells #[.slice none 0 0] 42))) := Lib.hid ((Below.refl _ _).alloc (Nat.le_refl _) _)
  have HR0 : Hid (Row (w.alloc (.cells #[.slice none 0 0] 42)) w.heap.size 42 [.slice none 0 0]) := Lib.hid (Row.new w _ [.slice none 0 0])
  go_loopw [3, 4] (fun l i wr => ∃ (k : Nat) (A1 : Option Addr) (c1 : Nat), 2 * k ≤ n ∧ i = .int .i64 (2 * k : Nat) ∧ l = .slice A1 k c1 ∧ Hid (OwnS wr w.heap.size A1 k c1 ((prs us).take k) ∧ Below w.heap.size w wr ∧ Row wr w.heap.size 42 [.slice none 0 0])) (fun _ i _ => n - (intOf i).toNat)
  case atStart => exact ⟨0, none, 0, by omega, rfl, rfl, Lib.hid ⟨⟨World.ownsRow_nil _ _ _ _, rfl⟩, HB0.out, HR0.out⟩⟩
  case round =>
    clear HB0 HR0
    obtain ⟨k, A1, c1, hk, rfl, rfl, HW⟩ := hrel
    have hsz := HW.out.2.1.size
    obtain ⟨m, hm⟩ : ∃ m, m = 2 * k := ⟨_, rfl⟩
    rw [← hm] at hk ⊢
    have HMM := Lib.hid hm
    obtain ⟨m1, hm1⟩ : ∃ m1, m1 = m + 1 := ⟨_, rfl⟩
    have ew : IntKind.i64.wrap ((m : Int) + 1) = (m1 : Int) := by rw [IntKind.wrap_i64]; omega
    have ew' : (m : Int) + 1 = (m1 : Int) := by omega
    have ew'' : IntKind.i64.wrap (m1 : Int) = (m1 : Int) := by rw [IntKind.wrap_i64]; omega
    have HM1 := Lib.hid hm1
    have hk40 : k ≤ 1099511627776 := by omega
    clear hm
    by_cases hkn : m1 < n
    · have f1 : decide (m1 < n) = true := decide_eq_true hkn
      have f1' : decide ((m1 : Int) < (n : Int)) = true := decide_eq_true (by omega)
      obtain ⟨bl, ol, rfl, hbl, hc⟩ := HU.out.cells (by omega)
      obtain ⟨x, hx1, hx2, hx3⟩ := hc m (by omega)
      obtain ⟨y, hy1, hy2, hy3⟩ := hc m1 hkn
      have hpk := prs_at us k x y (by rw [← HMM.out]; exact hx1) (by rw [← HMM.out, ← HM1.out]; exact hy1)
      have HTK : Hid ((prs us).take (k + 1) = (prs us).take k ++ [(cutN x, cutN y)]) := Lib.hid (by rw [List.take_add_one, hpk]; rfl)
      have d0 : wr.cell? ⟨bl, ol + m, none⟩ = some (.int .u64 (x : Nat)) := (HW.out.2.1.cell (p := ⟨bl, ol + m, none⟩) hbl).trans hx3
      have d1 : wr.cell? ⟨bl, ol + m1, none⟩ = some (.int .u64 (y : Nat)) := (HW.out.2.1.cell (p := ⟨bl, ol + m1, none⟩) hbl).trans hy3
      have hbr : bl < wr.heap.size := by omega
      have hi0 : (0 : Int) ≤ (m : Int) := by omega
      have hi1 : (m : Int) < (n : Int) := by omega
      have hi2 : (0 : Int) ≤ (m1 : Int) := by omega
      have hi3 : (m1 : Int) < (n : Int) := by omega
      have HKN := Lib.hid hkn
      obtain ⟨S1, hS1⟩ : ∃ S1, S1 = (prs us).take k := ⟨_, rfl⟩
      rw [← hS1] at HTK HW
      have HPA : Hid (∀ wx : World, Calls Tryz.prog 53 #[.int .u64 (x : Nat), .int .u64 (y : Nat)] wx fun e w' => e = .returned (.agg #[.int .u16 (cutN x : Nat), .int .u16 (cutN y : Nat)]) ∧ Below wx.heap.size wx w') := Lib.hid (fun wx => pair_any x y wx hx2 hy2)
      obtain ⟨p, hp⟩ : ∃ p, p = cutN x := ⟨_, rfl⟩
      obtain ⟨q, hq⟩ : ∃ q, q = cutN y := ⟨_, rfl⟩
      rw [← hp, ← hq] at HTK HPA
      clear hm1 hx1 hx2 hx3 hy1 hy2 hy3 hc hpk hS1 hkn hp hq
      go_upto_region 5 with fail
      have HGD : Hid (∀ wx, Below wr.heap.size wr wx → wx.cell? ⟨bl, ol + m, none⟩ = some (.int .u64 (x : Nat)) ∧ wx.cell? ⟨bl, ol + m1, none⟩ = some (.int .u64 (y : Nat))) := Lib.hid (fun wx hb => ⟨(hb.cell (p := ⟨bl, ol + m, none⟩) hbr).trans d0, (hb.cell (p := ⟨bl, ol + m1, none⟩) hbr).trans d1⟩)
      have HBD : Hid (Below wr.heap.size wr wr.drew) := Lib.hid (Below.refl _ _).drew
      clear d0 d1
      go_region_held3 (fun wx => wx.cell? ⟨bl, ol + m, none⟩ = some (.int .u64 (x : Nat)) ∧ wx.cell? ⟨bl, ol + m1, none⟩ = some (.int .u64 (y : Nat)))
        (first | exact HCE.out | exact HGD.out _ HBB.out | exact HGD.out _ HBA.out | exact HGD.out _ HBD.out | fail)
        (first
          | (have hq := HBB; clear hq; rw [if_pos (by kernel_rfl)]; refine wp_append_sl _ (.tmp 12) (.tmp 23) 40 rfl w.heap.size 46 i0 _ 2 4 Tryz.underlying40 HI.out HZ1.out HZ2.out HZ3.out rfl (by omega) (.slice A1 k c1) k (S1.map scell).flatten rfl HOW.out _ (some ⟨wa.heap.size, 0, none⟩) 1 1 [.int .u16 (p : Nat), .int .u16 (q : Nat)] rfl HRD.out (by simp [Value.oneCell']) (by unfold maxLen; omega) (by omega) HSZ.out ?_; intro A2 c2 wz hown hrd hgr hat; have HOWN := Lib.hid hown; have HGR := Lib.hid hgr; have HCE := Lib.hid (And.intro (hgr.cell (HGD.out _ HBB.out).1 HNE.out) (hgr.cell (HGD.out _ HBB.out).2 HNE.out)); clear hown hrd hgr hat)
          | (go_at_call 53; refine (HPA.out _).mono ?_; rintro e wa ⟨rfl, hba⟩; have HBA : Hid (Below wr.heap.size wr wa) := Lib.hid (HBD.out.trans (hba.mono HBD.out.size)); have HBB : Hid (Below wr.heap.size wr (wa.alloc (.cells (scell (p, q)).toArray 46))) := Lib.hid (HBA.out.alloc HBA.out.size _); have HOW : Hid ((wa.alloc (.cells (scell (p, q)).toArray 46)).ownsRow w.heap.size 46 2 (.slice A1 k c1) k (S1.map scell).flatten) := Lib.hid (owns_chgr HW.out.1.1 (Chg.of_below (S := []) HBB.out) (by simp)); have HRD : Hid (Reads (wa.alloc (.cells (scell (p, q)).toArray 46)) (wa.alloc (.cells (scell (p, q)).toArray 46)).heap.size 2 (some ⟨wa.heap.size, 0, none⟩) 1 (scell (p, q))) := Lib.hid (new_reads wa (p, q)); have HSZ : Hid (w.heap.size ≤ (wa.alloc (.cells (scell (p, q)).toArray 46)).heap.size) := Lib.hid (Nat.le_trans hsz HBB.out.size); have HNE : Hid (some bl ≠ (Value.slice A1 k c1).ownBlock) := Lib.hid (fun e => by have := (HOW.out.lt bl e.symm).1; omega); unfold scell at HBB HOW HRD HSZ; simp only [] at HBB HOW HRD HSZ; clear hba)
          | fail)
      all_goals
        go_wp2_with fail
        go_roundw
        case rel =>
          have hb1 : Below w.heap.size w wz := (HW.out.2.1.trans (HBB.out.mono hsz)).grown HGR.out HSZ.out (fun k hk => (HOW.out.lt k hk).1)
          have hrr := HW.out.2.2.below HBA.out HW.out.2.2.lt
          have hre : Row wz w.heap.size 42 [.slice none 0 0] := by
            refine (chg_app HGR.out).row hrr (fun hm => ?_)
            obtain ⟨cur, hb⟩ := own_blkr HOW.out w.heap.size (by simpa using hm)
            exact absurd rfl (Blk.ne_ (cs' := cur) (hrr.alloc _) hb (by decide))
          exact ⟨k + 1, A2, c2, by have := HKN.out; have := HMM.out; have := HM1.out; omega, by have := HMM.out; go_num, rfl, Lib.hid ⟨by rw [HTK.out]; exact ⟨by rw [push_scell]; exact HOWN.out, by have := HW.out.1.2; simp [this]⟩, hb1, hre⟩⟩
        case measure => have := HKN.out; have := HMM.out; have := HM1.out; simp [intOf]; try omega
    · have f1 : decide (m1 < n) = false := decide_eq_false hkn
      have f1' : decide ((m1 : Int) < (n : Int)) = false := decide_eq_false (by omega)
      have HO9 : Hid (OwnS wr w.heap.size A1 k c1 (prs us)) := Lib.hid (by
        have h := HW.out.1
        rw [List.take_of_length_le (by rw [prs_len, HU.out.2.1]; have := HMM.out; omega)] at h
        exact h)
      have HCO := Lib.hid (of_any A1 k c1 (prs us) wr ⟨Reads.of_own HO9.out.1, HO9.out.2, by omega⟩ (prs_le us) (by omega))
      have HKN : Hid (k ≤ n) := Lib.hid (by have := HMM.out; omega)
      clear hkn hm1
      go_wp2_with (go_at_call 29; refine HCO.out.mono ?_; rintro e w2 ⟨Ao, no, co, out, rfl, ho, hf, hl, hb⟩; have r2 := HW.out.2.2.below hb HW.out.2.2.lt; have z0 := r2.cell 0; have fz := r2.frozen 0; have hl2 := r2.lt; simp only [List.getElem?_cons_zero] at z0; have HR2 := Lib.hid r2; have HOO := Lib.hid ho; have HOF := Lib.hid (And.intro hf hl); have HOB := Lib.hid hb; clear r2 ho hf hl hb)
      have r3 := (HR2.out.set_ 0 (.slice Ao no co)).cell 0
      simp only [List.set_cons_zero, List.getElem?_cons_zero] at r3
      refine bodyPost_ret (v := .agg #[.slice Ao no co]) (by simp [results, Tryz.results49, go_sem, r3]) rfl ⟨Ao, no, co, out, rfl, ⟨own_setr (own_monor HOO.out.1 hsz) HR2.out (by decide) 0 _, HOO.out.2⟩, HOF.out.1, by have := HOF.out.2; have := HKN.out; omega, (HW.out.2.1.trans (HOB.out.mono hsz)).setCell (p := ⟨w.heap.size, 0, none⟩) (Nat.le_refl _) _⟩
end S16
end Go.Proofs.YtchajbegjajlkaaGreat
