/- The walk of the book's Keep. -/
import Derived.Test.YtblfagmoilhdnaaBk
import Derived.Deep.Cut
import Derived.Deep.DeepCutAuto
set_option linter.unusedVariables false
set_option linter.unusedSimpArgs false
namespace Go.Proofs.Ytblfagmoilhdnaa
open Go.RowKit

theorem grown_chg0 {w w' : World} (hg : w.drew.grownBy w' none) : Chg [] w w' := ⟨hg.os, hg.tape, hg.output, hg.size, fun k hk _ => hg.block k hk (by simp)⟩
set_option maxRecDepth 100000 in
set_option maxHeartbeats 2000000 in
theorem keep_any (gb off : Nat) (t : TypeId) (cs : List Value) (S : List Nat) (A : Option Addr) (n c : Nat) (bs : List Nat) (w : World) (hb : Bk w gb off t cs S) (ho : Own w 0 A n c bs) (hn : n ≤ 70368744177664)
    (hf : ∀ k, (Value.slice A n c).ownBlock = some k → k ∉ S ∧ k ≠ gb) :
    Calls Try.prog 12 #[.pointer (some ⟨gb, off, none⟩), .slice A n c] w fun e w' => e = .returned (.tuple #[]) ∧
      ∃ cs' S', Bk w' gb off t cs' S' ∧ Chg (gb :: S) w w' ∧ (∀ k ∈ S', k ∈ S ∨ w.heap.size ≤ k ∨ (Value.slice A n c).ownBlock = some k) ∧ ∀ i, (i < off ∨ off + 4 ≤ i) → cs'[i]? = cs[i]? := by
  obtain ⟨i0, hi0, hz1, hz2, hz3⟩ := info_parts info5w
  have HI := Lib.hid hi0; have HZ1 := Lib.hid hz1; have HZ2 := Lib.hid hz2; have HZ3 := Lib.hid hz3
  obtain ⟨i1, hi1, hy1, hy2, hy3⟩ := info_parts info22
  have HJ := Lib.hid hi1; have HY1 := Lib.hid hy1; have HY2 := Lib.hid hy2; have HY3 := Lib.hid hy3
  obtain ⟨hrow, ⟨ht1, ht2⟩, hnot, xs, L, M, held, SL, SM, e0, e1, e2, e3, hfew, hk⟩ := hb
  have c0 := (hrow.cell off).trans e0
  have c1 := (hrow.cell (off + 1)).trans e1
  have c2 := (hrow.cell (off + 2)).trans e2
  have c3 := (hrow.cell (off + 3)).trans e3
  have f0 := hrow.frozen off
  have f1 := hrow.frozen (off + 1)
  have f2 := hrow.frozen (off + 2)
  have f3 := hrow.frozen (off + 3)
  have hlt := hrow.lt
  have HROW := Lib.hid hrow; have HK := Lib.hid hk; have HO := Lib.hid ho; have HF := Lib.hid hf; have HNOT := Lib.hid hnot; have HT1 := Lib.hid ht1; have HT2 := Lib.hid ht2
  have E0 := Lib.hid e0; have E1 := Lib.hid e1; have E2 := Lib.hid e2; have E3 := Lib.hid e3
  clear hi0 hz1 hz2 hz3 hi1 hy1 hy2 hy3 hrow hk ho hf hnot ht1 ht2 e0 e1 e2 e3
  go_enter Try.func12, Try.ntmps12
  go_upto_region 1 with (at_builtin; refine wpList_append_tl _ (by rfl) (.tmp 8) (.tmp 10) 28 rfl 25 i1 _ 24 Try.underlying28 HJ.out HY1.out HY2.out HY3.out rfl L xs.length (xs.map Itm.v) SL rfl (HK.out.lists.chg ((Chg.refl [] w).alloc _) (by simp)) ⟨w.heap.size, 0, none⟩ 1 (.slice A n c) rfl ((Row.new w 25 [.slice A n c]).cell 0) rfl (by unfold maxLen; omega) (by omega) ?_; intro A1 c1' S1 w1 HL1 HC1 HS1; have hk1 := keep1 (off := off) HK.out HROW.out HT1.out HT2.out HNOT.out HO.out _ HL1.out HC1.out HS1.out; have d0 := (hk1.1.cell off).trans E0.out; have d1 := hk1.1.frozen off; have HK1 := Lib.hid hk1.2; clear hk1)
  obtain ⟨w2, hw2⟩ : ∃ w2, w2 = w1.setCell ⟨gb, off, none⟩ (.slice A1 (xs.length + 1) c1') := ⟨_, rfl⟩
  rw [← hw2] at HK1 ⊢
  have hrow2 := HK1.out.row
  have g1 : w2.cell? ⟨gb, off + 1, none⟩ = some M := by rw [hrow2.cell, List.getElem?_set_ne (by omega)]; exact E1.out
  have hlt2 := hrow2.lt
  have HROW2 := Lib.hid hrow2
  have HOWN2 := Lib.hid HK1.out.own
  clear hw2 d0 d1 hrow2 c0 c1 c2 c3 f0 f1 f2 f3
  go_cut [] (fun wx => Hid (KeepInv w gb off t cs S (Value.slice A n c).ownBlock 4001 wx))
  case first =>
    first | go_region_law (first
      | (refine step_append_sl _ (by rfl) (.const (.slice none 0 0)) (.tmp 19) 25 (by rfl) 0 5 i0 _ 1 1 Try.underlying25 HI.out HZ1.out HZ2.out HZ3.out rfl (by omega) (.slice none 0 0) 0 [] (by simp [Act.eval, Act.put]) (World.ownsRow_nil _ _ _ _) w2.heap.size A n c (bs.map u8) (by simp [Act.eval, Act.put]) (Reads.drew (Reads.of_own HOWN2.out.1)) (one_u8w bs) (by unfold maxLen; omega) (by omega) (Nat.zero_le _) ?_; intro A2 c2' w3 hown3 hg3 hat3; simp only [Nat.zero_add, List.nil_append] at hown3 hat3; have HO3 := Lib.hid hown3; have HG3 := Lib.hid hg3; have HAT3 := Lib.hid hat3; have hr3 := row_grown HROW2.out.drew hg3 (by simp [Value.ownBlock]); have HR3 := Lib.hid hr3; have j1 : w3.cell? ⟨gb, off + 1, none⟩ = some M := (by rw [hr3.cell, List.getElem?_set_ne (by omega)]; exact E1.out); have hl3 := hr3.lt; clear hown3 hg3 hat3 hr3)
      | (refine step_append_tl _ (by rfl) (.tmp 18) (.tmp 21) 28 (by rfl) 25 i1 _ 24 Try.underlying28 HJ.out HY1.out HY2.out HY3.out rfl M xs.length (xs.map Itm.u) SM (by simp [Act.eval, Act.put]) ((HK1.out.was.chg (grown_chg0 HG3.out) (by simp)).chg ((Chg.refl [] w3).alloc _) (by simp)) ⟨w3.heap.size, 0, none⟩ 1 (.slice A2 n c2') (by simp [Act.eval, Act.put]) ((Row.new w3 25 [.slice A2 n c2']).cell 0) rfl (by unfold maxLen; omega) (by omega) ?_; intro A3 c3' S4 w4 HL4 HC4 HS4; have hk2 := keep2 (N := 4001) HK.out HROW.out HT1.out HT2.out HNOT.out HF.out E0.out E1.out E2.out E3.out HK1.out HO3.out HG3.out HAT3.out _ HL4.out HC4.out HS4.out (by omega); have HK2 := Lib.hid hk2.2; have hr4 := hk2.1; have d0 : w4.cell? ⟨gb, off + 1, none⟩ = some M := (by rw [hr4.cell, List.getElem?_set_ne (by omega)]; exact E1.out); have d1 := hr4.frozen (off + 1); clear hk2 hr4)) | fail
    all_goals
      go_wp2_with fail
      go_meet
      case rel => exact HK2
  case rest =>
    clear HK HL1 HC1 HS1 HK1 g1 hlt2 HROW2 HOWN2 E0 E1 E2 E3 HROW
    obtain ⟨ys, L2, M2, held2, SL2, SM2, cs2, S2, hks, hys⟩ := hcut.out
    have c0 := (hks.row.cell off).trans hks.e0
    have c2 := (hks.row.cell (off + 2)).trans hks.e2
    have f2 := hks.row.frozen (off + 2)
    have hltc := hks.row.lt
    have HKS := Lib.hid hks
    clear hks hcut
    go_wp2_with fail
    have HI0 : Hid (KeepInv w gb off t cs S (Value.slice A n c).ownBlock 4001 (wc.setCell ⟨gb, off + 2, none⟩ (.int .i64 (wrap64 (wrap64 (held2 + (c : Int)) + 1))))) := Lib.hid ⟨ys, L2, M2, _, SL2, SM2, _, S2, HKS.out.holds _, hys⟩
    clear HKS c0 c2 f2 hltc
    go_loopg [] 4001 (fun k wr => Hid (KeepInv w gb off t cs S (Value.slice A n c).ownBlock k wr))
    case atStart => exact HI0
    case round =>
      clear HI0
      obtain ⟨zs, L3, M3, held3, SL3, SM3, cs3, S3, hks, hz⟩ := hrel.out
      obtain ⟨m, hm⟩ : ∃ m, m = zs.length := ⟨_, rfl⟩
      have c0 := (hks.row.cell off).trans hks.e0
      have c1 := (hks.row.cell (off + 1)).trans hks.e1
      have c2 := (hks.row.cell (off + 2)).trans hks.e2
      have c3 := (hks.row.cell (off + 3)).trans hks.e3
      have f0 := hks.row.frozen off
      have f1 := hks.row.frozen (off + 1)
      have f2 := hks.row.frozen (off + 2)
      have f3 := hks.row.frozen (off + 3)
      have hltc := hks.row.lt
      by_cases hgo : 1 < m ∧ (1000000 < held3 ∨ 4000 < m)
      · obtain ⟨hm1, hor⟩ := hgo
        obtain ⟨g, o, d, g', o', d', rfl, rfl, hd1, hd2, hd3, hd4, hgs, hgs', hg, hg', hcl, hcl'⟩ := hks.kept.slots (by omega)
        obtain ⟨z, hz0⟩ : ∃ z, zs[0]? = some z := ⟨_, List.getElem?_eq_getElem (show 0 < zs.length by omega)⟩
        have hin := hks.kept.it z (List.mem_of_getElem? hz0)
        have l0 := hcl 0 (by omega)
        have l0' := hcl' 0 (by omega)
        rw [List.getElem?_map, hz0] at l0 l0'
        simp only [Nat.add_zero, Option.map_some, Itm.v, Itm.u] at l0 l0'
        rw [← hm] at c0 c1 hks hd1 hd2 hz
        have hgb : ¬ (g = gb) := fun h => hks.notin (by rw [← h]; exact hks.kept.sl _ hgs)
        have hgb' : ¬ (g' = gb) := fun h => hks.notin (by rw [← h]; exact hks.kept.sm _ hgs')
        clear hgs hgs'
        have HKS := Lib.hid hks
        have HIN := Lib.hid hin
        have HM := Lib.hid hm
        have HZ0 := Lib.hid hz0
        clear hks hin hcl hcl' hz0 hrel hm
        have e1 : decide ((1 : Int) < (m : Int)) = true := decide_eq_true (by omega)
        have key : decide ((1000000 : Int) < held3) = true ∨ (decide ((1000000 : Int) < held3) = false ∧ decide ((4000 : Int) < (m : Int)) = true) := by
          by_cases h : 1000000 < held3
          · exact .inl (by simpa using h)
          · exact .inr ⟨by simpa using h, decide_eq_true (by omega)⟩
        clear hor
        have KEEP : ∀ w' : World, (w'.cell? ⟨gb, off + 3, none⟩ = some (.bool false) ∧ w'.cell? ⟨gb, off, none⟩ = some (.slice (some ⟨g, o, none⟩) m d) ∧ w'.cell? ⟨gb, off + 1, none⟩ = some (.slice (some ⟨g', o', none⟩) m d') ∧ w'.cell? ⟨g, o, none⟩ = some (.slice z.A z.n z.c) ∧ w'.cell? ⟨g', o', none⟩ = some (.slice z.B z.n z.d)) →
            ((w'.setCell ⟨gb, off + 3, none⟩ (.bool false)).cell? ⟨gb, off + 3, none⟩ = some (.bool false) ∧ (w'.setCell ⟨gb, off + 3, none⟩ (.bool false)).cell? ⟨gb, off, none⟩ = some (.slice (some ⟨g, o, none⟩) m d) ∧ (w'.setCell ⟨gb, off + 3, none⟩ (.bool false)).cell? ⟨gb, off + 1, none⟩ = some (.slice (some ⟨g', o', none⟩) m d') ∧ (w'.setCell ⟨gb, off + 3, none⟩ (.bool false)).cell? ⟨g, o, none⟩ = some (.slice z.A z.n z.c) ∧ (w'.setCell ⟨gb, off + 3, none⟩ (.bool false)).cell? ⟨g', o', none⟩ = some (.slice z.B z.n z.d)) := by
          rintro w' ⟨a0, a1, a2, a3, a4⟩
          exact ⟨World.cell?_setCell_same' _ _ _ (by rw [a0]; rfl), (World.cell?_setCell_other _ _ _ _ (by simp)).trans a1, (World.cell?_setCell_other _ _ _ _ (by simp)).trans a2, (World.cell?_setCell_other _ _ _ _ (by simp [hgb, Ne.symm hgb])).trans a3, (World.cell?_setCell_other _ _ _ _ (by simp [hgb', Ne.symm hgb'])).trans a4⟩
        have KEEP := Lib.hid KEEP
        have h0i : (0 : Int) < (m : Int) := by omega
        have h0n : 0 < m := by omega
        go_upto_region 3 with fail
        go_cut [56] (fun v wx => v = .bool true ∧ wr = wx)
        case first =>
          rcases key with k1 | ⟨k1, k2⟩
          all_goals
            go_wp2_with fail
            go_meet
            case rel => exact ⟨rfl, rfl⟩
        case rest =>
          obtain ⟨rfl, rfl⟩ := hcut
          clear key e1
          go_upto_region 4 with fail
          go_cut [] (fun wx => Hid (∃ cs4, KS w gb off t cs S (Value.slice A n c).ownBlock wx (.slice (some ⟨g, o, none⟩) m d) (.slice (some ⟨g', o', none⟩) m d') held3 zs SL3 SM3 cs4 S3))
          case first =>
            go_region_held3 (fun w' => w'.cell? ⟨gb, off + 3, none⟩ = some (.bool false) ∧ w'.cell? ⟨gb, off, none⟩ = some (.slice (some ⟨g, o, none⟩) m d) ∧ w'.cell? ⟨gb, off + 1, none⟩ = some (.slice (some ⟨g', o', none⟩) m d') ∧ w'.cell? ⟨g, o, none⟩ = some (.slice z.A z.n z.c) ∧ w'.cell? ⟨g', o', none⟩ = some (.slice z.B z.n z.d))
              (first | exact ⟨c3, c0, c1, l0, l0'⟩ | exact KEEP.out _ (by assumption))
              (first | (go_at_call 11; refine (same_yes z.A z.B z.n z.c z.d z.bs wr.drew (HIN.out.own.isB.below (Below.refl _ _).drew) (HIN.out.copy.isB.below (Below.refl _ _).drew)).mono ?_; rintro e w' ⟨rfl, mm, rfl⟩))
            all_goals
              go_wp2_with fail
              go_meet
              case rel => exact Lib.hid ⟨_, (HKS.out.drewN _).bad⟩
          case rest =>
            clear KEEP c0 c1 c2 c3 f0 f1 f2 f3 l0 l0' hltc HKS HIN
            obtain ⟨cs4, hks⟩ := hcut.out
            have c0 := (hks.row.cell off).trans hks.e0
            have c1 := (hks.row.cell (off + 1)).trans hks.e1
            have c2 := (hks.row.cell (off + 2)).trans hks.e2
            have f0 := hks.row.frozen off
            have f1 := hks.row.frozen (off + 1)
            have f2 := hks.row.frozen (off + 2)
            have hltc := hks.row.lt
            obtain ⟨g2, o2, d2, g2', o2', d2', q1, q2, _, _, _, _, _, _, _, _, hcl, _⟩ := hks.kept.slots (by have := HM.out; omega)
            injection q1 with q1 qm q1'
            injection q1 with q1
            injection q1 with q1 q1''
            clear qm
            subst q1 q1' q1''
            have l0 := hcl 0 (by have := HM.out; omega)
            rw [List.getElem?_map, HZ0.out] at l0
            simp only [Nat.add_zero, Option.map_some, Itm.v] at l0
            have HKS := Lib.hid hks
            clear hks hcl q2
            go_upto_region 5 with fail
            go_cut [] (fun wx => Hid (∃ x cs5, KS w gb off t cs S (Value.slice A n c).ownBlock wx (.slice (some ⟨g, o, none⟩) m d) (.slice (some ⟨g', o', none⟩) m d') x zs SL3 SM3 cs5 S3))
            case first =>
              first | go_region_law (fail) | fail
              all_goals
                go_wp2_with fail
                go_meet
                case rel => first | exact Lib.hid ⟨_, _, (HKS.out.holds _).drew⟩ | exact Lib.hid ⟨_, _, HKS.out.drew.holds _⟩
            case rest =>
              clear c0 c1 c2 f0 f1 f2 l0 hltc HKS
              obtain ⟨x, cs5, hks⟩ := hcut.out
              clear hcut
              have c0 := (hks.row.cell off).trans hks.e0
              have c1 := (hks.row.cell (off + 1)).trans hks.e1
              have f0 := hks.row.frozen off
              have f1 := hks.row.frozen (off + 1)
              have hltc := hks.row.lt
              have HKS := Lib.hid hks
              have hd1' : ¬ (d = 1) := by omega
              have hd2' : ¬ (d' = 1) := by omega
              clear hks
              go_wp2_with fail
              go_roundg (gk - 1)
              case measure => omega
              case rel => exact Lib.hid ⟨_, _, _, _, _, _, _, _, HKS.out.tail hm1, by have := HM.out; simp; omega⟩
      · have HHM : Hid (zs.length ≤ 4000) := Lib.hid (by omega)
        obtain ⟨A9, d9, A9', d9', rfl, rfl⟩ := hks.kept.slices
        rw [← hm] at c0 c1 hks
        have HKS := Lib.hid hks
        clear hks hrel hz hm
        by_cases hm1 : 1 < m
        · have e1 : decide ((1 : Int) < (m : Int)) = true := decide_eq_true (by omega)
          have e2 : decide ((1000000 : Int) < held3) = false := decide_eq_false (fun h => hgo ⟨hm1, .inl h⟩)
          have e3 : decide ((4000 : Int) < (m : Int)) = false := decide_eq_false (fun h => hgo ⟨hm1, .inr (by omega)⟩)
          clear hgo
          go_wp2_with fail
          go_end0
          refine ⟨rfl, _, _, HKS.out.book ⟨HT1.out, HT2.out⟩ HHM.out, HKS.out.chg, HKS.out.news, HKS.out.oth⟩
        · have e1 : decide ((1 : Int) < (m : Int)) = false := decide_eq_false (by omega)
          clear hgo
          go_wp2_with fail
          go_end0
          refine ⟨rfl, _, _, HKS.out.book ⟨HT1.out, HT2.out⟩ HHM.out, HKS.out.chg, HKS.out.news, HKS.out.oth⟩
end Go.Proofs.Ytblfagmoilhdnaa
