/- The walk of the shelf's opens. -/
import Derived.Test.YtajkiglogfahfaaSNew
import Derived.Deep.Cut
import Derived.Deep.DeepCutAuto
set_option linter.unusedVariables false
set_option linter.unusedSimpArgs false
namespace Go.Proofs.Ytajkiglogfahfaa
open Go.RowKit

theorem info65 : (Try.prog.info? 65).map (fun i => (i.zero, i.size, i.bytes)) = some (some (.pointer none), 1, 8) := by kernel_rfl
theorem info78 : (Try.prog.info? 78).map (fun i => (i.zero, i.size, i.bytes)) = some (some (.pointer none), 1, 8) := by kernel_rfl
theorem box_at2 (w : World) (p : Addr) (L v : Value) {t t' : TypeId} {cs : Array Value} : (((w.setCell p L).drew.alloc (.cells cs t')).alloc (.cells #[v] t)).cell? ⟨w.heap.size + 1, 0, none⟩ = some v := by
  have h := (Row.new ((w.setCell p L).drew.alloc (.cells cs t')) t [v]).cell 0
  have e : ((w.setCell p L).drew.alloc (.cells cs t')).heap.size = w.heap.size + 1 := by simp [World.setCell]
  rw [e] at h
  exact h
def u8i (z : Int) : Value := .int .u8 z
theorem room_ints {w : World} {g n : Nat} {bs : List Nat} (h : Row w g 5 (fillM (bs.map u8) (u8 165) 80)) (hl : bs.length = n) : ∃ l : List Int, l.length = n + 80 ∧ Row w g 5 (l.map u8i) := by
  obtain ⟨k, hk⟩ : ∃ k, k = 80 := ⟨_, rfl⟩
  rw [fillM_end, ← hk] at h
  rw [← hk]
  refine ⟨(bs ++ List.replicate k 165).map (fun x : Nat => (x : Int)), by simp [hl], ?_⟩
  rw [List.map_map, List.map_append, List.map_replicate]
  exact h
theorem set_ints {w : World} {g n : Nat} {l : List Int} (h1 : l.length = n) (h2 : Row w g 5 (l.map u8i)) (j : Nat) (z : Int) : ∃ l' : List Int, l'.length = n ∧ Row (w.setCell ⟨g, j, none⟩ (.int .u8 z)) g 5 (l'.map u8i) :=
  ⟨l.set j z, by rw [List.length_set]; exact h1, by rw [List.map_set]; exact h2.set_ j (u8i z)⟩
set_option maxRecDepth 100000 in
set_option maxHeartbeats 4000000 in
theorem opens_any (B gx n c : Nat) (A : Option Addr) (bs : List Nat) (es : List Sn) (cs : List Value) (L M : Value) (SL SM S : List Nat) (w : World) (h : Shf w B gx A n c bs es cs L M SL SM S) (hB : B ≤ w.heap.size) (hi : es.length ≤ 1000000) (hn : n ≤ 70368744177664) :
    Calls Try.prog 43 #[.pointer (some ⟨gx, 0, none⟩)] w fun e w' => e = .returned (.bool true) ∧ (∃ cs' L' M' SL' SM' gr rr gv, Shf w' B gx A n c bs (es ++ [⟨gr, rr, gv, ⟨bs, 0, 0⟩⟩]) cs' L' M' SL' SM' S) ∧ Below B w w' := by
  obtain ⟨i1, hi1, hy1, hy2, hy3⟩ := info_parts info65
  have HJ := Lib.hid hi1; have HY1 := Lib.hid hy1; have HY2 := Lib.hid hy2; have HY3 := Lib.hid hy3
  obtain ⟨i2, hi2, hz1, hz2, hz3⟩ := info_parts info78
  have HK := Lib.hid hi2; have HZ1 := Lib.hid hz1; have HZ2 := Lib.hid hz2; have HZ3 := Lib.hid hz3
  have HR := Lib.hid h
  obtain ⟨c0, c1, c2, f1, f2, hgx⟩ := h.cells
  have HRM := Lib.hid (roomy_any A n c bs 165 w (h.ib.1.more hB) (by omega))
  obtain ⟨gF, hgF⟩ : ∃ gF, gF = w.heap.size := ⟨_, rfl⟩
  rw [← hgF] at HRM
  have HGF := Lib.hid hgF
  have HIB := Lib.hid h.ib
  clear h hi1 hy1 hy2 hy3 hi2 hz1 hz2 hz3 hgF
  go_enter Try.func43, Try.ntmps43
  go_wp2_with fail
  refine HRM.out.mono ?_
  rintro e w1 ⟨rfl, hrowF, hb1⟩
  have hb1 : Below w.heap.size w w1 := by rw [← HGF.out]; exact hb1
  obtain ⟨c0', _, _, _, _, hgx'⟩ := (HR.out.below hb1 hB).cells
  have hFB := room_isB (B := w1.heap.size) hrowF HIB.out.1.len HIB.out.1.2.1 hrowF.lt (by omega)
  have HNR := Lib.hid (newreader_any (some ⟨gF, 0, none⟩) n (n + 80) bs w1 hFB (by omega) (by simp))
  have hgF1 : gF < w1.heap.size := hrowF.lt
  have HROWF := Lib.hid hrowF; have HB1 := Lib.hid hb1
  have hpn : n ≤ n + 80 := by omega
  clear hrowF hb1 hFB c0 c1 c2 f1 f2
  go_wp2_with fail
  refine HNR.out.mono ?_
  rintro e w2 ⟨⟨gr, rr, rfl, hgr, hrr, hrd⟩, hb2⟩
  have hb2' : Below w.heap.size w w2 := HB1.out.trans (hb2.mono HB1.out.size)
  have hrow2 : Row w2 gF 5 (fillM (bs.map u8) (u8 165) 80) := HROWF.out.below hb2 hgF1
  obtain ⟨c0'', _, _, _, _, hgx''⟩ := (HR.out.below hb2' hB).cells
  have HINT := Lib.hid (intact_yes A n c gF bs 165 w2 ((HR.out.below hb2' hB).ib.1.more (by have := hb2'.size; omega)) hrow2 (by omega))
  have HRD := Lib.hid hrd; have HB2 := Lib.hid hb2'; have HROW2 := Lib.hid hrow2
  have hs2 := hb2.size
  have HRR := Lib.hid hrr
  clear hrd hb2 hb2' hrow2 hrr c0'
  go_wp2_with fail
  refine HINT.out.mono ?_
  rintro e w3 ⟨rfl, k3, rfl⟩
  have HI4 : Hid (∃ l : List Int, l.length = n + 80 ∧ Row (w2.drewN k3) gF 5 (l.map u8i)) := Lib.hid (room_ints (HROW2.out.drewN k3) HIB.out.1.len)
  have HC4 : Hid (Chg [gF] w2 (w2.drewN k3)) := Lib.hid ((Chg.refl _ _).drewN k3)
  clear c0''
  go_wp2_with fail
  go_loopw [6] (fun i wr => ∃ j : Nat, j ≤ n + 80 ∧ i = .int .i64 j ∧ Hid (∃ l : List Int, l.length = n + 80 ∧ Row wr gF 5 (l.map u8i)) ∧ Hid (Chg [gF] w2 wr)) (fun i _ => n + 80 - (intOf i).toNat)
  case atStart => exact ⟨0, by omega, rfl, HI4, HC4⟩
  case round =>
    clear HI4 HC4
    obtain ⟨j, hj, rfl, HL, HC⟩ := hrel
    by_cases hjn : j < n + 80
    · obtain ⟨l, hl1, hl2⟩ := HL.out
      have hlc := hl2.cell j
      rw [List.getElem?_map, List.getElem?_eq_getElem (show j < l.length by omega)] at hlc
      obtain ⟨x, hx⟩ : ∃ x, x = l[j]'(by omega) := ⟨_, rfl⟩
      rw [← hx] at hlc
      simp only [Option.map_some, u8i] at hlc
      have hlf := hl2.frozen j
      have hll := hl2.lt
      have hjj : (j : Int) < (n : Int) + 80 := by omega
      have HL1 := Lib.hid hl1; have HL2 := Lib.hid hl2
      clear hx hl1 hl2
      go_wp2_with fail
      go_roundw
      case rel => exact ⟨j + 1, by omega, by go_num, Lib.hid (set_ints HL1.out HL2.out j _), Lib.hid (HC.out.set_ (p := ⟨gF, j, none⟩) (.inl (by simp)) _)⟩
      case measure => simp [intOf]; omega
    · have hbA : Below w.heap.size w wr := below_chg HB2.out (Nat.le_refl _) HC.out (by simp; have := HGF.out; omega)
      have hrdA : Rd wr gr rr ⟨bs, 0, 0⟩ := HRD.out.chg HC.out (by simp; omega) (fun k hk => by have := HRR.out k hk; simp; omega)
      have hrA := HR.out.below hbA hB
      obtain ⟨c0, c1, c2, f1, f2, hgx3⟩ := hrA.cells
      have HBA := Lib.hid hbA; have HRDA := Lib.hid hrdA; have HR1 := Lib.hid hrA
      have hszA := hbA.size
      have hgrw : w.heap.size ≤ gr := by have := HGF.out; omega
      have HRRW : Hid (∀ k, rr = some k → w.heap.size ≤ k) := Lib.hid fun k hk => by have := HRR.out k hk; have := HB1.out.size; omega
      clear hbA hrdA hrA
      go_upto_region 9 with (at_builtin; refine wpList_append_tl _ (by rfl) (.tmp 48) (.tmp 50) 72 rfl 65 i1 _ 8 Try.underlying72 HJ.out HY1.out HY2.out HY3.out rfl L es.length (es.map Sn.pr) SL rfl (HR1.out.rs.chg ((Chg.refl [] wr).alloc _) (by simp)) ⟨wr.heap.size, 0, none⟩ 1 (.pointer (some ⟨gr, 0, none⟩)) rfl ((Row.new wr 65 [.pointer (some ⟨gr, 0, none⟩)]).cell 0) rfl (by unfold maxLen; omega) (by omega) ?_; intro A1 c1' S1 w4 HL1 HC1 HS1; have hwn := snew1 HR1.out _ HL1.out HC1.out; have HCW := Lib.hid hwn.2; have HRW := Lib.hid hwn.1; have d0 : w4.cell? ⟨gx, 0, none⟩ = some (.slice A n c) := (hwn.1.cell 0).trans HR1.out.c0; have d1 : w4.cell? ⟨gx, 1, none⟩ = some L := (hwn.1.cell 1).trans HR1.out.c1; have d2 : w4.cell? ⟨gx, 2, none⟩ = some M := (hwn.1.cell 2).trans HR1.out.c2; have d3 := hwn.1.frozen 1; have d4 := hwn.1.lt; clear hwn c0 c1 c2)
      have hx9 : Hid (4 ≤ cs.length) := Lib.hid (by
        obtain ⟨xs, L', M', held, SL', SM', _, _, _, q3, _⟩ := HR1.out.bk.rest
        have := (List.getElem?_eq_some_iff.1 q3).1; omega)
      go_cut [] (fun wx => Hid ((∃ cs' L' M' SL' SM' gr rr gv, Shf wx B gx A n c bs (es ++ [⟨gr, rr, gv, ⟨bs, 0, 0⟩⟩]) cs' L' M' SL' SM' S) ∧ Below B w wx))
      case first =>
        first | go_region_law (first
          | (refine step_append_tl _ (by rfl) (.tmp 58) (.tmp 65) 73 (by rfl) 78 i2 _ 8 Try.underlying73 HK.out HZ1.out HZ2.out HZ3.out rfl M es.length (es.map Sn.pv) SM (by simp [Act.eval, Act.put]) (snew_is HR1.out HCW.out _ _) ⟨w4.heap.size + 1, 0, none⟩ 1 (.pointer (some ⟨w4.heap.size, 0, none⟩)) (by simp [Act.eval, Act.put, World.setCell]) (box_at2 _ _ _ _) rfl (by unfold maxLen; omega) (by omega) ?_; intro A2 c2' S2 w6 HL2 HC2 HS2; have hwm := snew2 HR.out HBA.out hB hgrw HRRW.out HRDA.out _ _ HL1.out HC1.out HS1.out HL2.out HC2.out HS2.out; have HWM := Lib.hid hwm.2; have hlw := hwm.1.lt; have d5 : w6.cell? ⟨gx, 2, none⟩ = some M := (by rw [hwm.1.cell, List.getElem?_set_ne (by omega)]; exact HR1.out.c2); have d6 := hwm.1.frozen 2; clear hwm)) | fail
        all_goals
          go_wp2_with fail
          go_meet
          case rel => exact Lib.hid ⟨⟨_, _, _, _, _, _, _, _, HWM.out.1⟩, HWM.out.2⟩
      case rest =>
        go_wp2_with fail
        go_ret
        exact ⟨rfl, hcut.out.1, hcut.out.2⟩
end Go.Proofs.Ytajkiglogfahfaa
