/- A table's bytes and back: pages.Bytes, pages.Read. -/
import Derived.Test.YtblfagmoilhdnaaWriterB
import Derived.Test.YtblfagmoilhdnaaGet
import Derived.Deep.MidRow
import Derived.Deep.WholeRow
import Derived.ChangeKeysEq
import Derived.Deep.Cut
import Derived.Deep.DeepCutAuto
set_option linter.unusedVariables false
set_option linter.unusedSimpArgs false
namespace Go.Proofs.Ytblfagmoilhdnaa
open Go.RowKit

def u64v (x : Nat) : Value := .int .u64 (x : Int)
def tabV (t : List Nat) : Value := .agg (t.map u64v).toArray
def tbs (t : List Nat) : List Nat := t.flatMap (Wd.le 8)
theorem tbs_len (t : List Nat) : (tbs t).length = 8 * t.length := by
  induction t with
  | nil => rfl
  | cons x r ih => simp only [tbs, List.flatMap_cons, List.length_append, Wd.le_len, List.length_cons] at ih ⊢; omega
theorem tbs_snoc (t : List Nat) (k : Nat) (h : k < t.length) : tbs (t.take (k + 1)) = tbs (t.take k) ++ Wd.le 8 (t.getD k 0) := by
  rw [take_snoc t k h]
  simp [tbs]
theorem tbs_lt (t : List Nat) : ∀ b ∈ tbs t, b < 256 := by
  intro b hb
  simp only [tbs, List.mem_flatMap] at hb
  obtain ⟨x, _, hb⟩ := hb
  exact Wd.le_lt 8 x b hb
theorem tab_range {w : World} {g : Nat} {ty : TypeId} {t : List Nat} (h : Row w g ty (t.map u64v)) : w.rangeAt g 0 (t.map u64v) := fun j v hv => by
  rw [Nat.zero_add, h.cell, hv]
theorem run_index_plain {P : Program} {t e : TypeId} {n : Nat} (V : List Value) (k : Nat) (v : Value) (w : World) (hu : P.underlying t = some (.array n e)) (he : P.plainKey e = true) (hs : (P.info? e).map (·.size) = some 1) (hk : k < n) (hv : V[k]? = some v) :
    (Instr.index t (.agg V.toArray) (.int .i64 (k : Int))).run P w = .ok v w := by
  obtain ⟨i, hi, hi1⟩ : ∃ i, P.info? e = some i ∧ i.size = 1 := by
    cases h : P.info? e with
    | none => simp [h] at hs
    | some i => exact ⟨i, rfl, by simpa [h] using hs⟩
  have hp := run_part_plain (P := P) (w := w) he (xs := V.toArray) (off := k) (v := v) (by simpa using hv)
  have h1 : (0 : Int) ≤ (k : Int) ∧ (k : Int) < (n : Int) := by omega
  simp [part, sizeOf, typeInfo, hi, hi1, Sem.run_bind, go_sem] at hp
  simp [Instr.index, run_underlying hu, asIntOf, h1, sizeOf, typeInfo, hi, hi1, Sem.run_bind, hk, hp, go_sem]
theorem infoTab : (Try.prog.info? 24).map (·.size) = some 512 := by kernel_rfl
set_option maxRecDepth 100000 in
set_option maxHeartbeats 1000000 in
theorem pbytes_any (t : List Nat) (ht : t.length = 512) (hx : ∀ x ∈ t, x < 18446744073709551616) (w : World) :
    Calls Try.prog 10 #[tabV t] w fun e w' => (∃ A' c', e = .returned (.slice A' 4096 c') ∧ Own w' w.heap.size A' 4096 c' (tbs t)) ∧ Below w.heap.size w w' := by
  unfold tabV
  obtain ⟨V, hv⟩ : ∃ V, V = t.map u64v := ⟨_, rfl⟩
  rw [← hv]
  have HV := Lib.hid hv
  have HX := Lib.hid hx
  have hvl : (Try.prog.info? 24).map (·.size) = some V.length := by rw [hv, List.length_map, ht]; exact infoTab
  have HVL := Lib.hid hvl
  have HT := Lib.hid ht
  clear hv hvl hx ht
  go_enter Try.func10, Try.ntmps10
  go_wp2_with fail
  refine (newwriter_any _).mono ?_
  rintro e w1 ⟨rfl, hw, hb⟩
  have hsz : (w.alloc (.cells V.toArray 24)).heap.size = w.heap.size + 1 := by simp
  rw [hsz] at hw hb
  have HW := Lib.hid hw
  have HR := Lib.hid ((Row.new w 24 V).below hb (by omega))
  have HB := Lib.hid (((Below.refl w.heap.size w).alloc (Nat.le_refl _) (.cells V.toArray 24)).trans (hb.mono (by omega)))
  clear hw hb hsz
  go_upto_region 2 with fail
  go_wp2_with (refine wpList_load_mid rfl _ _ rfl _ _ (by rfl) V (.array 512 22) (fun j v hv => by rw [Nat.zero_add, HR.out.cell, hv]) Try.underlying24 rfl HVL.out ?_)
  clear HR
  go_loopw [8] (fun i wr => ∃ k r, k ≤ 512 ∧ i = .int .i64 (k : Nat) ∧ Hid (Wr wr (w.heap.size + 1) r ⟨tbs (t.take k), 0⟩) ∧ Hid (∀ x ∈ r.toList, w.heap.size ≤ x) ∧ Hid (Below w.heap.size w wr)) (fun i _ => 512 - (intOf i).toNat)
  case atStart => exact ⟨0, none, by omega, rfl, HW, Lib.hid (by simp), HB⟩
  case round =>
    clear HW HB
    obtain ⟨k, r, hk, rfl, HW, HO, HB⟩ := hrel
    by_cases hk2 : k < 512
    · have e1 : decide ((k : Int) < 512) = true := decide_eq_true (by omega)
      have e2 : V[k]? = some (.int .u64 (t.getD k 0 : Nat)) := by rw [HV.out, List.getElem?_map, List.getElem?_eq_getElem (by rw [HT.out]; omega), List.getD_eq_getElem?_getD, List.getElem?_eq_getElem (by rw [HT.out]; omega)]; rfl
      obtain ⟨x, hx⟩ : ∃ x, x = t.getD k 0 := ⟨_, rfl⟩
      rw [← hx] at e2
      have HC := Lib.hid (wuint64_any (w.heap.size + 1) r ⟨tbs (t.take k), 0⟩ x wr HW.out (by rw [hx]; exact HX.out _ (getD_mem _ _ (by rw [HT.out]; omega))) (by simp only [tbs_len, List.length_take]; omega))
      have HXX := Lib.hid hx
      have hidx := run_index_plain (P := Try.prog) V k _ wr Try.underlying24 (by kernel_rfl) (by kernel_rfl) hk2 e2
      clear hx
      go_wp2_with fail
      refine HC.out.mono ?_
      rintro e w2 ⟨rfl, r', hw, hch, hmv⟩
      have HW2 : Hid (Wr w2 (w.heap.size + 1) r' ⟨tbs (t.take (k + 1)), 0⟩) := Lib.hid (by
        have e0 : (Wd.W.lay ⟨tbs (t.take k), 0⟩ (Wd.le 8 x)) = ⟨tbs (t.take (k + 1)), 0⟩ := by
          rw [tbs_snoc t k (by rw [HT.out]; omega), HXX.out]; simp [Wd.W.lay]
        rw [← e0]; exact hw)
      have HO2 := Lib.hid (moved_ge hmv HO.out HB.out.size)
      have HB2 := Lib.hid (below_chg HB.out (Nat.le_refl _) hch (fun y hy => by
        rcases List.mem_cons.1 hy with rfl | hy
        · omega
        · exact HO.out y hy))
      clear hw hch hmv HC HW HO HB e2 hidx HXX
      go_wp2_with fail
      go_roundw
      case rel => exact ⟨k + 1, r', by omega, by go_num, HW2, HO2, HB2⟩
      case measure => simp [intOf]; omega
    · obtain rfl : k = 512 := by omega
      have HA := Lib.hid (wall_any (w.heap.size + 1) r ⟨tbs (t.take 512), 0⟩ wr HW.out (by simp only [tbs_len, List.length_take]; omega))
      have e0 : t.take 512 = t := by rw [← HT.out, List.take_length]
      have e1 : (tbs t).length = 4096 := by rw [tbs_len, HT.out]
      rw [e0] at HA
      simp only [e1] at HA
      clear HW e0 e1
      go_wp2_with fail
      refine HA.out.mono ?_
      rintro e w2 ⟨⟨A', c', rfl, hown⟩, hb⟩
      have HOW : Hid (Own w2 w.heap.size A' 4096 c' (tbs t)) := Lib.hid (hown.mono HB.out.size)
      have HB2 := Lib.hid (HB.out.trans (hb.mono HB.out.size))
      clear hown hb HA
      go_wp2_with fail
      go_ret
      exact ⟨⟨A', c', rfl, HOW.out⟩, HB2.out⟩
/-- the table that bytes are -/
def tun (bs : List Nat) : List Nat := (List.range 512).map fun i => Wd.unle ((bs.drop (8 * i)).take 8)
theorem tun_len (bs : List Nat) : (tun bs).length = 512 := by simp [tun]
theorem tun_get (bs : List Nat) (k : Nat) (hk : k < 512) : (tun bs)[k]? = some (Wd.unle ((bs.drop (8 * k)).take 8)) := by
  unfold tun
  rw [List.getElem?_map, List.getElem?_range hk]
  rfl
def zeros (n : Nat) : List Value := List.replicate n (u64v 0)
theorem infoTabZ : (Try.prog.info? 24).map (fun i => (i.zero, i.size)) = some (some (.agg (zeros 512).toArray), 512) := by kernel_rfl
def tabK (t : List Nat) (k : Nat) : List Value := (t.take k).map u64v ++ zeros (512 - k)
theorem Row.setRow {w : World} {g : Nat} {t : TypeId} {cs : List Value} (h : Row w g t cs) (V : List Value) : Row (w.setRow g V.toArray) g t V := setRow_heap w g _ _ t _ h
theorem run_storeCells_row {P : Program} {w : World} {g : Nat} {ty t : TypeId} {cs V : List Value} (h : Row w g t cs) (hi : (P.info? ty).map (·.size) = some V.length) (ho : cs.length = V.length) (h1 : ∀ v ∈ V, v.oneCell' = true) :
    (storeCells ⟨g, 0, none⟩ V 0).run P w = .ok () (w.setRow g V.toArray) := by
  have := run_storeVar_row (P := P) w g t ty cs.toArray V.toArray h (by simpa using hi) (by simpa using ho) (all_oneCell_toArray h1)
  cases hq : P.info? ty with
  | none => simp [hq] at hi
  | some i =>
    have hs : i.size = V.length := by simp [hq] at hi; omega
    simpa [storeVar, sizeOf, typeInfo, hq, Value.cells, hs] using this
theorem oneCell_zeros (n : Nat) : ∀ v ∈ zeros n, v.oneCell' = true := by
  intro v hv
  obtain rfl := List.eq_of_mem_replicate hv
  rfl
set_option maxRecDepth 100000 in
set_option maxHeartbeats 1000000 in
theorem pread_no (A : Option Addr) (n c : Nat) (w : World) (hn : n ≠ 4096) :
    Calls Try.prog 13 #[.slice A n c] w fun e w' => e = .returned (.tuple #[.agg (zeros 512).toArray, .bool false]) ∧ Below w.heap.size w w' := by
  obtain ⟨hz, hsz⟩ := zero_of_info infoTabZ
  have h0 := oneCell_zeros 512
  obtain ⟨Z, hZ⟩ : ∃ Z, Z = zeros 512 := ⟨_, rfl⟩
  rw [← hZ] at hz h0 ⊢
  have hzl : Z.length = 512 := by rw [hZ]; simp [zeros]
  have h1 : ((n : Int) != 4096) = true := by rw [bne_iff_ne]; omega
  have hr := Row.new w 24 Z
  have hst := run_storeCells_row (P := Try.prog) (ty := 24) hr (by rw [hzl]; exact hsz) rfl h0
  have hr2 := hr.setRow Z
  have hld := run_loadVar_row (P := Try.prog) _ _ _ 24 _ _ _ hr2 Try.underlying24 rfl (by rw [hsz]; simp [hzl])
  have HB := Lib.hid (below_setRow ((Below.refl w.heap.size w).alloc (Nat.le_refl _) (.cells Z.toArray 24)) (Nat.le_refl _) Z.toArray)
  have HLD := Lib.hid hld
  clear hZ hsz hn h0 hr hr2 hld
  go_enter Try.func13, Try.ntmps13
  go_wp2_with fail
  refine bodyPost_ret (v := .tuple #[.agg Z.toArray, .bool false]) ?_ rfl ?_
  · rw [results_cell_tmp rfl]; simp [asAddr, Result.andThen, HLD.out]
  · exact ⟨rfl, HB.out⟩
theorem isB_cut {w : World} {B n : Nat} {bs : List Nat} {b off : Nat} (h : IsB w B (some ⟨b, off, none⟩) n bs) (k : Nat) (hk : k ≤ n) : IsB w B (some ⟨b, off + k, none⟩) (n - k) (bs.drop k) := by
  refine ⟨?_, fun x hx => h.2.1 x (List.mem_of_mem_drop hx), by have := h.2.2; omega⟩
  have hr := h.1.cut (cap := n + k + 1) hk (by omega)
  rw [if_neg (by omega)] at hr
  simp only [Nat.mul_one, Option.map_some, Addr.add_mid, ← List.map_drop] at hr
  exact hr
theorem tabK_len (t : List Nat) (ht : t.length = 512) (k : Nat) (hk : k ≤ 512) : (tabK t k).length = 512 := by
  simp [tabK, zeros]; omega
theorem tabK_get (t : List Nat) (ht : t.length = 512) (k : Nat) (hk : k < 512) : (tabK t k)[k]? = some (.int .u64 0) := by
  unfold tabK zeros
  rw [List.getElem?_append_right (by simp; omega)]
  have e : k - ((t.take k).map u64v).length = 0 := by simp; omega
  rw [e, List.getElem?_replicate, if_pos (by omega)]
  rfl
theorem tabK_set (t : List Nat) (ht : t.length = 512) (k : Nat) (hk : k < 512) : (tabK t k).set k (u64v (t.getD k 0)) = tabK t (k + 1) := by
  unfold tabK zeros
  rw [List.set_append_right _ _ (by simp; omega)]
  have e : k - ((t.take k).map u64v).length = 0 := by simp; omega
  rw [e, show 512 - k = (512 - (k + 1)) + 1 by omega, List.replicate_succ, List.set_cons_zero, take_snoc t k (by omega), List.map_append, List.append_assoc]
  rfl
theorem tabK_all (t : List Nat) (ht : t.length = 512) : tabK t 512 = t.map u64v := by
  unfold tabK zeros
  rw [← ht, List.take_length]
  simp
theorem oneCell_tab (t : List Nat) : ∀ v ∈ t.map u64v, v.oneCell' = true := by
  intro v hv
  obtain ⟨x, _, rfl⟩ := List.mem_map.1 hv
  rfl
set_option maxRecDepth 100000 in
set_option maxHeartbeats 1000000 in
theorem pread_yes (b off c : Nat) (bs : List Nat) (w : World) (hb : IsB w w.heap.size (some ⟨b, off, none⟩) 4096 bs) (hc : 4096 ≤ c) :
    Calls Try.prog 13 #[.slice (some ⟨b, off, none⟩) 4096 c] w fun e w' => e = .returned (.tuple #[tabV (tun bs), .bool true]) ∧ Below w.heap.size w w' := by
  obtain ⟨hz, hsz⟩ := zero_of_info infoTabZ
  have h0 := oneCell_zeros 512
  obtain ⟨Z, hZ⟩ : ∃ Z, Z = zeros 512 := ⟨_, rfl⟩
  rw [← hZ] at hz h0
  have hzl : Z.length = 512 := by rw [hZ]; simp [zeros]
  obtain ⟨w0, hw0⟩ : ∃ w0, w0 = (w.alloc (.cells Z.toArray 24)).alloc (.cells Z.toArray 24) := ⟨_, rfl⟩
  have hr2 : Row w0 w.heap.size 24 Z := by rw [hw0]; exact (Row.new w 24 Z).alloc _
  have hr4 : Row w0 (w.heap.size + 1) 24 (tabK (tun bs) 0) := by
    have h := Row.new (w.alloc (.cells Z.toArray 24)) 24 Z
    have e : (w.alloc (.cells Z.toArray 24)).heap.size = w.heap.size + 1 := by simp
    rw [e] at h
    rw [hw0, show tabK (tun bs) 0 = Z by simp [tabK, hZ]]
    exact h
  have hbel : Below w.heap.size w w0 := by rw [hw0]; exact ((Below.refl w.heap.size w).alloc (Nat.le_refl _) _).alloc (by simp) _
  have HR2 := Lib.hid hr2; have HR4 := Lib.hid hr4; have HB := Lib.hid hbel
  have HIB := Lib.hid hb
  have HSZ := Lib.hid hsz
  clear hZ hsz h0 hr2 hr4 hbel hb
  go_enter Try.func13, Try.ntmps13
  go_upto_region 4 with fail
  rw [← hw0]
  clear hw0 hz
  go_wp2_with fail
  go_loopw [10] (fun i wr => ∃ k, k ≤ 512 ∧ i = .int .i64 (k : Nat) ∧ Hid (Row wr w.heap.size 24 Z) ∧ Hid (Row wr (w.heap.size + 1) 24 (tabK (tun bs) k)) ∧ Hid (Below w.heap.size w wr)) (fun i _ => 512 - (intOf i).toNat)
  case atStart => exact ⟨0, by omega, rfl, HR2, HR4, HB⟩
  case round =>
    clear HR2 HR4 HB
    obtain ⟨k, hk, rfl, HR2, HR4, HB⟩ := hrel
    by_cases hk2 : k < 512
    · have e1 : decide ((k : Int) < 512) = true := decide_eq_true (by omega)
      obtain ⟨x, hx⟩ : ∃ x, x = Wd.unle ((bs.drop (8 * k)).take 8) := ⟨_, rfl⟩
      have HC := Lib.hid (get_uint64 (some ⟨b, off + 8 * k, none⟩) (4096 - 8 * k) (c - 8 * k) (bs.drop (8 * k)) wr (((isB_cut HIB.out (8 * k) (by omega)).below HB.out).more HB.out.size) (by omega) (by omega))
      rw [← hx] at HC
      have HX := Lib.hid hx
      clear hx
      have hc4 := HR4.out.cell k
      have hf4 := HR4.out.frozen k
      go_wp2_with fail
      rw [tabK_get _ (tun_len bs) k hk2] at hc4
      refine HC.out.mono ?_
      rintro e w2 ⟨rfl, rfl⟩
      have hlt := HR4.out.lt
      have HS : Hid (Row (wr.setCell ⟨w.heap.size + 1, k, none⟩ (.int .u64 (x : Nat))) (w.heap.size + 1) 24 (tabK (tun bs) (k + 1))) := Lib.hid (by
        have h := HR4.out.set_ k (u64v x)
        have e : x = (tun bs).getD k 0 := by rw [HX.out, List.getD_eq_getElem?_getD, tun_get bs k hk2]; rfl
        rw [e, tabK_set _ (tun_len bs) k hk2, ← e] at h
        exact h)
      have HR3 : Hid (Row (wr.setCell ⟨w.heap.size + 1, k, none⟩ (.int .u64 (x : Nat))) w.heap.size 24 Z) := Lib.hid (HR2.out.far (by simp) _)
      have HB3 : Hid (Below w.heap.size w (wr.setCell ⟨w.heap.size + 1, k, none⟩ (.int .u64 (x : Nat)))) := Lib.hid (HB.out.setCell (by simp) _)
      have hk5 : (k : Int) < 512 := by omega
      have hk6 : (0 : Int) ≤ (k : Int) := by omega
      clear HC HX HR2 HR4 HB
      go_wp2_with fail
      clear hc4 hf4
      go_roundw
      case rel => exact ⟨k + 1, by omega, by go_num, HR3, HS, HB3⟩
      case measure => simp [intOf]; omega
    · obtain rfl : k = 512 := by omega
      have hV := oneCell_tab (tun bs)
      have hr4 := HR4.out
      rw [tabK_all _ (tun_len bs)] at hr4
      have hvl : ((tun bs).map u64v).length = 512 := by rw [List.length_map, tun_len]
      obtain ⟨V, hv⟩ : ∃ V, V = (tun bs).map u64v := ⟨_, rfl⟩
      rw [← hv] at hV hr4 hvl
      have HTV : Hid (.agg V.toArray = tabV (tun bs)) := Lib.hid (by unfold tabV; rw [hv])
      have HR := Lib.hid hr4
      have hst := run_storeCells_row (P := Try.prog) (ty := 24) HR2.out (by rw [hvl]; exact HSZ.out) (by rw [hvl, hzl]) hV
      have hr2 := HR2.out.setRow V
      have hld := run_loadVar_row (P := Try.prog) _ _ _ 24 _ _ _ hr2 Try.underlying24 rfl (by rw [HSZ.out]; simp [hvl])
      have HB2 := Lib.hid (below_setRow HB.out (Nat.le_refl _) V.toArray)
      have HLD := Lib.hid hld
      clear hv hV hr4 HR2 HR4 hr2 hld HB
      go_upto_region 9 with fail
      go_wp2_with (refine wpList_load_mid rfl _ _ rfl _ _ (by rfl) V (.array 512 22) (fun j v hv => by rw [Nat.zero_add, HR.out.cell, hv]) Try.underlying24 rfl (by rw [HSZ.out, hvl]) ?_)
      refine bodyPost_ret (v := .tuple #[.agg V.toArray, .bool true]) ?_ rfl ?_
      · rw [results_cell_tmp rfl]; simp [asAddr, Result.andThen, HLD.out]
      · exact ⟨by rw [HTV.out], HB2.out⟩
end Go.Proofs.Ytblfagmoilhdnaa
