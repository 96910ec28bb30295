/- Texts of this claim, one behind the other: PgB, PgE, Structs, RowOpen. -/
import Derived.Test.YtblfagmoilhdnaaJPagesTold18
import Derived.Test.YtblfagmoilhdnaaJPagesTold10
import Derived.Deep.MidRow
import Derived.Deep.WholeRow
import Derived.ChangeKeysEq
import Derived.Deep.Cut
import Derived.Deep.DeepCutAuto
import Derived.Test.YtblfagmoilhdnaaJPagesTold2
import Derived.DeepKeys
import Derived.WalkKit
import Derived.ProofKit
import Derived.OpenShut
import Derived.Lib.SmallJoins
import Derived.Deep.Slices
import Derived.Test.YtblfagmoilhdnaaJPagesTold1
/- A table's bytes and back: pages.Bytes, pages.Read. -/
set_option linter.unusedVariables false
set_option linter.unusedSimpArgs false
namespace Go.Proofs.Ytblfagmoilhdnaa
open Go.RowKit

def u64v (x : Nat) : Value := .int .u64 (x : Int)
def tabV (t : List Nat) : Value := .agg (t.map u64v).toArray
def tbs (t : List Nat) : List Nat := t.flatMap (Wd.le 8)
theorem tbs_len (t : List Nat) : (tbs t).length = 8 * t.length := by
  induction t with
  | nil => rfl
  | cons x r ih => simp only [tbs, List.flatMap_cons, List.length_append, Wd.le_len, List.length_cons] at ih ⊢; omega
theorem tbs_snoc (t : List Nat) (k : Nat) (h : k < t.length) : tbs (t.take (k + 1)) = tbs (t.take k) ++ Wd.le 8 (t.getD k 0) := by
  rw [take_snoc t k h]
  simp [tbs]
theorem tbs_lt (t : List Nat) : ∀ b ∈ tbs t, b < 256 := by
  intro b hb
  simp only [tbs, List.mem_flatMap] at hb
  obtain ⟨x, _, hb⟩ := hb
  exact Wd.le_lt 8 x b hb
theorem tab_range {w : World} {g : Nat} {ty : TypeId} {t : List Nat} (h : Row w g ty (t.map u64v)) : w.rangeAt g 0 (t.map u64v) := fun j v hv => by
  rw [Nat.zero_add, h.cell, hv]
theorem run_index_plain {P : Program} {t e : TypeId} {n : Nat} (V : List Value) (k : Nat) (v : Value) (w : World) (hu : P.underlying t = some (.array n e)) (he : P.plainKey e = true) (hs : (P.info? e).map (·.size) = some 1) (hk : k < n) (hv : V[k]? = some v) :
    (Instr.index t (.agg V.toArray) (.int .i64 (k : Int))).run P w = .ok v w := by
  obtain ⟨i, hi, hi1⟩ : ∃ i, P.info? e = some i ∧ i.size = 1 := by
    cases h : P.info? e with
    | none => simp [h] at hs
    | some i => exact ⟨i, rfl, by simpa [h] using hs⟩
  have hp := run_part_plain (P := P) (w := w) he (xs := V.toArray) (off := k) (v := v) (by simpa using hv)
  have h1 : (0 : Int) ≤ (k : Int) ∧ (k : Int) < (n : Int) := by omega
  simp [part, sizeOf, typeInfo, hi, hi1, Sem.run_bind, go_sem] at hp
  simp [Instr.index, run_underlying hu, asIntOf, h1, sizeOf, typeInfo, hi, hi1, Sem.run_bind, hk, hp, go_sem]
theorem infoTab : (Try.prog.info? 24).map (·.size) = some 512 := by kernel_rfl
set_option maxRecDepth 100000 in
set_option maxHeartbeats 1000000 in
theorem pbytes_any (t : List Nat) (ht : t.length = 512) (hx : ∀ x ∈ t, x < 18446744073709551616) (w : World) :
    Calls Try.prog 10 #[tabV t] w fun e w' => (∃ A' c', e = .returned (.slice A' 4096 c') ∧ Own w' w.heap.size A' 4096 c' (tbs t)) ∧ Below w.heap.size w w' := by
  unfold tabV
  obtain ⟨V, hv⟩ : ∃ V, V = t.map u64v := ⟨_, rfl⟩
  rw [← hv]
  have HV := Lib.hid hv
  have HX := Lib.hid hx
  have hvl : (Try.prog.info? 24).map (·.size) = some V.length := by rw [hv, List.length_map, ht]; exact infoTab
  have HVL := Lib.hid hvl
  have HT := Lib.hid ht
  clear hv hvl hx ht
  go_enter Try.func10, Try.ntmps10
  go_wp2_with fail
  refine (newwriter_any _).mono ?_
  rintro e w1 ⟨rfl, hw, hb⟩
  have hsz : (w.alloc (.cells V.toArray 24)).heap.size = w.heap.size + 1 := by simp
  rw [hsz] at hw hb
  have HW := Lib.hid hw
  have HR := Lib.hid ((Row.new w 24 V).below hb (by omega))
  have HB := Lib.hid (((Below.refl w.heap.size w).alloc (Nat.le_refl _) (.cells V.toArray 24)).trans (hb.mono (by omega)))
  clear hw hb hsz
  go_upto_region 2 with fail
  go_wp2_with (refine wpList_load_mid rfl _ _ rfl _ _ (by rfl) V (.array 512 22) (fun j v hv => by rw [Nat.zero_add, HR.out.cell, hv]) Try.underlying24 rfl HVL.out ?_)
  clear HR
  go_loopw [8] (fun i wr => ∃ k r, k ≤ 512 ∧ i = .int .i64 (k : Nat) ∧ Hid (Wr wr (w.heap.size + 1) r ⟨tbs (t.take k), 0⟩) ∧ Hid (∀ x ∈ r.toList, w.heap.size ≤ x) ∧ Hid (Below w.heap.size w wr)) (fun i _ => 512 - (intOf i).toNat)
  case atStart => exact ⟨0, none, by omega, rfl, HW, Lib.hid (by simp), HB⟩
  case round =>
    clear HW HB
    obtain ⟨k, r, hk, rfl, HW, HO, HB⟩ := hrel
    by_cases hk2 : k < 512
    · have e1 : decide ((k : Int) < 512) = true := decide_eq_true (by omega)
      have e2 : V[k]? = some (.int .u64 (t.getD k 0 : Nat)) := by rw [HV.out, List.getElem?_map, List.getElem?_eq_getElem (by rw [HT.out]; omega), List.getD_eq_getElem?_getD, List.getElem?_eq_getElem (by rw [HT.out]; omega)]; rfl
      obtain ⟨x, hx⟩ : ∃ x, x = t.getD k 0 := ⟨_, rfl⟩
      rw [← hx] at e2
      have HC := Lib.hid (wuint64_any (w.heap.size + 1) r ⟨tbs (t.take k), 0⟩ x wr HW.out (by rw [hx]; exact HX.out _ (getD_mem _ _ (by rw [HT.out]; omega))) (by simp only [tbs_len, List.length_take]; omega))
      have HXX := Lib.hid hx
      have hidx := run_index_plain (P := Try.prog) V k _ wr Try.underlying24 (by kernel_rfl) (by kernel_rfl) hk2 e2
      clear hx
      go_wp2_with fail
      refine HC.out.mono ?_
      rintro e w2 ⟨rfl, r', hw, hch, hmv⟩
      have HW2 : Hid (Wr w2 (w.heap.size + 1) r' ⟨tbs (t.take (k + 1)), 0⟩) := Lib.hid (by
        have e0 : (Wd.W.lay ⟨tbs (t.take k), 0⟩ (Wd.le 8 x)) = ⟨tbs (t.take (k + 1)), 0⟩ := by
          rw [tbs_snoc t k (by rw [HT.out]; omega), HXX.out]; simp [Wd.W.lay]
        rw [← e0]; exact hw)
      have HO2 := Lib.hid (moved_ge hmv HO.out HB.out.size)
      have HB2 := Lib.hid (below_chg HB.out (Nat.le_refl _) hch (fun y hy => by
        rcases List.mem_cons.1 hy with rfl | hy
        · omega
        · exact HO.out y hy))
      clear hw hch hmv HC HW HO HB e2 hidx HXX
      go_wp2_with fail
      go_roundw
      case rel => exact ⟨k + 1, r', by omega, by go_num, HW2, HO2, HB2⟩
      case measure => simp [intOf]; omega
    · obtain rfl : k = 512 := by omega
      have HA := Lib.hid (wall_any (w.heap.size + 1) r ⟨tbs (t.take 512), 0⟩ wr HW.out (by simp only [tbs_len, List.length_take]; omega))
      have e0 : t.take 512 = t := by rw [← HT.out, List.take_length]
      have e1 : (tbs t).length = 4096 := by rw [tbs_len, HT.out]
      rw [e0] at HA
      simp only [e1] at HA
      clear HW e0 e1
      go_wp2_with fail
      refine HA.out.mono ?_
      rintro e w2 ⟨⟨A', c', rfl, hown⟩, hb⟩
      have HOW : Hid (Own w2 w.heap.size A' 4096 c' (tbs t)) := Lib.hid (hown.mono HB.out.size)
      have HB2 := Lib.hid (HB.out.trans (hb.mono HB.out.size))
      clear hown hb HA
      go_wp2_with fail
      go_ret
      exact ⟨⟨A', c', rfl, HOW.out⟩, HB2.out⟩
/-- the table that bytes are -/
def tun (bs : List Nat) : List Nat := (List.range 512).map fun i => Wd.unle ((bs.drop (8 * i)).take 8)
theorem tun_len (bs : List Nat) : (tun bs).length = 512 := by simp [tun]
theorem tun_get (bs : List Nat) (k : Nat) (hk : k < 512) : (tun bs)[k]? = some (Wd.unle ((bs.drop (8 * k)).take 8)) := by
  unfold tun
  rw [List.getElem?_map, List.getElem?_range hk]
  rfl
def zeros (n : Nat) : List Value := List.replicate n (u64v 0)
theorem infoTabZ : (Try.prog.info? 24).map (fun i => (i.zero, i.size)) = some (some (.agg (zeros 512).toArray), 512) := by kernel_rfl
def tabK (t : List Nat) (k : Nat) : List Value := (t.take k).map u64v ++ zeros (512 - k)
theorem Row.setRow {w : World} {g : Nat} {t : TypeId} {cs : List Value} (h : Row w g t cs) (V : List Value) : Row (w.setRow g V.toArray) g t V := setRow_heap w g _ _ t _ h
theorem run_storeCells_row {P : Program} {w : World} {g : Nat} {ty t : TypeId} {cs V : List Value} (h : Row w g t cs) (hi : (P.info? ty).map (·.size) = some V.length) (ho : cs.length = V.length) (h1 : ∀ v ∈ V, v.oneCell' = true) :
    (storeCells ⟨g, 0, none⟩ V 0).run P w = .ok () (w.setRow g V.toArray) := by
  have := run_storeVar_row (P := P) w g t ty cs.toArray V.toArray h (by simpa using hi) (by simpa using ho) (all_oneCell_toArray h1)
  cases hq : P.info? ty with
  | none => simp [hq] at hi
  | some i =>
    have hs : i.size = V.length := by simp [hq] at hi; omega
    simpa [storeVar, sizeOf, typeInfo, hq, Value.cells, hs] using this
theorem oneCell_zeros (n : Nat) : ∀ v ∈ zeros n, v.oneCell' = true := by
  intro v hv
  obtain rfl := List.eq_of_mem_replicate hv
  rfl
set_option maxRecDepth 100000 in
set_option maxHeartbeats 1000000 in
theorem pread_no (A : Option Addr) (n c : Nat) (w : World) (hn : n ≠ 4096) :
    Calls Try.prog 13 #[.slice A n c] w fun e w' => e = .returned (.tuple #[.agg (zeros 512).toArray, .bool false]) ∧ Below w.heap.size w w' := by
  obtain ⟨hz, hsz⟩ := zero_of_info infoTabZ
  have h0 := oneCell_zeros 512
  obtain ⟨Z, hZ⟩ : ∃ Z, Z = zeros 512 := ⟨_, rfl⟩
  rw [← hZ] at hz h0 ⊢
  have hzl : Z.length = 512 := by rw [hZ]; simp [zeros]
  have h1 : ((n : Int) != 4096) = true := by rw [bne_iff_ne]; omega
  have hr := Row.new w 24 Z
  have hst := run_storeCells_row (P := Try.prog) (ty := 24) hr (by rw [hzl]; exact hsz) rfl h0
  have hr2 := hr.setRow Z
  have hld := run_loadVar_row (P := Try.prog) _ _ _ 24 _ _ _ hr2 Try.underlying24 rfl (by rw [hsz]; simp [hzl])
  have HB := Lib.hid (below_setRow ((Below.refl w.heap.size w).alloc (Nat.le_refl _) (.cells Z.toArray 24)) (Nat.le_refl _) Z.toArray)
  have HLD := Lib.hid hld
  clear hZ hsz hn h0 hr hr2 hld
  go_enter Try.func13, Try.ntmps13
  go_wp2_with fail
  refine bodyPost_ret (v := .tuple #[.agg Z.toArray, .bool false]) ?_ rfl ?_
  · rw [results_cell_tmp rfl]; simp [asAddr, Result.andThen, HLD.out]
  · exact ⟨rfl, HB.out⟩
theorem isB_cut {w : World} {B n : Nat} {bs : List Nat} {b off : Nat} (h : IsB w B (some ⟨b, off, none⟩) n bs) (k : Nat) (hk : k ≤ n) : IsB w B (some ⟨b, off + k, none⟩) (n - k) (bs.drop k) := by
  refine ⟨?_, fun x hx => h.2.1 x (List.mem_of_mem_drop hx), by have := h.2.2; omega⟩
  have hr := h.1.cut (cap := n + k + 1) hk (by omega)
  rw [if_neg (by omega)] at hr
  simp only [Nat.mul_one, Option.map_some, Addr.add_mid, ← List.map_drop] at hr
  exact hr
theorem tabK_len (t : List Nat) (ht : t.length = 512) (k : Nat) (hk : k ≤ 512) : (tabK t k).length = 512 := by
  simp [tabK, zeros]; omega
theorem tabK_get (t : List Nat) (ht : t.length = 512) (k : Nat) (hk : k < 512) : (tabK t k)[k]? = some (.int .u64 0) := by
  unfold tabK zeros
  rw [List.getElem?_append_right (by simp; omega)]
  have e : k - ((t.take k).map u64v).length = 0 := by simp; omega
  rw [e, List.getElem?_replicate, if_pos (by omega)]
  rfl
theorem tabK_set (t : List Nat) (ht : t.length = 512) (k : Nat) (hk : k < 512) : (tabK t k).set k (u64v (t.getD k 0)) = tabK t (k + 1) := by
  unfold tabK zeros
  rw [List.set_append_right _ _ (by simp; omega)]
  have e : k - ((t.take k).map u64v).length = 0 := by simp; omega
  rw [e, show 512 - k = (512 - (k + 1)) + 1 by omega, List.replicate_succ, List.set_cons_zero, take_snoc t k (by omega), List.map_append, List.append_assoc]
  rfl
theorem tabK_all (t : List Nat) (ht : t.length = 512) : tabK t 512 = t.map u64v := by
  unfold tabK zeros
  rw [← ht, List.take_length]
  simp
theorem oneCell_tab (t : List Nat) : ∀ v ∈ t.map u64v, v.oneCell' = true := by
  intro v hv
  obtain ⟨x, _, rfl⟩ := List.mem_map.1 hv
  rfl
set_option maxRecDepth 100000 in
set_option maxHeartbeats 1000000 in
theorem pread_yes (b off c : Nat) (bs : List Nat) (w : World) (hb : IsB w w.heap.size (some ⟨b, off, none⟩) 4096 bs) (hc : 4096 ≤ c) :
    Calls Try.prog 13 #[.slice (some ⟨b, off, none⟩) 4096 c] w fun e w' => e = .returned (.tuple #[tabV (tun bs), .bool true]) ∧ Below w.heap.size w w' := by
  obtain ⟨hz, hsz⟩ := zero_of_info infoTabZ
  have h0 := oneCell_zeros 512
  obtain ⟨Z, hZ⟩ : ∃ Z, Z = zeros 512 := ⟨_, rfl⟩
  rw [← hZ] at hz h0
  have hzl : Z.length = 512 := by rw [hZ]; simp [zeros]
  obtain ⟨w0, hw0⟩ : ∃ w0, w0 = (w.alloc (.cells Z.toArray 24)).alloc (.cells Z.toArray 24) := ⟨_, rfl⟩
  have hr2 : Row w0 w.heap.size 24 Z := by rw [hw0]; exact (Row.new w 24 Z).alloc _
  have hr4 : Row w0 (w.heap.size + 1) 24 (tabK (tun bs) 0) := by
    have h := Row.new (w.alloc (.cells Z.toArray 24)) 24 Z
    have e : (w.alloc (.cells Z.toArray 24)).heap.size = w.heap.size + 1 := by simp
    rw [e] at h
    rw [hw0, show tabK (tun bs) 0 = Z by simp [tabK, hZ]]
    exact h
  have hbel : Below w.heap.size w w0 := by rw [hw0]; exact ((Below.refl w.heap.size w).alloc (Nat.le_refl _) _).alloc (by simp) _
  have HR2 := Lib.hid hr2; have HR4 := Lib.hid hr4; have HB := Lib.hid hbel
  have HIB := Lib.hid hb
  have HSZ := Lib.hid hsz
  clear hZ hsz h0 hr2 hr4 hbel hb
  go_enter Try.func13, Try.ntmps13
  go_upto_region 4 with fail
  rw [← hw0]
  clear hw0 hz
  go_wp2_with fail
  go_loopw [10] (fun i wr => ∃ k, k ≤ 512 ∧ i = .int .i64 (k : Nat) ∧ Hid (Row wr w.heap.size 24 Z) ∧ Hid (Row wr (w.heap.size + 1) 24 (tabK (tun bs) k)) ∧ Hid (Below w.heap.size w wr)) (fun i _ => 512 - (intOf i).toNat)
  case atStart => exact ⟨0, by omega, rfl, HR2, HR4, HB⟩
  case round =>
    clear HR2 HR4 HB
    obtain ⟨k, hk, rfl, HR2, HR4, HB⟩ := hrel
    by_cases hk2 : k < 512
    · have e1 : decide ((k : Int) < 512) = true := decide_eq_true (by omega)
      obtain ⟨x, hx⟩ : ∃ x, x = Wd.unle ((bs.drop (8 * k)).take 8) := ⟨_, rfl⟩
      have HC := Lib.hid (get_uint64 (some ⟨b, off + 8 * k, none⟩) (4096 - 8 * k) (c - 8 * k) (bs.drop (8 * k)) wr (((isB_cut HIB.out (8 * k) (by omega)).below HB.out).more HB.out.size) (by omega) (by omega))
      rw [← hx] at HC
      have HX := Lib.hid hx
      clear hx
      have hc4 := HR4.out.cell k
      have hf4 := HR4.out.frozen k
      go_wp2_with fail
      rw [tabK_get _ (tun_len bs) k hk2] at hc4
      refine HC.out.mono ?_
      rintro e w2 ⟨rfl, rfl⟩
      have hlt := HR4.out.lt
      have HS : Hid (Row (wr.setCell ⟨w.heap.size + 1, k, none⟩ (.int .u64 (x : Nat))) (w.heap.size + 1) 24 (tabK (tun bs) (k + 1))) := Lib.hid (by
        have h := HR4.out.set_ k (u64v x)
        have e : x = (tun bs).getD k 0 := by rw [HX.out, List.getD_eq_getElem?_getD, tun_get bs k hk2]; rfl
        rw [e, tabK_set _ (tun_len bs) k hk2, ← e] at h
        exact h)
      have HR3 : Hid (Row (wr.setCell ⟨w.heap.size + 1, k, none⟩ (.int .u64 (x : Nat))) w.heap.size 24 Z) := Lib.hid (HR2.out.far (by simp) _)
      have HB3 : Hid (Below w.heap.size w (wr.setCell ⟨w.heap.size + 1, k, none⟩ (.int .u64 (x : Nat)))) := Lib.hid (HB.out.setCell (by simp) _)
      have hk5 : (k : Int) < 512 := by omega
      have hk6 : (0 : Int) ≤ (k : Int) := by omega
      clear HC HX HR2 HR4 HB
      go_wp2_with fail
      clear hc4 hf4
      go_roundw
      case rel => exact ⟨k + 1, by omega, by go_num, HR3, HS, HB3⟩
      case measure => simp [intOf]; omega
    · obtain rfl : k = 512 := by omega
      have hV := oneCell_tab (tun bs)
      have hr4 := HR4.out
      rw [tabK_all _ (tun_len bs)] at hr4
      have hvl : ((tun bs).map u64v).length = 512 := by rw [List.length_map, tun_len]
      obtain ⟨V, hv⟩ : ∃ V, V = (tun bs).map u64v := ⟨_, rfl⟩
      rw [← hv] at hV hr4 hvl
      have HTV : Hid (.agg V.toArray = tabV (tun bs)) := Lib.hid (by unfold tabV; rw [hv])
      have HR := Lib.hid hr4
      have hst := run_storeCells_row (P := Try.prog) (ty := 24) HR2.out (by rw [hvl]; exact HSZ.out) (by rw [hvl, hzl]) hV
      have hr2 := HR2.out.setRow V
      have hld := run_loadVar_row (P := Try.prog) _ _ _ 24 _ _ _ hr2 Try.underlying24 rfl (by rw [HSZ.out]; simp [hvl])
      have HB2 := Lib.hid (below_setRow HB.out (Nat.le_refl _) V.toArray)
      have HLD := Lib.hid hld
      clear hv hV hr4 HR2 HR4 hr2 hld HB
      go_upto_region 9 with fail
      go_wp2_with (refine wpList_load_mid rfl _ _ rfl _ _ (by rfl) V (.array 512 22) (fun j v hv => by rw [Nat.zero_add, HR.out.cell, hv]) Try.underlying24 rfl (by rw [HSZ.out, hvl]) ?_)
      refine bodyPost_ret (v := .tuple #[.agg V.toArray, .bool true]) ?_ rfl ?_
      · rw [results_cell_tmp rfl]; simp [asAddr, Result.andThen, HLD.out]
      · exact ⟨by rw [HTV.out], HB2.out⟩
end Go.Proofs.Ytblfagmoilhdnaa

/- Arrays by value: one that is compared with itself. -/
set_option linter.unusedVariables false
set_option linter.unusedSimpArgs false
namespace Go.Proofs.Ytblfagmoilhdnaa
open Go.RowKit

theorem run_eqItems_self {P : Program} (w : World) (d : Nat) (e : TypeId) (he : P.underlying e = some (.int .u64)) (V : List Value) (hV : ∀ i, i < V.length → ∃ n, V[i]? = some (.int .u64 n)) : ∀ is : List Nat, (∀ i ∈ is, i < V.length) → (Op.eqItems (d + 1) e 1 V.toArray V.toArray is).run P w = .ok true w
  | [], _ => by simp [Op.eqItems]
  | i :: is, h => by
    obtain ⟨n, hn⟩ := hV i (h i (by simp))
    have hp := run_part_plain (P := P) (w := w) (e := e) (by simp [Program.plainKey, he]) (xs := V.toArray) (off := i * 1) (v := .int .u64 n) (by simpa using hn)
    simp only [Op.eqItems, Sem.run_bind, hp, Result.andThen_ok, run_equalIn_int w d e .u64 .u64 n n he]
    simp [run_eqItems_self w d e he V hV is (fun j hj => h j (by simp [hj]))]
theorem tab_eq_self (V : List Value) (hV : ∀ i, i < V.length → ∃ n, V[i]? = some (.int .u64 n)) (hl : V.length = 512) (w : World) : (Op.equalIn 10000 24 (.agg V.toArray) (.agg V.toArray)).run Try.prog w = .ok true w := by
  obtain ⟨i, hi, hi1⟩ : ∃ i, Try.prog.info? 22 = some i ∧ i.size = 1 := by
    have h : (Try.prog.info? 22).map (·.size) = some 1 := by kernel_rfl
    cases hq : Try.prog.info? 22 with
    | none => simp [hq] at h
    | some i => exact ⟨i, rfl, by simpa [hq] using h⟩
  have := run_equalIn_array (P := Try.prog) w 9999 V.toArray V.toArray Try.underlying24 hi
  rw [this]
  have hc : Try.prog.cellsOf 22 = 1 := by kernel_rfl
  rw [hc]
  exact run_eqItems_self w 9998 _ Try.underlying22 V hV _ (fun i hi => by rw [hl]; simpa using hi)
theorem own_capd {w : World} {base n c : Nat} {A : Option Addr} {bs : List Nat} (h : Own w base A n c bs) : n ≤ c ∧ c ≤ maxLen := by
  rcases h.1.2 with ⟨hv, h0⟩ | ⟨g, cap, cur, hv, _, _, hnc, hcm, _⟩
  · injection hv with _ _ hc; subst hc h0; exact ⟨by omega, by unfold maxLen; omega⟩
  · injection hv with _ _ hc; subst hc; exact ⟨hnc, hcm⟩
theorem reads_u8 {w : World} {u : Value} {B : Nat} (hB : w.heap.size < B) : Reads (w.alloc (.cells #[u] 5)) B 1 (some ⟨w.heap.size, 0, none⟩) 1 [u] := by
  refine ⟨rfl, fun _ => ⟨_, rfl, hB, fun j x hx => ?_⟩⟩
  have e : (⟨w.heap.size, 0, none⟩ : Addr).add j = ⟨w.heap.size, j, none⟩ := by unfold Addr.add; split <;> simp_all
  rw [e, (Row.new w 5 [u]).cell, hx]
set_option maxRecDepth 100000 in
/-- an array that came in -/
theorem open_tab {W : World} {base : Nat} {v : Value} (h : Value.okWide Try.prog W .any base 24 v) : ∃ t : List Nat, v = tabV t ∧ t.length = 512 ∧ ∀ x ∈ t, x < 18446744073709551616 := by
  unfold Value.okWide at h
  rw [Try.underlying24] at h
  obtain ⟨cs, rfl, hsz, ts, hts, _, hc⟩ := h
  have h1 : Try.prog.cellsOf 24 = 512 := by kernel_rfl
  have h2 : Try.prog.cellTypes Try.prog.depth 24 = some (List.replicate 512 22) := by kernel_rfl
  rw [h1] at hsz
  rw [h2] at hts
  injection hts with hts
  subst hts
  have h3 : ∀ i, i < 512 → ∃ x : Nat, cs[i]? = some (u64v x) ∧ x < 18446744073709551616 := by
    intro i hi
    obtain ⟨u, h4, h5⟩ := hc i cs[i] (Array.getElem?_eq_getElem (by omega))
    rw [List.length_replicate, List.getElem?_replicate, if_pos (Nat.mod_lt _ (by omega))] at h4
    injection h4 with h4
    subst h4
    unfold Cell.okWide at h5
    rw [Try.underlying22] at h5
    revert h5
    generalize hv : cs[i] = v
    intro h5
    have h6 : Cell.ok Try.prog W .any base 22 v := by
      revert h5; cases v <;> exact id
    unfold Cell.ok at h6
    rw [Try.underlying22] at h6
    cases v <;> simp at h6
    rename_i k n
    obtain ⟨rfl, hk⟩ := h6
    simp [IntKind.has, IntKind.min, IntKind.max, IntKind.bits, IntKind.signed] at hk
    refine ⟨n.toNat, ?_, ?_⟩
    · rw [Array.getElem?_eq_getElem (by omega), hv]
      unfold u64v
      rw [Int.toNat_of_nonneg (by omega)]
    · omega
  refine ⟨(List.range 512).map fun i => (intOf (cs[i]?.getD undef)).toNat, ?_, by simp, ?_⟩
  · unfold tabV
    congr 1
    apply Array.ext_getElem?
    intro i
    by_cases hi : i < 512
    · obtain ⟨x, h4, h5⟩ := h3 i hi
      simp [hi, h4, intOf, u64v]
    · simp [hi, Array.getElem?_eq_none (show cs.size ≤ i by omega)]
  · intro x hx
    simp only [List.mem_map, List.mem_range] at hx
    obtain ⟨i, hi, rfl⟩ := hx
    obtain ⟨x, h4, h5⟩ := h3 i hi
    simpa [h4, intOf, u64v] using h5
theorem beyond_list (w : World) (xs : List Nat) (hl : xs.length ≤ 1000000) (hx : ∀ x ∈ xs, x ≤ 9223372036854775807) (r : Bool) (hr : beyondL 2147483647 xs = r) :
    Calls Try.prog 9 #[.slice (some ⟨w.heap.size, 0, none⟩) xs.length xs.length] (w.alloc (.cells (xs.map i64).toArray 3)) fun e w' => e = .returned (.bool r) ∧ w.alloc (.cells (xs.map i64).toArray 3) = w' := by
  rw [← hr]
  refine beyond_any _ _ _ xs _ ?_ hl hx
  have := (Row.new w 3 (xs.map i64)).reads (B := (w.alloc (.cells (xs.map i64).toArray 3)).heap.size) 0 xs.length (by simp) (by simp)
  rw [List.drop_zero, List.take_of_length_le (by simp)] at this
  exact this
theorem beyond_one (w : World) (n : Nat) (hn : n ≤ 9223372036854775807) (r : Bool) (hr : beyondL 2147483647 [n] = r) :
    Calls Try.prog 9 #[.slice (some ⟨w.heap.size, 0, none⟩) 1 1] (w.alloc (.cells #[.int .i64 (n : Nat)] 3)) fun e w' => e = .returned (.bool r) ∧ w.alloc (.cells #[.int .i64 (n : Nat)] 3) = w' :=
  beyond_list w [n] (by simp) (by simpa using hn) r hr
theorem tbs_at (t : List Nat) (k : Nat) (x : Nat) (hk : t[k]? = some x) : ((tbs t).drop (8 * k)).take 8 = Wd.le 8 x := by
  induction t generalizing k with
  | nil => simp at hk
  | cons y r ih =>
    have e : tbs (y :: r) = Wd.le 8 y ++ tbs r := rfl
    have hl := Wd.le_len 8 y
    cases k with
    | zero =>
      simp at hk
      subst hk
      rw [e, Nat.mul_zero, List.drop_zero, List.take_append_of_le_length (by omega), List.take_of_length_le (by omega)]
    | succ k =>
      simp only [List.getElem?_cons_succ] at hk
      rw [e, List.drop_append, show 8 * (k + 1) - (Wd.le 8 y).length = 8 * k by omega, List.drop_of_length_le (by omega), List.nil_append]
      exact ih k hk
theorem tun_tbs (t : List Nat) (ht : t.length = 512) (hx : ∀ x ∈ t, x < 18446744073709551616) : tun (tbs t) = t := by
  apply List.ext_getElem?
  intro k
  by_cases hk : k < 512
  · have h1 : t[k]? = some t[k] := List.getElem?_eq_getElem (by omega)
    rw [tun_get _ _ hk, tbs_at t k _ h1, Wd.unle_le, h1, Nat.mod_eq_of_lt]
    exact hx _ (List.getElem_mem _)
  · rw [List.getElem?_eq_none (by rw [tun_len]; omega), List.getElem?_eq_none (by omega)]
theorem tbs_range (bs : List Nat) (hb : ∀ b ∈ bs, b < 256) (m : Nat) (hm : 8 * m ≤ bs.length) : tbs ((List.range m).map fun i => Wd.unle ((bs.drop (8 * i)).take 8)) = bs.take (8 * m) := by
  induction m with
  | zero => rfl
  | succ m ih =>
    have h1 := ih (by omega)
    have h2 := Wd.le_unle ((bs.drop (8 * m)).take 8) (fun b hb' => hb b (List.mem_of_mem_drop (List.mem_of_mem_take hb')))
    have h3 : ((bs.drop (8 * m)).take 8).length = 8 := by rw [List.length_take, List.length_drop]; omega
    rw [h3] at h2
    rw [List.range_succ, List.map_append, tbs, List.flatMap_append, ← tbs, h1]
    simp only [List.map_cons, List.map_nil, List.flatMap_cons, List.flatMap_nil, List.append_nil, h2]
    rw [show 8 * (m + 1) = 8 * m + 8 by omega, List.take_add]
theorem tbs_tun (bs : List Nat) (hl : bs.length = 4096) (hb : ∀ b ∈ bs, b < 256) : tbs (tun bs) = bs := by
  have h := tbs_range bs hb 512 (by omega)
  unfold tun
  rw [h]
  exact List.take_of_length_le (by omega)
theorem tun_lt (bs : List Nat) (hb : ∀ b ∈ bs, b < 256) : ∀ x ∈ tun bs, x < 18446744073709551616 := by
  intro x hx
  simp only [tun, List.mem_map, List.mem_range] at hx
  obtain ⟨i, _, rfl⟩ := hx
  have h := Wd.unle_lt ((bs.drop (8 * i)).take 8) (fun b hb' => hb b (List.mem_of_mem_drop (List.mem_of_mem_take hb')))
  have h2 : ((bs.drop (8 * i)).take 8).length ≤ 8 := by rw [List.length_take]; omega
  have h3 : (256 : Nat) ^ ((bs.drop (8 * i)).take 8).length ≤ 256 ^ 8 := Nat.pow_le_pow_right (by omega) h2
  have h4 : (256 : Nat) ^ 8 = 18446744073709551616 := by decide
  omega
theorem wpList_load_midw {P : Program} {ops : Array Oper} {rest : List Oper} {op : Oper} {a : Act} {w : World} {Q : Exit → Act → World → Prop} (hw : Region.wanted op (yielded ops a.tmps) = true) (ty : TypeId) (x : Operand) (ho : op.op = .load ty x)
    (b o : Nat) (hx : a.eval x = .pointer (some ⟨b, o, none⟩)) (cs : List Value) (d : TypeDesc) (hc : w.rangeAt b o cs)
    (hu : P.underlying ty = some d) (hd : d.isRow = true) (hi : (P.info? ty).map (·.size) = some cs.length)
    (h : wpList P ops Q rest (a.put op.dst (.agg cs.toArray)) w) : wpList P ops Q (op :: rest) a w :=
  wpList_wanted hw fun _ hK => wp_load_mid ty x ho b o hx cs d hc hu hd hi (hK _ _ h)
theorem row_rangeAt {w : World} {g : Nat} {t : TypeId} {V : List Value} (h : Row w g t V) : w.rangeAt g 0 V := fun j v hv => by rw [Nat.zero_add, h.cell, hv]
end Go.Proofs.Ytblfagmoilhdnaa

/- Arguments that are structs by value or slices of structs, opened (the guide's page extra-structs, turned to this seat). -/
set_option linter.unusedVariables false
set_option linter.unusedSimpArgs false
namespace Go.Proofs.Ytblfagmoilhdnaa
open Go.Joins Go.ChangeShapes Go.WideShapes Go.RowKit Go.Deep
section
variable {H : Type} {enc : TypeId × Value → H} {P : Program} {w : World} {base : Nat} {spare : Nat → Bool} {held : Bool}
theorem open_slice_fields {t e : TypeId} {fs : Array Field} {fuel : Nat} {cs : List Value} {x : DataW H × List MemPlace} (ht : P.underlying t = some (.slice e)) (he : P.underlying e = some (.struct fs))
    (hone : oneCellFields P fs = true) (hC : P.cellsOf e = fs.size) (h : DataW.trod enc P w base spare held fuel t cs = some x) :
    (cs = [.slice none 0 0] ∧ x = (.nil, [])) ∨
    ∃ (a : Addr) (len cap m : Nat) (D : Nat → DataW H) (Pl : Nat → List MemPlace), cs = [.slice (some a) len cap] ∧ base ≤ a.block ∧ len ≤ cap ∧ cap ≤ maxLen ∧ m = (if spare a.block then cap else len) ∧
      x = (.slice ((List.range len).map D) ((List.range (m - len)).map fun j => D (len + j)), MemPlace.row a (m * fs.size) ++ (List.range m).flatMap Pl) ∧
      ∀ i, i < m → ∃ (ys : List (DataW H × List MemPlace)) (n : Nat), D i = .agg (ys.map (·.1)) ∧ Pl i = ys.flatMap (·.2) ∧ ys.length = fs.size ∧
        ∀ (j : Nat) (f : Field), fs[j]? = some f → ∃ (v : Value) (y : DataW H × List MemPlace), w.cell? (a.add (i * fs.size + j)) = some v ∧ ys[j]? = some y ∧ DataW.trod enc P w base spare held n f.type [v] = some y := by
  rcases open_slice ht h with h0 | ⟨a, len, cap, m, n, D, Pl, hcs, hb, hl, hm, hmm, hx, hi⟩
  · exact .inl h0
  · refine .inr ⟨a, len, cap, m, D, Pl, hcs, hb, hl, hm, hmm, by rw [hC] at hx; exact hx, fun i him => ?_⟩
    obtain ⟨cs', hc, ht'⟩ := hi i him
    rw [hC] at hc
    obtain ⟨ys, n', hn', hy, hlen, hyl, hf⟩ := DataW.trod_struct he ht'
    obtain ⟨_, hcl, hat⟩ := World.cells?_some hc
    simp only [Prod.mk.injEq] at hy
    refine ⟨ys, n', hy.1, hy.2, hyl, fun j f hj => ?_⟩
    obtain ⟨ho, hk⟩ := hone_of hone j f hj
    have hjl : j < fs.size := (Array.getElem?_eq_some_iff.1 hj).1
    have hcell := hat j hjl
    have hv : cs'[j]? = some (cs'[j]'(by omega)) := List.getElem?_eq_getElem (by omega)
    have h1 := hf j f hj
    rw [ho, hk] at h1
    have hone' : (cs'.drop j).take 1 = [cs'[j]'(by omega)] := by
      rw [List.drop_eq_getElem_cons (by omega)]
      rfl
    rw [hone'] at h1
    have hys : ys[j]? = some (ys[j]'(by omega)) := List.getElem?_eq_getElem (by omega)
    refine ⟨_, _, ?_, hys, h1.trans hys⟩
    rw [← Go.Deep.add_add, hcell, hv]
end

section
variable {H : Type} {enc : TypeId × Value → H} {P : Program} {w : World} {base : Nat} {spare : Nat → Bool} {held : Bool}
theorem open_agg5 {r : Reach} {b0 : Nat} {t : TypeId} {f0 f1 f2 f3 f4 : Field} {v : Value} {d : DataW H} {p : List MemPlace} (hs : P.underlying t = some (.struct #[f0, f1, f2, f3, f4])) (hone : oneCellFields P #[f0, f1, f2, f3, f4] = true) (hC : P.cellsOf t = 5)
    (hv : Value.okWide P w r b0 t v) (h : DataW.Trod enc P w base spare held t v d p) :
    ∃ (v0 v1 v2 v3 v4 : Value) (y0 y1 y2 y3 y4 : DataW H × List MemPlace) (n : Nat), v = .agg #[v0, v1, v2, v3, v4] ∧ d = .agg [y0.1, y1.1, y2.1, y3.1, y4.1] ∧ p = y0.2 ++ (y1.2 ++ (y2.2 ++ (y3.2 ++ y4.2))) ∧
      DataW.trod enc P w base spare held n f0.type [v0] = some y0 ∧ DataW.trod enc P w base spare held n f1.type [v1] = some y1 ∧ DataW.trod enc P w base spare held n f2.type [v2] = some y2 ∧ DataW.trod enc P w base spare held n f3.type [v3] = some y3 ∧ DataW.trod enc P w base spare held n f4.type [v4] = some y4 := by
  obtain ⟨cs, rfl, hsz⟩ := okWide_struct hs hv
  obtain ⟨l⟩ := cs
  match l, hsz.trans hC with
  | [c0, c1, c2, c3, c4], _ =>
    obtain ⟨fuel, hf⟩ := h
    obtain ⟨xs, n, _, hx, _, hlen, hg⟩ := DataW.trod_struct hs hf
    obtain ⟨o0, k0⟩ := hone_of hone 0 f0 rfl
    obtain ⟨o1, k1⟩ := hone_of hone 1 f1 rfl
    obtain ⟨o2, k2⟩ := hone_of hone 2 f2 rfl
    obtain ⟨o3, k3⟩ := hone_of hone 3 f3 rfl
    obtain ⟨o4, k4⟩ := hone_of hone 4 f4 rfl
    match xs, hlen with
    | [y0, y1, y2, y3, y4], _ =>
      simp only [Prod.mk.injEq] at hx
      exact ⟨c0, c1, c2, c3, c4, y0, y1, y2, y3, y4, n, rfl, by simpa using hx.1, by simpa using hx.2, by simpa [Value.cells, o0, k0] using hg 0 f0 rfl, by simpa [Value.cells, o1, k1] using hg 1 f1 rfl, by simpa [Value.cells, o2, k2] using hg 2 f2 rfl, by simpa [Value.cells, o3, k3] using hg 3 f3 rfl, by simpa [Value.cells, o4, k4] using hg 4 f4 rfl⟩

theorem open_agg6 {r : Reach} {b0 : Nat} {t : TypeId} {f0 f1 f2 f3 f4 f5 : Field} {v : Value} {d : DataW H} {p : List MemPlace} (hs : P.underlying t = some (.struct #[f0, f1, f2, f3, f4, f5])) (hone : oneCellFields P #[f0, f1, f2, f3, f4, f5] = true) (hC : P.cellsOf t = 6)
    (hv : Value.okWide P w r b0 t v) (h : DataW.Trod enc P w base spare held t v d p) :
    ∃ (v0 v1 v2 v3 v4 v5 : Value) (y0 y1 y2 y3 y4 y5 : DataW H × List MemPlace) (n : Nat), v = .agg #[v0, v1, v2, v3, v4, v5] ∧ d = .agg [y0.1, y1.1, y2.1, y3.1, y4.1, y5.1] ∧ p = y0.2 ++ (y1.2 ++ (y2.2 ++ (y3.2 ++ (y4.2 ++ y5.2)))) ∧
      DataW.trod enc P w base spare held n f0.type [v0] = some y0 ∧ DataW.trod enc P w base spare held n f1.type [v1] = some y1 ∧ DataW.trod enc P w base spare held n f2.type [v2] = some y2 ∧ DataW.trod enc P w base spare held n f3.type [v3] = some y3 ∧ DataW.trod enc P w base spare held n f4.type [v4] = some y4 ∧ DataW.trod enc P w base spare held n f5.type [v5] = some y5 := by
  obtain ⟨cs, rfl, hsz⟩ := okWide_struct hs hv
  obtain ⟨l⟩ := cs
  match l, hsz.trans hC with
  | [c0, c1, c2, c3, c4, c5], _ =>
    obtain ⟨fuel, hf⟩ := h
    obtain ⟨xs, n, _, hx, _, hlen, hg⟩ := DataW.trod_struct hs hf
    obtain ⟨o0, k0⟩ := hone_of hone 0 f0 rfl
    obtain ⟨o1, k1⟩ := hone_of hone 1 f1 rfl
    obtain ⟨o2, k2⟩ := hone_of hone 2 f2 rfl
    obtain ⟨o3, k3⟩ := hone_of hone 3 f3 rfl
    obtain ⟨o4, k4⟩ := hone_of hone 4 f4 rfl
    obtain ⟨o5, k5⟩ := hone_of hone 5 f5 rfl
    match xs, hlen with
    | [y0, y1, y2, y3, y4, y5], _ =>
      simp only [Prod.mk.injEq] at hx
      exact ⟨c0, c1, c2, c3, c4, c5, y0, y1, y2, y3, y4, y5, n, rfl, by simpa using hx.1, by simpa using hx.2, by simpa [Value.cells, o0, k0] using hg 0 f0 rfl, by simpa [Value.cells, o1, k1] using hg 1 f1 rfl, by simpa [Value.cells, o2, k2] using hg 2 f2 rfl, by simpa [Value.cells, o3, k3] using hg 3 f3 rfl, by simpa [Value.cells, o4, k4] using hg 4 f4 rfl, by simpa [Value.cells, o5, k5] using hg 5 f5 rfl⟩
end

end Go.Proofs.Ytblfagmoilhdnaa

/- An argument that is a slice of bytes: opened to its bytes. -/
set_option linter.unusedVariables false
set_option linter.unusedSimpArgs false
namespace Go.Proofs.Ytblfagmoilhdnaa
open Go.Joins Go.ChangeShapes Go.WideShapes Go.RowKit Go.Deep
theorem list_of {α : Type} {P : Nat → α → Prop} : ∀ n, (∀ i, i < n → ∃ x, P i x) → ∃ l : List α, l.length = n ∧ ∀ (i : Nat) (x : α), l[i]? = some x → P i x
  | 0, _ => ⟨[], rfl, fun i x h => by simp at h⟩
  | n + 1, h => by
    obtain ⟨l, hl, hp⟩ := list_of n (fun i hi => h i (by omega))
    obtain ⟨x, hx⟩ := h n (by omega)
    refine ⟨l ++ [x], by simp [hl], fun i y hy => ?_⟩
    by_cases hi : i < l.length
    · rw [List.getElem?_append_left hi] at hy
      exact hp i y hy
    · have hlt := (List.getElem?_eq_some_iff.1 hy).1
      simp at hlt
      have : i = n := by omega
      subst this
      rw [List.getElem?_append_right (by omega)] at hy
      simp [hl] at hy
      subst hy
      exact hx
section
variable {H : Type} {enc : TypeId × Value → H} {w : World} {base : Nat} {spare : Nat → Bool} {held : Bool}
theorem trod_row {fuel : Nat} {v : Value} {y : DataW H × List MemPlace} (h : DataW.trod enc Try.prog w base spare held fuel 25 [v] = some y) : ∃ A l c, v = .slice A l c ∧ ∃ bs, IsB w w.heap.size A l bs ∧ (A = none → c = 0) := by
  rcases DataW.trod_slice Try.underlying25 h with ⟨hcs, _⟩ | ⟨a, len, cap, elems, rest, n, _, hcs, rfl, hb, hl, hm, hlen, hel, hsp, hns⟩
  · simp at hcs
    subst hcs
    exact ⟨none, 0, 0, rfl, [], ⟨Reads.none_, by simp, by omega⟩, fun _ => rfl⟩
  · simp at hcs
    subst hcs
    rcases open_slice Try.underlying25 h with ⟨h0, _⟩ | ⟨a', len', cap', m, n', D, Pl, hcs, hb, hl, hm, hmm, hx, hi⟩
    · simp at h0
    · simp at hcs
      obtain ⟨rfl, rfl, rfl⟩ := hcs
      refine ⟨some a, len, cap, rfl, ?_⟩
      have hle : len ≤ m := by rw [hmm]; split <;> omega
      have hc1 : Try.prog.cellsOf 5 = 1 := by kernel_rfl
      obtain ⟨bs, hbl, hbs⟩ := list_of (P := fun i b => w.cell? (a.add i) = some (u8 b) ∧ b < 256) len (fun i hil => by
        obtain ⟨cs', h1, h2⟩ := hi i (by omega)
        rw [hc1, Nat.mul_one] at h1
        obtain ⟨z, rfl, _, hw⟩ := DataW.trod_int (k := .u8) Try.underlying5 h2
        obtain ⟨_, _, hat⟩ := World.cells?_some h1
        obtain ⟨s, rfl, hs⟩ := nat_of_u8 hw
        have := hat 0 (by omega)
        rw [add_of_add, Nat.add_zero] at this
        exact ⟨s, by rw [this]; rfl, hs⟩)
      refine ⟨bs, ⟨⟨by simp [hbl], fun h0 => ⟨a, rfl, ?_, fun j u hu => ?_⟩⟩, fun b hb' => ?_, by unfold maxLen at hm; omega⟩, fun h => by cases h⟩
      · have h2 := (hbs 0 _ (List.getElem?_eq_getElem (by omega))).1
        have := World.block_lt_of_cell? w _ h2
        rwa [block_of_add] at this
      · rw [List.getElem?_map] at hu
        obtain ⟨b, hb1, rfl⟩ := Option.map_eq_some_iff.1 hu
        exact (hbs j b hb1).1
      · obtain ⟨i, hi1, rfl⟩ := List.mem_iff_getElem.1 hb'
        exact (hbs i _ (List.getElem?_eq_getElem hi1)).2
set_option maxRecDepth 100000 in
theorem trod_le {fuel : Nat} {A : Option Addr} {l c : Nat} {y : DataW H × List MemPlace} (h : DataW.trod enc Try.prog w base spare held fuel 25 [.slice A l c] = some y) : l ≤ c := by
  rcases DataW.trod_slice Try.underlying25 h with ⟨hcs, _⟩ | ⟨a, len, cap, elems, rest, n, _, hcs, rfl, hb, hl, hm, hlen, hel, hsp, hns⟩
  · simp at hcs; omega
  · simp at hcs; omega
end
end Go.Proofs.Ytblfagmoilhdnaa
