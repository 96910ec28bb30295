/- Sets of bytes as 256 truths: the walk of the law's mark. -/
import Derived.Test.YtchajbegjajlkaaSpP8
import Derived.Deep.MidRow
import Derived.Deep.WholeRow
import Derived.ChangeKeysEq
import Derived.Laws.Rows
set_option linter.unusedVariables false
set_option linter.unusedSimpArgs false
namespace Go.Proofs.Ytchajbegjajlkaa
open Go.RowKit
/-- 256 truths -/
def ptV (f : Nat → Bool) : List Value := (List.range 256).map fun i => .bool (f i)
theorem ptV_len (f : Nat → Bool) : (ptV f).length = 256 := by simp [ptV]
theorem ptV_get (f : Nat → Bool) {i : Nat} (h : i < 256) : (ptV f)[i]? = some (.bool (f i)) := by
  unfold ptV; rw [List.getElem?_map, List.getElem?_range h]; rfl
theorem ptV_one (f : Nat → Bool) : ∀ v ∈ ptV f, v.oneCell' = true := by
  intro v hv
  obtain ⟨i, _, rfl⟩ := List.mem_map.1 hv
  rfl
theorem ptV_set (f g : Nat → Bool) {p : Nat} {b : Bool} (hp : p < 256) (h : ∀ i, g i = if i = p then b else f i) : (ptV f).set p (.bool b) = ptV g := by
  apply List.ext_getElem?
  intro i
  rw [List.getElem?_set]
  by_cases hi : i < 256
  · rw [ptV_get _ hi, ptV_get _ hi, ptV_len, h]
    by_cases e : p = i
    · subst e; rw [if_pos rfl, if_pos hp, if_pos rfl]
    · rw [if_neg e, if_neg (fun h => e h.symm)]
  · rw [if_neg (by omega), List.getElem?_eq_none (by rw [ptV_len]; omega), List.getElem?_eq_none (by rw [ptV_len]; omega)]
theorem ptV_congr {f g : Nat → Bool} (h : ∀ i, i < 256 → f i = g i) : ptV f = ptV g := by
  unfold ptV
  exact List.map_congr_left fun i hi => by rw [h i (List.mem_range.1 hi)]
theorem infoPt : (Try.prog.info? 45).map (fun i => (i.zero, i.size)) = some (some (.agg (ptV (fun _ => false)).toArray), 256) := by kernel_rfl
theorem pt_range {w : World} {g : Nat} {t : TypeId} {V : List Value} (h : Row w g t V) : w.rangeAt g 0 V := fun j v hv => by rw [Nat.zero_add, h.cell, hv]
theorem pt_there {w : World} {g : Nat} {t : TypeId} {V : List Value} (h : Row w g t V) : w.there g 0 V.length := fun j hj => by
  rw [Nat.zero_add]
  exact ⟨by rw [h.cell, List.getElem?_eq_getElem hj]; rfl, h.frozen j⟩
theorem setRow_sets {w : World} {g : Nat} {t : TypeId} {cs : List Value} (h : Row w g t cs) (V : List Value) : Row (w.setRow g V.toArray) g t V := setRow_heap w g _ _ t _ h
theorem pt_storeCells {P : Program} {w : World} {g : Nat} {ty t : TypeId} {cs V : List Value} (h : Row w g t cs) (hi : (P.info? ty).map (·.size) = some V.length) (ho : cs.length = V.length) (h1 : ∀ v ∈ V, v.oneCell' = true) :
    (storeCells ⟨g, 0, none⟩ V 0).run P w = .ok () (w.setRow g V.toArray) := by
  have := run_storeVar_row (P := P) w g t ty cs.toArray V.toArray h (by simpa using hi) (by simpa using ho) (all_oneCell_toArray h1)
  cases hq : P.info? ty with
  | none => simp [hq] at hi
  | some i =>
    have hs : i.size = V.length := by simp [hq] at hi; omega
    simpa [storeVar, sizeOf, typeInfo, hq, Value.cells, hs] using this
/-- the truths with a span's turned -/
def markF (f : Nat → Bool) (a b : Nat) (on : Bool) : Nat → Bool := fun i => if a ≤ i ∧ i ≤ b then on else f i
set_option maxRecDepth 100000 in
set_option maxHeartbeats 1000000 in
theorem mark_any (f : Nat → Bool) (x y : Nat) (on : Bool) (w : World) (hx : x ≤ 18446744073709551615) (hy : y ≤ 18446744073709551615) :
    Calls Try.prog 17 #[.agg (ptV f).toArray, .int .u64 (x : Nat), .int .u64 (y : Nat), .bool on] w fun e w' => e = .returned (.agg (ptV (markF f (x % 256) (y % 256) on)).toArray) ∧ Below w.heap.size w w' := by
  obtain ⟨hz, hsz⟩ := zero_of_info infoPt
  obtain ⟨a, ha⟩ : ∃ a, a = x % 256 := ⟨_, rfl⟩
  obtain ⟨b, hb⟩ : ∃ b, b = y % 256 := ⟨_, rfl⟩
  have e1 : IntKind.u8.wrap (x : Int) = (a : Int) := by rw [IntKind.wrap_u8, ha]; omega
  have e2 : IntKind.u8.wrap (y : Int) = (b : Int) := by rw [IntKind.wrap_u8, hb]; omega
  have ha8 : a ≤ 255 := by omega
  have hb8 : b ≤ 255 := by omega
  rw [← ha, ← hb]
  obtain ⟨G, hG⟩ : ∃ G, G = ptV (markF f a b on) := ⟨_, rfl⟩
  rw [← hG]
  have HG := Lib.hid hG
  obtain ⟨V, hV⟩ : ∃ V, V = ptV f := ⟨_, rfl⟩
  obtain ⟨Z, hZ⟩ : ∃ Z, Z = ptV (fun _ => false) := ⟨_, rfl⟩
  rw [← hZ] at hz
  rw [← hV]
  obtain ⟨w0, hw0⟩ : ∃ w0, w0 = (w.alloc (.cells V.toArray 45)).alloc (.cells Z.toArray 45) := ⟨_, rfl⟩
  have hr1 : Row w0 w.heap.size 45 V := by rw [hw0]; exact (Row.new w 45 V).alloc _
  have hr2 : Row w0 (w.heap.size + 1) 45 Z := by
    have h := Row.new (w.alloc (.cells V.toArray 45)) 45 Z
    rw [show (w.alloc (.cells V.toArray 45)).heap.size = w.heap.size + 1 by simp] at h
    rw [hw0]; exact h
  have hbel : Below w.heap.size w w0 := by rw [hw0]; exact ((Below.refl w.heap.size w).alloc (Nat.le_refl _) _).alloc (by simp) _
  have HR1 : Hid (Row w0 w.heap.size 45 (ptV (fun i => if a ≤ i ∧ i < a then on else f i))) := Lib.hid (by
    rw [show ptV (fun i => if a ≤ i ∧ i < a then on else f i) = V by rw [hV]; exact ptV_congr (fun i _ => if_neg (by omega))]
    exact hr1)
  have HR2 := Lib.hid hr2; have HB := Lib.hid hbel
  have HZL : Hid (Z.length = 256) := Lib.hid (by rw [hZ, ptV_len])
  have HSZ := Lib.hid hsz
  clear ha hb hG hV hZ hx hy hr1 hr2 hbel hsz
  go_enter Try.func17, Try.ntmps17
  go_upto_region 1 with fail
  rw [← hw0]
  clear hw0 hz
  go_wp2_with fail
  go_loopw [9] (fun z wr => ∃ p : Nat, a ≤ p ∧ (p = a ∨ p ≤ b + 1) ∧ z = .int .i64 (p : Nat) ∧ Hid (Row wr w.heap.size 45 (ptV (fun i => if a ≤ i ∧ i < p then on else f i))) ∧ Hid (Row wr (w.heap.size + 1) 45 Z) ∧ Hid (Below w.heap.size w wr)) (fun z _ => 256 - (intOf z).toNat)
  case atStart => exact ⟨a, Nat.le_refl _, .inl rfl, rfl, HR1, HR2, HB⟩
  case round =>
  clear HR1 HR2 HB
  obtain ⟨p, hap, hpb, rfl, HR1, HR2, HB⟩ := hrel
  by_cases hp : p ≤ b
  · have hp8 : p < 256 := by omega
    have f1 : decide (p ≤ b) = true := decide_eq_true hp
    have hp0 : (0 : Int) ≤ (p : Int) := by omega
    have hp9 : (p : Int) < 256 := by omega
    have c0 := HR1.out.cell p
    rw [ptV_get _ hp8] at c0
    have ff := HR1.out.frozen p
    have fl := HR1.out.lt
    have HS : Hid (Row (wr.setCell ⟨w.heap.size, p, none⟩ (.bool on)) w.heap.size 45 (ptV (fun i => if a ≤ i ∧ i < p + 1 then on else f i))) := Lib.hid (by
      have h := HR1.out.set_ p (.bool on)
      rw [ptV_set _ (fun i => if a ≤ i ∧ i < p + 1 then on else f i) hp8 (fun i => by
        by_cases e : i = p
        · subst e; rw [if_pos rfl, if_pos ⟨hap, by omega⟩]
        · rw [if_neg e]
          by_cases h1 : a ≤ i ∧ i < p
          · rw [if_pos h1, if_pos (by omega)]
          · rw [if_neg h1, if_neg (by omega)])] at h
      exact h)
    have HS2 : Hid (Row (wr.setCell ⟨w.heap.size, p, none⟩ (.bool on)) (w.heap.size + 1) 45 Z) := Lib.hid (HR2.out.far (p := ⟨w.heap.size, p, none⟩) (show w.heap.size + 1 ≠ w.heap.size by omega) _)
    have HS3 : Hid (Below w.heap.size w (wr.setCell ⟨w.heap.size, p, none⟩ (.bool on))) := Lib.hid (HB.out.setCell (p := ⟨w.heap.size, p, none⟩) (Nat.le_refl _) _)
    go_wp2_with fail
    go_roundw
    case rel => exact ⟨p + 1, by omega, .inr (by omega), by go_num, HS, HS2, HS3⟩
    case measure => simp [intOf]; omega
  · have f1 : decide (p ≤ b) = false := decide_eq_false hp
    have HE : Hid (ptV (fun i => if a ≤ i ∧ i < p then on else f i) = G) := Lib.hid (by
      rw [HG.out]
      exact ptV_congr (fun i _ => by
        unfold markF
        by_cases h1 : a ≤ i ∧ i ≤ b
        · rw [if_pos h1, if_pos (by omega)]
        · rw [if_neg h1, if_neg (by omega)]))
    have hr := HR1.out
    rw [HE.out] at hr
    have hGl : G.length = 256 := by rw [HG.out, ptV_len]
    have hG1 : ∀ v ∈ G, v.oneCell' = true := by rw [HG.out]; exact ptV_one _
    have HR := Lib.hid hr
    have hst := pt_storeCells (P := Try.prog) (ty := 45) HR2.out (by rw [hGl]; exact HSZ.out) (by rw [hGl, HZL.out]) hG1
    have hr2 := setRow_sets HR2.out G
    have HR9 := Lib.hid hr2
    have HB2 := Lib.hid (below_setRow HB.out (Nat.le_succ w.heap.size) G.toArray)
    have HGL := Lib.hid hGl
    clear hG1 hr hr2 hGl HR1 HR2 hpb hap
    go_upto_region 5 with fail
    go_wp2_with (refine wpList_load_mid rfl _ _ rfl _ _ (by rfl) G (.array 256 4) (pt_range HR.out) Try.underlying45 rfl (by rw [HSZ.out, HGL.out]) ?_)
    exact bodyPost_ret (v := .agg G.toArray) (results_cell_row rfl _ _ (w.heap.size + 1) _ G.toArray _ (.array 256 4) rfl HR9.out Try.underlying45 rfl (by rw [HSZ.out]; simp [HGL.out])) rfl ⟨rfl, HB2.out⟩
end Go.Proofs.Ytchajbegjajlkaa
