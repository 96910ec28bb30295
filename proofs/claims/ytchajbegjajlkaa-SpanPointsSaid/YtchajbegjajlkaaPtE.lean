/- The law's truths: equal or not; what two make; the fewest spans of them. -/
import Derived.Test.YtchajbegjajlkaaSpF
import Derived.Stop.BytesEq
set_option linter.unusedVariables false
set_option linter.unusedSimpArgs false
namespace Go.Proofs.Ytchajbegjajlkaa
open Go.RowKit
open S8
theorem all_range_eqB : ∀ (xs ys : List Bool), xs.length = ys.length → ((List.range xs.length).all fun i => xs.getD i false == ys.getD i false) = (xs == ys)
  | [], [], _ => rfl
  | x :: xs, y :: ys, h => by
    have ih := all_range_eqB xs ys (by simpa using h)
    rw [List.length_cons, List.range_succ_eq_map, List.all_cons, List.all_map]
    simp only [List.getD_cons_zero, Function.comp_def, List.getD_cons_succ, ih]
    simp [List.cons_beq_cons]
  | [], _ :: _, h => by simp at h
  | _ :: _, [], h => by simp at h
theorem run_equalIn_bools {P : Program} (w : World) (d : Nat) (t e : TypeId) (n : Nat) (ht : P.underlying t = some (.array n e)) (he : P.underlying e = some .bool) (hsz : ∀ w, (sizeOf e).run P w = .ok 1 w)
    (xs ys : List Bool) (hx : xs.length = n) (hy : ys.length = n) :
    (Op.equalIn (d + 2) t (.agg (xs.map Value.bool).toArray) (.agg (ys.map Value.bool).toArray)).run P w = .ok (xs == ys) w := by
  rw [← all_range_eqB xs ys (hx.trans hy.symm), hx, List.range_eq_range', Op.equalIn]
  simp only [Sem.run_bind, run_underlying ht, Result.andThen_ok, hsz, Std.Legacy.Range.forIn_eq_forIn_range', Std.Legacy.Range.size, Nat.sub_zero, Nat.add_sub_cancel, Nat.div_one]
  have hl : ∀ i ∈ List.range' 0 n 1, i < n := fun i hi => by simpa using (List.mem_range'_1.1 hi).2
  generalize List.range' 0 n 1 = l at hl ⊢
  induction l with
  | nil => simp
  | cons i l ih =>
    have hi : i < n := hl i (by simp)
    have px : (part e (xs.map Value.bool).toArray (i * 1)).run P w = .ok (Value.bool (xs.getD i false)) w := by
      simp [part, isAgg, run_underlying he, List.getD, List.getElem?_eq_getElem (show i < xs.length by omega)]
    have py : (part e (ys.map Value.bool).toArray (i * 1)).run P w = .ok (Value.bool (ys.getD i false)) w := by
      simp [part, isAgg, run_underlying he, List.getD, List.getElem?_eq_getElem (show i < ys.length by omega)]
    have pe : (Op.equalIn (d + 1) e (Value.bool (xs.getD i false)) (Value.bool (ys.getD i false))).run P w = .ok (xs.getD i false == ys.getD i false) w := run_equalIn_bool w d e _ _ he
    simp only [List.forIn_cons, Sem.run_bind, px, py, pe, Result.andThen_ok, List.all_cons]
    cases hb : (xs.getD i false == ys.getD i false)
    · simp
    · simp only [Bool.not_true, Bool.false_eq_true, if_false, Sem.run_pure, Result.andThen_ok, Bool.true_and]
      exact ih fun j hj => hl j (by simp [hj])
/-- are two sets of bytes one? -/
def ptEq (f g : Nat → Bool) : Bool := (List.range 256).map f == (List.range 256).map g
theorem ptV_map (f : Nat → Bool) : ptV f = ((List.range 256).map f).map Value.bool := by
  unfold ptV
  rw [List.map_map]
  rfl
theorem ptEq_iff {f g : Nat → Bool} : ptEq f g = true ↔ ∀ i, i < 256 → f i = g i := by
  unfold ptEq
  rw [beq_iff_eq]
  constructor
  · intro h i hi
    have h1 := congrArg (fun l => l[i]?) h
    simp only [List.getElem?_map, List.getElem?_range hi, Option.map_some, Option.some.injEq] at h1
    exact h1
  · intro h
    exact List.map_congr_left fun i hi => h i (List.mem_range.1 hi)
theorem run_eql_pt (w : World) (f g : Nat → Bool) : (binOp .eql 45 (.agg (ptV f).toArray) (.agg (ptV g).toArray)).run Try.prog w = .ok (.bool (ptEq f g)) w := by
  rw [run_eql_struct, ptV_map f, ptV_map g, run_equalIn_bools w 9998 45 4 256 Try.underlying45 Try.underlying4 (fun w => by kernel_rfl) _ _ (by simp) (by simp)]
  rfl
/-- what two sets of bytes make -/
def madeF (k : Nat) (f g : Nat → Bool) : Nat → Bool := fun i => if k = 4 then f i || g i else if k = 5 then f i && g i else f i && !g i
set_option maxRecDepth 100000 in
set_option maxHeartbeats 1000000 in
theorem made4_any (f g : Nat → Bool) (w : World) :
    Calls Try.prog 25 #[.int .i64 4, .agg (ptV f).toArray, .agg (ptV g).toArray] w fun e w' => e = .returned (.agg (ptV (madeF 4 f g)).toArray) ∧ Below w.heap.size w w' := by
  obtain ⟨hz, hsz⟩ := zero_of_info infoPt
  have HSZ := Lib.hid hsz
  obtain ⟨G, hG⟩ : ∃ G, G = ptV (madeF 4 f g) := ⟨_, rfl⟩
  rw [← hG]
  have HG := Lib.hid hG
  obtain ⟨V, hV⟩ : ∃ V, V = ptV f := ⟨_, rfl⟩
  obtain ⟨U, hU⟩ : ∃ U, U = ptV g := ⟨_, rfl⟩
  obtain ⟨Z, hZ⟩ : ∃ Z, Z = ptV (fun _ => false) := ⟨_, rfl⟩
  rw [← hZ] at hz
  rw [← hV, ← hU]
  obtain ⟨w0, hw0⟩ : ∃ w0, w0 = ((w.alloc (.cells V.toArray 45)).alloc (.cells U.toArray 45)).alloc (.cells Z.toArray 45) := ⟨_, rfl⟩
  have hr1 : Row w0 w.heap.size 45 V := by rw [hw0]; exact ((Row.new w 45 V).alloc _).alloc _
  have hs1 : (w.alloc (.cells V.toArray 45)).heap.size = w.heap.size + 1 := by simp
  have hs2 : ((w.alloc (.cells V.toArray 45)).alloc (.cells U.toArray 45)).heap.size = w.heap.size + 1 + 1 := by simp
  have hr2 : Row w0 (w.heap.size + 1) 45 U := by
    have h := Row.new (w.alloc (.cells V.toArray 45)) 45 U
    rw [hs1] at h
    rw [hw0]; exact h.alloc _
  have hr3 : Row w0 (w.heap.size + 1 + 1) 45 Z := by
    have h := Row.new ((w.alloc (.cells V.toArray 45)).alloc (.cells U.toArray 45)) 45 Z
    rw [hs2] at h
    rw [hw0]; exact h
  have hbel : Below w.heap.size w w0 := by rw [hw0]; exact (((Below.refl w.heap.size w).alloc (Nat.le_refl _) _).alloc (by simp) _).alloc (by simp; omega) _
  have HR1 : Hid (Row w0 w.heap.size 45 (ptV (fun i => if i < 0 then madeF 4 f g i else f i))) := Lib.hid (by
    rw [show ptV (fun i => if i < 0 then madeF 4 f g i else f i) = V by rw [hV]; exact ptV_congr (fun i _ => if_neg (by omega))]
    exact hr1)
  have HR2 : Hid (Row w0 (w.heap.size + 1) 45 (ptV g)) := Lib.hid (by rw [← hU]; exact hr2)
  have HR3 := Lib.hid hr3; have HB := Lib.hid hbel
  have HZL : Hid (Z.length = 256) := Lib.hid (by rw [hZ, ptV_len])
  clear hG hV hU hZ hr1 hr2 hr3 hbel hsz hs1 hs2
  go_enter Try.func25, Try.ntmps25
  go_upto_region 1 with fail
  rw [← hw0]
  clear hw0 hz
  go_wp2_with fail
  go_loopw [7] (fun z wr => ∃ p : Nat, p ≤ 256 ∧ z = .int .i64 (p : Nat) ∧ Hid (Row wr w.heap.size 45 (ptV (fun i => if i < p then madeF 4 f g i else f i))) ∧ Hid (Row wr (w.heap.size + 1) 45 (ptV g)) ∧ Hid (Row wr (w.heap.size + 1 + 1) 45 Z) ∧ Hid (Below w.heap.size w wr)) (fun z _ => 256 - (intOf z).toNat)
  case atStart => exact ⟨0, by omega, rfl, HR1, HR2, HR3, HB⟩
  case round =>
  clear HR1 HR2 HR3 HB
  obtain ⟨p, hp6, rfl, HR1, HR2, HR3, HB⟩ := hrel
  by_cases hp : p < 256
  · have f1 : decide ((p : Int) < 256) = true := decide_eq_true (by omega)
    have hp0 : (0 : Int) ≤ (p : Int) := by omega
    have hp9 : (p : Int) < 256 := by omega
    have c0 := HR1.out.cell p
    rw [ptV_get _ hp, if_neg (by omega)] at c0
    have d0 := HR2.out.cell p
    rw [ptV_get _ hp] at d0
    have dl := HR2.out.lt
    have ff := HR1.out.frozen p
    have fl := HR1.out.lt
    have HS : Hid (∀ b : Bool, b = madeF 4 f g p → Row (wr.setCell ⟨w.heap.size, p, none⟩ (.bool b)) w.heap.size 45 (ptV (fun i => if i < p + 1 then madeF 4 f g i else f i))) := Lib.hid (fun b hb => by
      have h := HR1.out.set_ p (.bool b)
      rw [ptV_set _ (fun i => if i < p + 1 then madeF 4 f g i else f i) hp (fun i => by
        by_cases e : i = p
        · subst e; rw [if_pos rfl, if_pos (by omega), hb]
        · rw [if_neg e]
          by_cases h1 : i < p
          · rw [if_pos h1, if_pos (by omega)]
          · rw [if_neg h1, if_neg (by omega)])] at h
      exact h)
    have HS2 : Hid (∀ b, Row (wr.setCell ⟨w.heap.size, p, none⟩ (.bool b)) (w.heap.size + 1) 45 (ptV g)) := Lib.hid (fun b => HR2.out.far (p := ⟨w.heap.size, p, none⟩) (show w.heap.size + 1 ≠ w.heap.size by omega) _)
    have HS4 : Hid (∀ b, Row (wr.setCell ⟨w.heap.size, p, none⟩ (.bool b)) (w.heap.size + 1 + 1) 45 Z) := Lib.hid (fun b => HR3.out.far (p := ⟨w.heap.size, p, none⟩) (show w.heap.size + 1 + 1 ≠ w.heap.size by omega) _)
    have HS3 : Hid (∀ b, Below w.heap.size w (wr.setCell ⟨w.heap.size, p, none⟩ (.bool b))) := Lib.hid (fun b => HB.out.setCell (p := ⟨w.heap.size, p, none⟩) (Nat.le_refl _) _)
    obtain ⟨x, hx⟩ : ∃ x, x = f p := ⟨_, rfl⟩
    obtain ⟨y, hy⟩ : ∃ y, y = g p := ⟨_, rfl⟩
    rw [← hx] at c0
    rw [← hy] at d0
    have HMF : Hid (madeF 4 f g p = (x || y)) := Lib.hid (by rw [hx, hy]; rfl)
    clear hx hy
    cases x <;> cases y
    all_goals
      go_wp2_with fail
      go_roundw
      case rel => exact ⟨p + 1, by omega, by go_num, Lib.hid (HS.out _ (by rw [HMF.out]; rfl)), Lib.hid (HS2.out _), Lib.hid (HS4.out _), Lib.hid (HS3.out _)⟩
      case measure => simp [intOf]; omega
  · have f1 : decide ((p : Int) < 256) = false := decide_eq_false (by omega)
    have HE : Hid (ptV (fun i => if i < p then madeF 4 f g i else f i) = G) := Lib.hid (by
      rw [HG.out]
      exact ptV_congr (fun i _ => if_pos (by omega)))
    have hr := HR1.out
    rw [HE.out] at hr
    have hGl : G.length = 256 := by rw [HG.out, ptV_len]
    have hG1 : ∀ v ∈ G, v.oneCell' = true := by rw [HG.out]; exact ptV_one _
    have HR := Lib.hid hr
    have hst := pt_storeCells (P := Try.prog) (ty := 45) HR3.out (by rw [hGl]; exact HSZ.out) (by rw [hGl, HZL.out]) hG1
    have hr2 := setRow_sets HR3.out G
    have HR9 := Lib.hid hr2
    have HB2 := Lib.hid (below_setRow HB.out (show w.heap.size ≤ w.heap.size + 1 + 1 by omega) G.toArray)
    have HGL := Lib.hid hGl
    clear hG1 hr hr2 hGl HR1 HR2 HR3 hp6
    go_upto_region 11 with fail
    go_wp2_with (refine wpList_load_mid rfl _ _ rfl _ _ (by rfl) G (.array 256 4) (pt_range HR.out) Try.underlying45 rfl (by rw [HSZ.out, HGL.out]) ?_)
    exact bodyPost_ret (v := .agg G.toArray) (results_cell_row rfl _ _ (w.heap.size + 1 + 1) _ G.toArray _ (.array 256 4) rfl HR9.out Try.underlying45 rfl (by rw [HSZ.out]; simp [HGL.out])) rfl ⟨rfl, HB2.out⟩
set_option maxRecDepth 100000 in
set_option maxHeartbeats 1000000 in
theorem made5_any (f g : Nat → Bool) (w : World) :
    Calls Try.prog 25 #[.int .i64 5, .agg (ptV f).toArray, .agg (ptV g).toArray] w fun e w' => e = .returned (.agg (ptV (madeF 5 f g)).toArray) ∧ Below w.heap.size w w' := by
  obtain ⟨hz, hsz⟩ := zero_of_info infoPt
  have HSZ := Lib.hid hsz
  obtain ⟨G, hG⟩ : ∃ G, G = ptV (madeF 5 f g) := ⟨_, rfl⟩
  rw [← hG]
  have HG := Lib.hid hG
  obtain ⟨V, hV⟩ : ∃ V, V = ptV f := ⟨_, rfl⟩
  obtain ⟨U, hU⟩ : ∃ U, U = ptV g := ⟨_, rfl⟩
  obtain ⟨Z, hZ⟩ : ∃ Z, Z = ptV (fun _ => false) := ⟨_, rfl⟩
  rw [← hZ] at hz
  rw [← hV, ← hU]
  obtain ⟨w0, hw0⟩ : ∃ w0, w0 = ((w.alloc (.cells V.toArray 45)).alloc (.cells U.toArray 45)).alloc (.cells Z.toArray 45) := ⟨_, rfl⟩
  have hr1 : Row w0 w.heap.size 45 V := by rw [hw0]; exact ((Row.new w 45 V).alloc _).alloc _
  have hs1 : (w.alloc (.cells V.toArray 45)).heap.size = w.heap.size + 1 := by simp
  have hs2 : ((w.alloc (.cells V.toArray 45)).alloc (.cells U.toArray 45)).heap.size = w.heap.size + 1 + 1 := by simp
  have hr2 : Row w0 (w.heap.size + 1) 45 U := by
    have h := Row.new (w.alloc (.cells V.toArray 45)) 45 U
    rw [hs1] at h
    rw [hw0]; exact h.alloc _
  have hr3 : Row w0 (w.heap.size + 1 + 1) 45 Z := by
    have h := Row.new ((w.alloc (.cells V.toArray 45)).alloc (.cells U.toArray 45)) 45 Z
    rw [hs2] at h
    rw [hw0]; exact h
  have hbel : Below w.heap.size w w0 := by rw [hw0]; exact (((Below.refl w.heap.size w).alloc (Nat.le_refl _) _).alloc (by simp) _).alloc (by simp; omega) _
  have HR1 : Hid (Row w0 w.heap.size 45 (ptV (fun i => if i < 0 then madeF 5 f g i else f i))) := Lib.hid (by
    rw [show ptV (fun i => if i < 0 then madeF 5 f g i else f i) = V by rw [hV]; exact ptV_congr (fun i _ => if_neg (by omega))]
    exact hr1)
  have HR2 : Hid (Row w0 (w.heap.size + 1) 45 (ptV g)) := Lib.hid (by rw [← hU]; exact hr2)
  have HR3 := Lib.hid hr3; have HB := Lib.hid hbel
  have HZL : Hid (Z.length = 256) := Lib.hid (by rw [hZ, ptV_len])
  clear hG hV hU hZ hr1 hr2 hr3 hbel hsz hs1 hs2
  go_enter Try.func25, Try.ntmps25
  go_upto_region 1 with fail
  rw [← hw0]
  clear hw0 hz
  go_wp2_with fail
  go_loopw [7] (fun z wr => ∃ p : Nat, p ≤ 256 ∧ z = .int .i64 (p : Nat) ∧ Hid (Row wr w.heap.size 45 (ptV (fun i => if i < p then madeF 5 f g i else f i))) ∧ Hid (Row wr (w.heap.size + 1) 45 (ptV g)) ∧ Hid (Row wr (w.heap.size + 1 + 1) 45 Z) ∧ Hid (Below w.heap.size w wr)) (fun z _ => 256 - (intOf z).toNat)
  case atStart => exact ⟨0, by omega, rfl, HR1, HR2, HR3, HB⟩
  case round =>
  clear HR1 HR2 HR3 HB
  obtain ⟨p, hp6, rfl, HR1, HR2, HR3, HB⟩ := hrel
  by_cases hp : p < 256
  · have f1 : decide ((p : Int) < 256) = true := decide_eq_true (by omega)
    have hp0 : (0 : Int) ≤ (p : Int) := by omega
    have hp9 : (p : Int) < 256 := by omega
    have c0 := HR1.out.cell p
    rw [ptV_get _ hp, if_neg (by omega)] at c0
    have d0 := HR2.out.cell p
    rw [ptV_get _ hp] at d0
    have dl := HR2.out.lt
    have ff := HR1.out.frozen p
    have fl := HR1.out.lt
    have HS : Hid (∀ b : Bool, b = madeF 5 f g p → Row (wr.setCell ⟨w.heap.size, p, none⟩ (.bool b)) w.heap.size 45 (ptV (fun i => if i < p + 1 then madeF 5 f g i else f i))) := Lib.hid (fun b hb => by
      have h := HR1.out.set_ p (.bool b)
      rw [ptV_set _ (fun i => if i < p + 1 then madeF 5 f g i else f i) hp (fun i => by
        by_cases e : i = p
        · subst e; rw [if_pos rfl, if_pos (by omega), hb]
        · rw [if_neg e]
          by_cases h1 : i < p
          · rw [if_pos h1, if_pos (by omega)]
          · rw [if_neg h1, if_neg (by omega)])] at h
      exact h)
    have HS2 : Hid (∀ b, Row (wr.setCell ⟨w.heap.size, p, none⟩ (.bool b)) (w.heap.size + 1) 45 (ptV g)) := Lib.hid (fun b => HR2.out.far (p := ⟨w.heap.size, p, none⟩) (show w.heap.size + 1 ≠ w.heap.size by omega) _)
    have HS4 : Hid (∀ b, Row (wr.setCell ⟨w.heap.size, p, none⟩ (.bool b)) (w.heap.size + 1 + 1) 45 Z) := Lib.hid (fun b => HR3.out.far (p := ⟨w.heap.size, p, none⟩) (show w.heap.size + 1 + 1 ≠ w.heap.size by omega) _)
    have HS3 : Hid (∀ b, Below w.heap.size w (wr.setCell ⟨w.heap.size, p, none⟩ (.bool b))) := Lib.hid (fun b => HB.out.setCell (p := ⟨w.heap.size, p, none⟩) (Nat.le_refl _) _)
    obtain ⟨x, hx⟩ : ∃ x, x = f p := ⟨_, rfl⟩
    obtain ⟨y, hy⟩ : ∃ y, y = g p := ⟨_, rfl⟩
    rw [← hx] at c0
    rw [← hy] at d0
    have HMF : Hid (madeF 5 f g p = (x && y)) := Lib.hid (by rw [hx, hy]; rfl)
    clear hx hy
    cases x <;> cases y
    all_goals
      go_wp2_with fail
      go_roundw
      case rel => exact ⟨p + 1, by omega, by go_num, Lib.hid (HS.out _ (by rw [HMF.out]; rfl)), Lib.hid (HS2.out _), Lib.hid (HS4.out _), Lib.hid (HS3.out _)⟩
      case measure => simp [intOf]; omega
  · have f1 : decide ((p : Int) < 256) = false := decide_eq_false (by omega)
    have HE : Hid (ptV (fun i => if i < p then madeF 5 f g i else f i) = G) := Lib.hid (by
      rw [HG.out]
      exact ptV_congr (fun i _ => if_pos (by omega)))
    have hr := HR1.out
    rw [HE.out] at hr
    have hGl : G.length = 256 := by rw [HG.out, ptV_len]
    have hG1 : ∀ v ∈ G, v.oneCell' = true := by rw [HG.out]; exact ptV_one _
    have HR := Lib.hid hr
    have hst := pt_storeCells (P := Try.prog) (ty := 45) HR3.out (by rw [hGl]; exact HSZ.out) (by rw [hGl, HZL.out]) hG1
    have hr2 := setRow_sets HR3.out G
    have HR9 := Lib.hid hr2
    have HB2 := Lib.hid (below_setRow HB.out (show w.heap.size ≤ w.heap.size + 1 + 1 by omega) G.toArray)
    have HGL := Lib.hid hGl
    clear hG1 hr hr2 hGl HR1 HR2 HR3 hp6
    go_upto_region 11 with fail
    go_wp2_with (refine wpList_load_mid rfl _ _ rfl _ _ (by rfl) G (.array 256 4) (pt_range HR.out) Try.underlying45 rfl (by rw [HSZ.out, HGL.out]) ?_)
    exact bodyPost_ret (v := .agg G.toArray) (results_cell_row rfl _ _ (w.heap.size + 1 + 1) _ G.toArray _ (.array 256 4) rfl HR9.out Try.underlying45 rfl (by rw [HSZ.out]; simp [HGL.out])) rfl ⟨rfl, HB2.out⟩
set_option maxRecDepth 100000 in
set_option maxHeartbeats 1000000 in
theorem made6_any (f g : Nat → Bool) (w : World) :
    Calls Try.prog 25 #[.int .i64 6, .agg (ptV f).toArray, .agg (ptV g).toArray] w fun e w' => e = .returned (.agg (ptV (madeF 6 f g)).toArray) ∧ Below w.heap.size w w' := by
  obtain ⟨hz, hsz⟩ := zero_of_info infoPt
  have HSZ := Lib.hid hsz
  obtain ⟨G, hG⟩ : ∃ G, G = ptV (madeF 6 f g) := ⟨_, rfl⟩
  rw [← hG]
  have HG := Lib.hid hG
  obtain ⟨V, hV⟩ : ∃ V, V = ptV f := ⟨_, rfl⟩
  obtain ⟨U, hU⟩ : ∃ U, U = ptV g := ⟨_, rfl⟩
  obtain ⟨Z, hZ⟩ : ∃ Z, Z = ptV (fun _ => false) := ⟨_, rfl⟩
  rw [← hZ] at hz
  rw [← hV, ← hU]
  obtain ⟨w0, hw0⟩ : ∃ w0, w0 = ((w.alloc (.cells V.toArray 45)).alloc (.cells U.toArray 45)).alloc (.cells Z.toArray 45) := ⟨_, rfl⟩
  have hr1 : Row w0 w.heap.size 45 V := by rw [hw0]; exact ((Row.new w 45 V).alloc _).alloc _
  have hs1 : (w.alloc (.cells V.toArray 45)).heap.size = w.heap.size + 1 := by simp
  have hs2 : ((w.alloc (.cells V.toArray 45)).alloc (.cells U.toArray 45)).heap.size = w.heap.size + 1 + 1 := by simp
  have hr2 : Row w0 (w.heap.size + 1) 45 U := by
    have h := Row.new (w.alloc (.cells V.toArray 45)) 45 U
    rw [hs1] at h
    rw [hw0]; exact h.alloc _
  have hr3 : Row w0 (w.heap.size + 1 + 1) 45 Z := by
    have h := Row.new ((w.alloc (.cells V.toArray 45)).alloc (.cells U.toArray 45)) 45 Z
    rw [hs2] at h
    rw [hw0]; exact h
  have hbel : Below w.heap.size w w0 := by rw [hw0]; exact (((Below.refl w.heap.size w).alloc (Nat.le_refl _) _).alloc (by simp) _).alloc (by simp; omega) _
  have HR1 : Hid (Row w0 w.heap.size 45 (ptV (fun i => if i < 0 then madeF 6 f g i else f i))) := Lib.hid (by
    rw [show ptV (fun i => if i < 0 then madeF 6 f g i else f i) = V by rw [hV]; exact ptV_congr (fun i _ => if_neg (by omega))]
    exact hr1)
  have HR2 : Hid (Row w0 (w.heap.size + 1) 45 (ptV g)) := Lib.hid (by rw [← hU]; exact hr2)
  have HR3 := Lib.hid hr3; have HB := Lib.hid hbel
  have HZL : Hid (Z.length = 256) := Lib.hid (by rw [hZ, ptV_len])
  clear hG hV hU hZ hr1 hr2 hr3 hbel hsz hs1 hs2
  go_enter Try.func25, Try.ntmps25
  go_upto_region 1 with fail
  rw [← hw0]
  clear hw0 hz
  go_wp2_with fail
  go_loopw [7] (fun z wr => ∃ p : Nat, p ≤ 256 ∧ z = .int .i64 (p : Nat) ∧ Hid (Row wr w.heap.size 45 (ptV (fun i => if i < p then madeF 6 f g i else f i))) ∧ Hid (Row wr (w.heap.size + 1) 45 (ptV g)) ∧ Hid (Row wr (w.heap.size + 1 + 1) 45 Z) ∧ Hid (Below w.heap.size w wr)) (fun z _ => 256 - (intOf z).toNat)
  case atStart => exact ⟨0, by omega, rfl, HR1, HR2, HR3, HB⟩
  case round =>
  clear HR1 HR2 HR3 HB
  obtain ⟨p, hp6, rfl, HR1, HR2, HR3, HB⟩ := hrel
  by_cases hp : p < 256
  · have f1 : decide ((p : Int) < 256) = true := decide_eq_true (by omega)
    have hp0 : (0 : Int) ≤ (p : Int) := by omega
    have hp9 : (p : Int) < 256 := by omega
    have c0 := HR1.out.cell p
    rw [ptV_get _ hp, if_neg (by omega)] at c0
    have d0 := HR2.out.cell p
    rw [ptV_get _ hp] at d0
    have dl := HR2.out.lt
    have ff := HR1.out.frozen p
    have fl := HR1.out.lt
    have HS : Hid (∀ b : Bool, b = madeF 6 f g p → Row (wr.setCell ⟨w.heap.size, p, none⟩ (.bool b)) w.heap.size 45 (ptV (fun i => if i < p + 1 then madeF 6 f g i else f i))) := Lib.hid (fun b hb => by
      have h := HR1.out.set_ p (.bool b)
      rw [ptV_set _ (fun i => if i < p + 1 then madeF 6 f g i else f i) hp (fun i => by
        by_cases e : i = p
        · subst e; rw [if_pos rfl, if_pos (by omega), hb]
        · rw [if_neg e]
          by_cases h1 : i < p
          · rw [if_pos h1, if_pos (by omega)]
          · rw [if_neg h1, if_neg (by omega)])] at h
      exact h)
    have HS2 : Hid (∀ b, Row (wr.setCell ⟨w.heap.size, p, none⟩ (.bool b)) (w.heap.size + 1) 45 (ptV g)) := Lib.hid (fun b => HR2.out.far (p := ⟨w.heap.size, p, none⟩) (show w.heap.size + 1 ≠ w.heap.size by omega) _)
    have HS4 : Hid (∀ b, Row (wr.setCell ⟨w.heap.size, p, none⟩ (.bool b)) (w.heap.size + 1 + 1) 45 Z) := Lib.hid (fun b => HR3.out.far (p := ⟨w.heap.size, p, none⟩) (show w.heap.size + 1 + 1 ≠ w.heap.size by omega) _)
    have HS3 : Hid (∀ b, Below w.heap.size w (wr.setCell ⟨w.heap.size, p, none⟩ (.bool b))) := Lib.hid (fun b => HB.out.setCell (p := ⟨w.heap.size, p, none⟩) (Nat.le_refl _) _)
    obtain ⟨x, hx⟩ : ∃ x, x = f p := ⟨_, rfl⟩
    obtain ⟨y, hy⟩ : ∃ y, y = g p := ⟨_, rfl⟩
    rw [← hx] at c0
    rw [← hy] at d0
    have HMF : Hid (madeF 6 f g p = (x && !y)) := Lib.hid (by rw [hx, hy]; rfl)
    clear hx hy
    cases x <;> cases y
    all_goals
      go_wp2_with fail
      go_roundw
      case rel => exact ⟨p + 1, by omega, by go_num, Lib.hid (HS.out _ (by rw [HMF.out]; rfl)), Lib.hid (HS2.out _), Lib.hid (HS4.out _), Lib.hid (HS3.out _)⟩
      case measure => simp [intOf]; omega
  · have f1 : decide ((p : Int) < 256) = false := decide_eq_false (by omega)
    have HE : Hid (ptV (fun i => if i < p then madeF 6 f g i else f i) = G) := Lib.hid (by
      rw [HG.out]
      exact ptV_congr (fun i _ => if_pos (by omega)))
    have hr := HR1.out
    rw [HE.out] at hr
    have hGl : G.length = 256 := by rw [HG.out, ptV_len]
    have hG1 : ∀ v ∈ G, v.oneCell' = true := by rw [HG.out]; exact ptV_one _
    have HR := Lib.hid hr
    have hst := pt_storeCells (P := Try.prog) (ty := 45) HR3.out (by rw [hGl]; exact HSZ.out) (by rw [hGl, HZL.out]) hG1
    have hr2 := setRow_sets HR3.out G
    have HR9 := Lib.hid hr2
    have HB2 := Lib.hid (below_setRow HB.out (show w.heap.size ≤ w.heap.size + 1 + 1 by omega) G.toArray)
    have HGL := Lib.hid hGl
    clear hG1 hr hr2 hGl HR1 HR2 HR3 hp6
    go_upto_region 11 with fail
    go_wp2_with (refine wpList_load_mid rfl _ _ rfl _ _ (by rfl) G (.array 256 4) (pt_range HR.out) Try.underlying45 rfl (by rw [HSZ.out, HGL.out]) ?_)
    exact bodyPost_ret (v := .agg G.toArray) (results_cell_row rfl _ _ (w.heap.size + 1 + 1) _ G.toArray _ (.array 256 4) rfl HR9.out Try.underlying45 rfl (by rw [HSZ.out]; simp [HGL.out])) rfl ⟨rfl, HB2.out⟩
end Go.Proofs.Ytchajbegjajlkaa
