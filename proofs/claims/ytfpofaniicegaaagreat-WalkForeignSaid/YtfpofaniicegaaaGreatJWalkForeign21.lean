/- Texts of this claim, one behind the other: BvC, BvD, Ent, EntryA. -/
import Derived.Test.YtfpofaniicegaaaGreatJWalkForeign20
import Derived.Test.YtfpofaniicegaaaGreatJWalkForeign1
import Derived.BigGuardPart
/- The document's machine: Store. -/
set_option linter.unusedVariables false
set_option linter.unusedSimpArgs false
namespace Go.Proofs.YtfpofaniicegaaaGreat
open Go.RowKit
open S64
namespace Bu
theorem infoU8 : (Tryz.prog.info? 5).map (fun i => (i.zero, i.size, i.bytes)) = some (some (.int .u8 0), 1, 1) := by kernel_rfl
theorem reads_u8v {w : World} {u : Value} {t : TypeId} {B : Nat} (hB : w.heap.size < B) : Reads (w.alloc (.cells #[u] t)) B 1 (some ⟨w.heap.size, 0, none⟩) 1 [u] := by
  refine ⟨rfl, fun _ => ⟨_, rfl, hB, fun j x hx => ?_⟩⟩
  have e : (⟨w.heap.size, 0, none⟩ : Addr).add j = ⟨w.heap.size, j, none⟩ := by unfold Addr.add; split <;> simp_all
  rw [e, (Row.new w t [u]).cell, hx]
/-- the first j bytes of a number -/
def byB (v j : Nat) : List Nat := (List.range j).map (byteOf v)
theorem byB_len (v j : Nat) : (byB v j).length = j := by simp [byB]
theorem byB_succ (v j : Nat) : byB v (j + 1) = byB v j ++ [byteOf v j] := by unfold byB; rw [List.range_succ, List.map_append]; rfl
theorem byB_lt (v j : Nat) : ∀ b ∈ byB v j, b < 256 := by
  intro b hb
  obtain ⟨i, _, rfl⟩ := List.mem_map.1 hb
  exact byteOf_lt v i
theorem byB_getD (v j i : Nat) (h : i < j) : (byB v j).getD i 0 = byteOf v i := by
  unfold byB
  rw [List.getD_eq_getElem?_getD, List.getElem?_map, List.getElem?_range h]; rfl
theorem stray_bus (M : PM) (F : Option Nat) : (stray M F).rams = M.rams ∧ (stray M F).devs = M.devs := by cases F <;> exact ⟨rfl, rfl⟩
theorem stray_pgn (M : PM) (F : Option Nat) : (stray M F).pgn = M.pgn := by cases F <;> rfl
theorem DZ.count {Z : Nat → Prop} {w : World} {B g : Nat} {M : PM} {A1 A2 Ap : Option Addr} {n1 n2 c1 c2 np cp : Nat} {pgs : List (Nat × Nat)} (h : DZ Z w B g M A1 A2 Ap n1 n2 c1 c2 np cp pgs) (i : Nat) (v : Value) (M' : PM) (e1 : M'.rams = M.rams) (e2 : M'.devs = M.devs) (e3 : M'.mem = M.mem) (e4 : M'.pgn = M.pgn)
    (hv : [.slice A1 n1 c1, .slice A2 n2 c2, .slice Ap np cp, .int .i64 M.loads, .int .i64 M.stores, .int .i64 M.strays].set i v = [.slice A1 n1 c1, .slice A2 n2 c2, .slice Ap np cp, .int .i64 M'.loads, .int .i64 M'.stores, .int .i64 M'.strays]) :
    DZ Z (w.setCell ⟨g, i, none⟩ v) B g M' A1 A2 Ap n1 n2 c1 c2 np cp pgs :=
  ⟨h.m.count i v M' e1 e2 e3 hv, h.zg, h.zp, h.zb, fun k hk => ⟨(h.z k hk).1, by rw [show (w.setCell ⟨g, i, none⟩ v).heap.size = w.heap.size by simp [World.setCell]]; exact (h.z k hk).2⟩, fun x hx => by rw [e1, e2]; exact h.num x hx, by rw [e4]; exact h.ord⟩
theorem layM_congr {mem : Nat → Nat} {a n : Nat} {f f' : Nat → Nat} (h : ∀ i, i < n → f i = f' i) : layM mem a n f = layM mem a n f' := by
  funext p
  unfold layM
  by_cases hp : a ≤ p ∧ p < a + n
  · rw [if_pos hp, if_pos hp, h _ (by omega)]
  · rw [if_neg hp, if_neg hp]
theorem RMA.lim {w : World} {B g : Nat} {M : PM} {A1 A2 Ap : Option Addr} {n1 n2 c1 c2 np cp : Nat} {pgs : List (Nat × Nat)} (h : RMA w B g M A1 A2 Ap n1 n2 c1 c2 np cp pgs) : ∀ p, on (M.rams ++ M.devs) p = true → p < 4294967296 := by
  intro p hp
  obtain ⟨r, hr, h2⟩ := List.any_eq_true.1 hp
  have h2 := of_decide_eq_true h2
  have h3 := (h.ok.good r hr).2
  unfold M32 at h3
  omega
/-- what Store leaves, before the answer is laid into its cell -/
def DL (Z : Nat → Prop) (w : World) (B g : Nat) (M' : PM) (wx : World) : Prop := ∃ Z', DM Z' wx B g M' ∧ ChgP Z w wx ∧ ∀ k, Z' k → Z k ∨ w.heap.size ≤ k
theorem DL.laid {Z : Nat → Prop} {w w1 wx wy : World} {B g c : Nat} {M' : PM} (h : DL Z w1 B g M' wx) (h01 : Below w.heap.size w w1) (hz : ∀ k, Z k → k < w.heap.size) (hcB : B ≤ c) (hc0 : w.heap.size ≤ c) (hcl : c < w1.heap.size) (hy : ChgP (fun k => k = c) wx wy) : LaidD Z w B g M' wy := by
  obtain ⟨Z', hd, hc, hn⟩ := h
  refine ⟨Z', hd.chg hy (fun k hk e => ?_), ((ChgP.of_below h01).trans hc (fun x hx => .inl hx)).trans hy (fun x hx => .inr (by rw [show x = c from hx]; exact hc0)), fun k hk => ?_⟩
  · have e : k = c := e
    subst e
    rcases hk with hk | hk
    · rcases hn k hk with h | h
      · have := hz k h; omega
      · omega
    · omega
  · rcases hn k hk with h | h
    · exact .inl h
    · exact .inr (Nat.le_trans h01.size h)
set_option maxRecDepth 100000 in
set_option maxHeartbeats 4000000 in
theorem refstore_any {Z : Nat → Prop} {w : World} {B g : Nat} {M : PM} {A1 A2 Ap : Option Addr} {n1 n2 c1 c2 np cp : Nat} {pgs : List (Nat × Nat)} (h : DZ Z w B g M A1 A2 Ap n1 n2 c1 c2 np cp pgs) (at_ n v : Nat) (hk : n = 1 ∨ n = 2 ∨ n = 4 ∨ n = 8) (ha : at_ ≤ TOP) (hv : v ≤ TOP) (hst : True) (hs : True) {F : Option Nat} (hF : OffIs (M.rams ++ M.devs) at_ n F) :
    Calls Tryz.prog 8 #[.pointer (some ⟨g, 0, none⟩), .int .u64 (at_ : Nat), .int .i64 (n : Nat), .int .u64 (v : Nat)] w fun e w' => e = .returned (faultV F) ∧ LaidD Z w B g (laidM M at_ n (byteOf v) 1 F) w' := by
  obtain ⟨i0, hi, hz1, hz2, hz3⟩ := info_parts infoU8
  have HI := Lib.hid hi; have HZ1 := Lib.hid hz1; have HZ2 := Lib.hid hz2; have HZ3 := Lib.hid hz3
  have HM := Lib.hid h
  have HA := Lib.hid ha; have HS := Lib.hid hs; have HF := Lib.hid hF; have HST := Lib.hid hst
  have HW := Lib.hid (wideB_of hk)
  have hn8 : n ≤ 8 := by omega
  have hn0 : 0 < n := by omega
  have hv64 : v ≤ 18446744073709551615 := hv
  have HGB : Hid (B ≤ w.heap.size) := Lib.hid (Nat.le_of_lt (Nat.lt_of_le_of_lt h.m.gB h.m.row.lt))
  have HZL : Hid (∀ k, Z k → k < w.heap.size) := Lib.hid (fun k hk => (h.z k hk).2)
  clear h ha hs hk hF hst hv hi hz1 hz2 hz3
  go_enter Tryz.func8, Tryz.ntmps8
  go_upto_region 1 with fail
  have r0 : Row (w.alloc (.cells #[.int .i64 0, .int .u64 0] 33)) w.heap.size 33 [.int .i64 0, .int .u64 0] := Row.new w _ [.int .i64 0, .int .u64 0]
  have hb0 : Below w.heap.size w (w.alloc (.cells #[.int .i64 0, .int .u64 0] 33)) := (Below.refl _ _).alloc (Nat.le_refl _) _
  obtain ⟨c, hc⟩ : ∃ c, c = w.heap.size := ⟨_, rfl⟩
  generalize w.alloc (.cells #[.int .i64 0, .int .u64 0] 33) = w1 at *
  rw [← hc] at r0 ⊢
  have HCW : Hid (w.heap.size ≤ c) := Lib.hid (Nat.le_of_eq hc.symm)
  have HCB : Hid (B ≤ c) := Lib.hid (Nat.le_trans HGB.out HCW.out)
  have HCL : Hid (c < w1.heap.size) := Lib.hid r0.lt
  have HM1 := Lib.hid (HM.out.below hb0)
  have HB0 := Lib.hid hb0
  have HR := Lib.hid r0
  clear hb0 r0 hc HM
  go_wp2_with fail
  refine (refright_any (n : Int) w1).mono ?_
  rw [HW.out]
  rintro e w' ⟨rfl, rfl⟩
  go_wp2_with fail
  refine (refaccess_any HM1.out.m at_ n HA.out (by omega) HS.out HF.out).mono ?_
  rintro e w2 ⟨rfl, h2, h3⟩
  have HQ2 := Lib.hid (HM1.out.quiet ⟨h2, h3⟩ (stray_bus M F).1 (stray_bus M F).2 (stray_pgn M F))
  have HR2 := Lib.hid (h3.row HR.out (Row.ne_t HR.out HM1.out.m.row (by decide)))
  clear h2 h3 HM1 HR
  cases F with
  | some p =>
    unfold faultV
    go_upto_region 4 with fail
    have hrc : Row (w2.alloc (.cells #[.int .i64 30, .int .u64 (p : Nat)] 33)) w2.heap.size 33 [.int .i64 30, .int .u64 (p : Nat)] := Row.new w2 _ [.int .i64 30, .int .u64 (p : Nat)]
    have hra := HR2.out.alloc (.cells #[.int .i64 30, .int .u64 (p : Nat)] 33)
    have hbb : Below w2.heap.size w2 (w2.alloc (.cells #[.int .i64 30, .int .u64 (p : Nat)] 33)) := (Below.refl _ _).alloc (Nat.le_refl _) _
    have HDL : Hid (DL Z w1 B g (laidM M at_ n (byteOf v) 1 (some p)) (w2.alloc (.cells #[.int .i64 30, .int .u64 (p : Nat)] 33))) := Lib.hid ⟨Z, ⟨_, _, _, _, _, _, _, _, _, _, HQ2.out.1.below hbb⟩, HQ2.out.2.trans (ChgP.of_below (Z := Z) hbb) (fun x hx => .inl hx), fun k hk => .inl hk⟩
    obtain ⟨c8, hc8⟩ : ∃ c, c = w2.heap.size := ⟨_, rfl⟩
    rw [← hc8] at hrc ⊢
    clear hc8
    generalize w2.alloc (.cells #[.int .i64 30, .int .u64 (p : Nat)] 33) = w3 at *
    have HRA := Lib.hid hra
    have q0 := hra.cell 0
    have q1 := hra.cell 1
    have t0 := hrc.cell 0
    have t1 := hrc.cell 1
    have la := hra.lt
    have lc := hrc.lt
    have a0 := hra.frozen 0
    have a1 := hra.frozen 1
    simp only [List.getElem?_cons_zero, List.getElem?_cons_succ] at q0 q1 t0 t1
    clear hra hrc hbb HQ2 HR2
    go_upto_region 5 with fail
    first | go_still_tail 2, (by kernel_rfl) | skip
    first | change wpList _ _ _ _ _ w3.drew | skip
    have HY0 := Lib.hid ((HRA.out.set_ 0 (.int .i64 30)).cell 0)
    have HY1 := Lib.hid (((HRA.out.set_ 0 (.int .i64 30)).set_ 1 (.int .u64 (p : Nat))).cell 1)
    simp only [List.set_cons_zero, List.set_cons_succ, List.getElem?_cons_zero, List.getElem?_cons_succ] at HY0 HY1
    go_wp2_with fail
    refine bodyPost_ret (v := .agg #[.int .i64 30, .int .u64 (p : Nat)]) (by simp [results, Tryz.results8, go_sem, HY0.out, HY1.out]) rfl ⟨rfl, HDL.out.laid HB0.out HZL.out HCB.out HCW.out HCL.out ?_⟩
    exact ((ChgP.refl (fun k => k = c) w3).set_ (p := ⟨c, 0, none⟩) (.inl rfl) _).set_ (p := ⟨c, 1, none⟩) (.inl rfl) _
  | none =>
    have HONN : Hid (∀ i, i < n → on (M.rams ++ M.devs) (at_ + i) = true) := Lib.hid (fun i hi => HF.out (at_ + i) (by omega) (by omega))
    unfold faultV
    go_upto_region 4 with fail
    have hrc : Row (w2.alloc (.cells #[.int .i64 0, .int .u64 0] 33)) w2.heap.size 33 [.int .i64 0, .int .u64 0] := Row.new w2 _ [.int .i64 0, .int .u64 0]
    have hra := HR2.out.alloc (.cells #[.int .i64 0, .int .u64 0] 33)
    have hbb : Below w2.heap.size w2 (w2.alloc (.cells #[.int .i64 0, .int .u64 0] 33)) := (Below.refl _ _).alloc (Nat.le_refl _) _
    have HD3 := Lib.hid (HQ2.out.1.below hbb)
    have HC3 : Hid (ChgP Z w1 (w2.alloc (.cells #[.int .i64 0, .int .u64 0] 33))) := Lib.hid (HQ2.out.2.trans (ChgP.of_below (Z := Z) hbb) (fun x hx => .inl hx))
    obtain ⟨c8, hc8⟩ : ∃ c, c = w2.heap.size := ⟨_, rfl⟩
    have HC8 : Hid (w1.heap.size ≤ c8) := Lib.hid (by rw [hc8]; exact HQ2.out.2.size)
    rw [← hc8] at hrc ⊢
    clear hc8
    generalize w2.alloc (.cells #[.int .i64 0, .int .u64 0] 33) = w3 at *
    have HRA := Lib.hid hra; have HRC := Lib.hid hrc
    have t0 := hrc.cell 0
    have lc := hrc.lt
    simp only [List.getElem?_cons_zero, List.getElem?_cons_succ] at t0
    clear hra hrc hbb HQ2 HR2
    have H32 : Hid (n = 0 ∨ at_ + n ≤ 4294967296) := Lib.hid (.inr (by have := HD3.out.m.lim _ (HF.out (at_ + n - 1) (by omega) (by omega)); omega))
    go_wp2_with fail
    go_loopw [10, 11] (fun b i wr => ∃ (j cb : Nat) (Ab : Option Addr), j ≤ n ∧ b = .slice Ab j cb ∧ i = .int .i64 (j : Nat) ∧ Hid (wr.ownsRow w3.heap.size 5 1 (.slice Ab j cb) j ((byB v j).map u8)) ∧ Hid (Below w3.heap.size w3 wr)) (fun _ i _ => n - (intOf i).toNat)
    case atStart => exact ⟨0, 0, none, by omega, rfl, rfl, Lib.hid (World.ownsRow_nil _ _ _ _), Lib.hid (Below.refl _ _)⟩
    case round =>
    obtain ⟨j, cb, Ab, hj, rfl, rfl, HO, HB⟩ := hrel
    by_cases hjn : j < n
    · obtain ⟨x, hx⟩ : ∃ x, x = byteOf v j := ⟨_, rfl⟩
      have e1 : IntKind.i64.wrap (8 * (j : Int)) = 8 * (j : Int) := by rw [IntKind.wrap_i64]; omega
      have e2 : ((v : Int) / 2 ^ (8 * j) % 256) = (x : Int) := by rw [hx]; unfold byteOf; norm_cast
      have HX := Lib.hid hx
      have HE2 := Lib.hid e2
      clear e2
      have hsz := HB.out.size
      clear hx
      go_wp2_with (at_builtin; refine wpList_append_sl _ rfl (.tmp 30) (.tmp 37) _ rfl w3.heap.size 5 i0 _ 1 1 Tryz.underlying45 HI.out HZ1.out HZ2.out HZ3.out rfl (by omega) (.slice Ab j cb) j ((byB v j).map u8) rfl (HO.out.alloc _) (wr.heap.size + 1) (some ⟨wr.heap.size, 0, none⟩) 1 1 [.int .u8 ((v : Int) / 2 ^ (8 * j) % 256)] rfl (reads_u8v (by omega)) (by simp [Value.oneCell']) (by unfold maxLen; omega) (by omega) (by simp; omega) ?_; intro Ab2 cb2 wn hown2 hrd2 hg2 hat2; have HO2 := Lib.hid hown2; have HG2 := Lib.hid hg2; clear hown2 hrd2 hg2 hat2)
      go_roundw
      case rel =>
        refine ⟨j + 1, cb2, Ab2, by omega, rfl, by go_num, Lib.hid ?_, Lib.hid (((HB.out.alloc HB.out.size _)).grown HG2.out (by simp; omega) (fun k hk => (HO.out.lt k hk).1))⟩
        rw [byB_succ, List.map_append]
        have := HO2.out
        rw [HE2.out, HX.out] at this
        exact this
      case measure => simp [intOf]; omega
    · have ej : j = n := by omega
      subst ej
      have hown := HO.out
      obtain ⟨bb, rfl, hbb, hbl, _⟩ := own_somer hown hn0
      have HDR := Lib.hid (HD3.out.below HB.out)
      have HBI : Hid (IsB wr wr.heap.size (some ⟨bb, 0, none⟩) j (byB v j)) := Lib.hid ⟨Reads.of_own hown, byB_lt v j, by omega⟩
      have HNZ : Hid (¬ Z bb) := Lib.hid (fun hz => by have := HZL.out _ hz; have h1 := HCW.out; have h2 := HC3.out.size; have h3 := HB0.out.size; omega)
      have HRA4 := Lib.hid (HRA.out.below HB.out HRA.out.lt)
      have HRC4 := Lib.hid (HRC.out.below HB.out HRC.out.lt)
      clear hown hbb hbl HO t0 lc
      go_wp2_with fail
      refine (reflay_write HDR.out at_ j HA.out H32.out bb 0 cb (byB v j) hn0 HBI.out HNZ.out HONN.out).mono ?_
      rintro e w5 ⟨rfl, Ap5, np5, cp5, pgs5, h5⟩
      obtain ⟨Z5, hz5, hc5, hn5⟩ := h5
      have hmem : layM (stray M none).mem at_ j (fun i => (byB v j).getD i 0) = layM M.mem at_ j (byteOf v) := layM_congr (fun i hi => byB_getD v j i hi)
      rw [hmem] at hz5
      have HZ5 := Lib.hid hz5; have HC5 := Lib.hid hc5; have HN5 := Lib.hid hn5
      have HZC : Hid (¬ Z c) := Lib.hid (fun h => by have := HZL.out _ h; have := HCW.out; omega)
      have HZ8 : Hid (¬ Z c8) := Lib.hid (fun h => by have := HZL.out _ h; have h1 := HC8.out; have h2 := HB0.out.size; omega)
      have HRA5 := Lib.hid (hc5.row HRA4.out HZC.out)
      have HRC5 := Lib.hid (hc5.row HRC4.out HZ8.out)
      clear hz5 hc5 hn5 hmem
      have p4 := HZ5.out.m.row.cell 4
      have pf := HZ5.out.m.row.frozen 4
      have lg := HZ5.out.m.row.lt
      simp only [List.getElem?_cons_zero, List.getElem?_cons_succ] at p4
      obtain ⟨yy, hyy⟩ : ∃ yy, yy = cInc M.stores := ⟨_, rfl⟩
      have hw1 : IntKind.i64.wrap (M.stores + 1) = yy := by rw [hyy]; rfl
      have hw2 : wrap64 (M.stores + 1) = yy := by rw [hyy]; unfold cInc wrap64; exact (IntKind.wrap_i64 _).symm
      have HYY := Lib.hid hyy
      clear hyy
      rw [show (stray M none).stores = M.stores from rfl] at p4
      go_upto_region 13 with fail
      have HZ6 : Hid (DZ Z5 (w5.setCell ⟨g, 4, none⟩ (.int .i64 yy)) B g (laidM M at_ j (byteOf v) 1 none) A1 A2 Ap5 n1 n2 c1 c2 np5 cp5 pgs5) := Lib.hid (HZ5.out.count 4 _ _ rfl rfl rfl rfl (by rw [HYY.out]; simp [stray, laidM]))
      have HDL : Hid (DL Z w1 B g (laidM M at_ j (byteOf v) 1 none) (w5.setCell ⟨g, 4, none⟩ (.int .i64 yy))) := Lib.hid ⟨Z5, ⟨_, _, _, _, _, _, _, _, _, _, HZ6.out⟩, ((HC3.out.trans (ChgP.of_below (Z := Z) HB.out) (fun x hx => .inl hx)).trans HC5.out (fun x hx => .inl hx)).set_ (p := ⟨g, 4, none⟩) (by
        rcases HN5.out g HZ5.out.zg with h | h
        · exact .inl h
        · have h1 := HC3.out.size; have h2 := HB.out.size; exact .inr (by show w1.heap.size ≤ g; omega)) _, fun k hk => by
        rcases HN5.out k hk with h | h
        · exact .inl h
        · have h1 := HC3.out.size; have h2 := HB.out.size; exact .inr (by omega)⟩
      have HRA6 := Lib.hid (HRA5.out.far (p := ⟨g, 4, none⟩) (Row.ne_t HRA5.out HZ5.out.m.row (by decide)) (.int .i64 yy))
      have HRC6 := Lib.hid (HRC5.out.far (p := ⟨g, 4, none⟩) (Row.ne_t HRC5.out HZ5.out.m.row (by decide)) (.int .i64 yy))
      clear p4 pf lg hw1 hw2 HZ5 HRA5 HRC5
      generalize w5.setCell ⟨g, 4, none⟩ (.int .i64 yy) = w6 at *
      have t0 := HRC6.out.cell 0
      have t1 := HRC6.out.cell 1
      have q0 := HRA6.out.cell 0
      have q1 := HRA6.out.cell 1
      have la := HRA6.out.lt
      have lc := HRC6.out.lt
      have a0 := HRA6.out.frozen 0
      have a1 := HRA6.out.frozen 1
      simp only [List.getElem?_cons_zero, List.getElem?_cons_succ] at q0 q1 t0 t1
      have HY0 := Lib.hid ((HRA6.out.set_ 0 (.int .i64 0)).cell 0)
      have HY1 := Lib.hid (((HRA6.out.set_ 0 (.int .i64 0)).set_ 1 (.int .u64 0)).cell 1)
      simp only [List.set_cons_zero, List.set_cons_succ, List.getElem?_cons_zero, List.getElem?_cons_succ] at HY0 HY1
      go_wp2_with fail
      refine bodyPost_ret (v := .agg #[.int .i64 0, .int .u64 0]) (by simp [results, Tryz.results8, go_sem, HY0.out, HY1.out]) rfl ⟨rfl, HDL.out.laid HB0.out HZL.out HCB.out HCW.out HCL.out ?_⟩
      exact ((ChgP.refl (fun k => k = c) w6).set_ (p := ⟨c, 0, none⟩) (.inl rfl) _).set_ (p := ⟨c, 1, none⟩) (.inl rfl) _
end Bu
end Go.Proofs.YtfpofaniicegaaaGreat

/- The document's machine: its calls in the words of its bus and its bytes. -/
set_option linter.unusedVariables false
set_option linter.unusedSimpArgs false
namespace Go.Proofs.YtfpofaniicegaaaGreat
open Go.RowKit
open S64
namespace Bu
theorem rpeek_m {Z : Nat → Prop} {w : World} {B g : Nat} {M : PM} (h : DM Z w B g M) {at_ n : Nat} (hk : n = 1 ∨ n = 2 ∨ n = 4 ∨ n = 8) (ha : at_ ≤ TOP) (hs : True) {F : Option Nat} (hF : OffIs (M.rams ++ M.devs) at_ n F) :
    Calls Tryz.prog 62 #[.pointer (some ⟨g, 0, none⟩), .int .u64 (at_ : Nat), .int .i64 (n : Nat)] w fun e w' => e = .returned (.tuple #[.int .u64 (peekV M at_ n F : Nat), faultV F]) ∧ QuietD Z w B g (stray M F) w' := by
  obtain ⟨_, _, _, _, _, _, _, _, _, _, hd⟩ := h
  exact (refpeek_any hd.m at_ n hk ha hs hF).mono fun e w' hh => ⟨hh.1, ⟨_, _, _, _, _, _, _, _, _, _, (hd.quiet hh.2 (stray_bus M F).1 (stray_bus M F).2 (stray_pgn M F)).1⟩, (hd.quiet hh.2 (stray_bus M F).1 (stray_bus M F).2 (stray_pgn M F)).2⟩
theorem loadM_bus (M : PM) (F : Option Nat) : (loadM M F).rams = M.rams ∧ (loadM M F).devs = M.devs := by cases F <;> exact ⟨rfl, rfl⟩
theorem loadM_pgn (M : PM) (F : Option Nat) : (loadM M F).pgn = M.pgn := by cases F <;> rfl
theorem rload_m {Z : Nat → Prop} {w : World} {B g : Nat} {M : PM} (h : DM Z w B g M) {at_ n : Nat} (hk : n = 1 ∨ n = 2 ∨ n = 4 ∨ n = 8) (ha : at_ ≤ TOP) (hs : True) (hl : True) {F : Option Nat} (hF : OffIs (M.rams ++ M.devs) at_ n F) :
    Calls Tryz.prog 43 #[.pointer (some ⟨g, 0, none⟩), .int .u64 (at_ : Nat), .int .i64 (n : Nat)] w fun e w' => e = .returned (.tuple #[.int .u64 (peekV M at_ n F : Nat), faultV F]) ∧ QuietD Z w B g (loadM M F) w' := by
  obtain ⟨_, _, _, _, _, _, _, _, _, _, hd⟩ := h
  exact (refload_any hd.m at_ n hk ha hs hl hF).mono fun e w' hh => ⟨hh.1, ⟨_, _, _, _, _, _, _, _, _, _, (hd.quiet hh.2 (loadM_bus M F).1 (loadM_bus M F).2 (loadM_pgn M F)).1⟩, (hd.quiet hh.2 (loadM_bus M F).1 (loadM_bus M F).2 (loadM_pgn M F)).2⟩
theorem rstore_m {Z : Nat → Prop} {w : World} {B g : Nat} {M : PM} (h : DM Z w B g M) {at_ n v : Nat} (hk : n = 1 ∨ n = 2 ∨ n = 4 ∨ n = 8) (hv : v ≤ TOP) (hst : True) (ha : at_ ≤ TOP) (hs : True) {F : Option Nat} (hF : OffIs (M.rams ++ M.devs) at_ n F) :
    Calls Tryz.prog 8 #[.pointer (some ⟨g, 0, none⟩), .int .u64 (at_ : Nat), .int .i64 (n : Nat), .int .u64 (v : Nat)] w fun e w' => e = .returned (faultV F) ∧ LaidD Z w B g (laidM M at_ n (byteOf v) 1 F) w' := by
  obtain ⟨_, _, _, _, _, _, _, _, _, _, hd⟩ := h
  exact refstore_any hd at_ n v hk ha hv hst hs hF
theorem RMA.dz {w : World} {B g : Nat} {M : PM} {A1 A2 : Option Addr} {n1 n2 c1 c2 : Nat} (h : RMA w B g M A1 A2 none n1 n2 c1 c2 0 0 []) (ho : M.pgn []) : DM (fun k => k = g) w B g M :=
  ⟨_, _, _, _, _, _, _, _, _, _, ⟨h, rfl, (fun ad e => by cases e), (fun x hx => by cases hx), (fun k hk => by rw [show k = g from hk]; exact ⟨h.gB, h.row.lt⟩), (fun x hx => by cases hx), ho⟩⟩
theorem DM.lim {Z : Nat → Prop} {w : World} {B g : Nat} {M : PM} (h : DM Z w B g M) : ∀ p, on (M.rams ++ M.devs) p = true → p < 4294967296 := by
  obtain ⟨_, _, _, _, _, _, _, _, _, _, h⟩ := h
  exact h.m.lim
theorem DM.byte {Z : Nat → Prop} {w : World} {B g : Nat} {M : PM} (h : DM Z w B g M) : ∀ p, M.mem p < 256 := by
  obtain ⟨_, _, _, _, _, _, _, _, _, _, h⟩ := h
  exact h.m.byte
end Bu
end Go.Proofs.YtfpofaniicegaaaGreat

/- Plain law: what an entry says at a level, the entry that says it, and that each is the other's inverse. No program in sight. -/
set_option linter.unusedVariables false
set_option linter.unusedSimpArgs false
namespace Go.Proofs.YtfpofaniicegaaaGreat.Ent
/-- an entry's parts: frame, table, big, write, exec -/
structure E where
  F : Nat
  t : Bool
  b : Bool
  w : Bool
  x : Bool
deriving DecidableEq
def zero : E := ⟨0, false, false, false, false⟩
def frame (e : Nat) : Nat := e / 4096 % 1048576 * 4096
def bit (e k : Nat) : Bool := decide (e / k % 2 = 1)
/-- the parts are there, but do they fit the level? -/
def wrong (F : Nat) (lv : Nat) (b w x : Bool) : Bool := (b && (decide (lv ≠ 1) || decide (F % 2097152 ≠ 0))) || (decide (lv < 2) && !b && (w || x))
def say (e lv : Nat) : E × Nat :=
  if e % 2 = 0 then (zero, 41) else
  if e ≠ frame e + e % 16 then (zero, 42) else
  if wrong (frame e) lv (bit e 8) (bit e 2) (bit e 4) then (zero, 42) else (⟨frame e, decide (lv < 2) && !bit e 8, bit e 8, bit e 2, bit e 4⟩, 0)
def num (y : E) : Nat := (((y.F ||| 1) ||| (if y.w then 2 else 0)) ||| (if y.x then 4 else 0)) ||| (if y.b then 8 else 0)
def make (y : E) (lv : Nat) : Nat × Nat := if say (num y) lv = (y, 0) then (num y, 0) else (0, 42)

theorem frame_lt (e : Nat) : frame e < 4294967296 := by unfold frame; omega
theorem frame_of (e : Nat) : frame e = (e / 4096 % 1048576) <<< 12 := by unfold frame; rw [Nat.shiftLeft_eq]
theorem tb_frame (e i : Nat) : (frame e).testBit i = (decide (12 ≤ i) && decide (i < 32) && e.testBit i) := by
  rw [frame_of, Nat.testBit_shiftLeft]
  rw [show (1048576 : Nat) = 2 ^ 20 from rfl, Nat.testBit_mod_two_pow, show (4096 : Nat) = 2 ^ 12 from rfl, Nat.testBit_div_two_pow]
  by_cases h : 12 ≤ i
  · rw [show i - 12 + 12 = i by omega]
    by_cases h2 : i < 32
    · simp [h, h2, show i - 12 < 20 by omega]
    · simp [h, h2, show ¬ i - 12 < 20 by omega]
  · simp [h]
theorem and_frame (e : Nat) : e &&& 4294963200 = frame e := by
  apply Nat.eq_of_testBit_eq
  intro i
  rw [Nat.testBit_and, tb_frame]
  have h : (4294963200 : Nat) = (2 ^ 20 - 1) <<< 12 := rfl
  rw [h, Nat.testBit_shiftLeft, Nat.testBit_two_pow_sub_one]
  by_cases h1 : 12 ≤ i <;> by_cases h2 : i < 32
  · simp [h1, h2, show i - 12 < 20 by omega]
  · simp [h1, h2, show ¬ i - 12 < 20 by omega]
  · simp [h1]
  · simp [h1]
theorem and_pow (e k : Nat) : e &&& 2 ^ k = e / 2 ^ k % 2 * 2 ^ k := by
  apply Nat.eq_of_testBit_eq
  intro i
  rw [← Nat.shiftLeft_eq, Nat.testBit_and, Nat.testBit_two_pow, Nat.testBit_shiftLeft, show e / 2 ^ k % 2 = e / 2 ^ k % 2 ^ 1 from rfl, Nat.testBit_mod_two_pow, Nat.testBit_div_two_pow]
  by_cases h : k = i
  · subst h; simp
  · by_cases h2 : k ≤ i
    · simp [h, show ¬ i - k < 1 by omega]
    · simp [h, h2]
theorem and2 (e : Nat) : e &&& 2 = e / 2 % 2 * 2 := and_pow e 1
theorem and4 (e : Nat) : e &&& 4 = e / 4 % 2 * 4 := and_pow e 2
theorem and8 (e : Nat) : e &&& 8 = e / 8 % 2 * 8 := and_pow e 3
theorem and_mask (e : Nat) : e &&& 4294963215 = frame e + e % 16 := by
  have h1 : frame e + e % 16 = 2 ^ 12 * (e / 4096 % 1048576) + e % 16 := by unfold frame; omega
  rw [h1]
  apply Nat.eq_of_testBit_eq
  intro i
  rw [Nat.testBit_two_pow_mul_add _ (by omega), Nat.testBit_and]
  have h : (4294963215 : Nat) = 2 ^ 12 * (2 ^ 20 - 1) + (2 ^ 4 - 1) := rfl
  rw [h, Nat.testBit_two_pow_mul_add _ (by decide), Nat.testBit_two_pow_sub_one, Nat.testBit_two_pow_sub_one]
  by_cases h1 : i < 12
  · rw [if_pos h1, if_pos h1, show (16 : Nat) = 2 ^ 4 from rfl, Nat.testBit_mod_two_pow, Bool.and_comm]
  · rw [if_neg h1, if_neg h1, show (1048576 : Nat) = 2 ^ 20 from rfl, Nat.testBit_mod_two_pow, show (4096 : Nat) = 2 ^ 12 from rfl, Nat.testBit_div_two_pow, show i - 12 + 12 = i by omega, Bool.and_comm]
/-- the bits that say nothing -/
theorem rest_zero (e : Nat) (h : e < 18446744073709551616) : (e &&& (18446744073709551615 - 4294963215) = 0) ↔ e = frame e + e % 16 := by
  rw [← and_mask]
  have key : ∀ i, (e &&& (18446744073709551615 - 4294963215)).testBit i = (e.testBit i && !(4294963215 : Nat).testBit i) := by
    intro i
    rw [Nat.testBit_and]
    by_cases hi : i < 64
    · congr 1
      have : ∀ j : Fin 64, ((18446744073709551615 - 4294963215 : Nat)).testBit j.val = !(4294963215 : Nat).testBit j.val := by decide
      exact this ⟨i, hi⟩
    · rw [Nat.testBit_lt_two_pow (x := e) (Nat.lt_of_lt_of_le h (Nat.pow_le_pow_right (n := 2) (by decide) (show 64 ≤ i by omega)))]
      simp
  constructor
  · intro h0
    apply Nat.eq_of_testBit_eq
    intro i
    have := key i
    rw [h0, Nat.zero_testBit] at this
    rw [Nat.testBit_and]
    cases he : e.testBit i
    · simp
    · rw [he] at this; simp at this; rw [this]; rfl
  · intro h1
    apply Nat.eq_of_testBit_eq
    intro i
    rw [key, Nat.zero_testBit]
    have := congrArg (Nat.testBit · i) h1
    simp only [Nat.testBit_and] at this
    cases he : e.testBit i
    · simp
    · rw [he] at this; simp at this; rw [this]; simp
theorem num_tb (y : E) (i : Nat) : (num y).testBit i = (y.F.testBit i || decide (i = 0) || (y.w && decide (i = 1)) || (y.x && decide (i = 2)) || (y.b && decide (i = 3))) := by
  unfold num
  rw [Nat.testBit_or, Nat.testBit_or, Nat.testBit_or, Nat.testBit_or]
  have h1 : (1 : Nat).testBit i = decide (i = 0) := by
    have := Nat.testBit_two_pow (n := 0) (m := i); rw [show (1 : Nat) = 2 ^ 0 from rfl, this]; simp [eq_comm]
  have h2 : (if y.w = true then 2 else 0 : Nat).testBit i = (y.w && decide (i = 1)) := by
    cases y.w
    · simp
    · have := Nat.testBit_two_pow (n := 1) (m := i); rw [if_pos rfl, show (2 : Nat) = 2 ^ 1 from rfl, this]; simp [eq_comm]
  have h3 : (if y.x = true then 4 else 0 : Nat).testBit i = (y.x && decide (i = 2)) := by
    cases y.x
    · simp
    · have := Nat.testBit_two_pow (n := 2) (m := i); rw [if_pos rfl, show (4 : Nat) = 2 ^ 2 from rfl, this]; simp [eq_comm]
  have h4 : (if y.b = true then 8 else 0 : Nat).testBit i = (y.b && decide (i = 3)) := by
    cases y.b
    · simp
    · have := Nat.testBit_two_pow (n := 3) (m := i); rw [if_pos rfl, show (8 : Nat) = 2 ^ 3 from rfl, this]; simp [eq_comm]
  rw [h1, h2, h3, h4]
theorem bit_tb (e k : Nat) : bit e (2 ^ k) = e.testBit k := by
  unfold bit; rw [Nat.testBit_eq_decide_div_mod_eq]
/-- what an entry says is made into that entry again -/
theorem back {e lv : Nat} {y : E} (h : e < 18446744073709551616) (hs : say e lv = (y, 0)) : num y = e := by
  unfold say at hs
  split at hs
  · simp at hs
  · rename_i h2
    split at hs
    · simp at hs
    · rename_i h3
      split at hs
      · simp at hs
      · simp at hs
        subst hs
        have h3 : e &&& 4294963215 = e := by rw [and_mask]; omega
        apply Nat.eq_of_testBit_eq
        intro i
        rw [num_tb]
        simp only
        rw [tb_frame, show (8 : Nat) = 2 ^ 3 from rfl, show (2 : Nat) = 2 ^ 1 from rfl, show (4 : Nat) = 2 ^ 2 from rfl, bit_tb, bit_tb, bit_tb]
        have hi := congrArg (Nat.testBit · i) h3
        simp only [Nat.testBit_and] at hi
        have hm : (4294963215 : Nat).testBit i = (decide (i < 4) || (decide (12 ≤ i) && decide (i < 32))) := by
          have h : (4294963215 : Nat) = 2 ^ 12 * (2 ^ 20 - 1) + (2 ^ 4 - 1) := rfl
          rw [h, Nat.testBit_two_pow_mul_add _ (by decide), Nat.testBit_two_pow_sub_one, Nat.testBit_two_pow_sub_one]
          by_cases h1 : i < 12
          · rw [if_pos h1]; simp [show ¬ 12 ≤ i by omega]
          · rw [if_neg h1]; simp [show ¬ i < 4 by omega, show 12 ≤ i by omega]; omega
        rw [hm] at hi
        have h0 : e.testBit 0 = true := by rw [Nat.testBit_zero]; simp; omega
        by_cases i0 : i = 0
        · subst i0; simp [h0]
        by_cases i1 : i = 1
        · subst i1; simp
        by_cases i2 : i = 2
        · subst i2; simp
        by_cases i3 : i = 3
        · subst i3; simp
        simp [i0, i1, i2, i3]
        simp [show ¬ i < 4 by omega] at hi
        by_cases ha : 12 ≤ i <;> by_cases hb : i < 32
        · simp [ha, hb]
        · simp [hb] at hi; simp [hb, hi]
        · simp [ha] at hi; simp [ha, hi]
        · simp [ha] at hi; simp [ha, hi]
theorem make_back {e lv : Nat} {y : E} (h : e < 18446744073709551616) (hs : say e lv = (y, 0)) : make y lv = (e, 0) := by
  unfold make
  rw [back h hs, if_pos hs]
theorem say_lt {e lv : Nat} {y : E} (hs : say e lv = (y, 0)) : y.F < 4294967296 := by
  unfold say at hs
  split at hs
  · simp at hs
  · split at hs
    · simp at hs
    · split at hs
      · simp at hs
      · simp at hs; subst hs; exact frame_lt e
theorem make_one : make ⟨4194304, false, true, false, true⟩ 1 = (4194317, 0) := by decide
theorem say_one : say 20483 2 = (⟨20480, false, false, true, false⟩, 0) := by decide
theorem num_lt {y : E} (h : y.F < 18446744073709551616) : num y < 18446744073709551616 := by
  unfold num
  refine Nat.or_lt_two_pow (n := 64) (Nat.or_lt_two_pow (n := 64) (Nat.or_lt_two_pow (n := 64) (Nat.or_lt_two_pow (n := 64) h (by decide)) ?_) ?_) ?_ <;> split <;> decide
end Go.Proofs.YtfpofaniicegaaaGreat.Ent

/- The walks of walk.Entry and bulkheadref4.Entry: both tell what the plain law's 'say' tells, whatever the entry and the level. -/
set_option linter.unusedVariables false
set_option linter.unusedSimpArgs false
namespace Go.Proofs.YtfpofaniicegaaaGreat
open Go.RowKit
open Ent (E)

def eVal (y : E) : Value := .agg #[.int .u64 (y.F : Nat), .bool y.t, .bool y.b, .bool y.w, .bool y.x]
/-- what the walk's tests are told of an entry: its bits, its frame, whether anything else stands in it -/
structure Facts (e F r : Nat) (w x b : Bool) : Prop where
  hF : bits .and .u64 (e : Int) 4294963200 = (F : Int)
  hw : (bits .and .u64 (e : Int) 2 != 0) = w
  hx : (bits .and .u64 (e : Int) 4 != 0) = x
  hb : (bits .and .u64 (e : Int) 8 != 0) = b
  hr : bits .andNot .u64 (e : Int) 4294963215 = (r : Int)
  lt : F < 4294967296
theorem facts (e : Nat) (h : e < 18446744073709551616) : ∃ r, Facts e (Ent.frame e) r (Ent.bit e 2) (Ent.bit e 4) (Ent.bit e 8) ∧ (r = 0 ↔ e = Ent.frame e + e % 16) ∧ bits .and .u64 (e : Int) 1 = ((e % 2 : Nat) : Int) := by
  have b2 : ∀ k : Nat, k < 18446744073709551616 → bits .and .u64 (e : Int) (k : Int) = ((e &&& k : Nat) : Int) := fun k hk => u64_and_nat e k h hk
  refine ⟨e &&& (18446744073709551615 - 4294963215), ⟨?_, ?_, ?_, ?_, ?_, Ent.frame_lt e⟩, Ent.rest_zero e h, ?_⟩
  · rw [← Ent.and_frame]; exact b2 4294963200 (by decide)
  · rw [show bits .and .u64 (e : Int) 2 = ((e &&& 2 : Nat) : Int) from b2 2 (by decide), Ent.and2]
    unfold Ent.bit
    rcases Nat.mod_two_eq_zero_or_one (e / 2) with h | h <;> simp [h]
  · rw [show bits .and .u64 (e : Int) 4 = ((e &&& 4 : Nat) : Int) from b2 4 (by decide), Ent.and4]
    unfold Ent.bit
    rcases Nat.mod_two_eq_zero_or_one (e / 4) with h | h <;> simp [h]
  · rw [show bits .and .u64 (e : Int) 8 = ((e &&& 8 : Nat) : Int) from b2 8 (by decide), Ent.and8]
    unfold Ent.bit
    rcases Nat.mod_two_eq_zero_or_one (e / 8) with h | h <;> simp [h]
  · exact u64_andNot_nat e 4294963215 h (by decide)
  · have := b2 1 (by decide)
    rw [Nat.and_one_is_mod] at this
    exact this

/-- what is told of an entry whose bits are these, at a level that is there; mis: the frame is no great page's -/
def out (F lv : Nat) (w x b mis : Bool) : E × Nat := if (b && (decide (lv ≠ 1) || mis)) || (decide (lv < 2) && !b && (w || x)) then (Ent.zero, 42) else (⟨F, decide (lv < 2) && !b, b, w, x⟩, 0)

set_option maxRecDepth 100000 in
set_option maxHeartbeats 4000000 in
theorem ent_0 (e F r : Nat) (w x b mis : Bool) (W : World) (hf : Facts e F r w x b) (h1 : bits .and .u64 (e : Int) 1 = 1) (hr0 : r = 0) (hm : ((F : Int) % 2097152 != 0) = mis) (y : E) (n : Nat) (ho : Hid (out F 0 w x b mis = (y, n))) :
    Calls Tryz.prog 80 #[.int .u64 (e : Nat), .int .i64 0] W fun en w' => en = .returned (.tuple #[eVal y, .int .i64 (n : Nat)]) ∧ Below W.heap.size W w' := by
  obtain ⟨hF, hw, hx, hb, hr, hlt⟩ := hf
  subst hr0
  cases b
  · cases w
    · cases x
      all_goals
        have h := ho.out
        simp [out] at h
        obtain ⟨rfl, rfl⟩ := h
        clear ho
        go_enter Tryz.func80, Tryz.ntmps80
        go_wp2
        exact bodyPost_ret (v := .tuple #[eVal _, .int .i64 _]) (by simp [results, Tryz.results80, go_sem]; rfl) rfl ⟨rfl, ((Below.refl _ _).alloc (Nat.le_refl _) _).alloc (by simp) _⟩
    · skip
      have h := ho.out
      simp [out] at h
      obtain ⟨rfl, rfl⟩ := h
      clear ho
      go_enter Tryz.func80, Tryz.ntmps80
      go_wp2
      exact bodyPost_ret (v := .tuple #[eVal _, .int .i64 _]) (by simp [results, Tryz.results80, go_sem]; rfl) rfl ⟨rfl, ((Below.refl _ _).alloc (Nat.le_refl _) _).alloc (by simp) _⟩
  · skip
    have h := ho.out
    simp [out] at h
    obtain ⟨rfl, rfl⟩ := h
    clear ho
    go_enter Tryz.func80, Tryz.ntmps80
    go_wp2
    exact bodyPost_ret (v := .tuple #[eVal _, .int .i64 _]) (by simp [results, Tryz.results80, go_sem]; rfl) rfl ⟨rfl, ((Below.refl _ _).alloc (Nat.le_refl _) _).alloc (by simp) _⟩

set_option maxRecDepth 100000 in
set_option maxHeartbeats 4000000 in
theorem ent_1 (e F r : Nat) (w x b mis : Bool) (W : World) (hf : Facts e F r w x b) (h1 : bits .and .u64 (e : Int) 1 = 1) (hr0 : r = 0) (hm : ((F : Int) % 2097152 != 0) = mis) (y : E) (n : Nat) (ho : Hid (out F 1 w x b mis = (y, n))) :
    Calls Tryz.prog 80 #[.int .u64 (e : Nat), .int .i64 1] W fun en w' => en = .returned (.tuple #[eVal y, .int .i64 (n : Nat)]) ∧ Below W.heap.size W w' := by
  obtain ⟨hF, hw, hx, hb, hr, hlt⟩ := hf
  subst hr0
  cases b
  · cases w
    · cases x
      all_goals
        have h := ho.out
        simp [out] at h
        obtain ⟨rfl, rfl⟩ := h
        clear ho
        go_enter Tryz.func80, Tryz.ntmps80
        go_wp2
        exact bodyPost_ret (v := .tuple #[eVal _, .int .i64 _]) (by simp [results, Tryz.results80, go_sem]; rfl) rfl ⟨rfl, ((Below.refl _ _).alloc (Nat.le_refl _) _).alloc (by simp) _⟩
    · skip
      have h := ho.out
      simp [out] at h
      obtain ⟨rfl, rfl⟩ := h
      clear ho
      go_enter Tryz.func80, Tryz.ntmps80
      go_wp2
      exact bodyPost_ret (v := .tuple #[eVal _, .int .i64 _]) (by simp [results, Tryz.results80, go_sem]; rfl) rfl ⟨rfl, ((Below.refl _ _).alloc (Nat.le_refl _) _).alloc (by simp) _⟩
  · cases mis
    all_goals
      have h := ho.out
      simp [out] at h
      obtain ⟨rfl, rfl⟩ := h
      clear ho
      go_enter Tryz.func80, Tryz.ntmps80
      go_wp2
      exact bodyPost_ret (v := .tuple #[eVal _, .int .i64 _]) (by simp [results, Tryz.results80, go_sem]; rfl) rfl ⟨rfl, ((Below.refl _ _).alloc (Nat.le_refl _) _).alloc (by simp) _⟩

set_option maxRecDepth 100000 in
set_option maxHeartbeats 4000000 in
theorem ent_2 (e F r : Nat) (w x b mis : Bool) (W : World) (hf : Facts e F r w x b) (h1 : bits .and .u64 (e : Int) 1 = 1) (hr0 : r = 0) (hm : ((F : Int) % 2097152 != 0) = mis) (y : E) (n : Nat) (ho : Hid (out F 2 w x b mis = (y, n))) :
    Calls Tryz.prog 80 #[.int .u64 (e : Nat), .int .i64 2] W fun en w' => en = .returned (.tuple #[eVal y, .int .i64 (n : Nat)]) ∧ Below W.heap.size W w' := by
  obtain ⟨hF, hw, hx, hb, hr, hlt⟩ := hf
  subst hr0
  cases b
  · skip
    have h := ho.out
    simp [out] at h
    obtain ⟨rfl, rfl⟩ := h
    clear ho
    go_enter Tryz.func80, Tryz.ntmps80
    go_wp2
    exact bodyPost_ret (v := .tuple #[eVal _, .int .i64 _]) (by simp [results, Tryz.results80, go_sem]; rfl) rfl ⟨rfl, ((Below.refl _ _).alloc (Nat.le_refl _) _).alloc (by simp) _⟩
  · skip
    have h := ho.out
    simp [out] at h
    obtain ⟨rfl, rfl⟩ := h
    clear ho
    go_enter Tryz.func80, Tryz.ntmps80
    go_wp2
    exact bodyPost_ret (v := .tuple #[eVal _, .int .i64 _]) (by simp [results, Tryz.results80, go_sem]; rfl) rfl ⟨rfl, ((Below.refl _ _).alloc (Nat.le_refl _) _).alloc (by simp) _⟩

set_option maxRecDepth 100000 in
set_option maxHeartbeats 1000000 in
theorem entbad_0 (e F r : Nat) (w x b : Bool) (W : World) (hf : Facts e F r w x b) (h1 : bits .and .u64 (e : Int) 1 = 1) (hr0 : ((r : Int) != 0) = true) :
    Calls Tryz.prog 80 #[.int .u64 (e : Nat), .int .i64 0] W fun en w' => en = .returned (.tuple #[eVal Ent.zero, .int .i64 42]) ∧ Below W.heap.size W w' := by
  obtain ⟨hF, hw, hx, hb, hr, hlt⟩ := hf
  go_enter Tryz.func80, Tryz.ntmps80
  go_wp2
  exact bodyPost_ret (v := .tuple #[eVal _, .int .i64 _]) (by simp [results, Tryz.results80, go_sem]; rfl) rfl ⟨rfl, ((Below.refl _ _).alloc (Nat.le_refl _) _).alloc (by simp) _⟩

set_option maxRecDepth 100000 in
set_option maxHeartbeats 1000000 in
theorem entbad_1 (e F r : Nat) (w x b : Bool) (W : World) (hf : Facts e F r w x b) (h1 : bits .and .u64 (e : Int) 1 = 1) (hr0 : ((r : Int) != 0) = true) :
    Calls Tryz.prog 80 #[.int .u64 (e : Nat), .int .i64 1] W fun en w' => en = .returned (.tuple #[eVal Ent.zero, .int .i64 42]) ∧ Below W.heap.size W w' := by
  obtain ⟨hF, hw, hx, hb, hr, hlt⟩ := hf
  go_enter Tryz.func80, Tryz.ntmps80
  go_wp2
  exact bodyPost_ret (v := .tuple #[eVal _, .int .i64 _]) (by simp [results, Tryz.results80, go_sem]; rfl) rfl ⟨rfl, ((Below.refl _ _).alloc (Nat.le_refl _) _).alloc (by simp) _⟩

set_option maxRecDepth 100000 in
set_option maxHeartbeats 1000000 in
theorem entbad_2 (e F r : Nat) (w x b : Bool) (W : World) (hf : Facts e F r w x b) (h1 : bits .and .u64 (e : Int) 1 = 1) (hr0 : ((r : Int) != 0) = true) :
    Calls Tryz.prog 80 #[.int .u64 (e : Nat), .int .i64 2] W fun en w' => en = .returned (.tuple #[eVal Ent.zero, .int .i64 42]) ∧ Below W.heap.size W w' := by
  obtain ⟨hF, hw, hx, hb, hr, hlt⟩ := hf
  go_enter Tryz.func80, Tryz.ntmps80
  go_wp2
  exact bodyPost_ret (v := .tuple #[eVal _, .int .i64 _]) (by simp [results, Tryz.results80, go_sem]; rfl) rfl ⟨rfl, ((Below.refl _ _).alloc (Nat.le_refl _) _).alloc (by simp) _⟩

set_option maxRecDepth 100000 in
set_option maxHeartbeats 1000000 in
theorem entabsent (e : Nat) (lv : Int) (W : World) (h1 : bits .and .u64 (e : Int) 1 = 0) (hl : 0 ≤ lv) (hl2 : lv < 3) :
    Calls Tryz.prog 80 #[.int .u64 (e : Nat), .int .i64 lv] W fun en w' => en = .returned (.tuple #[eVal Ent.zero, .int .i64 41]) ∧ Below W.heap.size W w' := by
  go_enter Tryz.func80, Tryz.ntmps80
  go_wp2
  exact bodyPost_ret (v := .tuple #[eVal _, .int .i64 _]) (by simp [results, Tryz.results80, go_sem]; rfl) rfl ⟨rfl, ((Below.refl _ _).alloc (Nat.le_refl _) _)⟩
set_option maxRecDepth 100000 in
set_option maxHeartbeats 1000000 in
theorem entnone (e : Nat) (lv : Int) (W : World) (hl : lv < 0 ∨ 2 < lv) :
    Calls Tryz.prog 80 #[.int .u64 (e : Nat), .int .i64 lv] W fun en w' => en = .returned (.tuple #[eVal Ent.zero, .int .i64 1]) ∧ Below W.heap.size W w' := by
  rcases hl with hl | hl
  · go_enter Tryz.func80, Tryz.ntmps80
    go_wp2
    exact bodyPost_ret (v := .tuple #[eVal _, .int .i64 _]) (by simp [results, Tryz.results80, go_sem]; rfl) rfl ⟨rfl, ((Below.refl _ _).alloc (Nat.le_refl _) _)⟩
  · have hl' : ¬ lv < 0 := by omega
    go_enter Tryz.func80, Tryz.ntmps80
    go_wp2
    exact bodyPost_ret (v := .tuple #[eVal _, .int .i64 _]) (by simp [results, Tryz.results80, go_sem]; rfl) rfl ⟨rfl, ((Below.refl _ _).alloc (Nat.le_refl _) _)⟩

end Go.Proofs.YtfpofaniicegaaaGreat
