/- Texts of this claim, one behind the other: BuL. -/
import Derived.Test.YtfpofaniicegaaaGreatJWalkForeign9
import Derived.Test.YtfpofaniicegaaaGreatJWalkForeign10
/- The walks of Peek and Load. -/
set_option linter.unusedVariables false
set_option linter.unusedSimpArgs false
namespace Go.Proofs.YtfpofaniicegaaaGreat
open Go.RowKit
open S64
namespace Bu
set_option maxRecDepth 100000 in
set_option maxHeartbeats 1000000 in
theorem peek_bad (g at_ : Nat) (z : Int) (w : World) (hz : wideB z = false) :
    Calls Tryz.prog 123 #[.pointer (some ⟨g, 0, none⟩), .int .u64 (at_ : Nat), .int .i64 z] w fun e w' => e = .returned (.tuple #[.int .u64 0, .agg #[.int .i64 31, .int .u64 (at_ : Nat)]]) ∧ Below w.heap.size w w' := by
  have HZ := Lib.hid hz
  clear hz
  go_enter Tryz.func123, Tryz.ntmps123
  go_upto_region 1 with fail
  have r0 : Row (w.alloc (.cells #[.int .i64 0, .int .u64 0] 57)) w.heap.size 57 [.int .i64 0, .int .u64 0] := Row.new w _ [.int .i64 0, .int .u64 0]
  have hb0 : Below w.heap.size w (w.alloc (.cells #[.int .i64 0, .int .u64 0] 57)) := (Below.refl _ _).alloc (Nat.le_refl _) _
  generalize w.alloc (.cells #[.int .i64 0, .int .u64 0] 57) = w1 at *
  have f0 := r0.cell 0
  have f1 := r0.cell 1
  have fz0 := r0.frozen 0
  have fz1 := r0.frozen 1
  have lf := r0.lt
  simp only [List.getElem?_cons_zero, List.getElem?_cons_succ] at f0 f1
  have HB := Lib.hid hb0; have HR := Lib.hid r0
  clear hb0 r0
  go_wp2_with (go_at_call 54; refine (wide_any z w1).mono ?_; rw [HZ.out]; rintro e w' ⟨rfl, rfl⟩)
  have hrz := (HR.out.set_ 0 (.int .i64 31)).set_ 1 (.int .u64 (at_ : Nat))
  have z0 := hrz.cell 0
  have z1 := hrz.cell 1
  simp only [List.set_cons_zero, List.set_cons_succ, List.getElem?_cons_zero, List.getElem?_cons_succ] at z0 z1
  refine bodyPost_ret (v := .tuple #[.int .u64 0, .agg #[.int .i64 31, .int .u64 (at_ : Nat)]]) (by simp [results, Tryz.results123, go_sem, z0, z1]) rfl ⟨rfl, (HB.out.setCell (p := ⟨w.heap.size, 0, none⟩) (Nat.le_refl _) _).setCell (p := ⟨w.heap.size, 1, none⟩) (Nat.le_refl _) _⟩
theorem unle_zeros (a : List Nat) (m : Nat) : Wd.unle (a ++ List.replicate m 0) = Wd.unle a := by
  rw [Wd.unle_append]
  have : Wd.unle (List.replicate m 0) = 0 := by
    induction m with
    | zero => rfl
    | succ m ih => rw [List.replicate_succ, Wd.unle, ih]
  rw [this, Nat.mul_zero, Nat.add_zero]
/-- the number that k bytes are -/
def numB (mem : Nat → Nat) (at_ k : Nat) : Nat := Wd.unle ((List.range k).map fun i => mem (at_ + i))
theorem numB_lt {mem : Nat → Nat} (hb : ∀ p, mem p < 256) (a k : Nat) : numB mem a k < 256 ^ k := by
  have h := Wd.unle_lt ((List.range k).map fun i => mem (a + i)) (fun b hb' => by obtain ⟨i, _, rfl⟩ := List.mem_map.1 hb'; exact hb _)
  rw [List.length_map, List.length_range] at h
  exact h
def b8 (mem : Nat → Nat) (at_ k : Nat) : List Nat := ((List.range k).map fun i => mem (at_ + i)) ++ List.replicate (8 - k) 0
theorem b8_len (mem : Nat → Nat) (at_ k : Nat) (hk : k ≤ 8) : (b8 mem at_ k).length = 8 := by simp [b8]; omega
theorem b8_num (mem : Nat → Nat) (at_ k : Nat) (hk : k ≤ 8) : Wd.unle ((b8 mem at_ k).take 8) = numB mem at_ k := by
  rw [List.take_of_length_le (by rw [b8_len _ _ _ hk]; omega), b8, unle_zeros]; rfl
theorem b8_lt (mem : Nat → Nat) (at_ k : Nat) (hb : ∀ p, mem p < 256) : ∀ b ∈ b8 mem at_ k, b < 256 := by
  intro b h
  rw [b8, List.mem_append] at h
  rcases h with h | h
  · obtain ⟨i, _, rfl⟩ := List.mem_map.1 h; exact hb _
  · rw [List.eq_of_mem_replicate h]; omega
theorem b8_splice (mem : Nat → Nat) (at_ k : Nat) (hk : k ≤ 8) : splice [.int .u8 0, .int .u8 0, .int .u8 0, .int .u8 0, .int .u8 0, .int .u8 0, .int .u8 0, .int .u8 0] 0 (outB mem at_ k k) = (b8 mem at_ k).map u8 := by
  have e : ([.int .u8 0, .int .u8 0, .int .u8 0, .int .u8 0, .int .u8 0, .int .u8 0, .int .u8 0, .int .u8 0] : List Value) = List.replicate 8 (u8 0) := rfl
  rw [e]
  unfold splice b8
  rw [List.map_append, List.take_zero, List.nil_append, outB_len, Nat.zero_add, List.drop_replicate, List.map_replicate, List.map_map]
  congr 1
  refine List.map_congr_left fun i hi => ?_
  rw [if_pos (List.mem_range.1 hi)]; rfl
/-- copy into a row, as a step of a region -/
theorem step_copy_at {P : Program} {w : World} {ops : Array Oper} {o : Oper} {a : Act} {K : Act → World → Prop} {Q : Exit → Act → World → Prop} {E : Prop} (hgd : o.guard = none) (d s : Operand) (dT sT : TypeId)
    (ho : o.op = .call { callee := .builtin .copy, args := #[d, s], argTypes := #[dT, sT] }) (elem : TypeId) (hu : P.underlying dT = some (.slice elem)) (hsz : (P.info? elem).map (·.size) = some 1)
    (g off : Nat) (ad : Addr) (dLen dCap sLen sCap : Nat) (hd : a.eval d = .slice (some ⟨g, off, none⟩) dLen dCap) (hs : a.eval s = .slice (some ad) sLen sCap)
    (cur : List Value) (t : TypeId) (hg : Row w g t cur) (cs : List Value) (hn : cs.length = Nat.min sLen dLen)
    (hsrc : ∀ j v, cs[j]? = some v → w.cell? (ad.add j) = some v) (hfit : off + cs.length ≤ cur.length) (h1 : ∀ v ∈ cs, v.oneCell' = true)
    (h : K (a.put o.dst (goInt (Nat.min sLen dLen))) (w.setRow g (splice cur off cs).toArray)) :
    if Region.wanted o (yielded ops a.tmps) = true then Oper.wp P o a w K Q else E := by
  have hw : Region.wanted o (yielded ops a.tmps) = true := by simp [Region.wanted, hgd]
  rw [if_pos hw]
  have hrun := run_copy_sz (P := P) w dT sT o.type elem g off dLen dCap ad sLen sCap 1 cur.toArray t cs hu hsz hg (by rw [Nat.mul_one]; exact hn) hsrc (by simpa using hfit) h1
  unfold Oper.wp
  simp [execOp, ho, resolve, invoke, builtin, hd, hs, hrun, Result.andThen]
  simp only [splice] at h
  exact h
theorem wideB_of {k : Nat} (hk : k = 1 ∨ k = 2 ∨ k = 4 ∨ k = 8) : wideB (k : Int) = true := by
  rcases hk with rfl | rfl | rfl | rfl <;> decide
/-- what Peek tells -/
def peekV (M : PM) (at_ k : Nat) (F : Option Nat) : Nat := match F with
  | none => numB M.mem at_ k
  | some _ => 0
set_option maxRecDepth 100000 in
set_option maxHeartbeats 1000000 in
theorem peek_any (Z R : Nat → Prop) (M : PM) (A1 A2 Ao : Option Addr) (x1 x2 no co b : Nat) (pm : Nat → Option Nat) (sp : Sp.S) (at_ n g : Nat) (w : World)
    (hm : MachAt Z R w g M A1 A2 Ao x1 x2 no co b pm sp) (hk : n = 1 ∨ n = 2 ∨ n = 4 ∨ n = 8) (ha : at_ ≤ TOP) (hs : True) :
    Calls Tryz.prog 123 #[.pointer (some ⟨g, 0, none⟩), .int .u64 (at_ : Nat), .int .i64 (n : Nat)] w fun e w' => e = .returned (.tuple #[.int .u64 (peekV M at_ n (offAt sp at_ n) : Nat), faultV (offAt sp at_ n)]) ∧ MachAt Z R w' g (stray M (offAt sp at_ n)) A1 A2 Ao x1 x2 no co b pm sp ∧ ChgP Z w w' := by
  have HM := Lib.hid hm
  have HA := Lib.hid ha
  have HS := Lib.hid hs
  have HW := Lib.hid (wideB_of hk)
  have hn8 : n ≤ 8 := by omega
  have HN : Hid (n ≤ 9223372036854775807) := Lib.hid (by omega)
  clear hm ha hs hk
  unfold TOP at HA
  go_enter Tryz.func123, Tryz.ntmps123
  go_upto_region 1 with fail
  have r0 : Row (w.alloc (.cells #[.int .i64 0, .int .u64 0] 57)) w.heap.size 57 [.int .i64 0, .int .u64 0] := Row.new w _ [.int .i64 0, .int .u64 0]
  have hb0 : Below w.heap.size w (w.alloc (.cells #[.int .i64 0, .int .u64 0] 57)) := (Below.refl _ _).alloc (Nat.le_refl _) _
  generalize w.alloc (.cells #[.int .i64 0, .int .u64 0] 57) = w1 at *
  have HM1 : Hid (MachAt (fun k => Z k ∧ k < w.heap.size) (fun k => R k ∧ k < w.heap.size) w1 g M A1 A2 Ao x1 x2 no co b pm sp) := Lib.hid (HM.out.tight.below hb0)
  have HB0 := Lib.hid hb0; have HR0 := Lib.hid r0
  clear hb0 r0
  go_upto_region 3 with (go_at_call 54; refine (wide_any (n : Int) w1).mono ?_; rw [HW.out]; rintro e w' ⟨rfl, hw⟩; obtain rfl := hw.symm)
  obtain ⟨F, hF⟩ : ∃ F, F = offAt sp at_ n := ⟨_, rfl⟩
  have HF := Lib.hid hF
  clear hF
  cases F with
  | some p =>
    go_upto_region 4 with (go_at_call 55; refine (access_any _ _ M A1 A2 Ao x1 x2 no co b pm sp at_ n g w1 HM1.out HN.out HA.out HS.out).mono ?_; rw [← HF.out]; rintro e w2 ⟨rfl, hm2, hc2⟩; have HM2 := Lib.hid hm2; have HC2 := Lib.hid hc2; clear hm2 hc2; unfold faultV)
    have hra : Row (w2.alloc (.cells #[.int .i64 30, .int .u64 (p : Nat)] 57)) w.heap.size 57 [.int .i64 0, .int .u64 0] := (HC2.out.row HR0.out (fun h => Nat.lt_irrefl _ h.2)).alloc _
    have hrc : Row (w2.alloc (.cells #[.int .i64 30, .int .u64 (p : Nat)] 57)) w2.heap.size 57 [.int .i64 30, .int .u64 (p : Nat)] := Row.new w2 _ [.int .i64 30, .int .u64 (p : Nat)]
    have hm3 := HM2.out.below (w' := w2.alloc (.cells #[.int .i64 30, .int .u64 (p : Nat)] 57)) ((Below.refl _ _).alloc (Nat.le_refl _) _)
    have hc3 : ChgP (fun k => Z k ∧ k < w.heap.size) w1 (w2.alloc (.cells #[.int .i64 30, .int .u64 (p : Nat)] 57)) := HC2.out.alloc _
    have HNE : Hid (w.heap.size ≠ w2.heap.size) := Lib.hid (by have := HC2.out.size; have := HR0.out.lt; omega)
    obtain ⟨c, hc⟩ : ∃ c, c = w2.heap.size := ⟨_, rfl⟩
    rw [← hc] at hrc HNE ⊢
    clear hc
    generalize w2.alloc (.cells #[.int .i64 30, .int .u64 (p : Nat)] 57) = w3 at *
    have HRA := Lib.hid hra; have HRC := Lib.hid hrc; have HM3 := Lib.hid hm3; have HC3 := Lib.hid hc3
    have q0 := hra.cell 0
    have q1 := hra.cell 1
    have t0 := hrc.cell 0
    have t1 := hrc.cell 1
    have la := hra.lt
    have lc := hrc.lt
    simp only [List.getElem?_cons_zero, List.getElem?_cons_succ] at q0 q1 t0 t1
    clear hra hrc hm3 hc3
    go_upto_region 5 with fail
    have a0 := HRA.out.frozen 0
    have a1 := HRA.out.frozen 1
    go_still_tail 2, (by kernel_rfl)
    change wpList _ _ _ _ _ w3.drew
    have hr5 := (HRA.out.drew.set_ 0 (.int .i64 30)).set_ 1 (.int .u64 (p : Nat))
    have z0 := hr5.cell 0
    have z1 := hr5.cell 1
    simp only [List.set_cons_zero, List.set_cons_succ, List.getElem?_cons_zero, List.getElem?_cons_succ] at z0 z1
    have hr6 := (HRA.out.set_ 0 (.int .i64 30)).set_ 1 (.int .u64 (p : Nat))
    have y0 := hr6.cell 0
    have y1 := hr6.cell 1
    simp only [List.set_cons_zero, List.set_cons_succ, List.getElem?_cons_zero, List.getElem?_cons_succ] at y0 y1
    have HY0 := Lib.hid y0; have HY1 := Lib.hid y1
    have hcq : ChgP (fun k => w.heap.size ≤ k) w3 ((w3.drew.setCell ⟨w.heap.size, 0, none⟩ (.int .i64 30)).setCell ⟨w.heap.size, 1, none⟩ (.int .u64 (p : Nat))) := ((ChgP.refl (fun k => w.heap.size ≤ k) w3).drew.set_ (p := ⟨w.heap.size, 0, none⟩) (.inl (Nat.le_refl _)) _).set_ (p := ⟨w.heap.size, 1, none⟩) (.inl (Nat.le_refl _)) _
    have HM5 := Lib.hid (MachAt.past (Z := Z) (R := R) (N := w.heap.size) HM3.out hcq HM.out.dis)
    have HC5 : Hid (ChgP Z w ((w3.drew.setCell ⟨w.heap.size, 0, none⟩ (.int .i64 30)).setCell ⟨w.heap.size, 1, none⟩ (.int .u64 (p : Nat)))) := Lib.hid ((((ChgP.of_below HB0.out).trans HC3.out (fun x hx => .inl hx.1)).drew.set_ (p := ⟨w.heap.size, 0, none⟩) (.inr (Nat.le_refl _)) _).set_ (p := ⟨w.heap.size, 1, none⟩) (.inr (Nat.le_refl _)) _)
    clear hr5 hcq hr6
    go_wp2_with fail
    refine bodyPost_ret (v := .tuple #[.int .u64 0, .agg #[.int .i64 30, .int .u64 (p : Nat)]]) (by simp [results, Tryz.results123, go_sem, HY0.out, HY1.out, z0, z1]) rfl ⟨by rw [← HF.out]; rfl, by rw [← HF.out]; exact HM5.out, HC5.out⟩
  | none =>
    go_upto_region 4 with (go_at_call 55; refine (access_any _ _ M A1 A2 Ao x1 x2 no co b pm sp at_ n g w1 HM1.out HN.out HA.out HS.out).mono ?_; rw [← HF.out]; rintro e w2 ⟨rfl, hm2, hc2⟩; have HM2 := Lib.hid hm2; have HC2 := Lib.hid hc2; clear hm2 hc2; unfold faultV)
    have hra : Row (w2.alloc (.cells #[.int .i64 0, .int .u64 0] 57)) w.heap.size 57 [.int .i64 0, .int .u64 0] := (HC2.out.row HR0.out (fun h => Nat.lt_irrefl _ h.2)).alloc _
    have hrc : Row (w2.alloc (.cells #[.int .i64 0, .int .u64 0] 57)) w2.heap.size 57 [.int .i64 0, .int .u64 0] := Row.new w2 _ [.int .i64 0, .int .u64 0]
    have hm3 := HM2.out.below (w' := w2.alloc (.cells #[.int .i64 0, .int .u64 0] 57)) ((Below.refl _ _).alloc (Nat.le_refl _) _)
    have hc3 : ChgP (fun k => Z k ∧ k < w.heap.size) w1 (w2.alloc (.cells #[.int .i64 0, .int .u64 0] 57)) := HC2.out.alloc _
    have HNE : Hid (w.heap.size ≠ w2.heap.size) := Lib.hid (by have := HC2.out.size; have := HR0.out.lt; omega)
    have hcs : w.heap.size ≤ w2.heap.size := Nat.le_trans HB0.out.size HC2.out.size
    obtain ⟨c, hc⟩ : ∃ c, c = w2.heap.size := ⟨_, rfl⟩
    rw [← hc] at hrc HNE hcs ⊢
    clear hc
    generalize w2.alloc (.cells #[.int .i64 0, .int .u64 0] 57) = w3 at *
    have HRA := Lib.hid hra; have HRC := Lib.hid hrc; have HM3 := Lib.hid hm3; have HC3 := Lib.hid hc3; have HCS := Lib.hid hcs
    have q0 := hra.cell 0
    have q1 := hra.cell 1
    have t0 := hrc.cell 0
    have t1 := hrc.cell 1
    have la := hra.lt
    have lc := hrc.lt
    simp only [List.getElem?_cons_zero, List.getElem?_cons_succ] at q0 q1 t0 t1
    clear hra hrc hm3 hc3 hcs
    have H64 := Lib.hid (offAt_none HM.out HA.out HF.out.symm)
    go_upto_region 7 with fail
    have hrb : Row (w3.alloc (.cells #[.int .u8 0, .int .u8 0, .int .u8 0, .int .u8 0, .int .u8 0, .int .u8 0, .int .u8 0, .int .u8 0] 132)) w3.heap.size 132 [.int .u8 0, .int .u8 0, .int .u8 0, .int .u8 0, .int .u8 0, .int .u8 0, .int .u8 0, .int .u8 0] := Row.new w3 _ [.int .u8 0, .int .u8 0, .int .u8 0, .int .u8 0, .int .u8 0, .int .u8 0, .int .u8 0, .int .u8 0]
    have hra4 : Row (w3.alloc (.cells #[.int .u8 0, .int .u8 0, .int .u8 0, .int .u8 0, .int .u8 0, .int .u8 0, .int .u8 0, .int .u8 0] 132)) w.heap.size 57 [.int .i64 0, .int .u64 0] := HRA.out.alloc _
    have hrc4 : Row (w3.alloc (.cells #[.int .u8 0, .int .u8 0, .int .u8 0, .int .u8 0, .int .u8 0, .int .u8 0, .int .u8 0, .int .u8 0] 132)) c 57 [.int .i64 0, .int .u64 0] := HRC.out.alloc _
    have hb4 : Below w3.heap.size w3 (w3.alloc (.cells #[.int .u8 0, .int .u8 0, .int .u8 0, .int .u8 0, .int .u8 0, .int .u8 0, .int .u8 0, .int .u8 0] 132)) := (Below.refl _ _).alloc (Nat.le_refl _) _
    obtain ⟨c9, hc9⟩ : ∃ c9, c9 = w3.heap.size := ⟨_, rfl⟩
    rw [← hc9] at hrb ⊢
    have HC9 := Lib.hid hc9
    clear hc9
    generalize w3.alloc (.cells #[.int .u8 0, .int .u8 0, .int .u8 0, .int .u8 0, .int .u8 0, .int .u8 0, .int .u8 0, .int .u8 0] 132) = w4 at *
    have HM4 : Hid (MachAt (fun k => Z k ∧ k < w.heap.size) (fun k => R k ∧ k < w.heap.size) w4.drew g M A1 A2 Ao x1 x2 no co b pm sp) := Lib.hid (MachAt.below (M := M) HM3.out (hb4.drew))
    have HRB := Lib.hid hrb; have HRA4 := Lib.hid hra4; have HRC4 := Lib.hid hrc4; have HB4 := Lib.hid hb4
    clear hrb hra4 hrc4 hb4 q0 q1 t0 t1 la lc
    go_region_law (first
      | (go_simp; go_at_call 58; refine (bytes_any _ _ M A1 A2 Ao x1 x2 no co b pm sp at_ n g w4.drew HM4.out (by rcases H64.out with h | h <;> omega) (by omega) HA.out).mono ?_; rintro e w5 ⟨bb, rfl, hle, hrb5, hb5⟩; have HB5 := Lib.hid hb5; have HR5 := Lib.hid hrb5; have HLE := Lib.hid hle; clear hb5 hrb5 hle)
      | (refine step_copy_at rfl (.tmp 25) (.tmp 29) 45 45 rfl 5 Tryz.underlying45 size5b c9 0 ⟨bb, 0, none⟩ 8 8 n n rfl rfl _ _ (HRB.out.drew.below HB5.out HRB.out.lt) (outB M.mem at_ n n) (by rw [outB_len]; exact (Nat.min_eq_left hn8).symm) (fun j v hv => by rw [Addr.add_mid, Nat.zero_add, HR5.out.cell]; exact hv) (by rw [outB_len]; simp; omega) (fun v hv => by obtain ⟨i, _, rfl⟩ := List.mem_map.1 hv; rfl) ?_))
    rw [b8_splice _ _ _ hn8]
    have hb35 : Below w3.heap.size w3 w5 := HB4.out.drew.trans (HB5.out.mono HB4.out.size)
    have hgt : w.heap.size < c9 := by have := HC9.out; have := HRA.out.lt; omega
    have hgc : c < c9 := by have := HC9.out; have := HRC.out.lt; omega
    have hcz : ChgP (fun k => k = c9) w5 (w5.setRow c9 ((b8 M.mem at_ n).map u8).toArray) := (ChgP.refl (fun k => k = c9) w5).setRow (.inl rfl) _
    have hmz : MachAt (fun k => Z k ∧ k < w.heap.size) (fun k => R k ∧ k < w.heap.size) (w5.setRow c9 ((b8 M.mem at_ n).map u8).toArray) g M A1 A2 Ao x1 x2 no co b pm sp := (MachAt.below (M := M) HM3.out hb35).chg hcz (fun k hk hy => by rcases hk with hk | hk <;> have := hk.2 <;> omega)
    have hraz := hcz.row (HRA4.out.drew.below HB5.out HRA4.out.lt) (by omega)
    have hrcz := hcz.row (HRC4.out.drew.below HB5.out HRC4.out.lt) (by omega)
    have hrbz := setRow_row (HRB.out.drew.below HB5.out HRB.out.lt) ((b8 M.mem at_ n).map u8)
    have hchz : ChgP Z w (w5.setRow c9 ((b8 M.mem at_ n).map u8).toArray) := ((((ChgP.of_below HB0.out).trans HC3.out (fun x hx => .inl hx.1)).trans (ChgP.of_below (Z := fun _ => False) hb35) (fun x hx => hx.elim)).trans hcz (fun x hx => .inr (by subst hx; omega)))
    generalize w5.setRow c9 ((b8 M.mem at_ n).map u8).toArray = wz at *
    have HIB : Hid (IsB wz wz.heap.size (some ⟨c9, 0, none⟩) 8 (b8 M.mem at_ n)) := Lib.hid (IsB.of_row hrbz (by rw [List.drop_zero, List.take_of_length_le (by rw [List.length_map, b8_len _ _ _ hn8]; omega)]) (b8_len _ _ _ hn8) (b8_lt _ _ _ HM.out.byte) hrbz.lt (by omega) (by rw [List.length_map, b8_len _ _ _ hn8]; omega))
    have HNUM : Hid (Wd.unle ((b8 M.mem at_ n).take 8) = numB M.mem at_ n) := Lib.hid (b8_num _ _ _ hn8)
    have t0 := hrcz.cell 0
    have t1 := hrcz.cell 1
    simp only [List.getElem?_cons_zero, List.getElem?_cons_succ] at t0 t1
    have la := hraz.lt
    have a0 := hraz.frozen 0
    have a1 := hraz.frozen 1
    have q0 := hraz.cell 0
    have q1 := hraz.cell 1
    simp only [List.getElem?_cons_zero, List.getElem?_cons_succ] at q0 q1
    have HRAZ := Lib.hid hraz; have HMZ := Lib.hid hmz; have HCHZ := Lib.hid hchz
    clear hraz hrcz hrbz hmz hcz hchz hb35 hgt hgc
    go_upto_region 9 with (go_at_call 59; refine (get_uint64 (some ⟨c9, 0, none⟩) 8 8 (b8 M.mem at_ n) wz HIB.out (by omega) (by omega)).mono ?_; rw [HNUM.out]; rintro e w6 ⟨rfl, rfl⟩)
    go_still_tail 3, (by kernel_rfl)
    change wpList _ _ _ _ _ wz.drew
    have hr5 := (HRAZ.out.drew.set_ 0 (.int .i64 0)).set_ 1 (.int .u64 0)
    have z0 := hr5.cell 0
    have z1 := hr5.cell 1
    simp only [List.set_cons_zero, List.set_cons_succ, List.getElem?_cons_zero, List.getElem?_cons_succ] at z0 z1
    have hr6 := (HRAZ.out.set_ 0 (.int .i64 0)).set_ 1 (.int .u64 0)
    have y0 := hr6.cell 0
    have y1 := hr6.cell 1
    simp only [List.set_cons_zero, List.set_cons_succ, List.getElem?_cons_zero, List.getElem?_cons_succ] at y0 y1
    have HY0 := Lib.hid y0; have HY1 := Lib.hid y1
    have hcq : ChgP (fun k => w.heap.size ≤ k) wz ((wz.drew.setCell ⟨w.heap.size, 0, none⟩ (.int .i64 0)).setCell ⟨w.heap.size, 1, none⟩ (.int .u64 0)) := ((ChgP.refl (fun k => w.heap.size ≤ k) wz).drew.set_ (p := ⟨w.heap.size, 0, none⟩) (.inl (Nat.le_refl _)) _).set_ (p := ⟨w.heap.size, 1, none⟩) (.inl (Nat.le_refl _)) _
    have HM5 := Lib.hid (MachAt.past (Z := Z) (R := R) (N := w.heap.size) HMZ.out hcq HM.out.dis)
    have HC5 : Hid (ChgP Z w ((wz.drew.setCell ⟨w.heap.size, 0, none⟩ (.int .i64 0)).setCell ⟨w.heap.size, 1, none⟩ (.int .u64 0))) := Lib.hid ((HCHZ.out.drew.set_ (p := ⟨w.heap.size, 0, none⟩) (.inr (Nat.le_refl _)) _).set_ (p := ⟨w.heap.size, 1, none⟩) (.inr (Nat.le_refl _)) _)
    clear hr5 hcq hr6
    go_wp2_with fail
    refine bodyPost_ret (v := .tuple #[.int .u64 (numB M.mem at_ n : Nat), .agg #[.int .i64 0, .int .u64 0]]) (by simp [results, Tryz.results123, go_sem, HY0.out, HY1.out, z0, z1]) rfl ⟨by rw [← HF.out]; rfl, by rw [← HF.out]; exact HM5.out, HC5.out⟩
/-- a load that was done is counted -/
def loaded (y : Nat) (M : PM) : PM := if y = 0 then { M with loads := cInc M.loads } else M
set_option maxRecDepth 100000 in
set_option maxHeartbeats 1000000 in
theorem load_of (Z R : Nat → Prop) (M M1 : PM) (A1 A2 Ao : Option Addr) (x1 x2 no co b : Nat) (pm : Nat → Option Nat) (sp : Sp.S) (at_ g v y q : Nat) (z : Int) (w : World)
    (hm : MachAt Z R w g M A1 A2 Ao x1 x2 no co b pm sp) (hl : True)
    (hpk : ∀ wx, Below w.heap.size w wx → Calls Tryz.prog 123 #[.pointer (some ⟨g, 0, none⟩), .int .u64 (at_ : Nat), .int .i64 z] wx fun e w' => e = .returned (.tuple #[.int .u64 (v : Nat), .agg #[.int .i64 (y : Nat), .int .u64 (q : Nat)]]) ∧ MachAt (fun k => Z k ∧ k < w.heap.size) (fun k => R k ∧ k < w.heap.size) w' g M1 A1 A2 Ao x1 x2 no co b pm sp ∧ ChgP (fun k => Z k ∧ k < w.heap.size) wx w') :
    Calls Tryz.prog 122 #[.pointer (some ⟨g, 0, none⟩), .int .u64 (at_ : Nat), .int .i64 z] w fun e w' => e = .returned (.tuple #[.int .u64 (v : Nat), .agg #[.int .i64 (y : Nat), .int .u64 (q : Nat)]]) ∧ MachAt Z R w' g (loaded y M1) A1 A2 Ao x1 x2 no co b pm sp ∧ ChgP Z w w' := by
  have HM := Lib.hid hm
  have HP := Lib.hid hpk
  have HL := Lib.hid hl
  have HLD := Lib.hid (show loaded y M1 = if y = 0 then { M1 with loads := cInc M1.loads } else M1 from rfl)
  clear hm hpk hl
  go_enter Tryz.func122, Tryz.ntmps122
  go_upto_region 1 with fail
  have r0 : Row (w.alloc (.cells #[.int .i64 0, .int .u64 0] 57)) w.heap.size 57 [.int .i64 0, .int .u64 0] := Row.new w _ [.int .i64 0, .int .u64 0]
  have hb0 : Below w.heap.size w (w.alloc (.cells #[.int .i64 0, .int .u64 0] 57)) := (Below.refl _ _).alloc (Nat.le_refl _) _
  generalize w.alloc (.cells #[.int .i64 0, .int .u64 0] 57) = w1 at *
  have HB0 := Lib.hid hb0; have HR0 := Lib.hid r0
  clear hb0 r0
  go_upto_region 2 with (go_at_call 123; refine (HP.out w1 HB0.out).mono ?_; rintro e w2 ⟨rfl, hm2, hc2⟩; have HM2 := Lib.hid hm2; have HC2 := Lib.hid hc2; clear hm2 hc2)
  have hra : Row (w2.alloc (.cells #[.int .i64 (y : Nat), .int .u64 (q : Nat)] 57)) w.heap.size 57 [.int .i64 0, .int .u64 0] := (HC2.out.row HR0.out (fun h => Nat.lt_irrefl _ h.2)).alloc _
  have hrc : Row (w2.alloc (.cells #[.int .i64 (y : Nat), .int .u64 (q : Nat)] 57)) w2.heap.size 57 [.int .i64 (y : Nat), .int .u64 (q : Nat)] := Row.new w2 _ [.int .i64 (y : Nat), .int .u64 (q : Nat)]
  have hm3 := HM2.out.below (w' := w2.alloc (.cells #[.int .i64 (y : Nat), .int .u64 (q : Nat)] 57)) ((Below.refl _ _).alloc (Nat.le_refl _) _)
  have hc3 : ChgP (fun k => Z k ∧ k < w.heap.size) w1 (w2.alloc (.cells #[.int .i64 (y : Nat), .int .u64 (q : Nat)] 57)) := HC2.out.alloc _
  have HNE : Hid (w.heap.size ≠ w2.heap.size) := Lib.hid (by have := HC2.out.size; have := HR0.out.lt; omega)
  obtain ⟨c, hc⟩ : ∃ c, c = w2.heap.size := ⟨_, rfl⟩
  rw [← hc] at hrc HNE ⊢
  clear hc
  generalize w2.alloc (.cells #[.int .i64 (y : Nat), .int .u64 (q : Nat)] 57) = w3 at *
  have HRA := Lib.hid hra; have HRC := Lib.hid hrc; have HM3 := Lib.hid hm3; have HC3 := Lib.hid hc3
  clear hra hrc hm3 hc3
  have t0 := HRC.out.cell 0
  have lc := HRC.out.lt
  simp only [List.getElem?_cons_zero] at t0
  by_cases hy : ((y : Int) == 0) = true
  · have HY : Hid (y = 0) := Lib.hid (by simpa using hy)
    have p0 := HM3.out.row.cell 0
    have pz := HM3.out.row.frozen 0
    have lg := HM3.out.row.lt
    simp only [List.getElem?_cons_zero] at p0
    obtain ⟨yy, hyy⟩ : ∃ yy, yy = cInc M1.loads := ⟨_, rfl⟩
    have hw1 : IntKind.i64.wrap (M1.loads + 1) = yy := by rw [hyy]; rfl
    have hw2 : wrap64 (M1.loads + 1) = yy := by rw [hyy]; unfold cInc wrap64; exact (IntKind.wrap_i64 _).symm
    have HYY := Lib.hid hyy
    clear hyy
    go_upto_region 4 with fail
    have hm4 : MachAt (fun k => Z k ∧ k < w.heap.size) (fun k => R k ∧ k < w.heap.size) (w3.setCell ⟨g, 0, none⟩ (.int .i64 yy)) g { M1 with loads := cInc M1.loads } A1 A2 Ao x1 x2 no co b pm sp := HM3.out.count 0 _ _ rfl rfl rfl (by rw [HYY.out]; simp)
    have hne : w.heap.size ≠ g := Row.ne_t HRA.out HM3.out.row (by decide)
    have hnc : c ≠ g := Row.ne_t HRC.out HM3.out.row (by decide)
    have hra4 := HRA.out.far (p := ⟨g, 0, none⟩) hne (.int .i64 yy)
    have hrc4 := HRC.out.far (p := ⟨g, 0, none⟩) hnc (.int .i64 yy)
    have hc4 : ChgP Z w (w3.setCell ⟨g, 0, none⟩ (.int .i64 yy)) := ((ChgP.of_below HB0.out).trans HC3.out (fun x hx => .inl hx.1)).set_ (p := ⟨g, 0, none⟩) (.inl HM.out.zg) _
    clear p0 pz lg hw1 hw2 t0 lc hne hnc
    generalize w3.setCell ⟨g, 0, none⟩ (.int .i64 yy) = w4 at *
    have HRA4 := Lib.hid hra4; have HRC4 := Lib.hid hrc4; have HM4 := Lib.hid hm4; have HC4 := Lib.hid hc4
    have t0 := hrc4.cell 0
    have t1 := hrc4.cell 1
    have la := hra4.lt
    have a0 := hra4.frozen 0
    have a1 := hra4.frozen 1
    simp only [List.getElem?_cons_zero, List.getElem?_cons_succ] at t0 t1
    clear hra4 hrc4 hm4 hc4
    go_still_tail 3, (by kernel_rfl)
    change wpList _ _ _ _ _ w4.drew
    have hr5 := (HRA4.out.drew.set_ 0 (.int .i64 (y : Nat))).set_ 1 (.int .u64 (q : Nat))
    have z0 := hr5.cell 0
    have z1 := hr5.cell 1
    simp only [List.set_cons_zero, List.set_cons_succ, List.getElem?_cons_zero, List.getElem?_cons_succ] at z0 z1
    have hr6 := (HRA4.out.set_ 0 (.int .i64 (y : Nat))).set_ 1 (.int .u64 (q : Nat))
    have y0 := hr6.cell 0
    have y1 := hr6.cell 1
    simp only [List.set_cons_zero, List.set_cons_succ, List.getElem?_cons_zero, List.getElem?_cons_succ] at y0 y1
    have HY0 := Lib.hid y0; have HY1 := Lib.hid y1
    have q0 := HRA4.out.cell 0
    have q1 := HRA4.out.cell 1
    simp only [List.getElem?_cons_zero, List.getElem?_cons_succ] at q0 q1
    have hcq : ChgP (fun k => w.heap.size ≤ k) w4 ((w4.drew.setCell ⟨w.heap.size, 0, none⟩ (.int .i64 (y : Nat))).setCell ⟨w.heap.size, 1, none⟩ (.int .u64 (q : Nat))) := ((ChgP.refl (fun k => w.heap.size ≤ k) w4).drew.set_ (p := ⟨w.heap.size, 0, none⟩) (.inl (Nat.le_refl _)) _).set_ (p := ⟨w.heap.size, 1, none⟩) (.inl (Nat.le_refl _)) _
    have HM5 := Lib.hid (MachAt.past (Z := Z) (R := R) (N := w.heap.size) HM4.out hcq HM.out.dis)
    have HC5 : Hid (ChgP Z w ((w4.drew.setCell ⟨w.heap.size, 0, none⟩ (.int .i64 (y : Nat))).setCell ⟨w.heap.size, 1, none⟩ (.int .u64 (q : Nat)))) := Lib.hid ((HC4.out.drew.set_ (p := ⟨w.heap.size, 0, none⟩) (.inr (Nat.le_refl _)) _).set_ (p := ⟨w.heap.size, 1, none⟩) (.inr (Nat.le_refl _)) _)
    clear hr5 hcq hr6
    go_wp2_with fail
    refine bodyPost_ret (v := .tuple #[.int .u64 (v : Nat), .agg #[.int .i64 (y : Nat), .int .u64 (q : Nat)]]) (by simp [results, Tryz.results122, go_sem, HY0.out, HY1.out, z0, z1]) rfl ⟨rfl, by rw [HLD.out, if_pos HY.out]; exact HM5.out, HC5.out⟩
  · have HY : Hid (¬ y = 0) := Lib.hid (by simpa using hy)
    rw [Bool.not_eq_true] at hy
    have t1 := HRC.out.cell 1
    have la := HRA.out.lt
    have a0 := HRA.out.frozen 0
    have a1 := HRA.out.frozen 1
    simp only [List.getElem?_cons_zero, List.getElem?_cons_succ] at t1
    have HC4 : Hid (ChgP Z w w3) := Lib.hid ((ChgP.of_below HB0.out).trans HC3.out (fun x hx => .inl hx.1))
    go_upto_region 4 with fail
    go_still_tail 3, (by kernel_rfl)
    change wpList _ _ _ _ _ w3.drew
    have hr5 := (HRA.out.drew.set_ 0 (.int .i64 (y : Nat))).set_ 1 (.int .u64 (q : Nat))
    have z0 := hr5.cell 0
    have z1 := hr5.cell 1
    simp only [List.set_cons_zero, List.set_cons_succ, List.getElem?_cons_zero, List.getElem?_cons_succ] at z0 z1
    have hr6 := (HRA.out.set_ 0 (.int .i64 (y : Nat))).set_ 1 (.int .u64 (q : Nat))
    have y0 := hr6.cell 0
    have y1 := hr6.cell 1
    simp only [List.set_cons_zero, List.set_cons_succ, List.getElem?_cons_zero, List.getElem?_cons_succ] at y0 y1
    have HY0 := Lib.hid y0; have HY1 := Lib.hid y1
    have q0 := HRA.out.cell 0
    have q1 := HRA.out.cell 1
    simp only [List.getElem?_cons_zero, List.getElem?_cons_succ] at q0 q1
    have hcq : ChgP (fun k => w.heap.size ≤ k) w3 ((w3.drew.setCell ⟨w.heap.size, 0, none⟩ (.int .i64 (y : Nat))).setCell ⟨w.heap.size, 1, none⟩ (.int .u64 (q : Nat))) := ((ChgP.refl (fun k => w.heap.size ≤ k) w3).drew.set_ (p := ⟨w.heap.size, 0, none⟩) (.inl (Nat.le_refl _)) _).set_ (p := ⟨w.heap.size, 1, none⟩) (.inl (Nat.le_refl _)) _
    have HM5 := Lib.hid (MachAt.past (Z := Z) (R := R) (N := w.heap.size) HM3.out hcq HM.out.dis)
    have HC5 : Hid (ChgP Z w ((w3.drew.setCell ⟨w.heap.size, 0, none⟩ (.int .i64 (y : Nat))).setCell ⟨w.heap.size, 1, none⟩ (.int .u64 (q : Nat)))) := Lib.hid ((HC4.out.drew.set_ (p := ⟨w.heap.size, 0, none⟩) (.inr (Nat.le_refl _)) _).set_ (p := ⟨w.heap.size, 1, none⟩) (.inr (Nat.le_refl _)) _)
    clear hr5 hcq hr6
    go_wp2_with fail
    refine bodyPost_ret (v := .tuple #[.int .u64 (v : Nat), .agg #[.int .i64 (y : Nat), .int .u64 (q : Nat)]]) (by simp [results, Tryz.results122, go_sem, HY0.out, HY1.out, z0, z1]) rfl ⟨rfl, by rw [HLD.out, if_neg HY.out]; exact HM5.out, HC5.out⟩
/-- what becomes of a machine by Load -/
def loadM (M : PM) (F : Option Nat) : PM := match F with
  | none => { M with loads := cInc M.loads }
  | some _ => { M with strays := cInc M.strays }
theorem load_any (Z R : Nat → Prop) (M : PM) (A1 A2 Ao : Option Addr) (x1 x2 no co b : Nat) (pm : Nat → Option Nat) (sp : Sp.S) (at_ n g : Nat) (w : World)
    (hm : MachAt Z R w g M A1 A2 Ao x1 x2 no co b pm sp) (hk : n = 1 ∨ n = 2 ∨ n = 4 ∨ n = 8) (ha : at_ ≤ TOP) (hs : True) (hl : True) :
    Calls Tryz.prog 122 #[.pointer (some ⟨g, 0, none⟩), .int .u64 (at_ : Nat), .int .i64 (n : Nat)] w fun e w' => e = .returned (.tuple #[.int .u64 (peekV M at_ n (offAt sp at_ n) : Nat), faultV (offAt sp at_ n)]) ∧ MachAt Z R w' g (loadM M (offAt sp at_ n)) A1 A2 Ao x1 x2 no co b pm sp ∧ ChgP Z w w' := by
  have hp := fun wx (hb : Below w.heap.size w wx) => peek_any _ _ M A1 A2 Ao x1 x2 no co b pm sp at_ n g wx (hm.tight.below hb) hk ha hs
  cases hF : offAt sp at_ n with
  | none =>
    rw [hF] at hp
    exact load_of Z R M M A1 A2 Ao x1 x2 no co b pm sp at_ g (numB M.mem at_ n) 0 0 (n : Int) w hm hl hp
  | some p =>
    rw [hF] at hp
    exact load_of Z R M { M with strays := cInc M.strays } A1 A2 Ao x1 x2 no co b pm sp at_ g 0 30 p (n : Int) w hm hl hp
theorem load_bad (Z R : Nat → Prop) (M : PM) (A1 A2 Ao : Option Addr) (x1 x2 no co b : Nat) (pm : Nat → Option Nat) (sp : Sp.S) (at_ g : Nat) (z : Int) (w : World)
    (hm : MachAt Z R w g M A1 A2 Ao x1 x2 no co b pm sp) (hz : wideB z = false) (hl : True) :
    Calls Tryz.prog 122 #[.pointer (some ⟨g, 0, none⟩), .int .u64 (at_ : Nat), .int .i64 z] w fun e w' => e = .returned (.tuple #[.int .u64 (0 : Nat), .agg #[.int .i64 31, .int .u64 (at_ : Nat)]]) ∧ MachAt Z R w' g M A1 A2 Ao x1 x2 no co b pm sp ∧ ChgP Z w w' :=
  load_of Z R M M A1 A2 Ao x1 x2 no co b pm sp at_ g 0 31 at_ z w hm hl fun wx hb => (peek_bad g at_ z wx hz).mono fun e w' h => ⟨h.1, (hm.tight.below hb).below h.2, ChgP.of_below h.2⟩
end Bu
end Go.Proofs.YtfpofaniicegaaaGreat
