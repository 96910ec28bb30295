/- Texts of this claim, one behind the other: BuL, BuQ. -/
import Derived.Test.YtblfagmoilhdnaaJPagesTold10
/- The walks of Peek and Load. -/
set_option linter.unusedVariables false
set_option linter.unusedSimpArgs false
namespace Go.Proofs.Ytblfagmoilhdnaa
open Go.RowKit
open S64
namespace Bu
set_option maxRecDepth 100000 in
set_option maxHeartbeats 1000000 in
theorem peek_bad (g at_ : Nat) (z : Int) (w : World) (hz : wideB z = false) :
    Calls Try.prog 137 #[.pointer (some ⟨g, 0, none⟩), .int .u64 (at_ : Nat), .int .i64 z] w fun e w' => e = .returned (.tuple #[.int .u64 0, .agg #[.int .i64 31, .int .u64 (at_ : Nat)]]) ∧ Below w.heap.size w w' := by
  have HZ := Lib.hid hz
  clear hz
  go_enter Try.func137, Try.ntmps137
  go_upto_region 1 with fail
  have r0 : Row (w.alloc (.cells #[.int .i64 0, .int .u64 0] 111)) w.heap.size 111 [.int .i64 0, .int .u64 0] := Row.new w _ [.int .i64 0, .int .u64 0]
  have hb0 : Below w.heap.size w (w.alloc (.cells #[.int .i64 0, .int .u64 0] 111)) := (Below.refl _ _).alloc (Nat.le_refl _) _
  generalize w.alloc (.cells #[.int .i64 0, .int .u64 0] 111) = w1 at *
  have f0 := r0.cell 0
  have f1 := r0.cell 1
  have fz0 := r0.frozen 0
  have fz1 := r0.frozen 1
  have lf := r0.lt
  simp only [List.getElem?_cons_zero, List.getElem?_cons_succ] at f0 f1
  have HB := Lib.hid hb0; have HR := Lib.hid r0
  clear hb0 r0
  go_wp2_with (go_at_call 74; refine (wide_any z w1).mono ?_; rw [HZ.out]; rintro e w' ⟨rfl, rfl⟩)
  have hrz := (HR.out.set_ 0 (.int .i64 31)).set_ 1 (.int .u64 (at_ : Nat))
  have z0 := hrz.cell 0
  have z1 := hrz.cell 1
  simp only [List.set_cons_zero, List.set_cons_succ, List.getElem?_cons_zero, List.getElem?_cons_succ] at z0 z1
  refine bodyPost_ret (v := .tuple #[.int .u64 0, .agg #[.int .i64 31, .int .u64 (at_ : Nat)]]) (by simp [results, Try.results137, go_sem, z0, z1]) rfl ⟨rfl, (HB.out.setCell (p := ⟨w.heap.size, 0, none⟩) (Nat.le_refl _) _).setCell (p := ⟨w.heap.size, 1, none⟩) (Nat.le_refl _) _⟩
theorem unle_zeros (a : List Nat) (m : Nat) : Wd.unle (a ++ List.replicate m 0) = Wd.unle a := by
  rw [Wd.unle_append]
  have : Wd.unle (List.replicate m 0) = 0 := by
    induction m with
    | zero => rfl
    | succ m ih => rw [List.replicate_succ, Wd.unle, ih]
  rw [this, Nat.mul_zero, Nat.add_zero]
/-- the number that k bytes are -/
def numB (mem : Nat → Nat) (at_ k : Nat) : Nat := Wd.unle ((List.range k).map fun i => mem (at_ + i))
theorem numB_lt {mem : Nat → Nat} (hb : ∀ p, mem p < 256) (a k : Nat) : numB mem a k < 256 ^ k := by
  have h := Wd.unle_lt ((List.range k).map fun i => mem (a + i)) (fun b hb' => by obtain ⟨i, _, rfl⟩ := List.mem_map.1 hb'; exact hb _)
  rw [List.length_map, List.length_range] at h
  exact h
def b8 (mem : Nat → Nat) (at_ k : Nat) : List Nat := ((List.range k).map fun i => mem (at_ + i)) ++ List.replicate (8 - k) 0
theorem b8_len (mem : Nat → Nat) (at_ k : Nat) (hk : k ≤ 8) : (b8 mem at_ k).length = 8 := by simp [b8]; omega
theorem b8_num (mem : Nat → Nat) (at_ k : Nat) (hk : k ≤ 8) : Wd.unle ((b8 mem at_ k).take 8) = numB mem at_ k := by
  rw [List.take_of_length_le (by rw [b8_len _ _ _ hk]; omega), b8, unle_zeros]; rfl
theorem b8_lt (mem : Nat → Nat) (at_ k : Nat) (hb : ∀ p, mem p < 256) : ∀ b ∈ b8 mem at_ k, b < 256 := by
  intro b h
  rw [b8, List.mem_append] at h
  rcases h with h | h
  · obtain ⟨i, _, rfl⟩ := List.mem_map.1 h; exact hb _
  · rw [List.eq_of_mem_replicate h]; omega
theorem b8_splice (mem : Nat → Nat) (at_ k : Nat) (hk : k ≤ 8) : splice [.int .u8 0, .int .u8 0, .int .u8 0, .int .u8 0, .int .u8 0, .int .u8 0, .int .u8 0, .int .u8 0] 0 (outB mem at_ k k) = (b8 mem at_ k).map u8 := by
  have e : ([.int .u8 0, .int .u8 0, .int .u8 0, .int .u8 0, .int .u8 0, .int .u8 0, .int .u8 0, .int .u8 0] : List Value) = List.replicate 8 (u8 0) := rfl
  rw [e]
  unfold splice b8
  rw [List.map_append, List.take_zero, List.nil_append, outB_len, Nat.zero_add, List.drop_replicate, List.map_replicate, List.map_map]
  congr 1
  refine List.map_congr_left fun i hi => ?_
  rw [if_pos (List.mem_range.1 hi)]; rfl
/-- copy into a row, as a step of a region -/
theorem step_copy_at {P : Program} {w : World} {ops : Array Oper} {o : Oper} {a : Act} {K : Act → World → Prop} {Q : Exit → Act → World → Prop} {E : Prop} (hgd : o.guard = none) (d s : Operand) (dT sT : TypeId)
    (ho : o.op = .call { callee := .builtin .copy, args := #[d, s], argTypes := #[dT, sT] }) (elem : TypeId) (hu : P.underlying dT = some (.slice elem)) (hsz : (P.info? elem).map (·.size) = some 1)
    (g off : Nat) (ad : Addr) (dLen dCap sLen sCap : Nat) (hd : a.eval d = .slice (some ⟨g, off, none⟩) dLen dCap) (hs : a.eval s = .slice (some ad) sLen sCap)
    (cur : List Value) (t : TypeId) (hg : Row w g t cur) (cs : List Value) (hn : cs.length = Nat.min sLen dLen)
    (hsrc : ∀ j v, cs[j]? = some v → w.cell? (ad.add j) = some v) (hfit : off + cs.length ≤ cur.length) (h1 : ∀ v ∈ cs, v.oneCell' = true)
    (h : K (a.put o.dst (goInt (Nat.min sLen dLen))) (w.setRow g (splice cur off cs).toArray)) :
    if Region.wanted o (yielded ops a.tmps) = true then Oper.wp P o a w K Q else E := by
  have hw : Region.wanted o (yielded ops a.tmps) = true := by simp [Region.wanted, hgd]
  rw [if_pos hw]
  have hrun := run_copy_sz (P := P) w dT sT o.type elem g off dLen dCap ad sLen sCap 1 cur.toArray t cs hu hsz hg (by rw [Nat.mul_one]; exact hn) hsrc (by simpa using hfit) h1
  unfold Oper.wp
  simp [execOp, ho, resolve, invoke, builtin, hd, hs, hrun, Result.andThen]
  simp only [splice] at h
  exact h
theorem wideB_of {k : Nat} (hk : k = 1 ∨ k = 2 ∨ k = 4 ∨ k = 8) : wideB (k : Int) = true := by
  rcases hk with rfl | rfl | rfl | rfl <;> decide
/-- what Peek tells -/
def peekV (M : PM) (at_ k : Nat) (F : Option Nat) : Nat := match F with
  | none => numB M.mem at_ k
  | some _ => 0
set_option maxRecDepth 100000 in
set_option maxHeartbeats 1000000 in
theorem peek_any (Z R : Nat → Prop) (M : PM) (A1 A2 Ao : Option Addr) (x1 x2 no co b : Nat) (pm : Nat → Option Nat) (sp : Sp.S) (at_ n g : Nat) (w : World)
    (hm : MachAt Z R w g M A1 A2 Ao x1 x2 no co b pm sp) (hk : n = 1 ∨ n = 2 ∨ n = 4 ∨ n = 8) (ha : at_ ≤ TOP) (hs : True) :
    Calls Try.prog 137 #[.pointer (some ⟨g, 0, none⟩), .int .u64 (at_ : Nat), .int .i64 (n : Nat)] w fun e w' => e = .returned (.tuple #[.int .u64 (peekV M at_ n (offAt sp at_ n) : Nat), faultV (offAt sp at_ n)]) ∧ MachAt Z R w' g (stray M (offAt sp at_ n)) A1 A2 Ao x1 x2 no co b pm sp ∧ ChgP Z w w' := by
  have HM := Lib.hid hm
  have HA := Lib.hid ha
  have HS := Lib.hid hs
  have HW := Lib.hid (wideB_of hk)
  have hn8 : n ≤ 8 := by omega
  have HN : Hid (n ≤ 9223372036854775807) := Lib.hid (by omega)
  clear hm ha hs hk
  unfold TOP at HA
  go_enter Try.func137, Try.ntmps137
  go_upto_region 1 with fail
  have r0 : Row (w.alloc (.cells #[.int .i64 0, .int .u64 0] 111)) w.heap.size 111 [.int .i64 0, .int .u64 0] := Row.new w _ [.int .i64 0, .int .u64 0]
  have hb0 : Below w.heap.size w (w.alloc (.cells #[.int .i64 0, .int .u64 0] 111)) := (Below.refl _ _).alloc (Nat.le_refl _) _
  generalize w.alloc (.cells #[.int .i64 0, .int .u64 0] 111) = w1 at *
  have HM1 : Hid (MachAt (fun k => Z k ∧ k < w.heap.size) (fun k => R k ∧ k < w.heap.size) w1 g M A1 A2 Ao x1 x2 no co b pm sp) := Lib.hid (HM.out.tight.below hb0)
  have HB0 := Lib.hid hb0; have HR0 := Lib.hid r0
  clear hb0 r0
  go_upto_region 3 with (go_at_call 74; refine (wide_any (n : Int) w1).mono ?_; rw [HW.out]; rintro e w' ⟨rfl, hw⟩; obtain rfl := hw.symm)
  obtain ⟨F, hF⟩ : ∃ F, F = offAt sp at_ n := ⟨_, rfl⟩
  have HF := Lib.hid hF
  clear hF
  cases F with
  | some p =>
    go_upto_region 4 with (go_at_call 75; refine (access_any _ _ M A1 A2 Ao x1 x2 no co b pm sp at_ n g w1 HM1.out HN.out HA.out HS.out).mono ?_; rw [← HF.out]; rintro e w2 ⟨rfl, hm2, hc2⟩; have HM2 := Lib.hid hm2; have HC2 := Lib.hid hc2; clear hm2 hc2; unfold faultV)
    have hra : Row (w2.alloc (.cells #[.int .i64 30, .int .u64 (p : Nat)] 111)) w.heap.size 111 [.int .i64 0, .int .u64 0] := (HC2.out.row HR0.out (fun h => Nat.lt_irrefl _ h.2)).alloc _
    have hrc : Row (w2.alloc (.cells #[.int .i64 30, .int .u64 (p : Nat)] 111)) w2.heap.size 111 [.int .i64 30, .int .u64 (p : Nat)] := Row.new w2 _ [.int .i64 30, .int .u64 (p : Nat)]
    have hm3 := HM2.out.below (w' := w2.alloc (.cells #[.int .i64 30, .int .u64 (p : Nat)] 111)) ((Below.refl _ _).alloc (Nat.le_refl _) _)
    have hc3 : ChgP (fun k => Z k ∧ k < w.heap.size) w1 (w2.alloc (.cells #[.int .i64 30, .int .u64 (p : Nat)] 111)) := HC2.out.alloc _
    have HNE : Hid (w.heap.size ≠ w2.heap.size) := Lib.hid (by have := HC2.out.size; have := HR0.out.lt; omega)
    obtain ⟨c, hc⟩ : ∃ c, c = w2.heap.size := ⟨_, rfl⟩
    rw [← hc] at hrc HNE ⊢
    clear hc
    generalize w2.alloc (.cells #[.int .i64 30, .int .u64 (p : Nat)] 111) = w3 at *
    have HRA := Lib.hid hra; have HRC := Lib.hid hrc; have HM3 := Lib.hid hm3; have HC3 := Lib.hid hc3
    have q0 := hra.cell 0
    have q1 := hra.cell 1
    have t0 := hrc.cell 0
    have t1 := hrc.cell 1
    have la := hra.lt
    have lc := hrc.lt
    simp only [List.getElem?_cons_zero, List.getElem?_cons_succ] at q0 q1 t0 t1
    clear hra hrc hm3 hc3
    go_upto_region 5 with fail
    have a0 := HRA.out.frozen 0
    have a1 := HRA.out.frozen 1
    go_still_tail 2, (by kernel_rfl)
    change wpList _ _ _ _ _ w3.drew
    have hr5 := (HRA.out.drew.set_ 0 (.int .i64 30)).set_ 1 (.int .u64 (p : Nat))
    have z0 := hr5.cell 0
    have z1 := hr5.cell 1
    simp only [List.set_cons_zero, List.set_cons_succ, List.getElem?_cons_zero, List.getElem?_cons_succ] at z0 z1
    have hr6 := (HRA.out.set_ 0 (.int .i64 30)).set_ 1 (.int .u64 (p : Nat))
    have y0 := hr6.cell 0
    have y1 := hr6.cell 1
    simp only [List.set_cons_zero, List.set_cons_succ, List.getElem?_cons_zero, List.getElem?_cons_succ] at y0 y1
    have HY0 := Lib.hid y0; have HY1 := Lib.hid y1
    have hcq : ChgP (fun k => w.heap.size ≤ k) w3 ((w3.drew.setCell ⟨w.heap.size, 0, none⟩ (.int .i64 30)).setCell ⟨w.heap.size, 1, none⟩ (.int .u64 (p : Nat))) := ((ChgP.refl (fun k => w.heap.size ≤ k) w3).drew.set_ (p := ⟨w.heap.size, 0, none⟩) (.inl (Nat.le_refl _)) _).set_ (p := ⟨w.heap.size, 1, none⟩) (.inl (Nat.le_refl _)) _
    have HM5 := Lib.hid (MachAt.past (Z := Z) (R := R) (N := w.heap.size) HM3.out hcq HM.out.dis)
    have HC5 : Hid (ChgP Z w ((w3.drew.setCell ⟨w.heap.size, 0, none⟩ (.int .i64 30)).setCell ⟨w.heap.size, 1, none⟩ (.int .u64 (p : Nat)))) := Lib.hid ((((ChgP.of_below HB0.out).trans HC3.out (fun x hx => .inl hx.1)).drew.set_ (p := ⟨w.heap.size, 0, none⟩) (.inr (Nat.le_refl _)) _).set_ (p := ⟨w.heap.size, 1, none⟩) (.inr (Nat.le_refl _)) _)
    clear hr5 hcq hr6
    go_wp2_with fail
    refine bodyPost_ret (v := .tuple #[.int .u64 0, .agg #[.int .i64 30, .int .u64 (p : Nat)]]) (by simp [results, Try.results137, go_sem, HY0.out, HY1.out, z0, z1]) rfl ⟨by rw [← HF.out]; rfl, by rw [← HF.out]; exact HM5.out, HC5.out⟩
  | none =>
    go_upto_region 4 with (go_at_call 75; refine (access_any _ _ M A1 A2 Ao x1 x2 no co b pm sp at_ n g w1 HM1.out HN.out HA.out HS.out).mono ?_; rw [← HF.out]; rintro e w2 ⟨rfl, hm2, hc2⟩; have HM2 := Lib.hid hm2; have HC2 := Lib.hid hc2; clear hm2 hc2; unfold faultV)
    have hra : Row (w2.alloc (.cells #[.int .i64 0, .int .u64 0] 111)) w.heap.size 111 [.int .i64 0, .int .u64 0] := (HC2.out.row HR0.out (fun h => Nat.lt_irrefl _ h.2)).alloc _
    have hrc : Row (w2.alloc (.cells #[.int .i64 0, .int .u64 0] 111)) w2.heap.size 111 [.int .i64 0, .int .u64 0] := Row.new w2 _ [.int .i64 0, .int .u64 0]
    have hm3 := HM2.out.below (w' := w2.alloc (.cells #[.int .i64 0, .int .u64 0] 111)) ((Below.refl _ _).alloc (Nat.le_refl _) _)
    have hc3 : ChgP (fun k => Z k ∧ k < w.heap.size) w1 (w2.alloc (.cells #[.int .i64 0, .int .u64 0] 111)) := HC2.out.alloc _
    have HNE : Hid (w.heap.size ≠ w2.heap.size) := Lib.hid (by have := HC2.out.size; have := HR0.out.lt; omega)
    have hcs : w.heap.size ≤ w2.heap.size := Nat.le_trans HB0.out.size HC2.out.size
    obtain ⟨c, hc⟩ : ∃ c, c = w2.heap.size := ⟨_, rfl⟩
    rw [← hc] at hrc HNE hcs ⊢
    clear hc
    generalize w2.alloc (.cells #[.int .i64 0, .int .u64 0] 111) = w3 at *
    have HRA := Lib.hid hra; have HRC := Lib.hid hrc; have HM3 := Lib.hid hm3; have HC3 := Lib.hid hc3; have HCS := Lib.hid hcs
    have q0 := hra.cell 0
    have q1 := hra.cell 1
    have t0 := hrc.cell 0
    have t1 := hrc.cell 1
    have la := hra.lt
    have lc := hrc.lt
    simp only [List.getElem?_cons_zero, List.getElem?_cons_succ] at q0 q1 t0 t1
    clear hra hrc hm3 hc3 hcs
    have H64 := Lib.hid (offAt_none HM.out HA.out HF.out.symm)
    go_upto_region 7 with fail
    have hrb : Row (w3.alloc (.cells #[.int .u8 0, .int .u8 0, .int .u8 0, .int .u8 0, .int .u8 0, .int .u8 0, .int .u8 0, .int .u8 0] 221)) w3.heap.size 221 [.int .u8 0, .int .u8 0, .int .u8 0, .int .u8 0, .int .u8 0, .int .u8 0, .int .u8 0, .int .u8 0] := Row.new w3 _ [.int .u8 0, .int .u8 0, .int .u8 0, .int .u8 0, .int .u8 0, .int .u8 0, .int .u8 0, .int .u8 0]
    have hra4 : Row (w3.alloc (.cells #[.int .u8 0, .int .u8 0, .int .u8 0, .int .u8 0, .int .u8 0, .int .u8 0, .int .u8 0, .int .u8 0] 221)) w.heap.size 111 [.int .i64 0, .int .u64 0] := HRA.out.alloc _
    have hrc4 : Row (w3.alloc (.cells #[.int .u8 0, .int .u8 0, .int .u8 0, .int .u8 0, .int .u8 0, .int .u8 0, .int .u8 0, .int .u8 0] 221)) c 111 [.int .i64 0, .int .u64 0] := HRC.out.alloc _
    have hb4 : Below w3.heap.size w3 (w3.alloc (.cells #[.int .u8 0, .int .u8 0, .int .u8 0, .int .u8 0, .int .u8 0, .int .u8 0, .int .u8 0, .int .u8 0] 221)) := (Below.refl _ _).alloc (Nat.le_refl _) _
    obtain ⟨c9, hc9⟩ : ∃ c9, c9 = w3.heap.size := ⟨_, rfl⟩
    rw [← hc9] at hrb ⊢
    have HC9 := Lib.hid hc9
    clear hc9
    generalize w3.alloc (.cells #[.int .u8 0, .int .u8 0, .int .u8 0, .int .u8 0, .int .u8 0, .int .u8 0, .int .u8 0, .int .u8 0] 221) = w4 at *
    have HM4 : Hid (MachAt (fun k => Z k ∧ k < w.heap.size) (fun k => R k ∧ k < w.heap.size) w4.drew g M A1 A2 Ao x1 x2 no co b pm sp) := Lib.hid (MachAt.below (M := M) HM3.out (hb4.drew))
    have HRB := Lib.hid hrb; have HRA4 := Lib.hid hra4; have HRC4 := Lib.hid hrc4; have HB4 := Lib.hid hb4
    clear hrb hra4 hrc4 hb4 q0 q1 t0 t1 la lc
    go_region_law (first
      | (go_simp; go_at_call 138; refine (bytes_any _ _ M A1 A2 Ao x1 x2 no co b pm sp at_ n g w4.drew HM4.out (by rcases H64.out with h | h <;> omega) (by omega) HA.out).mono ?_; rintro e w5 ⟨bb, rfl, hle, hrb5, hb5⟩; have HB5 := Lib.hid hb5; have HR5 := Lib.hid hrb5; have HLE := Lib.hid hle; clear hb5 hrb5 hle)
      | (refine step_copy_at rfl (.tmp 25) (.tmp 29) 25 25 rfl 5 Try.underlying25 size5b c9 0 ⟨bb, 0, none⟩ 8 8 n n rfl rfl _ _ (HRB.out.drew.below HB5.out HRB.out.lt) (outB M.mem at_ n n) (by rw [outB_len]; exact (Nat.min_eq_left hn8).symm) (fun j v hv => by rw [Addr.add_mid, Nat.zero_add, HR5.out.cell]; exact hv) (by rw [outB_len]; simp; omega) (fun v hv => by obtain ⟨i, _, rfl⟩ := List.mem_map.1 hv; rfl) ?_))
    rw [b8_splice _ _ _ hn8]
    have hb35 : Below w3.heap.size w3 w5 := HB4.out.drew.trans (HB5.out.mono HB4.out.size)
    have hgt : w.heap.size < c9 := by have := HC9.out; have := HRA.out.lt; omega
    have hgc : c < c9 := by have := HC9.out; have := HRC.out.lt; omega
    have hcz : ChgP (fun k => k = c9) w5 (w5.setRow c9 ((b8 M.mem at_ n).map u8).toArray) := (ChgP.refl (fun k => k = c9) w5).setRow (.inl rfl) _
    have hmz : MachAt (fun k => Z k ∧ k < w.heap.size) (fun k => R k ∧ k < w.heap.size) (w5.setRow c9 ((b8 M.mem at_ n).map u8).toArray) g M A1 A2 Ao x1 x2 no co b pm sp := (MachAt.below (M := M) HM3.out hb35).chg hcz (fun k hk hy => by rcases hk with hk | hk <;> have := hk.2 <;> omega)
    have hraz := hcz.row (HRA4.out.drew.below HB5.out HRA4.out.lt) (by omega)
    have hrcz := hcz.row (HRC4.out.drew.below HB5.out HRC4.out.lt) (by omega)
    have hrbz := setRow_row (HRB.out.drew.below HB5.out HRB.out.lt) ((b8 M.mem at_ n).map u8)
    have hchz : ChgP Z w (w5.setRow c9 ((b8 M.mem at_ n).map u8).toArray) := ((((ChgP.of_below HB0.out).trans HC3.out (fun x hx => .inl hx.1)).trans (ChgP.of_below (Z := fun _ => False) hb35) (fun x hx => hx.elim)).trans hcz (fun x hx => .inr (by subst hx; omega)))
    generalize w5.setRow c9 ((b8 M.mem at_ n).map u8).toArray = wz at *
    have HIB : Hid (IsB wz wz.heap.size (some ⟨c9, 0, none⟩) 8 (b8 M.mem at_ n)) := Lib.hid (IsB.of_row hrbz (by rw [List.drop_zero, List.take_of_length_le (by rw [List.length_map, b8_len _ _ _ hn8]; omega)]) (b8_len _ _ _ hn8) (b8_lt _ _ _ HM.out.byte) hrbz.lt (by omega) (by rw [List.length_map, b8_len _ _ _ hn8]; omega))
    have HNUM : Hid (Wd.unle ((b8 M.mem at_ n).take 8) = numB M.mem at_ n) := Lib.hid (b8_num _ _ _ hn8)
    have t0 := hrcz.cell 0
    have t1 := hrcz.cell 1
    simp only [List.getElem?_cons_zero, List.getElem?_cons_succ] at t0 t1
    have la := hraz.lt
    have a0 := hraz.frozen 0
    have a1 := hraz.frozen 1
    have q0 := hraz.cell 0
    have q1 := hraz.cell 1
    simp only [List.getElem?_cons_zero, List.getElem?_cons_succ] at q0 q1
    have HRAZ := Lib.hid hraz; have HMZ := Lib.hid hmz; have HCHZ := Lib.hid hchz
    clear hraz hrcz hrbz hmz hcz hchz hb35 hgt hgc
    go_upto_region 9 with (go_at_call 39; refine (get_uint64 (some ⟨c9, 0, none⟩) 8 8 (b8 M.mem at_ n) wz HIB.out (by omega) (by omega)).mono ?_; rw [HNUM.out]; rintro e w6 ⟨rfl, rfl⟩)
    go_still_tail 3, (by kernel_rfl)
    change wpList _ _ _ _ _ wz.drew
    have hr5 := (HRAZ.out.drew.set_ 0 (.int .i64 0)).set_ 1 (.int .u64 0)
    have z0 := hr5.cell 0
    have z1 := hr5.cell 1
    simp only [List.set_cons_zero, List.set_cons_succ, List.getElem?_cons_zero, List.getElem?_cons_succ] at z0 z1
    have hr6 := (HRAZ.out.set_ 0 (.int .i64 0)).set_ 1 (.int .u64 0)
    have y0 := hr6.cell 0
    have y1 := hr6.cell 1
    simp only [List.set_cons_zero, List.set_cons_succ, List.getElem?_cons_zero, List.getElem?_cons_succ] at y0 y1
    have HY0 := Lib.hid y0; have HY1 := Lib.hid y1
    have hcq : ChgP (fun k => w.heap.size ≤ k) wz ((wz.drew.setCell ⟨w.heap.size, 0, none⟩ (.int .i64 0)).setCell ⟨w.heap.size, 1, none⟩ (.int .u64 0)) := ((ChgP.refl (fun k => w.heap.size ≤ k) wz).drew.set_ (p := ⟨w.heap.size, 0, none⟩) (.inl (Nat.le_refl _)) _).set_ (p := ⟨w.heap.size, 1, none⟩) (.inl (Nat.le_refl _)) _
    have HM5 := Lib.hid (MachAt.past (Z := Z) (R := R) (N := w.heap.size) HMZ.out hcq HM.out.dis)
    have HC5 : Hid (ChgP Z w ((wz.drew.setCell ⟨w.heap.size, 0, none⟩ (.int .i64 0)).setCell ⟨w.heap.size, 1, none⟩ (.int .u64 0))) := Lib.hid ((HCHZ.out.drew.set_ (p := ⟨w.heap.size, 0, none⟩) (.inr (Nat.le_refl _)) _).set_ (p := ⟨w.heap.size, 1, none⟩) (.inr (Nat.le_refl _)) _)
    clear hr5 hcq hr6
    go_wp2_with fail
    refine bodyPost_ret (v := .tuple #[.int .u64 (numB M.mem at_ n : Nat), .agg #[.int .i64 0, .int .u64 0]]) (by simp [results, Try.results137, go_sem, HY0.out, HY1.out, z0, z1]) rfl ⟨by rw [← HF.out]; rfl, by rw [← HF.out]; exact HM5.out, HC5.out⟩
/-- a load that was done is counted -/
def loaded (y : Nat) (M : PM) : PM := if y = 0 then { M with loads := cInc M.loads } else M
/-- what becomes of a machine by Load -/
def loadM (M : PM) (F : Option Nat) : PM := match F with
  | none => { M with loads := cInc M.loads }
  | some _ => { M with strays := cInc M.strays }
end Bu
end Go.Proofs.Ytblfagmoilhdnaa

/- What laying bytes does to a machine; the closures that tell the bytes. -/
set_option linter.unusedVariables false
set_option linter.unusedSimpArgs false
namespace Go.Proofs.Ytblfagmoilhdnaa
open Go.RowKit
open S64
namespace Bu
/-- bytes, d of them laid from at_ on -/
def layM (mem : Nat → Nat) (at_ d : Nat) (f : Nat → Nat) : Nat → Nat := fun p => if at_ ≤ p ∧ p < at_ + d then f (p - at_) else mem p
theorem layM_zero (mem : Nat → Nat) (at_ : Nat) (f : Nat → Nat) : layM mem at_ 0 f = mem := by
  funext p
  unfold layM
  rw [if_neg (by omega)]
theorem layM_byte {mem : Nat → Nat} (hb : ∀ p, mem p < 256) {f : Nat → Nat} (hf : ∀ i, f i < 256) (at_ d : Nat) : ∀ p, layM mem at_ d f p < 256 := by
  intro p
  unfold layM
  split
  · exact hf _
  · exact hb _
theorem leafRow_congr {m m' : Nat → Nat} {k : Nat} (h : ∀ i, i < 4096 → m (4096 * k + i) = m' (4096 * k + i)) : leafRow m k = leafRow m' k :=
  List.map_congr_left fun i hi => by rw [h i (List.mem_range.1 hi)]
theorem leafRow_step (mem : Nat → Nat) (at_ d j : Nat) (f : Nat → Nat) (hj : (at_ + d) % 4096 + j < 4096) :
    (leafRow (layM mem at_ (d + j) f) ((at_ + d) / 4096)).set ((at_ + d) % 4096 + j) (u8 (f (d + j))) = leafRow (layM mem at_ (d + (j + 1)) f) ((at_ + d) / 4096) := by
  apply List.ext_getElem?
  intro i
  rw [List.getElem?_set]
  by_cases hi : i < 4096
  · rw [leafRow_get _ _ _ hi, leafRow_get _ _ _ hi]
    by_cases he : (at_ + d) % 4096 + j = i
    · rw [if_pos he, if_pos (by rw [leafRow_len]; omega)]
      unfold layM
      have e : 4096 * ((at_ + d) / 4096) + i = at_ + (d + j) := by omega
      rw [e, if_pos (by omega), show at_ + (d + j) - at_ = d + j by omega]
    · rw [if_neg he]
      unfold layM
      congr 2
      by_cases h1 : at_ ≤ 4096 * ((at_ + d) / 4096) + i ∧ 4096 * ((at_ + d) / 4096) + i < at_ + (d + j)
      · rw [if_pos h1, if_pos (by omega)]
      · rw [if_neg h1, if_neg (by omega)]
  · rw [List.getElem?_eq_none (by rw [leafRow_len]; omega), if_neg (by omega), List.getElem?_eq_none (by rw [leafRow_len]; omega)]
theorem layM_other {mem : Nat → Nat} {at_ d kk x : Nat} {f : Nat → Nat} (hk : (at_ + d) % 4096 + kk ≤ 4096) (hx : x / 4096 ≠ (at_ + d) / 4096) : layM mem at_ (d + kk) f x = layM mem at_ d f x := by
  unfold layM
  by_cases h1 : at_ ≤ x ∧ x < at_ + d
  · rw [if_pos h1, if_pos (by omega)]
  · rw [if_neg h1, if_neg (by omega)]
/-- is one of j bytes 0? -/
def zb (f : Nat → Nat) (d j : Nat) : Bool := (List.range j).any fun i => f (d + i) == 0
theorem zb_zero (f : Nat → Nat) (d : Nat) : zb f d 0 = false := rfl
theorem zb_succ (f : Nat → Nat) (d j : Nat) : zb f d (j + 1) = (zb f d j || f (d + j) == 0) := by
  unfold zb
  rw [List.range_succ, List.any_append]
  simp
theorem zb_no {f : Nat → Nat} {d j : Nat} (h : zb f d j = false) : ∀ i, i < j → f (d + i) ≠ 0 := by
  intro i hi e
  have := List.any_eq_false.1 h i (List.mem_range.2 hi)
  exact this (by rw [e]; rfl)
theorem nz_laid {mem : Nat → Nat} {at_ d k : Nat} {f : Nat → Nat} (h0 : 0 < k) (hk : (at_ + d) % 4096 + k ≤ 4096) (hz : zb f d k = false) : nz (layM mem at_ (d + k) f) ((at_ + d) / 4096) := by
  refine ⟨(at_ + d) % 4096, by omega, ?_⟩
  have := zb_no hz 0 h0
  rw [show 4096 * ((at_ + d) / 4096) + (at_ + d) % 4096 = at_ + (d + 0) by omega]
  unfold layM
  rw [if_pos (by omega), show at_ + (d + 0) - at_ = d + 0 by omega]
  exact this
/-- a page's cells as the equality of arrays reads them -/
theorem leafRow_cells (mem : Nat → Nat) (k : Nat) (hb : ∀ p, mem p < 256) : leafRow mem k = ((List.range 4096).map fun i => UInt8.ofNat (mem (4096 * k + i))).map Extern.Stop.cell := by
  rw [leafRow, List.map_map]
  refine List.map_congr_left fun i _ => ?_
  have h : (UInt8.ofNat (mem (4096 * k + i))).toNat = mem (4096 * k + i) := by rw [UInt8.toNat_ofNat']; exact Nat.mod_eq_of_lt (hb _)
  show u8 _ = Extern.Stop.cell _
  unfold u8 Extern.Stop.cell
  rw [h]; rfl
theorem leafZ_cells : List.replicate 4096 (u8 0) = (List.replicate 4096 (0 : UInt8)).map Extern.Stop.cell := by
  rw [List.map_replicate]; rfl
theorem leafRow_zero (mem : Nat → Nat) (k : Nat) (h : ∀ i, i < 4096 → mem (4096 * k + i) = 0) : leafRow mem k = List.replicate 4096 (u8 0) := by
  apply List.ext_getElem?
  intro i
  rw [List.getElem?_replicate]
  by_cases hi : i < 4096
  · rw [leafRow_get _ _ _ hi, if_pos hi, h i hi]
  · rw [List.getElem?_eq_none (by rw [leafRow_len]; omega), if_neg hi]
theorem size5c (w : World) : (sizeOf 5).run Try.prog w = .ok 1 w := by kernel_rfl
theorem under_leaf : Try.prog.underlying 178 = some (.array 4096 5) := by kernel_rfl
theorem under_u8 : Try.prog.underlying 5 = some (.int .u8) := by kernel_rfl
theorem info_leaf : (Try.prog.info? 178).map (fun i => (i.zero, i.size)) = some (some (.agg (List.replicate 4096 (u8 0)).toArray), 4096) := by kernel_rfl
/-- is a page noughts? -/
def lz (mem : Nat → Nat) (k : Nat) : Bool := (List.range 4096).all fun i => mem (4096 * k + i) == 0
theorem lz_yes {mem : Nat → Nat} {k : Nat} (h : lz mem k = true) : ∀ i, i < 4096 → mem (4096 * k + i) = 0 := fun i hi => by
  have := List.all_eq_true.1 h i (List.mem_range.2 hi)
  simpa using this
theorem lz_no {mem : Nat → Nat} {k : Nat} (h : lz mem k = false) : nz mem k := by
  obtain ⟨i, hi, h2⟩ := List.all_eq_false.1 h
  exact ⟨i, List.mem_range.1 hi, by simpa using h2⟩
theorem zeros_beq (n : Nat) (f : Nat → Nat) (hb : ∀ i, f i < 256) : (((List.range n).map fun i => UInt8.ofNat (f i)) == List.replicate n (0 : UInt8)) = (List.range n).all fun i => f i == 0 := by
  rw [Bool.eq_iff_iff]
  constructor
  · intro h
    have h := eq_of_beq h
    refine List.all_eq_true.2 fun i hi => ?_
    have h1 : ((List.range n).map fun i => UInt8.ofNat (f i))[i]? = (List.replicate n (0 : UInt8))[i]? := by rw [h]
    have hi := List.mem_range.1 hi
    rw [List.getElem?_map, List.getElem?_range hi, List.getElem?_replicate, if_pos hi] at h1
    injection h1 with h1
    have h2 : (UInt8.ofNat (f i)).toNat = 0 := by rw [show UInt8.ofNat (f i) = 0 from h1]; rfl
    rw [UInt8.toNat_ofNat', Nat.mod_eq_of_lt (hb _)] at h2
    simp [h2]
  · intro h
    apply beq_iff_eq.2
    apply List.ext_getElem?
    intro i
    rw [List.getElem?_map, List.getElem?_replicate]
    by_cases hi : i < n
    · have := List.all_eq_true.1 h i (List.mem_range.2 hi)
      rw [List.getElem?_range hi, if_pos hi, Option.map_some, show f i = 0 by simpa using this]; rfl
    · rw [List.getElem?_eq_none (by rw [List.length_range]; omega), if_neg hi]; rfl
theorem eql_leaf (mem : Nat → Nat) (k : Nat) (hb : ∀ p, mem p < 256) (w : World) : (binOp .eql 178 (.agg (leafRow mem k).toArray) (.agg (List.replicate 4096 (u8 0)).toArray)).run Try.prog w = .ok (.bool (lz mem k)) w := by
  rw [leafRow_cells mem k hb, leafZ_cells, run_eql_bytes w 178 5 4096 under_leaf under_u8 size5c _ _ (by rw [List.length_map, List.length_range]) (List.length_replicate), zeros_beq 4096 (fun i => mem (4096 * k + i)) (fun i => hb _), lz]
theorem ChgP.turned {b : Nat} {w w' : World} (h : w.mapTurned w' b) : ChgP (fun k => k = b) w w' := by
  have hg := h.grown
  exact ⟨hg.os, hg.tape, hg.output, hg.size, fun i hi hn => hg.block i hi (fun e => hn (by injection e))⟩
/-- A PAGE HAS TURNED: the machine stands with other bytes. -/
theorem MachAt.laid {Z R : Nat → Prop} {w w' : World} {g : Nat} {M : PM} {A1 A2 Ao : Option Addr} {c1 c2 no co b : Nat} {pm pm' : Nat → Option Nat} {sp : Sp.S} (h : MachAt Z R w g M A1 A2 Ao c1 c2 no co b pm sp) (q p : Nat) (mem' : Nat → Nat)
    (hc : ChgP (fun k => k = b ∨ k = p) w w') (hmap : MapAt w' b pm') (hoth : ∀ k, k ≠ q → pm' k = pm k)
    (hq : (pm' q = some p ∧ Row w' p 178 (leafRow mem' q) ∧ nz mem' q) ∨ (pm' q = none ∧ ∀ i, i < 4096 → mem' (4096 * q + i) = 0))
    (hp : ∀ k, k ≠ q → pm k ≠ some p) (hzp : Z p) (hne : g ≠ p) (hmem : ∀ x, x / 4096 ≠ q → mem' x = M.mem x) (hby : ∀ x, mem' x < 256) :
    MachAt Z R w' g { M with mem := mem' } A1 A2 Ao c1 c2 no co b pm' sp := by
  have hbg : g ≠ b := by
    rintro rfl
    obtain ⟨⟨D, n, ⟨es, clock, hb, _⟩, _⟩, _⟩ := h.map
    have := h.row.symm.trans hb
    cases this
  have hR : ∀ k, R k → ¬ (k = b ∨ k = p) := fun k hk e => by
    rcases e with rfl | rfl
    · exact h.dis _ h.zb hk
    · exact h.dis _ hzp hk
  refine ⟨hc.row h.row (by rintro (e | e); exact hbg e; exact hne e), h.zg, h.zb, h.l1.chg hc hR, h.l2.chg hc hR, h.lo.chg hc hR, h.nrm, h.has, h.lim, hmap, fun k p' hk => ?_, fun k k' p' h1 h2 => ?_, fun k hk i hi => ?_, hby, h.dis⟩
  · by_cases e : k = q
    · subst e
      rcases hq with ⟨h1, h2, h3⟩ | ⟨h1, _⟩
      · rw [h1] at hk; injection hk with hk; subst hk
        exact ⟨h2, hzp, h3⟩
      · rw [h1] at hk; cases hk
    · have hk0 := hk
      rw [hoth k e] at hk
      obtain ⟨h1, h2, i, hi, h3⟩ := h.leaf k p' hk
      have hb' : p' ≠ b := by
        rintro rfl
        obtain ⟨⟨D, n, ⟨es, clock, hb, _⟩, _⟩, _⟩ := h.map
        have := h1.symm.trans hb
        cases this
      have hp' : p' ≠ p := fun e2 => hp k e (by rw [← e2]; exact hk)
      have hm : ∀ i, i < 4096 → mem' (4096 * k + i) = M.mem (4096 * k + i) := fun i hi => hmem _ (by omega)
      have hrow := hc.row h1 (by rintro (e3 | e3); exact hb' e3; exact hp' e3)
      refine ⟨?_, h2, i, hi, ?_⟩
      · show Row w' p' _ (leafRow mem' k)
        rw [leafRow_congr hm]; exact hrow
      · show mem' _ ≠ 0
        rw [hm i hi]; exact h3
  · by_cases e : k = q
    · by_cases e' : k' = q
      · rw [e, e']
      · rw [hoth k' e'] at h2
        rcases hq with ⟨h3, _⟩ | ⟨h3, _⟩
        · rw [e, h3] at h1; injection h1 with h1; subst h1
          exact absurd h2 (hp k' e')
        · rw [e, h3] at h1; cases h1
    · by_cases e' : k' = q
      · rw [hoth k e] at h1
        rcases hq with ⟨h3, _⟩ | ⟨h3, _⟩
        · rw [e', h3] at h2; injection h2 with h2; subst h2
          exact absurd h1 (hp k e)
        · rw [e', h3] at h2; cases h2
      · rw [hoth k e] at h1; rw [hoth k' e'] at h2
        exact h.inj k k' p' h1 h2
  · by_cases e : k = q
    · subst e
      rcases hq with ⟨h3, _⟩ | ⟨_, h3⟩
      · rw [h3] at hk; cases hk
      · exact h3 i hi
    · rw [hoth k e] at hk
      show mem' _ = 0
      rw [hmem _ (by omega)]
      exact h.zero k hk i hi
/-- delete by its run -/
theorem wpList_delete_run {P : Program} {w w' : World} {ops : Array Oper} {rest : List Oper} {o : Oper} {a : Act} {Q : Exit → Act → World → Prop} (hg : o.guard = none) (m x : Operand) (t k : TypeId) (hop : o.op = Op.call { callee := Callee.builtin Builtin.delete, args := #[m, x], argTypes := #[t, k] })
    (vm vx : Value) (hm : a.eval m = vm) (hx : a.eval x = vx) (hrun : ∀ ty, (Builtin.delete_ #[t, k] ty #[vm, vx]).run P w = .ok (.tuple #[]) w') (hK : wpList P ops Q rest (a.put o.dst (.tuple #[])) w') :
    wpList P ops Q (o :: rest) a w := by
  refine wpList_plain hg fun K' hK' => ?_
  unfold Oper.wp
  simp [execOp, hop, resolve, invoke, builtin, hm, hx, hrun, Result.andThen]
  exact hK' _ _ hK
set_option maxRecDepth 100000 in
theorem store1_any (c v i : Nat) (w : World) (hr : Row w c 22 [.int .u64 (v : Nat)]) (hi : i < 8) (hv : v ≤ TOP) :
    Calls Try.prog 77 #[.int .i64 (i : Nat), .pointer (some ⟨c, 0, none⟩)] w fun e w' => e = .returned (u8 (v / 2 ^ (8 * i) % 256)) ∧ w = w' := by
  have c0 := hr.cell 0
  have lc := hr.lt
  simp only [List.getElem?_cons_zero] at c0
  go_enter Try.func77, Try.ntmps77
  go_wp2_with fail
  go_ret
  exact ⟨by unfold u8; rw [Int.natCast_emod, Int.natCast_ediv, Int.natCast_pow]; rfl, rfl⟩
end Bu
end Go.Proofs.Ytblfagmoilhdnaa
