/- The walks of Store, Write, Fill. (Printed by wip/laygen2.py.) -/
import Derived.Test.YtmhkmemaneopeaaBuR
set_option linter.unusedVariables false
set_option linter.unusedSimpArgs false
namespace Go.Proofs.Ytmhkmemaneopeaa
open Go.RowKit
open S64
namespace Bu
/-- what becomes of a machine by laying bytes; c: is it counted? -/
def laidM (M : PM) (at_ n : Nat) (f : Nat → Nat) (c : Nat) (F : Option Nat) : PM := match F with
  | none => { M with mem := layM M.mem at_ n f, stores := M.stores + c }
  | some _ => { M with strays := M.strays + 1 }
/-- the bytes of a number -/
def byteOf (v i : Nat) : Nat := v / 2 ^ (8 * i) % 256
theorem byteOf_lt (v i : Nat) : byteOf v i < 256 := Nat.mod_lt _ (by decide)
/-- what laying tells -/
def LaySaid (Z R : Nat → Prop) (w : World) (g : Nat) (M' : PM) (A1 A2 Ao : Option Addr) (x1 x2 no co b : Nat) (sp : Sp.S) (F : Option Nat) (e : Ending) (w' : World) : Prop :=
  e = .returned (faultV F) ∧ (∃ pm', MachAt (grow Z w) (fun k => R k ∧ k < w.heap.size) w' g M' A1 A2 Ao x1 x2 no co b pm' sp) ∧ ChgP Z w w'
theorem MachAt.past2 {Z R : Nat → Prop} {w' w'' : World} {g : Nat} {M : PM} {A1 A2 Ao : Option Addr} {c1 c2 no co b : Nat} {pm : Nat → Option Nat} {sp : Sp.S} {N : Nat} (h : MachAt (fun k => Z k ∧ k < N) (fun k => R k ∧ k < N) w' g M A1 A2 Ao c1 c2 no co b pm sp) (hc : ChgP (fun k => N ≤ k) w' w'') :
    MachAt (fun k => Z k ∧ k < N) (fun k => R k ∧ k < N) w'' g M A1 A2 Ao c1 c2 no co b pm sp :=
  h.chg hc (fun k hk hy => by rcases hk with hk | hk <;> have := hk.2 <;> omega)
theorem IsB.same {w w' : World} {B n : Nat} {A : Option Addr} {bs : List Nat} (h : IsB w B A n bs) (hb : ∀ ad, A = some ad → 0 < n → w'.heap[ad.block]? = w.heap[ad.block]?) : IsB w' B A n bs := ⟨reads_same h.1 hb, h.2⟩
theorem IsB.lt {w : World} {B n : Nat} {A : Option Addr} {bs : List Nat} (h : IsB w B A n bs) (h0 : 0 < n) : ∀ ad, A = some ad → ad.block < B := by
  intro ad e
  obtain ⟨ad', e', hl, _⟩ := h.1.2 h0
  rw [e] at e'; injection e' with e'; rw [e']; exact hl
theorem getD_lt {bs : List Nat} (h : ∀ b ∈ bs, b < 256) (i : Nat) : bs.getD i 0 < 256 := by
  rcases Nat.lt_or_ge i bs.length with hl | hl
  · exact h _ (getD_mem bs i hl)
  · rw [List.getD_eq_getElem?_getD, List.getElem?_eq_none hl]; decide
theorem IsB.chg {Z : Nat → Prop} {w w' : World} {n : Nat} {A : Option Addr} {bs : List Nat} (h : IsB w w.heap.size A n bs) (hc : ChgP Z w w') (hz : ∀ ad, A = some ad → 0 < n → ¬ Z ad.block) : IsB w' w'.heap.size A n bs :=
  (IsB.same h (fun ad e h0 => hc.block _ (IsB.lt h h0 ad e) (hz ad e h0))).more hc.size
theorem grow_dis {Z R : Nat → Prop} {w : World} (hd : ∀ k, Z k → ¬ R k) : ∀ k, grow Z w k → ¬ (R k ∧ k < w.heap.size) := fun k hk hr => by
  rcases hk with hk | hk
  · exact hd k hk hr.1
  · have := hr.2; omega
set_option maxRecDepth 100000 in
set_option maxHeartbeats 2000000 in
theorem store_any (Z R : Nat → Prop) (M : PM) (A1 A2 Ao : Option Addr) (x1 x2 no co b : Nat) (pm : Nat → Option Nat) (sp : Sp.S) (at_ n g : Nat) (v : Nat) (w : World)
    (hm : MachAt Z R w g M A1 A2 Ao x1 x2 no co b pm sp) (hk : n = 1 ∨ n = 2 ∨ n = 4 ∨ n = 8) (hv : v ≤ TOP) (hst : M.stores < 9223372036854775807) (ha : at_ ≤ TOP) (hs : M.strays < 9223372036854775807) :
    Calls Try.prog 27 #[.pointer (some ⟨g, 0, none⟩), .int .u64 (at_ : Nat), .int .i64 (n : Nat), .int .u64 (v : Nat)] w (LaySaid Z R w g (laidM M at_ n (byteOf v) 1 (offAt sp at_ n)) A1 A2 Ao x1 x2 no co b sp (offAt sp at_ n)) := by
  have HM := Lib.hid hm
  have HA := Lib.hid ha
  have HS := Lib.hid hs
  have HW := Lib.hid (wideB_of hk)
  have hn8 : n ≤ 8 := by omega
  have HN : Hid (n ≤ 9223372036854775807) := Lib.hid (by omega)
  have HV := Lib.hid hv
  have HST := Lib.hid hst
  clear hk hv hst
  clear hm ha hs
  go_enter Try.func27, Try.ntmps27
  go_upto_region 1 with fail
  have s1 : (w.alloc (.cells #[.int .u64 (v : Nat)] 25)).heap.size = w.heap.size + 1 := by simp
  have rv : Row ((w.alloc (.cells #[.int .u64 (v : Nat)] 25)).alloc (.cells #[.int .i64 0, .int .u64 0] 42)) w.heap.size 25 [.int .u64 (v : Nat)] := (Row.new w _ [.int .u64 (v : Nat)]).alloc _
  have r0 : Row ((w.alloc (.cells #[.int .u64 (v : Nat)] 25)).alloc (.cells #[.int .i64 0, .int .u64 0] 42)) (w.heap.size + 1) 42 [.int .i64 0, .int .u64 0] := by
    have h := Row.new (w.alloc (.cells #[.int .u64 (v : Nat)] 25)) 42 [.int .i64 0, .int .u64 0]
    rw [s1] at h
    exact h
  have hb0 : Below w.heap.size w ((w.alloc (.cells #[.int .u64 (v : Nat)] 25)).alloc (.cells #[.int .i64 0, .int .u64 0] 42)) := ((Below.refl _ _).alloc (Nat.le_refl _) _).alloc (by simp) _
  generalize (w.alloc (.cells #[.int .u64 (v : Nat)] 25)).alloc (.cells #[.int .i64 0, .int .u64 0] 42) = w1 at *
  have HM1 : Hid (MachAt (fun k => Z k ∧ k < w.heap.size) (fun k => R k ∧ k < w.heap.size) w1 g M A1 A2 Ao x1 x2 no co b pm sp) := Lib.hid (HM.out.tight.below hb0)
  have HB0 := Lib.hid hb0; have HR0 := Lib.hid r0; have HRV := Lib.hid rv
  have HLT : Hid (w.heap.size + 1 < w1.heap.size) := Lib.hid r0.lt
  clear hb0 r0 rv s1
  go_upto_region 3 with (go_at_call 46; refine (wide_any (n : Int) w1).mono ?_; rw [HW.out]; rintro e w' ⟨rfl, hw⟩; obtain rfl := hw.symm)
  obtain ⟨F, hF⟩ : ∃ F, F = offAt sp at_ n := ⟨_, rfl⟩
  have HF := Lib.hid hF
  clear hF
  cases F with
  | some p =>
    go_upto_region 4 with (go_at_call 42; refine (access_any _ _ M A1 A2 Ao x1 x2 no co b pm sp at_ n g w1 HM1.out HN.out HA.out HS.out).mono ?_; rw [← HF.out]; rintro e w2 ⟨rfl, hm2, hc2⟩; have HM2 := Lib.hid hm2; have HC2 := Lib.hid hc2; clear hm2 hc2; unfold faultV)
    have hra : Row (w2.alloc (.cells #[.int .i64 30, .int .u64 (p : Nat)] 42)) (w.heap.size + 1) 42 [.int .i64 0, .int .u64 0] := (HC2.out.row HR0.out (fun h => absurd h.2 (by omega))).alloc _
    have hrc : Row (w2.alloc (.cells #[.int .i64 30, .int .u64 (p : Nat)] 42)) w2.heap.size 42 [.int .i64 30, .int .u64 (p : Nat)] := Row.new w2 _ [.int .i64 30, .int .u64 (p : Nat)]
    have hm3 := HM2.out.below (w' := w2.alloc (.cells #[.int .i64 30, .int .u64 (p : Nat)] 42)) ((Below.refl _ _).alloc (Nat.le_refl _) _)
    have hc3 : ChgP (fun k => Z k ∧ k < w.heap.size) w1 (w2.alloc (.cells #[.int .i64 30, .int .u64 (p : Nat)] 42)) := HC2.out.alloc _
    obtain ⟨c, hc⟩ : ∃ c, c = w2.heap.size := ⟨_, rfl⟩
    rw [← hc] at hrc ⊢
    clear hc
    generalize w2.alloc (.cells #[.int .i64 30, .int .u64 (p : Nat)] 42) = w3 at *
    have HRA := Lib.hid hra; have HRC := Lib.hid hrc; have HM3 := Lib.hid hm3; have HC3 := Lib.hid hc3
    have t0 := hrc.cell 0
    have t1 := hrc.cell 1
    have la := hra.lt
    have lc := hrc.lt
    simp only [List.getElem?_cons_zero, List.getElem?_cons_succ] at t0 t1
    have a0 := hra.frozen 0
    have a1 := hra.frozen 1
    have q0 := hra.cell 0
    have q1 := hra.cell 1
    simp only [List.getElem?_cons_zero, List.getElem?_cons_succ] at q0 q1
    clear hra hrc hm3 hc3
    go_wp2_with fail
    have hr5 := (HRA.out.set_ 0 (.int .i64 30)).set_ 1 (.int .u64 (p : Nat))
    have z0 := hr5.cell 0
    have z1 := hr5.cell 1
    simp only [List.set_cons_zero, List.set_cons_succ, List.getElem?_cons_zero, List.getElem?_cons_succ] at z0 z1
    have hcq : ChgP (fun k => w.heap.size ≤ k) w3 ((w3.setCell ⟨w.heap.size + 1, 0, none⟩ (.int .i64 30)).setCell ⟨w.heap.size + 1, 1, none⟩ (.int .u64 (p : Nat))) := ((ChgP.refl (fun k => w.heap.size ≤ k) w3).set_ (p := ⟨w.heap.size + 1, 0, none⟩) (.inl (Nat.le_succ _)) _).set_ (p := ⟨w.heap.size + 1, 1, none⟩) (.inl (Nat.le_succ _)) _
    have HM5 := MachAt.past2 (Z := Z) (R := R) (N := w.heap.size) HM3.out hcq
    have HC5 : ChgP Z w ((w3.setCell ⟨w.heap.size + 1, 0, none⟩ (.int .i64 30)).setCell ⟨w.heap.size + 1, 1, none⟩ (.int .u64 (p : Nat))) := (((ChgP.of_below HB0.out).trans HC3.out (fun x hx => .inl hx.1)).set_ (p := ⟨w.heap.size + 1, 0, none⟩) (.inr (Nat.le_succ _)) _).set_ (p := ⟨w.heap.size + 1, 1, none⟩) (.inr (Nat.le_succ _)) _
    refine bodyPost_ret (v := .agg #[.int .i64 30, .int .u64 (p : Nat)]) (by simp [results, Try.results27, go_sem, z0, z1]) rfl ⟨by rw [← HF.out]; rfl, ⟨pm, by rw [← HF.out]; exact HM5.mono (fun k hk => .inl hk.1) (fun k hk => hk) (grow_dis HM.out.dis)⟩, HC5⟩
  | none =>
    go_upto_region 4 with (go_at_call 42; refine (access_any _ _ M A1 A2 Ao x1 x2 no co b pm sp at_ n g w1 HM1.out HN.out HA.out HS.out).mono ?_; rw [← HF.out]; rintro e w2 ⟨rfl, hm2, hc2⟩; have HM2 := Lib.hid hm2; have HC2 := Lib.hid hc2; clear hm2 hc2; unfold faultV)
    have hra : Row (w2.alloc (.cells #[.int .i64 0, .int .u64 0] 42)) (w.heap.size + 1) 42 [.int .i64 0, .int .u64 0] := (HC2.out.row HR0.out (fun h => absurd h.2 (by omega))).alloc _
    have hrc : Row (w2.alloc (.cells #[.int .i64 0, .int .u64 0] 42)) w2.heap.size 42 [.int .i64 0, .int .u64 0] := Row.new w2 _ [.int .i64 0, .int .u64 0]
    have hrv : Row (w2.alloc (.cells #[.int .i64 0, .int .u64 0] 42)) w.heap.size 25 [.int .u64 (v : Nat)] := (HC2.out.row HRV.out (fun h => Nat.lt_irrefl _ h.2)).alloc _
    have hm3 := HM2.out.below (w' := w2.alloc (.cells #[.int .i64 0, .int .u64 0] 42)) ((Below.refl _ _).alloc (Nat.le_refl _) _)
    have hc3 : ChgP (fun k => Z k ∧ k < w.heap.size) w1 (w2.alloc (.cells #[.int .i64 0, .int .u64 0] 42)) := HC2.out.alloc _
    have hcl : w.heap.size + 1 < w2.heap.size := Nat.lt_of_lt_of_le HLT.out HC2.out.size
    obtain ⟨c, hc⟩ : ∃ c, c = w2.heap.size := ⟨_, rfl⟩
    rw [← hc] at hrc hcl ⊢
    clear hc
    generalize w2.alloc (.cells #[.int .i64 0, .int .u64 0] 42) = w3 at *
    have HRA := Lib.hid hra; have HRC := Lib.hid hrc; have HRV3 := Lib.hid hrv; have HM3 := Lib.hid hm3; have HC3 := Lib.hid hc3; have HCL := Lib.hid hcl
    have t0 := hrc.cell 0
    have lc := hrc.lt
    simp only [List.getElem?_cons_zero] at t0
    clear hra hrc hrv hm3 hc3 hcl
    have H64 := Lib.hid (offAt_none HM.out HA.out HF.out.symm)
    have HOF : Hid (∀ wy i, ChgP (fun k => Z k ∧ k < w.heap.size) w3 wy → i < n → Calls Try.prog 47 #[.int .i64 (i : Nat), .pointer (some ⟨w.heap.size, 0, none⟩)] wy fun e w' => e = .returned (u8 (byteOf v i)) ∧ wy = w') := Lib.hid (fun wy i hy hi => store1_any w.heap.size v i wy (hy.row HRV3.out (fun h => Nat.lt_irrefl _ h.2)) (by omega) HV.out)
    go_upto_region 6 with (go_at_call 43; refine (lay_store _ _ M A1 A2 Ao x1 x2 no co b pm sp at_ n g w.heap.size (byteOf v) w3 HM3.out (by rcases H64.out with h | h <;> omega) HA.out (byteOf_lt v) HOF.out).mono ?_; rintro e w4 ⟨rfl, ⟨pm', hm4⟩, hc4⟩; have HM4 := Lib.hid hm4; have HC4 := Lib.hid hc4; clear hm4 hc4)
    have HR4 : Hid (Row w4 (w.heap.size + 1) 42 [.int .i64 0, .int .u64 0]) := Lib.hid (HC4.out.row HRA.out (fun h => absurd h.2 (by omega)))
    have HF4 : Hid (Row w4 c 42 [.int .i64 0, .int .u64 0]) := Lib.hid (HC4.out.row HRC.out (fun h => absurd h.2 (by have := HCL.out; omega)))
    clear t0 lc
    have p1 := HM4.out.row.cell 1
    have pz := HM4.out.row.frozen 1
    have lg := HM4.out.row.lt
    simp only [List.getElem?_cons_zero, List.getElem?_cons_succ] at p1
    have hstb : M.stores < 9223372036854775807 := HST.out
    go_upto_region 7 with fail
    have hm5 := HM4.out.count 1 (.int .i64 ((M.stores : Int) + 1)) { M with mem := layM M.mem at_ n (byteOf v), stores := M.stores + 1 } rfl rfl rfl (by simp)
    have hr5 := HR4.out.far (p := ⟨g, 1, none⟩) (Row.ne_t HR4.out HM4.out.row (by decide)) (.int .i64 ((M.stores : Int) + 1))
    have hf5 := HF4.out.far (p := ⟨g, 1, none⟩) (Row.ne_t HF4.out HM4.out.row (by decide)) (.int .i64 ((M.stores : Int) + 1))
    have hc5 : ChgP Z w (w4.setCell ⟨g, 1, none⟩ (.int .i64 ((M.stores : Int) + 1))) := ((((ChgP.of_below HB0.out).trans HC3.out (fun x hx => .inl hx.1)).trans HC4.out (fun x hx => .inl hx.1)).set_ (p := ⟨g, 1, none⟩) (.inl HM.out.zg) _)
    clear p1 pz lg hstb
    generalize w4.setCell ⟨g, 1, none⟩ (.int .i64 ((M.stores : Int) + 1)) = w5 at *
    have HM5 := Lib.hid hm5; have HR5 := Lib.hid hr5; have HF5 := Lib.hid hf5; have HC5 := Lib.hid hc5
    clear hm5 hr5 hf5 hc5
    have t0 := HF5.out.cell 0
    have t1 := HF5.out.cell 1
    have la := HR5.out.lt
    have lc := HF5.out.lt
    have a0 := HR5.out.frozen 0
    have a1 := HR5.out.frozen 1
    have q0 := HR5.out.cell 0
    have q1 := HR5.out.cell 1
    simp only [List.getElem?_cons_zero, List.getElem?_cons_succ] at t0 t1 q0 q1
    go_wp2_with fail
    have hr6 := (HR5.out.set_ 0 (.int .i64 0)).set_ 1 (.int .u64 0)
    have z0 := hr6.cell 0
    have z1 := hr6.cell 1
    simp only [List.set_cons_zero, List.set_cons_succ, List.getElem?_cons_zero, List.getElem?_cons_succ] at z0 z1
    have hcq : ChgP (fun k => k = w.heap.size + 1) w5 ((w5.setCell ⟨w.heap.size + 1, 0, none⟩ (.int .i64 0)).setCell ⟨w.heap.size + 1, 1, none⟩ (.int .u64 0)) := ((ChgP.refl (fun k => k = w.heap.size + 1) w5).set_ (p := ⟨w.heap.size + 1, 0, none⟩) (.inl rfl) _).set_ (p := ⟨w.heap.size + 1, 1, none⟩) (.inl rfl) _
    have HM6 := HM5.out.chg hcq (fun k hk hy => by
      have := HC3.out.size; have := HLT.out
      rcases hk with (hk | hk) | hk
      · have := hk.2; omega
      · omega
      · have := hk.1.2; omega)
    have HC6 : ChgP Z w ((w5.setCell ⟨w.heap.size + 1, 0, none⟩ (.int .i64 0)).setCell ⟨w.heap.size + 1, 1, none⟩ (.int .u64 0)) := (HC5.out.set_ (p := ⟨w.heap.size + 1, 0, none⟩) (.inr (Nat.le_succ _)) _).set_ (p := ⟨w.heap.size + 1, 1, none⟩) (.inr (Nat.le_succ _)) _
    have HM7 := HM6.mono (Z' := grow Z w) (R' := fun k => R k ∧ k < w.heap.size) (fun k hk => by
      rcases hk with hk | hk
      · exact .inl hk.1
      · exact .inr (by have := HC3.out.size; have := HB0.out.size; omega)) (fun k hk => hk.1) (grow_dis HM.out.dis)
    refine bodyPost_ret (v := .agg #[.int .i64 0, .int .u64 0]) (by simp [results, Try.results27, go_sem, z0, z1]) rfl ⟨by rw [← HF.out]; rfl, ⟨pm', by rw [← HF.out]; exact HM7⟩, HC6⟩
set_option maxRecDepth 100000 in
set_option maxHeartbeats 2000000 in
theorem write_any (Z R : Nat → Prop) (M : PM) (A1 A2 Ao : Option Addr) (x1 x2 no co b : Nat) (pm : Nat → Option Nat) (sp : Sp.S) (at_ n g : Nat) (A : Option Addr) (cc : Nat) (bs : List Nat) (w : World)
    (hm : MachAt Z R w g M A1 A2 Ao x1 x2 no co b pm sp) (hb : IsB w w.heap.size A n bs) (hnz : ∀ ad, A = some ad → 0 < n → ¬ Z ad.block) (ha : at_ ≤ TOP) (hs : M.strays < 9223372036854775807) :
    Calls Try.prog 25 #[.pointer (some ⟨g, 0, none⟩), .int .u64 (at_ : Nat), .slice A n cc] w (LaySaid Z R w g (laidM M at_ n (fun i => bs.getD i 0) 0 (offAt sp at_ n)) A1 A2 Ao x1 x2 no co b sp (offAt sp at_ n)) := by
  have HM := Lib.hid hm
  have HA := Lib.hid ha
  have HS := Lib.hid hs
  have HN : Hid (n ≤ 9223372036854775807) := Lib.hid hb.2.2
  have HIB := Lib.hid hb
  have HNZ := Lib.hid hnz
  clear hb hnz
  clear hm ha hs
  go_enter Try.func25, Try.ntmps25
  go_upto_region 1 with fail
  have s1 : (w.alloc (.cells #[.slice A n cc] 52)).heap.size = w.heap.size + 1 := by simp
  have rv : Row ((w.alloc (.cells #[.slice A n cc] 52)).alloc (.cells #[.int .i64 0, .int .u64 0] 42)) w.heap.size 52 [.slice A n cc] := (Row.new w _ [.slice A n cc]).alloc _
  have r0 : Row ((w.alloc (.cells #[.slice A n cc] 52)).alloc (.cells #[.int .i64 0, .int .u64 0] 42)) (w.heap.size + 1) 42 [.int .i64 0, .int .u64 0] := by
    have h := Row.new (w.alloc (.cells #[.slice A n cc] 52)) 42 [.int .i64 0, .int .u64 0]
    rw [s1] at h
    exact h
  have hb0 : Below w.heap.size w ((w.alloc (.cells #[.slice A n cc] 52)).alloc (.cells #[.int .i64 0, .int .u64 0] 42)) := ((Below.refl _ _).alloc (Nat.le_refl _) _).alloc (by simp) _
  generalize (w.alloc (.cells #[.slice A n cc] 52)).alloc (.cells #[.int .i64 0, .int .u64 0] 42) = w1 at *
  have HM1 : Hid (MachAt (fun k => Z k ∧ k < w.heap.size) (fun k => R k ∧ k < w.heap.size) w1 g M A1 A2 Ao x1 x2 no co b pm sp) := Lib.hid (HM.out.tight.below hb0)
  have HB0 := Lib.hid hb0; have HR0 := Lib.hid r0; have HRV := Lib.hid rv
  have HLT : Hid (w.heap.size + 1 < w1.heap.size) := Lib.hid r0.lt
  have bx := rv.cell 0
  have bl := rv.lt
  simp only [List.getElem?_cons_zero] at bx
  clear hb0 r0 rv s1
  obtain ⟨F, hF⟩ : ∃ F, F = offAt sp at_ n := ⟨_, rfl⟩
  have HF := Lib.hid hF
  clear hF
  cases F with
  | some p =>
    go_upto_region 2 with (go_at_call 42; refine (access_any _ _ M A1 A2 Ao x1 x2 no co b pm sp at_ n g w1 HM1.out HN.out HA.out HS.out).mono ?_; rw [← HF.out]; rintro e w2 ⟨rfl, hm2, hc2⟩; have HM2 := Lib.hid hm2; have HC2 := Lib.hid hc2; clear hm2 hc2; unfold faultV)
    have hra : Row (w2.alloc (.cells #[.int .i64 30, .int .u64 (p : Nat)] 42)) (w.heap.size + 1) 42 [.int .i64 0, .int .u64 0] := (HC2.out.row HR0.out (fun h => absurd h.2 (by omega))).alloc _
    have hrc : Row (w2.alloc (.cells #[.int .i64 30, .int .u64 (p : Nat)] 42)) w2.heap.size 42 [.int .i64 30, .int .u64 (p : Nat)] := Row.new w2 _ [.int .i64 30, .int .u64 (p : Nat)]
    have hm3 := HM2.out.below (w' := w2.alloc (.cells #[.int .i64 30, .int .u64 (p : Nat)] 42)) ((Below.refl _ _).alloc (Nat.le_refl _) _)
    have hc3 : ChgP (fun k => Z k ∧ k < w.heap.size) w1 (w2.alloc (.cells #[.int .i64 30, .int .u64 (p : Nat)] 42)) := HC2.out.alloc _
    obtain ⟨c, hc⟩ : ∃ c, c = w2.heap.size := ⟨_, rfl⟩
    rw [← hc] at hrc ⊢
    clear hc
    generalize w2.alloc (.cells #[.int .i64 30, .int .u64 (p : Nat)] 42) = w3 at *
    have HRA := Lib.hid hra; have HRC := Lib.hid hrc; have HM3 := Lib.hid hm3; have HC3 := Lib.hid hc3
    have t0 := hrc.cell 0
    have t1 := hrc.cell 1
    have la := hra.lt
    have lc := hrc.lt
    simp only [List.getElem?_cons_zero, List.getElem?_cons_succ] at t0 t1
    have a0 := hra.frozen 0
    have a1 := hra.frozen 1
    have q0 := hra.cell 0
    have q1 := hra.cell 1
    simp only [List.getElem?_cons_zero, List.getElem?_cons_succ] at q0 q1
    clear hra hrc hm3 hc3
    go_wp2_with fail
    have hr5 := (HRA.out.set_ 0 (.int .i64 30)).set_ 1 (.int .u64 (p : Nat))
    have z0 := hr5.cell 0
    have z1 := hr5.cell 1
    simp only [List.set_cons_zero, List.set_cons_succ, List.getElem?_cons_zero, List.getElem?_cons_succ] at z0 z1
    have hcq : ChgP (fun k => w.heap.size ≤ k) w3 ((w3.setCell ⟨w.heap.size + 1, 0, none⟩ (.int .i64 30)).setCell ⟨w.heap.size + 1, 1, none⟩ (.int .u64 (p : Nat))) := ((ChgP.refl (fun k => w.heap.size ≤ k) w3).set_ (p := ⟨w.heap.size + 1, 0, none⟩) (.inl (Nat.le_succ _)) _).set_ (p := ⟨w.heap.size + 1, 1, none⟩) (.inl (Nat.le_succ _)) _
    have HM5 := MachAt.past2 (Z := Z) (R := R) (N := w.heap.size) HM3.out hcq
    have HC5 : ChgP Z w ((w3.setCell ⟨w.heap.size + 1, 0, none⟩ (.int .i64 30)).setCell ⟨w.heap.size + 1, 1, none⟩ (.int .u64 (p : Nat))) := (((ChgP.of_below HB0.out).trans HC3.out (fun x hx => .inl hx.1)).set_ (p := ⟨w.heap.size + 1, 0, none⟩) (.inr (Nat.le_succ _)) _).set_ (p := ⟨w.heap.size + 1, 1, none⟩) (.inr (Nat.le_succ _)) _
    refine bodyPost_ret (v := .agg #[.int .i64 30, .int .u64 (p : Nat)]) (by simp [results, Try.results25, go_sem, z0, z1]) rfl ⟨by rw [← HF.out]; rfl, ⟨pm, by rw [← HF.out]; exact HM5.mono (fun k hk => .inl hk.1) (fun k hk => hk) (grow_dis HM.out.dis)⟩, HC5⟩
  | none =>
    go_upto_region 2 with (go_at_call 42; refine (access_any _ _ M A1 A2 Ao x1 x2 no co b pm sp at_ n g w1 HM1.out HN.out HA.out HS.out).mono ?_; rw [← HF.out]; rintro e w2 ⟨rfl, hm2, hc2⟩; have HM2 := Lib.hid hm2; have HC2 := Lib.hid hc2; clear hm2 hc2; unfold faultV)
    have hra : Row (w2.alloc (.cells #[.int .i64 0, .int .u64 0] 42)) (w.heap.size + 1) 42 [.int .i64 0, .int .u64 0] := (HC2.out.row HR0.out (fun h => absurd h.2 (by omega))).alloc _
    have hrc : Row (w2.alloc (.cells #[.int .i64 0, .int .u64 0] 42)) w2.heap.size 42 [.int .i64 0, .int .u64 0] := Row.new w2 _ [.int .i64 0, .int .u64 0]
    have hrv : Row (w2.alloc (.cells #[.int .i64 0, .int .u64 0] 42)) w.heap.size 52 [.slice A n cc] := (HC2.out.row HRV.out (fun h => Nat.lt_irrefl _ h.2)).alloc _
    have hm3 := HM2.out.below (w' := w2.alloc (.cells #[.int .i64 0, .int .u64 0] 42)) ((Below.refl _ _).alloc (Nat.le_refl _) _)
    have hc3 : ChgP (fun k => Z k ∧ k < w.heap.size) w1 (w2.alloc (.cells #[.int .i64 0, .int .u64 0] 42)) := HC2.out.alloc _
    have hcl : w.heap.size + 1 < w2.heap.size := Nat.lt_of_lt_of_le HLT.out HC2.out.size
    obtain ⟨c, hc⟩ : ∃ c, c = w2.heap.size := ⟨_, rfl⟩
    rw [← hc] at hrc hcl ⊢
    clear hc
    generalize w2.alloc (.cells #[.int .i64 0, .int .u64 0] 42) = w3 at *
    have HRA := Lib.hid hra; have HRC := Lib.hid hrc; have HRV3 := Lib.hid hrv; have HM3 := Lib.hid hm3; have HC3 := Lib.hid hc3; have HCL := Lib.hid hcl
    have t0 := hrc.cell 0
    have lc := hrc.lt
    simp only [List.getElem?_cons_zero] at t0
    have v0 := hrv.cell 0
    have vl := hrv.lt
    simp only [List.getElem?_cons_zero] at v0
    clear hra hrc hrv hm3 hc3 hcl
    have H64 := Lib.hid (offAt_none HM.out HA.out HF.out.symm)
    have HOF : Hid (∀ wy i, ChgP (fun k => Z k ∧ k < w.heap.size) w3 wy → i < n → Calls Try.prog 45 #[.int .i64 (i : Nat), .pointer (some ⟨w.heap.size, 0, none⟩)] wy fun e w' => e = .returned (u8 (bs.getD i 0)) ∧ wy = w') := Lib.hid (fun wy i hy hi => write1_any w.heap.size A n cc bs i wy (hy.row HRV3.out (fun h => Nat.lt_irrefl _ h.2)) (IsB.chg HIB.out (((ChgP.of_below HB0.out).trans HC3.out (fun x hx => .inl hx.1)).trans hy (fun x hx => .inl hx.1)) HNZ.out) hi)
    go_upto_region 4 with (go_at_call 43; refine (lay_write _ _ M A1 A2 Ao x1 x2 no co b pm sp at_ n g w.heap.size (fun i => bs.getD i 0) w3 HM3.out (by rcases H64.out with h | h <;> omega) HA.out (getD_lt HIB.out.2.1) HOF.out).mono ?_; rintro e w4 ⟨rfl, ⟨pm', hm4⟩, hc4⟩; have HM4 := Lib.hid hm4; have HC4 := Lib.hid hc4; clear hm4 hc4)
    have HR4 : Hid (Row w4 (w.heap.size + 1) 42 [.int .i64 0, .int .u64 0]) := Lib.hid (HC4.out.row HRA.out (fun h => absurd h.2 (by omega)))
    have HF4 : Hid (Row w4 c 42 [.int .i64 0, .int .u64 0]) := Lib.hid (HC4.out.row HRC.out (fun h => absurd h.2 (by have := HCL.out; omega)))
    clear t0 lc
    obtain ⟨w5, hw5⟩ : ∃ w5 : World, w5 = w4 := ⟨_, rfl⟩
    subst hw5
    have HM5 := HM4; have HR5 := HR4; have HF5 := HF4
    have HC5 : Hid (ChgP Z w w5) := Lib.hid (((ChgP.of_below HB0.out).trans HC3.out (fun x hx => .inl hx.1)).trans HC4.out (fun x hx => .inl hx.1))
    have t0 := HF5.out.cell 0
    have t1 := HF5.out.cell 1
    have la := HR5.out.lt
    have lc := HF5.out.lt
    have a0 := HR5.out.frozen 0
    have a1 := HR5.out.frozen 1
    have q0 := HR5.out.cell 0
    have q1 := HR5.out.cell 1
    simp only [List.getElem?_cons_zero, List.getElem?_cons_succ] at t0 t1 q0 q1
    go_wp2_with fail
    have hr6 := (HR5.out.set_ 0 (.int .i64 0)).set_ 1 (.int .u64 0)
    have z0 := hr6.cell 0
    have z1 := hr6.cell 1
    simp only [List.set_cons_zero, List.set_cons_succ, List.getElem?_cons_zero, List.getElem?_cons_succ] at z0 z1
    have hcq : ChgP (fun k => k = w.heap.size + 1) w5 ((w5.setCell ⟨w.heap.size + 1, 0, none⟩ (.int .i64 0)).setCell ⟨w.heap.size + 1, 1, none⟩ (.int .u64 0)) := ((ChgP.refl (fun k => k = w.heap.size + 1) w5).set_ (p := ⟨w.heap.size + 1, 0, none⟩) (.inl rfl) _).set_ (p := ⟨w.heap.size + 1, 1, none⟩) (.inl rfl) _
    have HM6 := HM5.out.chg hcq (fun k hk hy => by
      have := HC3.out.size; have := HLT.out
      rcases hk with (hk | hk) | hk
      · have := hk.2; omega
      · omega
      · have := hk.1.2; omega)
    have HC6 : ChgP Z w ((w5.setCell ⟨w.heap.size + 1, 0, none⟩ (.int .i64 0)).setCell ⟨w.heap.size + 1, 1, none⟩ (.int .u64 0)) := (HC5.out.set_ (p := ⟨w.heap.size + 1, 0, none⟩) (.inr (Nat.le_succ _)) _).set_ (p := ⟨w.heap.size + 1, 1, none⟩) (.inr (Nat.le_succ _)) _
    have HM7 := HM6.mono (Z' := grow Z w) (R' := fun k => R k ∧ k < w.heap.size) (fun k hk => by
      rcases hk with hk | hk
      · exact .inl hk.1
      · exact .inr (by have := HC3.out.size; have := HB0.out.size; omega)) (fun k hk => hk.1) (grow_dis HM.out.dis)
    refine bodyPost_ret (v := .agg #[.int .i64 0, .int .u64 0]) (by simp [results, Try.results25, go_sem, z0, z1]) rfl ⟨by rw [← HF.out]; rfl, ⟨pm', by rw [← HF.out]; exact HM7⟩, HC6⟩
set_option maxRecDepth 100000 in
set_option maxHeartbeats 2000000 in
theorem fill_any (Z R : Nat → Prop) (M : PM) (A1 A2 Ao : Option Addr) (x1 x2 no co b : Nat) (pm : Nat → Option Nat) (sp : Sp.S) (at_ n g : Nat) (v : Nat) (w : World)
    (hm : MachAt Z R w g M A1 A2 Ao x1 x2 no co b pm sp) (hn : n ≤ 9223372036854775807) (hv : v < 256) (ha : at_ ≤ TOP) (hs : M.strays < 9223372036854775807) :
    Calls Try.prog 22 #[.pointer (some ⟨g, 0, none⟩), .int .u64 (at_ : Nat), .int .i64 (n : Nat), .int .u8 (v : Nat)] w (LaySaid Z R w g (laidM M at_ n (fun _ => v) 0 (offAt sp at_ n)) A1 A2 Ao x1 x2 no co b sp (offAt sp at_ n)) := by
  have HM := Lib.hid hm
  have HA := Lib.hid ha
  have HS := Lib.hid hs
  have HN := Lib.hid hn
  have HV := Lib.hid hv
  clear hv
  clear hm ha hs
  go_enter Try.func22, Try.ntmps22
  go_upto_region 1 with fail
  have s1 : (w.alloc (.cells #[.int .u8 (v : Nat)] 5)).heap.size = w.heap.size + 1 := by simp
  have rv : Row ((w.alloc (.cells #[.int .u8 (v : Nat)] 5)).alloc (.cells #[.int .i64 0, .int .u64 0] 42)) w.heap.size 5 [.int .u8 (v : Nat)] := (Row.new w _ [.int .u8 (v : Nat)]).alloc _
  have r0 : Row ((w.alloc (.cells #[.int .u8 (v : Nat)] 5)).alloc (.cells #[.int .i64 0, .int .u64 0] 42)) (w.heap.size + 1) 42 [.int .i64 0, .int .u64 0] := by
    have h := Row.new (w.alloc (.cells #[.int .u8 (v : Nat)] 5)) 42 [.int .i64 0, .int .u64 0]
    rw [s1] at h
    exact h
  have hb0 : Below w.heap.size w ((w.alloc (.cells #[.int .u8 (v : Nat)] 5)).alloc (.cells #[.int .i64 0, .int .u64 0] 42)) := ((Below.refl _ _).alloc (Nat.le_refl _) _).alloc (by simp) _
  generalize (w.alloc (.cells #[.int .u8 (v : Nat)] 5)).alloc (.cells #[.int .i64 0, .int .u64 0] 42) = w1 at *
  have HM1 : Hid (MachAt (fun k => Z k ∧ k < w.heap.size) (fun k => R k ∧ k < w.heap.size) w1 g M A1 A2 Ao x1 x2 no co b pm sp) := Lib.hid (HM.out.tight.below hb0)
  have HB0 := Lib.hid hb0; have HR0 := Lib.hid r0; have HRV := Lib.hid rv
  have HLT : Hid (w.heap.size + 1 < w1.heap.size) := Lib.hid r0.lt
  clear hb0 r0 rv s1
  go_upto_region 3 with fail
  obtain ⟨F, hF⟩ : ∃ F, F = offAt sp at_ n := ⟨_, rfl⟩
  have HF := Lib.hid hF
  clear hF
  cases F with
  | some p =>
    go_upto_region 4 with (go_at_call 42; refine (access_any _ _ M A1 A2 Ao x1 x2 no co b pm sp at_ n g w1 HM1.out HN.out HA.out HS.out).mono ?_; rw [← HF.out]; rintro e w2 ⟨rfl, hm2, hc2⟩; have HM2 := Lib.hid hm2; have HC2 := Lib.hid hc2; clear hm2 hc2; unfold faultV)
    have hra : Row (w2.alloc (.cells #[.int .i64 30, .int .u64 (p : Nat)] 42)) (w.heap.size + 1) 42 [.int .i64 0, .int .u64 0] := (HC2.out.row HR0.out (fun h => absurd h.2 (by omega))).alloc _
    have hrc : Row (w2.alloc (.cells #[.int .i64 30, .int .u64 (p : Nat)] 42)) w2.heap.size 42 [.int .i64 30, .int .u64 (p : Nat)] := Row.new w2 _ [.int .i64 30, .int .u64 (p : Nat)]
    have hm3 := HM2.out.below (w' := w2.alloc (.cells #[.int .i64 30, .int .u64 (p : Nat)] 42)) ((Below.refl _ _).alloc (Nat.le_refl _) _)
    have hc3 : ChgP (fun k => Z k ∧ k < w.heap.size) w1 (w2.alloc (.cells #[.int .i64 30, .int .u64 (p : Nat)] 42)) := HC2.out.alloc _
    obtain ⟨c, hc⟩ : ∃ c, c = w2.heap.size := ⟨_, rfl⟩
    rw [← hc] at hrc ⊢
    clear hc
    generalize w2.alloc (.cells #[.int .i64 30, .int .u64 (p : Nat)] 42) = w3 at *
    have HRA := Lib.hid hra; have HRC := Lib.hid hrc; have HM3 := Lib.hid hm3; have HC3 := Lib.hid hc3
    have t0 := hrc.cell 0
    have t1 := hrc.cell 1
    have la := hra.lt
    have lc := hrc.lt
    simp only [List.getElem?_cons_zero, List.getElem?_cons_succ] at t0 t1
    have a0 := hra.frozen 0
    have a1 := hra.frozen 1
    have q0 := hra.cell 0
    have q1 := hra.cell 1
    simp only [List.getElem?_cons_zero, List.getElem?_cons_succ] at q0 q1
    clear hra hrc hm3 hc3
    go_wp2_with fail
    have hr5 := (HRA.out.set_ 0 (.int .i64 30)).set_ 1 (.int .u64 (p : Nat))
    have z0 := hr5.cell 0
    have z1 := hr5.cell 1
    simp only [List.set_cons_zero, List.set_cons_succ, List.getElem?_cons_zero, List.getElem?_cons_succ] at z0 z1
    have hcq : ChgP (fun k => w.heap.size ≤ k) w3 ((w3.setCell ⟨w.heap.size + 1, 0, none⟩ (.int .i64 30)).setCell ⟨w.heap.size + 1, 1, none⟩ (.int .u64 (p : Nat))) := ((ChgP.refl (fun k => w.heap.size ≤ k) w3).set_ (p := ⟨w.heap.size + 1, 0, none⟩) (.inl (Nat.le_succ _)) _).set_ (p := ⟨w.heap.size + 1, 1, none⟩) (.inl (Nat.le_succ _)) _
    have HM5 := MachAt.past2 (Z := Z) (R := R) (N := w.heap.size) HM3.out hcq
    have HC5 : ChgP Z w ((w3.setCell ⟨w.heap.size + 1, 0, none⟩ (.int .i64 30)).setCell ⟨w.heap.size + 1, 1, none⟩ (.int .u64 (p : Nat))) := (((ChgP.of_below HB0.out).trans HC3.out (fun x hx => .inl hx.1)).set_ (p := ⟨w.heap.size + 1, 0, none⟩) (.inr (Nat.le_succ _)) _).set_ (p := ⟨w.heap.size + 1, 1, none⟩) (.inr (Nat.le_succ _)) _
    refine bodyPost_ret (v := .agg #[.int .i64 30, .int .u64 (p : Nat)]) (by simp [results, Try.results22, go_sem, z0, z1]) rfl ⟨by rw [← HF.out]; rfl, ⟨pm, by rw [← HF.out]; exact HM5.mono (fun k hk => .inl hk.1) (fun k hk => hk) (grow_dis HM.out.dis)⟩, HC5⟩
  | none =>
    go_upto_region 4 with (go_at_call 42; refine (access_any _ _ M A1 A2 Ao x1 x2 no co b pm sp at_ n g w1 HM1.out HN.out HA.out HS.out).mono ?_; rw [← HF.out]; rintro e w2 ⟨rfl, hm2, hc2⟩; have HM2 := Lib.hid hm2; have HC2 := Lib.hid hc2; clear hm2 hc2; unfold faultV)
    have hra : Row (w2.alloc (.cells #[.int .i64 0, .int .u64 0] 42)) (w.heap.size + 1) 42 [.int .i64 0, .int .u64 0] := (HC2.out.row HR0.out (fun h => absurd h.2 (by omega))).alloc _
    have hrc : Row (w2.alloc (.cells #[.int .i64 0, .int .u64 0] 42)) w2.heap.size 42 [.int .i64 0, .int .u64 0] := Row.new w2 _ [.int .i64 0, .int .u64 0]
    have hrv : Row (w2.alloc (.cells #[.int .i64 0, .int .u64 0] 42)) w.heap.size 5 [.int .u8 (v : Nat)] := (HC2.out.row HRV.out (fun h => Nat.lt_irrefl _ h.2)).alloc _
    have hm3 := HM2.out.below (w' := w2.alloc (.cells #[.int .i64 0, .int .u64 0] 42)) ((Below.refl _ _).alloc (Nat.le_refl _) _)
    have hc3 : ChgP (fun k => Z k ∧ k < w.heap.size) w1 (w2.alloc (.cells #[.int .i64 0, .int .u64 0] 42)) := HC2.out.alloc _
    have hcl : w.heap.size + 1 < w2.heap.size := Nat.lt_of_lt_of_le HLT.out HC2.out.size
    obtain ⟨c, hc⟩ : ∃ c, c = w2.heap.size := ⟨_, rfl⟩
    rw [← hc] at hrc hcl ⊢
    clear hc
    generalize w2.alloc (.cells #[.int .i64 0, .int .u64 0] 42) = w3 at *
    have HRA := Lib.hid hra; have HRC := Lib.hid hrc; have HRV3 := Lib.hid hrv; have HM3 := Lib.hid hm3; have HC3 := Lib.hid hc3; have HCL := Lib.hid hcl
    have t0 := hrc.cell 0
    have lc := hrc.lt
    simp only [List.getElem?_cons_zero] at t0
    clear hra hrc hrv hm3 hc3 hcl
    have H64 := Lib.hid (offAt_none HM.out HA.out HF.out.symm)
    have HOF : Hid (∀ wy i, ChgP (fun k => Z k ∧ k < w.heap.size) w3 wy → i < n → Calls Try.prog 44 #[.int .i64 (i : Nat), .pointer (some ⟨w.heap.size, 0, none⟩)] wy fun e w' => e = .returned (u8 (v)) ∧ wy = w') := Lib.hid (fun wy i hy hi => fill1_any w.heap.size v i wy (hy.row HRV3.out (fun h => Nat.lt_irrefl _ h.2)))
    go_upto_region 6 with (go_at_call 43; refine (lay_fill _ _ M A1 A2 Ao x1 x2 no co b pm sp at_ n g w.heap.size (fun _ => v) w3 HM3.out (by rcases H64.out with h | h <;> omega) HA.out (fun _ => HV.out) HOF.out).mono ?_; rintro e w4 ⟨rfl, ⟨pm', hm4⟩, hc4⟩; have HM4 := Lib.hid hm4; have HC4 := Lib.hid hc4; clear hm4 hc4)
    have HR4 : Hid (Row w4 (w.heap.size + 1) 42 [.int .i64 0, .int .u64 0]) := Lib.hid (HC4.out.row HRA.out (fun h => absurd h.2 (by omega)))
    have HF4 : Hid (Row w4 c 42 [.int .i64 0, .int .u64 0]) := Lib.hid (HC4.out.row HRC.out (fun h => absurd h.2 (by have := HCL.out; omega)))
    clear t0 lc
    obtain ⟨w5, hw5⟩ : ∃ w5 : World, w5 = w4 := ⟨_, rfl⟩
    subst hw5
    have HM5 := HM4; have HR5 := HR4; have HF5 := HF4
    have HC5 : Hid (ChgP Z w w5) := Lib.hid (((ChgP.of_below HB0.out).trans HC3.out (fun x hx => .inl hx.1)).trans HC4.out (fun x hx => .inl hx.1))
    have t0 := HF5.out.cell 0
    have t1 := HF5.out.cell 1
    have la := HR5.out.lt
    have lc := HF5.out.lt
    have a0 := HR5.out.frozen 0
    have a1 := HR5.out.frozen 1
    have q0 := HR5.out.cell 0
    have q1 := HR5.out.cell 1
    simp only [List.getElem?_cons_zero, List.getElem?_cons_succ] at t0 t1 q0 q1
    go_wp2_with fail
    have hr6 := (HR5.out.set_ 0 (.int .i64 0)).set_ 1 (.int .u64 0)
    have z0 := hr6.cell 0
    have z1 := hr6.cell 1
    simp only [List.set_cons_zero, List.set_cons_succ, List.getElem?_cons_zero, List.getElem?_cons_succ] at z0 z1
    have hcq : ChgP (fun k => k = w.heap.size + 1) w5 ((w5.setCell ⟨w.heap.size + 1, 0, none⟩ (.int .i64 0)).setCell ⟨w.heap.size + 1, 1, none⟩ (.int .u64 0)) := ((ChgP.refl (fun k => k = w.heap.size + 1) w5).set_ (p := ⟨w.heap.size + 1, 0, none⟩) (.inl rfl) _).set_ (p := ⟨w.heap.size + 1, 1, none⟩) (.inl rfl) _
    have HM6 := HM5.out.chg hcq (fun k hk hy => by
      have := HC3.out.size; have := HLT.out
      rcases hk with (hk | hk) | hk
      · have := hk.2; omega
      · omega
      · have := hk.1.2; omega)
    have HC6 : ChgP Z w ((w5.setCell ⟨w.heap.size + 1, 0, none⟩ (.int .i64 0)).setCell ⟨w.heap.size + 1, 1, none⟩ (.int .u64 0)) := (HC5.out.set_ (p := ⟨w.heap.size + 1, 0, none⟩) (.inr (Nat.le_succ _)) _).set_ (p := ⟨w.heap.size + 1, 1, none⟩) (.inr (Nat.le_succ _)) _
    have HM7 := HM6.mono (Z' := grow Z w) (R' := fun k => R k ∧ k < w.heap.size) (fun k hk => by
      rcases hk with hk | hk
      · exact .inl hk.1
      · exact .inr (by have := HC3.out.size; have := HB0.out.size; omega)) (fun k hk => hk.1) (grow_dis HM.out.dis)
    refine bodyPost_ret (v := .agg #[.int .i64 0, .int .u64 0]) (by simp [results, Try.results22, go_sem, z0, z1]) rfl ⟨by rw [← HF.out]; rfl, ⟨pm', by rw [← HF.out]; exact HM7⟩, HC6⟩
set_option maxRecDepth 100000 in
set_option maxHeartbeats 1000000 in
theorem store_bad (g at_ v : Nat) (z : Int) (w : World) (hz : wideB z = false) :
    Calls Try.prog 27 #[.pointer (some ⟨g, 0, none⟩), .int .u64 (at_ : Nat), .int .i64 z, .int .u64 (v : Nat)] w fun e w' => e = .returned (.agg #[.int .i64 31, .int .u64 (at_ : Nat)]) ∧ Below w.heap.size w w' := by
  have HZ := Lib.hid hz
  clear hz
  go_enter Try.func27, Try.ntmps27
  go_upto_region 1 with fail
  have s1 : (w.alloc (.cells #[.int .u64 (v : Nat)] 25)).heap.size = w.heap.size + 1 := by simp
  have r0 : Row ((w.alloc (.cells #[.int .u64 (v : Nat)] 25)).alloc (.cells #[.int .i64 0, .int .u64 0] 42)) (w.heap.size + 1) 42 [.int .i64 0, .int .u64 0] := by
    have h := Row.new (w.alloc (.cells #[.int .u64 (v : Nat)] 25)) 42 [.int .i64 0, .int .u64 0]
    rw [s1] at h
    exact h
  have hb0 : Below w.heap.size w ((w.alloc (.cells #[.int .u64 (v : Nat)] 25)).alloc (.cells #[.int .i64 0, .int .u64 0] 42)) := ((Below.refl _ _).alloc (Nat.le_refl _) _).alloc (by simp) _
  generalize (w.alloc (.cells #[.int .u64 (v : Nat)] 25)).alloc (.cells #[.int .i64 0, .int .u64 0] 42) = w1 at *
  have f0 := r0.cell 0
  have f1 := r0.cell 1
  have fz0 := r0.frozen 0
  have fz1 := r0.frozen 1
  have lf := r0.lt
  simp only [List.getElem?_cons_zero, List.getElem?_cons_succ] at f0 f1
  have HB := Lib.hid hb0; have HR := Lib.hid r0
  clear hb0 r0 s1
  go_wp2_with (go_at_call 46; refine (wide_any z w1).mono ?_; rw [HZ.out]; rintro e w' ⟨rfl, hw⟩; obtain rfl := hw.symm)
  have hrz := (HR.out.set_ 0 (.int .i64 31)).set_ 1 (.int .u64 (at_ : Nat))
  have z0 := hrz.cell 0
  have z1 := hrz.cell 1
  simp only [List.set_cons_zero, List.set_cons_succ, List.getElem?_cons_zero, List.getElem?_cons_succ] at z0 z1
  refine bodyPost_ret (v := .agg #[.int .i64 31, .int .u64 (at_ : Nat)]) (by simp [results, Try.results27, go_sem, z0, z1]) rfl ⟨rfl, (HB.out.setCell (p := ⟨w.heap.size + 1, 0, none⟩) (Nat.le_succ _) _).setCell (p := ⟨w.heap.size + 1, 1, none⟩) (Nat.le_succ _) _⟩
set_option maxRecDepth 100000 in
set_option maxHeartbeats 1000000 in
theorem fill_neg (g at_ v : Nat) (z : Int) (w : World) (hz : z < 0) :
    Calls Try.prog 22 #[.pointer (some ⟨g, 0, none⟩), .int .u64 (at_ : Nat), .int .i64 z, .int .u8 (v : Nat)] w fun e w' => e = .returned (.agg #[.int .i64 1, .int .u64 (at_ : Nat)]) ∧ Below w.heap.size w w' := by
  go_enter Try.func22, Try.ntmps22
  go_upto_region 1 with fail
  have s1 : (w.alloc (.cells #[.int .u8 (v : Nat)] 5)).heap.size = w.heap.size + 1 := by simp
  have r0 : Row ((w.alloc (.cells #[.int .u8 (v : Nat)] 5)).alloc (.cells #[.int .i64 0, .int .u64 0] 42)) (w.heap.size + 1) 42 [.int .i64 0, .int .u64 0] := by
    have h := Row.new (w.alloc (.cells #[.int .u8 (v : Nat)] 5)) 42 [.int .i64 0, .int .u64 0]
    rw [s1] at h
    exact h
  have hb0 : Below w.heap.size w ((w.alloc (.cells #[.int .u8 (v : Nat)] 5)).alloc (.cells #[.int .i64 0, .int .u64 0] 42)) := ((Below.refl _ _).alloc (Nat.le_refl _) _).alloc (by simp) _
  generalize (w.alloc (.cells #[.int .u8 (v : Nat)] 5)).alloc (.cells #[.int .i64 0, .int .u64 0] 42) = w1 at *
  have f0 := r0.cell 0
  have f1 := r0.cell 1
  have fz0 := r0.frozen 0
  have fz1 := r0.frozen 1
  have lf := r0.lt
  simp only [List.getElem?_cons_zero, List.getElem?_cons_succ] at f0 f1
  have HB := Lib.hid hb0; have HR := Lib.hid r0
  clear hb0 r0 s1
  go_wp2_with fail
  have hrz := (HR.out.set_ 0 (.int .i64 1)).set_ 1 (.int .u64 (at_ : Nat))
  have z0 := hrz.cell 0
  have z1 := hrz.cell 1
  simp only [List.set_cons_zero, List.set_cons_succ, List.getElem?_cons_zero, List.getElem?_cons_succ] at z0 z1
  refine bodyPost_ret (v := .agg #[.int .i64 1, .int .u64 (at_ : Nat)]) (by simp [results, Try.results22, go_sem, z0, z1]) rfl ⟨rfl, (HB.out.setCell (p := ⟨w.heap.size + 1, 0, none⟩) (Nat.le_succ _) _).setCell (p := ⟨w.heap.size + 1, 1, none⟩) (Nat.le_succ _) _⟩
end Bu
end Go.Proofs.Ytmhkmemaneopeaa
