/- Texts of this claim, one behind the other: BuT, BuU, BuV. -/
import Derived.Test.YtfpofaniicegaaaGreatJWalkForeign13
/- The walks of Store, Write, Fill. (Printed by wip/laygen2.py.) -/
set_option linter.unusedVariables false
set_option linter.unusedSimpArgs false
namespace Go.Proofs.YtfpofaniicegaaaGreat
open Go.RowKit
open S64
namespace Bu
/-- the numbers of pages, in the order in which they came -/
def addP (l : List Nat) (k : Nat) : List Nat := if k ∈ l then l else l ++ [k]
def pgN (l : List Nat) (a : Nat) : Nat → List Nat
  | 0 => l
  | d + 1 => addP (pgN l a d) ((a + d) / 4096)
def pgF (P : List Nat → Prop) (a e : Nat) : List Nat → Prop := fun l => (∀ l, P l) ∨ ∃ l0, P l0 ∧ l = pgN l0 a e
theorem pgN_here {l : List Nat} {a d k : Nat} (hk : k ∈ pgN l a d) (e : k = (a + d) / 4096) : pgN l a (d + 1) = pgN l a d := by
  show addP _ _ = _
  unfold addP
  rw [if_pos (by rw [← e]; exact hk)]
def Uniq (P : List Nat → Prop) : Prop := ∀ l l', P l → P l' → l = l'
theorem uniq_pgF {P : List Nat → Prop} (h : Uniq P) (a e : Nat) : Uniq (pgF P a e) := by
  intro l l' h1 h2
  have hn : ¬ ∀ l, P l := fun ha => by have := h [] [0] (ha _) (ha _); cases this
  rcases h1 with h1 | ⟨l0, h1, rfl⟩
  · exact absurd h1 hn
  · rcases h2 with h2 | ⟨l1, h2, rfl⟩
    · exact absurd h2 hn
    · rw [h _ _ h1 h2]
/-- what becomes of a machine by laying bytes; c: is it counted? -/
def laidM (M : PM) (at_ n : Nat) (f : Nat → Nat) (c : Nat) (F : Option Nat) : PM := match F with
  | none => { M with mem := layM M.mem at_ n f, stores := if c = 0 then M.stores else cInc M.stores, pgn := if c = 0 then (fun _ => True) else pgF M.pgn at_ n }
  | some _ => { M with strays := cInc M.strays }
/-- the bytes of a number -/
def byteOf (v i : Nat) : Nat := v / 2 ^ (8 * i) % 256
theorem byteOf_lt (v i : Nat) : byteOf v i < 256 := Nat.mod_lt _ (by decide)
/-- what laying tells -/
def LaySaid (Z R : Nat → Prop) (w : World) (g : Nat) (M' : PM) (A1 A2 Ao : Option Addr) (x1 x2 no co b : Nat) (sp : Sp.S) (F : Option Nat) (e : Ending) (w' : World) : Prop :=
  e = .returned (faultV F) ∧ (∃ pm', MachAt (grow Z w) (fun k => R k ∧ k < w.heap.size) w' g M' A1 A2 Ao x1 x2 no co b pm' sp) ∧ ChgP Z w w'
theorem MachAt.past2 {Z R : Nat → Prop} {w' w'' : World} {g : Nat} {M : PM} {A1 A2 Ao : Option Addr} {c1 c2 no co b : Nat} {pm : Nat → Option Nat} {sp : Sp.S} {N : Nat} (h : MachAt (fun k => Z k ∧ k < N) (fun k => R k ∧ k < N) w' g M A1 A2 Ao c1 c2 no co b pm sp) (hc : ChgP (fun k => N ≤ k) w' w'') :
    MachAt (fun k => Z k ∧ k < N) (fun k => R k ∧ k < N) w'' g M A1 A2 Ao c1 c2 no co b pm sp :=
  h.chg hc (fun k hk hy => by rcases hk with hk | hk <;> have := hk.2 <;> omega)
theorem IsB.same {w w' : World} {B n : Nat} {A : Option Addr} {bs : List Nat} (h : IsB w B A n bs) (hb : ∀ ad, A = some ad → 0 < n → w'.heap[ad.block]? = w.heap[ad.block]?) : IsB w' B A n bs := ⟨reads_same h.1 hb, h.2⟩
theorem IsB.lt {w : World} {B n : Nat} {A : Option Addr} {bs : List Nat} (h : IsB w B A n bs) (h0 : 0 < n) : ∀ ad, A = some ad → ad.block < B := by
  intro ad e
  obtain ⟨ad', e', hl, _⟩ := h.1.2 h0
  rw [e] at e'; injection e' with e'; rw [e']; exact hl
theorem getD_lt {bs : List Nat} (h : ∀ b ∈ bs, b < 256) (i : Nat) : bs.getD i 0 < 256 := by
  rcases Nat.lt_or_ge i bs.length with hl | hl
  · exact h _ (getD_mem bs i hl)
  · rw [List.getD_eq_getElem?_getD, List.getElem?_eq_none hl]; decide
theorem IsB.chg {Z : Nat → Prop} {w w' : World} {n : Nat} {A : Option Addr} {bs : List Nat} (h : IsB w w.heap.size A n bs) (hc : ChgP Z w w') (hz : ∀ ad, A = some ad → 0 < n → ¬ Z ad.block) : IsB w' w'.heap.size A n bs :=
  (IsB.same h (fun ad e h0 => hc.block _ (IsB.lt h h0 ad e) (hz ad e h0))).more hc.size
theorem grow_dis {Z R : Nat → Prop} {w : World} (hd : ∀ k, Z k → ¬ R k) : ∀ k, grow Z w k → ¬ (R k ∧ k < w.heap.size) := fun k hk hr => by
  rcases hk with hk | hk
  · exact hd k hk hr.1
  · have := hr.2; omega
set_option maxRecDepth 100000 in
set_option maxHeartbeats 2000000 in
theorem store_any (Z R : Nat → Prop) (M : PM) (A1 A2 Ao : Option Addr) (x1 x2 no co b : Nat) (pm : Nat → Option Nat) (sp : Sp.S) (at_ n g : Nat) (v : Nat) (w : World)
    (hm : MachAt Z R w g M A1 A2 Ao x1 x2 no co b pm sp) (hk : n = 1 ∨ n = 2 ∨ n = 4 ∨ n = 8) (hv : v ≤ TOP) (hst : True) (ha : at_ ≤ TOP) (hs : True) :
    Calls Tryz.prog 29 #[.pointer (some ⟨g, 0, none⟩), .int .u64 (at_ : Nat), .int .i64 (n : Nat), .int .u64 (v : Nat)] w (LaySaid Z R w g (laidM M at_ n (byteOf v) 1 (offAt sp at_ n)) A1 A2 Ao x1 x2 no co b sp (offAt sp at_ n)) := by
  have HM := Lib.hid hm
  have HA := Lib.hid ha
  have HS := Lib.hid hs
  have HW := Lib.hid (wideB_of hk)
  have hn8 : n ≤ 8 := by omega
  have HN : Hid (n ≤ 9223372036854775807) := Lib.hid (by omega)
  have HV := Lib.hid hv
  have HST := Lib.hid hst
  clear hk hv hst
  clear hm ha hs
  go_enter Tryz.func29, Tryz.ntmps29
  go_upto_region 1 with fail
  have s1 : (w.alloc (.cells #[.int .u64 (v : Nat)] 31)).heap.size = w.heap.size + 1 := by simp
  have rv : Row ((w.alloc (.cells #[.int .u64 (v : Nat)] 31)).alloc (.cells #[.int .i64 0, .int .u64 0] 57)) w.heap.size 31 [.int .u64 (v : Nat)] := (Row.new w _ [.int .u64 (v : Nat)]).alloc _
  have r0 : Row ((w.alloc (.cells #[.int .u64 (v : Nat)] 31)).alloc (.cells #[.int .i64 0, .int .u64 0] 57)) (w.heap.size + 1) 57 [.int .i64 0, .int .u64 0] := by
    have h := Row.new (w.alloc (.cells #[.int .u64 (v : Nat)] 31)) 57 [.int .i64 0, .int .u64 0]
    rw [s1] at h
    exact h
  have hb0 : Below w.heap.size w ((w.alloc (.cells #[.int .u64 (v : Nat)] 31)).alloc (.cells #[.int .i64 0, .int .u64 0] 57)) := ((Below.refl _ _).alloc (Nat.le_refl _) _).alloc (by simp) _
  generalize (w.alloc (.cells #[.int .u64 (v : Nat)] 31)).alloc (.cells #[.int .i64 0, .int .u64 0] 57) = w1 at *
  have HM1 : Hid (MachAt (fun k => Z k ∧ k < w.heap.size) (fun k => R k ∧ k < w.heap.size) w1 g M A1 A2 Ao x1 x2 no co b pm sp) := Lib.hid (HM.out.tight.below hb0)
  have HB0 := Lib.hid hb0; have HR0 := Lib.hid r0; have HRV := Lib.hid rv
  have HLT : Hid (w.heap.size + 1 < w1.heap.size) := Lib.hid r0.lt
  clear hb0 r0 rv s1
  go_upto_region 3 with (go_at_call 54; refine (wide_any (n : Int) w1).mono ?_; rw [HW.out]; rintro e w' ⟨rfl, hw⟩; obtain rfl := hw.symm)
  obtain ⟨F, hF⟩ : ∃ F, F = offAt sp at_ n := ⟨_, rfl⟩
  have HF := Lib.hid hF
  clear hF
  cases F with
  | some p =>
    go_upto_region 4 with (go_at_call 55; refine (access_any _ _ M A1 A2 Ao x1 x2 no co b pm sp at_ n g w1 HM1.out HN.out HA.out HS.out).mono ?_; rw [← HF.out]; rintro e w2 ⟨rfl, hm2, hc2⟩; have HM2 := Lib.hid hm2; have HC2 := Lib.hid hc2; clear hm2 hc2; unfold faultV)
    have hra : Row (w2.alloc (.cells #[.int .i64 30, .int .u64 (p : Nat)] 57)) (w.heap.size + 1) 57 [.int .i64 0, .int .u64 0] := (HC2.out.row HR0.out (fun h => absurd h.2 (by omega))).alloc _
    have hrc : Row (w2.alloc (.cells #[.int .i64 30, .int .u64 (p : Nat)] 57)) w2.heap.size 57 [.int .i64 30, .int .u64 (p : Nat)] := Row.new w2 _ [.int .i64 30, .int .u64 (p : Nat)]
    have hm3 := HM2.out.below (w' := w2.alloc (.cells #[.int .i64 30, .int .u64 (p : Nat)] 57)) ((Below.refl _ _).alloc (Nat.le_refl _) _)
    have hc3 : ChgP (fun k => Z k ∧ k < w.heap.size) w1 (w2.alloc (.cells #[.int .i64 30, .int .u64 (p : Nat)] 57)) := HC2.out.alloc _
    obtain ⟨c, hc⟩ : ∃ c, c = w2.heap.size := ⟨_, rfl⟩
    rw [← hc] at hrc ⊢
    clear hc
    generalize w2.alloc (.cells #[.int .i64 30, .int .u64 (p : Nat)] 57) = w3 at *
    have HRA := Lib.hid hra; have HRC := Lib.hid hrc; have HM3 := Lib.hid hm3; have HC3 := Lib.hid hc3
    have t0 := hrc.cell 0
    have t1 := hrc.cell 1
    have la := hra.lt
    have lc := hrc.lt
    simp only [List.getElem?_cons_zero, List.getElem?_cons_succ] at t0 t1
    have a0 := hra.frozen 0
    have a1 := hra.frozen 1
    have q0 := hra.cell 0
    have q1 := hra.cell 1
    simp only [List.getElem?_cons_zero, List.getElem?_cons_succ] at q0 q1
    clear hra hrc hm3 hc3
    go_wp2_with fail
    have hr5 := (HRA.out.set_ 0 (.int .i64 30)).set_ 1 (.int .u64 (p : Nat))
    have z0 := hr5.cell 0
    have z1 := hr5.cell 1
    simp only [List.set_cons_zero, List.set_cons_succ, List.getElem?_cons_zero, List.getElem?_cons_succ] at z0 z1
    have hcq : ChgP (fun k => w.heap.size ≤ k) w3 ((w3.setCell ⟨w.heap.size + 1, 0, none⟩ (.int .i64 30)).setCell ⟨w.heap.size + 1, 1, none⟩ (.int .u64 (p : Nat))) := ((ChgP.refl (fun k => w.heap.size ≤ k) w3).set_ (p := ⟨w.heap.size + 1, 0, none⟩) (.inl (Nat.le_succ _)) _).set_ (p := ⟨w.heap.size + 1, 1, none⟩) (.inl (Nat.le_succ _)) _
    have HM5 := MachAt.past2 (Z := Z) (R := R) (N := w.heap.size) HM3.out hcq
    have HC5 : ChgP Z w ((w3.setCell ⟨w.heap.size + 1, 0, none⟩ (.int .i64 30)).setCell ⟨w.heap.size + 1, 1, none⟩ (.int .u64 (p : Nat))) := (((ChgP.of_below HB0.out).trans HC3.out (fun x hx => .inl hx.1)).set_ (p := ⟨w.heap.size + 1, 0, none⟩) (.inr (Nat.le_succ _)) _).set_ (p := ⟨w.heap.size + 1, 1, none⟩) (.inr (Nat.le_succ _)) _
    refine bodyPost_ret (v := .agg #[.int .i64 30, .int .u64 (p : Nat)]) (by simp [results, Tryz.results29, go_sem, z0, z1]) rfl ⟨by rw [← HF.out]; rfl, ⟨pm, by rw [← HF.out]; exact HM5.mono (fun k hk => .inl hk.1) (fun k hk => hk) (grow_dis HM.out.dis)⟩, HC5⟩
  | none =>
    go_upto_region 4 with (go_at_call 55; refine (access_any _ _ M A1 A2 Ao x1 x2 no co b pm sp at_ n g w1 HM1.out HN.out HA.out HS.out).mono ?_; rw [← HF.out]; rintro e w2 ⟨rfl, hm2, hc2⟩; have HM2 := Lib.hid hm2; have HC2 := Lib.hid hc2; clear hm2 hc2; unfold faultV)
    have hra : Row (w2.alloc (.cells #[.int .i64 0, .int .u64 0] 57)) (w.heap.size + 1) 57 [.int .i64 0, .int .u64 0] := (HC2.out.row HR0.out (fun h => absurd h.2 (by omega))).alloc _
    have hrc : Row (w2.alloc (.cells #[.int .i64 0, .int .u64 0] 57)) w2.heap.size 57 [.int .i64 0, .int .u64 0] := Row.new w2 _ [.int .i64 0, .int .u64 0]
    have hrv : Row (w2.alloc (.cells #[.int .i64 0, .int .u64 0] 57)) w.heap.size 31 [.int .u64 (v : Nat)] := (HC2.out.row HRV.out (fun h => Nat.lt_irrefl _ h.2)).alloc _
    have hm3 := HM2.out.below (w' := w2.alloc (.cells #[.int .i64 0, .int .u64 0] 57)) ((Below.refl _ _).alloc (Nat.le_refl _) _)
    have hc3 : ChgP (fun k => Z k ∧ k < w.heap.size) w1 (w2.alloc (.cells #[.int .i64 0, .int .u64 0] 57)) := HC2.out.alloc _
    have hcl : w.heap.size + 1 < w2.heap.size := Nat.lt_of_lt_of_le HLT.out HC2.out.size
    obtain ⟨c, hc⟩ : ∃ c, c = w2.heap.size := ⟨_, rfl⟩
    rw [← hc] at hrc hcl ⊢
    clear hc
    generalize w2.alloc (.cells #[.int .i64 0, .int .u64 0] 57) = w3 at *
    have HRA := Lib.hid hra; have HRC := Lib.hid hrc; have HRV3 := Lib.hid hrv; have HM3 := Lib.hid hm3; have HC3 := Lib.hid hc3; have HCL := Lib.hid hcl
    have t0 := hrc.cell 0
    have lc := hrc.lt
    simp only [List.getElem?_cons_zero] at t0
    clear hra hrc hrv hm3 hc3 hcl
    have H64 := Lib.hid (offAt_none HM.out HA.out HF.out.symm)
    have HOF : Hid (∀ wy i, ChgP (fun k => Z k ∧ k < w.heap.size) w3 wy → i < n → Calls Tryz.prog 57 #[.int .i64 (i : Nat), .pointer (some ⟨w.heap.size, 0, none⟩)] wy fun e w' => e = .returned (u8 (byteOf v i)) ∧ wy = w') := Lib.hid (fun wy i hy hi => store1_any w.heap.size v i wy (hy.row HRV3.out (fun h => Nat.lt_irrefl _ h.2)) (by omega) HV.out)
    go_upto_region 6 with (go_at_call 56; refine (lay_store _ _ M A1 A2 Ao x1 x2 no co b pm sp at_ n g w.heap.size (byteOf v) w3 HM3.out (by rcases H64.out with h | h <;> omega) HA.out (byteOf_lt v) HOF.out).mono ?_; rintro e w4 ⟨rfl, ⟨pm', hm4⟩, hc4⟩; have HM4 := Lib.hid hm4; have HC4 := Lib.hid hc4; clear hm4 hc4)
    have HR4 : Hid (Row w4 (w.heap.size + 1) 57 [.int .i64 0, .int .u64 0]) := Lib.hid (HC4.out.row HRA.out (fun h => absurd h.2 (by omega)))
    have HF4 : Hid (Row w4 c 57 [.int .i64 0, .int .u64 0]) := Lib.hid (HC4.out.row HRC.out (fun h => absurd h.2 (by have := HCL.out; omega)))
    clear t0 lc
    have p1 := HM4.out.row.cell 1
    have pz := HM4.out.row.frozen 1
    have lg := HM4.out.row.lt
    simp only [List.getElem?_cons_zero, List.getElem?_cons_succ] at p1
    obtain ⟨yy, hyy⟩ : ∃ yy, yy = cInc M.stores := ⟨_, rfl⟩
    have hw1 : IntKind.i64.wrap (M.stores + 1) = yy := by rw [hyy]; rfl
    have hw2 : wrap64 (M.stores + 1) = yy := by rw [hyy]; unfold cInc wrap64; exact (IntKind.wrap_i64 _).symm
    have HYY := Lib.hid hyy
    clear hyy
    go_upto_region 7 with fail
    have hm5 := HM4.out.count 1 (.int .i64 yy) { M with mem := layM M.mem at_ n (byteOf v), stores := cInc M.stores, pgn := pgF M.pgn at_ n } rfl rfl rfl (by rw [HYY.out]; simp)
    have hr5 := HR4.out.far (p := ⟨g, 1, none⟩) (Row.ne_t HR4.out HM4.out.row (by decide)) (.int .i64 yy)
    have hf5 := HF4.out.far (p := ⟨g, 1, none⟩) (Row.ne_t HF4.out HM4.out.row (by decide)) (.int .i64 yy)
    have hc5 : ChgP Z w (w4.setCell ⟨g, 1, none⟩ (.int .i64 yy)) := ((((ChgP.of_below HB0.out).trans HC3.out (fun x hx => .inl hx.1)).trans HC4.out (fun x hx => .inl hx.1)).set_ (p := ⟨g, 1, none⟩) (.inl HM.out.zg) _)
    clear p1 pz lg hw1 hw2
    generalize w4.setCell ⟨g, 1, none⟩ (.int .i64 yy) = w5 at *
    have HM5 := Lib.hid hm5; have HR5 := Lib.hid hr5; have HF5 := Lib.hid hf5; have HC5 := Lib.hid hc5
    clear hm5 hr5 hf5 hc5
    have t0 := HF5.out.cell 0
    have t1 := HF5.out.cell 1
    have la := HR5.out.lt
    have lc := HF5.out.lt
    have a0 := HR5.out.frozen 0
    have a1 := HR5.out.frozen 1
    have q0 := HR5.out.cell 0
    have q1 := HR5.out.cell 1
    simp only [List.getElem?_cons_zero, List.getElem?_cons_succ] at t0 t1 q0 q1
    go_wp2_with fail
    have hr6 := (HR5.out.set_ 0 (.int .i64 0)).set_ 1 (.int .u64 0)
    have z0 := hr6.cell 0
    have z1 := hr6.cell 1
    simp only [List.set_cons_zero, List.set_cons_succ, List.getElem?_cons_zero, List.getElem?_cons_succ] at z0 z1
    have hcq : ChgP (fun k => k = w.heap.size + 1) w5 ((w5.setCell ⟨w.heap.size + 1, 0, none⟩ (.int .i64 0)).setCell ⟨w.heap.size + 1, 1, none⟩ (.int .u64 0)) := ((ChgP.refl (fun k => k = w.heap.size + 1) w5).set_ (p := ⟨w.heap.size + 1, 0, none⟩) (.inl rfl) _).set_ (p := ⟨w.heap.size + 1, 1, none⟩) (.inl rfl) _
    have HM6 := HM5.out.chg hcq (fun k hk hy => by
      have := HC3.out.size; have := HLT.out
      rcases hk with (hk | hk) | hk
      · have := hk.2; omega
      · omega
      · have := hk.1.2; omega)
    have HC6 : ChgP Z w ((w5.setCell ⟨w.heap.size + 1, 0, none⟩ (.int .i64 0)).setCell ⟨w.heap.size + 1, 1, none⟩ (.int .u64 0)) := (HC5.out.set_ (p := ⟨w.heap.size + 1, 0, none⟩) (.inr (Nat.le_succ _)) _).set_ (p := ⟨w.heap.size + 1, 1, none⟩) (.inr (Nat.le_succ _)) _
    have HM7 := HM6.mono (Z' := grow Z w) (R' := fun k => R k ∧ k < w.heap.size) (fun k hk => by
      rcases hk with hk | hk
      · exact .inl hk.1
      · exact .inr (by have := HC3.out.size; have := HB0.out.size; omega)) (fun k hk => hk.1) (grow_dis HM.out.dis)
    refine bodyPost_ret (v := .agg #[.int .i64 0, .int .u64 0]) (by simp [results, Tryz.results29, go_sem, z0, z1]) rfl ⟨by rw [← HF.out]; rfl, ⟨pm', by rw [← HF.out]; exact HM7⟩, HC6⟩
set_option maxRecDepth 100000 in
set_option maxHeartbeats 1000000 in
theorem store_bad (g at_ v : Nat) (z : Int) (w : World) (hz : wideB z = false) :
    Calls Tryz.prog 29 #[.pointer (some ⟨g, 0, none⟩), .int .u64 (at_ : Nat), .int .i64 z, .int .u64 (v : Nat)] w fun e w' => e = .returned (.agg #[.int .i64 31, .int .u64 (at_ : Nat)]) ∧ Below w.heap.size w w' := by
  have HZ := Lib.hid hz
  clear hz
  go_enter Tryz.func29, Tryz.ntmps29
  go_upto_region 1 with fail
  have s1 : (w.alloc (.cells #[.int .u64 (v : Nat)] 31)).heap.size = w.heap.size + 1 := by simp
  have r0 : Row ((w.alloc (.cells #[.int .u64 (v : Nat)] 31)).alloc (.cells #[.int .i64 0, .int .u64 0] 57)) (w.heap.size + 1) 57 [.int .i64 0, .int .u64 0] := by
    have h := Row.new (w.alloc (.cells #[.int .u64 (v : Nat)] 31)) 57 [.int .i64 0, .int .u64 0]
    rw [s1] at h
    exact h
  have hb0 : Below w.heap.size w ((w.alloc (.cells #[.int .u64 (v : Nat)] 31)).alloc (.cells #[.int .i64 0, .int .u64 0] 57)) := ((Below.refl _ _).alloc (Nat.le_refl _) _).alloc (by simp) _
  generalize (w.alloc (.cells #[.int .u64 (v : Nat)] 31)).alloc (.cells #[.int .i64 0, .int .u64 0] 57) = w1 at *
  have f0 := r0.cell 0
  have f1 := r0.cell 1
  have fz0 := r0.frozen 0
  have fz1 := r0.frozen 1
  have lf := r0.lt
  simp only [List.getElem?_cons_zero, List.getElem?_cons_succ] at f0 f1
  have HB := Lib.hid hb0; have HR := Lib.hid r0
  clear hb0 r0 s1
  go_wp2_with (go_at_call 54; refine (wide_any z w1).mono ?_; rw [HZ.out]; rintro e w' ⟨rfl, hw⟩; obtain rfl := hw.symm)
  have hrz := (HR.out.set_ 0 (.int .i64 31)).set_ 1 (.int .u64 (at_ : Nat))
  have z0 := hrz.cell 0
  have z1 := hrz.cell 1
  simp only [List.set_cons_zero, List.set_cons_succ, List.getElem?_cons_zero, List.getElem?_cons_succ] at z0 z1
  refine bodyPost_ret (v := .agg #[.int .i64 31, .int .u64 (at_ : Nat)]) (by simp [results, Tryz.results29, go_sem, z0, z1]) rfl ⟨rfl, (HB.out.setCell (p := ⟨w.heap.size + 1, 0, none⟩) (Nat.le_succ _) _).setCell (p := ⟨w.heap.size + 1, 1, none⟩) (Nat.le_succ _) _⟩
end Bu
end Go.Proofs.YtfpofaniicegaaaGreat

/- The walks of slices.Clone over ranges, twin, Bus, the meter, Kept. -/
set_option linter.unusedVariables false
set_option linter.unusedSimpArgs false
namespace Go.Proofs.YtfpofaniicegaaaGreat
open Go.RowKit
open S64
namespace BR
/-- ranges in new memory -/
def Own (w : World) (base : Nat) (A : Option Addr) (n c : Nat) (bs : Sp.S) : Prop := w.ownsRow base 62 2 (.slice A n c) n (bs.map scell).flatten ∧ bs.length = n ∧ n ≤ 9223372036854775807
theorem infoE : (Tryz.prog.info? 62).map (fun i => (i.zero, i.size, i.bytes)) = some (some (.agg #[.int .u64 0, .int .u64 0]), 2, 16) := by kernel_rfl
theorem Own.isS {w : World} {base n c : Nat} {A : Option Addr} {bs : Sp.S} (h : Own w base A n c bs) : IsS w w.heap.size A n bs := ⟨Reads.of_own h.1, h.2⟩
theorem Own.below {w w' : World} {base n c : Nat} {A : Option Addr} {bs : Sp.S} (h : Own w base A n c bs) (hb : Below w.heap.size w w') : Own w' base A n c bs := ⟨owns_chgr (S := []) h.1 (Chg.of_below hb) (fun _ _ h => by cases h), h.2⟩
theorem Own.mono {w : World} {base base' n c : Nat} {A : Option Addr} {bs : Sp.S} (h : Own w base A n c bs) (hb : base' ≤ base) : Own w base' A n c bs := ⟨own_monor h.1 hb, h.2⟩
theorem Own.adr {w : World} {base n c : Nat} {A : Option Addr} {bs : Sp.S} (h : Own w base A n c bs) : ∀ ad, A = some ad → base ≤ ad.block ∧ ad.block < w.heap.size := own_adr h.1
end BR
namespace Bu
/-- what slices.Clone tells -/
def Cloned (w : World) (n : Nat) (bs : Sp.S) (e : Ending) (w' : World) : Prop := (∃ A' c', e = .returned (.slice A' n c') ∧ BR.Own w' w.heap.size A' n c' bs ∧ n ≤ c' ∧ c' ≤ 9223372036854775807 ∧ (A' = none → n = 0 ∧ c' = 0)) ∧ Below w.heap.size w w'
set_option maxRecDepth 100000 in
set_option maxHeartbeats 400000 in
theorem clone_any (A : Option Addr) (n c : Nat) (bs : Sp.S) (w : World) (ha : IsS w w.heap.size A n bs) (hn : n ≤ 1000000) :
    Calls Tryz.prog 72 #[.slice A n c] w (Cloned w n bs) := by
  obtain ⟨i0, hi0, hz1, hz2, hz3⟩ := info_parts BR.infoE
  have HA := Lib.hid ha
  have HI := Lib.hid hi0; have HZ1 := Lib.hid hz1; have HZ2 := Lib.hid hz2; have HZ3 := Lib.hid hz3
  clear hi0 hz1 hz2 hz3 ha
  cases A with
  | none =>
    obtain rfl : n = 0 := by
      rcases Nat.eq_zero_or_pos n with h | h
      · exact h
      · obtain ⟨ad, h, _⟩ := HA.out.1.2 h; cases h
    have hq : ∀ wx : World, (binOp .eql 22 (.slice none 0 c) (.slice none 0 0)).run Tryz.prog wx = .ok (.bool true) wx := fun wx => Lib.run_eql_slice_nil wx 22 62 none 0 c 0 0 Tryz.underlying22
    go_enter Tryz.func72, Tryz.ntmps72
    go_wp2_with fail
    go_ret
    obtain rfl : bs = [] := List.eq_nil_of_length_eq_zero HA.out.2.1
    exact ⟨⟨none, 0, rfl, ⟨World.ownsRow_nil _ _ _ _, rfl, by omega⟩, by omega, by omega, fun _ => ⟨rfl, rfl⟩⟩, Below.refl _ _⟩
  | some ad =>
    have hq : ∀ wx : World, (binOp .eql 22 (.slice (some ad) n c) (.slice none 0 0)).run Tryz.prog wx = .ok (.bool false) wx := fun wx => Lib.run_eql_slice_nil wx 22 62 (some ad) n c 0 0 Tryz.underlying22
    go_enter Tryz.func72, Tryz.ntmps72
    go_wp2_with (at_builtin; refine wpList_append_more _ rfl (.tmp 5) (.tmp 6) _ rfl w.heap.size 62 i0 _ 2 16 Tryz.underlying22 HI.out HZ1.out HZ2.out HZ3.out rfl (by omega) _ _ _ _ rfl (World.ownsRow_made w #[] 0 (Nat.le_refl _) (by decide) rfl) w.heap.size (some ad) n c (bs.map scell).flatten rfl (HA.out.1.alloc (Nat.le_refl _) _) (scell_one bs) (by simp only [maxLen]; omega) (by omega) (by simp) ?_; intro A' c' w2 HN)
    go_ret
    have h := HN.out
    simp only [Nat.zero_add, List.nil_append] at h
    have hn2 : n ≤ c' ∧ c' ≤ 9223372036854775807 ∧ (A' = none → n = 0 ∧ c' = 0) := by
      have h1 := h.1
      rcases h1.2 with ⟨e, _⟩ | ⟨g, cap, cur, e, hx⟩
      · injection e with e1 e2 e3; subst e1; subst e2; subst e3; exact ⟨by omega, by omega, fun _ => ⟨rfl, rfl⟩⟩
      · injection e with e1 e2 e3; subst e1; subst e3
        exact ⟨hx.2.2.1, by have := hx.2.2.2; unfold maxLen at this; omega, fun h => by cases h⟩
    exact ⟨⟨A', c', rfl, ⟨h.1, HA.out.2.1, by omega⟩, hn2⟩, ((Below.refl _ _).alloc (Nat.le_refl _) _).trans h.2.2⟩
/-- what twin tells -/
structure Twin (w : World) (n1 n2 : Nat) (s1 s2 : Sp.S) (B1 B2 : Option Addr) (d1 d2 : Nat) (w' : World) : Prop where
  own1 : BR.Own w' w.heap.size B1 n1 d1 s1
  own2 : BR.Own w' w.heap.size B2 n2 d2 s2
  cap1 : n1 ≤ d1 ∧ d1 ≤ 9223372036854775807
  cap2 : n2 ≤ d2 ∧ d2 ≤ 9223372036854775807
  nil1 : B1 = none → n1 = 0 ∧ d1 = 0
  nil2 : B2 = none → n2 = 0 ∧ d2 = 0
  apart : ∀ a1 a2, B1 = some a1 → B2 = some a2 → a1.block ≠ a2.block
  bel : Below w.heap.size w w'
theorem TwinMk12 {w wa wb : World} {n1 n2 : Nat} {s1 s2 : Sp.S} {E1 E2 : Option Addr} {d1 d2 : Nat} (h1 : BR.Own wa w.drew.heap.size E1 n1 d1 s1) (k1 : n1 ≤ d1 ∧ d1 ≤ 9223372036854775807 ∧ (E1 = none → n1 = 0 ∧ d1 = 0)) (hba : Below w.heap.size w wa)
    (h2 : BR.Own wb wa.heap.size E2 n2 d2 s2) (k2 : n2 ≤ d2 ∧ d2 ≤ 9223372036854775807 ∧ (E2 = none → n2 = 0 ∧ d2 = 0)) (hb : Below wa.heap.size wa wb) : Twin w n1 n2 s1 s2 E1 E2 d1 d2 wb :=
  ⟨h1.below hb, h2.mono hba.size, ⟨k1.1, k1.2.1⟩, ⟨k2.1, k2.2.1⟩, k1.2.2, k2.2.2, fun a1 a2 e1 e2 e => absurd (h1.adr a1 e1).2 (by have := (h2.adr a2 e2).1; omega), hba.trans (hb.mono hba.size)⟩
theorem TwinMk21 {w wa wb : World} {n1 n2 : Nat} {s1 s2 : Sp.S} {E1 E2 : Option Addr} {d1 d2 : Nat} (h2 : BR.Own wa w.drew.heap.size E2 n2 d2 s2) (k2 : n2 ≤ d2 ∧ d2 ≤ 9223372036854775807 ∧ (E2 = none → n2 = 0 ∧ d2 = 0)) (hba : Below w.heap.size w wa)
    (h1 : BR.Own wb wa.heap.size E1 n1 d1 s1) (k1 : n1 ≤ d1 ∧ d1 ≤ 9223372036854775807 ∧ (E1 = none → n1 = 0 ∧ d1 = 0)) (hb : Below wa.heap.size wa wb) : Twin w n1 n2 s1 s2 E1 E2 d1 d2 wb :=
  ⟨h1.mono hba.size, h2.below hb, ⟨k1.1, k1.2.1⟩, ⟨k2.1, k2.2.1⟩, k1.2.2, k2.2.2, fun a1 a2 e1 e2 e => absurd (h2.adr a2 e2).2 (by have := (h1.adr a1 e1).1; omega), hba.trans (hb.mono hba.size)⟩
theorem Twin.over {w w1 wb : World} {n1 n2 g : Nat} {s1 s2 : Sp.S} {E1 E2 : Option Addr} {d1 d2 : Nat} (h : Twin w1 n1 n2 s1 s2 E1 E2 d1 d2 wb) (hb : Below w.heap.size w w1) {cs : List Value} (hr : Row wb g 24 cs) (hg : w.heap.size ≤ g) (u v : Value) :
    Twin w n1 n2 s1 s2 E1 E2 d1 d2 ((wb.setCell ⟨g, 0, none⟩ u).setCell ⟨g, 1, none⟩ v) :=
  ⟨⟨own_setr (own_setr (own_monor h.own1.1 hb.size) hr (by decide) 0 u) (hr.set_ 0 u) (by decide) 1 v, h.own1.2⟩, ⟨own_setr (own_setr (own_monor h.own2.1 hb.size) hr (by decide) 0 u) (hr.set_ 0 u) (by decide) 1 v, h.own2.2⟩, h.cap1, h.cap2, h.nil1, h.nil2, h.apart, ((hb.trans (h.bel.mono hb.size)).setCell (p := ⟨g, 0, none⟩) hg u).setCell (p := ⟨g, 1, none⟩) hg v⟩
def Twinned (w : World) (n1 n2 : Nat) (s1 s2 : Sp.S) (e : Ending) (w' : World) : Prop := ∃ B1 B2 d1 d2, e = .returned (.agg #[.slice B1 n1 d1, .slice B2 n2 d2]) ∧ Twin w n1 n2 s1 s2 B1 B2 d1 d2 w'
set_option maxRecDepth 100000 in
set_option maxHeartbeats 1000000 in
theorem twin_any (A1 A2 : Option Addr) (n1 n2 c1 c2 : Nat) (s1 s2 : Sp.S) (w : World) (h1 : IsS w w.heap.size A1 n1 s1) (h2 : IsS w w.heap.size A2 n2 s2) (b1 : n1 ≤ 1000000) (b2 : n2 ≤ 1000000) :
    Calls Tryz.prog 52 #[.agg #[.slice A1 n1 c1, .slice A2 n2 c2]] w (Twinned w n1 n2 s1 s2) := by
  have H1 := Lib.hid h1; have H2 := Lib.hid h2; have B1 := Lib.hid b1; have B2 := Lib.hid b2
  clear h1 h2 b1 b2
  go_enter Tryz.func52, Tryz.ntmps52
  go_upto_region 1 with fail
  have s1' : (w.alloc (.cells #[.slice A1 n1 c1, .slice A2 n2 c2] 24)).heap.size = w.heap.size + 1 := by simp
  have r0 : Row ((w.alloc (.cells #[.slice A1 n1 c1, .slice A2 n2 c2] 24)).alloc (.cells #[.slice none 0 0, .slice none 0 0] 24)) w.heap.size 24 [.slice A1 n1 c1, .slice A2 n2 c2] := (Row.new w _ [.slice A1 n1 c1, .slice A2 n2 c2]).alloc _
  have r1 : Row ((w.alloc (.cells #[.slice A1 n1 c1, .slice A2 n2 c2] 24)).alloc (.cells #[.slice none 0 0, .slice none 0 0] 24)) (w.heap.size + 1) 24 [.slice none 0 0, .slice none 0 0] := by
    have h := Row.new (w.alloc (.cells #[.slice A1 n1 c1, .slice A2 n2 c2] 24)) 24 [.slice none 0 0, .slice none 0 0]
    rw [s1'] at h
    exact h
  have hb0 : Below w.heap.size w ((w.alloc (.cells #[.slice A1 n1 c1, .slice A2 n2 c2] 24)).alloc (.cells #[.slice none 0 0, .slice none 0 0] 24)) := ((Below.refl _ _).alloc (Nat.le_refl _) _).alloc (by simp) _
  generalize (w.alloc (.cells #[.slice A1 n1 c1, .slice A2 n2 c2] 24)).alloc (.cells #[.slice none 0 0, .slice none 0 0] 24) = w1 at *
  have p0 := r0.cell 0
  have p1 := r0.cell 1
  have lp := r0.lt
  have l1 := r1.lt
  simp only [List.getElem?_cons_zero, List.getElem?_cons_succ] at p0 p1
  have HB0 := Lib.hid hb0; have HR0 := Lib.hid r0; have HR1 := Lib.hid r1
  clear hb0 r0 r1 s1'
  have HC1 : Hid (∀ wx, Below w1.heap.size w1 wx → Calls Tryz.prog 72 #[.slice A1 n1 c1] wx (Cloned wx n1 s1)) := Lib.hid fun wx hb => clone_any A1 n1 c1 s1 wx (((H1.out.below HB0.out).more HB0.out.size).below hb |>.more hb.size) B1.out
  have HC2 : Hid (∀ wx, Below w1.heap.size w1 wx → Calls Tryz.prog 72 #[.slice A2 n2 c2] wx (Cloned wx n2 s2)) := Lib.hid fun wx hb => clone_any A2 n2 c2 s2 wx (((H2.out.below HB0.out).more HB0.out.size).below hb |>.more hb.size) B2.out
  have KQ : Hid (∀ (w' : World) (u v : Value), w'.cell? ⟨w.heap.size, 0, none⟩ = some (.slice A1 n1 c1) → w'.cell? ⟨w.heap.size, 1, none⟩ = some (.slice A2 n2 c2) → ((w'.setCell ⟨w.heap.size + 1, 0, none⟩ u).setCell ⟨w.heap.size + 1, 1, none⟩ v).cell? ⟨w.heap.size, 0, none⟩ = some (.slice A1 n1 c1) ∧ ((w'.setCell ⟨w.heap.size + 1, 0, none⟩ u).setCell ⟨w.heap.size + 1, 1, none⟩ v).cell? ⟨w.heap.size, 1, none⟩ = some (.slice A2 n2 c2)) := Lib.hid fun w' u v h1 h2 => ⟨(World.cell?_setCell_other _ _ _ _ (by intro h; injection h with h; omega)).trans ((World.cell?_setCell_other _ _ _ _ (by intro h; injection h with h; omega)).trans h1), (World.cell?_setCell_other _ _ _ _ (by intro h; injection h with h; omega)).trans ((World.cell?_setCell_other _ _ _ _ (by intro h; injection h with h; omega)).trans h2)⟩
  go_region_held3 (fun w' => w'.cell? ⟨w.heap.size, 0, none⟩ = some (.slice A1 n1 c1) ∧ w'.cell? ⟨w.heap.size, 1, none⟩ = some (.slice A2 n2 c2))
    (first | exact ⟨p0, p1⟩ | exact KO.out | exact KP.out | exact KQ.out _ _ _ KP.out.1 KP.out.2)
    (first
      | (go_at_call 72; refine (HC2.out wa HBa.out).mono ?_; rintro e' wb ⟨⟨E2, d2, rfl, ho, hd⟩, hb⟩; have HTW : Hid (Twin w1 n1 n2 s1 s2 E1 E2 d1 d2 wb) := Lib.hid (TwinMk12 HO1.out HD1.out HBa.out ho hd hb); have KP : Hid (wb.cell? ⟨w.heap.size, 0, none⟩ = some (.slice A1 n1 c1) ∧ wb.cell? ⟨w.heap.size, 1, none⟩ = some (.slice A2 n2 c2)) := Lib.hid ⟨(HTW.out.bel.cell (p := ⟨w.heap.size, 0, none⟩) lp).trans p0, (HTW.out.bel.cell (p := ⟨w.heap.size, 1, none⟩) lp).trans p1⟩; clear hb ho hd; have hr1 := HR1.out.below HTW.out.bel l1; have q0 := hr1.cell 0; have q1 := hr1.cell 1; have f0 := hr1.frozen 0; have f1 := hr1.frozen 1; have lq := hr1.lt; have HR1b := Lib.hid hr1; simp only [List.getElem?_cons_zero, List.getElem?_cons_succ] at q0 q1; clear hr1)
      | (go_at_call 72; refine (HC1.out wa HBb.out).mono ?_; rintro e' wb ⟨⟨E1, d1, rfl, ho, hd⟩, hb⟩; have HTW : Hid (Twin w1 n1 n2 s1 s2 E1 E2 d1 d2 wb) := Lib.hid (TwinMk21 HO2.out HD2.out HBb.out ho hd hb); have KP : Hid (wb.cell? ⟨w.heap.size, 0, none⟩ = some (.slice A1 n1 c1) ∧ wb.cell? ⟨w.heap.size, 1, none⟩ = some (.slice A2 n2 c2)) := Lib.hid ⟨(HTW.out.bel.cell (p := ⟨w.heap.size, 0, none⟩) lp).trans p0, (HTW.out.bel.cell (p := ⟨w.heap.size, 1, none⟩) lp).trans p1⟩; clear hb ho hd; have hr1 := HR1.out.below HTW.out.bel l1; have q0 := hr1.cell 0; have q1 := hr1.cell 1; have f0 := hr1.frozen 0; have f1 := hr1.frozen 1; have lq := hr1.lt; have HR1b := Lib.hid hr1; simp only [List.getElem?_cons_zero, List.getElem?_cons_succ] at q0 q1; clear hr1)
      | (go_at_call 72; refine (HC1.out w1.drew (Below.refl _ _).drew).mono ?_; rintro e' wa ⟨⟨E1, d1, rfl, ho, hd⟩, hb⟩; have HO1 := Lib.hid ho; have HD1 := Lib.hid hd; have HBa : Hid (Below w1.heap.size w1 wa) := Lib.hid ((Below.refl w1.heap.size w1).drew.trans hb); have KO : Hid (wa.cell? ⟨w.heap.size, 0, none⟩ = some (.slice A1 n1 c1) ∧ wa.cell? ⟨w.heap.size, 1, none⟩ = some (.slice A2 n2 c2)) := Lib.hid ⟨(HBa.out.cell (p := ⟨w.heap.size, 0, none⟩) lp).trans p0, (HBa.out.cell (p := ⟨w.heap.size, 1, none⟩) lp).trans p1⟩; clear hb ho hd)
      | (go_at_call 72; refine (HC2.out w1.drew (Below.refl _ _).drew).mono ?_; rintro e' wa ⟨⟨E2, d2, rfl, ho, hd⟩, hb⟩; have HO2 := Lib.hid ho; have HD2 := Lib.hid hd; have HBb : Hid (Below w1.heap.size w1 wa) := Lib.hid ((Below.refl w1.heap.size w1).drew.trans hb); have KO : Hid (wa.cell? ⟨w.heap.size, 0, none⟩ = some (.slice A1 n1 c1) ∧ wa.cell? ⟨w.heap.size, 1, none⟩ = some (.slice A2 n2 c2)) := Lib.hid ⟨(HBb.out.cell (p := ⟨w.heap.size, 0, none⟩) lp).trans p0, (HBb.out.cell (p := ⟨w.heap.size, 1, none⟩) lp).trans p1⟩; clear hb ho hd))
  all_goals
    have hr2 := (HR1b.out.set_ 0 (.slice E1 n1 d1)).set_ 1 (.slice E2 n2 d2)
    have z0 := hr2.cell 0
    have z1 := hr2.cell 1
    simp only [List.set_cons_zero, List.set_cons_succ, List.getElem?_cons_zero, List.getElem?_cons_succ] at z0 z1
    have HT2 : Twin w n1 n2 s1 s2 E1 E2 d1 d2 ((wb.setCell ⟨w.heap.size + 1, 0, none⟩ (.slice E1 n1 d1)).setCell ⟨w.heap.size + 1, 1, none⟩ (.slice E2 n2 d2)) := HTW.out.over HB0.out HR1b.out (Nat.le_succ _) _ _
    clear q0 q1 f0 f1 lq hr2
    go_wp2_with fail
    refine bodyPost_ret (v := .agg #[.slice E1 n1 d1, .slice E2 n2 d2]) (by simp [results, Tryz.results52, go_sem, z0, z1]) rfl ⟨E1, E2, d1, d2, rfl, HT2⟩
end Bu
end Go.Proofs.YtfpofaniicegaaaGreat

/- The walks of Bus, the meter, Kept, Where. -/
set_option linter.unusedVariables false
set_option linter.unusedSimpArgs false
namespace Go.Proofs.YtfpofaniicegaaaGreat
open Go.RowKit
open S64
namespace Bu
theorem Twin.base {w w1 wb : World} {n1 n2 : Nat} {s1 s2 : Sp.S} {E1 E2 : Option Addr} {d1 d2 : Nat} (h : Twin w1 n1 n2 s1 s2 E1 E2 d1 d2 wb) (hb : Below w.heap.size w w1) : Twin w n1 n2 s1 s2 E1 E2 d1 d2 wb :=
  ⟨h.own1.mono hb.size, h.own2.mono hb.size, h.cap1, h.cap2, h.nil1, h.nil2, h.apart, hb.trans (h.bel.mono hb.size)⟩
theorem loads_any (Z R : Nat → Prop) (M : PM) (A1 A2 Ao : Option Addr) (x1 x2 no co b : Nat) (pm : Nat → Option Nat) (sp : Sp.S) (g : Nat) (w : World) (hm : MachAt Z R w g M A1 A2 Ao x1 x2 no co b pm sp) :
    Calls Tryz.prog 33 #[.pointer (some ⟨g, 0, none⟩)] w fun e w' => e = .returned (.int .i64 M.loads) ∧ w = w' := by
  have p0 := hm.row.cell 0
  have lg := hm.row.lt
  simp only [List.getElem?_cons_zero, List.getElem?_cons_succ] at p0
  clear hm
  go_enter Tryz.func33, Tryz.ntmps33
  go_wp2_with fail
  go_ret
  exact ⟨rfl, rfl⟩
theorem stores_any (Z R : Nat → Prop) (M : PM) (A1 A2 Ao : Option Addr) (x1 x2 no co b : Nat) (pm : Nat → Option Nat) (sp : Sp.S) (g : Nat) (w : World) (hm : MachAt Z R w g M A1 A2 Ao x1 x2 no co b pm sp) :
    Calls Tryz.prog 34 #[.pointer (some ⟨g, 0, none⟩)] w fun e w' => e = .returned (.int .i64 M.stores) ∧ w = w' := by
  have p0 := hm.row.cell 1
  have lg := hm.row.lt
  simp only [List.getElem?_cons_zero, List.getElem?_cons_succ] at p0
  clear hm
  go_enter Tryz.func34, Tryz.ntmps34
  go_wp2_with fail
  go_ret
  exact ⟨rfl, rfl⟩
theorem MachAt.some_iff {Z R : Nat → Prop} {w : World} {g : Nat} {M : PM} {A1 A2 Ao : Option Addr} {c1 c2 no co b : Nat} {pm : Nat → Option Nat} {sp : Sp.S} (h : MachAt Z R w g M A1 A2 Ao c1 c2 no co b pm sp) (k : Nat) : (pm k).isSome = true ↔ nz M.mem k := by
  cases hk : pm k with
  | none =>
    constructor
    · intro h; cases h
    · rintro ⟨i, hi, hn⟩; exact absurd (h.zero k hk i hi) hn
  | some p => exact ⟨fun _ => (h.leaf k p hk).2.2, fun _ => rfl⟩
set_option maxRecDepth 100000 in
theorem kept_any (Z R : Nat → Prop) (M : PM) (A1 A2 Ao : Option Addr) (x1 x2 no co b : Nat) (pm : Nat → Option Nat) (sp : Sp.S) (g : Nat) (ks : List Nat) (w : World) (hm : MachAt Z R w g M A1 A2 Ao x1 x2 no co b pm sp) (hn : ks.Nodup) (hk : ∀ k, k ∈ ks ↔ nz M.mem k) :
    Calls Tryz.prog 31 #[.pointer (some ⟨g, 0, none⟩)] w fun e w' => e = .returned (.int .i64 (ks.length : Nat)) ∧ w = w' := by
  have p0 := hm.row.cell 6
  have lg := hm.row.lt
  obtain ⟨D, n, ho, hp⟩ := hm.map.1
  have hsz := hp.size (ho.canon keyed64) ks hn (fun k => by rw [hk k, hm.some_iff k])
  simp only [List.getElem?_cons_zero, List.getElem?_cons_succ] at p0
  have HO := Lib.hid ho; have HS := Lib.hid hsz
  clear hm hn hk ho hp hsz
  go_enter Tryz.func31, Tryz.ntmps31
  go_wp2_with (at_len; refine wpList_len_own _ rfl _ 87 rfl 31 153 Tryz.underlying87 _ b n D rfl HO.out ?_)
  go_ret
  exact ⟨by rw [HS.out]; rfl, rfl⟩
/-- does a range hold an address? -/
def inR (at_ : Nat) (r : Nat × Nat) : Bool := decide (r.1 ≤ at_ ∧ at_ < r.1 + r.2)
/-- the k-th of the lists that Where goes through -/
def lst3 (M : PM) (k : Nat) : List (Nat × Nat) := match k with
  | 1 => M.rams
  | 2 => M.devs
  | _ => []
/-- where an address lies, the lists from the (3 - f)-th on asked -/
def spotF (M : PM) (at_ : Nat) : Nat → Option (Nat × Nat × Nat)
  | 0 => none
  | f + 1 => match (lst3 M (2 - f)).findIdx? (inR at_) with
    | some i => some (2 - f, i, at_ - ((lst3 M (2 - f)).getD i (0, 0)).1)
    | none => spotF M at_ f
def spotV : Option (Nat × Nat × Nat) → Value
  | some (k, i, o) => .agg #[.int .i64 (k : Nat), .int .i64 (i : Nat), .int .u64 (o : Nat)]
  | none => .agg #[.int .i64 0, .int .i64 0, .int .u64 0]
theorem spotF_found {M : PM} {at_ k i : Nat} {r : Nat × Nat} (hk : k < 3) (hi : (lst3 M k)[i]? = some r) (hr : inR at_ r = true) (hb : ∀ (j : Nat) (x : Nat × Nat), j < i → (lst3 M k)[j]? = some x → inR at_ x = false) : spotF M at_ (3 - k) = some (k, i, at_ - r.1) := by
  obtain ⟨f, hf⟩ : ∃ f, 3 - k = f + 1 := ⟨2 - k, by omega⟩
  rw [hf, spotF, show 2 - f = k by omega]
  have : (lst3 M k).findIdx? (inR at_) = some i := by
    rw [List.findIdx?_eq_some_iff_getElem]
    obtain ⟨hl, he⟩ := List.getElem?_eq_some_iff.1 hi
    refine ⟨hl, by rw [he]; exact hr, fun j hj => ?_⟩
    have := hb j _ hj (List.getElem?_eq_getElem (by omega))
    rw [this]; decide
  rw [this]
  simp only [List.getD_eq_getElem?_getD, hi, Option.getD_some]
theorem spotF_next {M : PM} {at_ k : Nat} (hk : k < 3) (hb : ∀ (j : Nat) (x : Nat × Nat), (lst3 M k)[j]? = some x → inR at_ x = false) : spotF M at_ (3 - k) = spotF M at_ (3 - (k + 1)) := by
  obtain ⟨f, hf⟩ : ∃ f, 3 - k = f + 1 := ⟨2 - k, by omega⟩
  rw [hf, spotF, show 2 - f = k by omega, show 3 - (k + 1) = f by omega]
  have : (lst3 M k).findIdx? (inR at_) = none := by
    rw [List.findIdx?_eq_none_iff]
    intro x hx
    obtain ⟨j, hj⟩ := List.getElem?_of_mem hx
    exact hb j x hj
  rw [this]
/-- what Where tells -/
def WhereSaid (w : World) (s : Option (Nat × Nat × Nat)) (e : Ending) (w' : World) : Prop := e = .returned (.tuple #[spotV s, .bool s.isSome]) ∧ Below w.heap.size w w'
/-- a range of the machine ends below 2^32 -/
theorem MachAt.ends {Z R : Nat → Prop} {w : World} {g : Nat} {M : PM} {A1 A2 Ao : Option Addr} {c1 c2 no co b : Nat} {pm : Nat → Option Nat} {sp : Sp.S} (h : MachAt Z R w g M A1 A2 Ao c1 c2 no co b pm sp) {k : Nat} {r : Nat × Nat} (hr : r ∈ lst3 M k) : r.2 = 0 ∨ r.1 + r.2 ≤ 4294967296 := by
  rcases Nat.eq_zero_or_pos r.2 with h0 | h0
  · exact .inl h0
  refine .inr ?_
  have hm : r ∈ M.rams ++ M.devs := by
    unfold lst3 at hr
    split at hr
    · exact List.mem_append_left _ hr
    · exact List.mem_append_right _ hr
    · cases hr
  have := h.lim (r.1 + r.2 - 1) (List.any_eq_true.2 ⟨r, hm, by simp; omega⟩)
  omega
end Bu
end Go.Proofs.YtfpofaniicegaaaGreat
