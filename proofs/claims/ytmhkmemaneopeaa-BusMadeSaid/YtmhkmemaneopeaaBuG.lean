/- The walks of what the statements without the document's own answers lean on: Within, wide, inside, all, ground. -/
import Derived.Test.YtmhkmemaneopeaaBusN
set_option linter.unusedVariables false
set_option linter.unusedSimpArgs false
namespace Go.Proofs.Ytmhkmemaneopeaa
open Go.RowKit
open S64
namespace Bu
set_option maxRecDepth 100000 in
theorem within_any (n : Int) (k : Nat) (w : World) (hn : -9223372036854775808 ≤ n ∧ n ≤ 9223372036854775807) (hk : k ≤ 4611686018427387903) :
    Calls Try.prog 20 #[.int .i64 n, .int .i64 0, .int .i64 k] w fun e w' => (∃ x : Nat, e = .returned (.int .i64 x) ∧ x ≤ k) ∧ w = w' := by
  obtain ⟨r, hr⟩ : ∃ r, r = n.tmod ((k : Int) + 1) := ⟨_, rfl⟩
  have hlo : -((k : Int) + 1) < r := by rw [hr]; exact Int.lt_tmod_of_pos n (by omega)
  have hhi : r < (k : Int) + 1 := by rw [hr]; exact Int.tmod_lt_of_pos n (by omega)
  have hr2 := hr.symm
  have h0 : (((k : Int) + 1) == 0) = false := by simp; omega
  clear hr
  by_cases h : r < 0
  · go_enter Try.func20, Try.ntmps20
    go_wp2_with fail
    go_ret
    exact ⟨⟨(r + (k : Int) + 1).toNat, by simp; omega, by omega⟩, rfl⟩
  · go_enter Try.func20, Try.ntmps20
    go_wp2_with fail
    go_ret
    exact ⟨⟨r.toNat, by simp; omega, by omega⟩, rfl⟩
/-- is a whole access on the ground? -/
def inB (a k : Nat) : Bool := decide (8192 ≤ a ∧ a + k ≤ 24576)
def Wid (k : Nat) : Prop := k = 1 ∨ k = 2 ∨ k = 4 ∨ k = 8
def WidSaid (w : World) (e : Ending) (w' : World) : Prop := ∃ k, Wid k ∧ e = .returned (.int .i64 (k : Nat)) ∧ Below w.heap.size w w'
set_option maxRecDepth 100000 in
theorem widen_any (n : Int) (w : World) (hn : -9223372036854775808 ≤ n ∧ n ≤ 9223372036854775807) :
    Calls Try.prog 26 #[.int .i64 n] w (WidSaid w) := by
  have HW : Hid (∀ wx, Calls Try.prog 20 #[.int .i64 n, .int .i64 0, .int .i64 3] wx fun e w' => (∃ x : Nat, e = .returned (.int .i64 x) ∧ x ≤ 3) ∧ wx = w') := Lib.hid (fun wx => within_any n 3 wx hn (by omega))
  clear hn
  go_enter Try.func26, Try.ntmps26
  go_wp2_with fail
  refine (HW.out _).mono ?_
  rintro e w' ⟨⟨x, rfl, hx⟩, rfl⟩
  have hr : Row (w.alloc (.cells #[.int .i64 1, .int .i64 2, .int .i64 4, .int .i64 8] 3)) w.heap.size 3 [.int .i64 1, .int .i64 2, .int .i64 4, .int .i64 8] := Row.new w _ [.int .i64 1, .int .i64 2, .int .i64 4, .int .i64 8]
  have hb : Below w.heap.size w (w.alloc (.cells #[.int .i64 1, .int .i64 2, .int .i64 4, .int .i64 8] 3)) := (Below.refl _ _).alloc (Nat.le_refl _) _
  have HX : Hid (∃ k, Wid k ∧ [Value.int .i64 1, .int .i64 2, .int .i64 4, .int .i64 8][x]? = some (.int .i64 (k : Nat))) := Lib.hid (by
    match x, hx with
    | 0, _ => exact ⟨1, .inl rfl, rfl⟩
    | 1, _ => exact ⟨2, .inr (.inl rfl), rfl⟩
    | 2, _ => exact ⟨4, .inr (.inr (.inl rfl)), rfl⟩
    | 3, _ => exact ⟨8, .inr (.inr (.inr rfl)), rfl⟩)
  obtain ⟨k, hk, hkx⟩ := HX.out
  have c0 := hr.cell x
  rw [hkx] at c0
  have lr := hr.lt
  have HB := Lib.hid hb; have HK := Lib.hid hk
  clear hr hb hk hkx HX
  generalize w.alloc (.cells #[.int .i64 1, .int .i64 2, .int .i64 4, .int .i64 8] 3) = w1 at *
  go_wp2_with fail
  go_ret
  exact ⟨k, HK.out, rfl, HB.out⟩
set_option maxRecDepth 100000 in
theorem inside_any (a k : Nat) (w : World) (ha : a ≤ TOP) (hk : k ≤ 24576) :
    Calls Try.prog 23 #[.int .u64 (a : Nat), .int .i64 (k : Nat)] w fun e w' => e = .returned (.bool (inB a k)) ∧ w = w' := by
  unfold TOP at ha
  by_cases h1 : 8192 ≤ a
  · by_cases h2 : a + k ≤ 24576
    · have HD : Hid (inB a k = true) := Lib.hid (decide_eq_true (show 8192 ≤ a ∧ a + k ≤ 24576 from ⟨h1, h2⟩))
      have h3 : decide ((a : Int) ≤ 24576 - (k : Int)) = true := decide_eq_true (by omega)
      have h4 : (8192 : Int) ≤ (a : Int) := by omega
      have h5 : (0 : Int) ≤ 24576 - (k : Int) := by omega
      clear h1 h2 ha
      go_enter Try.func23, Try.ntmps23
      go_wp2_with fail
      go_ret
      exact ⟨by rw [HD.out]; rfl, rfl⟩
    · have HD : Hid (inB a k = false) := Lib.hid (decide_eq_false (show ¬ (8192 ≤ a ∧ a + k ≤ 24576) from fun h => h2 h.2))
      have h3 : decide ((a : Int) ≤ 24576 - (k : Int)) = false := decide_eq_false (by omega)
      have h4 : (8192 : Int) ≤ (a : Int) := by omega
      have h5 : (0 : Int) ≤ 24576 - (k : Int) := by omega
      clear h1 h2 ha
      go_enter Try.func23, Try.ntmps23
      go_wp2_with fail
      go_ret
      exact ⟨by rw [HD.out]; rfl, rfl⟩
  · have HD : Hid (inB a k = false) := Lib.hid (decide_eq_false (show ¬ (8192 ≤ a ∧ a + k ≤ 24576) from fun h => h1 h.1))
    have h4 : (a : Int) < 8192 := by omega
    clear h1 ha
    go_enter Try.func23, Try.ntmps23
    go_wp2_with fail
    go_ret
    exact ⟨by rw [HD.out]; rfl, rfl⟩
def gR : Sp.S := [(8192, 4096), (12288, 8192)]
def gD : Sp.S := [(20480, 4096)]
theorem g_new : newE gR gD = 0 := by decide +kernel
theorem g_on (p : Nat) : on (gR ++ gD) p = decide (8192 ≤ p ∧ p < 24576) := by
  rw [Bool.eq_iff_iff]
  simp [on, gR, gD]
  omega
/-- an access that is wholly on the ground -/
theorem g_in {a k : Nat} (h : 8192 ≤ a ∧ a + k ≤ 24576) : OffIs (gR ++ gD) a k none := fun p h1 h2 => by rw [g_on]; exact decide_eq_true (by omega)
/-- the first byte of an access that is off the ground -/
def gOff (a : Nat) : Nat := if a < 8192 ∨ 24576 ≤ a then a else 24576
theorem g_out {a k : Nat} (ha : a ≤ TOP) (h0 : 0 < k) (h : ¬ (8192 ≤ a ∧ a + k ≤ 24576)) : OffIs (gR ++ gD) a k (some (gOff a)) := by
  unfold gOff
  split
  · exact ⟨Nat.le_refl _, by omega, by rw [g_on]; exact decide_eq_false (by omega), ha, fun p h1 h2 => by omega⟩
  · exact ⟨by omega, by omega, by rw [g_on]; exact decide_eq_false (by omega), by decide, fun p h1 h2 => by rw [g_on]; exact decide_eq_true (by omega)⟩
theorem idx_byte (w : World) (b o n c k : Nat) (hk : k < n) (hn : n ≤ 9223372036854775807) : (Instr.indexAt 52 (.slice (some ⟨b, o, none⟩) n c) (.int .i64 (k : Nat))).run Try.prog w = .ok (.pointer (some ⟨b, o + k, none⟩)) w := by
  have h1 : (k : Int) < (n : Int) := by omega
  go_simp
/-- all bytes of a machine on the ground -/
def allB (M : PM) : List Nat := memB M.mem 8192 16384
/-- what all leaves -/
def AllSaid (Z R : Nat → Prop) (w : World) (g : Nat) (M : PM) (e : Ending) (w' : World) : Prop :=
  ∃ bb, e = .returned (.slice (some ⟨bb, 0, none⟩) 16384 16384) ∧ w.heap.size ≤ bb ∧ Row w' bb 5 ((allB M).map u8) ∧ (∀ b ∈ allB M, b < 256) ∧ MZ Z R w' g M ∧ ChgP Z w w'
theorem read_g {Z R : Nat → Prop} {M : PM} {g : Nat} {w : World} (h : MZ Z R w g M) (hr : M.rams = gR) (hd : M.devs = gD) (hs : M.strays < 9223372036854775807) :
    Calls Try.prog 41 #[.pointer (some ⟨g, 0, none⟩), .int .u64 8192, .int .i64 16384] w fun e w' => ∃ bb, e = .returned (.tuple #[.slice (some ⟨bb, 0, none⟩) 16384 16384, .agg #[.int .i64 0, .int .u64 0]]) ∧ w.heap.size ≤ bb ∧ Row w' bb 5 ((allB M).map u8) ∧ (∀ b ∈ allB M, b < 256) ∧ MZ Z R w' g M ∧ ChgP Z w w' := by
  refine (read_m (n := 16384) (at_ := 8192) (F := none) h (by omega) (by decide) hs (by rw [hr, hd]; exact g_in ⟨by omega, by omega⟩)).mono ?_
  rintro e w' ⟨⟨hm, hc⟩, bb, he, h1, h2, h3⟩
  exact ⟨bb, he, h1, h2, h3, hm, hc⟩
set_option maxRecDepth 100000 in
set_option maxHeartbeats 1000000 in
theorem all_g {Z R : Nat → Prop} {M : PM} {g : Nat} {w : World} (h : MZ Z R w g M) (hr : M.rams = gR) (hd : M.devs = gD) (hs : M.strays < 9223372036854775807) :
    Calls Try.prog 21 #[.pointer (some ⟨g, 0, none⟩)] w (AllSaid Z R w g M) := by
  have HR := Lib.hid (read_g h hr hd hs)
  have HZ := Lib.hid h.z
  clear h hr hd hs
  go_enter Try.func21, Try.ntmps21
  go_upto_region 2 with (go_at_call 41; refine HR.out.mono ?_; rintro e w1 ⟨bb, rfl, h1, h2, h3, h4, h5⟩; have H1 := Lib.hid h1; have H2 := Lib.hid h2; have H3 := Lib.hid h3; have H4 := Lib.hid h4; have H5 := Lib.hid h5; clear h1 h2 h3 h4 h5)
  have hra : Row (w1.alloc (.cells #[.int .i64 0, .int .u64 0] 42)) w1.heap.size 42 [.int .i64 0, .int .u64 0] := Row.new w1 42 [.int .i64 0, .int .u64 0]
  have HM2 := Lib.hid (H4.out.below ((Below.refl _ _).alloc (Nat.le_refl _) (.cells #[.int .i64 0, .int .u64 0] 42)))
  have HC2 := Lib.hid (H5.out.alloc (.cells #[.int .i64 0, .int .u64 0] 42))
  have HB2 := Lib.hid (H2.out.alloc (.cells #[.int .i64 0, .int .u64 0] 42))
  obtain ⟨ba, hba⟩ : ∃ ba, ba = w1.heap.size := ⟨_, rfl⟩
  generalize w1.alloc (.cells #[.int .i64 0, .int .u64 0] 42) = w2 at *
  rw [← hba] at hra ⊢
  clear hba
  have a0 := hra.cell 0
  have la := hra.lt
  simp only [List.getElem?_cons_zero] at a0
  clear hra
  go_wp2_with fail
  go_ret
  exact ⟨bb, rfl, H1.out, HB2.out, H3.out, HM2.out, HC2.out⟩
/-- the ground's bytes: k bytes of the text laid -/
def gMem (bs : List Nat) : Nat → Nat → Nat
  | 0 => fun _ => 0
  | k + 1 => layM (gMem bs k) (8192 + 163 * k) 1 (byteOf (bs.getD k 0))
def gm (bs : List Nat) (k : Nat) : PM := ⟨gR, gD, gMem bs k, 0, k, 0⟩
/-- what ground leaves -/
def GroundSaid (w : World) (bs : List Nat) (k : Nat) (e : Ending) (w' : World) : Prop :=
  ∃ g Z R, e = .returned (.pointer (some ⟨g, 0, none⟩)) ∧ MZ Z R w' g (gm bs k) ∧ (∀ x, Z x ∨ R x → w.heap.size ≤ x) ∧ Below w.heap.size w w'
def GI (w : World) (bs : List Nat) (g : Nat) (R : Nat → Prop) (k : Nat) (wr : World) : Prop := ∃ Z, MZ Z R wr g (gm bs k) ∧ (∀ x, Z x → w.heap.size ≤ x) ∧ Below w.heap.size w wr
set_option maxRecDepth 100000 in
set_option maxHeartbeats 1000000 in
theorem ground_any (A : Option Addr) (n c : Nat) (bs : List Nat) (w : World) (hb : IsB w w.heap.size A n bs) :
    Calls Try.prog 19 #[.slice A n c] w (GroundSaid w bs (min n 100)) := by
  have HIB := Lib.hid hb
  have hn63 := hb.2.2
  obtain ⟨tb, toff, HF⟩ := hb.form
  have HNW : Hid (∀ (wx : World) (a b : Nat), Row wx a 31 [.int .u64 8192, .int .u64 4096, .int .u64 12288, .int .u64 8192] → Row wx b 31 [.int .u64 20480, .int .u64 4096] → Calls Try.prog 29 #[.agg #[.slice (some ⟨a, 0, none⟩) 2 2, .slice (some ⟨b, 0, none⟩) 1 1]] wx (NewSaid wx gR gD)) := Lib.hid (fun wx a b ha hb =>
    new_any _ _ 2 1 2 1 gR gD wx (isS_row (s := gR) ha rfl (by omega)) (isS_row (s := gD) hb rfl (by omega)) (by decide) (by decide))
  clear hb
  go_enter Try.func19, Try.ntmps19
  go_wp2_with fail
  have hr2 : Row ((w.alloc (.cells #[.int .u64 8192, .int .u64 4096, .int .u64 12288, .int .u64 8192] 31)).alloc (.cells #[.int .u64 20480, .int .u64 4096] 31)) (w.heap.size + 1) 31 [.int .u64 20480, .int .u64 4096] := by
    have h := Row.new (w.alloc (.cells #[.int .u64 8192, .int .u64 4096, .int .u64 12288, .int .u64 8192] 31)) 31 [.int .u64 20480, .int .u64 4096]
    rw [sz_alloc] at h
    exact h
  have hr1 : Row ((w.alloc (.cells #[.int .u64 8192, .int .u64 4096, .int .u64 12288, .int .u64 8192] 31)).alloc (.cells #[.int .u64 20480, .int .u64 4096] 31)) w.heap.size 31 [.int .u64 8192, .int .u64 4096, .int .u64 12288, .int .u64 8192] := (Row.new w _ [.int .u64 8192, .int .u64 4096, .int .u64 12288, .int .u64 8192]).alloc _
  have hb0 : Below w.heap.size w ((w.alloc (.cells #[.int .u64 8192, .int .u64 4096, .int .u64 12288, .int .u64 8192] 31)).alloc (.cells #[.int .u64 20480, .int .u64 4096] 31)) := ((Below.refl _ _).alloc (Nat.le_refl _) _).alloc (by simp) _
  have HR1 := Lib.hid hr1; have HR2 := Lib.hid hr2; have HB0 := Lib.hid hb0
  clear hr1 hr2 hb0
  generalize (w.alloc (.cells #[.int .u64 8192, .int .u64 4096, .int .u64 12288, .int .u64 8192] 31)).alloc (.cells #[.int .u64 20480, .int .u64 4096] 31) = w0 at *
  refine (HNW.out w0 w.heap.size (w.heap.size + 1) HR1.out HR2.out).mono ?_
  intro e w1 hn
  obtain ⟨hb1, g, Z, R, rfl, hm1, hzr⟩ := hn.mz g_new
  have HI0 : Hid (GI w bs g R 0 w1) := Lib.hid ⟨Z, hm1, fun x hx => Nat.le_trans HB0.out.size (hzr x (.inl hx)), HB0.out.trans (hb1.mono HB0.out.size)⟩
  have HRG : Hid (∀ x, R x → w.heap.size ≤ x) := Lib.hid (fun x hx => Nat.le_trans HB0.out.size (hzr x (.inr hx)))
  clear hn hb1 hm1 hzr HR1 HR2 HB0 HNW
  go_wp2_with fail
  go_loopw [5] (fun i wr => ∃ k : Nat, k ≤ n ∧ k ≤ 100 ∧ i = .int .i64 (k : Nat) ∧ Hid (GI w bs g R k wr)) (fun i _ => 100 - (intOf i).toNat)
  case atStart => exact ⟨0, by omega, by omega, rfl, HI0⟩
  case round =>
    obtain ⟨k, hk, hk2, rfl, HI⟩ := hrel
    by_cases h1 : k < n
    · by_cases h2 : k < 100
      · obtain ⟨Z1, hm, hz, hb⟩ := HI.out
        obtain ⟨hA, hbl, hcell⟩ := HF.out (by omega)
        obtain ⟨ad, had⟩ : ∃ ad, ad = (⟨tb, toff, none⟩ : Addr) := ⟨_, rfl⟩
        have hAH := Lib.hid hA
        obtain ⟨v, hv⟩ : ∃ v, v = bs.getD k 0 := ⟨_, rfl⟩
        have hcv := (hb.cell (p := ⟨tb, toff + k, none⟩) hbl).trans (hcell k h1)
        rw [← hv] at hcv
        have hv8 : v < 256 := by rw [hv]; exact getD_lt HIB.out.2.1 k
        have hix : ∀ wx : World, (Instr.indexAt 52 (.slice A n c) (.int .i64 (k : Nat))).run Try.prog wx = .ok (.pointer (some ⟨tb, toff + k, none⟩)) wx := fun wx => by
          rw [hAH.out]
          exact idx_byte wx tb toff n c k h1 hn63
        obtain ⟨a, ha⟩ : ∃ a, a = 8192 + 163 * k := ⟨_, rfl⟩
        have ha2 : a ≤ 24329 := by omega
        have e1 : (8192 : Int) + 163 * (k : Int) = (a : Int) := by omega
        have e2 : IntKind.i64.wrap (a : Int) = (a : Int) := by rw [IntKind.wrap_i64]; omega
        have lt1 : tb < wr.heap.size := Nat.lt_of_lt_of_le hbl hb.size
        have HNXT : Hid (Calls Try.prog 27 #[.pointer (some ⟨g, 0, none⟩), .int .u64 (a : Nat), .int .i64 1, .int .u64 (v : Nat)] wr fun e w' => e = .returned (.agg #[.int .i64 0, .int .u64 0]) ∧ GI w bs g R (k + 1) w') := Lib.hid (by
          refine (store_m (n := 1) (at_ := a) (v := v) (F := none) hm (by omega) (by unfold TOP; omega) (show k < 9223372036854775807 by omega) (by unfold TOP; omega) (show 0 < 9223372036854775807 by decide) (g_in ⟨by omega, by omega⟩)).mono ?_
          rintro e w' ⟨he, Z', hm', hc', hz'⟩
          refine ⟨he, Z', ?_, fun x hx => ?_, hb.trans (hc'.below hb.size hz)⟩
          · have : laidM (gm bs k) a 1 (byteOf v) 1 none = gm bs (k + 1) := by rw [ha, hv]; rfl
            rw [← this]; exact hm'
          · rcases hz' x hx with h | h
            · exact hz x h
            · exact Nat.le_trans hb.size h)
        clear hm hz hb hA had hcell ha hv HI
        go_wp2_with fail
        refine HNXT.out.mono ?_
        rintro e w2 ⟨rfl, hi⟩
        have HI2 := Lib.hid hi
        clear hi HNXT
        go_wp2_with fail
        go_roundw
        case rel => exact ⟨k + 1, by omega, by omega, by go_num, HI2⟩
        case measure => simp [intOf]; omega
      · obtain ⟨Z1, hm, hz, hb⟩ := HI.out
        have HK : Hid (k = min n 100) := Lib.hid (by omega)
        have HM := Lib.hid hm; have HZ := Lib.hid hz; have HB := Lib.hid hb
        clear hm hz hb
        go_wp2_with fail
        go_ret
        exact ⟨g, Z1, R, rfl, by rw [← HK.out]; exact HM.out, fun x hx => by rcases hx with h | h; exact HZ.out x h; exact HRG.out x h, HB.out⟩
    · obtain ⟨Z1, hm, hz, hb⟩ := HI.out
      have HK : Hid (k = min n 100) := Lib.hid (by omega)
      have HM := Lib.hid hm; have HZ := Lib.hid hz; have HB := Lib.hid hb
      clear hm hz hb
      go_wp2_with fail
      go_ret
      exact ⟨g, Z1, R, rfl, by rw [← HK.out]; exact HM.out, fun x hx => by rcases hx with h | h; exact HZ.out x h; exact HRG.out x h, HB.out⟩
end Bu
end Go.Proofs.Ytmhkmemaneopeaa
