/- The walks of a set's questions: find, Next, Touches; and of With and Less. -/
import Derived.Test.YtchajbegjajlkaaSpY8
import Derived.Deep.RegionHeld3
set_option linter.unusedVariables false
set_option linter.unusedSimpArgs false
namespace Go.Proofs.Ytchajbegjajlkaa
open Go.RowKit
namespace S8
/-- a set by value -/
def setV (A : Option Addr) (n c : Nat) : Value := .agg #[.slice A n c]
/-- a set, read -/
def IsSet (w : World) (A : Option Addr) (n c : Nat) (s : Sp.S) : Prop := IsS w w.heap.size A n s ∧ n ≤ c ∧ c ≤ 9223372036854775807 ∧ Sp.Nrm TOP s ∧ n ≤ 2199023255552
theorem IsSet.below {w w' : World} {A : Option Addr} {n c : Nat} {s : Sp.S} (h : IsSet w A n c s) (hb : Below w.heap.size w w') : IsSet w' A n c s := ⟨(h.1.below hb).more hb.size, h.2⟩
theorem IsSet.nil (w : World) : IsSet w none 0 0 [] := ⟨IsS.none_, by omega, by omega, Sp.Nrm.nil _, by omega⟩
theorem OwnS.isSet {w : World} {B n c : Nat} {A : Option Addr} {s : Sp.S} (h : OwnS w B A n c s) (hn : Sp.Nrm TOP s) (hl : n ≤ 2199023255552) : IsSet w A n c s := by
  have hc : n ≤ c ∧ c ≤ 9223372036854775807 := by
    rcases h.1.2 with ⟨h1, h2⟩ | ⟨g, cap, cur, h1, _, _, h3, h4, _⟩
    · injection h1 with _ _ h1; omega
    · injection h1 with _ _ h1; unfold maxLen at h4; omega
  exact ⟨⟨Reads.of_own h.1, h.2, by omega⟩, hc.1, hc.2, hn, hl⟩
/-- what a set's making leaves -/
def Made (w : World) (f : Bool → Bool → Bool) (s t : Sp.S) (e : Ending) (w' : World) : Prop := ∃ A n c out, e = .returned (setV A n c) ∧ OwnS w' w.heap.size A n c out ∧ Sp.Mk TOP f s t out ∧ Below w.heap.size w w'
set_option maxRecDepth 100000 in
set_option maxHeartbeats 1000000 in
theorem or_any (A A' : Option Addr) (n c n' c' : Nat) (s t : Sp.S) (w : World) (hs : IsSet w A n c s) (ht : IsSet w A' n' c' t) (hsm : n + n' ≤ 2199023255552) :
    Calls Try.prog 24 #[setV A n c, setV A' n' c'] w (Made w (fun a b => a || b) s t) := by
  unfold setV
  have HM : Hid (∀ wx, Below w.heap.size w wx → Calls Try.prog 43 #[.agg #[.slice A n c], .agg #[.slice A' n' c'], .func (.func 44) #[] #[]] wx fun e w' => ∃ Ao no co out, e = .returned (.agg #[.slice Ao no co]) ∧ OwnS w' wx.heap.size Ao no co out ∧ Sp.Mk TOP (fun a b => a || b) s t out ∧ Below wx.heap.size wx w') := Lib.hid fun wx hb =>
    make_or _ A A' n c n' c' s t wx or_keeps ((hs.1.below hb).more hb.size) ((ht.1.below hb).more hb.size) hs.2.1 hs.2.2.1 ht.2.1 ht.2.2.1 hs.2.2.2.1 ht.2.2.2.1 hsm
  clear hs ht
  go_enter Try.func24, Try.ntmps24
  go_upto_region 1 with fail
  have hb3 : Below w.heap.size w (((w.alloc (.cells #[.slice A n c] 43)).alloc (.cells #[.slice A' n' c'] 43)).alloc (.cells #[.slice none 0 0] 43)) := (((Below.refl _ _).alloc (Nat.le_refl _) _).alloc (by simp) _).alloc (by simp; omega) _
  have r2 : Row (((w.alloc (.cells #[.slice A n c] 43)).alloc (.cells #[.slice A' n' c'] 43)).alloc (.cells #[.slice none 0 0] 43)) (w.heap.size + 1 + 1) 43 [.slice none 0 0] := by
    have h := Row.new ((w.alloc (.cells #[.slice A n c] 43)).alloc (.cells #[.slice A' n' c'] 43)) 43 [.slice none 0 0]
    rw [show ((w.alloc (.cells #[.slice A n c] 43)).alloc (.cells #[.slice A' n' c'] 43)).heap.size = w.heap.size + 1 + 1 by simp] at h
    exact h
  have HB3 := Lib.hid hb3; have HR2 := Lib.hid r2
  clear hb3 r2
  go_wp2_with fail
  refine (HM.out _ HB3.out).mono ?_
  rintro e w4 ⟨Ao, no, co, out, rfl, hown, hmk, hb4⟩
  have hr4 := HR2.out.below hb4 HR2.out.lt
  have z0 := hr4.cell 0
  have z1 := hr4.frozen 0
  have zl := hr4.lt
  simp only [List.getElem?_cons_zero] at z0
  have HR4 : Hid (Row (w4.setCell ⟨w.heap.size + 1 + 1, 0, none⟩ (.slice Ao no co)) (w.heap.size + 1 + 1) 43 [.slice Ao no co]) := Lib.hid (hr4.set_ 0 _)
  have z2 := HR4.out.cell 0
  simp only [List.getElem?_cons_zero] at z2
  have HO : Hid (OwnS (w4.setCell ⟨w.heap.size + 1 + 1, 0, none⟩ (.slice Ao no co)) w.heap.size Ao no co out) := Lib.hid ⟨own_setr (own_monor hown.1 HB3.out.size) hr4 (by decide) 0 _, hown.2⟩
  have HBB : Hid (Below w.heap.size w (w4.setCell ⟨w.heap.size + 1 + 1, 0, none⟩ (.slice Ao no co))) := Lib.hid ((HB3.out.trans (hb4.mono HB3.out.size)).setCell (p := ⟨w.heap.size + 1 + 1, 0, none⟩) (Nat.le_trans (Nat.le_succ _) (Nat.le_succ _)) _)
  have HMK := Lib.hid hmk
  clear hown hmk hb4 hr4 HM HB3 HR2
  go_wp2_with fail
  refine bodyPost_ret (v := .agg #[.slice Ao no co]) (by simp [results, Try.results24, go_sem, z2]) rfl ⟨Ao, no, co, out, rfl, HO.out, HMK.out, HBB.out⟩
set_option maxRecDepth 100000 in
set_option maxHeartbeats 1000000 in
theorem less_any (A A' : Option Addr) (n c n' c' : Nat) (s t : Sp.S) (w : World) (hs : IsSet w A n c s) (ht : IsSet w A' n' c' t) (hsm : n + n' ≤ 2199023255552) :
    Calls Try.prog 27 #[setV A n c, setV A' n' c'] w (Made w (fun a b => a && !b) s t) := by
  unfold setV
  have HM : Hid (∀ wx, Below w.heap.size w wx → Calls Try.prog 43 #[.agg #[.slice A n c], .agg #[.slice A' n' c'], .func (.func 46) #[] #[]] wx fun e w' => ∃ Ao no co out, e = .returned (.agg #[.slice Ao no co]) ∧ OwnS w' wx.heap.size Ao no co out ∧ Sp.Mk TOP (fun a b => a && !b) s t out ∧ Below wx.heap.size wx w') := Lib.hid fun wx hb =>
    make_less _ A A' n c n' c' s t wx less_keeps ((hs.1.below hb).more hb.size) ((ht.1.below hb).more hb.size) hs.2.1 hs.2.2.1 ht.2.1 ht.2.2.1 hs.2.2.2.1 ht.2.2.2.1 hsm
  clear hs ht
  go_enter Try.func27, Try.ntmps27
  go_upto_region 1 with fail
  have hb3 : Below w.heap.size w (((w.alloc (.cells #[.slice A n c] 43)).alloc (.cells #[.slice A' n' c'] 43)).alloc (.cells #[.slice none 0 0] 43)) := (((Below.refl _ _).alloc (Nat.le_refl _) _).alloc (by simp) _).alloc (by simp; omega) _
  have r2 : Row (((w.alloc (.cells #[.slice A n c] 43)).alloc (.cells #[.slice A' n' c'] 43)).alloc (.cells #[.slice none 0 0] 43)) (w.heap.size + 1 + 1) 43 [.slice none 0 0] := by
    have h := Row.new ((w.alloc (.cells #[.slice A n c] 43)).alloc (.cells #[.slice A' n' c'] 43)) 43 [.slice none 0 0]
    rw [show ((w.alloc (.cells #[.slice A n c] 43)).alloc (.cells #[.slice A' n' c'] 43)).heap.size = w.heap.size + 1 + 1 by simp] at h
    exact h
  have HB3 := Lib.hid hb3; have HR2 := Lib.hid r2
  clear hb3 r2
  go_wp2_with fail
  refine (HM.out _ HB3.out).mono ?_
  rintro e w4 ⟨Ao, no, co, out, rfl, hown, hmk, hb4⟩
  have hr4 := HR2.out.below hb4 HR2.out.lt
  have z0 := hr4.cell 0
  have z1 := hr4.frozen 0
  have zl := hr4.lt
  simp only [List.getElem?_cons_zero] at z0
  have HR4 : Hid (Row (w4.setCell ⟨w.heap.size + 1 + 1, 0, none⟩ (.slice Ao no co)) (w.heap.size + 1 + 1) 43 [.slice Ao no co]) := Lib.hid (hr4.set_ 0 _)
  have z2 := HR4.out.cell 0
  simp only [List.getElem?_cons_zero] at z2
  have HO : Hid (OwnS (w4.setCell ⟨w.heap.size + 1 + 1, 0, none⟩ (.slice Ao no co)) w.heap.size Ao no co out) := Lib.hid ⟨own_setr (own_monor hown.1 HB3.out.size) hr4 (by decide) 0 _, hown.2⟩
  have HBB : Hid (Below w.heap.size w (w4.setCell ⟨w.heap.size + 1 + 1, 0, none⟩ (.slice Ao no co))) := Lib.hid ((HB3.out.trans (hb4.mono HB3.out.size)).setCell (p := ⟨w.heap.size + 1 + 1, 0, none⟩) (Nat.le_trans (Nat.le_succ _) (Nat.le_succ _)) _)
  have HMK := Lib.hid hmk
  clear hown hmk hb4 hr4 HM HB3 HR2
  go_wp2_with fail
  refine bodyPost_ret (v := .agg #[.slice Ao no co]) (by simp [results, Try.results27, go_sem, z2]) rfl ⟨Ao, no, co, out, rfl, HO.out, HMK.out, HBB.out⟩
set_option maxRecDepth 100000 in
set_option maxHeartbeats 1000000 in
theorem meet_any (A A' : Option Addr) (n c n' c' : Nat) (s t : Sp.S) (w : World) (hs : IsSet w A n c s) (ht : IsSet w A' n' c' t) (hsm : n + n' ≤ 2199023255552) :
    Calls Try.prog 26 #[setV A n c, setV A' n' c'] w (Made w (fun a b => a && b) s t) := by
  unfold setV
  have HM : Hid (∀ wx, Below w.heap.size w wx → Calls Try.prog 43 #[.agg #[.slice A n c], .agg #[.slice A' n' c'], .func (.func 45) #[] #[]] wx fun e w' => ∃ Ao no co out, e = .returned (.agg #[.slice Ao no co]) ∧ OwnS w' wx.heap.size Ao no co out ∧ Sp.Mk TOP (fun a b => a && b) s t out ∧ Below wx.heap.size wx w') := Lib.hid fun wx hb =>
    make_meet _ A A' n c n' c' s t wx meet_keeps ((hs.1.below hb).more hb.size) ((ht.1.below hb).more hb.size) hs.2.1 hs.2.2.1 ht.2.1 ht.2.2.1 hs.2.2.2.1 ht.2.2.2.1 hsm
  clear hs ht
  go_enter Try.func26, Try.ntmps26
  go_upto_region 1 with fail
  have hb3 : Below w.heap.size w (((w.alloc (.cells #[.slice A n c] 43)).alloc (.cells #[.slice A' n' c'] 43)).alloc (.cells #[.slice none 0 0] 43)) := (((Below.refl _ _).alloc (Nat.le_refl _) _).alloc (by simp) _).alloc (by simp; omega) _
  have r2 : Row (((w.alloc (.cells #[.slice A n c] 43)).alloc (.cells #[.slice A' n' c'] 43)).alloc (.cells #[.slice none 0 0] 43)) (w.heap.size + 1 + 1) 43 [.slice none 0 0] := by
    have h := Row.new ((w.alloc (.cells #[.slice A n c] 43)).alloc (.cells #[.slice A' n' c'] 43)) 43 [.slice none 0 0]
    rw [show ((w.alloc (.cells #[.slice A n c] 43)).alloc (.cells #[.slice A' n' c'] 43)).heap.size = w.heap.size + 1 + 1 by simp] at h
    exact h
  have HB3 := Lib.hid hb3; have HR2 := Lib.hid r2
  clear hb3 r2
  go_wp2_with fail
  refine (HM.out _ HB3.out).mono ?_
  rintro e w4 ⟨Ao, no, co, out, rfl, hown, hmk, hb4⟩
  have hr4 := HR2.out.below hb4 HR2.out.lt
  have z0 := hr4.cell 0
  have z1 := hr4.frozen 0
  have zl := hr4.lt
  simp only [List.getElem?_cons_zero] at z0
  have HR4 : Hid (Row (w4.setCell ⟨w.heap.size + 1 + 1, 0, none⟩ (.slice Ao no co)) (w.heap.size + 1 + 1) 43 [.slice Ao no co]) := Lib.hid (hr4.set_ 0 _)
  have z2 := HR4.out.cell 0
  simp only [List.getElem?_cons_zero] at z2
  have HO : Hid (OwnS (w4.setCell ⟨w.heap.size + 1 + 1, 0, none⟩ (.slice Ao no co)) w.heap.size Ao no co out) := Lib.hid ⟨own_setr (own_monor hown.1 HB3.out.size) hr4 (by decide) 0 _, hown.2⟩
  have HBB : Hid (Below w.heap.size w (w4.setCell ⟨w.heap.size + 1 + 1, 0, none⟩ (.slice Ao no co))) := Lib.hid ((HB3.out.trans (hb4.mono HB3.out.size)).setCell (p := ⟨w.heap.size + 1 + 1, 0, none⟩) (Nat.le_trans (Nat.le_succ _) (Nat.le_succ _)) _)
  have HMK := Lib.hid hmk
  clear hown hmk hb4 hr4 HM HB3 HR2
  go_wp2_with fail
  refine bodyPost_ret (v := .agg #[.slice Ao no co]) (by simp [results, Try.results26, go_sem, z2]) rfl ⟨Ao, no, co, out, rfl, HO.out, HMK.out, HBB.out⟩
theorem from_drop {s : Sp.S} {p i : Nat} (h1 : ∀ j x, j < i → s[j]? = some x → x.2 < p) (h2 : ∀ x, s[i]? = some x → ¬ x.2 < p) : Sp.from_ s p = s.drop i := by
  induction s generalizing i with
  | nil => simp [Sp.from_]
  | cons x r ih =>
    cases i with
    | zero => rw [from_cons_ge (h2 x rfl)]; rfl
    | succ i =>
      rw [from_cons_lt (h1 0 x (by omega) rfl), List.drop_succ_cons]
      exact ih (fun j y hj hy => h1 (j + 1) y (by omega) hy) (fun y hy => h2 y hy)
theorem nrm_rise {s : Sp.S} (hn : Sp.Nrm TOP s) {i j : Nat} {x y : Nat × Nat} (hi : s[i]? = some x) (hj : s[j]? = some y) (h : i ≤ j) : x.2 ≤ y.2 := by
  rcases Nat.eq_or_lt_of_le h with e | h
  · subst e; rw [hi] at hj; injection hj with hj; rw [hj]; exact Nat.le_refl _
  · obtain ⟨h1, e1⟩ := List.getElem?_eq_some_iff.1 hi
    obtain ⟨h2, e2⟩ := List.getElem?_eq_some_iff.1 hj
    have := List.pairwise_iff_getElem.1 hn.up i j h1 h2 h
    rw [e1, e2] at this
    have := (hn.ok y (by rw [← e2]; exact List.getElem_mem _)).1
    omega
set_option maxRecDepth 100000 in
set_option maxHeartbeats 1000000 in
theorem find_any (A : Option Addr) (n c p : Nat) (s : Sp.S) (w : World) (hs : IsSet w A n c s) (hp : p ≤ TOP) :
    Calls Try.prog 59 #[setV A n c, .int .u8 (p : Nat)] w fun e w' => ∃ i : Nat, e = .returned (.int .i64 (i : Nat)) ∧ i ≤ n ∧ Sp.from_ s p = s.drop i ∧ Below w.heap.size w w' := by
  unfold setV
  obtain ⟨b, o, HF⟩ := hs.1.form
  have HL := Lib.hid hs.1.2.1
  have hn63 := hs.1.2.2
  have HN := Lib.hid hs.2.2.2.1
  have hn41 := hs.2.2.2.2
  clear hs
  go_enter Try.func59, Try.ntmps59
  go_upto_region 1 with fail
  have r0 : Row (w.alloc (.cells #[.slice A n c] 43)) w.heap.size 43 [.slice A n c] := Row.new w _ [.slice A n c]
  have hb0 : Below w.heap.size w (w.alloc (.cells #[.slice A n c] 43)) := (Below.refl _ _).alloc (Nat.le_refl _) _
  generalize w.alloc (.cells #[.slice A n c] 43) = w1 at *
  have c0 := r0.cell 0
  have hl0 := r0.lt
  simp only [List.getElem?_cons_zero] at c0
  go_quiet (fail)
  have HR : Hid (Row (w1.drewN nq) w.heap.size 43 [.slice A n c]) := Lib.hid (r0.drewN nq)
  have HB : Hid (Below w.heap.size w (w1.drewN nq)) := Lib.hid (below_drewN hb0 nq)
  clear r0 hb0 c0 hl0
  generalize w1.drewN nq = w2 at *
  have c0 := HR.out.cell 0
  have hl0 := HR.out.lt
  simp only [List.getElem?_cons_zero] at c0
  go_wp2_with fail
  go_loopw [5, 6] (fun x y wr => ∃ i j : Nat, i ≤ j ∧ j ≤ n ∧ x = .int .i64 (i : Nat) ∧ y = .int .i64 (j : Nat) ∧ wr = w2 ∧ Hid ((∀ k z, k < i → s[k]? = some z → z.2 < p) ∧ ∀ k z, j ≤ k → s[k]? = some z → ¬ z.2 < p)) (fun x y _ => (intOf y - intOf x).toNat)
  case atStart => exact ⟨0, n, by omega, by omega, rfl, rfl, rfl, Lib.hid ⟨by omega, fun k z hk hz => by have := (List.getElem?_eq_some_iff.1 hz).1; have := HL.out; omega⟩⟩
  case round =>
    obtain ⟨i, j, hij, hjn, rfl, rfl, rfl, HI⟩ := hrel
    by_cases hlt : i < j
    · obtain ⟨k, hk⟩ : ∃ k, k = (i + j) / 2 := ⟨_, rfl⟩
      have hk1 : i ≤ k := by omega
      have hk2 : k < j := by omega
      obtain ⟨x, hx⟩ : ∃ x, s[k]? = some x := ⟨_, List.getElem?_eq_getElem (by have := HL.out; omega)⟩
      obtain ⟨rfl, hbl, hcell⟩ := HF.out (by omega)
      have x1 := (HB.out.cell (p := ⟨b, o + k * 2 + 1, none⟩) hbl).trans (hcell k x hx).2
      have e1 : IntKind.i64.wrap ((i : Int) + (j : Int)) = (i : Int) + (j : Int) := by rw [IntKind.wrap_i64]; omega
      have e2 : ((i : Int) + (j : Int)) / 2 = (k : Int) := by omega
      have e3 : ((i : Int) + (j : Int)).tdiv 2 = (k : Int) := by rw [Int.tdiv_eq_ediv_of_nonneg (by omega)]; exact e2
      have hk0 : (0 : Int) ≤ (k : Int) := by omega
      have hkn : (k : Int) < (n : Int) := by omega
      have f1 : decide (i < j) = true := decide_eq_true hlt
      have HX := Lib.hid hx
      obtain ⟨xa, xb⟩ := x
      simp only at x1
      have HK := Lib.hid (And.intro hk1 hk2)
      clear hx hcell hk hlt
      by_cases hxp : xb < p
      · have f2 : decide (xb < p) = true := decide_eq_true hxp
        have HXP := Lib.hid hxp
        clear hxp
        go_wp2_with fail
        go_roundw
        case rel => exact ⟨k + 1, j, by have := HK.out; omega, hjn, by go_num, rfl, by trivial, Lib.hid ⟨fun q z hq hz => by
          rcases Nat.lt_or_ge q k with h | h
          · exact Nat.lt_of_le_of_lt (nrm_rise HN.out hz HX.out (Nat.le_of_lt h)) HXP.out
          · obtain rfl : q = k := by omega
            rw [HX.out] at hz; injection hz with hz; rw [← hz]; exact HXP.out, HI.out.2⟩⟩
        case measure => have := HK.out; simp [intOf]; omega
      · have f2 : decide (xb < p) = false := decide_eq_false hxp
        have HXP := Lib.hid hxp
        clear hxp
        go_wp2_with fail
        go_roundw
        case rel => exact ⟨i, k, HK.out.1, by have := HK.out; omega, rfl, by go_num, by trivial, Lib.hid ⟨HI.out.1, fun q z hq hz => by
          exact fun hc => HXP.out (Nat.lt_of_le_of_lt (nrm_rise HN.out HX.out hz hq) hc)⟩⟩
        case measure => have := HK.out; simp [intOf]; omega
    · have f1 : decide (i < j) = false := decide_eq_false hlt
      have HIJ : Hid (i = j) := Lib.hid (by omega)
      go_wp2_with fail
      go_ret
      exact ⟨i, rfl, by omega, from_drop HI.out.1 (fun z hz => HI.out.2 i z (by have := HIJ.out; omega) hz), HB.out⟩
set_option maxRecDepth 100000 in
set_option maxHeartbeats 1000000 in
theorem next_any (A : Option Addr) (n c p : Nat) (s : Sp.S) (w : World) (hs : IsSet w A n c s) (hp : p ≤ TOP) :
    Calls Try.prog 40 #[setV A n c, .int .u8 (p : Nat)] w fun e w' => e = .returned (.tuple #[.int .u8 ((Sp.next s p).1 : Nat), .bool (Sp.next s p).2]) ∧ Below w.heap.size w w' := by
  have HFI : Hid (∀ wx, Below w.heap.size w wx → Calls Try.prog 59 #[.agg #[.slice A n c], .int .u8 (p : Nat)] wx fun e w' => ∃ i : Nat, e = .returned (.int .i64 (i : Nat)) ∧ i ≤ n ∧ Sp.from_ s p = s.drop i ∧ Below wx.heap.size wx w') := Lib.hid fun wx hb => find_any A n c p s wx (hs.below hb) hp
  unfold setV
  obtain ⟨b, o, HF⟩ := hs.1.form
  have HL := Lib.hid hs.1.2.1
  have hn63 := hs.1.2.2
  obtain ⟨R, hR⟩ : ∃ R, R = Sp.next s p := ⟨_, rfl⟩
  have HNX : Hid (R = match Sp.from_ s p with | [] => (0, false) | x :: _ => (max p x.1, true)) := Lib.hid hR
  rw [← hR]
  obtain ⟨R1, R2⟩ := R
  clear hs hR
  unfold TOP at hp
  go_enter Try.func40, Try.ntmps40
  go_upto_region 1 with fail
  have r0 : Row (w.alloc (.cells #[.slice A n c] 43)) w.heap.size 43 [.slice A n c] := Row.new w _ [.slice A n c]
  have hb0 : Below w.heap.size w (w.alloc (.cells #[.slice A n c] 43)) := (Below.refl _ _).alloc (Nat.le_refl _) _
  generalize w.alloc (.cells #[.slice A n c] 43) = w1 at *
  have c0 := r0.cell 0
  have hl0 := r0.lt
  simp only [List.getElem?_cons_zero] at c0
  have HB0 := Lib.hid hb0; have HR0 := Lib.hid r0
  clear hb0 r0
  go_wp2_with fail
  refine (HFI.out w1 HB0.out).mono ?_
  rintro e w2 ⟨i, rfl, hi, hfr, hb2⟩
  have d0 : w2.cell? ⟨w.heap.size, 0, none⟩ = some (.slice A n c) := (hb2.cell (p := ⟨w.heap.size, 0, none⟩) hl0).trans c0
  have hl2 := Nat.lt_of_lt_of_le hl0 hb2.size
  have HB2 : Hid (Below w.heap.size w w2) := Lib.hid (HB0.out.trans (hb2.mono HB0.out.size))
  have HFR := Lib.hid hfr
  clear hb2 hfr c0 hl0 HFI HB0 HR0
  by_cases hin : i = n
  · have f1 : ((i : Int) == (n : Int)) = true := by simp; omega
    have HRR : Hid (R1 = 0 ∧ R2 = false) := Lib.hid (by
      have h := HNX.out
      rw [HFR.out, List.drop_of_length_le (by have := HL.out; omega)] at h
      injection h with h1 h2
      exact ⟨h1, h2⟩)
    clear hin
    go_wp2_with fail
    go_ret2
    exact ⟨by rw [HRR.out.1, HRR.out.2]; rfl, HB2.out⟩
  · have f1 : ((i : Int) == (n : Int)) = false := by simp; omega
    obtain ⟨x, hx⟩ : ∃ x, s[i]? = some x := ⟨_, List.getElem?_eq_getElem (by have := HL.out; omega)⟩
    obtain ⟨rfl, hbl, hcell⟩ := HF.out (by omega)
    have x0 := (HB2.out.cell (p := ⟨b, o + i * 2, none⟩) hbl).trans (hcell i x hx).1
    have HRR : Hid (R1 = max p x.1 ∧ R2 = true) := Lib.hid (by
      have h := HNX.out
      have hd : s.drop i = x :: s.drop (i + 1) := by
        obtain ⟨h1, h2⟩ := List.getElem?_eq_some_iff.1 hx
        rw [List.drop_eq_getElem_cons h1, h2]
      rw [HFR.out, hd] at h
      injection h with h1 h2
      exact ⟨h1, h2⟩)
    have hi0 : (0 : Int) ≤ (i : Int) := by omega
    have hi1 : (i : Int) < (n : Int) := by omega
    obtain ⟨xa, xb⟩ := x
    simp only at x0 HRR
    clear hin hx hcell HF
    by_cases hle : p ≤ xa
    · have HR1 : Hid (R1 = xa) := Lib.hid (by rw [HRR.out.1]; omega)
      have HR2 := Lib.hid HRR.out.2
      clear HRR
      go_wp2_with fail
      all_goals
        go_ret2
        refine ⟨?_, HB2.out⟩
        rw [HR1.out, HR2.out]
        first | rfl | go_num
    · have HR1 : Hid (R1 = p) := Lib.hid (by rw [HRR.out.1]; omega)
      have HR2 := Lib.hid HRR.out.2
      clear HRR
      go_wp2_with fail
      all_goals
        go_ret2
        refine ⟨?_, HB2.out⟩
        rw [HR1.out, HR2.out]
        first | rfl | go_num
end S8
end Go.Proofs.Ytchajbegjajlkaa
