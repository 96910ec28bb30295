/- Texts of this claim, one behind the other: SpZT, SpVT, SpQT, SpUT, IsU, ApS, Book, SpP8, SoA8. -/
import Derived.Test.YtchajbegjajlkaaGreatJSpanLaws8
import Derived.Deep.RegionHeld3
import Derived.Test.YtchajbegjajlkaaGreatJSpanLaws1
import Derived.Laws.CopyOwn
import Derived.Deep.QuietTactic
import Derived.BigQuiet
import Derived.Deep.OwnRows
import Derived.Test.YtchajbegjajlkaaGreatJSpanLaws2
import Derived.Shelf.SlSortCmp.WholeK
import Derived.Shelf.Lay
import Derived.Ground.SlsfProg
/- The walks of a set's questions: find, Next, Touches; and of With and Less. -/
set_option linter.unusedVariables false
set_option linter.unusedSimpArgs false
namespace Go.Proofs.YtchajbegjajlkaaGreat
open Go.RowKit
namespace ST
/-- a set by value -/
def setV (A : Option Addr) (n c : Nat) : Value := .agg #[.slice A n c]
/-- a set, read -/
def IsSet (w : World) (A : Option Addr) (n c : Nat) (s : Sp.S) : Prop := IsS w w.heap.size A n s ∧ n ≤ c ∧ c ≤ 9223372036854775807 ∧ Sp.Nrm TOP s ∧ n ≤ 2199023255552
theorem IsSet.below {w w' : World} {A : Option Addr} {n c : Nat} {s : Sp.S} (h : IsSet w A n c s) (hb : Below w.heap.size w w') : IsSet w' A n c s := ⟨(h.1.below hb).more hb.size, h.2⟩
theorem IsSet.nil (w : World) : IsSet w none 0 0 [] := ⟨IsS.none_, by omega, by omega, Sp.Nrm.nil _, by omega⟩
theorem OwnS.isSet {w : World} {B n c : Nat} {A : Option Addr} {s : Sp.S} (h : OwnS w B A n c s) (hn : Sp.Nrm TOP s) (hl : n ≤ 2199023255552) : IsSet w A n c s := by
  have hc : n ≤ c ∧ c ≤ 9223372036854775807 := by
    rcases h.1.2 with ⟨h1, h2⟩ | ⟨g, cap, cur, h1, _, _, h3, h4, _⟩
    · injection h1 with _ _ h1; omega
    · injection h1 with _ _ h1; unfold maxLen at h4; omega
  exact ⟨⟨Reads.of_own h.1, h.2, by omega⟩, hc.1, hc.2, hn, hl⟩
/-- what a set's making leaves -/
def Made (w : World) (f : Bool → Bool → Bool) (s t : Sp.S) (e : Ending) (w' : World) : Prop := ∃ A n c out, e = .returned (setV A n c) ∧ OwnS w' w.heap.size A n c out ∧ Sp.Mk TOP f s t out ∧ Below w.heap.size w w'
set_option maxRecDepth 100000 in
set_option maxHeartbeats 1000000 in
theorem or_any (A A' : Option Addr) (n c n' c' : Nat) (s t : Sp.S) (w : World) (hs : IsSet w A n c s) (ht : IsSet w A' n' c' t) (hsm : n + n' ≤ 2199023255552) :
    Calls Tryz.prog 68 #[setV A n c, setV A' n' c'] w (Made w (fun a b => a || b) s t) := by
  unfold setV
  have HM : Hid (∀ wx, Below w.heap.size w wx → Calls Tryz.prog 154 #[.agg #[.slice A n c], .agg #[.slice A' n' c'], .func (.func 155) #[] #[]] wx fun e w' => ∃ Ao no co out, e = .returned (.agg #[.slice Ao no co]) ∧ OwnS w' wx.heap.size Ao no co out ∧ Sp.Mk TOP (fun a b => a || b) s t out ∧ Below wx.heap.size wx w') := Lib.hid fun wx hb =>
    make_or _ A A' n c n' c' s t wx or_keeps ((hs.1.below hb).more hb.size) ((ht.1.below hb).more hb.size) hs.2.1 hs.2.2.1 ht.2.1 ht.2.2.1 hs.2.2.2.1 ht.2.2.2.1 hsm
  clear hs ht
  go_enter Tryz.func68, Tryz.ntmps68
  go_upto_region 1 with fail
  have hb3 : Below w.heap.size w (((w.alloc (.cells #[.slice A n c] 95)).alloc (.cells #[.slice A' n' c'] 95)).alloc (.cells #[.slice none 0 0] 95)) := (((Below.refl _ _).alloc (Nat.le_refl _) _).alloc (by simp) _).alloc (by simp; omega) _
  have r2 : Row (((w.alloc (.cells #[.slice A n c] 95)).alloc (.cells #[.slice A' n' c'] 95)).alloc (.cells #[.slice none 0 0] 95)) (w.heap.size + 1 + 1) 95 [.slice none 0 0] := by
    have h := Row.new ((w.alloc (.cells #[.slice A n c] 95)).alloc (.cells #[.slice A' n' c'] 95)) 95 [.slice none 0 0]
    rw [show ((w.alloc (.cells #[.slice A n c] 95)).alloc (.cells #[.slice A' n' c'] 95)).heap.size = w.heap.size + 1 + 1 by simp] at h
    exact h
  have HB3 := Lib.hid hb3; have HR2 := Lib.hid r2
  clear hb3 r2
  go_wp2_with fail
  refine (HM.out _ HB3.out).mono ?_
  rintro e w4 ⟨Ao, no, co, out, rfl, hown, hmk, hb4⟩
  have hr4 := HR2.out.below hb4 HR2.out.lt
  have z0 := hr4.cell 0
  have z1 := hr4.frozen 0
  have zl := hr4.lt
  simp only [List.getElem?_cons_zero] at z0
  have HR4 : Hid (Row (w4.setCell ⟨w.heap.size + 1 + 1, 0, none⟩ (.slice Ao no co)) (w.heap.size + 1 + 1) 95 [.slice Ao no co]) := Lib.hid (hr4.set_ 0 _)
  have z2 := HR4.out.cell 0
  simp only [List.getElem?_cons_zero] at z2
  have HO : Hid (OwnS (w4.setCell ⟨w.heap.size + 1 + 1, 0, none⟩ (.slice Ao no co)) w.heap.size Ao no co out) := Lib.hid ⟨own_setr (own_monor hown.1 HB3.out.size) hr4 (by decide) 0 _, hown.2⟩
  have HBB : Hid (Below w.heap.size w (w4.setCell ⟨w.heap.size + 1 + 1, 0, none⟩ (.slice Ao no co))) := Lib.hid ((HB3.out.trans (hb4.mono HB3.out.size)).setCell (p := ⟨w.heap.size + 1 + 1, 0, none⟩) (Nat.le_trans (Nat.le_succ _) (Nat.le_succ _)) _)
  have HMK := Lib.hid hmk
  clear hown hmk hb4 hr4 HM HB3 HR2
  go_wp2_with fail
  refine bodyPost_ret (v := .agg #[.slice Ao no co]) (by simp [results, Tryz.results68, go_sem, z2]) rfl ⟨Ao, no, co, out, rfl, HO.out, HMK.out, HBB.out⟩
set_option maxRecDepth 100000 in
set_option maxHeartbeats 1000000 in
theorem less_any (A A' : Option Addr) (n c n' c' : Nat) (s t : Sp.S) (w : World) (hs : IsSet w A n c s) (ht : IsSet w A' n' c' t) (hsm : n + n' ≤ 2199023255552) :
    Calls Tryz.prog 71 #[setV A n c, setV A' n' c'] w (Made w (fun a b => a && !b) s t) := by
  unfold setV
  have HM : Hid (∀ wx, Below w.heap.size w wx → Calls Tryz.prog 154 #[.agg #[.slice A n c], .agg #[.slice A' n' c'], .func (.func 158) #[] #[]] wx fun e w' => ∃ Ao no co out, e = .returned (.agg #[.slice Ao no co]) ∧ OwnS w' wx.heap.size Ao no co out ∧ Sp.Mk TOP (fun a b => a && !b) s t out ∧ Below wx.heap.size wx w') := Lib.hid fun wx hb =>
    make_less _ A A' n c n' c' s t wx less_keeps ((hs.1.below hb).more hb.size) ((ht.1.below hb).more hb.size) hs.2.1 hs.2.2.1 ht.2.1 ht.2.2.1 hs.2.2.2.1 ht.2.2.2.1 hsm
  clear hs ht
  go_enter Tryz.func71, Tryz.ntmps71
  go_upto_region 1 with fail
  have hb3 : Below w.heap.size w (((w.alloc (.cells #[.slice A n c] 95)).alloc (.cells #[.slice A' n' c'] 95)).alloc (.cells #[.slice none 0 0] 95)) := (((Below.refl _ _).alloc (Nat.le_refl _) _).alloc (by simp) _).alloc (by simp; omega) _
  have r2 : Row (((w.alloc (.cells #[.slice A n c] 95)).alloc (.cells #[.slice A' n' c'] 95)).alloc (.cells #[.slice none 0 0] 95)) (w.heap.size + 1 + 1) 95 [.slice none 0 0] := by
    have h := Row.new ((w.alloc (.cells #[.slice A n c] 95)).alloc (.cells #[.slice A' n' c'] 95)) 95 [.slice none 0 0]
    rw [show ((w.alloc (.cells #[.slice A n c] 95)).alloc (.cells #[.slice A' n' c'] 95)).heap.size = w.heap.size + 1 + 1 by simp] at h
    exact h
  have HB3 := Lib.hid hb3; have HR2 := Lib.hid r2
  clear hb3 r2
  go_wp2_with fail
  refine (HM.out _ HB3.out).mono ?_
  rintro e w4 ⟨Ao, no, co, out, rfl, hown, hmk, hb4⟩
  have hr4 := HR2.out.below hb4 HR2.out.lt
  have z0 := hr4.cell 0
  have z1 := hr4.frozen 0
  have zl := hr4.lt
  simp only [List.getElem?_cons_zero] at z0
  have HR4 : Hid (Row (w4.setCell ⟨w.heap.size + 1 + 1, 0, none⟩ (.slice Ao no co)) (w.heap.size + 1 + 1) 95 [.slice Ao no co]) := Lib.hid (hr4.set_ 0 _)
  have z2 := HR4.out.cell 0
  simp only [List.getElem?_cons_zero] at z2
  have HO : Hid (OwnS (w4.setCell ⟨w.heap.size + 1 + 1, 0, none⟩ (.slice Ao no co)) w.heap.size Ao no co out) := Lib.hid ⟨own_setr (own_monor hown.1 HB3.out.size) hr4 (by decide) 0 _, hown.2⟩
  have HBB : Hid (Below w.heap.size w (w4.setCell ⟨w.heap.size + 1 + 1, 0, none⟩ (.slice Ao no co))) := Lib.hid ((HB3.out.trans (hb4.mono HB3.out.size)).setCell (p := ⟨w.heap.size + 1 + 1, 0, none⟩) (Nat.le_trans (Nat.le_succ _) (Nat.le_succ _)) _)
  have HMK := Lib.hid hmk
  clear hown hmk hb4 hr4 HM HB3 HR2
  go_wp2_with fail
  refine bodyPost_ret (v := .agg #[.slice Ao no co]) (by simp [results, Tryz.results71, go_sem, z2]) rfl ⟨Ao, no, co, out, rfl, HO.out, HMK.out, HBB.out⟩
set_option maxRecDepth 100000 in
set_option maxHeartbeats 1000000 in
theorem meet_any (A A' : Option Addr) (n c n' c' : Nat) (s t : Sp.S) (w : World) (hs : IsSet w A n c s) (ht : IsSet w A' n' c' t) (hsm : n + n' ≤ 2199023255552) :
    Calls Tryz.prog 70 #[setV A n c, setV A' n' c'] w (Made w (fun a b => a && b) s t) := by
  unfold setV
  have HM : Hid (∀ wx, Below w.heap.size w wx → Calls Tryz.prog 154 #[.agg #[.slice A n c], .agg #[.slice A' n' c'], .func (.func 157) #[] #[]] wx fun e w' => ∃ Ao no co out, e = .returned (.agg #[.slice Ao no co]) ∧ OwnS w' wx.heap.size Ao no co out ∧ Sp.Mk TOP (fun a b => a && b) s t out ∧ Below wx.heap.size wx w') := Lib.hid fun wx hb =>
    make_meet _ A A' n c n' c' s t wx meet_keeps ((hs.1.below hb).more hb.size) ((ht.1.below hb).more hb.size) hs.2.1 hs.2.2.1 ht.2.1 ht.2.2.1 hs.2.2.2.1 ht.2.2.2.1 hsm
  clear hs ht
  go_enter Tryz.func70, Tryz.ntmps70
  go_upto_region 1 with fail
  have hb3 : Below w.heap.size w (((w.alloc (.cells #[.slice A n c] 95)).alloc (.cells #[.slice A' n' c'] 95)).alloc (.cells #[.slice none 0 0] 95)) := (((Below.refl _ _).alloc (Nat.le_refl _) _).alloc (by simp) _).alloc (by simp; omega) _
  have r2 : Row (((w.alloc (.cells #[.slice A n c] 95)).alloc (.cells #[.slice A' n' c'] 95)).alloc (.cells #[.slice none 0 0] 95)) (w.heap.size + 1 + 1) 95 [.slice none 0 0] := by
    have h := Row.new ((w.alloc (.cells #[.slice A n c] 95)).alloc (.cells #[.slice A' n' c'] 95)) 95 [.slice none 0 0]
    rw [show ((w.alloc (.cells #[.slice A n c] 95)).alloc (.cells #[.slice A' n' c'] 95)).heap.size = w.heap.size + 1 + 1 by simp] at h
    exact h
  have HB3 := Lib.hid hb3; have HR2 := Lib.hid r2
  clear hb3 r2
  go_wp2_with fail
  refine (HM.out _ HB3.out).mono ?_
  rintro e w4 ⟨Ao, no, co, out, rfl, hown, hmk, hb4⟩
  have hr4 := HR2.out.below hb4 HR2.out.lt
  have z0 := hr4.cell 0
  have z1 := hr4.frozen 0
  have zl := hr4.lt
  simp only [List.getElem?_cons_zero] at z0
  have HR4 : Hid (Row (w4.setCell ⟨w.heap.size + 1 + 1, 0, none⟩ (.slice Ao no co)) (w.heap.size + 1 + 1) 95 [.slice Ao no co]) := Lib.hid (hr4.set_ 0 _)
  have z2 := HR4.out.cell 0
  simp only [List.getElem?_cons_zero] at z2
  have HO : Hid (OwnS (w4.setCell ⟨w.heap.size + 1 + 1, 0, none⟩ (.slice Ao no co)) w.heap.size Ao no co out) := Lib.hid ⟨own_setr (own_monor hown.1 HB3.out.size) hr4 (by decide) 0 _, hown.2⟩
  have HBB : Hid (Below w.heap.size w (w4.setCell ⟨w.heap.size + 1 + 1, 0, none⟩ (.slice Ao no co))) := Lib.hid ((HB3.out.trans (hb4.mono HB3.out.size)).setCell (p := ⟨w.heap.size + 1 + 1, 0, none⟩) (Nat.le_trans (Nat.le_succ _) (Nat.le_succ _)) _)
  have HMK := Lib.hid hmk
  clear hown hmk hb4 hr4 HM HB3 HR2
  go_wp2_with fail
  refine bodyPost_ret (v := .agg #[.slice Ao no co]) (by simp [results, Tryz.results70, go_sem, z2]) rfl ⟨Ao, no, co, out, rfl, HO.out, HMK.out, HBB.out⟩
theorem from_drop {s : Sp.S} {p i : Nat} (h1 : ∀ j x, j < i → s[j]? = some x → x.2 < p) (h2 : ∀ x, s[i]? = some x → ¬ x.2 < p) : Sp.from_ s p = s.drop i := by
  induction s generalizing i with
  | nil => simp [Sp.from_]
  | cons x r ih =>
    cases i with
    | zero => rw [from_cons_ge (h2 x rfl)]; rfl
    | succ i =>
      rw [from_cons_lt (h1 0 x (by omega) rfl), List.drop_succ_cons]
      exact ih (fun j y hj hy => h1 (j + 1) y (by omega) hy) (fun y hy => h2 y hy)
theorem nrm_rise {s : Sp.S} (hn : Sp.Nrm TOP s) {i j : Nat} {x y : Nat × Nat} (hi : s[i]? = some x) (hj : s[j]? = some y) (h : i ≤ j) : x.2 ≤ y.2 := by
  rcases Nat.eq_or_lt_of_le h with e | h
  · subst e; rw [hi] at hj; injection hj with hj; rw [hj]; exact Nat.le_refl _
  · obtain ⟨h1, e1⟩ := List.getElem?_eq_some_iff.1 hi
    obtain ⟨h2, e2⟩ := List.getElem?_eq_some_iff.1 hj
    have := List.pairwise_iff_getElem.1 hn.up i j h1 h2 h
    rw [e1, e2] at this
    have := (hn.ok y (by rw [← e2]; exact List.getElem_mem _)).1
    omega
set_option maxRecDepth 100000 in
set_option maxHeartbeats 1000000 in
theorem find_any (A : Option Addr) (n c p : Nat) (s : Sp.S) (w : World) (hs : IsSet w A n c s) (hp : p ≤ TOP) :
    Calls Tryz.prog 164 #[setV A n c, .int .u8 (p : Nat)] w fun e w' => ∃ i : Nat, e = .returned (.int .i64 (i : Nat)) ∧ i ≤ n ∧ Sp.from_ s p = s.drop i ∧ Below w.heap.size w w' := by
  unfold setV
  obtain ⟨b, o, HF⟩ := hs.1.form
  have HL := Lib.hid hs.1.2.1
  have hn63 := hs.1.2.2
  have HN := Lib.hid hs.2.2.2.1
  have hn41 := hs.2.2.2.2
  clear hs
  go_enter Tryz.func164, Tryz.ntmps164
  go_upto_region 1 with fail
  have r0 : Row (w.alloc (.cells #[.slice A n c] 95)) w.heap.size 95 [.slice A n c] := Row.new w _ [.slice A n c]
  have hb0 : Below w.heap.size w (w.alloc (.cells #[.slice A n c] 95)) := (Below.refl _ _).alloc (Nat.le_refl _) _
  generalize w.alloc (.cells #[.slice A n c] 95) = w1 at *
  have c0 := r0.cell 0
  have hl0 := r0.lt
  simp only [List.getElem?_cons_zero] at c0
  go_quiet (fail)
  have HR : Hid (Row (w1.drewN nq) w.heap.size 95 [.slice A n c]) := Lib.hid (r0.drewN nq)
  have HB : Hid (Below w.heap.size w (w1.drewN nq)) := Lib.hid (below_drewN hb0 nq)
  clear r0 hb0 c0 hl0
  generalize w1.drewN nq = w2 at *
  have c0 := HR.out.cell 0
  have hl0 := HR.out.lt
  simp only [List.getElem?_cons_zero] at c0
  go_wp2_with fail
  go_loopw [5, 6] (fun x y wr => ∃ i j : Nat, i ≤ j ∧ j ≤ n ∧ x = .int .i64 (i : Nat) ∧ y = .int .i64 (j : Nat) ∧ wr = w2 ∧ Hid ((∀ k z, k < i → s[k]? = some z → z.2 < p) ∧ ∀ k z, j ≤ k → s[k]? = some z → ¬ z.2 < p)) (fun x y _ => (intOf y - intOf x).toNat)
  case atStart => exact ⟨0, n, by omega, by omega, rfl, rfl, rfl, Lib.hid ⟨by omega, fun k z hk hz => by have := (List.getElem?_eq_some_iff.1 hz).1; have := HL.out; omega⟩⟩
  case round =>
    obtain ⟨i, j, hij, hjn, rfl, rfl, rfl, HI⟩ := hrel
    by_cases hlt : i < j
    · obtain ⟨k, hk⟩ : ∃ k, k = (i + j) / 2 := ⟨_, rfl⟩
      have hk1 : i ≤ k := by omega
      have hk2 : k < j := by omega
      obtain ⟨x, hx⟩ : ∃ x, s[k]? = some x := ⟨_, List.getElem?_eq_getElem (by have := HL.out; omega)⟩
      obtain ⟨rfl, hbl, hcell⟩ := HF.out (by omega)
      have x1 := (HB.out.cell (p := ⟨b, o + k * 2 + 1, none⟩) hbl).trans (hcell k x hx).2
      have e1 : IntKind.i64.wrap ((i : Int) + (j : Int)) = (i : Int) + (j : Int) := by rw [IntKind.wrap_i64]; omega
      have e2 : ((i : Int) + (j : Int)) / 2 = (k : Int) := by omega
      have e3 : ((i : Int) + (j : Int)).tdiv 2 = (k : Int) := by rw [Int.tdiv_eq_ediv_of_nonneg (by omega)]; exact e2
      have hk0 : (0 : Int) ≤ (k : Int) := by omega
      have hkn : (k : Int) < (n : Int) := by omega
      have f1 : decide (i < j) = true := decide_eq_true hlt
      have HX := Lib.hid hx
      obtain ⟨xa, xb⟩ := x
      simp only at x1
      have HK := Lib.hid (And.intro hk1 hk2)
      clear hx hcell hk hlt
      by_cases hxp : xb < p
      · have f2 : decide (xb < p) = true := decide_eq_true hxp
        have HXP := Lib.hid hxp
        clear hxp
        go_wp2_with fail
        go_roundw
        case rel => exact ⟨k + 1, j, by have := HK.out; omega, hjn, by go_num, rfl, by trivial, Lib.hid ⟨fun q z hq hz => by
          rcases Nat.lt_or_ge q k with h | h
          · exact Nat.lt_of_le_of_lt (nrm_rise HN.out hz HX.out (Nat.le_of_lt h)) HXP.out
          · obtain rfl : q = k := by omega
            rw [HX.out] at hz; injection hz with hz; rw [← hz]; exact HXP.out, HI.out.2⟩⟩
        case measure => have := HK.out; simp [intOf]; omega
      · have f2 : decide (xb < p) = false := decide_eq_false hxp
        have HXP := Lib.hid hxp
        clear hxp
        go_wp2_with fail
        go_roundw
        case rel => exact ⟨i, k, HK.out.1, by have := HK.out; omega, rfl, by go_num, by trivial, Lib.hid ⟨HI.out.1, fun q z hq hz => by
          exact fun hc => HXP.out (Nat.lt_of_le_of_lt (nrm_rise HN.out HX.out hz hq) hc)⟩⟩
        case measure => have := HK.out; simp [intOf]; omega
    · have f1 : decide (i < j) = false := decide_eq_false hlt
      have HIJ : Hid (i = j) := Lib.hid (by omega)
      go_wp2_with fail
      go_ret
      exact ⟨i, rfl, by omega, from_drop HI.out.1 (fun z hz => HI.out.2 i z (by have := HIJ.out; omega) hz), HB.out⟩
set_option maxRecDepth 100000 in
set_option maxHeartbeats 1000000 in
theorem next_any (A : Option Addr) (n c p : Nat) (s : Sp.S) (w : World) (hs : IsSet w A n c s) (hp : p ≤ TOP) :
    Calls Tryz.prog 163 #[setV A n c, .int .u8 (p : Nat)] w fun e w' => e = .returned (.tuple #[.int .u8 ((Sp.next s p).1 : Nat), .bool (Sp.next s p).2]) ∧ Below w.heap.size w w' := by
  have HFI : Hid (∀ wx, Below w.heap.size w wx → Calls Tryz.prog 164 #[.agg #[.slice A n c], .int .u8 (p : Nat)] wx fun e w' => ∃ i : Nat, e = .returned (.int .i64 (i : Nat)) ∧ i ≤ n ∧ Sp.from_ s p = s.drop i ∧ Below wx.heap.size wx w') := Lib.hid fun wx hb => find_any A n c p s wx (hs.below hb) hp
  unfold setV
  obtain ⟨b, o, HF⟩ := hs.1.form
  have HL := Lib.hid hs.1.2.1
  have hn63 := hs.1.2.2
  obtain ⟨R, hR⟩ : ∃ R, R = Sp.next s p := ⟨_, rfl⟩
  have HNX : Hid (R = match Sp.from_ s p with | [] => (0, false) | x :: _ => (max p x.1, true)) := Lib.hid hR
  rw [← hR]
  obtain ⟨R1, R2⟩ := R
  clear hs hR
  unfold TOP at hp
  go_enter Tryz.func163, Tryz.ntmps163
  go_upto_region 1 with fail
  have r0 : Row (w.alloc (.cells #[.slice A n c] 95)) w.heap.size 95 [.slice A n c] := Row.new w _ [.slice A n c]
  have hb0 : Below w.heap.size w (w.alloc (.cells #[.slice A n c] 95)) := (Below.refl _ _).alloc (Nat.le_refl _) _
  generalize w.alloc (.cells #[.slice A n c] 95) = w1 at *
  have c0 := r0.cell 0
  have hl0 := r0.lt
  simp only [List.getElem?_cons_zero] at c0
  have HB0 := Lib.hid hb0; have HR0 := Lib.hid r0
  clear hb0 r0
  go_wp2_with fail
  refine (HFI.out w1 HB0.out).mono ?_
  rintro e w2 ⟨i, rfl, hi, hfr, hb2⟩
  have d0 : w2.cell? ⟨w.heap.size, 0, none⟩ = some (.slice A n c) := (hb2.cell (p := ⟨w.heap.size, 0, none⟩) hl0).trans c0
  have hl2 := Nat.lt_of_lt_of_le hl0 hb2.size
  have HB2 : Hid (Below w.heap.size w w2) := Lib.hid (HB0.out.trans (hb2.mono HB0.out.size))
  have HFR := Lib.hid hfr
  clear hb2 hfr c0 hl0 HFI HB0 HR0
  by_cases hin : i = n
  · have f1 : ((i : Int) == (n : Int)) = true := by simp; omega
    have HRR : Hid (R1 = 0 ∧ R2 = false) := Lib.hid (by
      have h := HNX.out
      rw [HFR.out, List.drop_of_length_le (by have := HL.out; omega)] at h
      injection h with h1 h2
      exact ⟨h1, h2⟩)
    clear hin
    go_wp2_with fail
    go_ret2
    exact ⟨by rw [HRR.out.1, HRR.out.2]; rfl, HB2.out⟩
  · have f1 : ((i : Int) == (n : Int)) = false := by simp; omega
    obtain ⟨x, hx⟩ : ∃ x, s[i]? = some x := ⟨_, List.getElem?_eq_getElem (by have := HL.out; omega)⟩
    obtain ⟨rfl, hbl, hcell⟩ := HF.out (by omega)
    have x0 := (HB2.out.cell (p := ⟨b, o + i * 2, none⟩) hbl).trans (hcell i x hx).1
    have HRR : Hid (R1 = max p x.1 ∧ R2 = true) := Lib.hid (by
      have h := HNX.out
      have hd : s.drop i = x :: s.drop (i + 1) := by
        obtain ⟨h1, h2⟩ := List.getElem?_eq_some_iff.1 hx
        rw [List.drop_eq_getElem_cons h1, h2]
      rw [HFR.out, hd] at h
      injection h with h1 h2
      exact ⟨h1, h2⟩)
    have hi0 : (0 : Int) ≤ (i : Int) := by omega
    have hi1 : (i : Int) < (n : Int) := by omega
    obtain ⟨xa, xb⟩ := x
    simp only at x0 HRR
    clear hin hx hcell HF
    by_cases hle : p ≤ xa
    · have HR1 : Hid (R1 = xa) := Lib.hid (by rw [HRR.out.1]; omega)
      have HR2 := Lib.hid HRR.out.2
      clear HRR
      go_wp2_with fail
      all_goals
        go_ret2
        refine ⟨?_, HB2.out⟩
        rw [HR1.out, HR2.out]
        first | rfl | go_num
    · have HR1 : Hid (R1 = p) := Lib.hid (by rw [HRR.out.1]; omega)
      have HR2 := Lib.hid HRR.out.2
      clear HRR
      go_wp2_with fail
      all_goals
        go_ret2
        refine ⟨?_, HB2.out⟩
        rw [HR1.out, HR2.out]
        first | rfl | go_num
end ST
end Go.Proofs.YtchajbegjajlkaaGreat

/- The walks of With and Touches. -/
set_option linter.unusedVariables false
set_option linter.unusedSimpArgs false
namespace Go.Proofs.YtchajbegjajlkaaGreat
open Go.RowKit
namespace ST
/-- does a point of a span lie in a set? -/
def touch (s : Sp.S) (a b : Nat) : Bool := (Sp.next s a).2 && decide ((Sp.next s a).1 ≤ b) && !decide (b < a)
theorem touch_iff {s : Sp.S} {a b : Nat} (hn : Sp.Nrm TOP s) : touch s a b = true ↔ ∃ p, a ≤ p ∧ p ≤ b ∧ Sp.has s p = true := by
  unfold touch
  cases hx : Sp.next s a with
  | mk m o =>
    cases o with
    | false =>
      have := (Sp.next_none hn (show (Sp.next s a).2 = false by rw [hx])).2
      simp only [Bool.false_and, Bool.false_eq_true, false_iff]
      rintro ⟨p, h1, _, h3⟩
      rw [this p h1] at h3
      cases h3
    | true =>
      obtain ⟨h1, h2, h3⟩ := Sp.next_some hn hx
      simp only [Bool.true_and, Bool.and_eq_true, decide_eq_true_eq, Bool.not_eq_true', decide_eq_false_iff_not]
      constructor
      · rintro ⟨h4, h5⟩
        exact ⟨m, h1, h4, h2⟩
      · rintro ⟨p, h4, h5, h6⟩
        refine ⟨?_, by omega⟩
        rcases Nat.lt_or_ge p m with h | h
        · rw [h3 p h4 h] at h6; cases h6
        · omega
set_option maxRecDepth 100000 in
set_option maxHeartbeats 1000000 in
theorem touches_any (A : Option Addr) (n c a b : Nat) (s : Sp.S) (w : World) (hs : IsSet w A n c s) (ha : a ≤ TOP) (hb : b ≤ TOP) :
    Calls Tryz.prog 76 #[setV A n c, .agg #[.int .u8 (a : Nat), .int .u8 (b : Nat)]] w fun e w' => e = .returned (.bool (touch s a b)) ∧ Below w.heap.size w w' := by
  have HNX : Hid (∀ wx, Below w.heap.size w wx → Calls Tryz.prog 163 #[.agg #[.slice A n c], .int .u8 (a : Nat)] wx fun e w' => e = .returned (.tuple #[.int .u8 ((Sp.next s a).1 : Nat), .bool (Sp.next s a).2]) ∧ Below wx.heap.size wx w') := Lib.hid fun wx hb => next_any A n c a s wx (hs.below hb) ha
  unfold setV
  have HT : Hid (touch s a b = ((Sp.next s a).2 && decide ((Sp.next s a).1 ≤ b) && !decide (b < a))) := Lib.hid rfl
  obtain ⟨R, hR⟩ : ∃ R, R = Sp.next s a := ⟨_, rfl⟩
  rw [← hR] at HNX HT
  obtain ⟨m, ok⟩ := R
  simp only at HNX HT
  obtain ⟨T, hT⟩ : ∃ T, T = touch s a b := ⟨_, rfl⟩
  rw [← hT] at HT ⊢
  clear hs hR hT
  unfold TOP at ha hb
  go_enter Tryz.func76, Tryz.ntmps76
  go_upto_region 1 with fail
  have r0 : Row ((w.alloc (.cells #[.slice A n c] 95)).alloc (.cells #[.int .u8 (a : Nat), .int .u8 (b : Nat)] 102)) w.heap.size 95 [.slice A n c] := (Row.new w _ [.slice A n c]).alloc _
  have r1 : Row ((w.alloc (.cells #[.slice A n c] 95)).alloc (.cells #[.int .u8 (a : Nat), .int .u8 (b : Nat)] 102)) (w.heap.size + 1) 102 [.int .u8 (a : Nat), .int .u8 (b : Nat)] := by
    have h := Row.new (w.alloc (.cells #[.slice A n c] 95)) 102 [.int .u8 (a : Nat), .int .u8 (b : Nat)]
    rw [show (w.alloc (.cells #[.slice A n c] 95)).heap.size = w.heap.size + 1 by simp] at h
    exact h
  have hb0 : Below w.heap.size w ((w.alloc (.cells #[.slice A n c] 95)).alloc (.cells #[.int .u8 (a : Nat), .int .u8 (b : Nat)] 102)) := ((Below.refl _ _).alloc (Nat.le_refl _) _).alloc (by simp) _
  generalize (w.alloc (.cells #[.slice A n c] 95)).alloc (.cells #[.int .u8 (a : Nat), .int .u8 (b : Nat)] 102) = w1 at *
  have c0 := r0.cell 0
  have d0 := r1.cell 0
  have d1 := r1.cell 1
  have hl0 := r0.lt
  have hl1 := r1.lt
  simp only [List.getElem?_cons_zero, List.getElem?_cons_succ] at c0 d0 d1
  have HB0 := Lib.hid hb0; have HR1 := Lib.hid r1
  clear hb0 r0 r1
  go_wp2_with fail
  refine (HNX.out w1 HB0.out).mono ?_
  rintro e w2 ⟨rfl, hb2⟩
  have hr2 := HR1.out.below hb2 HR1.out.lt
  have e0 := hr2.cell 0
  have e1 := hr2.cell 1
  have hl2 := hr2.lt
  simp only [List.getElem?_cons_zero, List.getElem?_cons_succ] at e0 e1
  have HB2 : Hid (Below w.heap.size w w2) := Lib.hid (HB0.out.trans (hb2.mono HB0.out.size))
  clear hr2 hb2 c0 d0 d1 hl0 hl1 HNX HB0 HR1
  cases ok with
  | false =>
    go_wp2_with fail
    go_ret
    exact ⟨by rw [HT.out]; rfl, HB2.out⟩
  | true =>
    by_cases h1 : m ≤ b
    · have f1 : decide (m ≤ b) = true := decide_eq_true h1
      have HF1 := Lib.hid f1
      clear h1
      go_wp2_with (go_at_call 159; refine (none_any a b _).mono ?_; rintro e w' ⟨rfl, hb'⟩; have HBN := Lib.hid hb'; clear hb')
      go_ret
      exact ⟨by rw [HT.out, HF1.out]; simp, HB2.out.trans (HBN.out.mono HB2.out.size)⟩
    · have f1 : decide (m ≤ b) = false := decide_eq_false h1
      have HF1 := Lib.hid f1
      clear h1
      go_wp2_with fail
      go_ret
      exact ⟨by rw [HT.out, HF1.out]; rfl, HB2.out⟩
/-- with one span more -/
def MadeW (w : World) (s : Sp.S) (a b : Nat) (e : Ending) (w' : World) : Prop := ∃ A n c out, e = .returned (setV A n c) ∧ OwnS w' w.heap.size A n c out ∧ Sp.Mk TOP (fun a b => a || b) s (one a b) out ∧ Below w.heap.size w w'
theorem one_len (a b : Nat) : (one a b).length ≤ 1 := by unfold one; split <;> simp
theorem one_nrm {a b : Nat} (hb : b ≤ TOP) : Sp.Nrm TOP (one a b) := (one_of hb).nrm
set_option maxRecDepth 100000 in
set_option maxHeartbeats 1000000 in
theorem with_any (A : Option Addr) (n c a b : Nat) (s : Sp.S) (w : World) (hs : IsSet w A n c s) (ha : a ≤ TOP) (hb : b ≤ TOP) (hn : n ≤ 1099511627776) :
    Calls Tryz.prog 78 #[setV A n c, .agg #[.int .u8 (a : Nat), .int .u8 (b : Nat)]] w (MadeW w s a b) := by
  have HS := Lib.hid hs
  unfold setV
  clear hs
  go_enter Tryz.func78, Tryz.ntmps78
  go_upto_region 1 with fail
  have r0 : Row (((w.alloc (.cells #[.slice A n c] 95)).alloc (.cells #[.int .u8 (a : Nat), .int .u8 (b : Nat)] 102)).alloc (.cells #[.slice none 0 0] 95)) w.heap.size 95 [.slice A n c] := ((Row.new w _ [.slice A n c]).alloc _).alloc _
  have r1 : Row (((w.alloc (.cells #[.slice A n c] 95)).alloc (.cells #[.int .u8 (a : Nat), .int .u8 (b : Nat)] 102)).alloc (.cells #[.slice none 0 0] 95)) (w.heap.size + 1) 102 [.int .u8 (a : Nat), .int .u8 (b : Nat)] := by
    have h := Row.new (w.alloc (.cells #[.slice A n c] 95)) 102 [.int .u8 (a : Nat), .int .u8 (b : Nat)]
    rw [show (w.alloc (.cells #[.slice A n c] 95)).heap.size = w.heap.size + 1 by simp] at h
    exact h.alloc _
  have r2 : Row (((w.alloc (.cells #[.slice A n c] 95)).alloc (.cells #[.int .u8 (a : Nat), .int .u8 (b : Nat)] 102)).alloc (.cells #[.slice none 0 0] 95)) (w.heap.size + 1 + 1) 95 [.slice none 0 0] := by
    have h := Row.new ((w.alloc (.cells #[.slice A n c] 95)).alloc (.cells #[.int .u8 (a : Nat), .int .u8 (b : Nat)] 102)) 95 [.slice none 0 0]
    rw [show ((w.alloc (.cells #[.slice A n c] 95)).alloc (.cells #[.int .u8 (a : Nat), .int .u8 (b : Nat)] 102)).heap.size = w.heap.size + 1 + 1 by simp] at h
    exact h
  have hb0 : Below w.heap.size w (((w.alloc (.cells #[.slice A n c] 95)).alloc (.cells #[.int .u8 (a : Nat), .int .u8 (b : Nat)] 102)).alloc (.cells #[.slice none 0 0] 95)) := (((Below.refl _ _).alloc (Nat.le_refl _) _).alloc (by simp) _).alloc (by simp; omega) _
  generalize ((w.alloc (.cells #[.slice A n c] 95)).alloc (.cells #[.int .u8 (a : Nat), .int .u8 (b : Nat)] 102)).alloc (.cells #[.slice none 0 0] 95) = w1 at *
  have c0 := r0.cell 0
  have d0 := r1.cell 0
  have d1 := r1.cell 1
  have hl0 := r0.lt
  have hl1 := r1.lt
  have hl2 := r2.lt
  simp only [List.getElem?_cons_zero, List.getElem?_cons_succ] at c0 d0 d1
  have HB0 := Lib.hid hb0; have HR2 := Lib.hid r2
  clear hb0 r0 r1 r2
  have hrn : Row (w1.alloc (.cells #[.int .u8 (a : Nat), .int .u8 (b : Nat)] 102)) w1.heap.size 102 (scell (a, b)) := Row.new w1 _ (scell (a, b))
  have hbn : Below w1.heap.size w1 (w1.alloc (.cells #[.int .u8 (a : Nat), .int .u8 (b : Nat)] 102)) := (Below.refl _ _).alloc (Nat.le_refl _) _
  have HRN := Lib.hid hrn; have HBN := Lib.hid hbn
  clear hrn hbn
  have KEEP : Hid (∀ (w' : World) (v : Value), w'.cell? ⟨w.heap.size, 0, none⟩ = some (.slice A n c) → w'.cell? ⟨w.heap.size + 1, 0, none⟩ = some (.int .u8 (a : Nat)) → w'.cell? ⟨w.heap.size + 1, 1, none⟩ = some (.int .u8 (b : Nat)) → (w'.setCell ⟨w.heap.size + 1 + 1, 0, none⟩ v).cell? ⟨w.heap.size, 0, none⟩ = some (.slice A n c) ∧ (w'.setCell ⟨w.heap.size + 1 + 1, 0, none⟩ v).cell? ⟨w.heap.size + 1, 0, none⟩ = some (.int .u8 (a : Nat)) ∧ (w'.setCell ⟨w.heap.size + 1 + 1, 0, none⟩ v).cell? ⟨w.heap.size + 1, 1, none⟩ = some (.int .u8 (b : Nat))) := Lib.hid fun w' v h1 h2 h3 => ⟨(World.cell?_setCell_other _ _ _ _ (by intro h; injection h; omega)).trans h1, (World.cell?_setCell_other _ _ _ _ (by intro h; injection h; omega)).trans h2, (World.cell?_setCell_other _ _ _ _ (by intro h; injection h; omega)).trans h3⟩
  go_region_held3 (fun w' => w'.cell? ⟨w.heap.size, 0, none⟩ = some (.slice A n c) ∧ w'.cell? ⟨w.heap.size + 1, 0, none⟩ = some (.int .u8 (a : Nat)) ∧ w'.cell? ⟨w.heap.size + 1, 1, none⟩ = some (.int .u8 (b : Nat)))
    (first | exact ⟨c0, d0, d1⟩ | exact KO.out | exact KP.out | exact ⟨(HBN.out.drew.cell (p := ⟨w.heap.size, 0, none⟩) hl0).trans c0, (HBN.out.drew.cell (p := ⟨w.heap.size + 1, 0, none⟩) hl1).trans d0, (HBN.out.drew.cell (p := ⟨w.heap.size + 1, 1, none⟩) hl1).trans d1⟩ | exact KEEP.out _ _ KP.out.1 KP.out.2.1 KP.out.2.2)
    (first
      | (go_at_call 72; refine (of_one w1.heap.size 1 a b _ HRN.out.drew ha hb).mono ?_; rintro e w' ⟨Ao, co, rfl, hown, hb'⟩; have hbw : Below w1.heap.size w1 w' := HBN.out.drew.trans (hb'.mono HBN.out.size); have HOW := Lib.hid hown; have HBW := Lib.hid hbw; have KO : Hid (w'.cell? ⟨w.heap.size, 0, none⟩ = some (.slice A n c) ∧ w'.cell? ⟨w.heap.size + 1, 0, none⟩ = some (.int .u8 (a : Nat)) ∧ w'.cell? ⟨w.heap.size + 1, 1, none⟩ = some (.int .u8 (b : Nat))) := Lib.hid ⟨(hbw.cell (p := ⟨w.heap.size, 0, none⟩) hl0).trans c0, (hbw.cell (p := ⟨w.heap.size + 1, 0, none⟩) hl1).trans d0, (hbw.cell (p := ⟨w.heap.size + 1, 1, none⟩) hl1).trans d1⟩; clear hown hb' hbw)
      | (go_at_call 68; refine (or_any A Ao n c (one a b).length co s (one a b) _ (HS.out.below (HB0.out.trans (HBW.out.mono HB0.out.size))) (HOW.out.isSet (one_nrm hb) (by have := one_len a b; omega)) (by have := one_len a b; omega)).mono ?_; rintro e w'' ⟨A9, n9, c9, out, rfl, hown9, hmk9, hb9⟩; unfold setV; have hbx : Below w1.heap.size w1 w'' := HBW.out.trans (hb9.mono HBW.out.size); have hz := HR2.out.below hbx HR2.out.lt; have z0 := hz.cell 0; have z1 := hz.frozen 0; have zl := hz.lt; simp only [List.getElem?_cons_zero] at z0; have HF := Lib.hid hown9; have HM := Lib.hid hmk9; have HBX := Lib.hid hbx; have HZ := Lib.hid hz; have KP : Hid (w''.cell? ⟨w.heap.size, 0, none⟩ = some (.slice A n c) ∧ w''.cell? ⟨w.heap.size + 1, 0, none⟩ = some (.int .u8 (a : Nat)) ∧ w''.cell? ⟨w.heap.size + 1, 1, none⟩ = some (.int .u8 (b : Nat))) := Lib.hid ⟨(hbx.cell (p := ⟨w.heap.size, 0, none⟩) hl0).trans c0, (hbx.cell (p := ⟨w.heap.size + 1, 0, none⟩) hl1).trans d0, (hbx.cell (p := ⟨w.heap.size + 1, 1, none⟩) hl1).trans d1⟩; clear hown9 hmk9 hb9 hbx hz))
  all_goals
    have HR4 : Hid (Row (w''.setCell ⟨w.heap.size + 1 + 1, 0, none⟩ (.slice A9 n9 c9)) (w.heap.size + 1 + 1) 95 [.slice A9 n9 c9]) := Lib.hid (HZ.out.set_ 0 _)
    have z2 := HR4.out.cell 0
    simp only [List.getElem?_cons_zero] at z2
    have HO : Hid (OwnS (w''.setCell ⟨w.heap.size + 1 + 1, 0, none⟩ (.slice A9 n9 c9)) w.heap.size A9 n9 c9 out) := Lib.hid ⟨own_setr (own_monor HF.out.1 (Nat.le_trans HB0.out.size HBW.out.size)) HZ.out (by decide) 0 _, HF.out.2⟩
    have HBB : Hid (Below w.heap.size w (w''.setCell ⟨w.heap.size + 1 + 1, 0, none⟩ (.slice A9 n9 c9))) := Lib.hid ((HB0.out.trans (HBX.out.mono HB0.out.size)).setCell (p := ⟨w.heap.size + 1 + 1, 0, none⟩) (Nat.le_trans (Nat.le_succ _) (Nat.le_succ _)) _)
    go_wp2_with fail
    refine bodyPost_ret (v := .agg #[.slice A9 n9 c9]) (by simp [results, Tryz.results78, go_sem, z2]) rfl ⟨A9, n9, c9, out, rfl, HO.out, HM.out, HBB.out⟩
end ST
end Go.Proofs.YtchajbegjajlkaaGreat

/- The walks of Without, Covers, Has, Spans, Same. -/
set_option linter.unusedVariables false
set_option linter.unusedSimpArgs false
namespace Go.Proofs.YtchajbegjajlkaaGreat
open Go.RowKit
namespace ST
/-- without one span -/
def MadeL (w : World) (s : Sp.S) (a b : Nat) (e : Ending) (w' : World) : Prop := ∃ A n c out, e = .returned (setV A n c) ∧ OwnS w' w.heap.size A n c out ∧ Sp.Mk TOP (fun a b => a && !b) s (one a b) out ∧ Below w.heap.size w w'
set_option maxRecDepth 100000 in
set_option maxHeartbeats 1000000 in
theorem without_any (A : Option Addr) (n c a b : Nat) (s : Sp.S) (w : World) (hs : IsSet w A n c s) (ha : a ≤ TOP) (hb : b ≤ TOP) (hn : n ≤ 1099511627776) :
    Calls Tryz.prog 79 #[setV A n c, .agg #[.int .u8 (a : Nat), .int .u8 (b : Nat)]] w (MadeL w s a b) := by
  have HS := Lib.hid hs
  unfold setV
  clear hs
  go_enter Tryz.func79, Tryz.ntmps79
  go_upto_region 1 with fail
  have r0 : Row (((w.alloc (.cells #[.slice A n c] 95)).alloc (.cells #[.int .u8 (a : Nat), .int .u8 (b : Nat)] 102)).alloc (.cells #[.slice none 0 0] 95)) w.heap.size 95 [.slice A n c] := ((Row.new w _ [.slice A n c]).alloc _).alloc _
  have r1 : Row (((w.alloc (.cells #[.slice A n c] 95)).alloc (.cells #[.int .u8 (a : Nat), .int .u8 (b : Nat)] 102)).alloc (.cells #[.slice none 0 0] 95)) (w.heap.size + 1) 102 [.int .u8 (a : Nat), .int .u8 (b : Nat)] := by
    have h := Row.new (w.alloc (.cells #[.slice A n c] 95)) 102 [.int .u8 (a : Nat), .int .u8 (b : Nat)]
    rw [show (w.alloc (.cells #[.slice A n c] 95)).heap.size = w.heap.size + 1 by simp] at h
    exact h.alloc _
  have r2 : Row (((w.alloc (.cells #[.slice A n c] 95)).alloc (.cells #[.int .u8 (a : Nat), .int .u8 (b : Nat)] 102)).alloc (.cells #[.slice none 0 0] 95)) (w.heap.size + 1 + 1) 95 [.slice none 0 0] := by
    have h := Row.new ((w.alloc (.cells #[.slice A n c] 95)).alloc (.cells #[.int .u8 (a : Nat), .int .u8 (b : Nat)] 102)) 95 [.slice none 0 0]
    rw [show ((w.alloc (.cells #[.slice A n c] 95)).alloc (.cells #[.int .u8 (a : Nat), .int .u8 (b : Nat)] 102)).heap.size = w.heap.size + 1 + 1 by simp] at h
    exact h
  have hb0 : Below w.heap.size w (((w.alloc (.cells #[.slice A n c] 95)).alloc (.cells #[.int .u8 (a : Nat), .int .u8 (b : Nat)] 102)).alloc (.cells #[.slice none 0 0] 95)) := (((Below.refl _ _).alloc (Nat.le_refl _) _).alloc (by simp) _).alloc (by simp; omega) _
  generalize ((w.alloc (.cells #[.slice A n c] 95)).alloc (.cells #[.int .u8 (a : Nat), .int .u8 (b : Nat)] 102)).alloc (.cells #[.slice none 0 0] 95) = w1 at *
  have c0 := r0.cell 0
  have d0 := r1.cell 0
  have d1 := r1.cell 1
  have hl0 := r0.lt
  have hl1 := r1.lt
  have hl2 := r2.lt
  simp only [List.getElem?_cons_zero, List.getElem?_cons_succ] at c0 d0 d1
  have HB0 := Lib.hid hb0; have HR2 := Lib.hid r2
  clear hb0 r0 r1 r2
  have hrn : Row (w1.alloc (.cells #[.int .u8 (a : Nat), .int .u8 (b : Nat)] 102)) w1.heap.size 102 (scell (a, b)) := Row.new w1 _ (scell (a, b))
  have hbn : Below w1.heap.size w1 (w1.alloc (.cells #[.int .u8 (a : Nat), .int .u8 (b : Nat)] 102)) := (Below.refl _ _).alloc (Nat.le_refl _) _
  have HRN := Lib.hid hrn; have HBN := Lib.hid hbn
  clear hrn hbn
  have KEEP : Hid (∀ (w' : World) (v : Value), w'.cell? ⟨w.heap.size, 0, none⟩ = some (.slice A n c) → w'.cell? ⟨w.heap.size + 1, 0, none⟩ = some (.int .u8 (a : Nat)) → w'.cell? ⟨w.heap.size + 1, 1, none⟩ = some (.int .u8 (b : Nat)) → (w'.setCell ⟨w.heap.size + 1 + 1, 0, none⟩ v).cell? ⟨w.heap.size, 0, none⟩ = some (.slice A n c) ∧ (w'.setCell ⟨w.heap.size + 1 + 1, 0, none⟩ v).cell? ⟨w.heap.size + 1, 0, none⟩ = some (.int .u8 (a : Nat)) ∧ (w'.setCell ⟨w.heap.size + 1 + 1, 0, none⟩ v).cell? ⟨w.heap.size + 1, 1, none⟩ = some (.int .u8 (b : Nat))) := Lib.hid fun w' v h1 h2 h3 => ⟨(World.cell?_setCell_other _ _ _ _ (by intro h; injection h; omega)).trans h1, (World.cell?_setCell_other _ _ _ _ (by intro h; injection h; omega)).trans h2, (World.cell?_setCell_other _ _ _ _ (by intro h; injection h; omega)).trans h3⟩
  go_region_held3 (fun w' => w'.cell? ⟨w.heap.size, 0, none⟩ = some (.slice A n c) ∧ w'.cell? ⟨w.heap.size + 1, 0, none⟩ = some (.int .u8 (a : Nat)) ∧ w'.cell? ⟨w.heap.size + 1, 1, none⟩ = some (.int .u8 (b : Nat)))
    (first | exact ⟨c0, d0, d1⟩ | exact KO.out | exact KP.out | exact ⟨(HBN.out.drew.cell (p := ⟨w.heap.size, 0, none⟩) hl0).trans c0, (HBN.out.drew.cell (p := ⟨w.heap.size + 1, 0, none⟩) hl1).trans d0, (HBN.out.drew.cell (p := ⟨w.heap.size + 1, 1, none⟩) hl1).trans d1⟩ | exact KEEP.out _ _ KP.out.1 KP.out.2.1 KP.out.2.2)
    (first
      | (go_at_call 72; refine (of_one w1.heap.size 1 a b _ HRN.out.drew ha hb).mono ?_; rintro e w' ⟨Ao, co, rfl, hown, hb'⟩; have hbw : Below w1.heap.size w1 w' := HBN.out.drew.trans (hb'.mono HBN.out.size); have HOW := Lib.hid hown; have HBW := Lib.hid hbw; have KO : Hid (w'.cell? ⟨w.heap.size, 0, none⟩ = some (.slice A n c) ∧ w'.cell? ⟨w.heap.size + 1, 0, none⟩ = some (.int .u8 (a : Nat)) ∧ w'.cell? ⟨w.heap.size + 1, 1, none⟩ = some (.int .u8 (b : Nat))) := Lib.hid ⟨(hbw.cell (p := ⟨w.heap.size, 0, none⟩) hl0).trans c0, (hbw.cell (p := ⟨w.heap.size + 1, 0, none⟩) hl1).trans d0, (hbw.cell (p := ⟨w.heap.size + 1, 1, none⟩) hl1).trans d1⟩; clear hown hb' hbw)
      | (go_at_call 71; refine (less_any A Ao n c (one a b).length co s (one a b) _ (HS.out.below (HB0.out.trans (HBW.out.mono HB0.out.size))) (HOW.out.isSet (one_nrm hb) (by have := one_len a b; omega)) (by have := one_len a b; omega)).mono ?_; rintro e w'' ⟨A9, n9, c9, out, rfl, hown9, hmk9, hb9⟩; unfold setV; have hbx : Below w1.heap.size w1 w'' := HBW.out.trans (hb9.mono HBW.out.size); have hz := HR2.out.below hbx HR2.out.lt; have z0 := hz.cell 0; have z1 := hz.frozen 0; have zl := hz.lt; simp only [List.getElem?_cons_zero] at z0; have HF := Lib.hid hown9; have HM := Lib.hid hmk9; have HBX := Lib.hid hbx; have HZ := Lib.hid hz; have KP : Hid (w''.cell? ⟨w.heap.size, 0, none⟩ = some (.slice A n c) ∧ w''.cell? ⟨w.heap.size + 1, 0, none⟩ = some (.int .u8 (a : Nat)) ∧ w''.cell? ⟨w.heap.size + 1, 1, none⟩ = some (.int .u8 (b : Nat))) := Lib.hid ⟨(hbx.cell (p := ⟨w.heap.size, 0, none⟩) hl0).trans c0, (hbx.cell (p := ⟨w.heap.size + 1, 0, none⟩) hl1).trans d0, (hbx.cell (p := ⟨w.heap.size + 1, 1, none⟩) hl1).trans d1⟩; clear hown9 hmk9 hb9 hbx hz))
  all_goals
    have HR4 : Hid (Row (w''.setCell ⟨w.heap.size + 1 + 1, 0, none⟩ (.slice A9 n9 c9)) (w.heap.size + 1 + 1) 95 [.slice A9 n9 c9]) := Lib.hid (HZ.out.set_ 0 _)
    have z2 := HR4.out.cell 0
    simp only [List.getElem?_cons_zero] at z2
    have HO : Hid (OwnS (w''.setCell ⟨w.heap.size + 1 + 1, 0, none⟩ (.slice A9 n9 c9)) w.heap.size A9 n9 c9 out) := Lib.hid ⟨own_setr (own_monor HF.out.1 (Nat.le_trans HB0.out.size HBW.out.size)) HZ.out (by decide) 0 _, HF.out.2⟩
    have HBB : Hid (Below w.heap.size w (w''.setCell ⟨w.heap.size + 1 + 1, 0, none⟩ (.slice A9 n9 c9))) := Lib.hid ((HB0.out.trans (HBX.out.mono HB0.out.size)).setCell (p := ⟨w.heap.size + 1 + 1, 0, none⟩) (Nat.le_trans (Nat.le_succ _) (Nat.le_succ _)) _)
    go_wp2_with fail
    refine bodyPost_ret (v := .agg #[.slice A9 n9 c9]) (by simp [results, Tryz.results79, go_sem, z2]) rfl ⟨A9, n9, c9, out, rfl, HO.out, HM.out, HBB.out⟩

/-- do all points of a span lie in a set? -/
def cov (s : Sp.S) (a b : Nat) : Bool := if b < a then true else match Sp.from_ s a with
  | [] => false
  | x :: _ => decide (x.1 ≤ a) && decide (b ≤ x.2)
theorem cov_iff {s : Sp.S} {a b : Nat} (hn : Sp.Nrm TOP s) : cov s a b = true ↔ ∀ p, a ≤ p → p ≤ b → Sp.has s p = true := by
  unfold cov
  by_cases hab : b < a
  · rw [if_pos hab]
    exact ⟨fun _ p h1 h2 => by omega, fun _ => rfl⟩
  · rw [if_neg hab]
    cases hf : Sp.from_ s a with
    | nil =>
      simp only [Bool.false_eq_true, false_iff]
      intro h
      have h1 := h a (Nat.le_refl _) (by omega)
      rw [← Sp.from_has hn (Nat.le_refl a), hf] at h1
      cases h1
    | cons x r =>
      have hx := Sp.from_head hf
      have hnf := Sp.from_nrm hn a
      rw [hf] at hnf
      obtain ⟨hx1, hx2, hx3⟩ := hnf.head
      have hh : ∀ q, a ≤ q → Sp.has s q = (decide (x.1 ≤ q ∧ q ≤ x.2) || Sp.has r q) := fun q hq => by
        rw [← Sp.from_has hn hq, hf, Sp.has_cons]
      simp only [Bool.and_eq_true, decide_eq_true_eq]
      constructor
      · rintro ⟨h1, h2⟩ p h3 h4
        rw [hh p h3, decide_eq_true (by omega)]; rfl
      · intro h
        have h1 : x.1 ≤ a := by
          by_cases hc : x.1 ≤ a
          · exact hc
          · have h2 := h a (Nat.le_refl _) (by omega)
            rw [hh a (Nat.le_refl _), decide_eq_false (by omega), Bool.false_or, Sp.has_low (fun y hy => by have := hx3 y hy; omega)] at h2
            cases h2
        refine ⟨h1, ?_⟩
        by_cases hc : b ≤ x.2
        · exact hc
        · have h2 := h (x.2 + 1) (by omega) (by omega)
          rw [hh _ (by omega), decide_eq_false (by omega), Bool.false_or, Sp.has_low (fun y hy => by have := hx3 y hy; omega)] at h2
          cases h2
theorem cov_one {s : Sp.S} {p : Nat} (hn : Sp.Nrm TOP s) : cov s p p = Sp.has s p := by
  cases h : Sp.has s p with
  | true => exact (cov_iff hn).2 (fun q h1 h2 => by rw [show q = p by omega]; exact h)
  | false =>
    cases h2 : cov s p p with
    | false => rfl
    | true =>
      have := (cov_iff hn).1 h2 p (Nat.le_refl _) (Nat.le_refl _)
      rw [h] at this; cases this
set_option maxRecDepth 100000 in
set_option maxHeartbeats 1000000 in
theorem covers_any (A : Option Addr) (n c a b : Nat) (s : Sp.S) (w : World) (hs : IsSet w A n c s) (ha : a ≤ TOP) (hb : b ≤ TOP) :
    Calls Tryz.prog 77 #[setV A n c, .agg #[.int .u8 (a : Nat), .int .u8 (b : Nat)]] w fun e w' => e = .returned (.bool (cov s a b)) ∧ Below w.heap.size w w' := by
  have HFI : Hid (∀ wx, Below w.heap.size w wx → Calls Tryz.prog 164 #[.agg #[.slice A n c], .int .u8 (a : Nat)] wx fun e w' => ∃ i : Nat, e = .returned (.int .i64 (i : Nat)) ∧ i ≤ n ∧ Sp.from_ s a = s.drop i ∧ Below wx.heap.size wx w') := Lib.hid fun wx hb => find_any A n c a s wx (hs.below hb) ha
  unfold setV
  obtain ⟨b0, o, HF⟩ := hs.1.form
  have HL := Lib.hid hs.1.2.1
  have hn63 := hs.1.2.2
  obtain ⟨T, hT⟩ : ∃ T, T = cov s a b := ⟨_, rfl⟩
  have HT : Hid (T = if b < a then true else match Sp.from_ s a with | [] => false | x :: _ => decide (x.1 ≤ a) && decide (b ≤ x.2)) := Lib.hid hT
  rw [← hT]
  clear hs hT
  unfold TOP at ha hb
  go_enter Tryz.func77, Tryz.ntmps77
  go_upto_region 1 with fail
  have r0 : Row ((w.alloc (.cells #[.slice A n c] 95)).alloc (.cells #[.int .u8 (a : Nat), .int .u8 (b : Nat)] 102)) w.heap.size 95 [.slice A n c] := (Row.new w _ [.slice A n c]).alloc _
  have r1 : Row ((w.alloc (.cells #[.slice A n c] 95)).alloc (.cells #[.int .u8 (a : Nat), .int .u8 (b : Nat)] 102)) (w.heap.size + 1) 102 [.int .u8 (a : Nat), .int .u8 (b : Nat)] := by
    have h := Row.new (w.alloc (.cells #[.slice A n c] 95)) 102 [.int .u8 (a : Nat), .int .u8 (b : Nat)]
    rw [show (w.alloc (.cells #[.slice A n c] 95)).heap.size = w.heap.size + 1 by simp] at h
    exact h
  have hb0 : Below w.heap.size w ((w.alloc (.cells #[.slice A n c] 95)).alloc (.cells #[.int .u8 (a : Nat), .int .u8 (b : Nat)] 102)) := ((Below.refl _ _).alloc (Nat.le_refl _) _).alloc (by simp) _
  generalize (w.alloc (.cells #[.slice A n c] 95)).alloc (.cells #[.int .u8 (a : Nat), .int .u8 (b : Nat)] 102) = w1 at *
  have HROW : Hid (∀ wx, Below w1.heap.size w1 wx → wx.cell? ⟨w.heap.size, 0, none⟩ = some (.slice A n c) ∧ wx.cell? ⟨w.heap.size + 1, 0, none⟩ = some (.int .u8 (a : Nat)) ∧ wx.cell? ⟨w.heap.size + 1, 1, none⟩ = some (.int .u8 (b : Nat)) ∧ w.heap.size < wx.heap.size ∧ w.heap.size + 1 < wx.heap.size) := Lib.hid (fun wx hb => by
    have h0 := r0.below hb r0.lt
    have h1 := r1.below hb r1.lt
    exact ⟨h0.cell 0, h1.cell 0, h1.cell 1, h0.lt, h1.lt⟩)
  have HB0 := Lib.hid hb0
  obtain ⟨c0, d0, d1, hl0, hl1⟩ := HROW.out w1 (Below.refl _ _)
  clear hb0 r0 r1
  by_cases hab : b < a
  · have f1 : decide (b < a) = true := decide_eq_true hab
    have HT1 : Hid (T = true) := Lib.hid (by rw [HT.out, if_pos hab])
    clear hab
    go_wp2_with (go_at_call 159; refine (none_any a b _).mono ?_; rintro e w' ⟨rfl, hb'⟩; have HBN := Lib.hid hb'; clear hb')
    go_ret
    exact ⟨by rw [HT1.out]; rfl, HB0.out.trans (HBN.out.mono HB0.out.size)⟩
  · have f1 : decide (b < a) = false := decide_eq_false hab
    have HT1 : Hid (T = match Sp.from_ s a with | [] => false | x :: _ => decide (x.1 ≤ a) && decide (b ≤ x.2)) := Lib.hid (by rw [HT.out, if_neg hab])
    clear hab
    go_upto_region 3 with (go_at_call 159; refine (none_any a b _).mono ?_; rintro e w2 ⟨rfl, hb'⟩; have HBN := Lib.hid hb'; clear hb')
    clear c0 d0 d1 hl0 hl1
    obtain ⟨c0, d0, d1, hl0, hl1⟩ := HROW.out w2 HBN.out
    go_upto_region 4 with (go_at_call 164; refine (HFI.out _ (HB0.out.trans (HBN.out.mono HB0.out.size))).mono ?_; rintro e w3 ⟨i, rfl, hi, hfr, hb3⟩; have HB3 := Lib.hid hb3; have HFR := Lib.hid hfr; clear hb3 hfr)
    clear c0 d0 d1 hl0 hl1
    have HB3' : Hid (Below w1.heap.size w1 w3) := Lib.hid (HBN.out.trans (HB3.out.mono HBN.out.size))
    have HBW : Hid (Below w.heap.size w w3) := Lib.hid (HB0.out.trans (HB3'.out.mono HB0.out.size))
    obtain ⟨c0, d0, d1, hl0, hl1⟩ := HROW.out w3 HB3'.out
    clear HFI HROW
    have HT2 : Hid (T = match s.drop i with | [] => false | x :: _ => decide (x.1 ≤ a) && decide (b ≤ x.2)) := Lib.hid (by rw [HT1.out, HFR.out]; cases s.drop i <;> rfl)
    by_cases hin : i = n
    · have g1 : decide (i < n) = false := decide_eq_false (by omega)
      have HT3 : Hid (T = false) := Lib.hid (by rw [HT2.out, List.drop_of_length_le (by have := HL.out; omega)])
      clear hin HF
      go_quiet (fail)
      go_wp2_with fail
      go_ret
      exact ⟨by rw [HT3.out]; rfl, below_drewN HBW.out nq⟩
    · have g1 : decide (i < n) = true := decide_eq_true (by omega)
      obtain ⟨x, hx⟩ : ∃ x, s[i]? = some x := ⟨_, List.getElem?_eq_getElem (by have := HL.out; omega)⟩
      obtain ⟨rfl, hbl, hcell⟩ := HF.out (by omega)
      have x0 := (HBW.out.cell (p := ⟨b0, o + i * 2, none⟩) hbl).trans (hcell i x hx).1
      have x1 := (HBW.out.cell (p := ⟨b0, o + i * 2 + 1, none⟩) hbl).trans (hcell i x hx).2
      have hbl3 := Nat.lt_of_lt_of_le hbl HBW.out.size
      have HT3 : Hid (T = (decide (x.1 ≤ a) && decide (b ≤ x.2))) := Lib.hid (by
        have hd : s.drop i = x :: s.drop (i + 1) := by
          obtain ⟨h1, h2⟩ := List.getElem?_eq_some_iff.1 hx
          rw [List.drop_eq_getElem_cons h1, h2]
        rw [HT2.out, hd])
      have hi0 : (0 : Int) ≤ (i : Int) := by omega
      have hi1 : (i : Int) < (n : Int) := by omega
      obtain ⟨xa, xb⟩ := x
      simp only at x0 x1 HT3
      clear hin hx hcell HF HT2
      by_cases ha1 : xa ≤ a
      · have g2 : decide (xa ≤ a) = true := decide_eq_true ha1
        have HG2 := Lib.hid g2
        clear ha1
        go_quiet (fail)
        go_wp2_with fail
        go_ret
        exact ⟨by rw [HT3.out, HG2.out]; simp, below_drewN HBW.out nq⟩
      · have g2 : decide (xa ≤ a) = false := decide_eq_false ha1
        have HG2 := Lib.hid g2
        clear ha1
        go_quiet (fail)
        go_wp2_with fail
        go_ret
        exact ⟨by rw [HT3.out, HG2.out]; rfl, below_drewN HBW.out nq⟩
set_option maxRecDepth 100000 in
set_option maxHeartbeats 1000000 in
theorem has_any (A : Option Addr) (n c p : Nat) (s : Sp.S) (w : World) (hs : IsSet w A n c s) (hp : p ≤ TOP) :
    Calls Tryz.prog 75 #[setV A n c, .int .u8 (p : Nat)] w fun e w' => e = .returned (.bool (Sp.has s p)) ∧ Below w.heap.size w w' := by
  have HCV : Hid (∀ wx, Below w.heap.size w wx → Calls Tryz.prog 77 #[.agg #[.slice A n c], .agg #[.int .u8 (p : Nat), .int .u8 (p : Nat)]] wx fun e w' => e = .returned (.bool (Sp.has s p)) ∧ Below wx.heap.size wx w') := Lib.hid fun wx hb => by
    have h := covers_any A n c p p s wx (hs.below hb) hp hp
    rw [cov_one hs.2.2.2.1] at h
    exact h
  unfold setV
  obtain ⟨T, hT⟩ : ∃ T, T = Sp.has s p := ⟨_, rfl⟩
  rw [← hT] at HCV ⊢
  clear hs hT
  unfold TOP at hp
  go_enter Tryz.func75, Tryz.ntmps75
  go_upto_region 1 with fail
  have r0 : Row (w.alloc (.cells #[.slice A n c] 95)) w.heap.size 95 [.slice A n c] := Row.new w _ [.slice A n c]
  have hb0 : Below w.heap.size w (w.alloc (.cells #[.slice A n c] 95)) := (Below.refl _ _).alloc (Nat.le_refl _) _
  generalize w.alloc (.cells #[.slice A n c] 95) = w1 at *
  have c0 := r0.cell 0
  have hl0 := r0.lt
  simp only [List.getElem?_cons_zero] at c0
  have HB0 := Lib.hid hb0
  clear hb0 r0
  go_wp2_with fail
  refine (HCV.out w1 HB0.out).mono ?_
  rintro e w2 ⟨rfl, hb2⟩
  have HB2 : Hid (Below w.heap.size w w2) := Lib.hid (HB0.out.trans (hb2.mono HB0.out.size))
  clear hb2 c0 hl0 HCV
  go_wp2_with fail
  go_ret
  exact ⟨rfl, HB2.out⟩
/-- what Spans tells -/
def SpansSaid (w : World) (n : Nat) (s : Sp.S) (e : Ending) (w' : World) : Prop := (∃ A' c', e = .returned (.slice A' n c') ∧ OwnS w' w.heap.size A' n c' s ∧ n ≤ c' ∧ c' ≤ 9223372036854775807) ∧ Below w.heap.size w w'
set_option maxRecDepth 100000 in
set_option maxHeartbeats 400000 in
theorem clone_any (A : Option Addr) (n c : Nat) (bs : Sp.S) (w : World) (ha : IsS w w.heap.size A n bs) (hn : n ≤ 2199023255552) :
    Calls Tryz.prog 162 #[.slice A n c] w (SpansSaid w n bs) := by
  obtain ⟨i0, hi0, hz1, hz2, hz3⟩ := info_parts infoSp
  have HA := Lib.hid ha
  have HI := Lib.hid hi0; have HZ1 := Lib.hid hz1; have HZ2 := Lib.hid hz2; have HZ3 := Lib.hid hz3
  clear hi0 hz1 hz2 hz3 ha
  cases A with
  | none =>
    obtain rfl : n = 0 := by
      rcases Nat.eq_zero_or_pos n with h | h
      · exact h
      · obtain ⟨ad, h, _⟩ := HA.out.1.2 h; cases h
    have hq : ∀ wx : World, (binOp .eql 93 (.slice none 0 c) (.slice none 0 0)).run Tryz.prog wx = .ok (.bool true) wx := fun wx => Lib.run_eql_slice_nil wx 93 102 none 0 c 0 0 Tryz.underlying93
    go_enter Tryz.func162, Tryz.ntmps162
    go_wp2_with fail
    go_ret
    obtain rfl : bs = [] := List.eq_nil_of_length_eq_zero HA.out.2.1
    exact ⟨⟨none, 0, rfl, ⟨World.ownsRow_nil _ _ _ _, rfl⟩, by omega, by omega⟩, Below.refl _ _⟩
  | some ad =>
    have hq : ∀ wx : World, (binOp .eql 93 (.slice (some ad) n c) (.slice none 0 0)).run Tryz.prog wx = .ok (.bool false) wx := fun wx => Lib.run_eql_slice_nil wx 93 102 (some ad) n c 0 0 Tryz.underlying93
    go_enter Tryz.func162, Tryz.ntmps162
    go_wp2_with (at_builtin; refine wpList_append_more _ rfl (.tmp 5) (.tmp 6) _ rfl w.heap.size 102 i0 _ 2 2 Tryz.underlying93 HI.out HZ1.out HZ2.out HZ3.out rfl (by omega) _ _ _ _ rfl (World.ownsRow_made w #[] 0 (Nat.le_refl _) (by decide) rfl) w.heap.size (some ad) n c (bs.map scell).flatten rfl (HA.out.1.alloc (Nat.le_refl _) _) (scell_one bs) (by simp only [maxLen]; omega) (by omega) (by simp) ?_; intro A' c' w2 HN)
    go_ret
    have h := HN.out
    simp only [Nat.zero_add, List.nil_append] at h
    have hn2 : n ≤ c' ∧ c' ≤ 9223372036854775807 := by
      have h1 := h.1
      rcases h1.2 with ⟨e, _⟩ | ⟨g, cap, cur, e, hx⟩
      · injection e with e1 e2 e3; subst e1; subst e2; subst e3; exact ⟨by omega, by omega⟩
      · injection e with e1 e2 e3; subst e1; subst e3
        exact ⟨hx.2.2.1, by have := hx.2.2.2; unfold maxLen at this; omega⟩
    exact ⟨⟨A', c', rfl, ⟨h.1, HA.out.2.1⟩, hn2⟩, ((Below.refl _ _).alloc (Nat.le_refl _) _).trans h.2.2⟩
set_option maxRecDepth 100000 in
set_option maxHeartbeats 1000000 in
theorem spans_any (A : Option Addr) (n c : Nat) (s : Sp.S) (w : World) (hs : IsSet w A n c s) :
    Calls Tryz.prog 73 #[setV A n c] w (SpansSaid w n s) := by
  have HCL : Hid (∀ wx, Below w.heap.size w wx → Calls Tryz.prog 162 #[.slice A n c] wx (SpansSaid wx n s)) := Lib.hid fun wx hb => clone_any A n c s wx (hs.below hb).1 hs.2.2.2.2
  unfold setV
  clear hs
  go_enter Tryz.func73, Tryz.ntmps73
  go_upto_region 1 with fail
  have r0 : Row (w.alloc (.cells #[.slice A n c] 95)) w.heap.size 95 [.slice A n c] := Row.new w _ [.slice A n c]
  have hb0 : Below w.heap.size w (w.alloc (.cells #[.slice A n c] 95)) := (Below.refl _ _).alloc (Nat.le_refl _) _
  generalize w.alloc (.cells #[.slice A n c] 95) = w1 at *
  have c0 := r0.cell 0
  have hl0 := r0.lt
  simp only [List.getElem?_cons_zero] at c0
  have HB0 := Lib.hid hb0
  clear hb0 r0
  go_wp2_with fail
  refine (HCL.out w1 HB0.out).mono ?_
  rintro e w2 ⟨⟨A', c', rfl, ho, hcc⟩, hb2⟩
  have HB2 : Hid (Below w.heap.size w w2) := Lib.hid (HB0.out.trans (hb2.mono HB0.out.size))
  have HO : Hid (OwnS w2 w.heap.size A' n c' s) := Lib.hid ⟨own_monor ho.1 HB0.out.size, ho.2⟩
  have HCC := Lib.hid hcc
  clear hb2 c0 hl0 HCL ho hcc
  go_wp2_with fail
  go_ret
  exact ⟨⟨A', c', rfl, HO.out, HCC.out⟩, HB2.out⟩
theorem IsS.cells {w : World} {B n : Nat} {A : Option Addr} {s : Sp.S} (h : IsS w B A n s) {i : Nat} (hi : i < n) : ∃ b o x0 x1, A = some ⟨b, o, none⟩ ∧ b < B ∧ s[i]? = some (x0, x1) ∧ w.cell? ⟨b, o + i * 2, none⟩ = some (.int .u8 (x0 : Nat)) ∧ w.cell? ⟨b, o + i * 2 + 1, none⟩ = some (.int .u8 (x1 : Nat)) := by
  obtain ⟨b, o, hf⟩ := h.form
  obtain ⟨e, hb, hc⟩ := hf.out (by omega)
  obtain ⟨⟨x0, x1⟩, hx⟩ : ∃ x, s[i]? = some x := ⟨_, List.getElem?_eq_getElem (by rw [h.2.1]; exact hi)⟩
  exact ⟨b, o, x0, x1, e, hb, hx, (hc i _ hx).1, (hc i _ hx).2⟩
set_option maxRecDepth 100000 in
set_option maxHeartbeats 1000000 in
theorem equal_any (A A' : Option Addr) (n n' c c' : Nat) (s t : Sp.S) (w : World) (hs : IsS w w.heap.size A n s) (ht : IsS w w.heap.size A' n' t) :
    Calls Tryz.prog 156 #[.slice A n c, .slice A' n' c'] w fun e w' => e = .returned (.bool (decide (s = t))) ∧ ∃ m, w' = w.drewN m := by
  have HS := Lib.hid hs; have HT := Lib.hid ht
  have hn63 := hs.2.2
  have hn63' := ht.2.2
  obtain ⟨T, hT⟩ : ∃ T, T = decide (s = t) := ⟨_, rfl⟩
  have HTT := Lib.hid hT
  rw [← hT]
  clear hs ht hT
  go_enter Tryz.func156, Tryz.ntmps156
  by_cases hnn : n = n'
  · subst hnn
    go_wp2_with fail
    go_loopw [13] (fun x wr => ∃ i : Nat, i ≤ n ∧ x = .int .i64 (i : Nat) ∧ Hid (s.take i = t.take i) ∧ ∃ m, wr = w.drewN m) (fun x _ => n - (intOf x).toNat)
    case atStart => exact ⟨0, by omega, rfl, Lib.hid rfl, 0, rfl⟩
    case round =>
    obtain ⟨i, hi, rfl, HQ, m, rfl⟩ := hrel
    by_cases hin : i < n
    · obtain ⟨b, o, x0, x1, rfl, hbl, hx, y0, y1⟩ := HS.out.cells hin
      obtain ⟨b', o', z0, z1, rfl, hbl', hz, v0, v1⟩ := HT.out.cells hin
      have y0' : (w.drewN m).cell? ⟨b, o + i * 2, none⟩ = some (.int .u8 (x0 : Nat)) := y0
      have y1' : (w.drewN m).cell? ⟨b, o + i * 2 + 1, none⟩ = some (.int .u8 (x1 : Nat)) := y1
      have v0' : (w.drewN m).cell? ⟨b', o' + i * 2, none⟩ = some (.int .u8 (z0 : Nat)) := v0
      have v1' : (w.drewN m).cell? ⟨b', o' + i * 2 + 1, none⟩ = some (.int .u8 (z1 : Nat)) := v1
      have hbw : b < (w.drewN m).heap.size := hbl
      have hbw' : b' < (w.drewN m).heap.size := hbl'
      have hi0 : (0 : Int) ≤ (i : Int) := by omega
      have hi1 : (i : Int) < (n : Int) := by omega
      have HX := Lib.hid hx; have HZ := Lib.hid hz
      clear hx hz y0 y1 v0 v1 hbl hbl'
      obtain ⟨wm, hwm⟩ : ∃ wm, wm = w.drewN m := ⟨_, rfl⟩
      rw [← hwm] at y0' y1' v0' v1' hbw hbw' ⊢
      have HWM := Lib.hid hwm
      clear hwm
      by_cases hxz : x0 = z0 ∧ x1 = z1
      · obtain ⟨rfl, rfl⟩ := hxz
        have HN : Hid (s.take (i + 1) = t.take (i + 1)) := Lib.hid (by rw [List.take_add_one, List.take_add_one, HX.out, HZ.out, HQ.out])
        go_upto_region 6 with fail
        go_quiet (fail)
        go_wp2_with fail
        go_roundw
        case rel => exact ⟨i + 1, by omega, by go_num, HN, m + nq, by rw [HWM.out, World.drewN_drewN]⟩
        case measure => simp [intOf]; omega
      · have HN : Hid (T = false) := Lib.hid (by
          rw [HTT.out, decide_eq_false]
          intro e
          subst e
          have h := HX.out
          rw [HZ.out] at h
          injection h with h
          injection h with h1 h2
          exact hxz ⟨h1.symm, h2.symm⟩)
        have hq : ∀ wx : World, (binOp .neq 102 (.agg #[.int .u8 (x0 : Nat), .int .u8 (x1 : Nat)]) (.agg #[.int .u8 (z0 : Nat), .int .u8 (z1 : Nat)])).run Tryz.prog wx = .ok (.bool true) wx := fun wx => by
          by_cases h1 : x0 = z0
          · have h2 : ¬ x1 = z1 := fun h2 => hxz ⟨h1, h2⟩
            go_simp
            omega
          · go_simp
            omega
        clear hxz
        go_upto_region 6 with fail
        go_quiet (fail)
        go_wp2_with fail
        go_ret
        exact ⟨by rw [HN.out]; rfl, m + nq, by rw [HWM.out, World.drewN_drewN]⟩
    · have HN : Hid (T = true) := Lib.hid (by
        rw [HTT.out]
        refine decide_eq_true ?_
        have h := HQ.out
        rw [List.take_of_length_le (by have := HS.out.2.1; omega), List.take_of_length_le (by have := HT.out.2.1; omega)] at h
        exact h)
      go_wp2_with fail
      go_ret
      exact ⟨by rw [HN.out]; rfl, m, rfl⟩
  · have HN : Hid (T = false) := Lib.hid (by
      rw [HTT.out]
      refine decide_eq_false ?_
      intro e
      subst e
      exact hnn (HS.out.2.1.symm.trans HT.out.2.1))
    have f1 : ((n : Int) != (n' : Int)) = true := by simp; omega
    go_wp2_with fail
    go_ret
    exact ⟨by rw [HN.out]; rfl, 0, rfl⟩
set_option maxRecDepth 100000 in
set_option maxHeartbeats 1000000 in
theorem ssame_any (A A' : Option Addr) (n n' c c' : Nat) (s t : Sp.S) (w : World) (hs : IsSet w A n c s) (ht : IsSet w A' n' c' t) :
    Calls Tryz.prog 69 #[setV A n c, setV A' n' c'] w fun e w' => e = .returned (.bool (decide (s = t))) ∧ Below w.heap.size w w' := by
  have HEQ : Hid (∀ wx, Below w.heap.size w wx → Calls Tryz.prog 156 #[.slice A n c, .slice A' n' c'] wx fun e w' => e = .returned (.bool (decide (s = t))) ∧ Below wx.heap.size wx w') := Lib.hid fun wx hb => (equal_any A A' n n' c c' s t wx (hs.below hb).1 (ht.below hb).1).mono (fun e w' hh => ⟨hh.1, by obtain ⟨m, rfl⟩ := hh.2; exact below_drewN (Below.refl _ _) m⟩)
  unfold setV
  obtain ⟨T, hT⟩ : ∃ T, T = decide (s = t) := ⟨_, rfl⟩
  rw [← hT] at HEQ ⊢
  clear hs ht hT
  go_enter Tryz.func69, Tryz.ntmps69
  go_upto_region 1 with fail
  have r0 : Row ((w.alloc (.cells #[.slice A n c] 95)).alloc (.cells #[.slice A' n' c'] 95)) w.heap.size 95 [.slice A n c] := (Row.new w _ [.slice A n c]).alloc _
  have r1 : Row ((w.alloc (.cells #[.slice A n c] 95)).alloc (.cells #[.slice A' n' c'] 95)) (w.heap.size + 1) 95 [.slice A' n' c'] := by
    have h := Row.new (w.alloc (.cells #[.slice A n c] 95)) 95 [.slice A' n' c']
    rw [show (w.alloc (.cells #[.slice A n c] 95)).heap.size = w.heap.size + 1 by simp] at h
    exact h
  have hb0 : Below w.heap.size w ((w.alloc (.cells #[.slice A n c] 95)).alloc (.cells #[.slice A' n' c'] 95)) := ((Below.refl _ _).alloc (Nat.le_refl _) _).alloc (by simp) _
  generalize (w.alloc (.cells #[.slice A n c] 95)).alloc (.cells #[.slice A' n' c'] 95) = w1 at *
  have c0 := r0.cell 0
  have d0 := r1.cell 0
  have hl0 := r0.lt
  have hl1 := r1.lt
  simp only [List.getElem?_cons_zero] at c0 d0
  have HB0 := Lib.hid hb0
  clear hb0 r0 r1
  go_wp2_with fail
  refine (HEQ.out w1 HB0.out).mono ?_
  rintro e w2 ⟨rfl, hb2⟩
  have HB2 : Hid (Below w.heap.size w w2) := Lib.hid (HB0.out.trans (hb2.mono HB0.out.size))
  clear hb2 c0 d0 hl0 hl1 HEQ
  go_wp2_with fail
  go_ret
  exact ⟨rfl, HB2.out⟩
end ST
end Go.Proofs.YtchajbegjajlkaaGreat

/- The walk of Of without a span. -/
set_option linter.unusedVariables false
set_option linter.unusedSimpArgs false
namespace Go.Proofs.YtchajbegjajlkaaGreat
open Go.RowKit
namespace ST
set_option maxRecDepth 100000 in
set_option maxHeartbeats 1000000 in
theorem of_nil (w : World) :
    Calls Tryz.prog 72 #[.slice none 0 0] w fun e w' => e = .returned (.agg #[.slice none 0 0]) ∧ Below w.heap.size w w' := by
  go_enter Tryz.func72, Tryz.ntmps72
  go_wp2_with fail
  have hb0 : Below w.heap.size w (w.alloc (.cells #[.slice none 0 0] 95)) := (Below.refl _ _).alloc (Nat.le_refl _) _
  have hr0 : Row (w.alloc (.cells #[.slice none 0 0] 95)) w.heap.size 95 [.slice none 0 0] := Row.new w _ [.slice none 0 0]
  generalize w.alloc (.cells #[.slice none 0 0] 95) = w1 at *
  have HB := Lib.hid (hb0.setCell (p := ⟨w.heap.size, 0, none⟩) (Nat.le_refl _) (.slice none 0 0))
  have HP := Lib.hid ((hr0.set_ 0 (.slice none 0 0)).cell 0)
  have z0 := hr0.cell 0
  have zf := hr0.frozen 0
  have zl := hr0.lt
  simp only [List.set_cons_zero, List.getElem?_cons_zero] at z0 HP
  clear hb0 hr0
  go_loopw [3, 12] (fun l i wr => l = .slice none 0 0 ∧ i = .int .i64 0 ∧ wr = w1) (fun _ _ _ => 0)
  case atStart => exact ⟨rfl, rfl, rfl⟩
  case round =>
  obtain ⟨rfl, rfl, rfl⟩ := hrel
  go_wp2_with (go_at_call 160; refine (sort_small none 0 0 _ (by omega)).mono ?_; rintro e w' ⟨rfl, rfl⟩)
  go_wp2_with fail
  go_loopw [6, 28] (fun o i wx => o = .slice none 0 0 ∧ i = .int .i64 0 ∧ wx = wr) (fun _ _ _ => 0)
  case atStart => exact ⟨rfl, rfl, rfl⟩
  case round =>
  obtain ⟨rfl, rfl, rfl⟩ := hrel
  go_wp2_with fail
  have p0 := HP.out
  exact bodyPost_ret (v := .agg #[.slice none 0 0]) (by simp [results, Tryz.results72, go_sem, p0]) rfl ⟨rfl, HB.out⟩
end ST
end Go.Proofs.YtchajbegjajlkaaGreat

/- A list of numbers of 64 bits in memory. -/
set_option linter.unusedVariables false
set_option linter.unusedSimpArgs false
namespace Go.Proofs.YtchajbegjajlkaaGreat
open Go.RowKit
/-- a list of numbers of 64 bits -/
def IsU (w : World) (B : Nat) (A : Option Addr) (n : Nat) (l : List Nat) : Prop := Reads w B 1 A n (l.map fun x => .int .u64 (x : Nat)) ∧ l.length = n ∧ n ≤ 9223372036854775807 ∧ ∀ x ∈ l, x ≤ 18446744073709551615
theorem IsU.below {w w' : World} {B n : Nat} {A : Option Addr} {l : List Nat} (h : IsU w B A n l) (hb : Below B w w') : IsU w' B A n l := ⟨h.1.below hb, h.2⟩
theorem IsU.more {w : World} {B B' n : Nat} {A : Option Addr} {l : List Nat} (h : IsU w B A n l) (hb : B ≤ B') : IsU w B' A n l := ⟨h.1.more hb, h.2⟩
theorem IsU.cells {w : World} {B n : Nat} {A : Option Addr} {l : List Nat} (h : IsU w B A n l) (h0 : 0 < n) : ∃ b o, A = some ⟨b, o, none⟩ ∧ b < B ∧ ∀ i, i < n → ∃ x, l[i]? = some x ∧ x ≤ 18446744073709551615 ∧ w.cell? ⟨b, o + i, none⟩ = some (.int .u64 (x : Nat)) := by
  obtain ⟨ad, e, hl, hc⟩ := h.1.2 h0
  obtain ⟨b, o, sp⟩ := ad
  have hg : ∀ i, i < n → ∃ x, l[i]? = some x ∧ x ≤ 18446744073709551615 := fun i hi => by
    have h1 := List.getElem?_eq_getElem (show i < l.length by rw [h.2.1]; exact hi)
    exact ⟨_, h1, h.2.2.2 _ (List.mem_of_getElem? h1)⟩
  have hs : sp = none := by
    obtain ⟨x, hx, _⟩ := hg 0 h0
    have h1 := hc 0 (.int .u64 (x : Nat)) (by rw [List.getElem?_map, hx]; rfl)
    have := World.cell?_spot h1
    simpa [Addr.add] using this
  subst hs
  refine ⟨b, o, e, hl, fun i hi => ?_⟩
  obtain ⟨x, hx, hx2⟩ := hg i hi
  refine ⟨x, hx, hx2, ?_⟩
  have h1 := hc i (.int .u64 (x : Nat)) (by rw [List.getElem?_map, hx]; rfl)
  rwa [Addr.add_mid] at h1
end Go.Proofs.YtchajbegjajlkaaGreat

/- An append onto a row of the call's own, as one operation. -/
set_option linter.unusedVariables false
set_option linter.unusedSimpArgs false
namespace Go.Proofs.YtchajbegjajlkaaGreat
open Go.RowKit
theorem wp_append_sl {P : Program} (w : World) {o : Oper} {a : Act} {K : Act → World → Prop} {Q : Exit → Act → World → Prop} (s x : Operand) (t : TypeId)
    (ho : o.op = .call { callee := .builtin .append, args := #[s, x], argTypes := #[t, t] })
    (base : Nat) (e : TypeId) (i : TypeInfo) (z : Value) (size bytes : Nat) (ht : P.underlying t = some (.slice e)) (hi : P.info? e = some i) (hz : i.zero = some z)
    (hsize : i.size = size) (hby : i.bytes = bytes) (hzs : z.cells.size = size) (hsz : 0 < size)
    (v : Value) (n : Nat) (xs : List Value) (hs : a.eval s = v) (hown : w.ownsRow base e size v n xs)
    (B : Nat) (A : Option Addr) (m c : Nat) (news : List Value) (hx : a.eval x = .slice A m c) (hr : Reads w B size A m news) (h1 : ∀ u ∈ news, u.oneCell' = true)
    (h63 : n + m ≤ maxLen) (hbytes : (n + m) * bytes ≤ 140737488355328) (hbase : base ≤ w.heap.size)
    (h : ∀ A' c' w', w'.ownsRow base e size (.slice A' (n + m) c') (n + m) (xs ++ news) → Reads w' w'.heap.size size A' (n + m) (xs ++ news) → w.grownBy w' v.ownBlock →
      ((Value.slice A' (n + m) c').ownBlock = v.ownBlock ∨ (Value.slice A' (n + m) c').ownBlock = some w.heap.size) → K (a.put o.dst (.slice A' (n + m) c')) w') : o.wp P a w K Q :=
  wp_append_any w s x t ho base e i z size bytes ht hi hz hsize hby hzs hsz v n xs hs hown B A m c news hx hr h1 h63 hbytes hbase fun v' w' h2 h3 h4 => by
    obtain ⟨A', c', rfl, hR⟩ := own_slice h2
    exact h A' c' w' h2 hR h3 h4
end Go.Proofs.YtchajbegjajlkaaGreat

/- The walks of the book's small helpers over bytes: Beyond, Same, Roomy, Intact. -/
set_option linter.unusedVariables false
set_option linter.unusedSimpArgs false
namespace Go.Proofs.YtchajbegjajlkaaGreat
open Go.RowKit

def i64 (x : Nat) : Value := .int .i64 (x : Int)
/-- are so many, together, above what is left? -/
def beyondL : Nat → List Nat → Bool
  | _, [] => false
  | left, x :: r => if left < x then true else beyondL (left - x) r
theorem form_of {α : Type} (f : α → Value) (d : α) {w : World} {B n : Nat} {A : Option Addr} {xs : List α} (h : Reads w B 1 A n (xs.map f)) :
    xs.length = n ∧ ∃ b off, Hid (0 < n → A = some ⟨b, off, none⟩ ∧ b < B ∧ ∀ k, k < n → w.cell? ⟨b, off + k, none⟩ = some (f (xs.getD k d))) := by
  have hl : xs.length = n := by have := h.1; simpa using this
  refine ⟨hl, ?_⟩
  rcases Nat.eq_zero_or_pos n with h0 | h0
  · exact ⟨0, 0, fun h => absurd h (by omega)⟩
  · obtain ⟨⟨b, off, sp⟩, rfl, hb, hc⟩ := h.2 h0
    have hx : ∀ k, k < n → (xs.map f)[k]? = some (f (xs.getD k d)) := fun k hk => by
      simp [List.getD_eq_getElem?_getD, show k < xs.length by omega]
    have hs : sp = none := by
      have := World.cell?_spot (hc 0 _ (hx 0 h0))
      simpa [Addr.add] using this
    subst hs
    refine ⟨b, off, fun _ => ⟨rfl, hb, fun k hk => ?_⟩⟩
    have := hc k _ (hx k hk)
    unfold Addr.add at this
    split at this
    · rename_i h0; subst h0; simpa using this
    · simpa using this
theorem drop_at {α : Type} (d : α) (xs : List α) (k : Nat) (h : k < xs.length) : xs.drop k = xs.getD k d :: xs.drop (k + 1) := by
  rw [List.drop_eq_getElem_cons h]; simp [List.getD_eq_getElem?_getD, h]

set_option maxHeartbeats 400000 in
theorem beyond_any (A : Option Addr) (n c : Nat) (xs : List Nat) (w : World) (hr : Reads w w.heap.size 1 A n (xs.map i64)) (hn : n ≤ 1000000) (hx : ∀ x ∈ xs, x ≤ 9223372036854775807) :
    Calls Tryz.prog 6 #[.slice A n c] w fun e w' => e = .returned (.bool (beyondL 2147483647 xs)) ∧ w = w' := by
  obtain ⟨hl, b, off, HF⟩ := form_of i64 0 hr
  have HL := Lib.hid hl; clear hl
  go_enter Tryz.func6, Tryz.ntmps6
  go_wp2
  go_loop [3, 4] (fun l i => ∃ j k : Nat, j ≤ n ∧ i = .int .i64 j ∧ k ≤ 2147483647 ∧ l = .int .i64 k ∧ Hid (beyondL k (xs.drop j) = beyondL 2147483647 xs)) (fun _ i => n - (intOf i).toNat)
  case atStart => exact ⟨0, 2147483647, by omega, rfl, by omega, rfl, Lib.hid (by simp)⟩
  case round =>
    obtain ⟨j, k, hj, rfl, hk, rfl, HB⟩ := hrel
    by_cases hjn : j < n
    · obtain ⟨hA, hbB, hc⟩ := HF.out (by omega)
      subst hA
      have hcj := hc j hjn
      have hd := drop_at 0 xs j (by have := HL.out; omega)
      have hxm := hx _ (by rw [List.getD_eq_getElem?_getD]; simp [show j < xs.length by have := HL.out; omega] : xs.getD j 0 ∈ xs)
      obtain ⟨x, hxe⟩ : ∃ x, x = xs.getD j 0 := ⟨_, rfl⟩
      rw [← hxe] at hcj hd hxm
      unfold i64 at hcj
      have HD := Lib.hid hd
      clear hc hd hxe hx
      by_cases hgt : k < x
      · go_wp2
        go_ret
        exact ⟨ret_bool (by rw [← HB.out, HD.out, beyondL, if_pos hgt]), rfl⟩
      · go_wp2
        go_round
        case rel => exact ⟨j + 1, k - x, by omega, by go_num, by omega, by go_num, Lib.hid (by have := HB.out; rw [HD.out, beyondL, if_neg hgt] at this; exact this)⟩
        case measure => simp [intOf]; omega
    · have HJ : Hid (j = n) := Lib.hid (by omega)
      go_wp2
      go_ret
      exact ⟨ret_bool (by rw [← HB.out, HJ.out, List.drop_of_length_le (by have := HL.out; omega)]; rfl), rfl⟩

theorem madeCells_one (z : Value) (n : Nat) : madeCells #[z] n = (List.replicate n z).toArray := by
  unfold madeCells
  apply Array.ext
  · simp
  · intro i h1 h2
    simp [Nat.mod_one]
/-- what Roomy fills: the list, k marks, what is not filled yet -/
def fillM (X : List Value) (M : Value) (k : Nat) : List Value := X ++ (List.replicate k M ++ List.replicate (80 - k) (.int .u8 0))
theorem fillM_len (X : List Value) (M : Value) (k : Nat) (hk : k ≤ 80) : (fillM X M k).length = X.length + 80 := by simp [fillM]; omega
theorem fillM_set (X : List Value) (M : Value) (k : Nat) (hk : k < 80) : (fillM X M k).set (X.length + k) M = fillM X M (k + 1) := by
  unfold fillM
  rw [List.set_append_right _ _ (by omega), List.set_append_right _ _ (by simp)]
  congr 1
  rw [show 80 - k = (80 - (k + 1)) + 1 by omega, List.replicate_succ, List.replicate_succ']
  simp
theorem fillM_get (X : List Value) (M : Value) (k : Nat) (hk : k < 80) : (fillM X M k)[X.length + k]? = some (.int .u8 0) := by
  unfold fillM
  rw [List.getElem?_append_right (by omega), List.getElem?_append_right (by simp)]
  have : 80 - k ≠ 0 := by omega
  rw [List.getElem?_replicate, if_pos (by rw [List.length_replicate]; omega)]
theorem fillM_start (X : List Value) (M : Value) : splice (List.replicate (X.length + 80) (.int .u8 0)) 0 X = fillM X M 0 := by
  simp [splice, fillM]
theorem fillM_end (X : List Value) (M : Value) : fillM X M 80 = X ++ List.replicate 80 M := by simp [fillM]
theorem info5 : (Tryz.prog.info? 5).map (fun i => (i.zero, i.size, i.bytes)) = some (some (.int .u8 0), 1, 1) := by kernel_rfl
theorem size5 : (Tryz.prog.info? 5).map (·.size) = some 1 := by kernel_rfl

theorem fillM_end_get (X : List Value) (M : Value) (k : Nat) (hk : k < 80) : (fillM X M 80)[X.length + k]? = some M := by
  rw [fillM_end, List.getElem?_append_right (by omega), List.getElem?_replicate, if_pos (by omega)]
theorem fillM_take (X : List Value) (M : Value) : ((fillM X M 80).drop 0).take X.length = X := by
  rw [fillM_end]; simp
theorem room_isB {w : World} {g n m B : Nat} {bs : List Nat} (h : Row w g 5 (fillM (bs.map u8) (u8 m) 80)) (hl : bs.length = n) (hb : ∀ b ∈ bs, b < 256) (hB : g < B) (hn : n ≤ 9223372036854775807) : IsB w B (some ⟨g, 0, none⟩) n bs := by
  refine IsB.of_row h ?_ hl hb hB hn ?_
  · have := fillM_take (bs.map u8) (u8 m)
    rwa [List.length_map, hl] at this
  · rw [fillM_len _ _ _ (by omega)]; simp; omega

end Go.Proofs.YtchajbegjajlkaaGreat

/- The walk of the law's pair. -/
set_option linter.unusedVariables false
set_option linter.unusedSimpArgs false
namespace Go.Proofs.YtchajbegjajlkaaGreat
open Go.RowKit
namespace S8
/-- a number as far as the type holds it -/
abbrev cutN (x : Nat) : Nat := x % 256
theorem cutN_le (x : Nat) : cutN x ≤ TOP := by unfold cutN TOP; omega
set_option maxRecDepth 100000 in
set_option maxHeartbeats 1000000 in
theorem pair_any (x y : Nat) (w : World) (hx : x ≤ 18446744073709551615) (hy : y ≤ 18446744073709551615) :
    Calls Tryz.prog 10 #[.int .u64 (x : Nat), .int .u64 (y : Nat)] w fun e w' => e = .returned (.agg #[.int .u8 (cutN x : Nat), .int .u8 (cutN y : Nat)]) ∧ Below w.heap.size w w' := by
  obtain ⟨a, ha⟩ : ∃ a, a = cutN x := ⟨_, rfl⟩
  obtain ⟨b, hb⟩ : ∃ b, b = cutN y := ⟨_, rfl⟩
  have e1 : IntKind.u8.wrap (x : Int) = (a : Int) := by rw [IntKind.wrap_u8, ha]; unfold cutN; omega
  have e2 : IntKind.u8.wrap (y : Int) = (b : Int) := by rw [IntKind.wrap_u8, hb]; unfold cutN; omega
  rw [← ha, ← hb]
  clear ha hb hx hy
  go_enter Tryz.func10, Tryz.ntmps10
  have HB : Hid (Below w.heap.size w (w.alloc (.cells #[.int .u8 (a : Nat), .int .u8 (b : Nat)] 32))) := Lib.hid ((Below.refl _ _).alloc (Nat.le_refl _) _)
  have hr := Row.new w 32 [.int .u8 0, .int .u8 0]
  have hb0 : Below w.heap.size w (w.alloc (.cells #[.int .u8 0, .int .u8 0] 32)) := (Below.refl _ _).alloc (Nat.le_refl _) _
  go_upto_region 1 with fail
  generalize w.alloc (.cells #[.int .u8 0, .int .u8 0] 32) = w1 at *
  have r2 := (hr.set_ 0 (.int .u8 (a : Nat))).set_ 1 (.int .u8 (b : Nat))
  have HBZ := Lib.hid ((hb0.setCell (p := ⟨w.heap.size, 0, none⟩) (Nat.le_refl _) (.int .u8 (a : Nat))).setCell (p := ⟨w.heap.size, 1, none⟩) (Nat.le_refl _) (.int .u8 (b : Nat)))
  have f0 := hr.frozen 0
  have f1 := hr.frozen 1
  have c0 := hr.cell 0
  have c1 := hr.cell 1
  have cl := hr.lt
  have HP0 := Lib.hid ((hr.set_ 0 (.int .u8 (a : Nat))).cell 0)
  have HP1 := Lib.hid (r2.cell 1)
  simp only [List.set_cons_zero, List.set_cons_succ, List.getElem?_cons_zero, List.getElem?_cons_succ] at c0 c1 HP0 HP1
  clear hr hb0 r2
  go_wp2_with fail
  have p0 := HP0.out
  have p1 := HP1.out
  exact bodyPost_ret (v := .agg #[.int .u8 (a : Nat), .int .u8 (b : Nat)]) (by simp [results, Tryz.results10, go_sem, p0, p1]) rfl ⟨rfl, HBZ.out⟩
end S8
end Go.Proofs.YtchajbegjajlkaaGreat

/- The shelf's contract of slices.SortFunc, at a list of spans of one's own. -/
set_option linter.unusedVariables false
set_option linter.unusedSimpArgs false
namespace Go.Proofs.YtchajbegjajlkaaGreat
open Go.RowKit
namespace S8
/-- what the closure of Of tells of two spans -/
def cmpF (x y : Nat × Nat) : Int := if x.1 < y.1 then -1 else if y.1 < x.1 then 1 else 0
theorem cmpF_lt (x y : Nat × Nat) : ltOf cmpF x y = decide (x.1 < y.1) := by
  unfold ltOf cmpF
  by_cases h1 : x.1 < y.1
  · simp [h1]
  · by_cases h2 : y.1 < x.1 <;> simp [h1, h2]
theorem cmpF_swo : Go.Sort.SWO (ltOf cmpF) where
  irrefl x := by rw [cmpF_lt]; simp
  trans x y z h1 h2 := by rw [cmpF_lt] at *; simp at *; omega
  ntrans x y z h1 h2 := by rw [cmpF_lt] at *; simp at *; omega
theorem flat_flatK (s : Sp.S) : (Go.Sort.flatK scell 2 s.toArray).toList = (s.map scell).flatten := by
  have hl := flat_len (s := 2) _ (scell_len s)
  rw [List.length_map] at hl
  refine List.ext_getElem? fun i => ?_
  by_cases hi : i < 2 * s.length
  · have hj : i / 2 < s.length := by omega
    have h1 : (s.map scell).flatten[i]? = (scell s[i / 2])[i % 2]? := by
      have h := flat_cell (s := 2) _ (scell_len s) (i / 2) (i % 2) (scell s[i / 2]) (by simp [hj]) (by omega)
      rw [← h]
      congr 1
      omega
    have hm : i % 2 < (scell s[i / 2]).length := by show i % 2 < 2; omega
    rw [h1, Array.getElem?_toList]
    simp only [Go.Sort.flatK, Array.getElem?_map]
    rw [Array.getElem?_eq_getElem (by simp; omega)]
    simp only [Option.map_some, Array.getElem_range, List.getElem!_toArray]
    rw [getElem!_pos s (i / 2) hj, getElem!_pos (scell s[i / 2]) (i % 2) hm, List.getElem?_eq_getElem hm]
  · rw [List.getElem?_eq_none (by simp; omega), List.getElem?_eq_none (by omega)]
theorem take_putCellsK (cur F : Array Value) (h : F.size ≤ cur.size) : (Go.Sort.putCells id 0 F cur).toList.take F.size = F.toList := by
  refine List.ext_getElem? fun j => ?_
  by_cases hj : j < F.size
  · rw [List.getElem?_take_of_lt hj, Array.getElem?_toList]
    simp [Go.Sort.putCells, hj, show j < cur.size by omega]
  · rw [List.getElem?_take_eq_none (by omega), List.getElem?_eq_none (by simp; omega)]
theorem sorted_block {w : World} {g : Nat} {fr : Nat × Nat} {e : TypeId} {cur : Array Value} (h : w.heap[g]? = some (.cells cur e fr)) (m : Nat) (d : Array (Nat × Nat)) (os : Array Obj) :
    (sortWorldK scell 2 w g 0 m d os).heap[g]? = some (.cells (Go.Sort.putCells id 0 (Go.Sort.flatK scell 2 d) cur) e fr) := by
  have hg : g < w.heap.size := (Array.getElem?_eq_some_iff.1 h).1
  unfold sortWorldK Go.Sort.grow Go.Sort.putRowK Go.Sort.putRow Go.Sort.mapBlock Go.Sort.ahead
  simp only
  rw [Array.getElem?_append_left (by simpa using hg), Array.getElem?_modify, if_pos rfl, h]
  rfl
theorem sorted_chg (w : World) (g m : Nat) (d : Array (Nat × Nat)) (os : Array Obj) : Chg [g] w (sortWorldK scell 2 w g 0 m d os) := by
  unfold sortWorldK Go.Sort.grow Go.Sort.putRowK Go.Sort.putRow Go.Sort.mapBlock Go.Sort.ahead
  refine ⟨rfl, rfl, rfl, by simp, fun k hk hne => ?_⟩
  simp only
  rw [Array.getElem?_append_left (by simpa using hk), Array.getElem?_modify, if_neg (by simpa using fun e : g = k => hne (by simp [e]))]
theorem sorted_own {w : World} {B n c g : Nat} {s s' : Sp.S} (h : OwnS w B (some ⟨g, 0, none⟩) n c s) (hl : s'.length = s.length) (m : Nat) (os : Array Obj) :
    OwnS (sortWorldK scell 2 w g 0 m s'.toArray os) B (some ⟨g, 0, none⟩) n c s' := by
  obtain ⟨⟨hx, h1⟩, hn⟩ := h
  rcases h1 with ⟨h1, _⟩ | ⟨g', cap, cur, e, hB, hh, hc, hm, hs, ht⟩
  · cases h1
  · cases e
    have hfl := flat_len (s := 2) _ (scell_len s')
    rw [List.length_map] at hfl
    have hfs : (Go.Sort.flatK scell 2 s'.toArray).size = n * 2 := by rw [Go.Sort.size_flatK]; simp [hl, hn]
    refine ⟨⟨by rw [hfl]; omega, .inr ⟨g, c, _, rfl, hB, sorted_block hh m _ os, hc, hm, by simp [Go.Sort.putCells, hs], ?_⟩⟩, by omega⟩
    rw [← flat_flatK, ← hfs]
    exact take_putCellsK _ _ (by rw [hfs, hs]; exact Nat.mul_le_mul_right 2 hc)
theorem own_holds {w : World} {B n c g : Nat} {s : Sp.S} (h : OwnS w B (some ⟨g, 0, none⟩) n c s) : Go.Sort.HoldsK scell 2 w g 0 s.toArray := by
  intro j hj
  rw [Go.Sort.size_flatK] at hj
  have hj2 : j < s.length * 2 := by simpa using hj
  have hfl := flat_len (s := 2) _ (scell_len s)
  rw [List.length_map] at hfl
  refine ⟨?_, h.1.frozenAt _⟩
  rw [Nat.zero_add, h.1.cellAt j (by have := h.2; omega), ← flat_flatK]
  have hz : j < (Go.Sort.flatK scell 2 s.toArray).size := by rw [Go.Sort.size_flatK]; simpa using hj2
  rw [getElem!_pos _ j hz, Array.getElem?_toList, Array.getElem?_eq_getElem hz]
  rfl
theorem perm_list {s : Sp.S} {d' : Array (Nat × Nat)} (h : Go.Sort.PermIn 0 s.toArray.size s.toArray d') (hs : Go.Sort.SortedIn (ltOf cmpF) 0 s.toArray.size d') : d'.toList.Perm s ∧ d'.toList.Pairwise (fun a b => a.1 ≤ b.1) := by
  obtain ⟨h1, _, h3⟩ := h
  have hsz : d'.size = s.length := by simpa using h1
  constructor
  · have e1 : (d'.extract 0 s.toArray.size).toList = d'.toList := by rw [← h1]; simp
    have e2 : (s.toArray.extract 0 s.toArray.size).toList = s := by simp
    rw [e1, e2] at h3
    exact h3
  · rw [List.pairwise_iff_getElem]
    intro i j hi hj hij
    have hi2 : i < d'.size := by simpa using hi
    have hj2 : j < d'.size := by simpa using hj
    have := hs i j (Nat.zero_le _) hij (by simp; omega)
    rw [cmpF_lt, getElem!_pos d' i hi2, getElem!_pos d' j hj2] at this
    have h5 := of_decide_eq_false this
    simp only [Array.getElem_toList]
    omega
set_option maxRecDepth 100000 in
set_option maxHeartbeats 1000000 in
theorem cmp_any (x y : Nat × Nat) (W : World) : Calls Tryz.prog 39 #[.agg (scell x).toArray, .agg (scell y).toArray] W fun e w' => e = .returned (.int .i64 (cmpF x y)) ∧ ∃ q os', w' = Go.Sort.grow (W.drewN q) os' := by
  obtain ⟨a, b⟩ := x
  obtain ⟨c, d⟩ := y
  obtain ⟨R, hR⟩ : ∃ R, R = cmpF (a, b) (c, d) := ⟨_, rfl⟩
  rw [← hR]
  unfold scell
  simp only []
  by_cases h1 : a < c
  · have f1 : decide (a < c) = true := decide_eq_true h1
    obtain rfl : R = -1 := by rw [hR]; unfold cmpF; rw [if_pos h1]
    clear hR h1
    go_enter Tryz.func39, Tryz.ntmps39
    go_wp2_with fail
    go_ret
    exact ⟨rfl, 0, _, by rw [Go.Sort.alloc_eq_grow, Go.Sort.alloc_eq_grow, Go.Sort.grow_grow]; rfl⟩
  · have f1 : decide (a < c) = false := decide_eq_false h1
    by_cases h2 : c < a
    · have f2 : decide (c < a) = true := decide_eq_true h2
      obtain rfl : R = 1 := by rw [hR]; unfold cmpF; rw [if_neg h1, if_pos h2]
      clear hR h1 h2
      go_enter Tryz.func39, Tryz.ntmps39
      go_wp2_with fail
      go_ret
      exact ⟨rfl, 0, _, by rw [Go.Sort.alloc_eq_grow, Go.Sort.alloc_eq_grow, Go.Sort.grow_grow]; rfl⟩
    · have f2 : decide (c < a) = false := decide_eq_false h2
      obtain rfl : R = 0 := by rw [hR]; unfold cmpF; rw [if_neg h1, if_neg h2]
      clear hR h1 h2
      go_enter Tryz.func39, Tryz.ntmps39
      go_wp2_with fail
      go_ret
      exact ⟨rfl, 0, _, by rw [Go.Sort.alloc_eq_grow, Go.Sort.alloc_eq_grow, Go.Sort.grow_grow]; rfl⟩
theorem cmp_lays (g n m : Nat) (w : World) : CmpLays Tryz.prog 39 #[] scell 2 cmpF g n m w := fun _ _ _ _ x y => cmp_any x y _
end S8
shelf_lay_g SlLaysF0.n6 Slsf 6 at Tryz 38 as S8.sortL
namespace S8
set_option maxRecDepth 100000 in
set_option maxHeartbeats 1000000 in
theorem sort_own (A : Option Addr) (n c B : Nat) (s : Sp.S) (w : World) (ho : OwnS w B A n c s) (hn : n ≤ 4398046511104) : Calls Tryz.prog 38 #[.slice A n c, .func (.func 39) #[] #[]] w fun e w' => e = .returned (.tuple #[]) ∧ ∃ s', s'.Perm s ∧ s'.Pairwise (fun a b => a.1 ≤ b.1) ∧ OwnS w' B A n c s' ∧ Chg (Value.slice A n c).ownBlock.toList w w' := by
  rcases Nat.lt_or_ge 0 n with h0 | h0
  · obtain ⟨g, rfl, hB, hg, _, _⟩ := own_somer ho.1 h0
    have eg : ∀ args w, (callFunc 39 args).run Tryz.prog w = .ok (.enter 39 args) w := enters_of Tryz.func39 (by kernel_rfl) rfl
    have hsz : s.toArray.size = n := by simp [ho.2]
    have h := AnyQ.slices_SortFunc sortL 2 Tryz.isAgg32 Tryz.sizeOf32 scell (fun _ => rfl) (fun x v hv => by simp [scell] at hv; rcases hv with rfl | rfl <;> rfl) cmpF cmpF_swo 39 #[] g 0 c s.toArray w eg (cmp_lays g 0 _ w) (own_holds ho) hg (by rw [hsz]; omega)
    change Calls Tryz.prog 38 _ _ _ at h
    rw [hsz] at h
    refine h.mono fun e w' hh => ?_
    obtain ⟨he, d', m, os, hp, hs, rfl⟩ := hh
    rw [← hsz] at hp hs
    obtain ⟨p1, p2⟩ := perm_list hp hs
    refine ⟨he, d'.toList, p1, p2, ?_, sorted_chg w g m d' os⟩
    have := sorted_own (s' := d'.toList) ho (by simpa using p1.length_eq) m os
    simpa using this
  · obtain rfl : n = 0 := by omega
    have hs0 : s = [] := List.length_eq_zero_iff.1 ho.2
    refine (sort_small A 0 c w (by omega)).mono fun e w' hh => ?_
    obtain ⟨he, rfl⟩ := hh
    exact ⟨he, s, List.Perm.refl _, by rw [hs0]; exact List.Pairwise.nil, ho, Chg.refl _ _⟩
end S8
end Go.Proofs.YtchajbegjajlkaaGreat
