/- The walks of a set's questions: find, Next, Touches; and of With and Less. -/
import Derived.Test.YtchajbegjajlkaaSpY64
import Derived.Deep.RegionHeld3
set_option linter.unusedVariables false
set_option linter.unusedSimpArgs false
namespace Go.Proofs.Ytchajbegjajlkaa
open Go.RowKit
namespace S64
/-- a set by value -/
def setV (A : Option Addr) (n c : Nat) : Value := .agg #[.slice A n c]
/-- a set, read -/
def IsSet (w : World) (A : Option Addr) (n c : Nat) (s : Sp.S) : Prop := IsS w w.heap.size A n s ∧ n ≤ c ∧ c ≤ 9223372036854775807 ∧ Sp.Nrm TOP s ∧ n ≤ 2199023255552
theorem IsSet.below {w w' : World} {A : Option Addr} {n c : Nat} {s : Sp.S} (h : IsSet w A n c s) (hb : Below w.heap.size w w') : IsSet w' A n c s := ⟨(h.1.below hb).more hb.size, h.2⟩
theorem IsSet.nil (w : World) : IsSet w none 0 0 [] := ⟨IsS.none_, by omega, by omega, Sp.Nrm.nil _, by omega⟩
theorem OwnS.isSet {w : World} {B n c : Nat} {A : Option Addr} {s : Sp.S} (h : OwnS w B A n c s) (hn : Sp.Nrm TOP s) (hl : n ≤ 2199023255552) : IsSet w A n c s := by
  have hc : n ≤ c ∧ c ≤ 9223372036854775807 := by
    rcases h.1.2 with ⟨h1, h2⟩ | ⟨g, cap, cur, h1, _, _, h3, h4, _⟩
    · injection h1 with _ _ h1; omega
    · injection h1 with _ _ h1; unfold maxLen at h4; omega
  exact ⟨⟨Reads.of_own h.1, h.2, by omega⟩, hc.1, hc.2, hn, hl⟩
/-- what a set's making leaves -/
def Made (w : World) (f : Bool → Bool → Bool) (s t : Sp.S) (e : Ending) (w' : World) : Prop := ∃ A n c out, e = .returned (setV A n c) ∧ OwnS w' w.heap.size A n c out ∧ Sp.Mk TOP f s t out ∧ Below w.heap.size w w'
set_option maxRecDepth 100000 in
set_option maxHeartbeats 1000000 in
theorem or_any (A A' : Option Addr) (n c n' c' : Nat) (s t : Sp.S) (w : World) (hs : IsSet w A n c s) (ht : IsSet w A' n' c' t) (hsm : n + n' ≤ 2199023255552) :
    Calls Try.prog 11 #[setV A n c, setV A' n' c'] w (Made w (fun a b => a || b) s t) := by
  unfold setV
  have HM : Hid (∀ wx, Below w.heap.size w wx → Calls Try.prog 32 #[.agg #[.slice A n c], .agg #[.slice A' n' c'], .func (.func 33) #[] #[]] wx fun e w' => ∃ Ao no co out, e = .returned (.agg #[.slice Ao no co]) ∧ OwnS w' wx.heap.size Ao no co out ∧ Sp.Mk TOP (fun a b => a || b) s t out ∧ Below wx.heap.size wx w') := Lib.hid fun wx hb =>
    make_or _ A A' n c n' c' s t wx or_keeps ((hs.1.below hb).more hb.size) ((ht.1.below hb).more hb.size) hs.2.1 hs.2.2.1 ht.2.1 ht.2.2.1 hs.2.2.2.1 ht.2.2.2.1 hsm
  clear hs ht
  go_enter Try.func11, Try.ntmps11
  go_upto_region 1 with fail
  have hb3 : Below w.heap.size w (((w.alloc (.cells #[.slice A n c] 26)).alloc (.cells #[.slice A' n' c'] 26)).alloc (.cells #[.slice none 0 0] 26)) := (((Below.refl _ _).alloc (Nat.le_refl _) _).alloc (by simp) _).alloc (by simp; omega) _
  have r2 : Row (((w.alloc (.cells #[.slice A n c] 26)).alloc (.cells #[.slice A' n' c'] 26)).alloc (.cells #[.slice none 0 0] 26)) (w.heap.size + 1 + 1) 26 [.slice none 0 0] := by
    have h := Row.new ((w.alloc (.cells #[.slice A n c] 26)).alloc (.cells #[.slice A' n' c'] 26)) 26 [.slice none 0 0]
    rw [show ((w.alloc (.cells #[.slice A n c] 26)).alloc (.cells #[.slice A' n' c'] 26)).heap.size = w.heap.size + 1 + 1 by simp] at h
    exact h
  have HB3 := Lib.hid hb3; have HR2 := Lib.hid r2
  clear hb3 r2
  go_wp2_with fail
  refine (HM.out _ HB3.out).mono ?_
  rintro e w4 ⟨Ao, no, co, out, rfl, hown, hmk, hb4⟩
  have hr4 := HR2.out.below hb4 HR2.out.lt
  have z0 := hr4.cell 0
  have z1 := hr4.frozen 0
  have zl := hr4.lt
  simp only [List.getElem?_cons_zero] at z0
  have HR4 : Hid (Row (w4.setCell ⟨w.heap.size + 1 + 1, 0, none⟩ (.slice Ao no co)) (w.heap.size + 1 + 1) 26 [.slice Ao no co]) := Lib.hid (hr4.set_ 0 _)
  have z2 := HR4.out.cell 0
  simp only [List.getElem?_cons_zero] at z2
  have HO : Hid (OwnS (w4.setCell ⟨w.heap.size + 1 + 1, 0, none⟩ (.slice Ao no co)) w.heap.size Ao no co out) := Lib.hid ⟨own_setr (own_monor hown.1 HB3.out.size) hr4 (by decide) 0 _, hown.2⟩
  have HBB : Hid (Below w.heap.size w (w4.setCell ⟨w.heap.size + 1 + 1, 0, none⟩ (.slice Ao no co))) := Lib.hid ((HB3.out.trans (hb4.mono HB3.out.size)).setCell (p := ⟨w.heap.size + 1 + 1, 0, none⟩) (Nat.le_trans (Nat.le_succ _) (Nat.le_succ _)) _)
  have HMK := Lib.hid hmk
  clear hown hmk hb4 hr4 HM HB3 HR2
  go_wp2_with fail
  refine bodyPost_ret (v := .agg #[.slice Ao no co]) (by simp [results, Try.results11, go_sem, z2]) rfl ⟨Ao, no, co, out, rfl, HO.out, HMK.out, HBB.out⟩
set_option maxRecDepth 100000 in
set_option maxHeartbeats 1000000 in
theorem less_any (A A' : Option Addr) (n c n' c' : Nat) (s t : Sp.S) (w : World) (hs : IsSet w A n c s) (ht : IsSet w A' n' c' t) (hsm : n + n' ≤ 2199023255552) :
    Calls Try.prog 34 #[setV A n c, setV A' n' c'] w (Made w (fun a b => a && !b) s t) := by
  unfold setV
  have HM : Hid (∀ wx, Below w.heap.size w wx → Calls Try.prog 32 #[.agg #[.slice A n c], .agg #[.slice A' n' c'], .func (.func 52) #[] #[]] wx fun e w' => ∃ Ao no co out, e = .returned (.agg #[.slice Ao no co]) ∧ OwnS w' wx.heap.size Ao no co out ∧ Sp.Mk TOP (fun a b => a && !b) s t out ∧ Below wx.heap.size wx w') := Lib.hid fun wx hb =>
    make_less _ A A' n c n' c' s t wx less_keeps ((hs.1.below hb).more hb.size) ((ht.1.below hb).more hb.size) hs.2.1 hs.2.2.1 ht.2.1 ht.2.2.1 hs.2.2.2.1 ht.2.2.2.1 hsm
  clear hs ht
  go_enter Try.func34, Try.ntmps34
  go_upto_region 1 with fail
  have hb3 : Below w.heap.size w (((w.alloc (.cells #[.slice A n c] 26)).alloc (.cells #[.slice A' n' c'] 26)).alloc (.cells #[.slice none 0 0] 26)) := (((Below.refl _ _).alloc (Nat.le_refl _) _).alloc (by simp) _).alloc (by simp; omega) _
  have r2 : Row (((w.alloc (.cells #[.slice A n c] 26)).alloc (.cells #[.slice A' n' c'] 26)).alloc (.cells #[.slice none 0 0] 26)) (w.heap.size + 1 + 1) 26 [.slice none 0 0] := by
    have h := Row.new ((w.alloc (.cells #[.slice A n c] 26)).alloc (.cells #[.slice A' n' c'] 26)) 26 [.slice none 0 0]
    rw [show ((w.alloc (.cells #[.slice A n c] 26)).alloc (.cells #[.slice A' n' c'] 26)).heap.size = w.heap.size + 1 + 1 by simp] at h
    exact h
  have HB3 := Lib.hid hb3; have HR2 := Lib.hid r2
  clear hb3 r2
  go_wp2_with fail
  refine (HM.out _ HB3.out).mono ?_
  rintro e w4 ⟨Ao, no, co, out, rfl, hown, hmk, hb4⟩
  have hr4 := HR2.out.below hb4 HR2.out.lt
  have z0 := hr4.cell 0
  have z1 := hr4.frozen 0
  have zl := hr4.lt
  simp only [List.getElem?_cons_zero] at z0
  have HR4 : Hid (Row (w4.setCell ⟨w.heap.size + 1 + 1, 0, none⟩ (.slice Ao no co)) (w.heap.size + 1 + 1) 26 [.slice Ao no co]) := Lib.hid (hr4.set_ 0 _)
  have z2 := HR4.out.cell 0
  simp only [List.getElem?_cons_zero] at z2
  have HO : Hid (OwnS (w4.setCell ⟨w.heap.size + 1 + 1, 0, none⟩ (.slice Ao no co)) w.heap.size Ao no co out) := Lib.hid ⟨own_setr (own_monor hown.1 HB3.out.size) hr4 (by decide) 0 _, hown.2⟩
  have HBB : Hid (Below w.heap.size w (w4.setCell ⟨w.heap.size + 1 + 1, 0, none⟩ (.slice Ao no co))) := Lib.hid ((HB3.out.trans (hb4.mono HB3.out.size)).setCell (p := ⟨w.heap.size + 1 + 1, 0, none⟩) (Nat.le_trans (Nat.le_succ _) (Nat.le_succ _)) _)
  have HMK := Lib.hid hmk
  clear hown hmk hb4 hr4 HM HB3 HR2
  go_wp2_with fail
  refine bodyPost_ret (v := .agg #[.slice Ao no co]) (by simp [results, Try.results34, go_sem, z2]) rfl ⟨Ao, no, co, out, rfl, HO.out, HMK.out, HBB.out⟩
theorem from_drop {s : Sp.S} {p i : Nat} (h1 : ∀ j x, j < i → s[j]? = some x → x.2 < p) (h2 : ∀ x, s[i]? = some x → ¬ x.2 < p) : Sp.from_ s p = s.drop i := by
  induction s generalizing i with
  | nil => simp [Sp.from_]
  | cons x r ih =>
    cases i with
    | zero => rw [from_cons_ge (h2 x rfl)]; rfl
    | succ i =>
      rw [from_cons_lt (h1 0 x (by omega) rfl), List.drop_succ_cons]
      exact ih (fun j y hj hy => h1 (j + 1) y (by omega) hy) (fun y hy => h2 y hy)
theorem nrm_rise {s : Sp.S} (hn : Sp.Nrm TOP s) {i j : Nat} {x y : Nat × Nat} (hi : s[i]? = some x) (hj : s[j]? = some y) (h : i ≤ j) : x.2 ≤ y.2 := by
  rcases Nat.eq_or_lt_of_le h with e | h
  · subst e; rw [hi] at hj; injection hj with hj; rw [hj]; exact Nat.le_refl _
  · obtain ⟨h1, e1⟩ := List.getElem?_eq_some_iff.1 hi
    obtain ⟨h2, e2⟩ := List.getElem?_eq_some_iff.1 hj
    have := List.pairwise_iff_getElem.1 hn.up i j h1 h2 h
    rw [e1, e2] at this
    have := (hn.ok y (by rw [← e2]; exact List.getElem_mem _)).1
    omega
end S64
end Go.Proofs.Ytchajbegjajlkaa
