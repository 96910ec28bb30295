/- The walks of With and Touches. -/
import Derived.Test.YtchajbegjajlkaaSpZ8
set_option linter.unusedVariables false
set_option linter.unusedSimpArgs false
namespace Go.Proofs.Ytchajbegjajlkaa
open Go.RowKit
namespace S8
/-- does a point of a span lie in a set? -/
def touch (s : Sp.S) (a b : Nat) : Bool := (Sp.next s a).2 && decide ((Sp.next s a).1 ≤ b) && !decide (b < a)
theorem touch_iff {s : Sp.S} {a b : Nat} (hn : Sp.Nrm TOP s) : touch s a b = true ↔ ∃ p, a ≤ p ∧ p ≤ b ∧ Sp.has s p = true := by
  unfold touch
  cases hx : Sp.next s a with
  | mk m o =>
    cases o with
    | false =>
      have := (Sp.next_none hn (show (Sp.next s a).2 = false by rw [hx])).2
      simp only [Bool.false_and, Bool.false_eq_true, false_iff]
      rintro ⟨p, h1, _, h3⟩
      rw [this p h1] at h3
      cases h3
    | true =>
      obtain ⟨h1, h2, h3⟩ := Sp.next_some hn hx
      simp only [Bool.true_and, Bool.and_eq_true, decide_eq_true_eq, Bool.not_eq_true', decide_eq_false_iff_not]
      constructor
      · rintro ⟨h4, h5⟩
        exact ⟨m, h1, h4, h2⟩
      · rintro ⟨p, h4, h5, h6⟩
        refine ⟨?_, by omega⟩
        rcases Nat.lt_or_ge p m with h | h
        · rw [h3 p h4 h] at h6; cases h6
        · omega
/-- with one span more -/
def MadeW (w : World) (s : Sp.S) (a b : Nat) (e : Ending) (w' : World) : Prop := ∃ A n c out, e = .returned (setV A n c) ∧ OwnS w' w.heap.size A n c out ∧ Sp.Mk TOP (fun a b => a || b) s (one a b) out ∧ Below w.heap.size w w'
theorem one_len (a b : Nat) : (one a b).length ≤ 1 := by unfold one; split <;> simp
theorem one_nrm {a b : Nat} (hb : b ≤ TOP) : Sp.Nrm TOP (one a b) := (one_of hb).nrm
set_option maxRecDepth 100000 in
set_option maxHeartbeats 1000000 in
theorem with_any (A : Option Addr) (n c a b : Nat) (s : Sp.S) (w : World) (hs : IsSet w A n c s) (ha : a ≤ TOP) (hb : b ≤ TOP) (hn : n ≤ 1099511627776) :
    Calls Try.prog 15 #[setV A n c, .agg #[.int .u8 (a : Nat), .int .u8 (b : Nat)]] w (MadeW w s a b) := by
  have HS := Lib.hid hs
  unfold setV
  clear hs
  go_enter Try.func15, Try.ntmps15
  go_upto_region 1 with fail
  have r0 : Row (((w.alloc (.cells #[.slice A n c] 43)).alloc (.cells #[.int .u8 (a : Nat), .int .u8 (b : Nat)] 48)).alloc (.cells #[.slice none 0 0] 43)) w.heap.size 43 [.slice A n c] := ((Row.new w _ [.slice A n c]).alloc _).alloc _
  have r1 : Row (((w.alloc (.cells #[.slice A n c] 43)).alloc (.cells #[.int .u8 (a : Nat), .int .u8 (b : Nat)] 48)).alloc (.cells #[.slice none 0 0] 43)) (w.heap.size + 1) 48 [.int .u8 (a : Nat), .int .u8 (b : Nat)] := by
    have h := Row.new (w.alloc (.cells #[.slice A n c] 43)) 48 [.int .u8 (a : Nat), .int .u8 (b : Nat)]
    rw [show (w.alloc (.cells #[.slice A n c] 43)).heap.size = w.heap.size + 1 by simp] at h
    exact h.alloc _
  have r2 : Row (((w.alloc (.cells #[.slice A n c] 43)).alloc (.cells #[.int .u8 (a : Nat), .int .u8 (b : Nat)] 48)).alloc (.cells #[.slice none 0 0] 43)) (w.heap.size + 1 + 1) 43 [.slice none 0 0] := by
    have h := Row.new ((w.alloc (.cells #[.slice A n c] 43)).alloc (.cells #[.int .u8 (a : Nat), .int .u8 (b : Nat)] 48)) 43 [.slice none 0 0]
    rw [show ((w.alloc (.cells #[.slice A n c] 43)).alloc (.cells #[.int .u8 (a : Nat), .int .u8 (b : Nat)] 48)).heap.size = w.heap.size + 1 + 1 by simp] at h
    exact h
  have hb0 : Below w.heap.size w (((w.alloc (.cells #[.slice A n c] 43)).alloc (.cells #[.int .u8 (a : Nat), .int .u8 (b : Nat)] 48)).alloc (.cells #[.slice none 0 0] 43)) := (((Below.refl _ _).alloc (Nat.le_refl _) _).alloc (by simp) _).alloc (by simp; omega) _
  generalize ((w.alloc (.cells #[.slice A n c] 43)).alloc (.cells #[.int .u8 (a : Nat), .int .u8 (b : Nat)] 48)).alloc (.cells #[.slice none 0 0] 43) = w1 at *
  have c0 := r0.cell 0
  have d0 := r1.cell 0
  have d1 := r1.cell 1
  have hl0 := r0.lt
  have hl1 := r1.lt
  have hl2 := r2.lt
  simp only [List.getElem?_cons_zero, List.getElem?_cons_succ] at c0 d0 d1
  have HB0 := Lib.hid hb0; have HR2 := Lib.hid r2
  clear hb0 r0 r1 r2
  have hrn : Row (w1.alloc (.cells #[.int .u8 (a : Nat), .int .u8 (b : Nat)] 48)) w1.heap.size 48 (scell (a, b)) := Row.new w1 _ (scell (a, b))
  have hbn : Below w1.heap.size w1 (w1.alloc (.cells #[.int .u8 (a : Nat), .int .u8 (b : Nat)] 48)) := (Below.refl _ _).alloc (Nat.le_refl _) _
  have HRN := Lib.hid hrn; have HBN := Lib.hid hbn
  clear hrn hbn
  have KEEP : Hid (∀ (w' : World) (v : Value), w'.cell? ⟨w.heap.size, 0, none⟩ = some (.slice A n c) → w'.cell? ⟨w.heap.size + 1, 0, none⟩ = some (.int .u8 (a : Nat)) → w'.cell? ⟨w.heap.size + 1, 1, none⟩ = some (.int .u8 (b : Nat)) → (w'.setCell ⟨w.heap.size + 1 + 1, 0, none⟩ v).cell? ⟨w.heap.size, 0, none⟩ = some (.slice A n c) ∧ (w'.setCell ⟨w.heap.size + 1 + 1, 0, none⟩ v).cell? ⟨w.heap.size + 1, 0, none⟩ = some (.int .u8 (a : Nat)) ∧ (w'.setCell ⟨w.heap.size + 1 + 1, 0, none⟩ v).cell? ⟨w.heap.size + 1, 1, none⟩ = some (.int .u8 (b : Nat))) := Lib.hid fun w' v h1 h2 h3 => ⟨(World.cell?_setCell_other _ _ _ _ (by intro h; injection h; omega)).trans h1, (World.cell?_setCell_other _ _ _ _ (by intro h; injection h; omega)).trans h2, (World.cell?_setCell_other _ _ _ _ (by intro h; injection h; omega)).trans h3⟩
  go_region_held3 (fun w' => w'.cell? ⟨w.heap.size, 0, none⟩ = some (.slice A n c) ∧ w'.cell? ⟨w.heap.size + 1, 0, none⟩ = some (.int .u8 (a : Nat)) ∧ w'.cell? ⟨w.heap.size + 1, 1, none⟩ = some (.int .u8 (b : Nat)))
    (first | exact ⟨c0, d0, d1⟩ | exact KO.out | exact KP.out | exact ⟨(HBN.out.drew.cell (p := ⟨w.heap.size, 0, none⟩) hl0).trans c0, (HBN.out.drew.cell (p := ⟨w.heap.size + 1, 0, none⟩) hl1).trans d0, (HBN.out.drew.cell (p := ⟨w.heap.size + 1, 1, none⟩) hl1).trans d1⟩ | exact KEEP.out _ _ KP.out.1 KP.out.2.1 KP.out.2.2)
    (first
      | (go_at_call 35; refine (of_one w1.heap.size 1 a b _ HRN.out.drew ha hb).mono ?_; rintro e w' ⟨Ao, co, rfl, hown, hb'⟩; have hbw : Below w1.heap.size w1 w' := HBN.out.drew.trans (hb'.mono HBN.out.size); have HOW := Lib.hid hown; have HBW := Lib.hid hbw; have KO : Hid (w'.cell? ⟨w.heap.size, 0, none⟩ = some (.slice A n c) ∧ w'.cell? ⟨w.heap.size + 1, 0, none⟩ = some (.int .u8 (a : Nat)) ∧ w'.cell? ⟨w.heap.size + 1, 1, none⟩ = some (.int .u8 (b : Nat))) := Lib.hid ⟨(hbw.cell (p := ⟨w.heap.size, 0, none⟩) hl0).trans c0, (hbw.cell (p := ⟨w.heap.size + 1, 0, none⟩) hl1).trans d0, (hbw.cell (p := ⟨w.heap.size + 1, 1, none⟩) hl1).trans d1⟩; clear hown hb' hbw)
      | (go_at_call 24; refine (or_any A Ao n c (one a b).length co s (one a b) _ (HS.out.below (HB0.out.trans (HBW.out.mono HB0.out.size))) (HOW.out.isSet (one_nrm hb) (by have := one_len a b; omega)) (by have := one_len a b; omega)).mono ?_; rintro e w'' ⟨A9, n9, c9, out, rfl, hown9, hmk9, hb9⟩; unfold setV; have hbx : Below w1.heap.size w1 w'' := HBW.out.trans (hb9.mono HBW.out.size); have hz := HR2.out.below hbx HR2.out.lt; have z0 := hz.cell 0; have z1 := hz.frozen 0; have zl := hz.lt; simp only [List.getElem?_cons_zero] at z0; have HF := Lib.hid hown9; have HM := Lib.hid hmk9; have HBX := Lib.hid hbx; have HZ := Lib.hid hz; have KP : Hid (w''.cell? ⟨w.heap.size, 0, none⟩ = some (.slice A n c) ∧ w''.cell? ⟨w.heap.size + 1, 0, none⟩ = some (.int .u8 (a : Nat)) ∧ w''.cell? ⟨w.heap.size + 1, 1, none⟩ = some (.int .u8 (b : Nat))) := Lib.hid ⟨(hbx.cell (p := ⟨w.heap.size, 0, none⟩) hl0).trans c0, (hbx.cell (p := ⟨w.heap.size + 1, 0, none⟩) hl1).trans d0, (hbx.cell (p := ⟨w.heap.size + 1, 1, none⟩) hl1).trans d1⟩; clear hown9 hmk9 hb9 hbx hz))
  all_goals
    have HR4 : Hid (Row (w''.setCell ⟨w.heap.size + 1 + 1, 0, none⟩ (.slice A9 n9 c9)) (w.heap.size + 1 + 1) 43 [.slice A9 n9 c9]) := Lib.hid (HZ.out.set_ 0 _)
    have z2 := HR4.out.cell 0
    simp only [List.getElem?_cons_zero] at z2
    have HO : Hid (OwnS (w''.setCell ⟨w.heap.size + 1 + 1, 0, none⟩ (.slice A9 n9 c9)) w.heap.size A9 n9 c9 out) := Lib.hid ⟨own_setr (own_monor HF.out.1 (Nat.le_trans HB0.out.size HBW.out.size)) HZ.out (by decide) 0 _, HF.out.2⟩
    have HBB : Hid (Below w.heap.size w (w''.setCell ⟨w.heap.size + 1 + 1, 0, none⟩ (.slice A9 n9 c9))) := Lib.hid ((HB0.out.trans (HBX.out.mono HB0.out.size)).setCell (p := ⟨w.heap.size + 1 + 1, 0, none⟩) (Nat.le_trans (Nat.le_succ _) (Nat.le_succ _)) _)
    go_wp2_with fail
    refine bodyPost_ret (v := .agg #[.slice A9 n9 c9]) (by simp [results, Try.results15, go_sem, z2]) rfl ⟨A9, n9, c9, out, rfl, HO.out, HM.out, HBB.out⟩
end S8
end Go.Proofs.Ytchajbegjajlkaa
