/- Texts of this claim, one behind the other: SpV, BuA, BuM. -/
import Derived.Test.YtfpofaniicegaaaGreatJWalkForeign6
import Derived.Maps.OwnSet
import Derived.Maps.Range
import Derived.Maps.Ext
/- The walks of With and Touches. -/
set_option linter.unusedVariables false
set_option linter.unusedSimpArgs false
namespace Go.Proofs.YtfpofaniicegaaaGreat
open Go.RowKit
namespace S64
/-- does a point of a span lie in a set? -/
def touch (s : Sp.S) (a b : Nat) : Bool := (Sp.next s a).2 && decide ((Sp.next s a).1 ≤ b) && !decide (b < a)
theorem touch_iff {s : Sp.S} {a b : Nat} (hn : Sp.Nrm TOP s) : touch s a b = true ↔ ∃ p, a ≤ p ∧ p ≤ b ∧ Sp.has s p = true := by
  unfold touch
  cases hx : Sp.next s a with
  | mk m o =>
    cases o with
    | false =>
      have := (Sp.next_none hn (show (Sp.next s a).2 = false by rw [hx])).2
      simp only [Bool.false_and, Bool.false_eq_true, false_iff]
      rintro ⟨p, h1, _, h3⟩
      rw [this p h1] at h3
      cases h3
    | true =>
      obtain ⟨h1, h2, h3⟩ := Sp.next_some hn hx
      simp only [Bool.true_and, Bool.and_eq_true, decide_eq_true_eq, Bool.not_eq_true', decide_eq_false_iff_not]
      constructor
      · rintro ⟨h4, h5⟩
        exact ⟨m, h1, h4, h2⟩
      · rintro ⟨p, h4, h5, h6⟩
        refine ⟨?_, by omega⟩
        rcases Nat.lt_or_ge p m with h | h
        · rw [h3 p h4 h] at h6; cases h6
        · omega
set_option maxRecDepth 100000 in
set_option maxHeartbeats 1000000 in
theorem touches_any (A : Option Addr) (n c a b : Nat) (s : Sp.S) (w : World) (hs : IsSet w A n c s) (ha : a ≤ TOP) (hb : b ≤ TOP) :
    Calls Tryz.prog 67 #[setV A n c, .agg #[.int .u64 (a : Nat), .int .u64 (b : Nat)]] w fun e w' => e = .returned (.bool (touch s a b)) ∧ Below w.heap.size w w' := by
  have HNX : Hid (∀ wx, Below w.heap.size w wx → Calls Tryz.prog 75 #[.agg #[.slice A n c], .int .u64 (a : Nat)] wx fun e w' => e = .returned (.tuple #[.int .u64 ((Sp.next s a).1 : Nat), .bool (Sp.next s a).2]) ∧ Below wx.heap.size wx w') := Lib.hid fun wx hb => next_any A n c a s wx (hs.below hb) ha
  unfold setV
  have HT : Hid (touch s a b = ((Sp.next s a).2 && decide ((Sp.next s a).1 ≤ b) && !decide (b < a))) := Lib.hid rfl
  obtain ⟨R, hR⟩ : ∃ R, R = Sp.next s a := ⟨_, rfl⟩
  rw [← hR] at HNX HT
  obtain ⟨m, ok⟩ := R
  simp only at HNX HT
  obtain ⟨T, hT⟩ : ∃ T, T = touch s a b := ⟨_, rfl⟩
  rw [← hT] at HT ⊢
  clear hs hR hT
  unfold TOP at ha hb
  go_enter Tryz.func67, Tryz.ntmps67
  go_upto_region 1 with fail
  have r0 : Row ((w.alloc (.cells #[.slice A n c] 86)).alloc (.cells #[.int .u64 (a : Nat), .int .u64 (b : Nat)] 122)) w.heap.size 86 [.slice A n c] := (Row.new w _ [.slice A n c]).alloc _
  have r1 : Row ((w.alloc (.cells #[.slice A n c] 86)).alloc (.cells #[.int .u64 (a : Nat), .int .u64 (b : Nat)] 122)) (w.heap.size + 1) 122 [.int .u64 (a : Nat), .int .u64 (b : Nat)] := by
    have h := Row.new (w.alloc (.cells #[.slice A n c] 86)) 122 [.int .u64 (a : Nat), .int .u64 (b : Nat)]
    rw [show (w.alloc (.cells #[.slice A n c] 86)).heap.size = w.heap.size + 1 by simp] at h
    exact h
  have hb0 : Below w.heap.size w ((w.alloc (.cells #[.slice A n c] 86)).alloc (.cells #[.int .u64 (a : Nat), .int .u64 (b : Nat)] 122)) := ((Below.refl _ _).alloc (Nat.le_refl _) _).alloc (by simp) _
  generalize (w.alloc (.cells #[.slice A n c] 86)).alloc (.cells #[.int .u64 (a : Nat), .int .u64 (b : Nat)] 122) = w1 at *
  have c0 := r0.cell 0
  have d0 := r1.cell 0
  have d1 := r1.cell 1
  have hl0 := r0.lt
  have hl1 := r1.lt
  simp only [List.getElem?_cons_zero, List.getElem?_cons_succ] at c0 d0 d1
  have HB0 := Lib.hid hb0; have HR1 := Lib.hid r1
  clear hb0 r0 r1
  go_wp2_with fail
  refine (HNX.out w1 HB0.out).mono ?_
  rintro e w2 ⟨rfl, hb2⟩
  have hr2 := HR1.out.below hb2 HR1.out.lt
  have e0 := hr2.cell 0
  have e1 := hr2.cell 1
  have hl2 := hr2.lt
  simp only [List.getElem?_cons_zero, List.getElem?_cons_succ] at e0 e1
  have HB2 : Hid (Below w.heap.size w w2) := Lib.hid (HB0.out.trans (hb2.mono HB0.out.size))
  clear hr2 hb2 c0 d0 d1 hl0 hl1 HNX HB0 HR1
  cases ok with
  | false =>
    go_wp2_with fail
    go_ret
    exact ⟨by rw [HT.out]; rfl, HB2.out⟩
  | true =>
    by_cases h1 : m ≤ b
    · have f1 : decide (m ≤ b) = true := decide_eq_true h1
      have HF1 := Lib.hid f1
      clear h1
      go_wp2_with (go_at_call 69; refine (none_any a b _).mono ?_; rintro e w' ⟨rfl, hb'⟩; have HBN := Lib.hid hb'; clear hb')
      go_ret
      exact ⟨by rw [HT.out, HF1.out]; simp, HB2.out.trans (HBN.out.mono HB2.out.size)⟩
    · have f1 : decide (m ≤ b) = false := decide_eq_false h1
      have HF1 := Lib.hid f1
      clear h1
      go_wp2_with fail
      go_ret
      exact ⟨by rw [HT.out, HF1.out]; rfl, HB2.out⟩
/-- with one span more -/
def MadeW (w : World) (s : Sp.S) (a b : Nat) (e : Ending) (w' : World) : Prop := ∃ A n c out, e = .returned (setV A n c) ∧ OwnS w' w.heap.size A n c out ∧ Sp.Mk TOP (fun a b => a || b) s (one a b) out ∧ Below w.heap.size w w'
theorem one_len (a b : Nat) : (one a b).length ≤ 1 := by unfold one; split <;> simp
theorem one_nrm {a b : Nat} (hb : b ≤ TOP) : Sp.Nrm TOP (one a b) := (one_of hb).nrm
set_option maxRecDepth 100000 in
set_option maxHeartbeats 1000000 in
theorem with_any (A : Option Addr) (n c a b : Nat) (s : Sp.S) (w : World) (hs : IsSet w A n c s) (ha : a ≤ TOP) (hb : b ≤ TOP) (hn : n ≤ 1099511627776) :
    Calls Tryz.prog 49 #[setV A n c, .agg #[.int .u64 (a : Nat), .int .u64 (b : Nat)]] w (MadeW w s a b) := by
  have HS := Lib.hid hs
  unfold setV
  clear hs
  go_enter Tryz.func49, Tryz.ntmps49
  go_upto_region 1 with fail
  have r0 : Row (((w.alloc (.cells #[.slice A n c] 86)).alloc (.cells #[.int .u64 (a : Nat), .int .u64 (b : Nat)] 122)).alloc (.cells #[.slice none 0 0] 86)) w.heap.size 86 [.slice A n c] := ((Row.new w _ [.slice A n c]).alloc _).alloc _
  have r1 : Row (((w.alloc (.cells #[.slice A n c] 86)).alloc (.cells #[.int .u64 (a : Nat), .int .u64 (b : Nat)] 122)).alloc (.cells #[.slice none 0 0] 86)) (w.heap.size + 1) 122 [.int .u64 (a : Nat), .int .u64 (b : Nat)] := by
    have h := Row.new (w.alloc (.cells #[.slice A n c] 86)) 122 [.int .u64 (a : Nat), .int .u64 (b : Nat)]
    rw [show (w.alloc (.cells #[.slice A n c] 86)).heap.size = w.heap.size + 1 by simp] at h
    exact h.alloc _
  have r2 : Row (((w.alloc (.cells #[.slice A n c] 86)).alloc (.cells #[.int .u64 (a : Nat), .int .u64 (b : Nat)] 122)).alloc (.cells #[.slice none 0 0] 86)) (w.heap.size + 1 + 1) 86 [.slice none 0 0] := by
    have h := Row.new ((w.alloc (.cells #[.slice A n c] 86)).alloc (.cells #[.int .u64 (a : Nat), .int .u64 (b : Nat)] 122)) 86 [.slice none 0 0]
    rw [show ((w.alloc (.cells #[.slice A n c] 86)).alloc (.cells #[.int .u64 (a : Nat), .int .u64 (b : Nat)] 122)).heap.size = w.heap.size + 1 + 1 by simp] at h
    exact h
  have hb0 : Below w.heap.size w (((w.alloc (.cells #[.slice A n c] 86)).alloc (.cells #[.int .u64 (a : Nat), .int .u64 (b : Nat)] 122)).alloc (.cells #[.slice none 0 0] 86)) := (((Below.refl _ _).alloc (Nat.le_refl _) _).alloc (by simp) _).alloc (by simp; omega) _
  generalize ((w.alloc (.cells #[.slice A n c] 86)).alloc (.cells #[.int .u64 (a : Nat), .int .u64 (b : Nat)] 122)).alloc (.cells #[.slice none 0 0] 86) = w1 at *
  have c0 := r0.cell 0
  have d0 := r1.cell 0
  have d1 := r1.cell 1
  have hl0 := r0.lt
  have hl1 := r1.lt
  have hl2 := r2.lt
  simp only [List.getElem?_cons_zero, List.getElem?_cons_succ] at c0 d0 d1
  have HB0 := Lib.hid hb0; have HR2 := Lib.hid r2
  clear hb0 r0 r1 r2
  have hrn : Row (w1.alloc (.cells #[.int .u64 (a : Nat), .int .u64 (b : Nat)] 122)) w1.heap.size 122 (scell (a, b)) := Row.new w1 _ (scell (a, b))
  have hbn : Below w1.heap.size w1 (w1.alloc (.cells #[.int .u64 (a : Nat), .int .u64 (b : Nat)] 122)) := (Below.refl _ _).alloc (Nat.le_refl _) _
  have HRN := Lib.hid hrn; have HBN := Lib.hid hbn
  clear hrn hbn
  have KEEP : Hid (∀ (w' : World) (v : Value), w'.cell? ⟨w.heap.size, 0, none⟩ = some (.slice A n c) → w'.cell? ⟨w.heap.size + 1, 0, none⟩ = some (.int .u64 (a : Nat)) → w'.cell? ⟨w.heap.size + 1, 1, none⟩ = some (.int .u64 (b : Nat)) → (w'.setCell ⟨w.heap.size + 1 + 1, 0, none⟩ v).cell? ⟨w.heap.size, 0, none⟩ = some (.slice A n c) ∧ (w'.setCell ⟨w.heap.size + 1 + 1, 0, none⟩ v).cell? ⟨w.heap.size + 1, 0, none⟩ = some (.int .u64 (a : Nat)) ∧ (w'.setCell ⟨w.heap.size + 1 + 1, 0, none⟩ v).cell? ⟨w.heap.size + 1, 1, none⟩ = some (.int .u64 (b : Nat))) := Lib.hid fun w' v h1 h2 h3 => ⟨(World.cell?_setCell_other _ _ _ _ (by intro h; injection h; omega)).trans h1, (World.cell?_setCell_other _ _ _ _ (by intro h; injection h; omega)).trans h2, (World.cell?_setCell_other _ _ _ _ (by intro h; injection h; omega)).trans h3⟩
  go_region_held3 (fun w' => w'.cell? ⟨w.heap.size, 0, none⟩ = some (.slice A n c) ∧ w'.cell? ⟨w.heap.size + 1, 0, none⟩ = some (.int .u64 (a : Nat)) ∧ w'.cell? ⟨w.heap.size + 1, 1, none⟩ = some (.int .u64 (b : Nat)))
    (first | exact ⟨c0, d0, d1⟩ | exact KO.out | exact KP.out | exact ⟨(HBN.out.drew.cell (p := ⟨w.heap.size, 0, none⟩) hl0).trans c0, (HBN.out.drew.cell (p := ⟨w.heap.size + 1, 0, none⟩) hl1).trans d0, (HBN.out.drew.cell (p := ⟨w.heap.size + 1, 1, none⟩) hl1).trans d1⟩ | exact KEEP.out _ _ KP.out.1 KP.out.2.1 KP.out.2.2)
    (first
      | (go_at_call 51; refine (of_one w1.heap.size 1 a b _ HRN.out.drew ha hb).mono ?_; rintro e w' ⟨Ao, co, rfl, hown, hb'⟩; have hbw : Below w1.heap.size w1 w' := HBN.out.drew.trans (hb'.mono HBN.out.size); have HOW := Lib.hid hown; have HBW := Lib.hid hbw; have KO : Hid (w'.cell? ⟨w.heap.size, 0, none⟩ = some (.slice A n c) ∧ w'.cell? ⟨w.heap.size + 1, 0, none⟩ = some (.int .u64 (a : Nat)) ∧ w'.cell? ⟨w.heap.size + 1, 1, none⟩ = some (.int .u64 (b : Nat))) := Lib.hid ⟨(hbw.cell (p := ⟨w.heap.size, 0, none⟩) hl0).trans c0, (hbw.cell (p := ⟨w.heap.size + 1, 0, none⟩) hl1).trans d0, (hbw.cell (p := ⟨w.heap.size + 1, 1, none⟩) hl1).trans d1⟩; clear hown hb' hbw)
      | (go_at_call 68; refine (or_any A Ao n c (one a b).length co s (one a b) _ (HS.out.below (HB0.out.trans (HBW.out.mono HB0.out.size))) (HOW.out.isSet (one_nrm hb) (by have := one_len a b; omega)) (by have := one_len a b; omega)).mono ?_; rintro e w'' ⟨A9, n9, c9, out, rfl, hown9, hmk9, hb9⟩; unfold setV; have hbx : Below w1.heap.size w1 w'' := HBW.out.trans (hb9.mono HBW.out.size); have hz := HR2.out.below hbx HR2.out.lt; have z0 := hz.cell 0; have z1 := hz.frozen 0; have zl := hz.lt; simp only [List.getElem?_cons_zero] at z0; have HF := Lib.hid hown9; have HM := Lib.hid hmk9; have HBX := Lib.hid hbx; have HZ := Lib.hid hz; have KP : Hid (w''.cell? ⟨w.heap.size, 0, none⟩ = some (.slice A n c) ∧ w''.cell? ⟨w.heap.size + 1, 0, none⟩ = some (.int .u64 (a : Nat)) ∧ w''.cell? ⟨w.heap.size + 1, 1, none⟩ = some (.int .u64 (b : Nat))) := Lib.hid ⟨(hbx.cell (p := ⟨w.heap.size, 0, none⟩) hl0).trans c0, (hbx.cell (p := ⟨w.heap.size + 1, 0, none⟩) hl1).trans d0, (hbx.cell (p := ⟨w.heap.size + 1, 1, none⟩) hl1).trans d1⟩; clear hown9 hmk9 hb9 hbx hz))
  all_goals
    have HR4 : Hid (Row (w''.setCell ⟨w.heap.size + 1 + 1, 0, none⟩ (.slice A9 n9 c9)) (w.heap.size + 1 + 1) 86 [.slice A9 n9 c9]) := Lib.hid (HZ.out.set_ 0 _)
    have z2 := HR4.out.cell 0
    simp only [List.getElem?_cons_zero] at z2
    have HO : Hid (OwnS (w''.setCell ⟨w.heap.size + 1 + 1, 0, none⟩ (.slice A9 n9 c9)) w.heap.size A9 n9 c9 out) := Lib.hid ⟨own_setr (own_monor HF.out.1 (Nat.le_trans HB0.out.size HBW.out.size)) HZ.out (by decide) 0 _, HF.out.2⟩
    have HBB : Hid (Below w.heap.size w (w''.setCell ⟨w.heap.size + 1 + 1, 0, none⟩ (.slice A9 n9 c9))) := Lib.hid ((HB0.out.trans (HBX.out.mono HB0.out.size)).setCell (p := ⟨w.heap.size + 1 + 1, 0, none⟩) (Nat.le_trans (Nat.le_succ _) (Nat.le_succ _)) _)
    go_wp2_with fail
    refine bodyPost_ret (v := .agg #[.slice A9 n9 c9]) (by simp [results, Tryz.results49, go_sem, z2]) rfl ⟨A9, n9, c9, out, rfl, HO.out, HM.out, HBB.out⟩
end S64
end Go.Proofs.YtfpofaniicegaaaGreat

/- The walks of bus.all, word.Add, bus.right. -/
set_option linter.unusedVariables false
set_option linter.unusedSimpArgs false
namespace Go.Proofs.YtfpofaniicegaaaGreat
open Go.RowKit
open S64
namespace Bu
/-- a range as it lies in memory -/
def rgV (r : Nat × Nat) : Value := .agg #[.int .u64 (r.1 : Nat), .int .u64 (r.2 : Nat)]
def M32 : Nat := 4294967296
set_option maxRecDepth 100000 in
set_option maxHeartbeats 1000000 in
theorem all_any (a s : Nat) (w : World) (hs : 0 < s) (hm : a + s ≤ 4294967296) :
    Calls Tryz.prog 50 #[.agg #[.int .u64 (a : Nat), .int .u64 (s : Nat)]] w fun e w' => e = .returned (.agg #[.int .u64 (a : Nat), .int .u64 ((a + s - 1 : Nat) : Int)]) ∧ Below w.heap.size w w' := by
  have h2 : Hid (((a : Int) + (s : Int)) - 1 = ((a + s - 1 : Nat) : Int)) := Lib.hid (by omega)
  go_enter Tryz.func50, Tryz.ntmps50
  go_wp2_with fail
  refine bodyPost_ret (v := .agg #[.int .u64 (a : Nat), .int .u64 ((a : Int) + (s : Int) - 1)]) (by simp [results, Tryz.results50, go_sem]) rfl ⟨by rw [h2.out], ((Below.refl _ _).alloc (Nat.le_refl _) _).alloc (by simp) _⟩
theorem add64 (a b : Nat) (w : World) (ha : a ≤ TOP) (hb : b ≤ TOP) :
    Calls Tryz.prog 66 #[.int .u64 (a : Nat), .int .u64 (b : Nat)] w fun e w' => e = .returned (.tuple #[.int .u64 ((if a + b ≤ TOP then a + b else 0 : Nat) : Int), .bool (decide (a + b ≤ TOP))]) ∧ w = w' := by
  unfold TOP at *
  obtain ⟨c, hc⟩ : ∃ c, c = (a + b) % 18446744073709551616 := ⟨_, rfl⟩
  have e1 : IntKind.u64.wrap ((a : Int) + (b : Int)) = (c : Int) := by rw [IntKind.wrap_u64, hc]; omega
  by_cases h : a + b ≤ 18446744073709551615
  · have hc1 : c = a + b := by rw [hc]; omega
    have hac : a ≤ c := by omega
    rw [if_pos h]
    have HD := Lib.hid (decide_eq_true h)
    have HC := Lib.hid hc1
    clear hc hc1 ha hb h
    go_enter Tryz.func66, Tryz.ntmps66
    go_wp2_with fail
    go_ret2
    exact ⟨by rw [HD.out, HC.out]; rfl, rfl⟩
  · have hc1 : c + 18446744073709551616 = a + b := by rw [hc]; omega
    have hac : c < a := by omega
    rw [if_neg h]
    have HD := Lib.hid (decide_eq_false h)
    clear hc hc1 ha hb h
    go_enter Tryz.func66, Tryz.ntmps66
    go_wp2_with fail
    go_ret2
    exact ⟨by rw [HD.out]; rfl, rfl⟩
/-- what bus.right says -/
def rt (a s most : Nat) (t : Sp.S) : Nat :=
  if s = 0 ∨ s % 4096 ≠ 0 ∨ most < s then 32 else if a % 4096 ≠ 0 then 33 else if M32 < a + s then 34 else if touch t a (a + s - 1) then 35 else 0
set_option maxRecDepth 100000 in
set_option maxHeartbeats 1000000 in
theorem right_any (a s most : Nat) (A : Option Addr) (n c : Nat) (t : Sp.S) (w : World) (ht : IsSet w A n c t) (ha : a ≤ TOP) (hs : s ≤ TOP) (hm : most ≤ TOP) :
    Calls Tryz.prog 48 #[.agg #[.int .u64 (a : Nat), .int .u64 (s : Nat)], .int .u64 (most : Nat), setV A n c] w fun e w' => e = .returned (.int .i64 (rt a s most t : Nat)) ∧ Below w.heap.size w w' := by
  have HS := Lib.hid ht
  have HA := Lib.hid ha
  have HZ := Lib.hid hs
  unfold setV
  obtain ⟨R, hR⟩ : ∃ R, R = rt a s most t := ⟨_, rfl⟩
  rw [← hR]
  have HR := Lib.hid hR
  clear hR ht
  unfold TOP at ha hs hm
  go_enter Tryz.func48, Tryz.ntmps48
  go_upto_region 1 with fail
  have r0 : Row ((w.alloc (.cells #[.int .u64 (a : Nat), .int .u64 (s : Nat)] 62)).alloc (.cells #[.slice A n c] 86)) w.heap.size 62 [.int .u64 (a : Nat), .int .u64 (s : Nat)] := (Row.new w _ _).alloc _
  have r1 : Row ((w.alloc (.cells #[.int .u64 (a : Nat), .int .u64 (s : Nat)] 62)).alloc (.cells #[.slice A n c] 86)) (w.heap.size + 1) 86 [.slice A n c] := by
    have h := Row.new (w.alloc (.cells #[.int .u64 (a : Nat), .int .u64 (s : Nat)] 62)) 86 [.slice A n c]
    rw [show (w.alloc (.cells #[.int .u64 (a : Nat), .int .u64 (s : Nat)] 62)).heap.size = w.heap.size + 1 by simp] at h
    exact h
  have hb0 : Below w.heap.size w ((w.alloc (.cells #[.int .u64 (a : Nat), .int .u64 (s : Nat)] 62)).alloc (.cells #[.slice A n c] 86)) := ((Below.refl _ _).alloc (Nat.le_refl _) _).alloc (by simp) _
  generalize (w.alloc (.cells #[.int .u64 (a : Nat), .int .u64 (s : Nat)] 62)).alloc (.cells #[.slice A n c] 86) = w1 at *
  have c0 := r0.cell 0
  have c1 := r0.cell 1
  have d0 := r1.cell 0
  have hl0 := r0.lt
  have hl1 := r1.lt
  simp only [List.getElem?_cons_zero, List.getElem?_cons_succ] at c0 c1 d0
  have HB0 := Lib.hid hb0; have HR0 := Lib.hid r0; have HR1 := Lib.hid r1
  clear hb0 r0 r1
  obtain ⟨e, he⟩ : ∃ e, e = if a + s ≤ TOP then a + s else 0 := ⟨_, rfl⟩
  obtain ⟨o, ho⟩ : ∃ o, o = decide (a + s ≤ TOP) := ⟨_, rfl⟩
  have HE := Lib.hid he; have HO := Lib.hid ho
  clear he ho
  go_upto_region 2 with (go_at_call 66; refine (add64 a s _ HA.out HZ.out).mono ?_; rintro e' w' ⟨rfl, rfl⟩; rw [← HE.out, ← HO.out])
  have bt : ∀ k : Nat, ((k : Int) == 0) = decide (k = 0) := fun k => by rw [Bool.eq_iff_iff]; simp
  have bf : ∀ k : Nat, ((k : Int) % 4096 != 0) = decide (k % 4096 ≠ 0) := fun k => by rw [Bool.eq_iff_iff]; simp; omega
  have BT := Lib.hid bt; have BF := Lib.hid bf
  clear bt bf
  by_cases z1 : ((s : Int) == 0) = true
  · have HX : Hid (R = 32) := Lib.hid (by rw [BT.out, decide_eq_true_iff] at z1; rw [HR.out, rt, if_pos (Or.inl z1)])
    go_wp2_with fail
    go_ret
    exact ⟨by rw [HX.out]; rfl, HB0.out⟩
  have Z1 : Hid (s ≠ 0) := Lib.hid (by rw [BT.out, decide_eq_true_iff] at z1; exact z1)
  rw [Bool.not_eq_true] at z1
  by_cases z2 : ((s : Int) % 4096 != 0) = true
  · have HX : Hid (R = 32) := Lib.hid (by rw [BF.out, decide_eq_true_iff] at z2; rw [HR.out, rt, if_pos (Or.inr (Or.inl z2))])
    go_wp2_with fail
    go_ret
    exact ⟨by rw [HX.out]; rfl, HB0.out⟩
  have Z2 : Hid (¬ s % 4096 ≠ 0) := Lib.hid (by rw [BF.out, decide_eq_true_iff] at z2; exact z2)
  rw [Bool.not_eq_true] at z2
  by_cases z3 : most < s
  · have HX : Hid (R = 32) := Lib.hid (by rw [HR.out, rt, if_pos (Or.inr (Or.inr z3))])
    go_wp2_with fail
    go_ret
    exact ⟨by rw [HX.out]; rfl, HB0.out⟩
  have HR2 : Hid (R = if a % 4096 ≠ 0 then 33 else if M32 < a + s then 34 else if touch t a (a + s - 1) then 35 else 0) := Lib.hid (by rw [HR.out, rt, if_neg (by rintro (h | h | h); exact Z1.out h; exact Z2.out h; exact z3 h)])
  by_cases z4 : ((a : Int) % 4096 != 0) = true
  · have HX : Hid (R = 33) := Lib.hid (by rw [BF.out, decide_eq_true_iff] at z4; rw [HR2.out, if_pos z4])
    go_wp2_with fail
    go_ret
    exact ⟨by rw [HX.out]; rfl, HB0.out⟩
  have HR3 : Hid (R = if M32 < a + s then 34 else if touch t a (a + s - 1) then 35 else 0) := Lib.hid (by rw [BF.out, decide_eq_true_iff] at z4; rw [HR2.out, if_neg z4])
  rw [Bool.not_eq_true] at z4
  by_cases z5 : a + s ≤ 4294967296
  · have o1 : o = true := by rw [HO.out]; exact decide_eq_true (by unfold TOP; omega)
    have e1 : e ≤ 4294967296 := by rw [HE.out]; split <;> omega
    have HR4 : Hid (R = if touch t a (a + s - 1) then 35 else 0) := Lib.hid (by rw [HR3.out, if_neg (by unfold M32; omega)])
    have HZ5 := Lib.hid z5
    have HE1 : Hid (a + s - 1 ≤ TOP) := Lib.hid (by unfold TOP; omega)
    have HE2 : Hid (0 < s) := Lib.hid (Nat.pos_of_ne_zero Z1.out)
    clear z5
    subst o1
    go_upto_region 8 with fail
    go_region_held3 (fun w' => w'.cell? ⟨w.heap.size, 0, none⟩ = some (.int .u64 (a : Nat)) ∧ w'.cell? ⟨w.heap.size, 1, none⟩ = some (.int .u64 (s : Nat)) ∧ w'.cell? ⟨w.heap.size + 1, 0, none⟩ = some (.slice A n c))
      (first | exact ⟨c0, c1, d0⟩ | exact KO.out | exact KP.out)
      (first
        | (go_at_call 50; refine (all_any a s _ HE2.out HZ5.out).mono ?_; rintro e' w' ⟨rfl, hb'⟩; have HBW : Hid (Below w1.heap.size w1 w') := Lib.hid ((Below.refl w1.heap.size w1).drew.trans (hb'.mono (Below.refl w1.heap.size w1).drew.size)); have KO : Hid (w'.cell? ⟨w.heap.size, 0, none⟩ = some (.int .u64 (a : Nat)) ∧ w'.cell? ⟨w.heap.size, 1, none⟩ = some (.int .u64 (s : Nat)) ∧ w'.cell? ⟨w.heap.size + 1, 0, none⟩ = some (.slice A n c)) := Lib.hid ⟨(HBW.out.cell (p := ⟨w.heap.size, 0, none⟩) hl0).trans c0, (HBW.out.cell (p := ⟨w.heap.size, 1, none⟩) hl0).trans c1, (HBW.out.cell (p := ⟨w.heap.size + 1, 0, none⟩) hl1).trans d0⟩; clear hb')
        | (go_at_call 67; refine (touches_any A n c a (a + s - 1) t _ (HS.out.below (HB0.out.trans (HBW.out.mono HB0.out.size))) HA.out HE1.out).mono ?_; rintro e'' w'' ⟨rfl, hb9⟩; have HBX : Hid (Below w1.heap.size w1 w'') := Lib.hid (HBW.out.trans (hb9.mono HBW.out.size)); have KP : Hid (w''.cell? ⟨w.heap.size, 0, none⟩ = some (.int .u64 (a : Nat)) ∧ w''.cell? ⟨w.heap.size, 1, none⟩ = some (.int .u64 (s : Nat)) ∧ w''.cell? ⟨w.heap.size + 1, 0, none⟩ = some (.slice A n c)) := Lib.hid ⟨(HBX.out.cell (p := ⟨w.heap.size, 0, none⟩) hl0).trans c0, (HBX.out.cell (p := ⟨w.heap.size, 1, none⟩) hl0).trans c1, (HBX.out.cell (p := ⟨w.heap.size + 1, 0, none⟩) hl1).trans d0⟩; clear hb9))
    all_goals
      have HBY : Hid (Below w.heap.size w w'') := Lib.hid (HB0.out.trans (HBX.out.mono HB0.out.size))
      cases hT : touch t a (a + s - 1) with
      | false =>
        have HX : Hid (R = 0) := Lib.hid (by rw [HR4.out, hT]; rfl)
        clear hT
        go_wp2_with fail
        go_ret
        exact ⟨by rw [HX.out]; rfl, HBY.out⟩
      | true =>
        have HX : Hid (R = 35) := Lib.hid (by rw [HR4.out, hT]; rfl)
        clear hT
        go_wp2_with fail
        go_ret
        exact ⟨by rw [HX.out]; rfl, HBY.out⟩
  · have HX : Hid (R = 34) := Lib.hid (by rw [HR3.out, if_pos (by unfold M32; omega)])
    have HZ5 := Lib.hid z5
    cases o with
    | false =>
      clear z5
      go_wp2_with fail
      go_ret
      exact ⟨by rw [HX.out]; rfl, HB0.out⟩
    | true =>
      have e1 : 4294967296 < e := by
        rw [HE.out, if_pos (by have := HO.out; exact of_decide_eq_true this.symm)]; omega
      clear z5
      go_wp2_with fail
      go_ret
      exact ⟨by rw [HX.out]; rfl, HB0.out⟩
end Bu
end Go.Proofs.YtfpofaniicegaaaGreat

/- The map of pages: a word of our own over the kit's 'ownsMap': page number to the block of its leaf. -/
set_option linter.unusedVariables false
set_option linter.unusedSimpArgs false
namespace Go.Proofs.YtfpofaniicegaaaGreat
open Go.RowKit
open S64
namespace Bu
abbrev DU := DataW Unit
/-- how an element reads: nil, or a block -/
def ptrR : Value → Option (DU × List MemPlace)
  | .pointer none => some (.lit (.bool false), [])
  | .pointer (some ⟨p, 0, none⟩) => some (.lit (.int .i64 (p : Nat)), [])
  | _ => none
def ptrV : Option Nat → Value
  | none => .pointer none
  | some p => .pointer (some ⟨p, 0, none⟩)
def ptrD : Option Nat → DU
  | none => .lit (.bool false)
  | some p => .lit (.int .i64 (p : Nat))
theorem ptrR_mk (o : Option Nat) : ptrR (ptrV o) = some (ptrD o, []) := by cases o <;> rfl
theorem ptrR_inv {v : Value} {o : Option Nat} {ps : List MemPlace} (h : ptrR v = some (ptrD o, ps)) : v = ptrV o := by
  unfold ptrR at h
  split at h
  · injection h with h; injection h with h _
    cases o with
    | none => rfl
    | some p => cases h
  · injection h with h; injection h with h _
    cases o with
    | none => cases h
    | some p =>
      simp only [ptrD] at h
      injection h with h; injection h with _ h
      have : _ := Int.ofNat.inj h
      subst this
      rfl
  · cases h
def kl (k : Nat) : Lit := .int .u64 (k : Nat)
theorem kl_key (k : Nat) : WideAt.IsKeyLit (kl k) := trivial
theorem kl_ne {a b : Nat} (h : a ≠ b) : kl a ≠ kl b := by
  intro e
  unfold kl at e
  injection e with _ e
  exact h (Int.ofNat.inj e)
def upd (pm : Nat → Option Nat) (k : Nat) (o : Option Nat) : Nat → Option Nat := fun x => if x = k then o else pm x
theorem upd_same (pm : Nat → Option Nat) (k : Nat) (o : Option Nat) : upd pm k o k = o := if_pos rfl
theorem upd_other (pm : Nat → Option Nat) {k x : Nat} (o : Option Nat) (h : x ≠ k) : upd pm k o x = pm x := if_neg h
structure Pgs (D : DU) (pm : Nat → Option Nat) : Prop where
  at_ : ∀ k, D.atKey (kl k) (.lit (.bool false)) = ptrD (pm k)
  has : ∀ k, Maps.has D (kl k) = (pm k).isSome
  key : ∀ l, Maps.has D l = true → ∃ k, l = kl k
  tidy : Maps.Tidy D
theorem Pgs.nil : Pgs (.map []) (fun _ => none) := ⟨fun _ => rfl, fun _ => rfl, fun _ h => (by cases h), Maps.tidy_empty⟩
theorem Pgs.put {D : DU} {pm : Nat → Option Nat} (h : Pgs D pm) (k p : Nat) : Pgs (D.put (kl k) (ptrD (some p))) (upd pm k (some p)) := by
  have hm := h.tidy.isMap
  refine ⟨fun x => ?_, fun x => ?_, fun l hl => ?_, h.tidy.put (kl_key k) _⟩
  · by_cases e : x = k
    · subst e
      rw [upd_same, Maps.atKey_put_same hm (kl_key _)]
    · rw [upd_other _ _ e, Maps.atKey_put_other (kl_ne e), h.at_]
  · by_cases e : x = k
    · subst e
      rw [upd_same, Maps.has_put_same hm (kl_key _)]; rfl
    · rw [upd_other _ _ e, Maps.has_put_other (kl_ne e), h.has]
  · by_cases e : l = kl k
    · exact ⟨k, e⟩
    · rw [Maps.has_put_other e] at hl
      exact h.key l hl
theorem Pgs.del {D : DU} {pm : Nat → Option Nat} (h : Pgs D pm) (k : Nat) : Pgs (D.del (kl k)) (upd pm k none) := by
  refine ⟨fun x => ?_, fun x => ?_, fun l hl => ?_, h.tidy.del _⟩
  · by_cases e : x = k
    · subst e
      rw [upd_same, Maps.atKey_del_same]; rfl
    · rw [upd_other _ _ e, Maps.atKey_del_other (kl_ne e), h.at_]
  · by_cases e : x = k
    · subst e
      rw [upd_same, Maps.has_del_same]; rfl
    · rw [upd_other _ _ e, Maps.has_del_other (kl_ne e), h.has]
  · by_cases e : l = kl k
    · exact ⟨k, e⟩
    · rw [Maps.has_del_other e] at hl
      exact h.key l hl
def kn : Lit → Nat
  | .int _ n => n.toNat
  | _ => 0
theorem kn_kl (k : Nat) : kn (kl k) = k := by simp [kn, kl]
/-- how many -/
theorem Pgs.size {D : DU} {pm : Nat → Option Nat} (h : Pgs D pm) (hc : Maps.Canon D) (ks : List Nat) (hn : ks.Nodup) (hk : ∀ k, k ∈ ks ↔ (pm k).isSome = true) : Maps.size D = ks.length := by
  obtain ⟨es, rfl, hr, hkey⟩ := hc
  have hp := Maps.apart_of_rising hr
  rw [Maps.size_eq]
  have hhas : ∀ l, WideAt.IsKeyLit l → (Maps.has (.map es : DU) l = true ↔ ∃ x ∈ es, x.1 = l) := by
    intro l hl
    rw [Maps.has_eq, List.any_eq_true]
    constructor
    · rintro ⟨x, hx, he⟩
      exact ⟨x, hx, WideAt.sameKey_eq he⟩
    · rintro ⟨x, hx, rfl⟩
      exact ⟨x, hx, WideAt.sameKey_self hl⟩
  have hk2 : ∀ x ∈ es, ∃ k, x.1 = kl k := fun x hx => h.key x.1 ((hhas x.1 (hkey x hx)).2 ⟨x, hx, rfl⟩)
  have hn2 : (es.map fun x => kn x.1).Nodup := by
    rw [List.Nodup, List.pairwise_map]
    refine hp.imp_of_mem ?_
    intro x y hx hy hne e
    obtain ⟨a, ha⟩ := hk2 x hx
    obtain ⟨b, hb⟩ := hk2 y hy
    rw [ha, hb, kn_kl, kn_kl] at e
    exact hne (by rw [ha, hb, e])
  have hmem : ∀ k, k ∈ (es.map fun x => kn x.1) ↔ k ∈ ks := by
    intro k
    rw [hk, ← h.has, hhas _ (kl_key k), List.mem_map]
    constructor
    · rintro ⟨x, hx, rfl⟩
      obtain ⟨a, ha⟩ := hk2 x hx
      exact ⟨x, hx, by rw [ha, kn_kl]⟩
    · rintro ⟨x, hx, e⟩
      exact ⟨x, hx, by rw [e, kn_kl]⟩
  have h1 := Sp.nodup_le hn2 (fun x hx => (hmem x).1 hx)
  have h2 := Sp.nodup_le hn (fun x hx => (hmem x).2 hx)
  rw [List.length_map] at h1 h2
  omega
/-- every pages' number below m: at most m -/
theorem Pgs.size_le {D : DU} {pm : Nat → Option Nat} (h : Pgs D pm) (hc : Maps.Canon D) (m : Nat) (hm : ∀ k, (pm k).isSome = true → k < m) : Maps.size D ≤ m := by
  have hd := h.size hc ((List.range m).filter fun k => (pm k).isSome) (List.nodup_range.filter _) (fun k => by
    rw [List.mem_filter, List.mem_range]
    exact ⟨fun h => h.2, fun h => ⟨hm k h, h⟩⟩)
  rw [hd]
  have := List.length_filter_le (fun k => (pm k).isSome) (List.range m)
  rw [List.length_range] at this
  exact this
theorem owns_tight {w : World} {P : Program} {k : TypeId} {R : Value → Option (DU × List MemPlace)} {b n : Nat} {D : DU} (h : w.ownsMap P k R b n D) : w.ownsMap P k R b (Maps.size D) D := by
  obtain ⟨es, clock, hb, F, hs, hD⟩ := h
  refine ⟨es, clock, hb, F, ?_, hD⟩
  rw [hD, Maps.size_eq, length_sorted, List.length_map, Array.length_toList]
  exact Nat.le_refl _
/-- BLOCK b OF w IS THE PAGES' MAP -/
def MapAt (w : World) (b : Nat) (pm : Nat → Option Nat) : Prop := (∃ D n, w.ownsMap Tryz.prog 31 ptrR b n D ∧ Pgs D pm) ∧ ∀ k, (pm k).isSome = true → k < 4503599627370496
theorem keyed64 : Maps.Keyed Tryz.prog 31 := Maps.int_keyed Tryz.underlying31
theorem kl_of {k : Nat} (hk : k ≤ TOP) : keyOf Tryz.prog 31 (.int .u64 (k : Nat)) = some (kl k) := Maps.keyOf_int_mk Tryz.underlying31 (by unfold TOP at hk; simp [Lit.wf, IntKind.min, IntKind.max, IntKind.signed, IntKind.bits]; omega)
theorem zero_leafp (w : World) : (zeroValue 153).run Tryz.prog w = .ok (.pointer none) w := by kernel_rfl
theorem MapAt.lt {w : World} {b : Nat} {pm : Nat → Option Nat} (h : MapAt w b pm) : b < w.heap.size := by obtain ⟨⟨D, n, h, _⟩, _⟩ := h; exact h.lt
theorem MapAt.look {w : World} {b : Nat} {pm : Nat → Option Nat} (h : MapAt w b pm) (k : Nat) (hk : k ≤ TOP) : (Instr.lookup 87 (.map (some b)) (.int .u64 (k : Nat)) true).run Tryz.prog w = .ok (.tuple #[ptrV (pm k), .bool (pm k).isSome]) w := by
  obtain ⟨⟨D, n, h, hp⟩, _⟩ := h
  obtain ⟨v, ps, hrun, hv⟩ := h.look_ok keyed64 Tryz.underlying87 (z := .pointer none) (zero_leafp w) (zd := .lit (.bool false)) (zp := []) rfl (kl_of hk)
  rw [hp.at_] at hv
  rw [hrun, ptrR_inv hv, hp.has]
theorem mapAt_made (w : World) : MapAt (w.alloc (.map #[] 0)) w.heap.size (fun _ => none) := ⟨⟨.map [], 0, World.ownsMap_made w _ _ _, Pgs.nil⟩, fun k h => by cases h⟩
theorem MapAt.kept {w w' : World} {b : Nat} {pm : Nat → Option Nat} {row : Option Nat} (h : MapAt w b pm) (hg : w.grownBy w' row) (hne : some b ≠ row) : MapAt w' b pm := by
  obtain ⟨⟨D, n, h, hp⟩, hk⟩ := h
  exact ⟨⟨D, n, h.kept hg hne, hp⟩, hk⟩
theorem MapAt.same {w w' : World} {b : Nat} {pm : Nat → Option Nat} (h : MapAt w b pm) (hb : w'.heap[b]? = w.heap[b]?) : MapAt w' b pm := by
  obtain ⟨⟨D, n, ⟨es, clock, h, r⟩, hp⟩, hk⟩ := h
  exact ⟨⟨D, n, ⟨es, clock, hb.trans h, r⟩, hp⟩, hk⟩
theorem MapAt.store {w : World} {b : Nat} {pm : Nat → Option Nat} (h : MapAt w b pm) (k p : Nat) (hk : k < 4503599627370496) :
    ∃ w', (Instr.mapUpdate 87 (.map (some b)) (.int .u64 (k : Nat)) (.pointer (some ⟨p, 0, none⟩))).run Tryz.prog w = .ok () w' ∧ MapAt w' b (upd pm k (some p)) ∧ w.mapTurned w' b := by
  obtain ⟨⟨D, n, h, hp⟩, hm⟩ := h
  have hs := hp.size_le (h.canon keyed64) _ hm
  obtain ⟨w', hrun, h', ht⟩ := (owns_tight h).store keyed64 Tryz.underlying87 (by unfold maxLen; omega) (kl_of (k := k) (by unfold TOP; omega)) (val := .pointer (some ⟨p, 0, none⟩)) rfl
  refine ⟨w', hrun, ⟨⟨_, _, h', hp.put k p⟩, fun x hx => ?_⟩, ht⟩
  by_cases e : x = k
  · rw [e]; exact hk
  · rw [upd_other _ _ e] at hx; exact hm x hx
theorem MapAt.drop {w : World} {b : Nat} {pm : Nat → Option Nat} (h : MapAt w b pm) (k : Nat) (hk : k ≤ TOP) (ty : TypeId) :
    ∃ w', (Builtin.delete_ #[87, 31] ty #[.map (some b), .int .u64 (k : Nat)]).run Tryz.prog w = .ok (.tuple #[]) w' ∧ MapAt w' b (upd pm k none) ∧ w.mapTurned w' b := by
  obtain ⟨⟨D, n, h, hp⟩, hm⟩ := h
  obtain ⟨w', hrun, h', ht⟩ := h.drop keyed64 Tryz.underlying87 (kl_of hk) ty
  refine ⟨w', hrun, ⟨⟨_, _, h', hp.del k⟩, fun x hx => ?_⟩, ht⟩
  by_cases e : x = k
  · rw [e, upd_same] at hx; cases hx
  · rw [upd_other _ _ e] at hx; exact hm x hx
theorem MapAt.len {w : World} {b : Nat} {pm : Nat → Option Nat} (h : MapAt w b pm) (ks : List Nat) (hn : ks.Nodup) (hk : ∀ k, k ∈ ks ↔ (pm k).isSome = true) (ty : TypeId) : (Builtin.len_ #[87] ty #[.map (some b)]).run Tryz.prog w = .ok (.int .i64 (ks.length : Nat)) w := by
  obtain ⟨⟨D, n, h, hp⟩, hm⟩ := h
  rw [h.len Tryz.underlying87 ty, hp.size (h.canon keyed64) ks hn hk]
end Bu
end Go.Proofs.YtfpofaniicegaaaGreat
