/- The walks of Without, Covers, Has, Spans, Same. -/
import Derived.Test.YtchajbegjajlkaaSpV8
set_option linter.unusedVariables false
set_option linter.unusedSimpArgs false
namespace Go.Proofs.Ytchajbegjajlkaa
open Go.RowKit
namespace S8
/-- without one span -/
def MadeL (w : World) (s : Sp.S) (a b : Nat) (e : Ending) (w' : World) : Prop := ∃ A n c out, e = .returned (setV A n c) ∧ OwnS w' w.heap.size A n c out ∧ Sp.Mk TOP (fun a b => a && !b) s (one a b) out ∧ Below w.heap.size w w'
set_option maxRecDepth 100000 in
set_option maxHeartbeats 1000000 in
theorem without_any (A : Option Addr) (n c a b : Nat) (s : Sp.S) (w : World) (hs : IsSet w A n c s) (ha : a ≤ TOP) (hb : b ≤ TOP) (hn : n ≤ 1099511627776) :
    Calls Try.prog 23 #[setV A n c, .agg #[.int .u8 (a : Nat), .int .u8 (b : Nat)]] w (MadeL w s a b) := by
  have HS := Lib.hid hs
  unfold setV
  clear hs
  go_enter Try.func23, Try.ntmps23
  go_upto_region 1 with fail
  have r0 : Row (((w.alloc (.cells #[.slice A n c] 43)).alloc (.cells #[.int .u8 (a : Nat), .int .u8 (b : Nat)] 48)).alloc (.cells #[.slice none 0 0] 43)) w.heap.size 43 [.slice A n c] := ((Row.new w _ [.slice A n c]).alloc _).alloc _
  have r1 : Row (((w.alloc (.cells #[.slice A n c] 43)).alloc (.cells #[.int .u8 (a : Nat), .int .u8 (b : Nat)] 48)).alloc (.cells #[.slice none 0 0] 43)) (w.heap.size + 1) 48 [.int .u8 (a : Nat), .int .u8 (b : Nat)] := by
    have h := Row.new (w.alloc (.cells #[.slice A n c] 43)) 48 [.int .u8 (a : Nat), .int .u8 (b : Nat)]
    rw [show (w.alloc (.cells #[.slice A n c] 43)).heap.size = w.heap.size + 1 by simp] at h
    exact h.alloc _
  have r2 : Row (((w.alloc (.cells #[.slice A n c] 43)).alloc (.cells #[.int .u8 (a : Nat), .int .u8 (b : Nat)] 48)).alloc (.cells #[.slice none 0 0] 43)) (w.heap.size + 1 + 1) 43 [.slice none 0 0] := by
    have h := Row.new ((w.alloc (.cells #[.slice A n c] 43)).alloc (.cells #[.int .u8 (a : Nat), .int .u8 (b : Nat)] 48)) 43 [.slice none 0 0]
    rw [show ((w.alloc (.cells #[.slice A n c] 43)).alloc (.cells #[.int .u8 (a : Nat), .int .u8 (b : Nat)] 48)).heap.size = w.heap.size + 1 + 1 by simp] at h
    exact h
  have hb0 : Below w.heap.size w (((w.alloc (.cells #[.slice A n c] 43)).alloc (.cells #[.int .u8 (a : Nat), .int .u8 (b : Nat)] 48)).alloc (.cells #[.slice none 0 0] 43)) := (((Below.refl _ _).alloc (Nat.le_refl _) _).alloc (by simp) _).alloc (by simp; omega) _
  generalize ((w.alloc (.cells #[.slice A n c] 43)).alloc (.cells #[.int .u8 (a : Nat), .int .u8 (b : Nat)] 48)).alloc (.cells #[.slice none 0 0] 43) = w1 at *
  have c0 := r0.cell 0
  have d0 := r1.cell 0
  have d1 := r1.cell 1
  have hl0 := r0.lt
  have hl1 := r1.lt
  have hl2 := r2.lt
  simp only [List.getElem?_cons_zero, List.getElem?_cons_succ] at c0 d0 d1
  have HB0 := Lib.hid hb0; have HR2 := Lib.hid r2
  clear hb0 r0 r1 r2
  have hrn : Row (w1.alloc (.cells #[.int .u8 (a : Nat), .int .u8 (b : Nat)] 48)) w1.heap.size 48 (scell (a, b)) := Row.new w1 _ (scell (a, b))
  have hbn : Below w1.heap.size w1 (w1.alloc (.cells #[.int .u8 (a : Nat), .int .u8 (b : Nat)] 48)) := (Below.refl _ _).alloc (Nat.le_refl _) _
  have HRN := Lib.hid hrn; have HBN := Lib.hid hbn
  clear hrn hbn
  have KEEP : Hid (∀ (w' : World) (v : Value), w'.cell? ⟨w.heap.size, 0, none⟩ = some (.slice A n c) → w'.cell? ⟨w.heap.size + 1, 0, none⟩ = some (.int .u8 (a : Nat)) → w'.cell? ⟨w.heap.size + 1, 1, none⟩ = some (.int .u8 (b : Nat)) → (w'.setCell ⟨w.heap.size + 1 + 1, 0, none⟩ v).cell? ⟨w.heap.size, 0, none⟩ = some (.slice A n c) ∧ (w'.setCell ⟨w.heap.size + 1 + 1, 0, none⟩ v).cell? ⟨w.heap.size + 1, 0, none⟩ = some (.int .u8 (a : Nat)) ∧ (w'.setCell ⟨w.heap.size + 1 + 1, 0, none⟩ v).cell? ⟨w.heap.size + 1, 1, none⟩ = some (.int .u8 (b : Nat))) := Lib.hid fun w' v h1 h2 h3 => ⟨(World.cell?_setCell_other _ _ _ _ (by intro h; injection h; omega)).trans h1, (World.cell?_setCell_other _ _ _ _ (by intro h; injection h; omega)).trans h2, (World.cell?_setCell_other _ _ _ _ (by intro h; injection h; omega)).trans h3⟩
  go_region_held3 (fun w' => w'.cell? ⟨w.heap.size, 0, none⟩ = some (.slice A n c) ∧ w'.cell? ⟨w.heap.size + 1, 0, none⟩ = some (.int .u8 (a : Nat)) ∧ w'.cell? ⟨w.heap.size + 1, 1, none⟩ = some (.int .u8 (b : Nat)))
    (first | exact ⟨c0, d0, d1⟩ | exact KO.out | exact KP.out | exact ⟨(HBN.out.drew.cell (p := ⟨w.heap.size, 0, none⟩) hl0).trans c0, (HBN.out.drew.cell (p := ⟨w.heap.size + 1, 0, none⟩) hl1).trans d0, (HBN.out.drew.cell (p := ⟨w.heap.size + 1, 1, none⟩) hl1).trans d1⟩ | exact KEEP.out _ _ KP.out.1 KP.out.2.1 KP.out.2.2)
    (first
      | (go_at_call 35; refine (of_one w1.heap.size 1 a b _ HRN.out.drew ha hb).mono ?_; rintro e w' ⟨Ao, co, rfl, hown, hb'⟩; have hbw : Below w1.heap.size w1 w' := HBN.out.drew.trans (hb'.mono HBN.out.size); have HOW := Lib.hid hown; have HBW := Lib.hid hbw; have KO : Hid (w'.cell? ⟨w.heap.size, 0, none⟩ = some (.slice A n c) ∧ w'.cell? ⟨w.heap.size + 1, 0, none⟩ = some (.int .u8 (a : Nat)) ∧ w'.cell? ⟨w.heap.size + 1, 1, none⟩ = some (.int .u8 (b : Nat))) := Lib.hid ⟨(hbw.cell (p := ⟨w.heap.size, 0, none⟩) hl0).trans c0, (hbw.cell (p := ⟨w.heap.size + 1, 0, none⟩) hl1).trans d0, (hbw.cell (p := ⟨w.heap.size + 1, 1, none⟩) hl1).trans d1⟩; clear hown hb' hbw)
      | (go_at_call 27; refine (less_any A Ao n c (one a b).length co s (one a b) _ (HS.out.below (HB0.out.trans (HBW.out.mono HB0.out.size))) (HOW.out.isSet (one_nrm hb) (by have := one_len a b; omega)) (by have := one_len a b; omega)).mono ?_; rintro e w'' ⟨A9, n9, c9, out, rfl, hown9, hmk9, hb9⟩; unfold setV; have hbx : Below w1.heap.size w1 w'' := HBW.out.trans (hb9.mono HBW.out.size); have hz := HR2.out.below hbx HR2.out.lt; have z0 := hz.cell 0; have z1 := hz.frozen 0; have zl := hz.lt; simp only [List.getElem?_cons_zero] at z0; have HF := Lib.hid hown9; have HM := Lib.hid hmk9; have HBX := Lib.hid hbx; have HZ := Lib.hid hz; have KP : Hid (w''.cell? ⟨w.heap.size, 0, none⟩ = some (.slice A n c) ∧ w''.cell? ⟨w.heap.size + 1, 0, none⟩ = some (.int .u8 (a : Nat)) ∧ w''.cell? ⟨w.heap.size + 1, 1, none⟩ = some (.int .u8 (b : Nat))) := Lib.hid ⟨(hbx.cell (p := ⟨w.heap.size, 0, none⟩) hl0).trans c0, (hbx.cell (p := ⟨w.heap.size + 1, 0, none⟩) hl1).trans d0, (hbx.cell (p := ⟨w.heap.size + 1, 1, none⟩) hl1).trans d1⟩; clear hown9 hmk9 hb9 hbx hz))
  all_goals
    have HR4 : Hid (Row (w''.setCell ⟨w.heap.size + 1 + 1, 0, none⟩ (.slice A9 n9 c9)) (w.heap.size + 1 + 1) 43 [.slice A9 n9 c9]) := Lib.hid (HZ.out.set_ 0 _)
    have z2 := HR4.out.cell 0
    simp only [List.getElem?_cons_zero] at z2
    have HO : Hid (OwnS (w''.setCell ⟨w.heap.size + 1 + 1, 0, none⟩ (.slice A9 n9 c9)) w.heap.size A9 n9 c9 out) := Lib.hid ⟨own_setr (own_monor HF.out.1 (Nat.le_trans HB0.out.size HBW.out.size)) HZ.out (by decide) 0 _, HF.out.2⟩
    have HBB : Hid (Below w.heap.size w (w''.setCell ⟨w.heap.size + 1 + 1, 0, none⟩ (.slice A9 n9 c9))) := Lib.hid ((HB0.out.trans (HBX.out.mono HB0.out.size)).setCell (p := ⟨w.heap.size + 1 + 1, 0, none⟩) (Nat.le_trans (Nat.le_succ _) (Nat.le_succ _)) _)
    go_wp2_with fail
    refine bodyPost_ret (v := .agg #[.slice A9 n9 c9]) (by simp [results, Try.results23, go_sem, z2]) rfl ⟨A9, n9, c9, out, rfl, HO.out, HM.out, HBB.out⟩

/-- do all points of a span lie in a set? -/
def cov (s : Sp.S) (a b : Nat) : Bool := if b < a then true else match Sp.from_ s a with
  | [] => false
  | x :: _ => decide (x.1 ≤ a) && decide (b ≤ x.2)
theorem cov_iff {s : Sp.S} {a b : Nat} (hn : Sp.Nrm TOP s) : cov s a b = true ↔ ∀ p, a ≤ p → p ≤ b → Sp.has s p = true := by
  unfold cov
  by_cases hab : b < a
  · rw [if_pos hab]
    exact ⟨fun _ p h1 h2 => by omega, fun _ => rfl⟩
  · rw [if_neg hab]
    cases hf : Sp.from_ s a with
    | nil =>
      simp only [Bool.false_eq_true, false_iff]
      intro h
      have h1 := h a (Nat.le_refl _) (by omega)
      rw [← Sp.from_has hn (Nat.le_refl a), hf] at h1
      cases h1
    | cons x r =>
      have hx := Sp.from_head hf
      have hnf := Sp.from_nrm hn a
      rw [hf] at hnf
      obtain ⟨hx1, hx2, hx3⟩ := hnf.head
      have hh : ∀ q, a ≤ q → Sp.has s q = (decide (x.1 ≤ q ∧ q ≤ x.2) || Sp.has r q) := fun q hq => by
        rw [← Sp.from_has hn hq, hf, Sp.has_cons]
      simp only [Bool.and_eq_true, decide_eq_true_eq]
      constructor
      · rintro ⟨h1, h2⟩ p h3 h4
        rw [hh p h3, decide_eq_true (by omega)]; rfl
      · intro h
        have h1 : x.1 ≤ a := by
          by_cases hc : x.1 ≤ a
          · exact hc
          · have h2 := h a (Nat.le_refl _) (by omega)
            rw [hh a (Nat.le_refl _), decide_eq_false (by omega), Bool.false_or, Sp.has_low (fun y hy => by have := hx3 y hy; omega)] at h2
            cases h2
        refine ⟨h1, ?_⟩
        by_cases hc : b ≤ x.2
        · exact hc
        · have h2 := h (x.2 + 1) (by omega) (by omega)
          rw [hh _ (by omega), decide_eq_false (by omega), Bool.false_or, Sp.has_low (fun y hy => by have := hx3 y hy; omega)] at h2
          cases h2
theorem cov_one {s : Sp.S} {p : Nat} (hn : Sp.Nrm TOP s) : cov s p p = Sp.has s p := by
  cases h : Sp.has s p with
  | true => exact (cov_iff hn).2 (fun q h1 h2 => by rw [show q = p by omega]; exact h)
  | false =>
    cases h2 : cov s p p with
    | false => rfl
    | true =>
      have := (cov_iff hn).1 h2 p (Nat.le_refl _) (Nat.le_refl _)
      rw [h] at this; cases this
set_option maxRecDepth 100000 in
set_option maxHeartbeats 1000000 in
theorem covers_any (A : Option Addr) (n c a b : Nat) (s : Sp.S) (w : World) (hs : IsSet w A n c s) (ha : a ≤ TOP) (hb : b ≤ TOP) :
    Calls Try.prog 58 #[setV A n c, .agg #[.int .u8 (a : Nat), .int .u8 (b : Nat)]] w fun e w' => e = .returned (.bool (cov s a b)) ∧ Below w.heap.size w w' := by
  have HFI : Hid (∀ wx, Below w.heap.size w wx → Calls Try.prog 59 #[.agg #[.slice A n c], .int .u8 (a : Nat)] wx fun e w' => ∃ i : Nat, e = .returned (.int .i64 (i : Nat)) ∧ i ≤ n ∧ Sp.from_ s a = s.drop i ∧ Below wx.heap.size wx w') := Lib.hid fun wx hb => find_any A n c a s wx (hs.below hb) ha
  unfold setV
  obtain ⟨b0, o, HF⟩ := hs.1.form
  have HL := Lib.hid hs.1.2.1
  have hn63 := hs.1.2.2
  obtain ⟨T, hT⟩ : ∃ T, T = cov s a b := ⟨_, rfl⟩
  have HT : Hid (T = if b < a then true else match Sp.from_ s a with | [] => false | x :: _ => decide (x.1 ≤ a) && decide (b ≤ x.2)) := Lib.hid hT
  rw [← hT]
  clear hs hT
  unfold TOP at ha hb
  go_enter Try.func58, Try.ntmps58
  go_upto_region 1 with fail
  have r0 : Row ((w.alloc (.cells #[.slice A n c] 43)).alloc (.cells #[.int .u8 (a : Nat), .int .u8 (b : Nat)] 48)) w.heap.size 43 [.slice A n c] := (Row.new w _ [.slice A n c]).alloc _
  have r1 : Row ((w.alloc (.cells #[.slice A n c] 43)).alloc (.cells #[.int .u8 (a : Nat), .int .u8 (b : Nat)] 48)) (w.heap.size + 1) 48 [.int .u8 (a : Nat), .int .u8 (b : Nat)] := by
    have h := Row.new (w.alloc (.cells #[.slice A n c] 43)) 48 [.int .u8 (a : Nat), .int .u8 (b : Nat)]
    rw [show (w.alloc (.cells #[.slice A n c] 43)).heap.size = w.heap.size + 1 by simp] at h
    exact h
  have hb0 : Below w.heap.size w ((w.alloc (.cells #[.slice A n c] 43)).alloc (.cells #[.int .u8 (a : Nat), .int .u8 (b : Nat)] 48)) := ((Below.refl _ _).alloc (Nat.le_refl _) _).alloc (by simp) _
  generalize (w.alloc (.cells #[.slice A n c] 43)).alloc (.cells #[.int .u8 (a : Nat), .int .u8 (b : Nat)] 48) = w1 at *
  have HROW : Hid (∀ wx, Below w1.heap.size w1 wx → wx.cell? ⟨w.heap.size, 0, none⟩ = some (.slice A n c) ∧ wx.cell? ⟨w.heap.size + 1, 0, none⟩ = some (.int .u8 (a : Nat)) ∧ wx.cell? ⟨w.heap.size + 1, 1, none⟩ = some (.int .u8 (b : Nat)) ∧ w.heap.size < wx.heap.size ∧ w.heap.size + 1 < wx.heap.size) := Lib.hid (fun wx hb => by
    have h0 := r0.below hb r0.lt
    have h1 := r1.below hb r1.lt
    exact ⟨h0.cell 0, h1.cell 0, h1.cell 1, h0.lt, h1.lt⟩)
  have HB0 := Lib.hid hb0
  obtain ⟨c0, d0, d1, hl0, hl1⟩ := HROW.out w1 (Below.refl _ _)
  clear hb0 r0 r1
  by_cases hab : b < a
  · have f1 : decide (b < a) = true := decide_eq_true hab
    have HT1 : Hid (T = true) := Lib.hid (by rw [HT.out, if_pos hab])
    clear hab
    go_wp2_with (go_at_call 53; refine (none_any a b _).mono ?_; rintro e w' ⟨rfl, hb'⟩; have HBN := Lib.hid hb'; clear hb')
    go_ret
    exact ⟨by rw [HT1.out]; rfl, HB0.out.trans (HBN.out.mono HB0.out.size)⟩
  · have f1 : decide (b < a) = false := decide_eq_false hab
    have HT1 : Hid (T = match Sp.from_ s a with | [] => false | x :: _ => decide (x.1 ≤ a) && decide (b ≤ x.2)) := Lib.hid (by rw [HT.out, if_neg hab])
    clear hab
    go_upto_region 3 with (go_at_call 53; refine (none_any a b _).mono ?_; rintro e w2 ⟨rfl, hb'⟩; have HBN := Lib.hid hb'; clear hb')
    clear c0 d0 d1 hl0 hl1
    obtain ⟨c0, d0, d1, hl0, hl1⟩ := HROW.out w2 HBN.out
    go_upto_region 4 with (go_at_call 59; refine (HFI.out _ (HB0.out.trans (HBN.out.mono HB0.out.size))).mono ?_; rintro e w3 ⟨i, rfl, hi, hfr, hb3⟩; have HB3 := Lib.hid hb3; have HFR := Lib.hid hfr; clear hb3 hfr)
    clear c0 d0 d1 hl0 hl1
    have HB3' : Hid (Below w1.heap.size w1 w3) := Lib.hid (HBN.out.trans (HB3.out.mono HBN.out.size))
    have HBW : Hid (Below w.heap.size w w3) := Lib.hid (HB0.out.trans (HB3'.out.mono HB0.out.size))
    obtain ⟨c0, d0, d1, hl0, hl1⟩ := HROW.out w3 HB3'.out
    clear HFI HROW
    have HT2 : Hid (T = match s.drop i with | [] => false | x :: _ => decide (x.1 ≤ a) && decide (b ≤ x.2)) := Lib.hid (by rw [HT1.out, HFR.out]; cases s.drop i <;> rfl)
    by_cases hin : i = n
    · have g1 : decide (i < n) = false := decide_eq_false (by omega)
      have HT3 : Hid (T = false) := Lib.hid (by rw [HT2.out, List.drop_of_length_le (by have := HL.out; omega)])
      clear hin HF
      go_quiet (fail)
      go_wp2_with fail
      go_ret
      exact ⟨by rw [HT3.out]; rfl, below_drewN HBW.out nq⟩
    · have g1 : decide (i < n) = true := decide_eq_true (by omega)
      obtain ⟨x, hx⟩ : ∃ x, s[i]? = some x := ⟨_, List.getElem?_eq_getElem (by have := HL.out; omega)⟩
      obtain ⟨rfl, hbl, hcell⟩ := HF.out (by omega)
      have x0 := (HBW.out.cell (p := ⟨b0, o + i * 2, none⟩) hbl).trans (hcell i x hx).1
      have x1 := (HBW.out.cell (p := ⟨b0, o + i * 2 + 1, none⟩) hbl).trans (hcell i x hx).2
      have hbl3 := Nat.lt_of_lt_of_le hbl HBW.out.size
      have HT3 : Hid (T = (decide (x.1 ≤ a) && decide (b ≤ x.2))) := Lib.hid (by
        have hd : s.drop i = x :: s.drop (i + 1) := by
          obtain ⟨h1, h2⟩ := List.getElem?_eq_some_iff.1 hx
          rw [List.drop_eq_getElem_cons h1, h2]
        rw [HT2.out, hd])
      have hi0 : (0 : Int) ≤ (i : Int) := by omega
      have hi1 : (i : Int) < (n : Int) := by omega
      obtain ⟨xa, xb⟩ := x
      simp only at x0 x1 HT3
      clear hin hx hcell HF HT2
      by_cases ha1 : xa ≤ a
      · have g2 : decide (xa ≤ a) = true := decide_eq_true ha1
        have HG2 := Lib.hid g2
        clear ha1
        go_quiet (fail)
        go_wp2_with fail
        go_ret
        exact ⟨by rw [HT3.out, HG2.out]; simp, below_drewN HBW.out nq⟩
      · have g2 : decide (xa ≤ a) = false := decide_eq_false ha1
        have HG2 := Lib.hid g2
        clear ha1
        go_quiet (fail)
        go_wp2_with fail
        go_ret
        exact ⟨by rw [HT3.out, HG2.out]; rfl, below_drewN HBW.out nq⟩
set_option maxRecDepth 100000 in
set_option maxHeartbeats 1000000 in
theorem has_any (A : Option Addr) (n c p : Nat) (s : Sp.S) (w : World) (hs : IsSet w A n c s) (hp : p ≤ TOP) :
    Calls Try.prog 39 #[setV A n c, .int .u8 (p : Nat)] w fun e w' => e = .returned (.bool (Sp.has s p)) ∧ Below w.heap.size w w' := by
  have HCV : Hid (∀ wx, Below w.heap.size w wx → Calls Try.prog 58 #[.agg #[.slice A n c], .agg #[.int .u8 (p : Nat), .int .u8 (p : Nat)]] wx fun e w' => e = .returned (.bool (Sp.has s p)) ∧ Below wx.heap.size wx w') := Lib.hid fun wx hb => by
    have h := covers_any A n c p p s wx (hs.below hb) hp hp
    rw [cov_one hs.2.2.2.1] at h
    exact h
  unfold setV
  obtain ⟨T, hT⟩ : ∃ T, T = Sp.has s p := ⟨_, rfl⟩
  rw [← hT] at HCV ⊢
  clear hs hT
  unfold TOP at hp
  go_enter Try.func39, Try.ntmps39
  go_upto_region 1 with fail
  have r0 : Row (w.alloc (.cells #[.slice A n c] 43)) w.heap.size 43 [.slice A n c] := Row.new w _ [.slice A n c]
  have hb0 : Below w.heap.size w (w.alloc (.cells #[.slice A n c] 43)) := (Below.refl _ _).alloc (Nat.le_refl _) _
  generalize w.alloc (.cells #[.slice A n c] 43) = w1 at *
  have c0 := r0.cell 0
  have hl0 := r0.lt
  simp only [List.getElem?_cons_zero] at c0
  have HB0 := Lib.hid hb0
  clear hb0 r0
  go_wp2_with fail
  refine (HCV.out w1 HB0.out).mono ?_
  rintro e w2 ⟨rfl, hb2⟩
  have HB2 : Hid (Below w.heap.size w w2) := Lib.hid (HB0.out.trans (hb2.mono HB0.out.size))
  clear hb2 c0 hl0 HCV
  go_wp2_with fail
  go_ret
  exact ⟨rfl, HB2.out⟩
/-- what Spans tells -/
def SpansSaid (w : World) (n : Nat) (s : Sp.S) (e : Ending) (w' : World) : Prop := (∃ A' c', e = .returned (.slice A' n c') ∧ OwnS w' w.heap.size A' n c' s ∧ n ≤ c' ∧ c' ≤ 9223372036854775807) ∧ Below w.heap.size w w'
set_option maxRecDepth 100000 in
set_option maxHeartbeats 400000 in
theorem clone_any (A : Option Addr) (n c : Nat) (bs : Sp.S) (w : World) (ha : IsS w w.heap.size A n bs) (hn : n ≤ 2199023255552) :
    Calls Try.prog 38 #[.slice A n c] w (SpansSaid w n bs) := by
  obtain ⟨i0, hi0, hz1, hz2, hz3⟩ := info_parts infoSp
  have HA := Lib.hid ha
  have HI := Lib.hid hi0; have HZ1 := Lib.hid hz1; have HZ2 := Lib.hid hz2; have HZ3 := Lib.hid hz3
  clear hi0 hz1 hz2 hz3 ha
  cases A with
  | none =>
    obtain rfl : n = 0 := by
      rcases Nat.eq_zero_or_pos n with h | h
      · exact h
      · obtain ⟨ad, h, _⟩ := HA.out.1.2 h; cases h
    have hq : ∀ wx : World, (binOp .eql 41 (.slice none 0 c) (.slice none 0 0)).run Try.prog wx = .ok (.bool true) wx := fun wx => Lib.run_eql_slice_nil wx 41 48 none 0 c 0 0 Try.underlying41
    go_enter Try.func38, Try.ntmps38
    go_wp2_with fail
    go_ret
    obtain rfl : bs = [] := List.eq_nil_of_length_eq_zero HA.out.2.1
    exact ⟨⟨none, 0, rfl, ⟨World.ownsRow_nil _ _ _ _, rfl⟩, by omega, by omega⟩, Below.refl _ _⟩
  | some ad =>
    have hq : ∀ wx : World, (binOp .eql 41 (.slice (some ad) n c) (.slice none 0 0)).run Try.prog wx = .ok (.bool false) wx := fun wx => Lib.run_eql_slice_nil wx 41 48 (some ad) n c 0 0 Try.underlying41
    go_enter Try.func38, Try.ntmps38
    go_wp2_with (at_builtin; refine wpList_append_more _ rfl (.tmp 5) (.tmp 6) _ rfl w.heap.size 48 i0 _ 2 2 Try.underlying41 HI.out HZ1.out HZ2.out HZ3.out rfl (by omega) _ _ _ _ rfl (World.ownsRow_made w #[] 0 (Nat.le_refl _) (by decide) rfl) w.heap.size (some ad) n c (bs.map scell).flatten rfl (HA.out.1.alloc (Nat.le_refl _) _) (scell_one bs) (by simp only [maxLen]; omega) (by omega) (by simp) ?_; intro A' c' w2 HN)
    go_ret
    have h := HN.out
    simp only [Nat.zero_add, List.nil_append] at h
    have hn2 : n ≤ c' ∧ c' ≤ 9223372036854775807 := by
      have h1 := h.1
      rcases h1.2 with ⟨e, _⟩ | ⟨g, cap, cur, e, hx⟩
      · injection e with e1 e2 e3; subst e1; subst e2; subst e3; exact ⟨by omega, by omega⟩
      · injection e with e1 e2 e3; subst e1; subst e3
        exact ⟨hx.2.2.1, by have := hx.2.2.2; unfold maxLen at this; omega⟩
    exact ⟨⟨A', c', rfl, ⟨h.1, HA.out.2.1⟩, hn2⟩, ((Below.refl _ _).alloc (Nat.le_refl _) _).trans h.2.2⟩
set_option maxRecDepth 100000 in
set_option maxHeartbeats 1000000 in
theorem spans_any (A : Option Addr) (n c : Nat) (s : Sp.S) (w : World) (hs : IsSet w A n c s) :
    Calls Try.prog 21 #[setV A n c] w (SpansSaid w n s) := by
  have HCL : Hid (∀ wx, Below w.heap.size w wx → Calls Try.prog 38 #[.slice A n c] wx (SpansSaid wx n s)) := Lib.hid fun wx hb => clone_any A n c s wx (hs.below hb).1 hs.2.2.2.2
  unfold setV
  clear hs
  go_enter Try.func21, Try.ntmps21
  go_upto_region 1 with fail
  have r0 : Row (w.alloc (.cells #[.slice A n c] 43)) w.heap.size 43 [.slice A n c] := Row.new w _ [.slice A n c]
  have hb0 : Below w.heap.size w (w.alloc (.cells #[.slice A n c] 43)) := (Below.refl _ _).alloc (Nat.le_refl _) _
  generalize w.alloc (.cells #[.slice A n c] 43) = w1 at *
  have c0 := r0.cell 0
  have hl0 := r0.lt
  simp only [List.getElem?_cons_zero] at c0
  have HB0 := Lib.hid hb0
  clear hb0 r0
  go_wp2_with fail
  refine (HCL.out w1 HB0.out).mono ?_
  rintro e w2 ⟨⟨A', c', rfl, ho, hcc⟩, hb2⟩
  have HB2 : Hid (Below w.heap.size w w2) := Lib.hid (HB0.out.trans (hb2.mono HB0.out.size))
  have HO : Hid (OwnS w2 w.heap.size A' n c' s) := Lib.hid ⟨own_monor ho.1 HB0.out.size, ho.2⟩
  have HCC := Lib.hid hcc
  clear hb2 c0 hl0 HCL ho hcc
  go_wp2_with fail
  go_ret
  exact ⟨⟨A', c', rfl, HO.out, HCC.out⟩, HB2.out⟩
theorem IsS.cells {w : World} {B n : Nat} {A : Option Addr} {s : Sp.S} (h : IsS w B A n s) {i : Nat} (hi : i < n) : ∃ b o x0 x1, A = some ⟨b, o, none⟩ ∧ b < B ∧ s[i]? = some (x0, x1) ∧ w.cell? ⟨b, o + i * 2, none⟩ = some (.int .u8 (x0 : Nat)) ∧ w.cell? ⟨b, o + i * 2 + 1, none⟩ = some (.int .u8 (x1 : Nat)) := by
  obtain ⟨b, o, hf⟩ := h.form
  obtain ⟨e, hb, hc⟩ := hf.out (by omega)
  obtain ⟨⟨x0, x1⟩, hx⟩ : ∃ x, s[i]? = some x := ⟨_, List.getElem?_eq_getElem (by rw [h.2.1]; exact hi)⟩
  exact ⟨b, o, x0, x1, e, hb, hx, (hc i _ hx).1, (hc i _ hx).2⟩
set_option maxRecDepth 100000 in
set_option maxHeartbeats 1000000 in
theorem equal_any (A A' : Option Addr) (n n' c c' : Nat) (s t : Sp.S) (w : World) (hs : IsS w w.heap.size A n s) (ht : IsS w w.heap.size A' n' t) :
    Calls Try.prog 47 #[.slice A n c, .slice A' n' c'] w fun e w' => e = .returned (.bool (decide (s = t))) ∧ ∃ m, w' = w.drewN m := by
  have HS := Lib.hid hs; have HT := Lib.hid ht
  have hn63 := hs.2.2
  have hn63' := ht.2.2
  obtain ⟨T, hT⟩ : ∃ T, T = decide (s = t) := ⟨_, rfl⟩
  have HTT := Lib.hid hT
  rw [← hT]
  clear hs ht hT
  go_enter Try.func47, Try.ntmps47
  by_cases hnn : n = n'
  · subst hnn
    go_wp2_with fail
    go_loopw [13] (fun x wr => ∃ i : Nat, i ≤ n ∧ x = .int .i64 (i : Nat) ∧ Hid (s.take i = t.take i) ∧ ∃ m, wr = w.drewN m) (fun x _ => n - (intOf x).toNat)
    case atStart => exact ⟨0, by omega, rfl, Lib.hid rfl, 0, rfl⟩
    case round =>
    obtain ⟨i, hi, rfl, HQ, m, rfl⟩ := hrel
    by_cases hin : i < n
    · obtain ⟨b, o, x0, x1, rfl, hbl, hx, y0, y1⟩ := HS.out.cells hin
      obtain ⟨b', o', z0, z1, rfl, hbl', hz, v0, v1⟩ := HT.out.cells hin
      have y0' : (w.drewN m).cell? ⟨b, o + i * 2, none⟩ = some (.int .u8 (x0 : Nat)) := y0
      have y1' : (w.drewN m).cell? ⟨b, o + i * 2 + 1, none⟩ = some (.int .u8 (x1 : Nat)) := y1
      have v0' : (w.drewN m).cell? ⟨b', o' + i * 2, none⟩ = some (.int .u8 (z0 : Nat)) := v0
      have v1' : (w.drewN m).cell? ⟨b', o' + i * 2 + 1, none⟩ = some (.int .u8 (z1 : Nat)) := v1
      have hbw : b < (w.drewN m).heap.size := hbl
      have hbw' : b' < (w.drewN m).heap.size := hbl'
      have hi0 : (0 : Int) ≤ (i : Int) := by omega
      have hi1 : (i : Int) < (n : Int) := by omega
      have HX := Lib.hid hx; have HZ := Lib.hid hz
      clear hx hz y0 y1 v0 v1 hbl hbl'
      obtain ⟨wm, hwm⟩ : ∃ wm, wm = w.drewN m := ⟨_, rfl⟩
      rw [← hwm] at y0' y1' v0' v1' hbw hbw' ⊢
      have HWM := Lib.hid hwm
      clear hwm
      by_cases hxz : x0 = z0 ∧ x1 = z1
      · obtain ⟨rfl, rfl⟩ := hxz
        have HN : Hid (s.take (i + 1) = t.take (i + 1)) := Lib.hid (by rw [List.take_add_one, List.take_add_one, HX.out, HZ.out, HQ.out])
        go_upto_region 6 with fail
        go_quiet (fail)
        go_wp2_with fail
        go_roundw
        case rel => exact ⟨i + 1, by omega, by go_num, HN, m + nq, by rw [HWM.out, World.drewN_drewN]⟩
        case measure => simp [intOf]; omega
      · have HN : Hid (T = false) := Lib.hid (by
          rw [HTT.out, decide_eq_false]
          intro e
          subst e
          have h := HX.out
          rw [HZ.out] at h
          injection h with h
          injection h with h1 h2
          exact hxz ⟨h1.symm, h2.symm⟩)
        have hq : ∀ wx : World, (binOp .neq 48 (.agg #[.int .u8 (x0 : Nat), .int .u8 (x1 : Nat)]) (.agg #[.int .u8 (z0 : Nat), .int .u8 (z1 : Nat)])).run Try.prog wx = .ok (.bool true) wx := fun wx => by
          by_cases h1 : x0 = z0
          · have h2 : ¬ x1 = z1 := fun h2 => hxz ⟨h1, h2⟩
            go_simp
            omega
          · go_simp
            omega
        clear hxz
        go_upto_region 6 with fail
        go_quiet (fail)
        go_wp2_with fail
        go_ret
        exact ⟨by rw [HN.out]; rfl, m + nq, by rw [HWM.out, World.drewN_drewN]⟩
    · have HN : Hid (T = true) := Lib.hid (by
        rw [HTT.out]
        refine decide_eq_true ?_
        have h := HQ.out
        rw [List.take_of_length_le (by have := HS.out.2.1; omega), List.take_of_length_le (by have := HT.out.2.1; omega)] at h
        exact h)
      go_wp2_with fail
      go_ret
      exact ⟨by rw [HN.out]; rfl, m, rfl⟩
  · have HN : Hid (T = false) := Lib.hid (by
      rw [HTT.out]
      refine decide_eq_false ?_
      intro e
      subst e
      exact hnn (HS.out.2.1.symm.trans HT.out.2.1))
    have f1 : ((n : Int) != (n' : Int)) = true := by simp; omega
    go_wp2_with fail
    go_ret
    exact ⟨by rw [HN.out]; rfl, 0, rfl⟩
set_option maxRecDepth 100000 in
set_option maxHeartbeats 1000000 in
theorem ssame_any (A A' : Option Addr) (n n' c c' : Nat) (s t : Sp.S) (w : World) (hs : IsSet w A n c s) (ht : IsSet w A' n' c' t) :
    Calls Try.prog 28 #[setV A n c, setV A' n' c'] w fun e w' => e = .returned (.bool (decide (s = t))) ∧ Below w.heap.size w w' := by
  have HEQ : Hid (∀ wx, Below w.heap.size w wx → Calls Try.prog 47 #[.slice A n c, .slice A' n' c'] wx fun e w' => e = .returned (.bool (decide (s = t))) ∧ Below wx.heap.size wx w') := Lib.hid fun wx hb => (equal_any A A' n n' c c' s t wx (hs.below hb).1 (ht.below hb).1).mono (fun e w' hh => ⟨hh.1, by obtain ⟨m, rfl⟩ := hh.2; exact below_drewN (Below.refl _ _) m⟩)
  unfold setV
  obtain ⟨T, hT⟩ : ∃ T, T = decide (s = t) := ⟨_, rfl⟩
  rw [← hT] at HEQ ⊢
  clear hs ht hT
  go_enter Try.func28, Try.ntmps28
  go_upto_region 1 with fail
  have r0 : Row ((w.alloc (.cells #[.slice A n c] 43)).alloc (.cells #[.slice A' n' c'] 43)) w.heap.size 43 [.slice A n c] := (Row.new w _ [.slice A n c]).alloc _
  have r1 : Row ((w.alloc (.cells #[.slice A n c] 43)).alloc (.cells #[.slice A' n' c'] 43)) (w.heap.size + 1) 43 [.slice A' n' c'] := by
    have h := Row.new (w.alloc (.cells #[.slice A n c] 43)) 43 [.slice A' n' c']
    rw [show (w.alloc (.cells #[.slice A n c] 43)).heap.size = w.heap.size + 1 by simp] at h
    exact h
  have hb0 : Below w.heap.size w ((w.alloc (.cells #[.slice A n c] 43)).alloc (.cells #[.slice A' n' c'] 43)) := ((Below.refl _ _).alloc (Nat.le_refl _) _).alloc (by simp) _
  generalize (w.alloc (.cells #[.slice A n c] 43)).alloc (.cells #[.slice A' n' c'] 43) = w1 at *
  have c0 := r0.cell 0
  have d0 := r1.cell 0
  have hl0 := r0.lt
  have hl1 := r1.lt
  simp only [List.getElem?_cons_zero] at c0 d0
  have HB0 := Lib.hid hb0
  clear hb0 r0 r1
  go_wp2_with fail
  refine (HEQ.out w1 HB0.out).mono ?_
  rintro e w2 ⟨rfl, hb2⟩
  have HB2 : Hid (Below w.heap.size w w2) := Lib.hid (HB0.out.trans (hb2.mono HB0.out.size))
  clear hb2 c0 d0 hl0 hl1 HEQ
  go_wp2_with fail
  go_ret
  exact ⟨rfl, HB2.out⟩
end S8
end Go.Proofs.Ytchajbegjajlkaa
