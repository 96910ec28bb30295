/- The walks of bus.all, word.Add, bus.right. -/
import Derived.Test.YtmhkmemaneopeaaSpV
set_option linter.unusedVariables false
set_option linter.unusedSimpArgs false
namespace Go.Proofs.Ytmhkmemaneopeaa
open Go.RowKit
open S64
namespace Bu
/-- a range as it lies in memory -/
def rgV (r : Nat × Nat) : Value := .agg #[.int .u64 (r.1 : Nat), .int .u64 (r.2 : Nat)]
def M32 : Nat := 4294967296
set_option maxRecDepth 100000 in
set_option maxHeartbeats 1000000 in
theorem all_any (a s : Nat) (w : World) (hs : 0 < s) (hm : a + s ≤ 4294967296) :
    Calls Try.prog 50 #[.agg #[.int .u64 (a : Nat), .int .u64 (s : Nat)]] w fun e w' => e = .returned (.agg #[.int .u64 (a : Nat), .int .u64 ((a + s - 1 : Nat) : Int)]) ∧ Below w.heap.size w w' := by
  have h2 : Hid (((a : Int) + (s : Int)) - 1 = ((a + s - 1 : Nat) : Int)) := Lib.hid (by omega)
  go_enter Try.func50, Try.ntmps50
  go_wp2_with fail
  refine bodyPost_ret (v := .agg #[.int .u64 (a : Nat), .int .u64 ((a : Int) + (s : Int) - 1)]) (by simp [results, Try.results50, go_sem]) rfl ⟨by rw [h2.out], ((Below.refl _ _).alloc (Nat.le_refl _) _).alloc (by simp) _⟩
theorem add64 (a b : Nat) (w : World) (ha : a ≤ TOP) (hb : b ≤ TOP) :
    Calls Try.prog 64 #[.int .u64 (a : Nat), .int .u64 (b : Nat)] w fun e w' => e = .returned (.tuple #[.int .u64 ((if a + b ≤ TOP then a + b else 0 : Nat) : Int), .bool (decide (a + b ≤ TOP))]) ∧ w = w' := by
  unfold TOP at *
  obtain ⟨c, hc⟩ : ∃ c, c = (a + b) % 18446744073709551616 := ⟨_, rfl⟩
  have e1 : IntKind.u64.wrap ((a : Int) + (b : Int)) = (c : Int) := by rw [IntKind.wrap_u64, hc]; omega
  by_cases h : a + b ≤ 18446744073709551615
  · have hc1 : c = a + b := by rw [hc]; omega
    have hac : a ≤ c := by omega
    rw [if_pos h]
    have HD := Lib.hid (decide_eq_true h)
    have HC := Lib.hid hc1
    clear hc hc1 ha hb h
    go_enter Try.func64, Try.ntmps64
    go_wp2_with fail
    go_ret2
    exact ⟨by rw [HD.out, HC.out]; rfl, rfl⟩
  · have hc1 : c + 18446744073709551616 = a + b := by rw [hc]; omega
    have hac : c < a := by omega
    rw [if_neg h]
    have HD := Lib.hid (decide_eq_false h)
    clear hc hc1 ha hb h
    go_enter Try.func64, Try.ntmps64
    go_wp2_with fail
    go_ret2
    exact ⟨by rw [HD.out]; rfl, rfl⟩
/-- what bus.right says -/
def rt (a s most : Nat) (t : Sp.S) : Nat :=
  if s = 0 ∨ s % 4096 ≠ 0 ∨ most < s then 32 else if a % 4096 ≠ 0 then 33 else if M32 < a + s then 34 else if touch t a (a + s - 1) then 35 else 0
set_option maxRecDepth 100000 in
set_option maxHeartbeats 1000000 in
theorem right_any (a s most : Nat) (A : Option Addr) (n c : Nat) (t : Sp.S) (w : World) (ht : IsSet w A n c t) (ha : a ≤ TOP) (hs : s ≤ TOP) (hm : most ≤ TOP) :
    Calls Try.prog 48 #[.agg #[.int .u64 (a : Nat), .int .u64 (s : Nat)], .int .u64 (most : Nat), setV A n c] w fun e w' => e = .returned (.int .i64 (rt a s most t : Nat)) ∧ Below w.heap.size w w' := by
  have HS := Lib.hid ht
  have HA := Lib.hid ha
  have HZ := Lib.hid hs
  unfold setV
  obtain ⟨R, hR⟩ : ∃ R, R = rt a s most t := ⟨_, rfl⟩
  rw [← hR]
  have HR := Lib.hid hR
  clear hR ht
  unfold TOP at ha hs hm
  go_enter Try.func48, Try.ntmps48
  go_upto_region 1 with fail
  have r0 : Row ((w.alloc (.cells #[.int .u64 (a : Nat), .int .u64 (s : Nat)] 31)).alloc (.cells #[.slice A n c] 67)) w.heap.size 31 [.int .u64 (a : Nat), .int .u64 (s : Nat)] := (Row.new w _ _).alloc _
  have r1 : Row ((w.alloc (.cells #[.int .u64 (a : Nat), .int .u64 (s : Nat)] 31)).alloc (.cells #[.slice A n c] 67)) (w.heap.size + 1) 67 [.slice A n c] := by
    have h := Row.new (w.alloc (.cells #[.int .u64 (a : Nat), .int .u64 (s : Nat)] 31)) 67 [.slice A n c]
    rw [show (w.alloc (.cells #[.int .u64 (a : Nat), .int .u64 (s : Nat)] 31)).heap.size = w.heap.size + 1 by simp] at h
    exact h
  have hb0 : Below w.heap.size w ((w.alloc (.cells #[.int .u64 (a : Nat), .int .u64 (s : Nat)] 31)).alloc (.cells #[.slice A n c] 67)) := ((Below.refl _ _).alloc (Nat.le_refl _) _).alloc (by simp) _
  generalize (w.alloc (.cells #[.int .u64 (a : Nat), .int .u64 (s : Nat)] 31)).alloc (.cells #[.slice A n c] 67) = w1 at *
  have c0 := r0.cell 0
  have c1 := r0.cell 1
  have d0 := r1.cell 0
  have hl0 := r0.lt
  have hl1 := r1.lt
  simp only [List.getElem?_cons_zero, List.getElem?_cons_succ] at c0 c1 d0
  have HB0 := Lib.hid hb0; have HR0 := Lib.hid r0; have HR1 := Lib.hid r1
  clear hb0 r0 r1
  obtain ⟨e, he⟩ : ∃ e, e = if a + s ≤ TOP then a + s else 0 := ⟨_, rfl⟩
  obtain ⟨o, ho⟩ : ∃ o, o = decide (a + s ≤ TOP) := ⟨_, rfl⟩
  have HE := Lib.hid he; have HO := Lib.hid ho
  clear he ho
  go_upto_region 2 with (go_at_call 64; refine (add64 a s _ HA.out HZ.out).mono ?_; rintro e' w' ⟨rfl, rfl⟩; rw [← HE.out, ← HO.out])
  have bt : ∀ k : Nat, ((k : Int) == 0) = decide (k = 0) := fun k => by rw [Bool.eq_iff_iff]; simp
  have bf : ∀ k : Nat, ((k : Int) % 4096 != 0) = decide (k % 4096 ≠ 0) := fun k => by rw [Bool.eq_iff_iff]; simp; omega
  have BT := Lib.hid bt; have BF := Lib.hid bf
  clear bt bf
  by_cases z1 : ((s : Int) == 0) = true
  · have HX : Hid (R = 32) := Lib.hid (by rw [BT.out, decide_eq_true_iff] at z1; rw [HR.out, rt, if_pos (Or.inl z1)])
    go_wp2_with fail
    go_ret
    exact ⟨by rw [HX.out]; rfl, HB0.out⟩
  have Z1 : Hid (s ≠ 0) := Lib.hid (by rw [BT.out, decide_eq_true_iff] at z1; exact z1)
  rw [Bool.not_eq_true] at z1
  by_cases z2 : ((s : Int) % 4096 != 0) = true
  · have HX : Hid (R = 32) := Lib.hid (by rw [BF.out, decide_eq_true_iff] at z2; rw [HR.out, rt, if_pos (Or.inr (Or.inl z2))])
    go_wp2_with fail
    go_ret
    exact ⟨by rw [HX.out]; rfl, HB0.out⟩
  have Z2 : Hid (¬ s % 4096 ≠ 0) := Lib.hid (by rw [BF.out, decide_eq_true_iff] at z2; exact z2)
  rw [Bool.not_eq_true] at z2
  by_cases z3 : most < s
  · have HX : Hid (R = 32) := Lib.hid (by rw [HR.out, rt, if_pos (Or.inr (Or.inr z3))])
    go_wp2_with fail
    go_ret
    exact ⟨by rw [HX.out]; rfl, HB0.out⟩
  have HR2 : Hid (R = if a % 4096 ≠ 0 then 33 else if M32 < a + s then 34 else if touch t a (a + s - 1) then 35 else 0) := Lib.hid (by rw [HR.out, rt, if_neg (by rintro (h | h | h); exact Z1.out h; exact Z2.out h; exact z3 h)])
  by_cases z4 : ((a : Int) % 4096 != 0) = true
  · have HX : Hid (R = 33) := Lib.hid (by rw [BF.out, decide_eq_true_iff] at z4; rw [HR2.out, if_pos z4])
    go_wp2_with fail
    go_ret
    exact ⟨by rw [HX.out]; rfl, HB0.out⟩
  have HR3 : Hid (R = if M32 < a + s then 34 else if touch t a (a + s - 1) then 35 else 0) := Lib.hid (by rw [BF.out, decide_eq_true_iff] at z4; rw [HR2.out, if_neg z4])
  rw [Bool.not_eq_true] at z4
  by_cases z5 : a + s ≤ 4294967296
  · have o1 : o = true := by rw [HO.out]; exact decide_eq_true (by unfold TOP; omega)
    have e1 : e ≤ 4294967296 := by rw [HE.out]; split <;> omega
    have HR4 : Hid (R = if touch t a (a + s - 1) then 35 else 0) := Lib.hid (by rw [HR3.out, if_neg (by unfold M32; omega)])
    have HZ5 := Lib.hid z5
    have HE1 : Hid (a + s - 1 ≤ TOP) := Lib.hid (by unfold TOP; omega)
    have HE2 : Hid (0 < s) := Lib.hid (Nat.pos_of_ne_zero Z1.out)
    clear z5
    subst o1
    go_upto_region 8 with fail
    go_region_held3 (fun w' => w'.cell? ⟨w.heap.size, 0, none⟩ = some (.int .u64 (a : Nat)) ∧ w'.cell? ⟨w.heap.size, 1, none⟩ = some (.int .u64 (s : Nat)) ∧ w'.cell? ⟨w.heap.size + 1, 0, none⟩ = some (.slice A n c))
      (first | exact ⟨c0, c1, d0⟩ | exact KO.out | exact KP.out)
      (first
        | (go_at_call 50; refine (all_any a s _ HE2.out HZ5.out).mono ?_; rintro e' w' ⟨rfl, hb'⟩; have HBW : Hid (Below w1.heap.size w1 w') := Lib.hid ((Below.refl w1.heap.size w1).drew.trans (hb'.mono (Below.refl w1.heap.size w1).drew.size)); have KO : Hid (w'.cell? ⟨w.heap.size, 0, none⟩ = some (.int .u64 (a : Nat)) ∧ w'.cell? ⟨w.heap.size, 1, none⟩ = some (.int .u64 (s : Nat)) ∧ w'.cell? ⟨w.heap.size + 1, 0, none⟩ = some (.slice A n c)) := Lib.hid ⟨(HBW.out.cell (p := ⟨w.heap.size, 0, none⟩) hl0).trans c0, (HBW.out.cell (p := ⟨w.heap.size, 1, none⟩) hl0).trans c1, (HBW.out.cell (p := ⟨w.heap.size + 1, 0, none⟩) hl1).trans d0⟩; clear hb')
        | (go_at_call 65; refine (touches_any A n c a (a + s - 1) t _ (HS.out.below (HB0.out.trans (HBW.out.mono HB0.out.size))) HA.out HE1.out).mono ?_; rintro e'' w'' ⟨rfl, hb9⟩; have HBX : Hid (Below w1.heap.size w1 w'') := Lib.hid (HBW.out.trans (hb9.mono HBW.out.size)); have KP : Hid (w''.cell? ⟨w.heap.size, 0, none⟩ = some (.int .u64 (a : Nat)) ∧ w''.cell? ⟨w.heap.size, 1, none⟩ = some (.int .u64 (s : Nat)) ∧ w''.cell? ⟨w.heap.size + 1, 0, none⟩ = some (.slice A n c)) := Lib.hid ⟨(HBX.out.cell (p := ⟨w.heap.size, 0, none⟩) hl0).trans c0, (HBX.out.cell (p := ⟨w.heap.size, 1, none⟩) hl0).trans c1, (HBX.out.cell (p := ⟨w.heap.size + 1, 0, none⟩) hl1).trans d0⟩; clear hb9))
    all_goals
      have HBY : Hid (Below w.heap.size w w'') := Lib.hid (HB0.out.trans (HBX.out.mono HB0.out.size))
      cases hT : touch t a (a + s - 1) with
      | false =>
        have HX : Hid (R = 0) := Lib.hid (by rw [HR4.out, hT]; rfl)
        clear hT
        go_wp2_with fail
        go_ret
        exact ⟨by rw [HX.out]; rfl, HBY.out⟩
      | true =>
        have HX : Hid (R = 35) := Lib.hid (by rw [HR4.out, hT]; rfl)
        clear hT
        go_wp2_with fail
        go_ret
        exact ⟨by rw [HX.out]; rfl, HBY.out⟩
  · have HX : Hid (R = 34) := Lib.hid (by rw [HR3.out, if_pos (by unfold M32; omega)])
    have HZ5 := Lib.hid z5
    cases o with
    | false =>
      clear z5
      go_wp2_with fail
      go_ret
      exact ⟨by rw [HX.out]; rfl, HB0.out⟩
    | true =>
      have e1 : 4294967296 < e := by
        rw [HE.out, if_pos (by have := HO.out; exact of_decide_eq_true this.symm)]; omega
      clear z5
      go_wp2_with fail
      go_ret
      exact ⟨by rw [HX.out]; rfl, HB0.out⟩
end Bu
end Go.Proofs.Ytmhkmemaneopeaa
