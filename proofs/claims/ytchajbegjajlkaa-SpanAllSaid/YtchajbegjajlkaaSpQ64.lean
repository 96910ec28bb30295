/- The walks of Without, Covers, Has, Spans, Same. -/
import Derived.Test.YtchajbegjajlkaaSpV64
set_option linter.unusedVariables false
set_option linter.unusedSimpArgs false
namespace Go.Proofs.Ytchajbegjajlkaa
open Go.RowKit
namespace S64
/-- without one span -/
def MadeL (w : World) (s : Sp.S) (a b : Nat) (e : Ending) (w' : World) : Prop := ∃ A n c out, e = .returned (setV A n c) ∧ OwnS w' w.heap.size A n c out ∧ Sp.Mk TOP (fun a b => a && !b) s (one a b) out ∧ Below w.heap.size w w'
set_option maxRecDepth 100000 in
set_option maxHeartbeats 1000000 in
theorem without_any (A : Option Addr) (n c a b : Nat) (s : Sp.S) (w : World) (hs : IsSet w A n c s) (ha : a ≤ TOP) (hb : b ≤ TOP) (hn : n ≤ 1099511627776) :
    Calls Try.prog 12 #[setV A n c, .agg #[.int .u64 (a : Nat), .int .u64 (b : Nat)]] w (MadeL w s a b) := by
  have HS := Lib.hid hs
  unfold setV
  clear hs
  go_enter Try.func12, Try.ntmps12
  go_upto_region 1 with fail
  have r0 : Row (((w.alloc (.cells #[.slice A n c] 26)).alloc (.cells #[.int .u64 (a : Nat), .int .u64 (b : Nat)] 35)).alloc (.cells #[.slice none 0 0] 26)) w.heap.size 26 [.slice A n c] := ((Row.new w _ [.slice A n c]).alloc _).alloc _
  have r1 : Row (((w.alloc (.cells #[.slice A n c] 26)).alloc (.cells #[.int .u64 (a : Nat), .int .u64 (b : Nat)] 35)).alloc (.cells #[.slice none 0 0] 26)) (w.heap.size + 1) 35 [.int .u64 (a : Nat), .int .u64 (b : Nat)] := by
    have h := Row.new (w.alloc (.cells #[.slice A n c] 26)) 35 [.int .u64 (a : Nat), .int .u64 (b : Nat)]
    rw [show (w.alloc (.cells #[.slice A n c] 26)).heap.size = w.heap.size + 1 by simp] at h
    exact h.alloc _
  have r2 : Row (((w.alloc (.cells #[.slice A n c] 26)).alloc (.cells #[.int .u64 (a : Nat), .int .u64 (b : Nat)] 35)).alloc (.cells #[.slice none 0 0] 26)) (w.heap.size + 1 + 1) 26 [.slice none 0 0] := by
    have h := Row.new ((w.alloc (.cells #[.slice A n c] 26)).alloc (.cells #[.int .u64 (a : Nat), .int .u64 (b : Nat)] 35)) 26 [.slice none 0 0]
    rw [show ((w.alloc (.cells #[.slice A n c] 26)).alloc (.cells #[.int .u64 (a : Nat), .int .u64 (b : Nat)] 35)).heap.size = w.heap.size + 1 + 1 by simp] at h
    exact h
  have hb0 : Below w.heap.size w (((w.alloc (.cells #[.slice A n c] 26)).alloc (.cells #[.int .u64 (a : Nat), .int .u64 (b : Nat)] 35)).alloc (.cells #[.slice none 0 0] 26)) := (((Below.refl _ _).alloc (Nat.le_refl _) _).alloc (by simp) _).alloc (by simp; omega) _
  generalize ((w.alloc (.cells #[.slice A n c] 26)).alloc (.cells #[.int .u64 (a : Nat), .int .u64 (b : Nat)] 35)).alloc (.cells #[.slice none 0 0] 26) = w1 at *
  have c0 := r0.cell 0
  have d0 := r1.cell 0
  have d1 := r1.cell 1
  have hl0 := r0.lt
  have hl1 := r1.lt
  have hl2 := r2.lt
  simp only [List.getElem?_cons_zero, List.getElem?_cons_succ] at c0 d0 d1
  have HB0 := Lib.hid hb0; have HR2 := Lib.hid r2
  clear hb0 r0 r1 r2
  have hrn : Row (w1.alloc (.cells #[.int .u64 (a : Nat), .int .u64 (b : Nat)] 35)) w1.heap.size 35 (scell (a, b)) := Row.new w1 _ (scell (a, b))
  have hbn : Below w1.heap.size w1 (w1.alloc (.cells #[.int .u64 (a : Nat), .int .u64 (b : Nat)] 35)) := (Below.refl _ _).alloc (Nat.le_refl _) _
  have HRN := Lib.hid hrn; have HBN := Lib.hid hbn
  clear hrn hbn
  have KEEP : Hid (∀ (w' : World) (v : Value), w'.cell? ⟨w.heap.size, 0, none⟩ = some (.slice A n c) → w'.cell? ⟨w.heap.size + 1, 0, none⟩ = some (.int .u64 (a : Nat)) → w'.cell? ⟨w.heap.size + 1, 1, none⟩ = some (.int .u64 (b : Nat)) → (w'.setCell ⟨w.heap.size + 1 + 1, 0, none⟩ v).cell? ⟨w.heap.size, 0, none⟩ = some (.slice A n c) ∧ (w'.setCell ⟨w.heap.size + 1 + 1, 0, none⟩ v).cell? ⟨w.heap.size + 1, 0, none⟩ = some (.int .u64 (a : Nat)) ∧ (w'.setCell ⟨w.heap.size + 1 + 1, 0, none⟩ v).cell? ⟨w.heap.size + 1, 1, none⟩ = some (.int .u64 (b : Nat))) := Lib.hid fun w' v h1 h2 h3 => ⟨(World.cell?_setCell_other _ _ _ _ (by intro h; injection h; omega)).trans h1, (World.cell?_setCell_other _ _ _ _ (by intro h; injection h; omega)).trans h2, (World.cell?_setCell_other _ _ _ _ (by intro h; injection h; omega)).trans h3⟩
  go_region_held3 (fun w' => w'.cell? ⟨w.heap.size, 0, none⟩ = some (.slice A n c) ∧ w'.cell? ⟨w.heap.size + 1, 0, none⟩ = some (.int .u64 (a : Nat)) ∧ w'.cell? ⟨w.heap.size + 1, 1, none⟩ = some (.int .u64 (b : Nat)))
    (first | exact ⟨c0, d0, d1⟩ | exact KO.out | exact KP.out | exact ⟨(HBN.out.drew.cell (p := ⟨w.heap.size, 0, none⟩) hl0).trans c0, (HBN.out.drew.cell (p := ⟨w.heap.size + 1, 0, none⟩) hl1).trans d0, (HBN.out.drew.cell (p := ⟨w.heap.size + 1, 1, none⟩) hl1).trans d1⟩ | exact KEEP.out _ _ KP.out.1 KP.out.2.1 KP.out.2.2)
    (first
      | (go_at_call 29; refine (of_one w1.heap.size 1 a b _ HRN.out.drew ha hb).mono ?_; rintro e w' ⟨Ao, co, rfl, hown, hb'⟩; have hbw : Below w1.heap.size w1 w' := HBN.out.drew.trans (hb'.mono HBN.out.size); have HOW := Lib.hid hown; have HBW := Lib.hid hbw; have KO : Hid (w'.cell? ⟨w.heap.size, 0, none⟩ = some (.slice A n c) ∧ w'.cell? ⟨w.heap.size + 1, 0, none⟩ = some (.int .u64 (a : Nat)) ∧ w'.cell? ⟨w.heap.size + 1, 1, none⟩ = some (.int .u64 (b : Nat))) := Lib.hid ⟨(hbw.cell (p := ⟨w.heap.size, 0, none⟩) hl0).trans c0, (hbw.cell (p := ⟨w.heap.size + 1, 0, none⟩) hl1).trans d0, (hbw.cell (p := ⟨w.heap.size + 1, 1, none⟩) hl1).trans d1⟩; clear hown hb' hbw)
      | (go_at_call 34; refine (less_any A Ao n c (one a b).length co s (one a b) _ (HS.out.below (HB0.out.trans (HBW.out.mono HB0.out.size))) (HOW.out.isSet (one_nrm hb) (by have := one_len a b; omega)) (by have := one_len a b; omega)).mono ?_; rintro e w'' ⟨A9, n9, c9, out, rfl, hown9, hmk9, hb9⟩; unfold setV; have hbx : Below w1.heap.size w1 w'' := HBW.out.trans (hb9.mono HBW.out.size); have hz := HR2.out.below hbx HR2.out.lt; have z0 := hz.cell 0; have z1 := hz.frozen 0; have zl := hz.lt; simp only [List.getElem?_cons_zero] at z0; have HF := Lib.hid hown9; have HM := Lib.hid hmk9; have HBX := Lib.hid hbx; have HZ := Lib.hid hz; have KP : Hid (w''.cell? ⟨w.heap.size, 0, none⟩ = some (.slice A n c) ∧ w''.cell? ⟨w.heap.size + 1, 0, none⟩ = some (.int .u64 (a : Nat)) ∧ w''.cell? ⟨w.heap.size + 1, 1, none⟩ = some (.int .u64 (b : Nat))) := Lib.hid ⟨(hbx.cell (p := ⟨w.heap.size, 0, none⟩) hl0).trans c0, (hbx.cell (p := ⟨w.heap.size + 1, 0, none⟩) hl1).trans d0, (hbx.cell (p := ⟨w.heap.size + 1, 1, none⟩) hl1).trans d1⟩; clear hown9 hmk9 hb9 hbx hz))
  all_goals
    have HR4 : Hid (Row (w''.setCell ⟨w.heap.size + 1 + 1, 0, none⟩ (.slice A9 n9 c9)) (w.heap.size + 1 + 1) 26 [.slice A9 n9 c9]) := Lib.hid (HZ.out.set_ 0 _)
    have z2 := HR4.out.cell 0
    simp only [List.getElem?_cons_zero] at z2
    have HO : Hid (OwnS (w''.setCell ⟨w.heap.size + 1 + 1, 0, none⟩ (.slice A9 n9 c9)) w.heap.size A9 n9 c9 out) := Lib.hid ⟨own_setr (own_monor HF.out.1 (Nat.le_trans HB0.out.size HBW.out.size)) HZ.out (by decide) 0 _, HF.out.2⟩
    have HBB : Hid (Below w.heap.size w (w''.setCell ⟨w.heap.size + 1 + 1, 0, none⟩ (.slice A9 n9 c9))) := Lib.hid ((HB0.out.trans (HBX.out.mono HB0.out.size)).setCell (p := ⟨w.heap.size + 1 + 1, 0, none⟩) (Nat.le_trans (Nat.le_succ _) (Nat.le_succ _)) _)
    go_wp2_with fail
    refine bodyPost_ret (v := .agg #[.slice A9 n9 c9]) (by simp [results, Try.results12, go_sem, z2]) rfl ⟨A9, n9, c9, out, rfl, HO.out, HM.out, HBB.out⟩

/-- do all points of a span lie in a set? -/
def cov (s : Sp.S) (a b : Nat) : Bool := if b < a then true else match Sp.from_ s a with
  | [] => false
  | x :: _ => decide (x.1 ≤ a) && decide (b ≤ x.2)
theorem cov_iff {s : Sp.S} {a b : Nat} (hn : Sp.Nrm TOP s) : cov s a b = true ↔ ∀ p, a ≤ p → p ≤ b → Sp.has s p = true := by
  unfold cov
  by_cases hab : b < a
  · rw [if_pos hab]
    exact ⟨fun _ p h1 h2 => by omega, fun _ => rfl⟩
  · rw [if_neg hab]
    cases hf : Sp.from_ s a with
    | nil =>
      simp only [Bool.false_eq_true, false_iff]
      intro h
      have h1 := h a (Nat.le_refl _) (by omega)
      rw [← Sp.from_has hn (Nat.le_refl a), hf] at h1
      cases h1
    | cons x r =>
      have hx := Sp.from_head hf
      have hnf := Sp.from_nrm hn a
      rw [hf] at hnf
      obtain ⟨hx1, hx2, hx3⟩ := hnf.head
      have hh : ∀ q, a ≤ q → Sp.has s q = (decide (x.1 ≤ q ∧ q ≤ x.2) || Sp.has r q) := fun q hq => by
        rw [← Sp.from_has hn hq, hf, Sp.has_cons]
      simp only [Bool.and_eq_true, decide_eq_true_eq]
      constructor
      · rintro ⟨h1, h2⟩ p h3 h4
        rw [hh p h3, decide_eq_true (by omega)]; rfl
      · intro h
        have h1 : x.1 ≤ a := by
          by_cases hc : x.1 ≤ a
          · exact hc
          · have h2 := h a (Nat.le_refl _) (by omega)
            rw [hh a (Nat.le_refl _), decide_eq_false (by omega), Bool.false_or, Sp.has_low (fun y hy => by have := hx3 y hy; omega)] at h2
            cases h2
        refine ⟨h1, ?_⟩
        by_cases hc : b ≤ x.2
        · exact hc
        · have h2 := h (x.2 + 1) (by omega) (by omega)
          rw [hh _ (by omega), decide_eq_false (by omega), Bool.false_or, Sp.has_low (fun y hy => by have := hx3 y hy; omega)] at h2
          cases h2
theorem cov_one {s : Sp.S} {p : Nat} (hn : Sp.Nrm TOP s) : cov s p p = Sp.has s p := by
  cases h : Sp.has s p with
  | true => exact (cov_iff hn).2 (fun q h1 h2 => by rw [show q = p by omega]; exact h)
  | false =>
    cases h2 : cov s p p with
    | false => rfl
    | true =>
      have := (cov_iff hn).1 h2 p (Nat.le_refl _) (Nat.le_refl _)
      rw [h] at this; cases this
/-- what Spans tells -/
def SpansSaid (w : World) (n : Nat) (s : Sp.S) (e : Ending) (w' : World) : Prop := (∃ A' c', e = .returned (.slice A' n c') ∧ OwnS w' w.heap.size A' n c' s ∧ n ≤ c' ∧ c' ≤ 9223372036854775807) ∧ Below w.heap.size w w'
set_option maxRecDepth 100000 in
set_option maxHeartbeats 400000 in
theorem clone_any (A : Option Addr) (n c : Nat) (bs : Sp.S) (w : World) (ha : IsS w w.heap.size A n bs) (hn : n ≤ 2199023255552) :
    Calls Try.prog 30 #[.slice A n c] w (SpansSaid w n bs) := by
  obtain ⟨i0, hi0, hz1, hz2, hz3⟩ := info_parts infoSp
  have HA := Lib.hid ha
  have HI := Lib.hid hi0; have HZ1 := Lib.hid hz1; have HZ2 := Lib.hid hz2; have HZ3 := Lib.hid hz3
  clear hi0 hz1 hz2 hz3 ha
  cases A with
  | none =>
    obtain rfl : n = 0 := by
      rcases Nat.eq_zero_or_pos n with h | h
      · exact h
      · obtain ⟨ad, h, _⟩ := HA.out.1.2 h; cases h
    have hq : ∀ wx : World, (binOp .eql 24 (.slice none 0 c) (.slice none 0 0)).run Try.prog wx = .ok (.bool true) wx := fun wx => Lib.run_eql_slice_nil wx 24 35 none 0 c 0 0 Try.underlying24
    go_enter Try.func30, Try.ntmps30
    go_wp2_with fail
    go_ret
    obtain rfl : bs = [] := List.eq_nil_of_length_eq_zero HA.out.2.1
    exact ⟨⟨none, 0, rfl, ⟨World.ownsRow_nil _ _ _ _, rfl⟩, by omega, by omega⟩, Below.refl _ _⟩
  | some ad =>
    have hq : ∀ wx : World, (binOp .eql 24 (.slice (some ad) n c) (.slice none 0 0)).run Try.prog wx = .ok (.bool false) wx := fun wx => Lib.run_eql_slice_nil wx 24 35 (some ad) n c 0 0 Try.underlying24
    go_enter Try.func30, Try.ntmps30
    go_wp2_with (at_builtin; refine wpList_append_more _ rfl (.tmp 5) (.tmp 6) _ rfl w.heap.size 35 i0 _ 2 16 Try.underlying24 HI.out HZ1.out HZ2.out HZ3.out rfl (by omega) _ _ _ _ rfl (World.ownsRow_made w #[] 0 (Nat.le_refl _) (by decide) rfl) w.heap.size (some ad) n c (bs.map scell).flatten rfl (HA.out.1.alloc (Nat.le_refl _) _) (scell_one bs) (by simp only [maxLen]; omega) (by omega) (by simp) ?_; intro A' c' w2 HN)
    go_ret
    have h := HN.out
    simp only [Nat.zero_add, List.nil_append] at h
    have hn2 : n ≤ c' ∧ c' ≤ 9223372036854775807 := by
      have h1 := h.1
      rcases h1.2 with ⟨e, _⟩ | ⟨g, cap, cur, e, hx⟩
      · injection e with e1 e2 e3; subst e1; subst e2; subst e3; exact ⟨by omega, by omega⟩
      · injection e with e1 e2 e3; subst e1; subst e3
        exact ⟨hx.2.2.1, by have := hx.2.2.2; unfold maxLen at this; omega⟩
    exact ⟨⟨A', c', rfl, ⟨h.1, HA.out.2.1⟩, hn2⟩, ((Below.refl _ _).alloc (Nat.le_refl _) _).trans h.2.2⟩
set_option maxRecDepth 100000 in
set_option maxHeartbeats 1000000 in
theorem spans_any (A : Option Addr) (n c : Nat) (s : Sp.S) (w : World) (hs : IsSet w A n c s) :
    Calls Try.prog 8 #[setV A n c] w (SpansSaid w n s) := by
  have HCL : Hid (∀ wx, Below w.heap.size w wx → Calls Try.prog 30 #[.slice A n c] wx (SpansSaid wx n s)) := Lib.hid fun wx hb => clone_any A n c s wx (hs.below hb).1 hs.2.2.2.2
  unfold setV
  clear hs
  go_enter Try.func8, Try.ntmps8
  go_upto_region 1 with fail
  have r0 : Row (w.alloc (.cells #[.slice A n c] 26)) w.heap.size 26 [.slice A n c] := Row.new w _ [.slice A n c]
  have hb0 : Below w.heap.size w (w.alloc (.cells #[.slice A n c] 26)) := (Below.refl _ _).alloc (Nat.le_refl _) _
  generalize w.alloc (.cells #[.slice A n c] 26) = w1 at *
  have c0 := r0.cell 0
  have hl0 := r0.lt
  simp only [List.getElem?_cons_zero] at c0
  have HB0 := Lib.hid hb0
  clear hb0 r0
  go_wp2_with fail
  refine (HCL.out w1 HB0.out).mono ?_
  rintro e w2 ⟨⟨A', c', rfl, ho, hcc⟩, hb2⟩
  have HB2 : Hid (Below w.heap.size w w2) := Lib.hid (HB0.out.trans (hb2.mono HB0.out.size))
  have HO : Hid (OwnS w2 w.heap.size A' n c' s) := Lib.hid ⟨own_monor ho.1 HB0.out.size, ho.2⟩
  have HCC := Lib.hid hcc
  clear hb2 c0 hl0 HCL ho hcc
  go_wp2_with fail
  go_ret
  exact ⟨⟨A', c', rfl, HO.out, HCC.out⟩, HB2.out⟩
theorem IsS.cells {w : World} {B n : Nat} {A : Option Addr} {s : Sp.S} (h : IsS w B A n s) {i : Nat} (hi : i < n) : ∃ b o x0 x1, A = some ⟨b, o, none⟩ ∧ b < B ∧ s[i]? = some (x0, x1) ∧ w.cell? ⟨b, o + i * 2, none⟩ = some (.int .u64 (x0 : Nat)) ∧ w.cell? ⟨b, o + i * 2 + 1, none⟩ = some (.int .u64 (x1 : Nat)) := by
  obtain ⟨b, o, hf⟩ := h.form
  obtain ⟨e, hb, hc⟩ := hf.out (by omega)
  obtain ⟨⟨x0, x1⟩, hx⟩ : ∃ x, s[i]? = some x := ⟨_, List.getElem?_eq_getElem (by rw [h.2.1]; exact hi)⟩
  exact ⟨b, o, x0, x1, e, hb, hx, (hc i _ hx).1, (hc i _ hx).2⟩
end S64
end Go.Proofs.Ytchajbegjajlkaa
