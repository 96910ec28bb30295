/- The walks of slices.Clone over ranges, twin, Bus, the meter, Kept. -/
import Derived.Test.YtmhkmemaneopeaaBuT
set_option linter.unusedVariables false
set_option linter.unusedSimpArgs false
namespace Go.Proofs.Ytmhkmemaneopeaa
open Go.RowKit
open S64
namespace BR
/-- ranges in new memory -/
def Own (w : World) (base : Nat) (A : Option Addr) (n c : Nat) (bs : Sp.S) : Prop := w.ownsRow base 31 2 (.slice A n c) n (bs.map scell).flatten ∧ bs.length = n ∧ n ≤ 9223372036854775807
theorem infoE : (Try.prog.info? 31).map (fun i => (i.zero, i.size, i.bytes)) = some (some (.agg #[.int .u64 0, .int .u64 0]), 2, 16) := by kernel_rfl
theorem Own.isS {w : World} {base n c : Nat} {A : Option Addr} {bs : Sp.S} (h : Own w base A n c bs) : IsS w w.heap.size A n bs := ⟨Reads.of_own h.1, h.2⟩
theorem Own.below {w w' : World} {base n c : Nat} {A : Option Addr} {bs : Sp.S} (h : Own w base A n c bs) (hb : Below w.heap.size w w') : Own w' base A n c bs := ⟨owns_chgr (S := []) h.1 (Chg.of_below hb) (fun _ _ h => by cases h), h.2⟩
theorem Own.mono {w : World} {base base' n c : Nat} {A : Option Addr} {bs : Sp.S} (h : Own w base A n c bs) (hb : base' ≤ base) : Own w base' A n c bs := ⟨own_monor h.1 hb, h.2⟩
theorem Own.adr {w : World} {base n c : Nat} {A : Option Addr} {bs : Sp.S} (h : Own w base A n c bs) : ∀ ad, A = some ad → base ≤ ad.block ∧ ad.block < w.heap.size := own_adr h.1
end BR
namespace Bu
/-- what slices.Clone tells -/
def Cloned (w : World) (n : Nat) (bs : Sp.S) (e : Ending) (w' : World) : Prop := (∃ A' c', e = .returned (.slice A' n c') ∧ BR.Own w' w.heap.size A' n c' bs ∧ n ≤ c' ∧ c' ≤ 9223372036854775807 ∧ (A' = none → n = 0 ∧ c' = 0)) ∧ Below w.heap.size w w'
set_option maxRecDepth 100000 in
set_option maxHeartbeats 400000 in
theorem clone_any (A : Option Addr) (n c : Nat) (bs : Sp.S) (w : World) (ha : IsS w w.heap.size A n bs) (hn : n ≤ 1000000) :
    Calls Try.prog 55 #[.slice A n c] w (Cloned w n bs) := by
  obtain ⟨i0, hi0, hz1, hz2, hz3⟩ := info_parts BR.infoE
  have HA := Lib.hid ha
  have HI := Lib.hid hi0; have HZ1 := Lib.hid hz1; have HZ2 := Lib.hid hz2; have HZ3 := Lib.hid hz3
  clear hi0 hz1 hz2 hz3 ha
  cases A with
  | none =>
    obtain rfl : n = 0 := by
      rcases Nat.eq_zero_or_pos n with h | h
      · exact h
      · obtain ⟨ad, h, _⟩ := HA.out.1.2 h; cases h
    have hq : ∀ wx : World, (binOp .eql 22 (.slice none 0 c) (.slice none 0 0)).run Try.prog wx = .ok (.bool true) wx := fun wx => Lib.run_eql_slice_nil wx 22 31 none 0 c 0 0 Try.underlying22
    go_enter Try.func55, Try.ntmps55
    go_wp2_with fail
    go_ret
    obtain rfl : bs = [] := List.eq_nil_of_length_eq_zero HA.out.2.1
    exact ⟨⟨none, 0, rfl, ⟨World.ownsRow_nil _ _ _ _, rfl, by omega⟩, by omega, by omega, fun _ => ⟨rfl, rfl⟩⟩, Below.refl _ _⟩
  | some ad =>
    have hq : ∀ wx : World, (binOp .eql 22 (.slice (some ad) n c) (.slice none 0 0)).run Try.prog wx = .ok (.bool false) wx := fun wx => Lib.run_eql_slice_nil wx 22 31 (some ad) n c 0 0 Try.underlying22
    go_enter Try.func55, Try.ntmps55
    go_wp2_with (at_builtin; refine wpList_append_more _ rfl (.tmp 5) (.tmp 6) _ rfl w.heap.size 31 i0 _ 2 16 Try.underlying22 HI.out HZ1.out HZ2.out HZ3.out rfl (by omega) _ _ _ _ rfl (World.ownsRow_made w #[] 0 (Nat.le_refl _) (by decide) rfl) w.heap.size (some ad) n c (bs.map scell).flatten rfl (HA.out.1.alloc (Nat.le_refl _) _) (scell_one bs) (by simp only [maxLen]; omega) (by omega) (by simp) ?_; intro A' c' w2 HN)
    go_ret
    have h := HN.out
    simp only [Nat.zero_add, List.nil_append] at h
    have hn2 : n ≤ c' ∧ c' ≤ 9223372036854775807 ∧ (A' = none → n = 0 ∧ c' = 0) := by
      have h1 := h.1
      rcases h1.2 with ⟨e, _⟩ | ⟨g, cap, cur, e, hx⟩
      · injection e with e1 e2 e3; subst e1; subst e2; subst e3; exact ⟨by omega, by omega, fun _ => ⟨rfl, rfl⟩⟩
      · injection e with e1 e2 e3; subst e1; subst e3
        exact ⟨hx.2.2.1, by have := hx.2.2.2; unfold maxLen at this; omega, fun h => by cases h⟩
    exact ⟨⟨A', c', rfl, ⟨h.1, HA.out.2.1, by omega⟩, hn2⟩, ((Below.refl _ _).alloc (Nat.le_refl _) _).trans h.2.2⟩
/-- what twin tells -/
structure Twin (w : World) (n1 n2 : Nat) (s1 s2 : Sp.S) (B1 B2 : Option Addr) (d1 d2 : Nat) (w' : World) : Prop where
  own1 : BR.Own w' w.heap.size B1 n1 d1 s1
  own2 : BR.Own w' w.heap.size B2 n2 d2 s2
  cap1 : n1 ≤ d1 ∧ d1 ≤ 9223372036854775807
  cap2 : n2 ≤ d2 ∧ d2 ≤ 9223372036854775807
  nil1 : B1 = none → n1 = 0 ∧ d1 = 0
  nil2 : B2 = none → n2 = 0 ∧ d2 = 0
  apart : ∀ a1 a2, B1 = some a1 → B2 = some a2 → a1.block ≠ a2.block
  bel : Below w.heap.size w w'
theorem TwinMk12 {w wa wb : World} {n1 n2 : Nat} {s1 s2 : Sp.S} {E1 E2 : Option Addr} {d1 d2 : Nat} (h1 : BR.Own wa w.drew.heap.size E1 n1 d1 s1) (k1 : n1 ≤ d1 ∧ d1 ≤ 9223372036854775807 ∧ (E1 = none → n1 = 0 ∧ d1 = 0)) (hba : Below w.heap.size w wa)
    (h2 : BR.Own wb wa.heap.size E2 n2 d2 s2) (k2 : n2 ≤ d2 ∧ d2 ≤ 9223372036854775807 ∧ (E2 = none → n2 = 0 ∧ d2 = 0)) (hb : Below wa.heap.size wa wb) : Twin w n1 n2 s1 s2 E1 E2 d1 d2 wb :=
  ⟨h1.below hb, h2.mono hba.size, ⟨k1.1, k1.2.1⟩, ⟨k2.1, k2.2.1⟩, k1.2.2, k2.2.2, fun a1 a2 e1 e2 e => absurd (h1.adr a1 e1).2 (by have := (h2.adr a2 e2).1; omega), hba.trans (hb.mono hba.size)⟩
theorem TwinMk21 {w wa wb : World} {n1 n2 : Nat} {s1 s2 : Sp.S} {E1 E2 : Option Addr} {d1 d2 : Nat} (h2 : BR.Own wa w.drew.heap.size E2 n2 d2 s2) (k2 : n2 ≤ d2 ∧ d2 ≤ 9223372036854775807 ∧ (E2 = none → n2 = 0 ∧ d2 = 0)) (hba : Below w.heap.size w wa)
    (h1 : BR.Own wb wa.heap.size E1 n1 d1 s1) (k1 : n1 ≤ d1 ∧ d1 ≤ 9223372036854775807 ∧ (E1 = none → n1 = 0 ∧ d1 = 0)) (hb : Below wa.heap.size wa wb) : Twin w n1 n2 s1 s2 E1 E2 d1 d2 wb :=
  ⟨h1.mono hba.size, h2.below hb, ⟨k1.1, k1.2.1⟩, ⟨k2.1, k2.2.1⟩, k1.2.2, k2.2.2, fun a1 a2 e1 e2 e => absurd (h2.adr a2 e2).2 (by have := (h1.adr a1 e1).1; omega), hba.trans (hb.mono hba.size)⟩
theorem Twin.over {w w1 wb : World} {n1 n2 g : Nat} {s1 s2 : Sp.S} {E1 E2 : Option Addr} {d1 d2 : Nat} (h : Twin w1 n1 n2 s1 s2 E1 E2 d1 d2 wb) (hb : Below w.heap.size w w1) {cs : List Value} (hr : Row wb g 24 cs) (hg : w.heap.size ≤ g) (u v : Value) :
    Twin w n1 n2 s1 s2 E1 E2 d1 d2 ((wb.setCell ⟨g, 0, none⟩ u).setCell ⟨g, 1, none⟩ v) :=
  ⟨⟨own_setr (own_setr (own_monor h.own1.1 hb.size) hr (by decide) 0 u) (hr.set_ 0 u) (by decide) 1 v, h.own1.2⟩, ⟨own_setr (own_setr (own_monor h.own2.1 hb.size) hr (by decide) 0 u) (hr.set_ 0 u) (by decide) 1 v, h.own2.2⟩, h.cap1, h.cap2, h.nil1, h.nil2, h.apart, ((hb.trans (h.bel.mono hb.size)).setCell (p := ⟨g, 0, none⟩) hg u).setCell (p := ⟨g, 1, none⟩) hg v⟩
def Twinned (w : World) (n1 n2 : Nat) (s1 s2 : Sp.S) (e : Ending) (w' : World) : Prop := ∃ B1 B2 d1 d2, e = .returned (.agg #[.slice B1 n1 d1, .slice B2 n2 d2]) ∧ Twin w n1 n2 s1 s2 B1 B2 d1 d2 w'
set_option maxRecDepth 100000 in
set_option maxHeartbeats 1000000 in
theorem twin_any (A1 A2 : Option Addr) (n1 n2 c1 c2 : Nat) (s1 s2 : Sp.S) (w : World) (h1 : IsS w w.heap.size A1 n1 s1) (h2 : IsS w w.heap.size A2 n2 s2) (b1 : n1 ≤ 1000000) (b2 : n2 ≤ 1000000) :
    Calls Try.prog 36 #[.agg #[.slice A1 n1 c1, .slice A2 n2 c2]] w (Twinned w n1 n2 s1 s2) := by
  have H1 := Lib.hid h1; have H2 := Lib.hid h2; have B1 := Lib.hid b1; have B2 := Lib.hid b2
  clear h1 h2 b1 b2
  go_enter Try.func36, Try.ntmps36
  go_upto_region 1 with fail
  have s1' : (w.alloc (.cells #[.slice A1 n1 c1, .slice A2 n2 c2] 24)).heap.size = w.heap.size + 1 := by simp
  have r0 : Row ((w.alloc (.cells #[.slice A1 n1 c1, .slice A2 n2 c2] 24)).alloc (.cells #[.slice none 0 0, .slice none 0 0] 24)) w.heap.size 24 [.slice A1 n1 c1, .slice A2 n2 c2] := (Row.new w _ [.slice A1 n1 c1, .slice A2 n2 c2]).alloc _
  have r1 : Row ((w.alloc (.cells #[.slice A1 n1 c1, .slice A2 n2 c2] 24)).alloc (.cells #[.slice none 0 0, .slice none 0 0] 24)) (w.heap.size + 1) 24 [.slice none 0 0, .slice none 0 0] := by
    have h := Row.new (w.alloc (.cells #[.slice A1 n1 c1, .slice A2 n2 c2] 24)) 24 [.slice none 0 0, .slice none 0 0]
    rw [s1'] at h
    exact h
  have hb0 : Below w.heap.size w ((w.alloc (.cells #[.slice A1 n1 c1, .slice A2 n2 c2] 24)).alloc (.cells #[.slice none 0 0, .slice none 0 0] 24)) := ((Below.refl _ _).alloc (Nat.le_refl _) _).alloc (by simp) _
  generalize (w.alloc (.cells #[.slice A1 n1 c1, .slice A2 n2 c2] 24)).alloc (.cells #[.slice none 0 0, .slice none 0 0] 24) = w1 at *
  have p0 := r0.cell 0
  have p1 := r0.cell 1
  have lp := r0.lt
  have l1 := r1.lt
  simp only [List.getElem?_cons_zero, List.getElem?_cons_succ] at p0 p1
  have HB0 := Lib.hid hb0; have HR0 := Lib.hid r0; have HR1 := Lib.hid r1
  clear hb0 r0 r1 s1'
  have HC1 : Hid (∀ wx, Below w1.heap.size w1 wx → Calls Try.prog 55 #[.slice A1 n1 c1] wx (Cloned wx n1 s1)) := Lib.hid fun wx hb => clone_any A1 n1 c1 s1 wx (((H1.out.below HB0.out).more HB0.out.size).below hb |>.more hb.size) B1.out
  have HC2 : Hid (∀ wx, Below w1.heap.size w1 wx → Calls Try.prog 55 #[.slice A2 n2 c2] wx (Cloned wx n2 s2)) := Lib.hid fun wx hb => clone_any A2 n2 c2 s2 wx (((H2.out.below HB0.out).more HB0.out.size).below hb |>.more hb.size) B2.out
  have KQ : Hid (∀ (w' : World) (u v : Value), w'.cell? ⟨w.heap.size, 0, none⟩ = some (.slice A1 n1 c1) → w'.cell? ⟨w.heap.size, 1, none⟩ = some (.slice A2 n2 c2) → ((w'.setCell ⟨w.heap.size + 1, 0, none⟩ u).setCell ⟨w.heap.size + 1, 1, none⟩ v).cell? ⟨w.heap.size, 0, none⟩ = some (.slice A1 n1 c1) ∧ ((w'.setCell ⟨w.heap.size + 1, 0, none⟩ u).setCell ⟨w.heap.size + 1, 1, none⟩ v).cell? ⟨w.heap.size, 1, none⟩ = some (.slice A2 n2 c2)) := Lib.hid fun w' u v h1 h2 => ⟨(World.cell?_setCell_other _ _ _ _ (by intro h; injection h with h; omega)).trans ((World.cell?_setCell_other _ _ _ _ (by intro h; injection h with h; omega)).trans h1), (World.cell?_setCell_other _ _ _ _ (by intro h; injection h with h; omega)).trans ((World.cell?_setCell_other _ _ _ _ (by intro h; injection h with h; omega)).trans h2)⟩
  go_region_held3 (fun w' => w'.cell? ⟨w.heap.size, 0, none⟩ = some (.slice A1 n1 c1) ∧ w'.cell? ⟨w.heap.size, 1, none⟩ = some (.slice A2 n2 c2))
    (first | exact ⟨p0, p1⟩ | exact KO.out | exact KP.out | exact KQ.out _ _ _ KP.out.1 KP.out.2)
    (first
      | (go_at_call 55; refine (HC2.out wa HBa.out).mono ?_; rintro e' wb ⟨⟨E2, d2, rfl, ho, hd⟩, hb⟩; have HTW : Hid (Twin w1 n1 n2 s1 s2 E1 E2 d1 d2 wb) := Lib.hid (TwinMk12 HO1.out HD1.out HBa.out ho hd hb); have KP : Hid (wb.cell? ⟨w.heap.size, 0, none⟩ = some (.slice A1 n1 c1) ∧ wb.cell? ⟨w.heap.size, 1, none⟩ = some (.slice A2 n2 c2)) := Lib.hid ⟨(HTW.out.bel.cell (p := ⟨w.heap.size, 0, none⟩) lp).trans p0, (HTW.out.bel.cell (p := ⟨w.heap.size, 1, none⟩) lp).trans p1⟩; clear hb ho hd; have hr1 := HR1.out.below HTW.out.bel l1; have q0 := hr1.cell 0; have q1 := hr1.cell 1; have f0 := hr1.frozen 0; have f1 := hr1.frozen 1; have lq := hr1.lt; have HR1b := Lib.hid hr1; simp only [List.getElem?_cons_zero, List.getElem?_cons_succ] at q0 q1; clear hr1)
      | (go_at_call 55; refine (HC1.out wa HBb.out).mono ?_; rintro e' wb ⟨⟨E1, d1, rfl, ho, hd⟩, hb⟩; have HTW : Hid (Twin w1 n1 n2 s1 s2 E1 E2 d1 d2 wb) := Lib.hid (TwinMk21 HO2.out HD2.out HBb.out ho hd hb); have KP : Hid (wb.cell? ⟨w.heap.size, 0, none⟩ = some (.slice A1 n1 c1) ∧ wb.cell? ⟨w.heap.size, 1, none⟩ = some (.slice A2 n2 c2)) := Lib.hid ⟨(HTW.out.bel.cell (p := ⟨w.heap.size, 0, none⟩) lp).trans p0, (HTW.out.bel.cell (p := ⟨w.heap.size, 1, none⟩) lp).trans p1⟩; clear hb ho hd; have hr1 := HR1.out.below HTW.out.bel l1; have q0 := hr1.cell 0; have q1 := hr1.cell 1; have f0 := hr1.frozen 0; have f1 := hr1.frozen 1; have lq := hr1.lt; have HR1b := Lib.hid hr1; simp only [List.getElem?_cons_zero, List.getElem?_cons_succ] at q0 q1; clear hr1)
      | (go_at_call 55; refine (HC1.out w1.drew (Below.refl _ _).drew).mono ?_; rintro e' wa ⟨⟨E1, d1, rfl, ho, hd⟩, hb⟩; have HO1 := Lib.hid ho; have HD1 := Lib.hid hd; have HBa : Hid (Below w1.heap.size w1 wa) := Lib.hid ((Below.refl w1.heap.size w1).drew.trans hb); have KO : Hid (wa.cell? ⟨w.heap.size, 0, none⟩ = some (.slice A1 n1 c1) ∧ wa.cell? ⟨w.heap.size, 1, none⟩ = some (.slice A2 n2 c2)) := Lib.hid ⟨(HBa.out.cell (p := ⟨w.heap.size, 0, none⟩) lp).trans p0, (HBa.out.cell (p := ⟨w.heap.size, 1, none⟩) lp).trans p1⟩; clear hb ho hd)
      | (go_at_call 55; refine (HC2.out w1.drew (Below.refl _ _).drew).mono ?_; rintro e' wa ⟨⟨E2, d2, rfl, ho, hd⟩, hb⟩; have HO2 := Lib.hid ho; have HD2 := Lib.hid hd; have HBb : Hid (Below w1.heap.size w1 wa) := Lib.hid ((Below.refl w1.heap.size w1).drew.trans hb); have KO : Hid (wa.cell? ⟨w.heap.size, 0, none⟩ = some (.slice A1 n1 c1) ∧ wa.cell? ⟨w.heap.size, 1, none⟩ = some (.slice A2 n2 c2)) := Lib.hid ⟨(HBb.out.cell (p := ⟨w.heap.size, 0, none⟩) lp).trans p0, (HBb.out.cell (p := ⟨w.heap.size, 1, none⟩) lp).trans p1⟩; clear hb ho hd))
  all_goals
    have hr2 := (HR1b.out.set_ 0 (.slice E1 n1 d1)).set_ 1 (.slice E2 n2 d2)
    have z0 := hr2.cell 0
    have z1 := hr2.cell 1
    simp only [List.set_cons_zero, List.set_cons_succ, List.getElem?_cons_zero, List.getElem?_cons_succ] at z0 z1
    have HT2 : Twin w n1 n2 s1 s2 E1 E2 d1 d2 ((wb.setCell ⟨w.heap.size + 1, 0, none⟩ (.slice E1 n1 d1)).setCell ⟨w.heap.size + 1, 1, none⟩ (.slice E2 n2 d2)) := HTW.out.over HB0.out HR1b.out (Nat.le_succ _) _ _
    clear q0 q1 f0 f1 lq hr2
    go_wp2_with fail
    refine bodyPost_ret (v := .agg #[.slice E1 n1 d1, .slice E2 n2 d2]) (by simp [results, Try.results36, go_sem, z0, z1]) rfl ⟨E1, E2, d1, d2, rfl, HT2⟩
end Bu
end Go.Proofs.Ytmhkmemaneopeaa
