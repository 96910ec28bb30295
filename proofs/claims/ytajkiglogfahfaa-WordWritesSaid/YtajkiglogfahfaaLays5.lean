/- The walk of the law's lays: bytes; and every kind. -/
import Derived.Test.YtajkiglogfahfaaLays
set_option linter.unusedVariables false
set_option linter.unusedSimpArgs false
namespace Go.Proofs.Ytajkiglogfahfaa
open Go.RowKit

theorem moved_ne {w1 : World} {gF : Nat} {r r1 : Option Nat} (hm : Moved w1 r r1) (hr : ∀ k, r = some k → k < gF) (h1 : gF < w1.heap.size) : ∀ k, r1 = some k → k ≠ gF := by
  intro k hk
  rcases hm with rfl | ⟨k', rfl, hk'⟩
  · have := hr k hk; omega
  · injection hk with hk; omega
set_option maxRecDepth 100000 in
set_option maxHeartbeats 1000000 in
theorem lays_5 (gw gr : Nat) (rw rr : Option Nat) (s : Wd.W) (at_ : Int) (n : Nat) (num : Int) (pa : Option Addr) (pn pc : Nat) (ps : List Nat) (t : ByteArray) (w : World) (hw : Pr w gw rw gr rr s) (B : Nat) (hB : B ≤ w.heap.size) (hBs : ∀ k ∈ gw :: rw.toList ++ gr :: rr.toList, B ≤ k) (hp : IsB w B pa pn ps) (hn : n < 18446744073709551616) (hsz : s.b.length + pn + t.size ≤ 70368744177664) :
    Calls Try.prog 81 #[.pointer (some ⟨gw, 0, none⟩), .pointer (some ⟨gr, 0, none⟩), .agg #[.int .i64 5, .int .i64 at_, .int .u64 (n : Nat), .int .i64 num, .slice pa pn pc, .string t]] w (LaysPost w gw rw gr rr (Wd.W.op s ⟨5, n, num, ps, sb t⟩)) := by
  have hl : s.b.length ≤ 70368744177664 := by omega
  have HE : Hid (Wd.W.op s ⟨5, n, num, ps, sb t⟩ = s.lay ps) := Lib.hid (by unfold Wd.W.op; simp only [Wd.kd, if_true, if_false])
  have hbx : Below w.heap.size w (w.alloc (.cells #[.int .i64 5, .int .i64 at_, .int .u64 (n : Nat), .int .i64 num, .slice pa pn pc, .string t] 54)) := (Below.refl _ _).alloc (Nat.le_refl _) _
  have hrow := Row.new w 54 [.int .i64 5, .int .i64 at_, .int .u64 (n : Nat), .int .i64 num, .slice pa pn pc, .string t]
  obtain ⟨w0, hw0⟩ : ∃ w0, w0 = w.alloc (.cells #[.int .i64 5, .int .i64 at_, .int .u64 (n : Nat), .int .i64 num, .slice pa pn pc, .string t] 54) := ⟨_, rfl⟩
  obtain ⟨g0, hg0⟩ : ∃ g0, g0 = w.heap.size := ⟨_, rfl⟩
  have hs0 : w0.heap.size = g0 + 1 := by rw [hw0, hg0]; simp
  obtain ⟨gF, hgF⟩ : ∃ gF, gF = w0.heap.size := ⟨_, rfl⟩
  have hrow : Row w0 g0 54 [.int .i64 5, .int .i64 at_, .int .u64 (n : Nat), .int .i64 num, .slice pa pn pc, .string t] := by rw [hw0, hg0]; exact hrow
  have hbx0 : Below w.heap.size w w0 := by rw [hw0]; exact hbx
  have HW0 := Lib.hid hw0; have HG0 := Lib.hid hg0
  have HROW := Lib.hid hrow
  have hp0 := hw.below hbx0
  have HP := Lib.hid hp0
  have HBX := Lib.hid hbx0
  have hlt := hp0.lt
  have hlt' := hw.lt
  have hi0 := hp.below (hbx0.mono hB)
  have HI0 := Lib.hid hi0
  have hcs0 := hrow.cell 0; have hcs4 := hrow.cell 4
  have HC := Lib.hid (roomy_any pa pn pc ps 165 w0 (hi0.more (by omega)) (by omega))
  rw [← hgF] at HC
  have HBS := Lib.hid hBs
  have hfar : ∀ k ∈ gw :: rw.toList ++ gr :: rr.toList, k < g0 := by
    intro k hk
    simp only [List.cons_append, List.mem_cons, List.mem_append, Option.mem_toList] at hk
    rcases hk with rfl | h | rfl | h
    · omega
    · have := hlt'.2.2.1 k h; omega
    · omega
    · have := hlt'.2.2.2 k h; omega
  have HFAR := Lib.hid hfar
  have hgF1 : g0 < gF := by omega
  have HGF := Lib.hid hgF
  have HB0 : Hid (B ≤ g0) := Lib.hid (by omega)
  clear hw hp hbx hbx0 hrow hp0 hlt hlt' hi0 hBs hfar hs0 hgF hB hcs0 hcs4
  go_enter Try.func81, Try.ntmps81
  go_wp2_with fail
  rw [← hw0, ← hg0]
  clear hw0 hg0
  refine HC.out.mono ?_
  rintro e w1 ⟨rfl, hrowF, hb1⟩
  have hb1 : Below w0.heap.size w0 w1 := by rw [← HGF.out]; exact hb1
  have hrow1 := HROW.out.below hb1 (by have := HROW.out.lt; omega)
  have c0 := hrow1.cell 0; have c4 := hrow1.cell 4
  simp only [List.getElem?_cons_zero, List.getElem?_cons_succ] at c0 c4
  have HROWF := Lib.hid hrowF
  have HB1 := Lib.hid hb1
  have HROW1 := Lib.hid hrow1
  have HP1 := Lib.hid (HP.out.below hb1)
  have hFB := room_isB (B := w1.heap.size) hrowF HI0.out.len HI0.out.2.1 hrowF.lt (by omega)
  have HW1 := Lib.hid (wbytes_any gw rw s (some ⟨gF, 0, none⟩) pn (pn + 80) ps w1 HP1.out.wr hFB (by omega))
  have hgF2 : gF < w1.heap.size := hrowF.lt
  have HI1 := Lib.hid (HI0.out.below (hb1.mono (by have := HB0.out; have := HROW.out.lt; omega)))
  have hpn : pn ≤ pn + 80 := by omega
  clear hrowF hb1 hrow1 hFB
  go_wp2_with fail
  refine HW1.out.mono ?_
  rintro e w2 ⟨rfl, r1, q1, q2, q3⟩
  have hnF : gF ∉ gw :: rw.toList := fun h => by have := HFAR.out gF (by simp at h ⊢; rcases h with h | h <;> simp [h]); omega
  have hn0 : g0 ∉ gw :: rw.toList := fun h => by have := HFAR.out g0 (by simp at h ⊢; rcases h with h | h <;> simp [h]); omega
  have hrow2 := q2.row HROW1.out hn0
  have hrowF2 := q2.row HROWF.out hnF
  have c0 := hrow2.cell 0; have c4 := hrow2.cell 4
  simp only [List.getElem?_cons_zero, List.getElem?_cons_succ] at c0 c4
  have hb2 : Below B w1 w2 := q2.below (by have := HB0.out; omega) (fun x hx => HBS.out x (by simp at hx ⊢; rcases hx with h | h <;> simp [h]))
  have hi2 := HI1.out.below hb2
  have HI2 := Lib.hid hi2
  have HROW2 := Lib.hid hrow2; have HROWF2 := Lib.hid hrowF2
  have HQ1 := Lib.hid q1; have HQ2 := Lib.hid q2; have HQ3 := Lib.hid q3
  have hs2 := q2.size
  have HD := Lib.hid (dbytes_any gr rr s pa pn pc ps w2 (HP1.out.mid q2) (hi2.more (by have := HB0.out; omega)) (by omega))
  clear q1 q2 q3 hrow2 hrowF2 hb2 hi2 hnF hn0 HW1
  go_wp2_with fail
  refine HD.out.mono ?_
  rintro e w3 ⟨rfl, r2, p1, p2, p3⟩
  have hnF : gF ∉ gr :: rr.toList := fun h => by have := HFAR.out gF (by simp at h ⊢; rcases h with h | h <;> simp [h]); omega
  have hn0 : g0 ∉ gr :: rr.toList := fun h => by have := HFAR.out g0 (by simp at h ⊢; rcases h with h | h <;> simp [h]); omega
  have hrow3 := p2.row HROW2.out hn0
  have hrowF3 := p2.row HROWF2.out hnF
  have c0 := hrow3.cell 0; have c4 := hrow3.cell 4
  simp only [List.getElem?_cons_zero, List.getElem?_cons_succ] at c0 c4
  have hb3 : Below B w2 w3 := p2.below (by have := HB0.out; omega) (fun x hx => HBS.out x (by simp at hx ⊢; rcases hx with h | h <;> simp [h]))
  have hi3 := HI2.out.below hb3
  have hs3 := p2.size
  have HINT := Lib.hid (intact_yes pa pn pc gF ps 165 w3 (hi3.more (by have := HB0.out; omega)) hrowF3 (by omega))
  have HROWF3 := Lib.hid hrowF3
  have HDONE := Lib.hid (HP1.out.done HQ1.out HQ2.out HQ3.out p1 p2 p3)
  have HMW := Lib.hid (moved_ne (gF := gF) HQ3.out (fun k hk => by have := HFAR.out k (by simp [hk]); omega) (by omega))
  have HMR := Lib.hid (moved_ne (gF := gF) p3 (fun k hk => by have := HFAR.out k (by simp [hk]); omega) (by omega))
  clear p1 p2 p3 hrow3 hrowF3 hb3 hi3 hnF hn0 HD
  go_wp2_with fail
  refine HINT.out.mono ?_
  rintro e w4 ⟨rfl, k4, rfl⟩
  have hlF : (fillM (ps.map u8) (u8 165) 80).length = pn + 80 := by rw [fillM_len _ _ _ (by omega)]; have := HI0.out.len; simp; omega
  have HI4 : Hid (∃ l : List Value, l.length = pn + 80 ∧ Row (w3.drewN k4) gF 5 l) := Lib.hid ⟨_, hlF, HROWF3.out⟩
  have HC4 : Hid (Chg [gF] w3 (w3.drewN k4)) := Lib.hid ((Chg.refl _ _).drewN k4)
  clear hlF
  go_wp2_with fail
  go_loopw [9] (fun i wr => ∃ j : Nat, j ≤ pn + 80 ∧ i = .int .i64 j ∧ Hid (∃ l : List Value, l.length = pn + 80 ∧ Row wr gF 5 l) ∧ Hid (Chg [gF] w3 wr)) (fun i _ => pn + 80 - (intOf i).toNat)
  case atStart => exact ⟨0, by omega, rfl, HI4, HC4⟩
  case round =>
    clear HI4 HC4
    obtain ⟨j, hj, rfl, HL, HC⟩ := hrel
    by_cases hjn : j < pn + 80
    · obtain ⟨l, hl1, hl2⟩ := HL.out
      have hlc := hl2.cell j
      rw [List.getElem?_eq_getElem (show j < l.length by omega)] at hlc
      obtain ⟨x, hx⟩ : ∃ x, x = l[j]'(by omega) := ⟨_, rfl⟩
      rw [← hx] at hlc
      have hlf := hl2.frozen j
      have hll := hl2.lt
      have hjj : (j : Int) < (pn : Int) + 80 := by omega
      have HL1 := Lib.hid hl1; have HL2 := Lib.hid hl2
      clear hx hl1 hl2
      go_wp2_with fail
      go_roundw
      case rel => exact ⟨j + 1, by omega, by go_num, Lib.hid ⟨_, by rw [List.length_set]; exact HL1.out, HL2.out.set_ j _⟩, Lib.hid (HC.out.set_ (p := ⟨gF, j, none⟩) (.inl (by simp)) _)⟩
      case measure => simp [intOf]; omega
    · go_wp2_with fail
      go_ret
      rw [HE.out]
      obtain ⟨d1, d2, d3, d4⟩ := HDONE.out
      have hbw1 : Below w.heap.size w w1 := HBX.out.trans (HB1.out.mono HBX.out.size)
      refine ⟨rfl, r1, r2, d1.chg HC.out (fun k hk hm => ?_), ?_, d3.below hbw1.size, d4.below hbw1.size⟩
      · obtain rfl : k = gF := by simpa using hm
        simp only [List.cons_append, List.mem_cons, List.mem_append, Option.mem_toList] at hk
        rcases hk with rfl | h | rfl | h
        · have := HFAR.out k (by simp); omega
        · exact HMW.out k h rfl
        · have := HFAR.out k (by simp); omega
        · exact HMR.out k h rfl
      · refine ((Chg.of_below hbw1).trans d2 (fun x hx => .inl hx)).trans HC.out (fun x hx => ?_)
        obtain rfl : x = gF := by simpa using hx
        exact .inr (by have := HG0.out; omega)
set_option maxRecDepth 100000 in
set_option maxHeartbeats 1000000 in
theorem lays_0 (gw gr : Nat) (rw rr : Option Nat) (s : Wd.W) (kind at_ : Int) (n : Nat) (num : Int) (pa : Option Addr) (pn pc : Nat) (ps : List Nat) (t : ByteArray) (w : World) (hw : Pr w gw rw gr rr s) (hk : kind ≠ 1 ∧ kind ≠ 2 ∧ kind ≠ 3 ∧ kind ≠ 4 ∧ kind ≠ 5 ∧ kind ≠ 6 ∧ kind ≠ 7 ∧ kind ≠ 8) :
    Calls Try.prog 81 #[.pointer (some ⟨gw, 0, none⟩), .pointer (some ⟨gr, 0, none⟩), .agg #[.int .i64 kind, .int .i64 at_, .int .u64 (n : Nat), .int .i64 num, .slice pa pn pc, .string t]] w (LaysPost w gw rw gr rr (Wd.W.op s ⟨kind, n, num, ps, sb t⟩)) := by
  obtain ⟨k1, k2, k3, k4, k5, k6, k7, k8⟩ := hk
  have HE : Hid (Wd.W.op s ⟨kind, n, num, ps, sb t⟩ = s) := Lib.hid (by unfold Wd.W.op; simp only [k1, k2, k3, k4, k5, k6, k7, k8, if_false])
  have h1 : (kind == 1) = false := beq_eq_false_iff_ne.2 k1
  have h2 : (kind == 2) = false := beq_eq_false_iff_ne.2 k2
  have h3 : (kind == 3) = false := beq_eq_false_iff_ne.2 k3
  have h4 : (kind == 4) = false := beq_eq_false_iff_ne.2 k4
  have h5 : (kind == 5) = false := beq_eq_false_iff_ne.2 k5
  have h6 : (kind == 6) = false := beq_eq_false_iff_ne.2 k6
  have h7 : (kind == 7) = false := beq_eq_false_iff_ne.2 k7
  have h8 : (kind == 8) = false := beq_eq_false_iff_ne.2 k8
  have hbx : Below w.heap.size w (w.alloc (.cells #[.int .i64 kind, .int .i64 at_, .int .u64 (n : Nat), .int .i64 num, .slice pa pn pc, .string t] 54)) := (Below.refl _ _).alloc (Nat.le_refl _) _
  have HB := Lib.hid hbx
  have HW := Lib.hid (hw.below hbx)
  clear hw hbx k1 k2 k3 k4 k5 k6 k7 k8
  go_enter Try.func81, Try.ntmps81
  go_wp2_with fail
  go_ret
  rw [HE.out]
  exact ⟨rfl, rw, rr, HW.out, Chg.of_below HB.out, Moved.refl _ _, Moved.refl _ _⟩
/-- one step on a writer and on the document's -/
theorem lays_any (gw gr : Nat) (rw rr : Option Nat) (s : Wd.W) (o : OpA) (ps : List Nat) (w : World) (hw : Pr w gw rw gr rr s) (B : Nat) (hB : B ≤ w.heap.size) (hBs : ∀ k ∈ gw :: rw.toList ++ gr :: rr.toList, B ≤ k) (hp : IsB w B o.pa o.pn ps) (hn : o.n < 18446744073709551616) (hsz : s.b.length + o.pn + o.s.size ≤ 70368744177664) :
    Calls Try.prog 81 #[.pointer (some ⟨gw, 0, none⟩), .pointer (some ⟨gr, 0, none⟩), o.val] w (LaysPost w gw rw gr rr (s.op (o.is ps))) := by
  obtain ⟨kind, at_, n, num, pa, pn, pc, t⟩ := o
  unfold OpA.val OpA.is
  simp only at hsz hp hn ⊢
  have hp' := hp.more hB
  by_cases k1 : kind = 1
  · subst k1; exact lays_1 gw gr rw rr s at_ n num pa pn pc ps t w hw hp' hn hsz
  by_cases k2 : kind = 2
  · subst k2; exact lays_2 gw gr rw rr s at_ n num pa pn pc ps t w hw hp' hn hsz
  by_cases k3 : kind = 3
  · subst k3; exact lays_3 gw gr rw rr s at_ n num pa pn pc ps t w hw hp' hn hsz
  by_cases k4 : kind = 4
  · subst k4; exact lays_4 gw gr rw rr s at_ n num pa pn pc ps t w hw hp' hn hsz
  by_cases k5 : kind = 5
  · subst k5; exact lays_5 gw gr rw rr s at_ n num pa pn pc ps t w hw B hB hBs hp hn hsz
  by_cases k6 : kind = 6
  · subst k6; exact lays_6 gw gr rw rr s at_ n num pa pn pc ps t w hw hp' hn hsz
  by_cases k7 : kind = 7
  · subst k7; exact lays_7 gw gr rw rr s at_ n num pa pn pc ps t w hw hp' hn hsz
  by_cases k8 : kind = 8
  · subst k8; exact lays_8 gw gr rw rr s at_ n num pa pn pc ps t w hw hp' hn hsz
  · exact lays_0 gw gr rw rr s kind at_ n num pa pn pc ps t w hw ⟨k1, k2, k3, k4, k5, k6, k7, k8⟩
end Go.Proofs.Ytajkiglogfahfaa
