/- The walk of the row's step: what is told, what is laid. -/
import Derived.Test.YtajkiglogfahfaaStep
set_option linter.unusedVariables false
set_option linter.unusedSimpArgs false
namespace Go.Proofs.Ytajkiglogfahfaa
open Go.RowKit

theorem chg_cell {T : List Nat} {w w' : World} (h : Chg T w w') {g o : Nat} (hg : g < w.heap.size) (hn : g ∉ T) : w'.cell? ⟨g, o, none⟩ = w.cell? ⟨g, o, none⟩ := World.cell?_of_block (h.block g hg hn)
theorem Wrow.away {w : World} {B gx : Nat} {es : List En} {cs : List Value} {L M : Value} {SL SM S : List Nat} (h : Wrow w B gx es cs L M SL SM S) {x : En} (hx : x ∈ es) : gx ∉ x.blocks ∧ (∀ k ∈ SL, k ∉ x.blocks) ∧ ∀ k ∈ SM, k ∉ x.blocks := by
  obtain ⟨t1, t2, t3⟩ := h.types
  have ht := (h.ok x hx).types
  refine ⟨fun hk => ?_, fun k hk hm => ?_, fun k hk hm => ?_⟩
  · obtain ⟨e, cur, he, hb⟩ := ht gx hk
    refine Blk.ne_ (cs := cs.toArray) (cs' := cur) t3 hb ?_ rfl
    rcases he with rfl | rfl | rfl <;> decide
  · obtain ⟨cur1, hb1⟩ := t1 k hk
    obtain ⟨e, cur, he, hb⟩ := ht k hm
    refine Blk.ne_ (cs := cur1) (cs' := cur) hb1 hb ?_ rfl
    rcases he with rfl | rfl | rfl <;> decide
  · obtain ⟨cur1, hb1⟩ := t2 k hk
    obtain ⟨e, cur, he, hb⟩ := ht k hm
    refine Blk.ne_ (cs := cur1) (cs' := cur) hb1 hb ?_ rfl
    rcases he with rfl | rfl | rfl <;> decide
theorem Wrow.at2 {w : World} {B gx : Nat} {es : List En} {cs : List Value} {L M : Value} {SL SM S : List Nat} (h : Wrow w B gx es cs L M SL SM S) {i : Nat} {x : En} (hx : es[i]? = some x) : ∃ g o c g' o' c', L = .slice (some ⟨g, o, none⟩) es.length c ∧ M = .slice (some ⟨g', o', none⟩) es.length c' ∧ g < w.heap.size ∧ g' < w.heap.size ∧ w.cell? ⟨g, o + i, none⟩ = some (.pointer (some ⟨x.gw, 0, none⟩)) ∧ w.cell? ⟨g', o' + i, none⟩ = some (.pointer (some ⟨x.gr, 0, none⟩)) ∧ g ∈ SL ∧ g' ∈ SM := by
  have hi := (List.getElem?_eq_some_iff.1 hx).1
  obtain ⟨A, c, e, hc, hA, g, o, hf, hg⟩ := h.ws.form
  obtain ⟨A', c', e', hc', hA', g', o', hf', hg'⟩ := h.is.form
  obtain ⟨rfl, hsl, hcell⟩ := hf.out (by omega)
  obtain ⟨rfl, hsm, hcell'⟩ := hf'.out (by omega)
  refine ⟨g, o, c, g', o', c', e, e', hg (by omega), hg' (by omega), ?_, ?_, by rw [hsl]; simp, by rw [hsm]; simp⟩
  · rw [hcell i hi, List.getElem?_map, hx]; rfl
  · rw [hcell' i hi, List.getElem?_map, hx]; rfl
set_option maxRecDepth 100000 in
set_option maxHeartbeats 4000000 in
theorem step_tell (B gx : Nat) (es : List En) (cs : List Value) (L M : Value) (SL SM S : List Nat) (w : World) (h : Wrow w B gx es cs L M SL SM S) (hB : B ≤ w.heap.size) (at_ : Int) (hat : -9223372036854775808 ≤ at_ ∧ at_ ≤ 9223372036854775807) (n : Nat) (num : Int) (pa : Option Addr) (pn pc : Nat) (t : ByteArray) (h1 : 1 ≤ es.length) (hi : es.length ≤ 1000000) (hl : ∀ x ∈ es, x.s.b.length ≤ 70368744177664) :
    Calls Try.prog 27 #[.pointer (some ⟨gx, 0, none⟩), .agg #[.int .i64 9, .int .i64 at_, .int .u64 (n : Nat), .int .i64 num, .slice pa pn pc, .string t]] w fun e w' => e = .returned (.bool true) ∧ (∃ cs' S', Wrow w' B gx es cs' L M SL SM S') ∧ Below B w w' := by
  obtain ⟨w0, hw0⟩ : ∃ w0, w0 = w.alloc (.cells #[.int .i64 9, .int .i64 at_, .int .u64 (n : Nat), .int .i64 num, .slice pa pn pc, .string t] 54) := ⟨_, rfl⟩
  obtain ⟨g0, hg0⟩ : ∃ g0, g0 = w.heap.size := ⟨_, rfl⟩
  have hbx : Below w.heap.size w w0 := by rw [hw0]; exact (Below.refl _ _).alloc (Nat.le_refl _) _
  have hrow : Row w0 g0 54 [.int .i64 9, .int .i64 at_, .int .u64 (n : Nat), .int .i64 num, .slice pa pn pc, .string t] := by rw [hw0, hg0]; exact Row.new w _ _
  have hr := h.below hbx
  obtain ⟨ne, hne⟩ : ∃ ne, ne = es.length := ⟨_, rfl⟩
  obtain ⟨A0, d0, A0', d0', eL, eM⟩ := hr.slices
  subst eL eM
  have hcells := hr.cells
  rw [← hne] at h1 hi hcells
  obtain ⟨c0, c1, f0, f1, hgx⟩ := hcells
  have b0 := hrow.cell 0; have b1 := hrow.cell 1
  simp only [List.getElem?_cons_zero, List.getElem?_cons_succ] at b0 b1
  have HNE := Lib.hid hne; have HR := Lib.hid hr; have HBX := Lib.hid hbx; have HAT := Lib.hid hat; have HL := Lib.hid hl
  have hlt0 := hrow.lt
  have ew : IntKind.i64.wrap ((ne - 1 : Nat) : Int) = ((ne - 1 : Nat) : Int) := by rw [IntKind.wrap_i64]; omega
  have ek : ((ne : Int) - 1) = ((ne - 1 : Nat) : Int) := by omega
  have hB0 : B ≤ w0.heap.size := by have := hbx.size; omega
  clear h hr hne hrow hbx hat hl
  go_enter Try.func27, Try.ntmps27
  go_wp2_with fail
  rw [← hw0, ← hg0]
  clear hw0 hg0
  go_region_held3 (fun w' => w'.cell? ⟨g0, 1, none⟩ = some (.int .i64 at_) ∧ w'.cell? ⟨gx, 0, none⟩ = some (.slice A0 ne d0)) (first | exact ⟨b1, c0⟩)
    (first | (go_at_call 58; refine (within_any at_ (ne - 1) w0.drew HAT.out (by omega)).mono ?_; rintro e w' ⟨⟨i, rfl, hil⟩, rfl⟩))
  have hil2 : i < es.length := by have := HNE.out; omega
  have HT := Lib.hid (tells_any B gx es cs _ _ SL SM S w0.drew (HR.out.drewN 1) hB0 i es[i] (List.getElem?_eq_getElem hil2) (by have := HNE.out; omega) (HL.out _ (List.getElem_mem hil2)))
  clear b1 c0 ew ek
  go_wp2_with fail
  refine HT.out.mono ?_
  rintro e w3 ⟨rfl, hi3, hb3⟩
  have HI3 := Lib.hid hi3
  have HB3 := Lib.hid hb3
  clear hi3 hb3 HT
  go_wp2_with fail
  go_ret
  exact ⟨rfl, HI3.out, ((HBX.out.mono hB).trans (⟨rfl, rfl, rfl, Nat.le_refl _, fun _ _ => rfl⟩ : Below B w0 w0.drew)).trans HB3.out⟩
set_option maxRecDepth 100000 in
set_option maxHeartbeats 4000000 in
theorem step_lay (B gx : Nat) (es : List En) (cs : List Value) (L M : Value) (SL SM S : List Nat) (w : World) (h : Wrow w B gx es cs L M SL SM S) (hB : B ≤ w.heap.size) (o : OpA) (ps : List Nat) (hk : ¬ o.kind = 9 ∧ ¬ o.kind = 10) (ho : IsB w B o.pa o.pn ps) (hn : o.n < 18446744073709551616) (hat : -9223372036854775808 ≤ o.at_ ∧ o.at_ ≤ 9223372036854775807) (h1 : 1 ≤ es.length) (hi : es.length ≤ 1000000) (hl : ∀ x ∈ es, x.s.b.length + o.pn + o.s.size ≤ 70368744177664) :
    Calls Try.prog 27 #[.pointer (some ⟨gx, 0, none⟩), .agg #[.int .i64 o.kind, .int .i64 o.at_, .int .u64 (o.n : Nat), .int .i64 o.num, .slice o.pa o.pn o.pc, .string o.s]] w fun e w' => e = .returned (.bool true) ∧ (∃ i x rw1 rr1, es[i]? = some x ∧ Wrow w' B gx (es.set i ⟨x.gw, rw1, x.gr, rr1, x.s.op (o.is ps)⟩) cs L M SL SM S) ∧ Below B w w' := by
  obtain ⟨kind, at_, n, num, pa, pn, pc, t⟩ := o
  simp only at hk ho hn hat hl ⊢
  obtain ⟨w0, hw0⟩ : ∃ w0, w0 = w.alloc (.cells #[.int .i64 kind, .int .i64 at_, .int .u64 (n : Nat), .int .i64 num, .slice pa pn pc, .string t] 54) := ⟨_, rfl⟩
  obtain ⟨g0, hg0⟩ : ∃ g0, g0 = w.heap.size := ⟨_, rfl⟩
  have hbx : Below w.heap.size w w0 := by rw [hw0]; exact (Below.refl _ _).alloc (Nat.le_refl _) _
  have hrow : Row w0 g0 54 [.int .i64 kind, .int .i64 at_, .int .u64 (n : Nat), .int .i64 num, .slice pa pn pc, .string t] := by rw [hw0, hg0]; exact Row.new w _ _
  have hr := h.below hbx
  obtain ⟨ne, hne⟩ : ∃ ne, ne = es.length := ⟨_, rfl⟩
  obtain ⟨A0, d0, A0', d0', eL, eM⟩ := hr.slices
  subst eL eM
  have hcells := hr.cells
  rw [← hne] at h1 hi hcells
  obtain ⟨c0, c1, f0, f1, hgx⟩ := hcells
  have b0 := hrow.cell 0; have b1 := hrow.cell 1; have b2 := hrow.cell 2; have b3 := hrow.cell 3; have b4 := hrow.cell 4; have b5 := hrow.cell 5
  simp only [List.getElem?_cons_zero, List.getElem?_cons_succ] at b0 b1 b2 b3 b4 b5
  have HNE := Lib.hid hne; have HR := Lib.hid hr; have HBX := Lib.hid hbx; have HAT := Lib.hid hat; have HL := Lib.hid hl
  have hlt0 := hrow.lt
  have ew : IntKind.i64.wrap ((ne - 1 : Nat) : Int) = ((ne - 1 : Nat) : Int) := by rw [IntKind.wrap_i64]; omega
  have ek : ((ne : Int) - 1) = ((ne - 1 : Nat) : Int) := by omega
  have hB0 : B ≤ w0.heap.size := by have := hbx.size; omega
  have HO0 := Lib.hid (ho.below (hbx.mono hB))
  have HW : Hid (∀ x ∈ es, ∀ k ∈ x.blocks, k < g0) := Lib.hid fun x hx k hk => by rw [hg0]; exact (h.ok x hx).lt k hk
  have HN := Lib.hid hn
  have k9 : (kind == 9) = false := beq_eq_false_iff_ne.2 hk.1
  have k10 : (kind == 10) = false := beq_eq_false_iff_ne.2 hk.2
  clear h hr hne hrow hbx hat hl ho hn hk
  go_enter Try.func27, Try.ntmps27
  go_wp2_with fail
  rw [← hw0, ← hg0]
  clear hw0 hg0
  go_region_held3 (fun w' => w'.cell? ⟨g0, 1, none⟩ = some (.int .i64 at_) ∧ w'.cell? ⟨gx, 0, none⟩ = some (.slice A0 ne d0)) (first | exact ⟨b1, c0⟩)
    (first | (go_at_call 58; refine (within_any at_ (ne - 1) w0.drew HAT.out (by omega)).mono ?_; rintro e w' ⟨⟨i, rfl, hil⟩, rfl⟩))
  have hil2 : i < es.length := by have := HNE.out; omega
  have hin : (i : Int) < (ne : Int) := by omega
  have hi0 : (0 : Int) ≤ (i : Int) := by omega
  obtain ⟨x, hx⟩ : ∃ x, es[i]? = some x := ⟨_, List.getElem?_eq_getElem hil2⟩
  have hxl := HL.out x (List.mem_of_getElem? hx)
  obtain ⟨gw, rw, gr, rr, s⟩ := x
  simp only at hxl
  obtain ⟨g, oo, c, g', oo', c', q1, q2, hg, hg', l0, l1, hgs, hgs'⟩ := HR.out.at2 hx
  obtain ⟨n1, n2, n3⟩ := HR.out.away (List.mem_of_getElem? hx)
  have N1 := Lib.hid n1; have N2 := Lib.hid (n2 g hgs); have N3 := Lib.hid (n3 g' hgs')
  have N4 : Hid (g0 ∉ (En.mk gw rw gr rr s).blocks) := Lib.hid fun hk => by have := HW.out _ (List.mem_of_getElem? hx) g0 hk; omega
  clear n1 n2 n3 hgs hgs'
  injection q1 with q1 _ q1'
  injection q2 with q2 _ q2'
  subst q1 q1' q2 q2'
  simp only at l0 l1
  have hok := (HR.out.ok _ (List.mem_of_getElem? hx)).below (below_drewN (Below.refl w0.heap.size w0) 2)
  have HLAY := Lib.hid (lays_any gw gr rw rr s ⟨kind, at_, n, num, pa, pn, pc, t⟩ ps w0.drew.drew hok B hB0 (HR.out.bs.2.2.1 _ (List.mem_of_getElem? hx)) HO0.out HN.out (by simp only; omega))
  have HX := Lib.hid hx
  clear hx hok hil hil2 ew ek hxl
  go_wp2_with fail
  go_region_held3 (fun w' => w'.cell? ⟨gx, 0, none⟩ = some (.slice (some ⟨g, oo, none⟩) ne d0) ∧ w'.cell? ⟨gx, 1, none⟩ = some (.slice (some ⟨g', oo', none⟩) ne d0') ∧ w'.cell? ⟨g, oo + i, none⟩ = some (.pointer (some ⟨gw, 0, none⟩)) ∧ w'.cell? ⟨g', oo' + i, none⟩ = some (.pointer (some ⟨gr, 0, none⟩)) ∧ w'.cell? ⟨g0, 0, none⟩ = some (.int .i64 kind) ∧ w'.cell? ⟨g0, 1, none⟩ = some (.int .i64 at_) ∧ w'.cell? ⟨g0, 2, none⟩ = some (.int .u64 (n : Nat)) ∧ w'.cell? ⟨g0, 3, none⟩ = some (.int .i64 num) ∧ w'.cell? ⟨g0, 4, none⟩ = some (.slice pa pn pc) ∧ w'.cell? ⟨g0, 5, none⟩ = some (.string t))
    (first | exact ⟨c0, c1, l0, l1, b0, b1, b2, b3, b4, b5⟩ | exact ⟨(chg_cell HP2.out hgx N1.out).trans c0, (chg_cell HP2.out hgx N1.out).trans c1, (chg_cell HP2.out hg N2.out).trans l0, (chg_cell HP2.out hg' N3.out).trans l1, (chg_cell HP2.out hlt0 N4.out).trans b0, (chg_cell HP2.out hlt0 N4.out).trans b1, (chg_cell HP2.out hlt0 N4.out).trans b2, (chg_cell HP2.out hlt0 N4.out).trans b3, (chg_cell HP2.out hlt0 N4.out).trans b4, (chg_cell HP2.out hlt0 N4.out).trans b5⟩)
    (first | (go_at_call 81; refine HLAY.out.mono ?_; rintro e w5 ⟨rfl, rw1, rr1, p1, p2, p3, p4⟩; have HR5 := Lib.hid (Wrow.step (w := w0.drewN 2) (HR.out.drewN 2) HX.out p1 p2 p3 p4 hB0); have HP1 := Lib.hid p1; have HP2 := Lib.hid p2; clear p1 p2 p3 p4))
  have e0 := (chg_cell (o := 0) HP2.out hgx N1.out).trans c0
  have e1 := (chg_cell (o := 1) HP2.out hgx N1.out).trans c1
  have m0 := (chg_cell (o := oo + i) HP2.out hg N2.out).trans l0
  have m1 := (chg_cell (o := oo' + i) HP2.out hg' N3.out).trans l1
  obtain ⟨b, er, hs⟩ : ∃ b er, s.op (Wd.Op.mk kind n num ps (sb t)) = ⟨b, er⟩ := ⟨_, _, rfl⟩
  have HS : Hid (s.op (OpA.is ⟨kind, at_, n, num, pa, pn, pc, t⟩ ps) = ⟨b, er⟩) := Lib.hid hs
  clear hs c0 c1 l0 l1 b0 b1 b2 b3 b4 b5
  rw [HS.out] at HP1
  obtain ⟨A3, c3, z0, z1, _, _, hlt3, hB3, _⟩ := HP1.out.rf.open_
  simp only at z0 z1
  obtain ⟨nb, hnb⟩ : ∃ nb, nb = b.length := ⟨_, rfl⟩
  rw [← hnb] at z0
  have HNB := Lib.hid hnb
  have HLEN : Hid (∀ m, Calls Try.prog 48 #[.pointer (some ⟨gw, 0, none⟩)] (w5.drewN m) fun e w' => e = .returned (.int .i64 (nb : Nat)) ∧ w' = w5.drewN m) := Lib.hid fun m => (wlen_any gw rw1 ⟨b, er⟩ (w5.drewN m) (HP1.out.wr.below (below_drewN (Below.refl _ _) m))).mono fun e w' h => ⟨by rw [h.1, HNB.out], h.2.symm⟩
  have HERR : Hid (∀ m, Calls Try.prog 35 #[.pointer (some ⟨gw, 0, none⟩)] (w5.drewN m) fun e w' => e = .returned (.int .i64 (er : Nat)) ∧ w' = w5.drewN m) := Lib.hid fun m => (werr_any gw rw1 ⟨b, er⟩ (w5.drewN m) (HP1.out.wr.below (below_drewN (Below.refl _ _) m))).mono fun e w' h => ⟨h.1, h.2.symm⟩
  have y1 : ((nb : Int) == (nb : Int)) = true := by simp
  have y2 : ((er : Int) == (er : Int)) = true := by simp
  clear hB3 hnb
  go_wp2_with fail
  go_quiet (first
    | (go_at_call 48; exact Calls.quiet_of_same (HLEN.out _))
    | (go_at_call 35; exact Calls.quiet_of_same (HERR.out _)))
  clear z0 z1 e0 e1 m0 m1
  go_wp2_with fail
  go_ret
  refine ⟨rfl, ⟨i, ⟨gw, rw, gr, rr, s⟩, rw1, rr1, HX.out, HR5.out.drewN nq⟩, ?_⟩
  refine below_drewN (below_chg (a := w) (w := w0.drewN 2) (below_drewN (HBX.out.mono hB) 2) hB HP2.out fun x hx => ?_) nq
  exact HR.out.bs.2.2.1 _ (List.mem_of_getElem? HX.out) x hx
end Go.Proofs.Ytajkiglogfahfaa
