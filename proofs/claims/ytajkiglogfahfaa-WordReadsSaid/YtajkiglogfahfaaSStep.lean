/- The walk of the shelf's step. -/
import Derived.Test.YtajkiglogfahfaaOpens
import Derived.Test.YtajkiglogfahfaaBurstA
set_option linter.unusedVariables false
set_option linter.unusedSimpArgs false
namespace Go.Proofs.Ytajkiglogfahfaa
open Go.RowKit

theorem chg_cell' {T : List Nat} {w w' : World} (h : Chg T w w') {g o : Nat} (hg : g < w.heap.size) (hn : g ∉ T) : w'.cell? ⟨g, o, none⟩ = w.cell? ⟨g, o, none⟩ := World.cell?_of_block (h.block g hg hn)
/-- a shelf of so many readers, whatever they have read -/
def SW (w : World) (B gx : Nat) (A : Option Addr) (n c : Nat) (bs : List Nat) (N : Nat) : Prop := ∃ es cs L M SL SM S, Shf w B gx A n c bs es cs L M SL SM S ∧ es.length = N
theorem SW.below {w w' : World} {B gx n c N : Nat} {A : Option Addr} {bs : List Nat} (h : SW w B gx A n c bs N) (hb : Below w.heap.size w w') (hB : B ≤ w.heap.size) : SW w' B gx A n c bs N := by
  obtain ⟨es, cs, L, M, SL, SM, S, hr, hlen⟩ := h
  exact ⟨es, cs, L, M, SL, SM, S, hr.below hb hB, hlen⟩
theorem opens_sw (B gx n c N : Nat) (A : Option Addr) (bs : List Nat) (w : World) (h : SW w B gx A n c bs N) (hB : B ≤ w.heap.size) (hN : N ≤ 1000000) (hn : n ≤ 70368744177664) :
    Calls Try.prog 43 #[.pointer (some ⟨gx, 0, none⟩)] w fun e w' => e = .returned (.bool true) ∧ SW w' B gx A n c bs (N + 1) ∧ Below B w w' := by
  obtain ⟨es, cs, L, M, SL, SM, S, hr, hlen⟩ := h
  refine (opens_any B gx n c A bs es cs L M SL SM S w hr hB (by omega) hn).mono ?_
  rintro e w' ⟨he, ⟨cs', L', M', SL', SM', gr, rr, gv, q⟩, hb⟩
  exact ⟨he, ⟨_, cs', L', M', SL', SM', S, q, by simp; omega⟩, hb⟩
set_option maxRecDepth 100000 in
set_option maxHeartbeats 4000000 in
theorem sstep_new (B gx n c N : Nat) (A : Option Addr) (bs : List Nat) (w : World) (h : SW w B gx A n c bs N) (hB : B ≤ w.heap.size) (hN : N ≤ 1000000) (hn : n ≤ 70368744177664) (at_ : Int) (nn : Nat) (num : Int) (pa : Option Addr) (pn pc : Nat) (t : ByteArray) :
    Calls Try.prog 44 #[.pointer (some ⟨gx, 0, none⟩), .agg #[.int .i64 10, .int .i64 at_, .int .u64 (nn : Nat), .int .i64 num, .slice pa pn pc, .string t]] w fun e w' => e = .returned (.bool true) ∧ SW w' B gx A n c bs (if 20 ≤ N then N else N + 1) ∧ Below B w w' := by
  have hbx : Below w.heap.size w (w.alloc (.cells #[.int .i64 10, .int .i64 at_, .int .u64 (nn : Nat), .int .i64 num, .slice pa pn pc, .string t] 54)) := (Below.refl _ _).alloc (Nat.le_refl _) _
  have hsw := h.below hbx hB
  have HSW := Lib.hid hsw
  have HBX := Lib.hid hbx
  have HOP := Lib.hid (opens_sw B gx n c N A bs _ hsw (by have := hbx.size; omega) hN hn)
  obtain ⟨es, cs, L, M, SL, SM, S, hr, hlen⟩ := h
  obtain ⟨A1, c1', A2, c2', eL, eM⟩ := hr.slices
  subst eL eM
  obtain ⟨_, c1, _, _, _, hgx⟩ := hr.cells
  rw [hlen] at c1
  clear hbx hr hlen hsw
  by_cases h20 : 20 ≤ N
  · have h1 : decide ((20 : Int) ≤ (N : Int)) = true := decide_eq_true (by omega)
    rw [if_pos h20]
    go_enter Try.func44, Try.ntmps44
    go_wp2_with fail
    go_ret
    exact ⟨rfl, HSW.out, HBX.out.mono hB⟩
  · have h1 : decide ((20 : Int) ≤ (N : Int)) = false := decide_eq_false (by omega)
    rw [if_neg h20]
    go_enter Try.func44, Try.ntmps44
    go_wp2_with fail
    refine HOP.out.mono ?_
    rintro e w2 ⟨rfl, hq, hb⟩
    have HQ := Lib.hid hq; have HB2 := Lib.hid hb
    clear hq hb c1
    go_wp2_with fail
    go_ret
    exact ⟨rfl, HQ.out, (HBX.out.mono hB).trans HB2.out⟩
set_option maxRecDepth 100000 in
set_option maxHeartbeats 4000000 in
theorem sstep_old (B gx n c N : Nat) (A : Option Addr) (bs : List Nat) (w : World) (h : SW w B gx A n c bs N) (hB : B ≤ w.heap.size) (hN : N ≤ 1000000) (h1 : 1 ≤ N) (hn : n ≤ 70368744177664) (o : OpA) (hk : ¬ o.kind = 10) (hat : -9223372036854775808 ≤ o.at_ ∧ o.at_ ≤ 9223372036854775807) (hnum : -9223372036854775808 ≤ o.num ∧ o.num ≤ 9223372036854775807) :
    Calls Try.prog 44 #[.pointer (some ⟨gx, 0, none⟩), .agg #[.int .i64 o.kind, .int .i64 o.at_, .int .u64 (o.n : Nat), .int .i64 o.num, .slice o.pa o.pn o.pc, .string o.s]] w fun e w' => e = .returned (.bool true) ∧ SW w' B gx A n c bs N ∧ Below B w w' := by
  obtain ⟨kind, at_, nn, num, pa, pn, pc, t⟩ := o
  simp only at hk hat hnum ⊢
  obtain ⟨w0, hw0⟩ : ∃ w0, w0 = w.alloc (.cells #[.int .i64 kind, .int .i64 at_, .int .u64 (nn : Nat), .int .i64 num, .slice pa pn pc, .string t] 54) := ⟨_, rfl⟩
  obtain ⟨g0, hg0⟩ : ∃ g0, g0 = w.heap.size := ⟨_, rfl⟩
  have hbx : Below w.heap.size w w0 := by rw [hw0]; exact (Below.refl _ _).alloc (Nat.le_refl _) _
  have hrow : Row w0 g0 54 [.int .i64 kind, .int .i64 at_, .int .u64 (nn : Nat), .int .i64 num, .slice pa pn pc, .string t] := by rw [hw0, hg0]; exact Row.new w _ _
  obtain ⟨es, cs, L, M, SL, SM, S, hr0, hlen⟩ := h
  have hr := hr0.below hbx hB
  obtain ⟨A0, d0, A0', d0', eL, eM⟩ := hr.slices
  subst eL eM
  obtain ⟨_, c1, c2, f1, f2, hgx⟩ := hr.cells
  rw [hlen] at c1 c2
  have b0 := hrow.cell 0; have b1 := hrow.cell 1; have b2 := hrow.cell 2; have b3 := hrow.cell 3; have b4 := hrow.cell 4; have b5 := hrow.cell 5
  simp only [List.getElem?_cons_zero, List.getElem?_cons_succ] at b0 b1 b2 b3 b4 b5
  have HNE := Lib.hid hlen; have HR := Lib.hid hr; have HBX := Lib.hid hbx; have HAT := Lib.hid hat; have HNUM := Lib.hid hnum
  have hlt0 := hrow.lt
  have ew : IntKind.i64.wrap ((N - 1 : Nat) : Int) = ((N - 1 : Nat) : Int) := by rw [IntKind.wrap_i64]; omega
  have ek : ((N : Int) - 1) = ((N - 1 : Nat) : Int) := by omega
  have hB0 : B ≤ w0.heap.size := by have := hbx.size; omega
  have HW : Hid ((∀ x ∈ es, ∀ k ∈ x.blocks, k < g0) ∧ gx < g0 ∧ ∀ k ∈ S, k < g0) := Lib.hid ⟨fun x hx k hk => by rw [hg0]; exact (hr0.ok x hx).lt k hk, by rw [hg0]; exact hr0.bk.row.lt, fun k hk => by rw [hg0]; exact hr0.bk.lt' k hk⟩
  have k10 : (kind == 10) = false := beq_eq_false_iff_ne.2 hk
  clear hr0 hr hlen hrow hbx hat hnum hk
  go_enter Try.func44, Try.ntmps44
  go_wp2_with fail
  rw [← hw0, ← hg0]
  clear hw0 hg0
  go_region_held3 (fun w' => w'.cell? ⟨g0, 1, none⟩ = some (.int .i64 at_) ∧ w'.cell? ⟨gx, 1, none⟩ = some (.slice A0 N d0)) (first | exact ⟨b1, c1⟩)
    (first | (go_at_call 58; refine (within_any at_ (N - 1) w0.drew HAT.out (by omega)).mono ?_; rintro e w' ⟨⟨i, rfl, hil⟩, rfl⟩))
  have hil2 : i < es.length := by have := HNE.out; omega
  have hin : (i : Int) < (N : Int) := by omega
  have hi0 : (0 : Int) ≤ (i : Int) := by omega
  obtain ⟨x, hx⟩ : ∃ x, es[i]? = some x := ⟨_, List.getElem?_eq_getElem hil2⟩
  obtain ⟨gr, rr, gv, s⟩ := x
  obtain ⟨g, oo, d, g', oo', d', q1, q2, hg, hg', l0, l1, hgs, hgs'⟩ := HR.out.at_ hx
  have hmem := List.mem_of_getElem? hx
  obtain ⟨n1, n2, n3⟩ := HR.out.away hmem
  obtain ⟨p1, p2, _⟩ := HR.out.apart
  have N1 : Hid (g ∉ gr :: gv :: gx :: S) := Lib.hid fun hm => by
    simp only [List.mem_cons] at hm
    rcases hm with e | e | e | hm
    · exact n2 g hgs (by simp [Sn.blocks, e])
    · exact n2 g hgs (by simp [Sn.blocks, e])
    · exact p1 (by rw [← e]; exact hgs)
    · exact HR.out.sl g hgs hm
  have N2 : Hid (g' ∉ gr :: gv :: gx :: S) := Lib.hid fun hm => by
    simp only [List.mem_cons] at hm
    rcases hm with e | e | e | hm
    · exact n3 g' hgs' (by simp [Sn.blocks, e])
    · exact n3 g' hgs' (by simp [Sn.blocks, e])
    · exact p2 (by rw [← e]; exact hgs')
    · exact HR.out.sm g' hgs' hm
  have N3 : Hid (g0 ∉ gr :: gv :: gx :: S) := Lib.hid fun hm => by
    simp only [List.mem_cons] at hm
    rcases hm with e | e | e | hm
    · have := HW.out.1 _ hmem gr (by simp [Sn.blocks]); omega
    · have := HW.out.1 _ hmem gv (by simp [Sn.blocks]); omega
    · have := HW.out.2.1; omega
    · have := HW.out.2.2 g0 hm; omega
  injection q1 with q1 _ q1'
  injection q2 with q2 _ q2'
  subst q1 q1' q2 q2'
  simp only at l0 l1
  have hbd : Below w0.heap.size w0 w0.drew.drew := below_drewN (Below.refl w0.heap.size w0) 2
  have hrd := HR.out.drewN 2 hB0
  have hok := hrd.ok _ hmem
  have HSB := Lib.hid hok.2
  have hnb : bs.length = n := hrd.ib.1.len
  have hsl : s.b.length ≤ 70368744177664 := by have h2 : s.b = bs := hok.2; rw [h2, hnb]; exact hn
  have HTK := Lib.hid (takes_any gx B gr gv c rr A s ⟨kind, at_, nn, num, pa, pn, pc, t⟩ w0.drew.drew hok.1 hB0 HNUM.out hsl cs S hrd.bk ⟨fun hm => hrd.sb _ hmem gr (by simp [Sn.blocks]) hm, fun hm => hrd.sb _ hmem gv (by simp [Sn.blocks]) hm, fun k hk hm => hrd.sb _ hmem k (by simp [Sn.blocks, hk]) hm⟩ ⟨fun e => n1 (by simp [Sn.blocks, e]), fun e => n1 (by simp [Sn.blocks, e]), fun e => n1 (by simp [Sn.blocks, e])⟩ ⟨hrd.bs_.1, hrd.bs_.2.1⟩)
  have HX := Lib.hid hx
  clear hx hrd hok hil hil2 ew ek hmem n1 n2 n3 p1 p2 hgs hgs' hbd hnb
  go_wp2_with fail
  go_region_held3 (fun w' => w'.cell? ⟨gx, 1, none⟩ = some (.slice (some ⟨g, oo, none⟩) N d0) ∧ w'.cell? ⟨gx, 2, none⟩ = some (.slice (some ⟨g', oo', none⟩) N d0') ∧ w'.cell? ⟨g, oo + i, none⟩ = some (.pointer (some ⟨gr, 0, none⟩)) ∧ w'.cell? ⟨g', oo' + i, none⟩ = some (.pointer (some ⟨gv, 0, none⟩)) ∧ w'.cell? ⟨g0, 0, none⟩ = some (.int .i64 kind) ∧ w'.cell? ⟨g0, 1, none⟩ = some (.int .i64 at_) ∧ w'.cell? ⟨g0, 2, none⟩ = some (.int .u64 (nn : Nat)) ∧ w'.cell? ⟨g0, 3, none⟩ = some (.int .i64 num) ∧ w'.cell? ⟨g0, 4, none⟩ = some (.slice pa pn pc) ∧ w'.cell? ⟨g0, 5, none⟩ = some (.string t))
    (first | exact ⟨c1, c2, l0, l1, b0, b1, b2, b3, b4, b5⟩ | exact ⟨e1, e2, (chg_cell' HC5.out hg N1.out).trans l0, (chg_cell' HC5.out hg' N2.out).trans l1, (chg_cell' HC5.out hlt0 N3.out).trans b0, (chg_cell' HC5.out hlt0 N3.out).trans b1, (chg_cell' HC5.out hlt0 N3.out).trans b2, (chg_cell' HC5.out hlt0 N3.out).trans b3, (chg_cell' HC5.out hlt0 N3.out).trans b4, (chg_cell' HC5.out hlt0 N3.out).trans b5⟩)
    (first
      | (go_at_call 88; refine HTK.out.mono ?_; rintro e w5 ⟨rfl, s', cs', S', t1, t2, t3, t4, t5, t6⟩; have hr5 := Shf.step (w := w0.drewN 2) (HR.out.drewN 2 hB0) HX.out t1 t2 t3 t4 t5 (t6.trans HSB.out) hB0; have HR5 := Lib.hid hr5; have HC5 := Lib.hid t3; have hs5 := t3.size; have hs6 : s'.b = bs := t6.trans HSB.out; have hs7 : bs.length = n := hr5.ib.1.len; have HTD := Lib.hid (told_any B gr gv c rr A s' w5 t1 (Nat.le_trans hB0 hs5) (by rw [hs6, hs7]; exact hn)); obtain ⟨_, e1, e2, _, _, _⟩ := hr5.cells; rw [HNE.out] at e1 e2; clear t1 t2 t3 t4 t5 t6 hr5 hs6 hs7)
      | (go_at_call 45; refine HTD.out.mono ?_; rintro e w6 ⟨rfl, m6, rfl⟩))
  go_wp2_with fail
  go_ret
  refine ⟨rfl, ⟨_, _, _, _, _, _, _, HR5.out.drewN m6 (Nat.le_trans hB0 hs5), by rw [List.length_set]; exact HNE.out⟩, ?_⟩
  refine below_drewN (below_chg (a := w) (w := w0.drewN 2) (below_drewN (HBX.out.mono hB) 2) hB HC5.out fun x hx => ?_) m6
  have hmem := List.mem_of_getElem? HX.out
  simp only [List.mem_cons] at hx
  rcases hx with rfl | rfl | rfl | hx
  · exact HR.out.bs_.2.2.1 _ hmem _ (by simp [Sn.blocks])
  · exact HR.out.bs_.2.2.1 _ hmem _ (by simp [Sn.blocks])
  · exact HR.out.bs_.1
  · exact HR.out.bs_.2.1 x hx
theorem sstep_any (B gx n c N : Nat) (A : Option Addr) (bs : List Nat) (w : World) (h : SW w B gx A n c bs N) (hB : B ≤ w.heap.size) (hN : N ≤ 1000000) (h1 : 1 ≤ N) (hn : n ≤ 70368744177664) (o : OpA) (hat : -9223372036854775808 ≤ o.at_ ∧ o.at_ ≤ 9223372036854775807) (hnum : -9223372036854775808 ≤ o.num ∧ o.num ≤ 9223372036854775807) (h20 : N ≤ 20) :
    Calls Try.prog 44 #[.pointer (some ⟨gx, 0, none⟩), .agg #[.int .i64 o.kind, .int .i64 o.at_, .int .u64 (o.n : Nat), .int .i64 o.num, .slice o.pa o.pn o.pc, .string o.s]] w fun e w' => e = .returned (.bool true) ∧ (∃ N', SW w' B gx A n c bs N' ∧ 1 ≤ N' ∧ N' ≤ 20) ∧ Below B w w' := by
  by_cases hk : o.kind = 10
  · obtain ⟨kind, at_, nn, num, pa, pn, pc, t⟩ := o
    simp only at hk ⊢
    subst hk
    refine (sstep_new B gx n c N A bs w h hB hN hn at_ nn num pa pn pc t).mono ?_
    rintro e w' ⟨he, hq, hb⟩
    exact ⟨he, ⟨_, hq, by split <;> omega, by split <;> omega⟩, hb⟩
  · refine (sstep_old B gx n c N A bs w h hB hN h1 hn o hk hat hnum).mono ?_
    rintro e w' ⟨he, hq, hb⟩
    exact ⟨he, ⟨N, hq, h1, h20⟩, hb⟩
end Go.Proofs.Ytajkiglogfahfaa
