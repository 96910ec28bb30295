/- The walk of the law WordBack. -/
import Derived.Test.YtajkiglogfahfaaSteps
set_option linter.unusedVariables false
set_option linter.unusedSimpArgs false
namespace Go.Proofs.Ytajkiglogfahfaa
open Go.RowKit

theorem grown_chg {w w' : World} {row : Option Nat} (hg : w.grownBy w' row) : Chg row.toList w w' := ⟨hg.os, hg.tape, hg.output, hg.size, fun k hk hn => hg.block k hk (fun h => hn (by rw [← h]; simp))⟩
/-- the first loop: what has been laid, and the steps that laid it -/
structure BackInv (w wr : World) (gw : Nat) (A : Option Addr) (c : Nat) (ops L : List (OpA × List Nat)) (b : List Nat) (e : Nat) (k : Nat) : Prop where
  wr_ : ∃ rw, Wr wr gw rw ⟨b, e⟩ ∧ ∀ x ∈ rw.toList, w.heap.size ≤ x
  own_ : wr.ownsRow w.heap.size 54 6 (.slice A L.length c) L.length (cellsOf L)
  run_ : Wd.runW ⟨[], 0⟩ (opsOf L) = ⟨b, 0⟩
  ok_ : ∀ x ∈ L, x.1.Ok w x.2
  bel_ : Below w.heap.size w wr
  gw_ : w.heap.size ≤ gw
  few_ : L.length ≤ k + 1
  short_ : b.length ≤ 4 + ((ops.take k).map cost).sum
def abA : OpA := ⟨6, 0, 0, 0, none, 0, 0, ⟨#[97, 98]⟩⟩
theorem ab_op : Wd.W.op ⟨[], 0⟩ (abA.is []) = ⟨[2, 0, 97, 98], 0⟩ := by decide
theorem sum_take {ops : List (OpA × List Nat)} {k : Nat} {x : OpA × List Nat} (h : ops[k]? = some x) : ((ops.take (k + 1)).map cost).sum = ((ops.take k).map cost).sum + cost x := by
  have hk := (List.getElem?_eq_some_iff.1 h).1
  rw [List.take_succ_eq_append_getElem hk, (List.getElem?_eq_some_iff.1 h).2]
  simp
theorem sum_le (ops : List (OpA × List Nat)) (k : Nat) : ((ops.take k).map cost).sum ≤ (ops.map cost).sum := by
  have := congrArg (fun l => (l.map cost).sum) (List.take_append_drop k ops)
  simp only [List.map_append, List.sum_append] at this
  omega
theorem sum_len (ops : List (OpA × List Nat)) : 4097 * ops.length ≤ (ops.map cost).sum := by
  induction ops with
  | nil => simp
  | cons x r ih => simp only [List.length_cons, List.map_cons, List.sum_cons, cost]; omega
theorem op_cost (s : Wd.W) (o : OpA) (ps : List Nat) (hp : ps.length = o.pn) : (s.op (o.is ps)).b.length ≤ s.b.length + cost (o, ps) := by
  have := Wd.op_length s (o.is ps)
  unfold cost
  simp only [OpA.is, sb_len, hp] at this ⊢
  omega
set_option maxRecDepth 100000 in
set_option maxHeartbeats 4000000 in
theorem back_near (A : Option Addr) (m cm : Nat) (ops : List (OpA × List Nat)) (w : World) (hs : Scr w w.heap.size A m ops) (hbe : scrB 2147483647 ops = false) :
    Calls Try.prog 10 #[.slice A m cm] w fun e w' => e = .returned (.bool true) ∧ Below w.heap.size w w' := by
  have HS := Lib.hid hs
  have hsum := scrB_sum ops _ hbe
  have hlen := sum_len ops
  have hm := hs.len
  have hmx : m ≤ 524160 := by omega
  have HSUM := Lib.hid hsum
  have HBY := Lib.hid (scrbeyond_any A m cm ops w hs)
  rw [hbe] at HBY
  obtain ⟨i0, hi0, hz1, hz2, hz3⟩ := info_parts info54
  have HI0 := Lib.hid hi0; have HZ1 := Lib.hid hz1; have HZ2 := Lib.hid hz2; have HZ3 := Lib.hid hz3
  clear hs hbe hsum hlen hm hi0 hz1 hz2 hz3
  go_enter Try.func10, Try.ntmps10
  go_wp2_with fail
  refine HBY.out.mono ?_
  rintro e w1 ⟨rfl, hb⟩
  have b1 := Lib.hid hb
  clear hb HBY
  go_wp2_with fail
  refine (newwriter_any w1).mono ?_
  rintro e w2 ⟨rfl, hwr, hb⟩
  obtain ⟨gw, hgw⟩ : ∃ gw, gw = w1.heap.size := ⟨_, rfl⟩
  rw [← hgw] at hwr ⊢
  have b2 := Lib.hid (b1.out.trans (hb.mono b1.out.size))
  have hgw0 : w.heap.size ≤ gw := by rw [hgw]; exact b1.out.size
  have HWR := Lib.hid hwr
  clear hwr hb hgw b1
  go_wp2_with fail
  have hlaid := laid_any gw none ⟨[], 0⟩ abA [] w2 HWR.out ⟨isB_nil _ _, by decide, by decide, by decide, by decide, by decide⟩ (by simp [abA, ByteArray.size])
  rw [ab_op] at hlaid
  refine hlaid.mono ?_
  rintro e w3 ⟨rfl, rw, hwr, hch, hmv⟩
  have HG1 := Lib.hid (moved_ge (B := w.heap.size) hmv (by simp) b2.out.size)
  have b3 := Lib.hid (below_chg b2.out (Nat.le_refl _) hch (by simpa using hgw0))
  have HWR := Lib.hid hwr
  clear hwr hch hmv b2 hlaid
  go_wp2_with fail
  refine (wlen_any gw rw ⟨[2, 0, 97, 98], 0⟩ w3 HWR.out).mono ?_
  rintro e w4 ⟨rfl, rfl⟩
  have hown0 : (w3.alloc (.cells abA.cells.toArray 54)).ownsRow w.heap.size 54 6 (.slice (some ⟨w3.heap.size, 0, none⟩) 1 1) 1 (cellsOf [(abA, [])]) :=
    ⟨rfl, .inr ⟨w3.heap.size, 1, _, rfl, b3.out.size, Row.new w3 54 abA.cells, by omega, by decide, rfl, rfl⟩⟩
  have HI : Hid (BackInv w (w3.alloc (.cells abA.cells.toArray 54)) gw (some ⟨w3.heap.size, 0, none⟩) 1 ops [(abA, [])] [2, 0, 97, 98] 0 0) := Lib.hid {
    wr_ := ⟨rw, HWR.out.below ((Below.refl _ _).alloc (Nat.le_refl _) _), HG1.out⟩
    own_ := hown0, run_ := by simp [opsOf, Wd.runW, ab_op]
    ok_ := by intro x hx; simp at hx; subst hx; exact ⟨isB_nil _ _, by decide, by decide, by decide, by decide, by decide⟩
    bel_ := b3.out.alloc b3.out.size _, gw_ := hgw0, few_ := by simp, short_ := by simp }
  clear hown0 HWR HG1 b3
  go_wp2_with fail
  go_loopw [4, 5, 6] (fun v n i wr => ∃ (k ℓ nb : Nat) (L : List (OpA × List Nat)) (b : List Nat) (e : Nat) (A1 : Option Addr) (c1 : Nat), k ≤ m ∧ i = .int .i64 k ∧ v = .slice A1 ℓ c1 ∧ n = .int .i64 nb ∧ ℓ ≤ k + 1 ∧ Hid (ℓ = L.length) ∧ Hid (nb = b.length) ∧ Hid (BackInv w wr gw A1 c1 ops L b e k)) (fun _ _ i _ => m - (intOf i).toNat)
  case atStart => exact ⟨0, 1, 4, _, _, 0, _, _, by omega, rfl, rfl, rfl, by omega, Lib.hid rfl, Lib.hid rfl, HI⟩
  case round =>
    clear HI
    obtain ⟨k, ℓ, nb, L, b, e, A1, c1, hk, rfl, rfl, rfl, hlk, HLL, HNB, HI⟩ := hrel
    have hshort : b.length ≤ 4 + 2147483647 := by have := HI.out.short_; have := sum_le ops k; have := HSUM.out; omega
    by_cases hkm : k < m
    · obtain ⟨b0, off, o, ps, rfl, hbl, hop, HO, q0, q1, q2, q3, q4, q5⟩ := (HS.out.below HI.out.bel_).step HI.out.bel_.size hkm
      have HOP := Lib.hid hop
      have hcost : cost (o, ps) ≤ 2147483647 := by have := sum_take hop; have := sum_le ops (k + 1); have := HSUM.out; omega
      have hcs : o.pn + o.s.size ≤ cost (o, ps) := by unfold cost; simp only; omega
      have hsh2 : b.length + cost (o, ps) ≤ 4 + ((ops.take (k + 1)).map cost).sum := by have := sum_take hop; have := HI.out.short_; omega
      have HSH := Lib.hid hsh2
      have hlaid : ∃ rw, (∀ x ∈ rw.toList, w.heap.size ≤ x) ∧ Wr wr gw rw ⟨b, e⟩ ∧ Calls Try.prog 55 #[.pointer (some ⟨gw, 0, none⟩), o.val] wr fun e' w' => e' = .returned (.bool (decide ((Wd.W.op ⟨b, e⟩ (o.is ps)).e = 0))) ∧ ∃ r', Wr w' gw r' (Wd.W.op ⟨b, e⟩ (o.is ps)) ∧ Chg (gw :: rw.toList) wr w' ∧ Moved wr rw r' := by
        obtain ⟨rw, hwr, hrw⟩ := HI.out.wr_
        exact ⟨rw, hrw, hwr, laid_any gw rw ⟨b, e⟩ o ps wr hwr HO.out (by simp only; omega)⟩
      obtain ⟨rw, hrw, hwr, hlaid⟩ := hlaid
      have HRW := Lib.hid hrw; have HWR := Lib.hid hwr
      clear hrw hwr hop hcs hsh2
      by_cases he : (Wd.W.op ⟨b, e⟩ (o.is ps)).e = 0
      · have he0 : e = 0 := by
          rcases Nat.eq_zero_or_pos e with h | h
          · exact h
          · rw [Wd.op_no _ _ (by simp only; omega)] at he
            simp only at he; omega
        subst he0
        obtain ⟨b', hb'⟩ : ∃ b', Wd.W.op ⟨b, 0⟩ (o.is ps) = ⟨b', 0⟩ := by
          obtain ⟨s, hs⟩ : ∃ s, s = Wd.W.op ⟨b, 0⟩ (o.is ps) := ⟨_, rfl⟩
          rw [← hs] at he ⊢
          obtain ⟨x, y⟩ := s
          simp only at he
          subst he
          exact ⟨x, rfl⟩
        have hbl' : b'.length ≤ b.length + cost (o, ps) := by have := op_cost ⟨b, 0⟩ o ps HO.out.1.len; rw [hb'] at this; exact this
        rw [hb'] at hlaid
        have HL := Lib.hid hlaid
        have HB' := Lib.hid hb'
        clear hlaid he hb'
        go_wp2_with fail
        refine HL.out.mono ?_
        rintro e w5 ⟨rfl, rw5, hwr5, hch5, hmv5⟩
        have hb5 := below_chg HI.out.bel_ (Nat.le_refl _) hch5 (by intro x hx; rcases List.mem_cons.1 hx with h | h; (rw [h]; exact HI.out.gw_); (exact HRW.out x h))
        have hown5 := steps_wr HI.out.own_ HWR.out hch5
        rw [← HLL.out] at hown5
        obtain ⟨p0, p1, p2, p3, p4, p5⟩ := (HS.out.below hb5).cells_at HOP.out
        have HWR5 := Lib.hid hwr5; have HO5 := Lib.hid hown5; have HB5 := Lib.hid hb5
        have HRW5 := Lib.hid (moved_ge (B := w.heap.size) hmv5 HRW.out HI.out.bel_.size)
        clear hwr5 hch5 hmv5 hb5 hown5 q0 q1 q2 q3 q4 q5 HL
        go_wp2_with (at_builtin; refine wpList_append_sl _ rfl (.tmp 39) (.tmp 44) _ rfl w.heap.size 54 i0 _ 6 72 Try.underlying42 HI0.out HZ1.out HZ2.out HZ3.out rfl (by omega) (.slice A1 ℓ c1) ℓ (cellsOf L) rfl (HO5.out.alloc _) (w5.heap.size + 1) (some ⟨w5.heap.size, 0, none⟩) 1 1 o.cells rfl (reads_new (by omega) rfl) (one_cells o) (by unfold maxLen; omega) (by omega) (by have := HB5.out.size; simp; omega) ?_; intro A2 c2 w6 hown6 hrd6 hg6 hat6; have HO6 := Lib.hid hown6; have HG6 := Lib.hid hg6; clear hown6 hrd6 hg6 hat6)
        have hbx := (Below.refl w5.heap.size w5).alloc (Nat.le_refl _) (.cells o.cells.toArray 54)
        have hwr6 := wr_steps (HO5.out.alloc (.cells o.cells.toArray 54)) (by decide) (HWR5.out.below hbx) HG6.out
        have hb6 : Below w.heap.size w w6 := (HB5.out.trans (hbx.mono HB5.out.size)).grown HG6.out (by have := HB5.out.size; simp; omega) (fun k hk => (HO5.out.lt k hk).1)
        have HWR6 := Lib.hid hwr6; have HB6 := Lib.hid hb6
        clear hbx hwr6 hb6
        refine (wlen_any gw rw5 ⟨b', 0⟩ w6 HWR6.out).mono ?_
        simp only
        rintro e w7 ⟨rfl, rfl⟩
        obtain ⟨nb', hnb'⟩ : ∃ nb', nb' = b'.length := ⟨_, rfl⟩
        rw [← hnb']
        have HNB' := Lib.hid hnb'
        have HI6 : Hid (BackInv w w6 gw A2 c2 ops (L ++ [(o, ps)]) b' 0 (k + 1)) := Lib.hid {
          wr_ := ⟨rw5, HWR6.out, HRW5.out⟩
          own_ := by have := HO6.out; rw [List.length_append, List.length_singleton, ← HLL.out, cellsOf_snoc]; exact this
          run_ := by rw [opsOf_snoc, Wd.runW_snoc, HI.out.run_, HB'.out]
          ok_ := by
            intro x hx
            rcases List.mem_append.1 hx with h | h
            · exact HI.out.ok_ x h
            · simp at h; subst h
              exact ⟨((HS.out.ok _ (List.mem_of_getElem? HOP.out)).1), (HS.out.ok _ (List.mem_of_getElem? HOP.out)).2⟩
          bel_ := HB6.out, gw_ := HI.out.gw_
          few_ := by rw [List.length_append, List.length_singleton, ← HLL.out]; omega
          short_ := by have := HSH.out; omega }
        clear hnb'
        go_wp2_with fail
        go_roundw
        case rel => exact ⟨k + 1, ℓ + 1, nb', _, b', 0, A2, c2, by omega, by go_num, rfl, rfl, by omega, Lib.hid (by rw [List.length_append, List.length_singleton, ← HLL.out]), HNB', HI6⟩
        case measure => simp [intOf]; omega
      · have hb' : ∃ e2, Wd.W.op ⟨b, e⟩ (o.is ps) = ⟨b, e2⟩ ∧ e2 ≠ 0 := by
          rcases Nat.eq_zero_or_pos e with h | h
          · subst h; exact Wd.op_refused b _ he
          · exact ⟨e, Wd.op_no _ _ (by simp only; omega), by omega⟩
        obtain ⟨e2, hb', he2⟩ := hb'
        rw [hb'] at hlaid
        simp only at hlaid
        rw [decide_eq_false he2] at hlaid
        have HL := Lib.hid hlaid
        clear hlaid he hb' he2
        go_wp2_with fail
        refine HL.out.mono ?_
        rintro e' w5 ⟨rfl, rw5, hwr5, hch5, hmv5⟩
        have HI5 : Hid (BackInv w w5 gw A1 c1 ops L b e2 (k + 1)) := Lib.hid {
          wr_ := ⟨rw5, hwr5, moved_ge (B := w.heap.size) hmv5 HRW.out HI.out.bel_.size⟩
          own_ := steps_wr HI.out.own_ HWR.out hch5
          run_ := HI.out.run_, ok_ := HI.out.ok_
          bel_ := below_chg HI.out.bel_ (Nat.le_refl _) hch5 (by intro x hx; rcases List.mem_cons.1 hx with h | h; (rw [h]; exact HI.out.gw_); (exact HRW.out x h))
          gw_ := HI.out.gw_, few_ := by have := HI.out.few_; omega
          short_ := by have := HSH.out; omega }
        clear hwr5 hch5 hmv5
        go_wp2_with fail
        go_roundw
        case rel => exact ⟨k + 1, ℓ, nb, L, b, e2, A1, c1, by omega, by go_num, rfl, rfl, by omega, HLL, HNB, HI5⟩
        case measure => simp [intOf]; omega
    · have HWL : Hid (∃ rw, Wr wr gw rw ⟨b, e⟩) := Lib.hid (by obtain ⟨rw, h, _⟩ := HI.out.wr_; exact ⟨rw, h⟩)
      obtain ⟨rw, hwr⟩ := HWL.out
      have HWR := Lib.hid hwr
      have HWA := Lib.hid (wall_any gw rw ⟨b, e⟩ wr hwr (by simp only; omega))
      clear hwr HWL
      go_wp2_with fail
      refine HWA.out.mono ?_
      try simp only
      rw [← HNB.out]
      rintro e1 w5 ⟨⟨A2, c2, rfl, hown⟩, hb⟩
      have hnb : nb ≤ 2147483651 := by have := HNB.out; omega
      have HC2 : Hid (A2 = none → c2 = 0) := Lib.hid (own_isR (hown.mono (Nat.zero_le _)).1 hown.2.1).b.2
      have HB2 := Lib.hid hown.isB
      have HBEL := Lib.hid (HI.out.bel_.trans (hb.mono HI.out.bel_.size))
      have HWR := Lib.hid (HWR.out.below hb)
      have hownL := owns_below HI.out.own_ hb
      rw [← HLL.out] at hownL
      have HOWN := Lib.hid hownL
      clear hown hb HWA hownL
      go_wp2_with fail
      refine (newreader_any A2 nb c2 b w5 HB2.out (by omega) HC2.out).mono ?_
      rintro e2 w6 ⟨⟨gr, rr, rfl, hgr, hrr, hrd⟩, hb⟩
      have HRD := Lib.hid hrd
      have HBEL6 := Lib.hid (HBEL.out.trans (hb.mono HBEL.out.size))
      have HWR6 := Lib.hid (HWR.out.below hb)
      have HOWN6 := Lib.hid (owns_below HOWN.out hb)
      have hgrB : w.heap.size ≤ gr := Nat.le_trans HBEL.out.size hgr
      clear hrd hb hrr hgr HB2 HC2 HBEL HWR HOWN
      go_wp2_with fail
      refine (wlen_any gw rw ⟨b, e⟩ w6 HWR6.out).mono ?_
      try simp only
      rw [← HNB.out]
      rintro e3 w7 ⟨rfl, rfl⟩
      clear HWR6
      go_wp2_with fail
      go_loopw [8] (fun i wr => ∃ (j a : Nat), j ≤ ℓ ∧ i = .int .i64 j ∧ Hid (∃ c, c.length = a ∧ Wd.runW ⟨[], 0⟩ ((opsOf L).take j) = ⟨c, 0⟩) ∧ Hid (Rd wr gr rr ⟨b, a, 0⟩) ∧ Hid (wr.ownsRow w.heap.size 54 6 (.slice A1 ℓ c1) ℓ (cellsOf L)) ∧ Hid (Below w.heap.size w wr)) (fun i _ => ℓ - (intOf i).toNat)
      case atStart => exact ⟨0, 0, by omega, rfl, Lib.hid ⟨[], rfl, rfl⟩, HRD, HOWN6, HBEL6⟩
      case round =>
        clear HRD HOWN6 HBEL6
        obtain ⟨j, a, hj, rfl, HRUN, HRD, HOWN, HBEL⟩ := hrel
        by_cases hjl : j < ℓ
        · have hjL : j < L.length := by have := HLL.out; omega
          obtain ⟨o, ps, hop⟩ : ∃ o ps, L[j]? = some (o, ps) := ⟨_, _, List.getElem?_eq_getElem hjL⟩
          obtain ⟨c, hca, hrun⟩ := HRUN.out
          obtain ⟨c', o', hrun', hrop, hal, hcl⟩ := Wd.back_step (opsOf L) b (by intro x hx; obtain ⟨y, hy, rfl⟩ := List.mem_map.1 hx; exact (HI.out.ok_ y hy).op) HI.out.run_ j (o.is ps) (by simp [opsOf, hop]) c hrun
          rw [hca] at hrop
          obtain ⟨a', ha'⟩ : ∃ a', a' = c'.length := ⟨_, rfl⟩
          rw [← ha'] at hrop hcl
          have HRUN' : Hid (∃ c, c.length = a' ∧ Wd.runW ⟨[], 0⟩ ((opsOf L).take (j + 1)) = ⟨c, 0⟩) := Lib.hid ⟨c', ha'.symm, hrun'⟩
          have hok := (HI.out.ok_ _ (List.mem_of_getElem? hop)).below HBEL.out
          have hag : Calls Try.prog 57 #[.pointer (some ⟨gr, 0, none⟩), o.val] wr.drew fun e1 w' => ∃ (p : OpA) (qs : List Nat), e1 = .returned p.val ∧ p.Ok w' qs ∧ Wd.alike (o.is ps) (p.is qs) = true ∧ Rd w' gr rr ⟨b, a', 0⟩ ∧ Chg [gr] wr.drew w' := by
            refine (again_any gr rr ⟨b, a, 0⟩ o ps wr.drew (HRD.out.below (Below.refl _ _).drew) (hok.below (Below.refl _ _).drew) (by simp only; omega)).mono ?_
            rintro e1 w' ⟨p, qs, h1, h2, h3, h4, h5, h6⟩
            rw [hrop] at h3 h5
            simp only at h3 h5
            exact ⟨p, qs, h1, h2, by rw [h3]; exact hal, h5, h6⟩
          obtain ⟨g0, cc, hA1, hg0, q0, q1, q2, q3, q4, q5⟩ := own_steps HOWN.out hop
          injection hA1 with hA1 _ hcc
          subst hA1 hcc
          have HAG := Lib.hid hag; have HOK := Lib.hid hok; have HOP := Lib.hid hop
          clear hop hca hrun hrun' hrop hal hag hok ha' hcl
          go_wp2_with fail
          first | go_region_law (first
            | (go_simp; go_at_call 57; refine HAG.out.mono ?_; rintro e1 w7 ⟨p, qs, rfl, hpok, hal, hrd7, hch7⟩; have HRD7 := Lib.hid hrd7; have hb7 := below_chg HBEL.out.drew (Nat.le_refl _) hch7 (by simpa using hgrB); have HB7 := Lib.hid hb7; have hal7 := alike_any o p ps qs w7 ((HI.out.ok_ _ (List.mem_of_getElem? HOP.out)).below hb7) hpok; rw [hal] at hal7; have HALK := Lib.hid hal7; have HOWN7 := Lib.hid (steps_rd HOWN.out.drew (HRD.out.below (Below.refl _ _).drew) hch7); obtain ⟨r0, r1, r2, r3, r4, r5⟩ := own_cells HOWN7.out HOP.out; clear hpok hal hrd7 hch7 hb7 hal7)
            | (go_simp; go_at_call 56; refine HALK.out.mono ?_; rintro e1 w8 ⟨rfl, hb8⟩; have HB8 := Lib.hid hb8; have HERR := Lib.hid (rerr_any gr rr ⟨b, a', 0⟩ w8 (HRD7.out.below hb8)); clear hb8)
            | (go_simp; go_at_call 41; refine HERR.out.mono ?_; rintro e1 w9 ⟨rfl, rfl⟩)) | fail
          all_goals
            have HRD8 := Lib.hid (HRD7.out.below HB8.out)
            have HOWN8 := Lib.hid (owns_below HOWN7.out HB8.out)
            have HBEL8 := Lib.hid (HB7.out.trans (HB8.out.mono HB7.out.size))
            clear r0 r1 r2 r3 r4 r5 q0 q1 q2 q3 q4 q5
            go_wp2_with fail
            go_roundw
            case rel => exact ⟨j + 1, a', by omega, by go_num, HRUN', HRD8, HOWN8, HBEL8⟩
            case measure => simp [intOf]; omega
        · have HJ : Hid (j = ℓ) := Lib.hid (by omega)
          have hanb : a = nb := by
            obtain ⟨c, hca, hrun⟩ := HRUN.out
            rw [HJ.out, List.take_of_length_le (by have := HLL.out; simp [opsOf]; omega), HI.out.run_] at hrun
            injection hrun with h1 _
            rw [← hca, ← h1, HNB.out]
          subst hanb
          have HEND : Hid (Wd.R.end_ ⟨b, a, 0⟩ = 0) := Lib.hid (by unfold Wd.R.end_; have := HNB.out; simp; omega)
          have HZ : Hid (b.length - a = 0) := Lib.hid (by have := HNB.out; omega)
          go_wp2_with fail
          refine (rend_any gr rr ⟨b, a, 0⟩ wr HRD.out).mono ?_
          rw [HEND.out]
          rintro e1 w7 ⟨rfl, hrd7, hch7⟩
          have HRD7 := Lib.hid hrd7
          have HB7 := Lib.hid (below_chg HBEL.out (Nat.le_refl _) hch7 (by simp))
          clear hrd7 hch7
          go_wp2_with fail
          refine (rleft_any gr rr ⟨b, a, 0⟩ w7 HRD7.out).mono ?_
          try simp only
          rw [HZ.out]
          rintro e1 w8 ⟨rfl, hrd8, hch8⟩
          have HRD8 := Lib.hid hrd8
          have HB8 := Lib.hid (below_chg HB7.out (Nat.le_refl _) hch8 (by simp))
          clear hrd8 hch8
          go_wp2_with fail
          refine (rat_any gr rr ⟨b, a, 0⟩ w8 HRD8.out).mono ?_
          rintro e1 w9 ⟨rfl, rfl⟩
          go_wp2_with fail
          go_ret
          refine ⟨?_, HB8.out⟩
          go_simp
theorem back_far (A : Option Addr) (m cm : Nat) (ops : List (OpA × List Nat)) (w : World) (hs : Scr w w.heap.size A m ops) (hbe : scrB 2147483647 ops = true) :
    Calls Try.prog 10 #[.slice A m cm] w fun e w' => e = .returned (.bool true) ∧ Below w.heap.size w w' := by
  have HBY := Lib.hid (scrbeyond_any A m cm ops w hs)
  rw [hbe] at HBY
  clear hs hbe
  go_enter Try.func10, Try.ntmps10
  go_wp2_with fail
  refine HBY.out.mono ?_
  rintro e w1 ⟨rfl, hb⟩
  have b1 := Lib.hid hb
  clear hb HBY
  go_wp2_with fail
  go_ret
  exact ⟨rfl, b1.out⟩
theorem wordback_walk (A : Option Addr) (m cm : Nat) (ops : List (OpA × List Nat)) (w : World) (hs : Scr w w.heap.size A m ops) :
    Calls Try.prog 10 #[.slice A m cm] w fun e w' => e = .returned (.bool true) ∧ Below w.heap.size w w' := by
  cases hbe : scrB 2147483647 ops with
  | true => exact back_far A m cm ops w hs hbe
  | false => exact back_near A m cm ops w hs hbe
end Go.Proofs.Ytajkiglogfahfaa
