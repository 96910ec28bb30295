/- The walk of the law WordCuts. -/
import Derived.Test.YtajkiglogfahfaaBack
import Derived.Test.YtajkiglogfahfaaBurstA
set_option linter.unusedVariables false
set_option linter.unusedSimpArgs false
namespace Go.Proofs.Ytajkiglogfahfaa
open Go.RowKit

theorem own_wr {w w' : World} {base n gw size : Nat} {e : TypeId} {rw : Option Nat} {v : Value} {xs : List Value} {s : Wd.W} (h : w.ownsRow base e size v n xs) (he : e ≠ 5 ∧ e ≠ 108) (hw : Wr w gw rw s) (hc : Chg (gw :: rw.toList) w w') : w'.ownsRow base e size v n xs := by
  refine owns_chg h hc fun k hk hm => ?_
  obtain ⟨cur, hb⟩ := own_ne h k hk
  obtain ⟨A, c, hrow, hown, hob, _⟩ := hw
  rcases List.mem_cons.1 hm with rfl | hm
  · exact Blk.ne_ (cs' := #[.slice A s.b.length c, .int .i64 (s.e : Nat)]) hb hrow he.2 rfl
  · have : rw = some k := by simpa using hm
    obtain ⟨cur2, hb2⟩ := own_ne hown k (hob.trans this)
    exact Blk.ne_ hb hb2 he.1 rfl
theorem own_rd {w w' : World} {base n gr size : Nat} {e : TypeId} {rr : Option Nat} {v : Value} {xs : List Value} {s : Wd.R} (h : w.ownsRow base e size v n xs) (he : e ≠ 112) (hw : Rd w gr rr s) (hc : Chg [gr] w w') : w'.ownsRow base e size v n xs := by
  refine owns_chg h hc fun k hk hm => ?_
  obtain ⟨cur, hb⟩ := own_ne h k hk
  obtain ⟨A, c, hrow, _⟩ := hw
  have : k = gr := by simpa using hm
  subst this
  exact Blk.ne_ (cs' := #[.slice A s.b.length c, .int .i64 (s.at_ : Nat), .int .i64 (s.e : Nat)]) hb hrow he rfl
theorem own_own {w w' : World} {b1 b2 n1 n2 s1 s2 : Nat} {e1 e2 : TypeId} {v1 v2 : Value} {x1 x2 : List Value} (h1 : w.ownsRow b1 e1 s1 v1 n1 x1) (h2 : w.ownsRow b2 e2 s2 v2 n2 x2) (he : e1 ≠ e2) (hg : w.grownBy w' v2.ownBlock) : w'.ownsRow b1 e1 s1 v1 n1 x1 := by
  refine h1.kept hg ?_
  rcases hv : v1.ownBlock with _ | k
  · exact .inl rfl
  · refine .inr fun hk => ?_
    obtain ⟨c1, hb1⟩ := own_ne h1 k hv
    obtain ⟨c2, hb2⟩ := own_ne h2 k hk.symm
    exact Blk.ne_ hb1 hb2 he rfl
theorem own_int {w : World} {base n g c : Nat} {E : List Nat} (h : w.ownsRow base 3 1 (.slice (some ⟨g, 0, none⟩) n c) n (E.map i64)) {k x : Nat} (hk : E[k]? = some x) : w.cell? ⟨g, k, none⟩ = some (.int .i64 (x : Nat)) := by
  have h1 := h.cells (g := g) rfl k (i64 x) (by rw [List.getElem?_map, hk]; rfl)
  have e : (⟨g, 0, none⟩ : Addr).add k = ⟨g, k, none⟩ := by unfold Addr.add; split <;> simp_all
  rw [e] at h1
  exact h1
theorem own_some {w : World} {base n c size : Nat} {e : TypeId} {A : Option Addr} {xs : List Value} (h : w.ownsRow base e size (.slice A n c) n xs) (hn : 0 < n) : ∃ g, A = some ⟨g, 0, none⟩ := by
  rcases h.2 with ⟨_, h0⟩ | ⟨g, cap, cur, hv, _⟩
  · omega
  · injection hv with hA
    exact ⟨g, hA⟩
theorem info3 : (Try.prog.info? 3).map (fun i => (i.zero, i.size, i.bytes)) = some (some (.int .i64 0), 1, 8) := by kernel_rfl
theorem reads_one {w : World} {t : TypeId} {u : Value} {B : Nat} (hB : w.heap.size < B) : Reads (w.alloc (.cells #[u] t)) B 1 (some ⟨w.heap.size, 0, none⟩) 1 [u] := by
  refine ⟨rfl, fun _ => ⟨_, rfl, hB, fun j x hx => ?_⟩⟩
  have e : (⟨w.heap.size, 0, none⟩ : Addr).add j = ⟨w.heap.size, j, none⟩ := by unfold Addr.add; split <;> simp_all
  rw [e, (Row.new w t [u]).cell, hx]
/-- the first loop -/
structure CutInv (w wr : World) (gw : Nat) (A : Option Addr) (c : Nat) (A2 : Option Addr) (c2 : Nat) (ops L : List (OpA × List Nat)) (E : List Nat) (b : List Nat) (e : Nat) (k : Nat) : Prop where
  wr_ : ∃ rw, Wr wr gw rw ⟨b, e⟩ ∧ ∀ x ∈ rw.toList, w.heap.size ≤ x
  own_ : wr.ownsRow w.heap.size 54 6 (.slice A L.length c) L.length (cellsOf L)
  ends_ : wr.ownsRow w.heap.size 3 1 (.slice A2 L.length c2) L.length (E.map i64)
  run_ : Wd.runW ⟨[], 0⟩ (opsOf L) = ⟨b, 0⟩
  ok_ : ∀ x ∈ L, x.1.Ok w x.2
  bel_ : Below w.heap.size w wr
  gw_ : w.heap.size ≤ gw
  few_ : L.length ≤ k + 1
  short_ : b.length ≤ 2 + ((ops.take k).map cost).sum
  each_ : ∀ i, i < L.length → ∃ d, Wd.runW ⟨[], 0⟩ ((opsOf L).take (i + 1)) = ⟨d, 0⟩ ∧ E[i]? = some d.length
  some_ : 0 < L.length
  two_ : 2 ≤ b.length
theorem CutInv.elen {w wr : World} {gw : Nat} {A A2 : Option Addr} {c c2 : Nat} {ops L : List (OpA × List Nat)} {E b : List Nat} {e k : Nat} (h : CutInv w wr gw A c A2 c2 ops L E b e k) : E.length = L.length := by have := h.ends_.1; simpa using this
theorem CutInv.last {w wr : World} {gw : Nat} {A A2 : Option Addr} {c c2 : Nat} {ops L : List (OpA × List Nat)} {E b : List Nat} {e k : Nat} (h : CutInv w wr gw A c A2 c2 ops L E b e k) : E[L.length - 1]? = some b.length := by
  have h0 := h.some_
  obtain ⟨d, h1, h2⟩ := h.each_ (L.length - 1) (by omega)
  rw [show L.length - 1 + 1 = L.length by omega, List.take_of_length_le (by simp [opsOf]), h.run_] at h1
  injection h1 with h1 _
  rw [h2, ← h1]
theorem IsB.cut_ {w : World} {B n m : Nat} {A : Option Addr} {bs : List Nat} (h : IsB w B A n bs) (hm : m ≤ n) : IsB w B A m (bs.take m) := by
  obtain ⟨⟨h1, h2⟩, h3, h4⟩ := h
  refine ⟨⟨by simp at h1 ⊢; omega, fun h0 => ?_⟩, fun b hb => h3 b (List.mem_of_mem_take hb), by omega⟩
  obtain ⟨a, hA, hlt, hc⟩ := h2 (by omega)
  refine ⟨a, hA, hlt, fun j u hj => hc j u ?_⟩
  rw [List.map_take, List.getElem?_take] at hj
  split at hj
  · exact hj
  · cases hj
theorem Own.cap {w : World} {base n c : Nat} {A : Option Addr} {bs : List Nat} (h : Own w base A n c bs) : n ≤ c ∧ c ≤ maxLen := by
  rcases h.1.2 with ⟨hv, h0⟩ | ⟨g, cap, cur, hv, _, _, hnc, hcm, _⟩
  · injection hv with _ _ hc; subst hc h0; exact ⟨by omega, by unfold maxLen; omega⟩
  · injection hv with _ _ hc; subst hc; exact ⟨hnc, hcm⟩
def halfA : OpA := ⟨2, 0, 7, 0, none, 0, 0, ⟨#[]⟩⟩
theorem half_op : Wd.W.op ⟨[], 0⟩ (halfA.is []) = ⟨[7, 0], 0⟩ := by decide
theorem cut_each {L : List (OpA × List Nat)} {E b b' : List Nat} {o : OpA} {ps : List Nat} {nb' : Nat} (h : ∀ i, i < L.length → ∃ d, Wd.runW ⟨[], 0⟩ ((opsOf L).take (i + 1)) = ⟨d, 0⟩ ∧ E[i]? = some d.length) (hE : E.length = L.length) (hrun : Wd.runW ⟨[], 0⟩ (opsOf L) = ⟨b, 0⟩) (ho : Wd.W.op ⟨b, 0⟩ (o.is ps) = ⟨b', 0⟩) (hn : nb' = b'.length) :
    ∀ i, i < (L ++ [(o, ps)]).length → ∃ d, Wd.runW ⟨[], 0⟩ ((opsOf (L ++ [(o, ps)])).take (i + 1)) = ⟨d, 0⟩ ∧ (E ++ [nb'])[i]? = some d.length := by
  intro i hi
  rw [opsOf_snoc]
  have hol : (opsOf L).length = L.length := by simp [opsOf]
  by_cases hil : i < L.length
  · obtain ⟨d, h1, h2⟩ := h i hil
    exact ⟨d, by rw [List.take_append_of_le_length (by omega)]; exact h1, by rw [List.getElem?_append_left (by omega)]; exact h2⟩
  · have : i = L.length := by simp at hi; omega
    subst this
    refine ⟨b', ?_, ?_⟩
    · rw [List.take_of_length_le (by simp [hol]), Wd.runW_snoc, hrun]; exact ho
    · rw [List.getElem?_append_right (by omega), hE, Nat.sub_self, hn]; rfl
set_option maxRecDepth 100000 in
set_option maxHeartbeats 8000000 in
theorem cuts_near (A : Option Addr) (m cm : Nat) (ops : List (OpA × List Nat)) (at_ : Int) (w : World) (hat : -9223372036854775808 ≤ at_ ∧ at_ ≤ 9223372036854775807) (hs : Scr w w.heap.size A m ops) (hbe : scrB 2147483647 ops = false) :
    Calls Try.prog 11 #[.slice A m cm, .int .i64 at_] w fun e w' => e = .returned (.bool true) ∧ Below w.heap.size w w' := by
  have HS := Lib.hid hs
  have HAT := Lib.hid hat
  have hsum := scrB_sum ops _ hbe
  have hlen := sum_len ops
  have hm := hs.len
  have hmx : m ≤ 524160 := by omega
  have HSUM := Lib.hid hsum
  have HBY := Lib.hid (scrbeyond_any A m cm ops w hs)
  rw [hbe] at HBY
  obtain ⟨i0, hi0, hz1, hz2, hz3⟩ := info_parts info54
  have HI0 := Lib.hid hi0; have HZ1 := Lib.hid hz1; have HZ2 := Lib.hid hz2; have HZ3 := Lib.hid hz3
  obtain ⟨i3, hi3, hy1, hy2, hy3⟩ := info_parts info3
  have HI3 := Lib.hid hi3; have HY1 := Lib.hid hy1; have HY2 := Lib.hid hy2; have HY3 := Lib.hid hy3
  clear hs hbe hsum hlen hm hi0 hz1 hz2 hz3 hi3 hy1 hy2 hy3 hat
  go_enter Try.func11, Try.ntmps11
  go_wp2_with fail
  refine HBY.out.mono ?_
  rintro e w1 ⟨rfl, hb⟩
  have b1 := Lib.hid hb
  clear hb HBY
  go_wp2_with fail
  refine (newwriter_any w1).mono ?_
  rintro e w2 ⟨rfl, hwr, hb⟩
  obtain ⟨gw, hgw⟩ : ∃ gw, gw = w1.heap.size := ⟨_, rfl⟩
  rw [← hgw] at hwr ⊢
  have b2 := Lib.hid (b1.out.trans (hb.mono b1.out.size))
  have hgw0 : w.heap.size ≤ gw := by rw [hgw]; exact b1.out.size
  have HWR := Lib.hid hwr
  clear hwr hb hgw b1
  go_wp2_with fail
  have hlaid := laid_any gw none ⟨[], 0⟩ halfA [] w2 HWR.out ⟨isB_nil _ _, by decide, by decide, by decide, by decide, by decide⟩ (by simp [halfA, ByteArray.size])
  rw [half_op] at hlaid
  refine hlaid.mono ?_
  rintro e w3 ⟨rfl, rw, hwr, hch, hmv⟩
  have HG1 := Lib.hid (moved_ge (B := w.heap.size) hmv (by simp) b2.out.size)
  have b3 := Lib.hid (below_chg b2.out (Nat.le_refl _) hch (by simpa using hgw0))
  have HWR := Lib.hid hwr
  clear hwr hch hmv b2 hlaid
  go_wp2_with fail
  refine (wlen_any gw rw ⟨[7, 0], 0⟩ w3 HWR.out).mono ?_
  rintro e w4 ⟨rfl, rfl⟩
  have hbx := ((Below.refl w3.heap.size w3).alloc (Nat.le_refl _) (.cells halfA.cells.toArray 54)).alloc (by simp) (.cells #[.int .i64 2] 3)
  have hown0 : ((w3.alloc (.cells halfA.cells.toArray 54)).alloc (.cells #[.int .i64 2] 3)).ownsRow w.heap.size 54 6 (.slice (some ⟨w3.heap.size, 0, none⟩) 1 1) 1 (cellsOf [(halfA, [])]) :=
    ⟨rfl, .inr ⟨w3.heap.size, 1, _, rfl, b3.out.size, (Row.new w3 54 halfA.cells).alloc _, by omega, by decide, rfl, rfl⟩⟩
  have hrow2 : Row ((w3.alloc (.cells halfA.cells.toArray 54)).alloc (.cells #[.int .i64 2] 3)) (w3.heap.size + 1) 3 [.int .i64 2] := by
    have := Row.new (w3.alloc (.cells halfA.cells.toArray 54)) 3 [.int .i64 2]
    simpa using this
  have hown2 : ((w3.alloc (.cells halfA.cells.toArray 54)).alloc (.cells #[.int .i64 2] 3)).ownsRow w.heap.size 3 1 (.slice (some ⟨w3.heap.size + 1, 0, none⟩) 1 1) 1 ([2].map i64) :=
    ⟨rfl, .inr ⟨w3.heap.size + 1, 1, _, rfl, by have := b3.out.size; omega, hrow2, by omega, by decide, rfl, rfl⟩⟩
  have HI : Hid (CutInv w ((w3.alloc (.cells halfA.cells.toArray 54)).alloc (.cells #[.int .i64 2] 3)) gw (some ⟨w3.heap.size, 0, none⟩) 1 (some ⟨w3.heap.size + 1, 0, none⟩) 1 ops [(halfA, [])] [2] [7, 0] 0 0) := Lib.hid {
    wr_ := ⟨rw, HWR.out.below hbx, HG1.out⟩
    own_ := hown0, ends_ := hown2, run_ := by simp [opsOf, Wd.runW, half_op]
    ok_ := by intro x hx; simp at hx; subst hx; exact ⟨isB_nil _ _, by decide, by decide, by decide, by decide, by decide⟩
    bel_ := b3.out.trans (hbx.mono b3.out.size), gw_ := hgw0, few_ := by simp, short_ := by simp
    each_ := by intro i hi; obtain rfl : i = 0 := by simpa using hi
                exact ⟨[7, 0], by simp [opsOf, Wd.runW, half_op], rfl⟩
    some_ := by simp, two_ := by simp }
  clear hown0 hown2 hrow2 hbx HWR HG1 b3
  go_wp2_with fail
  go_loopw [6, 7, 8] (fun v u i wr => ∃ (k q : Nat) (L : List (OpA × List Nat)) (E b : List Nat) (e : Nat) (A1 : Option Addr) (c1 : Nat) (A2 : Option Addr) (c2 : Nat), k ≤ m ∧ i = .int .i64 k ∧ v = .slice A1 (q + 1) c1 ∧ u = .slice A2 (q + 1) c2 ∧ q ≤ k ∧ Hid (q + 1 = L.length) ∧ Hid (CutInv w wr gw A1 c1 A2 c2 ops L E b e k)) (fun _ _ i _ => m - (intOf i).toNat)
  case atStart => exact ⟨0, 0, _, _, _, 0, _, _, _, _, by omega, rfl, rfl, rfl, by omega, Lib.hid rfl, HI⟩
  case round =>
    clear HI
    obtain ⟨k, q, L, E, b, e, A1, c1, A2, c2, hk, rfl, rfl, rfl, hlk, HLL, HI⟩ := hrel
    have hshort : b.length ≤ 2 + 2147483647 := by have := HI.out.short_; have := sum_le ops k; have := HSUM.out; omega
    by_cases hkm : k < m
    · obtain ⟨b0, off, o, ps, rfl, hbl, hop, HO, q0, q1, q2, q3, q4, q5⟩ := (HS.out.below HI.out.bel_).step HI.out.bel_.size hkm
      have HOP := Lib.hid hop
      have hcost : cost (o, ps) ≤ 2147483647 := by have := sum_take hop; have := sum_le ops (k + 1); have := HSUM.out; omega
      have hcs : o.pn + o.s.size ≤ cost (o, ps) := by unfold cost; simp only; omega
      have hsh2 : b.length + cost (o, ps) ≤ 2 + ((ops.take (k + 1)).map cost).sum := by have := sum_take hop; have := HI.out.short_; omega
      have HSH := Lib.hid hsh2
      have hlaid : ∃ rw, (∀ x ∈ rw.toList, w.heap.size ≤ x) ∧ Wr wr gw rw ⟨b, e⟩ ∧ Calls Try.prog 55 #[.pointer (some ⟨gw, 0, none⟩), o.val] wr.drew fun e' w' => e' = .returned (.bool (decide ((Wd.W.op ⟨b, e⟩ (o.is ps)).e = 0))) ∧ ∃ r', Wr w' gw r' (Wd.W.op ⟨b, e⟩ (o.is ps)) ∧ Chg (gw :: rw.toList) wr w' ∧ Moved wr rw r' := by
        obtain ⟨rw, hwr, hrw⟩ := HI.out.wr_
        refine ⟨rw, hrw, hwr, (laid_any gw rw ⟨b, e⟩ o ps wr.drew (hwr.below (Below.refl _ _).drew) (HO.out.below (Below.refl _ _).drew) (by simp only; omega)).mono ?_⟩
        rintro e' w' ⟨h1, r', h2, h3, h4⟩
        exact ⟨h1, r', h2, ⟨h3.os, h3.tape, h3.output, h3.size, h3.block⟩, h4⟩
      obtain ⟨rw, hrw, hwr, hlaid⟩ := hlaid
      have HRW := Lib.hid hrw; have HWR := Lib.hid hwr
      have HO2 := Lib.hid HI.out.own_; have HO3 := Lib.hid HI.out.ends_
      rw [← HLL.out] at HO2 HO3
      clear hrw hwr hop hcs hsh2
      by_cases he : (Wd.W.op ⟨b, e⟩ (o.is ps)).e = 0
      · have he0 : e = 0 := by
          rcases Nat.eq_zero_or_pos e with h | h
          · exact h
          · rw [Wd.op_no _ _ (by simp only; omega)] at he
            simp only at he; omega
        subst he0
        have hbb : ∀ x ∈ b, x < 256 := by obtain ⟨_, _, _, _, _, h⟩ := HWR.out; exact h
        obtain ⟨x, hx, hxb, _⟩ := Wd.op_lays b (o.is ps) hbb HO.out.op he
        obtain ⟨b', hb'⟩ : ∃ b', b' = b ++ x := ⟨_, rfl⟩
        rw [← hb'] at hx
        have hbl' : b'.length ≤ b.length + cost (o, ps) := by have := op_cost ⟨b, 0⟩ o ps HO.out.1.len; rw [hx] at this; exact this
        have hbge : b.length ≤ b'.length := by rw [hb']; simp
        have HSAME : Hid (b'.length = b.length → b' = b) := Lib.hid (fun h => by rw [hb'] at h ⊢; simp at h; subst h; simp)
        rw [hx] at hlaid
        simp only [decide_true] at hlaid
        have HL := Lib.hid hlaid
        have HB' := Lib.hid hx
        have HLAST := Lib.hid HI.out.last
        have hsm : L.length - 1 = q := by have := HLL.out; omega
        rw [hsm] at HLAST
        obtain ⟨g2, hg2⟩ := own_some HO3.out (by omega)
        subst hg2
        obtain ⟨nb, hnb⟩ : ∃ nb, nb = b.length := ⟨_, rfl⟩
        obtain ⟨nb', hnb'⟩ : ∃ nb', nb' = b'.length := ⟨_, rfl⟩
        rw [← hnb, ← hnb'] at hbge
        rw [← hnb] at HLAST
        have HNB := Lib.hid hnb; have HNB' := Lib.hid hnb'
        have hbnd : nb' ≤ 4294967296 := by omega
        clear hlaid he hx hb' hbb hxb hsm hnb hnb'
        have hqq : (q : Int) < (q : Int) + 1 := by omega
        have ew : IntKind.i64.wrap (q : Int) = (q : Int) := by rw [IntKind.wrap_i64]; omega
        by_cases hlt : nb < nb'
        · have hd : decide ((nb : Int) < (nb' : Int)) = true := by simp; omega
          have hd2 : decide (nb < nb') = true := by simpa using hlt
          go_wp2_with fail
          first | go_region_law (first
            | (go_simp; go_at_call 55; refine HL.out.mono ?_; rintro e w5 ⟨rfl, rw5, hwr5, hch5, hmv5⟩; have HO5 := Lib.hid (steps_wr HO2.out HWR.out hch5); have HE5 := Lib.hid (own_wr HO3.out (by decide) HWR.out hch5); have p := own_int HE5.out HLAST.out; have HWL := Lib.hid (wlen_any gw rw5 ⟨b', 0⟩ w5 hwr5); rw [← HNB'.out] at HWL; have HWR5 := Lib.hid hwr5; have HCH5 := Lib.hid hch5; have HMV5 := Lib.hid hmv5; clear hwr5 hch5 hmv5)
            | (go_simp; go_at_call 48; refine HWL.out.mono ?_; rintro e w6 ⟨rfl, rfl⟩)) | fail
          all_goals
            clear ew
            have hb5 := below_chg HI.out.bel_ (Nat.le_refl _) HCH5.out (by intro x hx; rcases List.mem_cons.1 hx with h | h; (rw [h]; exact HI.out.gw_); (exact HRW.out x h))
            have HB5 := Lib.hid hb5
            have HRW5 := Lib.hid (moved_ge (B := w.heap.size) HMV5.out HRW.out HI.out.bel_.size)
            obtain ⟨p0, p1, p2, p3, p4, p5⟩ := (HS.out.below hb5).cells_at HOP.out
            clear hb5 q0 q1 q2 q3 q4 q5 HL
            go_wp2_with (at_builtin; refine wpList_append_sl _ rfl (.tmp 57) (.tmp 62) _ rfl w.heap.size 54 i0 _ 6 72 Try.underlying42 HI0.out HZ1.out HZ2.out HZ3.out rfl (by omega) (.slice A1 (q + 1) c1) (q + 1) (cellsOf L) rfl (HO5.out.alloc _) (w5.heap.size + 1) (some ⟨w5.heap.size, 0, none⟩) 1 1 o.cells rfl (reads_new (by omega) rfl) (one_cells o) (by unfold maxLen; omega) (by omega) (by have := HB5.out.size; simp; omega) ?_; intro A3 c3 w6 hown6 hrd6 hg6 hat6; have HO6 := Lib.hid hown6; have HG6 := Lib.hid hg6; clear hown6 hrd6 hg6 hat6)
            have hbx := (Below.refl w5.heap.size w5).alloc (Nat.le_refl _) (.cells o.cells.toArray 54)
            have hwr6 := wr_steps (HO5.out.alloc (.cells o.cells.toArray 54)) (by decide) (HWR5.out.below hbx) HG6.out
            have hb6 : Below w.heap.size w w6 := (HB5.out.trans (hbx.mono HB5.out.size)).grown HG6.out (by have := HB5.out.size; simp; omega) (fun k hk => (HO5.out.lt k hk).1)
            have HE6 := Lib.hid (own_own (HE5.out.alloc (.cells o.cells.toArray 54)) (HO5.out.alloc (.cells o.cells.toArray 54)) (by decide) HG6.out)
            have HWR6 := Lib.hid hwr6; have HB6 := Lib.hid hb6
            clear hbx hwr6 hb6
            refine (wlen_any gw rw5 ⟨b', 0⟩ w6 HWR6.out).mono ?_
            try simp only
            rw [← HNB'.out]
            rintro e w7 ⟨rfl, rfl⟩
            go_wp2_with (at_builtin; refine wpList_append_sl _ rfl (.tmp 64) (.tmp 67) _ rfl w.heap.size 3 i3 _ 1 8 Try.underlying88 HI3.out HY1.out HY2.out HY3.out rfl (by omega) (.slice (some ⟨g2, 0, none⟩) (q + 1) c2) (q + 1) (E.map i64) rfl (HE6.out.alloc _) (w6.heap.size + 1) (some ⟨w6.heap.size, 0, none⟩) 1 1 [i64 nb'] rfl (reads_one (by omega)) (by simp [i64, Value.oneCell']) (by unfold maxLen; omega) (by omega) (by have := HB6.out.size; simp; omega) ?_; intro A4 c4 w7 hown7 hrd7 hg7 hat7; have HE7 := Lib.hid hown7; have HG7 := Lib.hid hg7; clear hown7 hrd7 hg7 hat7)
            have hbx := (Below.refl w6.heap.size w6).alloc (Nat.le_refl _) (.cells [i64 nb'].toArray 3)
            have hwr7 := wr_steps (HE6.out.alloc (.cells [i64 nb'].toArray 3)) (by decide) (HWR6.out.below hbx) HG7.out
            have hb7 : Below w.heap.size w w7 := (HB6.out.trans (hbx.mono HB6.out.size)).grown HG7.out (by have := HB6.out.size; simp; omega) (fun k hk => (HE6.out.lt k hk).1)
            have hO7 := own_own (HO6.out.alloc (.cells [i64 nb'].toArray 3)) (HE6.out.alloc (.cells [i64 nb'].toArray 3)) (by decide) HG7.out
            have HI7 : Hid (CutInv w w7 gw A3 c3 A4 c4 ops (L ++ [(o, ps)]) (E ++ [nb']) b' 0 (k + 1)) := Lib.hid {
              wr_ := ⟨rw5, hwr7, HRW5.out⟩
              own_ := by rw [List.length_append, List.length_singleton, ← HLL.out, cellsOf_snoc]; exact hO7
              ends_ := by have := HE7.out; rw [List.length_append, List.length_singleton, ← HLL.out, List.map_append]; exact this
              run_ := by rw [opsOf_snoc, Wd.runW_snoc, HI.out.run_, HB'.out]
              ok_ := by
                intro x hx
                rcases List.mem_append.1 hx with h | h
                · exact HI.out.ok_ x h
                · simp at h; subst h
                  exact ⟨((HS.out.ok _ (List.mem_of_getElem? HOP.out)).1), (HS.out.ok _ (List.mem_of_getElem? HOP.out)).2⟩
              bel_ := hb7, gw_ := HI.out.gw_
              few_ := by rw [List.length_append, List.length_singleton, ← HLL.out]; omega
              short_ := by have := HSH.out; omega
              each_ := cut_each HI.out.each_ HI.out.elen HI.out.run_ HB'.out HNB'.out
              some_ := by simp
              two_ := by have := HI.out.two_; have := HNB.out; have := HNB'.out; omega }
            clear hbx hwr7 hb7 hO7
            go_wp2_with fail
            go_roundw
            case rel => exact ⟨k + 1, q + 1, _, _, b', 0, A3, c3, A4, c4, by omega, by go_num, rfl, rfl, by omega, Lib.hid (by rw [List.length_append, List.length_singleton, ← HLL.out]), HI7⟩
            case measure => simp [intOf]; omega
        · have hd : decide ((nb : Int) < (nb' : Int)) = false := by simp; omega
          have hd2 : decide (nb < nb') = false := by simpa using hlt
          have HSB : Hid (b' = b) := Lib.hid (HSAME.out (by have := HNB.out; have := HNB'.out; omega))
          go_wp2_with fail
          first | go_region_law (first
            | (go_simp; go_at_call 55; refine HL.out.mono ?_; rintro e w5 ⟨rfl, rw5, hwr5, hch5, hmv5⟩; have HO5 := Lib.hid (steps_wr HO2.out HWR.out hch5); have HE5 := Lib.hid (own_wr HO3.out (by decide) HWR.out hch5); have p := own_int HE5.out HLAST.out; have HWL := Lib.hid (wlen_any gw rw5 ⟨b', 0⟩ w5 hwr5); rw [← HNB'.out] at HWL; have HWR5 := Lib.hid hwr5; have HCH5 := Lib.hid hch5; have HMV5 := Lib.hid hmv5; clear hwr5 hch5 hmv5)
            | (go_simp; go_at_call 48; refine HWL.out.mono ?_; rintro e w6 ⟨rfl, rfl⟩)) | fail
          all_goals
            clear ew
            have hb5 := below_chg HI.out.bel_ (Nat.le_refl _) HCH5.out (by intro x hx; rcases List.mem_cons.1 hx with h | h; (rw [h]; exact HI.out.gw_); (exact HRW.out x h))
            have HB5 := Lib.hid hb5
            have HRW5 := Lib.hid (moved_ge (B := w.heap.size) HMV5.out HRW.out HI.out.bel_.size)
            have HI5 : Hid (CutInv w w5 gw A1 c1 (some ⟨g2, 0, none⟩) c2 ops L E b 0 (k + 1)) := Lib.hid {
              wr_ := ⟨rw5, by have := HWR5.out; rwa [HSB.out] at this, HRW5.out⟩
              own_ := by rw [← HLL.out]; exact HO5.out
              ends_ := by rw [← HLL.out]; exact HE5.out
              run_ := HI.out.run_, ok_ := HI.out.ok_, bel_ := HB5.out, gw_ := HI.out.gw_, few_ := by have := HI.out.few_; omega
              short_ := by have := HSH.out; omega
              each_ := HI.out.each_, some_ := HI.out.some_, two_ := HI.out.two_ }
            clear hb5 q0 q1 q2 q3 q4 q5 HL p
            go_wp2_with fail
            go_roundw
            case rel => exact ⟨k + 1, q, L, E, b, 0, A1, c1, _, c2, by omega, by go_num, rfl, rfl, by omega, HLL, HI5⟩
            case measure => simp [intOf]; omega
      · have hb' : ∃ e2, Wd.W.op ⟨b, e⟩ (o.is ps) = ⟨b, e2⟩ ∧ e2 ≠ 0 := by
          rcases Nat.eq_zero_or_pos e with h | h
          · subst h; exact Wd.op_refused b _ he
          · exact ⟨e, Wd.op_no _ _ (by simp only; omega), by omega⟩
        obtain ⟨e2, hb', he2⟩ := hb'
        rw [hb'] at hlaid
        simp only at hlaid
        rw [decide_eq_false he2] at hlaid
        have HL := Lib.hid hlaid
        clear hlaid he hb' he2
        go_wp2_with fail
        first | go_region_law (first
          | (rename_i KK hKK; go_simp; go_at_call 55; refine HL.out.mono ?_; rintro e' w5 ⟨rfl, rw5, hwr5, hch5, hmv5⟩; have HO5 := Lib.hid (steps_wr HO2.out HWR.out hch5); have HE5 := Lib.hid (own_wr HO3.out (by decide) HWR.out hch5); have HWR5 := Lib.hid hwr5; have HCH5 := Lib.hid hch5; have HMV5 := Lib.hid hmv5; clear hwr5 hch5 hmv5; refine hKK _ _ ?_; clear hKK; refine wpAny_take (i := 6) (v := .bool false) rfl (by kernel_rfl) (by kernel_rfl) (by kernel_rfl) (fun _ _ _ h => h) (Or.inl ⟨by rfl, fun w => by go_simp⟩) ?_; refine wpAny_skip (i := 7) rfl (by kernel_rfl) (by kernel_rfl) (by kernel_rfl) (fun _ _ _ h => h) (by kernel_rfl) ?_; refine wpAny_skip (i := 8) rfl (by kernel_rfl) (by kernel_rfl) (by kernel_rfl) (fun _ _ _ h => h) (by kernel_rfl) ?_; refine wpAny_skip (i := 9) rfl (by kernel_rfl) (by kernel_rfl) (by kernel_rfl) (fun _ _ _ h => h) (by kernel_rfl) ?_; refine wpAny_skip (i := 10) rfl (by kernel_rfl) (by kernel_rfl) (by kernel_rfl) (fun _ _ _ h => h) (by kernel_rfl) ?_; refine wpAny_skip (i := 11) rfl (by kernel_rfl) (by kernel_rfl) (by kernel_rfl) (fun _ _ _ h => h) (by kernel_rfl) ?_; refine wpAny_skip (i := 12) rfl (by kernel_rfl) (by kernel_rfl) (by kernel_rfl) (fun _ _ _ h => h) (by kernel_rfl) ?_; refine wpAny_skip (i := 13) rfl (by kernel_rfl) (by kernel_rfl) (by kernel_rfl) (fun _ _ _ h => h) (by kernel_rfl) ?_; refine wpAny_skip (i := 14) rfl (by kernel_rfl) (by kernel_rfl) (by kernel_rfl) (fun _ _ _ h => h) (by kernel_rfl) ?_; refine wpAny_skip (i := 15) rfl (by kernel_rfl) (by kernel_rfl) (by kernel_rfl) (fun _ _ _ h => h) (by kernel_rfl) ?_)) | fail
        all_goals
          have hb5 := below_chg HI.out.bel_ (Nat.le_refl _) HCH5.out (by intro x hx; rcases List.mem_cons.1 hx with h | h; (rw [h]; exact HI.out.gw_); (exact HRW.out x h))
          have HB5 := Lib.hid hb5
          have HRW5 := Lib.hid (moved_ge (B := w.heap.size) HMV5.out HRW.out HI.out.bel_.size)
          have HI5 : Hid (CutInv w w5 gw A1 c1 A2 c2 ops L E b e2 (k + 1)) := Lib.hid {
            wr_ := ⟨rw5, HWR5.out, HRW5.out⟩
            own_ := by rw [← HLL.out]; exact HO5.out
            ends_ := by rw [← HLL.out]; exact HE5.out
            run_ := HI.out.run_, ok_ := HI.out.ok_, bel_ := HB5.out, gw_ := HI.out.gw_, few_ := by have := HI.out.few_; omega
            short_ := by have := HSH.out; omega
            each_ := HI.out.each_, some_ := HI.out.some_, two_ := HI.out.two_ }
          clear hb5 q0 q1 q2 q3 q4 q5 HL
          go_wp2_with fail
          go_roundw
          case rel => exact ⟨k + 1, q, L, E, b, e2, A1, c1, A2, c2, by omega, by go_num, rfl, rfl, by omega, HLL, HI5⟩
          case measure => simp [intOf]; omega
    · have HKM : Hid (k = m) := Lib.hid (by omega)
      have HWL : Hid (∃ rw, Wr wr gw rw ⟨b, e⟩) := Lib.hid (by obtain ⟨rw, h, _⟩ := HI.out.wr_; exact ⟨rw, h⟩)
      obtain ⟨rw, hwr⟩ := HWL.out
      have HWA := Lib.hid (wall_any gw rw ⟨b, e⟩ wr hwr (by simp only; omega))
      have hsm : L.length - 1 = q := by have := HLL.out; omega
      have hlast := HI.out.last
      rw [hsm] at hlast
      obtain ⟨nb, hnb⟩ : ∃ nb, nb = b.length := ⟨_, rfl⟩
      rw [← hnb] at hlast
      have HLAST := Lib.hid hlast
      have HNB := Lib.hid hnb
      have hnb2 : 2 ≤ nb := by rw [hnb]; exact HI.out.two_
      have hnb3 : nb ≤ 2147483649 := by omega
      obtain ⟨g2, hg2⟩ := own_some HI.out.ends_ (by have := HLL.out; omega)
      subst hg2
      have hqq : (q : Int) < (q : Int) + 1 := by omega
      have ew : IntKind.i64.wrap (q : Int) = (q : Int) := by rw [IntKind.wrap_i64]; omega
      have ek : ((nb : Int) - 1) = ((nb - 1 : Nat) : Int) := by omega
      clear hwr HWL hlast hnb hsm hshort
      go_wp2_with fail
      refine HWA.out.mono ?_
      try simp only
      rw [← HNB.out]
      rintro e1 w5 ⟨⟨A3, c3, rfl, hown⟩, hb⟩
      have HC3 : Hid (A3 = none → c3 = 0) := Lib.hid (own_isR (hown.mono (Nat.zero_le _)).1 hown.2.1).b.2
      have HB3 := Lib.hid hown.isB
      have hcap := hown.cap
      have HBEL := Lib.hid (HI.out.bel_.trans (hb.mono HI.out.bel_.size))
      have hownL := owns_below HI.out.own_ hb
      have hownE := owns_below HI.out.ends_ hb
      rw [← HLL.out] at hownL hownE
      have HOWN := Lib.hid hownL
      have HENDS := Lib.hid hownE
      have p := own_int HENDS.out HLAST.out
      clear hown hb HWA hownL hownE
      go_wp2_with fail
      refine (within_any at_ (nb - 1) w5 HAT.out (by omega)).mono ?_
      rintro e2 w' ⟨⟨n, rfl, hn⟩, rfl⟩
      have hnc : n ≤ c3 := by omega
      have hn0 : n < nb := by omega
      clear p ek ew hqq
      go_wp2_with fail
      refine (newreader_any A3 n c3 (b.take n) w5 (HB3.out.cut_ (by omega)) (by omega) HC3.out).mono ?_
      rintro e2 w6 ⟨⟨gr, rr, rfl, hgr, hrr, hrd⟩, hb⟩
      have HRD := Lib.hid hrd
      have HBEL6 := Lib.hid (HBEL.out.trans (hb.mono HBEL.out.size))
      have HOWN6 := Lib.hid (owns_below HOWN.out hb)
      have HENDS6 := Lib.hid (owns_below HENDS.out hb)
      have hgrB : w.heap.size ≤ gr := Nat.le_trans HBEL.out.size hgr
      have HTN : Hid ((b.take n).length = n) := Lib.hid (by have := HNB.out; simp; omega)
      clear hrd hb hrr hgr HB3 HC3 HBEL HOWN HENDS hcap hnc
      go_wp2_with fail
      go_loopw [12, 13] (fun bg i wr => ∃ (j a : Nat), j ≤ q + 1 ∧ a ≤ n ∧ i = .int .i64 j ∧ bg = .int .i64 a ∧ Hid (∃ c, c.length = a ∧ Wd.runW ⟨[], 0⟩ ((opsOf L).take j) = ⟨c, 0⟩) ∧ Hid (Rd wr gr rr ⟨b.take n, a, 0⟩) ∧ Hid (wr.ownsRow w.heap.size 54 6 (.slice A1 (q + 1) c1) (q + 1) (cellsOf L)) ∧ Hid (wr.ownsRow w.heap.size 3 1 (.slice (some ⟨g2, 0, none⟩) (q + 1) c2) (q + 1) (E.map i64)) ∧ Hid (Below w.heap.size w wr)) (fun _ i _ => q + 1 - (intOf i).toNat)
      case atStart => exact ⟨0, 0, by omega, by omega, rfl, rfl, Lib.hid ⟨[], rfl, rfl⟩, HRD, HOWN6, HENDS6, HBEL6⟩
      case round =>
        clear HRD HOWN6 HENDS6 HBEL6
        obtain ⟨j, a, hj, han, rfl, rfl, HRUN, HRD, HOWN, HENDS, HBEL⟩ := hrel
        by_cases hjl : j < q + 1
        · have hjL : j < L.length := by have := HLL.out; omega
          obtain ⟨o, ps, hop⟩ : ∃ o ps, L[j]? = some (o, ps) := ⟨_, _, List.getElem?_eq_getElem hjL⟩
          obtain ⟨c, hca, hrun⟩ := HRUN.out
          obtain ⟨d, hrun', hE⟩ := HI.out.each_ j hjL
          have hall : ∀ x ∈ opsOf L, x.ok := by intro x hx; obtain ⟨y, hy, rfl⟩ := List.mem_map.1 hx; exact (HI.out.ok_ y hy).op
          have hidx : (opsOf L)[j]? = some (o.is ps) := by simp [opsOf, hop]
          have hnb' : n ≤ b.length := by have := HNB.out; omega
          have hdb : d.length ≤ b.length := by obtain ⟨d', k1, k2, _⟩ := Wd.run_begin (opsOf L) b hall HI.out.run_ (j + 1) (by simp [opsOf]; omega); rw [hrun'] at k1; injection k1 with k1 _; subst k1; have := congrArg List.length k2; simp at this; omega
          obtain ⟨a', ha'⟩ : ∃ a', a' = d.length := ⟨_, rfl⟩
          rw [← ha'] at hE
          have ha'b : a' ≤ 2147483649 := by have := HNB.out; omega
          have hok := (HI.out.ok_ _ (List.mem_of_getElem? hop)).below HBEL.out
          have hjj : (j : Int) < (q : Int) + 1 := by omega
          obtain ⟨g0, cc, hA1, hg0, q0, q1, q2, q3, q4, q5⟩ := own_steps HOWN.out hop
          injection hA1 with hA1 _ hcc
          subst hA1 hcc
          by_cases hdn : n < a'
          · have hcut := Wd.cut_step (opsOf L) b hall HI.out.run_ j (o.is ps) hidx c d hrun hrun' n hnb' (by omega) (by omega)
            rw [hca] at hcut
            have hag : Calls Try.prog 57 #[.pointer (some ⟨gr, 0, none⟩), o.val] wr fun e1 w' => ∃ (p : OpA) (qs : List Nat), e1 = .returned (.agg #[.int .i64 p.kind, .int .i64 p.at_, .int .u64 (p.n : Nat), .int .i64 p.num, .slice p.pa p.pn p.pc, .string p.s]) ∧ Rd w' gr rr ⟨b.take n, a, 10⟩ ∧ Chg [gr] wr w' := by
              refine (again_any gr rr ⟨b.take n, a, 0⟩ o ps wr HRD.out hok (by have := HTN.out; simp only at this ⊢; omega)).mono ?_
              rintro e1 w' ⟨p, qs, h1, h2, h3, h4, h5, h6⟩
              rw [hcut] at h5
              exact ⟨p, qs, h1, h5, h6⟩
            have HAG := Lib.hid hag; have HOP := Lib.hid hop; have HE := Lib.hid hE
            have HEND : Hid (Wd.R.end_ ⟨b.take n, a, 10⟩ = 10) := Lib.hid (by unfold Wd.R.end_; simp)
            have HLEFT : Hid (((b.take n).length - a : Nat) = n - a) := Lib.hid (by rw [HTN.out])
            have hsub : ((n : Int) - (a : Int)) = ((n - a : Nat) : Int) := by omega
            clear hop hca hrun hrun' hcut hag hok ha' hdb hall hidx hnb' hE
            go_wp2_with fail
            refine HAG.out.mono ?_
            rintro e1 w7 ⟨p, qs, rfl, hrd7, hch7⟩
            have hb7 := below_chg HBEL.out (Nat.le_refl _) hch7 (by simpa using hgrB)
            have hE7 := own_rd HENDS.out (by decide) HRD.out hch7
            have HRD7 := Lib.hid hrd7
            have HB7 := Lib.hid hb7
            have HE7 := Lib.hid hE7
            have pe : ∀ V, (w7.alloc V).cell? ⟨g2, j, none⟩ = some (.int .i64 (a' : Nat)) := fun V => by
              rw [World.cell?_alloc_lt w7 V _ (World.block_lt_of_cell? w7 _ (own_int HE7.out HE.out))]; exact own_int HE7.out HE.out
            clear hrd7 hch7 hb7 hE7 q0 q1 q2 q3 q4 q5 HAG
            go_wp2_with fail
            have hbx : ∀ V, Below w7.heap.size w7 (w7.alloc V) := fun V => (Below.refl _ _).alloc (Nat.le_refl _) V
            obtain ⟨w8, hw8⟩ : ∃ w8, w8 = w7.alloc (.cells #[.int .i64 p.kind, .int .i64 p.at_, .int .u64 (p.n : Nat), .int .i64 p.num, .slice p.pa p.pn p.pc, .string p.s] 54) := ⟨_, rfl⟩
            have HRD8 := Lib.hid (HRD7.out.below (hbx (.cells #[.int .i64 p.kind, .int .i64 p.at_, .int .u64 (p.n : Nat), .int .i64 p.num, .slice p.pa p.pn p.pc, .string p.s] 54)))
            have HB8 := Lib.hid (HB7.out.trans ((hbx (.cells #[.int .i64 p.kind, .int .i64 p.at_, .int .u64 (p.n : Nat), .int .i64 p.num, .slice p.pa p.pn p.pc, .string p.s] 54)).mono HB7.out.size))
            rw [← hw8] at HRD8 HB8 ⊢
            clear hw8 pe hbx
            refine (rerr_any gr rr ⟨b.take n, a, 10⟩ w8 HRD8.out).mono ?_
            rintro e1 w9 ⟨rfl, rfl⟩
            go_wp2_with fail
            refine (rend_any gr rr ⟨b.take n, a, 10⟩ w8 HRD8.out).mono ?_
            rw [HEND.out]
            rintro e1 w9 ⟨rfl, hrd, hch⟩
            have HRD9 := Lib.hid hrd
            have HB9 := Lib.hid (below_chg HB8.out (Nat.le_refl _) hch (by simp))
            clear hrd hch
            go_wp2_with fail
            refine (rat_any gr rr ⟨b.take n, a, 10⟩ w9 HRD9.out).mono ?_
            rintro e1 w10 ⟨rfl, rfl⟩
            go_wp2_with fail
            refine (rleft_any gr rr ⟨b.take n, a, 10⟩ w9 HRD9.out).mono ?_
            try simp only
            rw [HLEFT.out]
            rintro e1 w10 ⟨rfl, hrd, hch⟩
            have HB10 := Lib.hid (below_chg HB9.out (Nat.le_refl _) hch (by simp))
            clear hrd hch
            go_wp2_with fail
            go_ret
            exact ⟨rfl, HB10.out⟩
          · obtain ⟨o', hrop, hal⟩ := Wd.cut_whole (opsOf L) b hall HI.out.run_ j (o.is ps) hidx c d hrun hrun' n hnb' (by omega)
            rw [hca, ← ha'] at hrop
            have hag : Calls Try.prog 57 #[.pointer (some ⟨gr, 0, none⟩), o.val] wr fun e1 w' => ∃ (p : OpA) (qs : List Nat), e1 = .returned (.agg #[.int .i64 p.kind, .int .i64 p.at_, .int .u64 (p.n : Nat), .int .i64 p.num, .slice p.pa p.pn p.pc, .string p.s]) ∧ p.Ok w' qs ∧ Wd.alike (o.is ps) (p.is qs) = true ∧ Rd w' gr rr ⟨b.take n, a', 0⟩ ∧ Chg [gr] wr w' := by
              refine (again_any gr rr ⟨b.take n, a, 0⟩ o ps wr HRD.out hok (by have := HTN.out; simp only at this ⊢; omega)).mono ?_
              rintro e1 w' ⟨p, qs, h1, h2, h3, h4, h5, h6⟩
              rw [hrop] at h3 h5
              simp only at h3 h5
              exact ⟨p, qs, h1, h2, by rw [h3]; exact hal, h5, h6⟩
            have HRUN' : Hid (∃ c, c.length = a' ∧ Wd.runW ⟨[], 0⟩ ((opsOf L).take (j + 1)) = ⟨c, 0⟩) := Lib.hid ⟨d, ha'.symm, hrun'⟩
            have HAG := Lib.hid hag; have HOP := Lib.hid hop; have HE := Lib.hid hE; have HOK := Lib.hid (HI.out.ok_ _ (List.mem_of_getElem? hop))
            have hne : ((a' : Int) != (a' : Int)) = false := by simp
            clear hop hca hrun hrun' hrop hal hag hok ha' hdb hall hidx hnb' hE HRUN
            go_wp2_with fail
            refine HAG.out.mono ?_
            rintro e1 w7 ⟨p, qs, rfl, hpok, hal, hrd7, hch7⟩
            have hb7 := below_chg HBEL.out (Nat.le_refl _) hch7 (by simpa using hgrB)
            have hE7 := own_rd HENDS.out (by decide) HRD.out hch7
            have HO7 := Lib.hid (steps_rd HOWN.out HRD.out hch7)
            have HRD7 := Lib.hid hrd7
            have HB7 := Lib.hid hb7
            have HE7 := Lib.hid hE7
            have HPOK := Lib.hid hpok
            have HAL := Lib.hid hal
            have pe : ∀ V, (w7.alloc V).cell? ⟨g2, j, none⟩ = some (.int .i64 (a' : Nat)) := fun V => by
              rw [World.cell?_alloc_lt w7 V _ (World.block_lt_of_cell? w7 _ (own_int HE7.out HE.out))]; exact own_int HE7.out HE.out
            clear hrd7 hch7 hb7 hE7 q0 q1 q2 q3 q4 q5 HAG hpok hal
            go_wp2_with fail
            have hbx : ∀ V, Below w7.heap.size w7 (w7.alloc V) := fun V => (Below.refl _ _).alloc (Nat.le_refl _) V
            have hrow0 := Row.new w7 54 p.cells
            obtain ⟨w8, hw8⟩ : ∃ w8, w8 = w7.alloc (.cells #[.int .i64 p.kind, .int .i64 p.at_, .int .u64 (p.n : Nat), .int .i64 p.num, .slice p.pa p.pn p.pc, .string p.s] 54) := ⟨_, rfl⟩
            obtain ⟨gp, hgp⟩ : ∃ gp, gp = w7.heap.size := ⟨_, rfl⟩
            have HX := Lib.hid (hbx (.cells #[.int .i64 p.kind, .int .i64 p.at_, .int .u64 (p.n : Nat), .int .i64 p.num, .slice p.pa p.pn p.pc, .string p.s] 54))
            have hrow : Row w8 gp 54 p.cells := by rw [hw8, hgp]; exact hrow0
            have pe8 := pe (.cells #[.int .i64 p.kind, .int .i64 p.at_, .int .u64 (p.n : Nat), .int .i64 p.num, .slice p.pa p.pn p.pc, .string p.s] 54)
            rw [← hw8] at HX pe8 ⊢
            rw [← hgp] at ⊢
            have HB8 := Lib.hid (HB7.out.trans (HX.out.mono HB7.out.size))
            have HRD8 := Lib.hid (HRD7.out.below HX.out)
            have HO8 := Lib.hid (owns_below HO7.out HX.out)
            have HE8 := Lib.hid (owns_below HE7.out HX.out)
            have HPOK8 := Lib.hid (HPOK.out.below HX.out)
            have HALK := Lib.hid (alike_any o p ps qs w8.drew ((HOK.out.below HB8.out).below (Below.refl _ _).drew) (HPOK8.out.below (Below.refl _ _).drew))
            rw [HAL.out] at HALK
            obtain ⟨r0, r1, r2, r3, r4, r5⟩ := own_cells HO8.out HOP.out
            have s0 := hrow.cell 0; have s1 := hrow.cell 1; have s2 := hrow.cell 2; have s3 := hrow.cell 3; have s4 := hrow.cell 4; have s5 := hrow.cell 5
            simp only [OpA.cells, List.getElem?_cons_zero, List.getElem?_cons_succ] at s0 s1 s2 s3 s4 s5
            clear hbx hrow0 hw8 hgp pe hrow
            first | go_region_law (first
              | (go_simp; go_at_call 56; refine HALK.out.mono ?_; rintro e1 w9 ⟨rfl, hb9⟩; have HB9 := Lib.hid hb9; have HE9 := Lib.hid (owns_below HE8.out.drew hb9); have p9 := own_int HE9.out HE.out; have HRD9 := Lib.hid ((HRD8.out.below (Below.refl _ _).drew).below hb9); have HERR := Lib.hid (rerr_any gr rr ⟨b.take n, a', 0⟩ w9 HRD9.out); have HATC := Lib.hid (rat_any gr rr ⟨b.take n, a', 0⟩ w9 HRD9.out); clear hb9)
              | (go_simp; go_at_call 41; refine HERR.out.mono ?_; rintro e1 w10 ⟨rfl, rfl⟩)
              | (go_simp; go_at_call 42; refine HATC.out.mono ?_; rintro e1 w10 ⟨rfl, rfl⟩)) | fail
            all_goals
              have HO9 := Lib.hid (owns_below HO8.out.drew HB9.out)
              have HBEL9 := Lib.hid (HB8.out.drew.trans (HB9.out.mono HB8.out.size))
              clear r0 r1 r2 r3 r4 r5 s0 s1 s2 s3 s4 s5
              go_wp2_with fail
              go_roundw
              case rel => exact ⟨j + 1, a', by omega, by omega, by go_num, rfl, HRUN', HRD9, HO9, HE9, HBEL9⟩
              case measure => simp [intOf]; omega
        · exfalso
          obtain ⟨c, hca, hrun⟩ := HRUN.out
          rw [List.take_of_length_le (by have := HLL.out; simp [opsOf]; omega), HI.out.run_] at hrun
          injection hrun with h1 _
          have := HNB.out
          rw [h1, hca] at this
          omega
theorem cuts_far (A : Option Addr) (m cm : Nat) (ops : List (OpA × List Nat)) (at_ : Int) (w : World) (hs : Scr w w.heap.size A m ops) (hbe : scrB 2147483647 ops = true) :
    Calls Try.prog 11 #[.slice A m cm, .int .i64 at_] w fun e w' => e = .returned (.bool true) ∧ Below w.heap.size w w' := by
  have HBY := Lib.hid (scrbeyond_any A m cm ops w hs)
  rw [hbe] at HBY
  clear hs hbe
  go_enter Try.func11, Try.ntmps11
  go_wp2_with fail
  refine HBY.out.mono ?_
  rintro e w1 ⟨rfl, hb⟩
  have b1 := Lib.hid hb
  clear hb HBY
  go_wp2_with fail
  go_ret
  exact ⟨rfl, b1.out⟩
theorem wordcuts_walk (A : Option Addr) (m cm : Nat) (ops : List (OpA × List Nat)) (at_ : Int) (w : World) (hat : -9223372036854775808 ≤ at_ ∧ at_ ≤ 9223372036854775807) (hs : Scr w w.heap.size A m ops) :
    Calls Try.prog 11 #[.slice A m cm, .int .i64 at_] w fun e w' => e = .returned (.bool true) ∧ Below w.heap.size w w' := by
  cases hbe : scrB 2147483647 ops with
  | true => exact cuts_far A m cm ops at_ w hs hbe
  | false => exact cuts_near A m cm ops at_ w hat hs hbe
end Go.Proofs.Ytajkiglogfahfaa
