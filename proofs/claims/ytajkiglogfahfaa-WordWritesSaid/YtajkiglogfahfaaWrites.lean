/- The walk of the law WordWrites. -/
import Derived.Test.YtajkiglogfahfaaStepB
import Derived.Test.YtajkiglogfahfaaBack
set_option linter.unusedVariables false
set_option linter.unusedSimpArgs false
namespace Go.Proofs.Ytajkiglogfahfaa
open Go.RowKit

/-- a row, whatever lies in it; none of its writers has more than so many bytes -/
def WR (w : World) (B gx T N : Nat) : Prop := ∃ es cs L M SL SM S, Wrow w B gx es cs L M SL SM S ∧ es.length ≤ N ∧ (∀ x ∈ es, x.s.b.length ≤ T) ∧ 1 ≤ es.length
theorem step_any (B gx T N : Nat) (w : World) (h : WR w B gx T N) (hB : B ≤ w.heap.size) (o : OpA) (ps : List Nat) (ho : IsB w B o.pa o.pn ps) (hn : o.n < 18446744073709551616) (hat : -9223372036854775808 ≤ o.at_ ∧ o.at_ ≤ 9223372036854775807) (hN : N ≤ 999999) (hT : T + cost (o, ps) ≤ 70368744177664) :
    Calls Try.prog 27 #[.pointer (some ⟨gx, 0, none⟩), .agg #[.int .i64 o.kind, .int .i64 o.at_, .int .u64 (o.n : Nat), .int .i64 o.num, .slice o.pa o.pn o.pc, .string o.s]] w fun e w' => e = .returned (.bool true) ∧ WR w' B gx (T + cost (o, ps)) (N + 1) ∧ Below B w w' := by
  obtain ⟨es, cs, L, M, SL, SM, S, hr, hlen, hbs, h1⟩ := h
  have hcost : o.pn + o.s.size ≤ cost (o, ps) := by unfold cost; simp only; omega
  by_cases k9 : o.kind = 9
  · obtain ⟨kind, at_, n, num, pa, pn, pc, t⟩ := o
    simp only at k9 hat ⊢
    subst k9
    refine (step_tell B gx es cs L M SL SM S w hr hB at_ hat n num pa pn pc t h1 (by omega) (fun x hx => by have := hbs x hx; omega)).mono ?_
    rintro e w' ⟨he, ⟨cs', S', q⟩, hb⟩
    exact ⟨he, ⟨es, cs', L, M, SL, SM, S', q, by omega, fun x hx => by have := hbs x hx; omega, h1⟩, hb⟩
  by_cases k10 : o.kind = 10
  · obtain ⟨kind, at_, n, num, pa, pn, pc, t⟩ := o
    simp only at k10 ⊢
    subst k10
    refine (step_new B gx es cs L M SL SM S w hr hB at_ n num pa pn pc t (by omega)).mono ?_
    rintro e w' ⟨he, ⟨cs', L', M', SL', SM', S', gw, gr, q⟩, hb⟩
    refine ⟨he, ⟨_, cs', L', M', SL', SM', S', q, by simp; omega, fun x hx => ?_, by simp⟩, hb⟩
    rcases List.mem_append.1 hx with hx | hx
    · have := hbs x hx; omega
    · obtain rfl : x = ⟨gw, none, gr, none, ⟨[], 0⟩⟩ := by simpa using hx
      simp
  · refine (step_lay B gx es cs L M SL SM S w hr hB o ps ⟨k9, k10⟩ ho hn hat h1 (by omega) (fun x hx => by have := hbs x hx; omega)).mono ?_
    rintro e w' ⟨he, ⟨i, x, rw1, rr1, hx, q⟩, hb⟩
    refine ⟨he, ⟨_, cs, L, M, SL, SM, S, q, by simp; omega, fun y hy => ?_, by simpa using h1⟩, hb⟩
    rcases List.mem_or_eq_of_mem_set hy with hy | hy
    · have := hbs y hy; omega
    · subst hy
      have h2 := op_cost x.s o ps ho.len
      have h3 := hbs x (List.mem_of_getElem? hx)
      simp only
      omega
theorem WR.mono {w : World} {B gx T T' N N' : Nat} (h : WR w B gx T N) (hT : T ≤ T') (hN : N ≤ N') : WR w B gx T' N' := by
  obtain ⟨es, cs, L, M, SL, SM, S, hr, hlen, hbs, h1⟩ := h
  exact ⟨es, cs, L, M, SL, SM, S, hr, by omega, fun x hx => by have := hbs x hx; omega, h1⟩
theorem tells_wr {w : World} {B gx T N : Nat} {es : List En} {cs : List Value} {L M : Value} {SL SM S : List Nat} (hr : Wrow w B gx es cs L M SL SM S) (hlen : es.length ≤ N) (hbs : ∀ x ∈ es, x.s.b.length ≤ T) (h1 : 1 ≤ es.length) (hB : B ≤ w.heap.size) (hN : N ≤ 999999) (hT : T ≤ 70368744177664) (i : Nat) (hi : i < es.length) :
    Calls Try.prog 28 #[.pointer (some ⟨gx, 0, none⟩), .int .i64 (i : Nat)] w fun e w' => e = .returned (.bool true) ∧ WR w' B gx T N ∧ Below B w w' := by
  refine (tells_any B gx es cs L M SL SM S w hr hB i es[i] (List.getElem?_eq_getElem hi) (by omega) (by have := hbs _ (List.getElem_mem hi); omega)).mono ?_
  rintro e w' ⟨he, ⟨cs', S', q⟩, hb⟩
  exact ⟨he, ⟨es, cs', L, M, SL, SM, S', q, hlen, hbs, h1⟩, hb⟩
def halfW : OpA := ⟨2, 0, 515, 0, none, 0, 0, ⟨#[]⟩⟩
def sealW : OpA := ⟨8, 0, 0, 0, none, 0, 0, ⟨#[]⟩⟩
theorem cost_half : cost (halfW, []) = 4097 := rfl
theorem cost_seal : cost (sealW, []) = 4097 := rfl
theorem row_zero {w1 : World} {B : Nat} (hB : B ≤ w1.heap.size) : Wrow (w1.alloc (.cells #[.slice none 0 0, .slice none 0 0, .slice none 0 0, .slice none 0 0, .int .i64 0, .bool false] 51)) B w1.heap.size [] [.slice none 0 0, .slice none 0 0, .slice none 0 0, .slice none 0 0, .int .i64 0, .bool false] (.slice none 0 0) (.slice none 0 0) [] [] [] :=
  { bk := ⟨Row.new w1 _ _, ⟨by decide, by decide⟩, by simp, [], .slice none 0 0, .slice none 0 0, 0, [], [], rfl, rfl, rfl, rfl, by simp, ⟨Tl.nil_ _ _, Tl.nil_ _ _, by simp, by simp, by simp, by simp, by simp, by simp⟩⟩
    c0 := rfl, c1 := rfl, ws := Tl.nil_ _ _, is := Tl.nil_ _ _, ok := by simp, ap := by simp, sb := by simp, sl := by simp, sm := by simp, bs := ⟨hB, by simp, by simp, by simp, by simp⟩ }
set_option maxRecDepth 100000 in
set_option maxHeartbeats 4000000 in
theorem writes_near (A : Option Addr) (m cm : Nat) (ops : List (OpA × List Nat)) (w : World) (hs : Scr w w.heap.size A m ops) (hbe : scrB 2147483647 ops = false) :
    Calls Try.prog 5 #[.slice A m cm] w fun e w' => e = .returned (.bool true) ∧ Below w.heap.size w w' := by
  have HS := Lib.hid hs
  have hsum := scrB_sum ops _ hbe
  have hlen := sum_len ops
  have hm := hs.len
  have hmx : m ≤ 524160 := by omega
  have HSUM := Lib.hid hsum
  have HBY := Lib.hid (scrbeyond_any A m cm ops w hs)
  rw [hbe] at HBY
  clear hs hbe hsum hlen hm
  go_enter Try.func5, Try.ntmps5
  go_wp2_with fail
  refine HBY.out.mono ?_
  rintro e w1 ⟨rfl, hb⟩
  have b1 := Lib.hid hb
  have HR0 := Lib.hid (row_zero (w1 := w1) b1.out.size)
  obtain ⟨gx, hgx⟩ : ∃ gx, gx = w1.heap.size := ⟨_, rfl⟩
  have b2 := Lib.hid (b1.out.alloc b1.out.size (.cells #[.slice none 0 0, .slice none 0 0, .slice none 0 0, .slice none 0 0, .int .i64 0, .bool false] 51))
  rw [← hgx] at HR0
  clear hb HBY
  go_wp2_with fail
  rw [← hgx]
  clear hgx
  refine (step_new _ gx [] _ _ _ _ _ _ _ HR0.out b2.out.size 0 0 0 none 0 0 ⟨#[]⟩ (by simp)).mono ?_
  rintro e w2 ⟨rfl, ⟨cs', L', M', SL', SM', S', gw, gr, q⟩, hb⟩
  have HR1 : Hid (WR w2 w.heap.size gx 0 1) := Lib.hid ⟨_, cs', L', M', SL', SM', S', q, by simp, by simp, by simp⟩
  have b3 := Lib.hid (b2.out.trans hb)
  clear q hb HR0 b2 b1
  go_wp2_with fail
  have H2 := Lib.hid (step_any w.heap.size gx 0 1 w2 HR1.out b3.out.size halfW [] (isB_nil _ _) (by decide) (by decide) (by omega) (by rw [cost_half]; omega))
  rw [cost_half] at H2
  refine H2.out.mono ?_
  rintro e w3 ⟨rfl, q, hb⟩
  have HR2 := Lib.hid q
  have b4 := Lib.hid (b3.out.trans hb)
  clear q hb HR1 b3 H2
  go_wp2_with fail
  have H3 := Lib.hid (step_any w.heap.size gx _ _ w3 HR2.out b4.out.size sealW [] (isB_nil _ _) (by decide) (by decide) (by omega) (by rw [cost_seal]; omega))
  rw [cost_seal] at H3
  refine H3.out.mono ?_
  rintro e w4 ⟨rfl, q, hb⟩
  have HR3 := Lib.hid q
  have b5 := Lib.hid (b4.out.trans hb)
  clear q hb HR2 b4 H3
  go_wp2_with fail
  obtain ⟨es, cs, L, M, SL, SM, S, hr, hlen, hbs, h1⟩ := HR3.out
  refine (tells_wr hr hlen hbs h1 b5.out.size (by omega) (by omega) 0 (by omega)).mono ?_
  rintro e w5 ⟨rfl, q, hb⟩
  have HR4 : Hid (WR w5 w.heap.size gx (8194 + ((ops.take 0).map cost).sum) (0 + 3)) := Lib.hid (q.mono (by omega) (by omega))
  have b6 := Lib.hid (b5.out.trans hb)
  clear q hb HR3 b5 hr hlen hbs h1
  go_wp2_with fail
  go_loopw [5] (fun i wr => ∃ k : Nat, k ≤ m ∧ i = .int .i64 k ∧ Hid (WR wr w.heap.size gx (8194 + ((ops.take k).map cost).sum) (k + 3)) ∧ Hid (Below w.heap.size w wr)) (fun i _ => m - (intOf i).toNat)
  case atStart => exact ⟨0, by omega, rfl, HR4, b6⟩
  case round =>
    clear HR4 b6
    obtain ⟨k, hk, rfl, HR, HB⟩ := hrel
    by_cases hkm : k < m
    · obtain ⟨b0, off, o, ps, rfl, hbl, hop, HO, q0, q1, q2, q3, q4, q5⟩ := (HS.out.below HB.out).step HB.out.size hkm
      have hcost : 8194 + ((ops.take k).map cost).sum + cost (o, ps) ≤ 70368744177664 := by have := sum_take hop; have := sum_le ops (k + 1); have := HSUM.out; omega
      have hok := HS.out.ok _ (List.mem_of_getElem? hop)
      have hst := sum_take hop
      have HC := Lib.hid (step_any w.heap.size gx _ _ wr HR.out HB.out.size o ps (hok.1.below HB.out) hok.2.1 hok.2.2.2.1 (by omega) hcost)
      rw [show 8194 + ((ops.take k).map cost).sum + cost (o, ps) = 8194 + ((ops.take (k + 1)).map cost).sum by omega] at HC
      clear hop HO hcost hok hst
      go_wp2_with fail
      refine HC.out.mono ?_
      rintro e w6 ⟨rfl, q, hb⟩
      have HQ := Lib.hid q
      have HB6 := Lib.hid (HB.out.trans hb)
      clear q hb HC q0 q1 q2 q3 q4 q5
      go_wp2_with fail
      go_roundw
      case rel => exact ⟨k + 1, by omega, by go_num, Lib.hid (HQ.out.mono (by omega) (by omega)), HB6⟩
      case measure => simp [intOf]; omega
    · have HR5 : Hid (WR wr w.heap.size gx 70368744177664 999999) := Lib.hid (HR.out.mono (by have := sum_le ops k; have := HSUM.out; omega) (by omega))
      clear HR
      go_wp2_with fail
      go_loopw [6] (fun i wr => ∃ k : Nat, k ≤ 50 ∧ i = .int .i64 k ∧ Hid (WR wr w.heap.size gx 70368744177664 999999) ∧ Hid (Below w.heap.size w wr)) (fun i _ => 50 - (intOf i).toNat)
      case atStart => exact ⟨0, by omega, rfl, HR5, HB⟩
      case round =>
        clear HR5 HB
        obtain ⟨k, hk, rfl, HR, HB⟩ := hrel
        obtain ⟨es, cs, L, M, SL, SM, S, hr, hlen, hbs, h1⟩ := HR.out
        obtain ⟨ne, hne⟩ : ∃ ne, ne = es.length := ⟨_, rfl⟩
        obtain ⟨A0, d0, A0', d0', eL, eM⟩ := hr.slices
        subst eL eM
        have hcells := hr.cells
        rw [← hne] at hcells
        obtain ⟨c0, c1, f0, f1, hgx⟩ := hcells
        by_cases hgo : k < ne ∧ k < 50
        · have HT := Lib.hid (tells_wr hr hlen hbs h1 HB.out.size (by omega) (by omega) k (by omega))
          have e1 : decide ((k : Int) < (ne : Int)) = true := decide_eq_true (by omega)
          have e2 : decide ((k : Int) < 50) = true := decide_eq_true (by omega)
          obtain ⟨g1, g2⟩ := hgo
          clear hr hlen hbs h1 hne
          go_wp2_with fail
          refine HT.out.mono ?_
          rintro e w6 ⟨rfl, q, hb⟩
          have HQ := Lib.hid q
          have HB6 := Lib.hid (HB.out.trans hb)
          clear q hb HT c0 c1
          go_wp2_with fail
          go_roundw
          case rel => exact ⟨k + 1, by omega, by go_num, HQ, HB6⟩
          case measure => simp [intOf]; omega
        · have HAP := Lib.hid (apart_any gx 2 _ cs S wr hr.bk)
          have HBS := Lib.hid hr.bs
          have key : (decide ((k : Int) < (ne : Int)) = false ∧ ¬ (k < ne)) ∨ ((decide ((k : Int) < (ne : Int)) = true ∧ k < ne) ∧ decide ((k : Int) < 50) = false ∧ ¬ (k < 50)) := by
            by_cases h : k < ne
            · exact .inr ⟨⟨decide_eq_true (by omega), h⟩, decide_eq_false (by omega), by omega⟩
            · exact .inl ⟨decide_eq_false (by omega), h⟩
          clear hr hlen hbs h1 hne hgo
          rcases key with ⟨k1, k1'⟩ | ⟨⟨k1, k1'⟩, k2, k2'⟩
          all_goals
            go_wp2_with fail
            refine HAP.out.mono ?_
            rintro e w6 ⟨rfl, hc⟩
            have HB6 := Lib.hid (below_chg HB.out (Nat.le_refl _) hc (fun x hx => by
              rcases List.mem_cons.1 hx with rfl | hx
              · exact HBS.out.1
              · exact HBS.out.2.1 x hx))
            clear hc c0 c1
            go_wp2_with fail
            go_ret
            exact ⟨rfl, HB6.out⟩
theorem writes_far (A : Option Addr) (m cm : Nat) (ops : List (OpA × List Nat)) (w : World) (hs : Scr w w.heap.size A m ops) (hbe : scrB 2147483647 ops = true) :
    Calls Try.prog 5 #[.slice A m cm] w fun e w' => e = .returned (.bool true) ∧ Below w.heap.size w w' := by
  have HBY := Lib.hid (scrbeyond_any A m cm ops w hs)
  rw [hbe] at HBY
  clear hs hbe
  go_enter Try.func5, Try.ntmps5
  go_wp2_with fail
  refine HBY.out.mono ?_
  rintro e w1 ⟨rfl, hb⟩
  have b1 := Lib.hid hb
  clear hb HBY
  go_wp2_with fail
  go_ret
  exact ⟨rfl, b1.out⟩
theorem wordwrites_walk (A : Option Addr) (m cm : Nat) (ops : List (OpA × List Nat)) (w : World) (hs : Scr w w.heap.size A m ops) :
    Calls Try.prog 5 #[.slice A m cm] w fun e w' => e = .returned (.bool true) ∧ Below w.heap.size w w' := by
  cases hbe : scrB 2147483647 ops with
  | true => exact writes_far A m cm ops w hs hbe
  | false => exact writes_near A m cm ops w hs hbe
end Go.Proofs.Ytajkiglogfahfaa
