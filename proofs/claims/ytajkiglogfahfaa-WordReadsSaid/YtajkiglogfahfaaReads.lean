/- The walk of the law WordReads. -/
import Derived.Test.YtajkiglogfahfaaSStep
import Derived.Test.YtajkiglogfahfaaScrOpen
import Derived.Deep.Cut
import Derived.Deep.DeepCutAuto
set_option linter.unusedVariables false
set_option linter.unusedSimpArgs false
namespace Go.Proofs.Ytajkiglogfahfaa
open Go.RowKit

theorem shf_zero {w1 : World} {B n c : Nat} {A : Option Addr} {bs : List Nat} (hB : B ≤ w1.heap.size) (hib : IsB w1 B A n bs ∧ n ≤ c ∧ (A = none → c = 0)) : SW (w1.alloc (.cells #[.slice A n c, .slice none 0 0, .slice none 0 0, .slice none 0 0, .slice none 0 0, .int .i64 0, .bool false] 75)) B w1.heap.size A n c bs 0 :=
  ⟨[], [.slice A n c, .slice none 0 0, .slice none 0 0, .slice none 0 0, .slice none 0 0, .int .i64 0, .bool false], .slice none 0 0, .slice none 0 0, [], [], [],
  { bk := ⟨Row.new w1 _ _, ⟨by decide, by decide⟩, by simp, [], .slice none 0 0, .slice none 0 0, 0, [], [], rfl, rfl, rfl, rfl, by simp, ⟨Tl.nil_ _ _, Tl.nil_ _ _, by simp, by simp, by simp, by simp, by simp, by simp⟩⟩
    c0 := rfl, c1 := rfl, c2 := rfl, ib := ⟨hib.1.below ((Below.refl _ _).alloc hB _), hib.2⟩, rs := Tl.nil_ _ _, is := Tl.nil_ _ _, ok := by simp, ap := by simp, sb := by simp, sl := by simp, sm := by simp, bs_ := ⟨hB, by simp, by simp, by simp, by simp⟩ }, rfl⟩
def halfR : OpA := ⟨2, 0, 0, 0, none, 0, 0, ⟨#[]⟩⟩
def byteR : OpA := ⟨1, 0, 0, 0, none, 0, 0, ⟨#[]⟩⟩
theorem one_two_three (w : World) : IsB (w.alloc (.cells #[.int .u8 1, .int .u8 2, .int .u8 3] 5)) (w.heap.size + 1) (some ⟨w.heap.size, 0, none⟩) 3 [1, 2, 3] := by
  have := IsB.of_row (Row.new w 5 [.int .u8 1, .int .u8 2, .int .u8 3]) (off := 0) (n := 3) (bs := [1, 2, 3]) (B := w.heap.size + 1) rfl rfl (by decide) (by omega) (by omega)
  exact this (by simp)
/-- what a told of the first reader asks -/
theorem sw_first {w : World} {B gx n c : Nat} {A : Option Addr} {bs : List Nat} (h : SW w B gx A n c bs 1) (hB : B ≤ w.heap.size) (hn : n ≤ 70368744177664) : ∃ g o d g' o' d' gr gv, g < w.heap.size ∧ g' < w.heap.size ∧ gx < w.heap.size ∧ w.cell? ⟨gx, 1, none⟩ = some (.slice (some ⟨g, o, none⟩) 1 d) ∧ w.cell? ⟨gx, 2, none⟩ = some (.slice (some ⟨g', o', none⟩) 1 d') ∧ w.cell? ⟨g, o, none⟩ = some (.pointer (some ⟨gr, 0, none⟩)) ∧ w.cell? ⟨g', o', none⟩ = some (.pointer (some ⟨gv, 0, none⟩)) ∧
    Hid (∀ m, Calls Try.prog 45 #[.pointer (some ⟨gr, 0, none⟩), .pointer (some ⟨gv, 0, none⟩)] (w.drewN m) fun e w' => e = .returned (.bool true) ∧ ∃ k, w' = (w.drewN m).drewN k) := by
  obtain ⟨es, cs, L, M, SL, SM, S, hr, hlen⟩ := h
  obtain ⟨x, hx⟩ : ∃ x, es[0]? = some x := ⟨_, List.getElem?_eq_getElem (by omega)⟩
  obtain ⟨g, o, d, g', o', d', eL, eM, hg, hg', l0, l1, _, _⟩ := hr.at_ hx
  obtain ⟨_, c1, c2, _, _, hgx⟩ := hr.cells
  rw [hlen] at eL eM
  have hok := hr.ok x (List.mem_of_getElem? hx)
  refine ⟨g, o, d, g', o', d', x.gr, x.gv, hg, hg', hgx, eL ▸ c1, eM ▸ c2, l0, l1, Lib.hid fun m => ?_⟩
  have hrd := hr.drewN m hB
  have hok2 := hrd.ok x (List.mem_of_getElem? hx)
  refine told_any B x.gr x.gv c x.rr A x.s (w.drewN m) hok2.1 (Nat.le_trans hB (below_drewN (Below.refl w.heap.size w) m).size) ?_
  rw [hok2.2, hr.ib.1.len]
  exact hn
theorem SW.len {w : World} {B gx n c N : Nat} {A : Option Addr} {bs : List Nat} (h : SW w B gx A n c bs N) : ∃ A1 c1, w.cell? ⟨gx, 1, none⟩ = some (.slice A1 N c1) ∧ gx < w.heap.size := by
  obtain ⟨es, cs, L, M, SL, SM, S, hr, hlen⟩ := h
  obtain ⟨A0, d0, A0', d0', eL, eM⟩ := hr.slices
  obtain ⟨_, c1, _, _, _, hgx⟩ := hr.cells
  rw [hlen] at eL
  exact ⟨A0, d0, eL ▸ c1, hgx⟩
theorem apart_sw {w : World} {B gx n c N : Nat} {A : Option Addr} {bs : List Nat} (h : SW w B gx A n c bs N) {w0 : World} (hb : Below B w0 w) (hB : B ≤ w0.heap.size) :
    Calls Try.prog 29 #[.pointer (some ⟨gx, 3, none⟩), .func (.func 30) #[] #[]] w fun e w' => e = .returned (.bool true) ∧ Below B w0 w' := by
  obtain ⟨es, cs, L, M, SL, SM, S, hr, hlen⟩ := h
  refine (apart_any gx 3 _ cs S w hr.bk).mono ?_
  rintro e w' ⟨he, hc⟩
  exact ⟨he, below_chg hb hB hc (fun x hx => by
    rcases List.mem_cons.1 hx with rfl | hx
    · exact hr.bs_.1
    · exact hr.bs_.2.1 x hx)⟩
def bytesR (i n : Nat) : OpA := ⟨5, i, 0, n, none, 0, 0, ⟨#[]⟩⟩
set_option maxRecDepth 100000 in
set_option maxHeartbeats 1000000 in
theorem reads_far (A : Option Addr) (n c : Nat) (bs : List Nat) (A2 : Option Addr) (m cm : Nat) (w : World) (hb : IsB w w.heap.size A n bs) (hbe : beyondL 2147483647 [n] = true) :
    Calls Try.prog 7 #[.slice A n c, .slice A2 m cm] w fun e w' => e = .returned (.bool true) ∧ Below w.heap.size w w' := by
  have HB := Lib.hid (beyond_one w n hb.2.2 true hbe)
  clear hb hbe
  go_enter Try.func7, Try.ntmps7
  go_wp2_with fail
  refine HB.out.mono ?_
  rintro e w' ⟨rfl, rfl⟩
  go_wp2_with fail
  go_ret
  exact ⟨rfl, (Below.refl _ _).alloc (Nat.le_refl _) _⟩
set_option maxRecDepth 100000 in
set_option maxHeartbeats 4000000 in
theorem reads_near (A : Option Addr) (n c : Nat) (bs : List Nat) (A2 : Option Addr) (m cm : Nat) (ops : List (OpA × List Nat)) (w : World) (hb : IsB w w.heap.size A n bs ∧ n ≤ c ∧ (A = none → c = 0)) (hs : Scr w w.heap.size A2 m ops) (hbe : beyondL 2147483647 [n] = false) (hn : n ≤ 2147483647) :
    Calls Try.prog 7 #[.slice A n c, .slice A2 m cm] w fun e w' => e = .returned (.bool true) ∧ Below w.heap.size w w' := by
  have HB := Lib.hid (beyond_one w n hb.1.2.2 false hbe)
  have HIB := Lib.hid hb
  have HS := Lib.hid hs
  have hmx : m ≤ 9223372036854775807 := hs.max
  have hsz : (w.alloc (.cells #[.int .i64 (n : Nat)] 3)).heap.size = w.heap.size + 1 := by simp
  have hsz2 : ((w.alloc (.cells #[.int .i64 (n : Nat)] 3)).alloc (.cells #[.int .u8 1, .int .u8 2, .int .u8 3] 5)).heap.size = w.heap.size + 1 + 1 := by simp
  have h3 := one_two_three (w.alloc (.cells #[.int .i64 (n : Nat)] 3))
  rw [hsz] at h3
  have h0 := shf_zero (w1 := (w.alloc (.cells #[.int .i64 (n : Nat)] 3)).alloc (.cells #[.int .u8 1, .int .u8 2, .int .u8 3] 5)) (B := w.heap.size + 1 + 1) (n := 3) (c := 3) (by rw [hsz2]; exact Nat.le_refl _) ⟨h3, by decide, by simp⟩
  rw [hsz2] at h0
  have H0 := Lib.hid h0
  have h1 : Below w.heap.size w (((w.alloc (.cells #[.int .i64 (n : Nat)] 3)).alloc (.cells #[.int .u8 1, .int .u8 2, .int .u8 3] 5)).alloc (.cells #[.slice (some ⟨w.heap.size + 1, 0, none⟩) 3 3, .slice none 0 0, .slice none 0 0, .slice none 0 0, .slice none 0 0, .int .i64 0, .bool false] 75)) :=
    (((Below.refl _ _).alloc (Nat.le_refl _) _).alloc (by simp) _).alloc (by simp; omega) _
  have H1 := Lib.hid h1
  clear hb hs hbe h0 h1 h3 hsz hsz2
  go_enter Try.func7, Try.ntmps7
  go_wp2_with fail
  refine HB.out.mono ?_
  rintro e w1 ⟨rfl, rfl⟩
  clear HB
  go_wp2_with fail
  refine (opens_sw _ _ _ _ _ _ _ _ H0.out (by simp) (by omega) (by omega)).mono ?_
  rintro e w2 ⟨rfl, q, hb⟩
  have HR1 := Lib.hid q
  have hb0 : w.heap.size + 1 + 1 ≤ w2.heap.size := Nat.le_trans (by simp) hb.size
  have b2 := Lib.hid (H1.out.trans (hb.mono (by omega)))
  clear q hb H0 H1
  go_wp2_with fail
  refine (sstep_old _ _ _ _ _ _ _ _ HR1.out hb0 (by omega) (by omega) (by omega) halfR (by decide) (by decide) (by decide)).mono ?_
  rintro e w3 ⟨rfl, q, hb⟩
  have HR2 := Lib.hid q
  have b3 := Lib.hid (b2.out.trans (hb.mono (by omega)))
  have hb0 : w.heap.size + 1 + 1 ≤ w3.heap.size := Nat.le_trans hb0 hb.size
  clear q hb HR1 b2
  go_wp2_with fail
  refine (sstep_old _ _ _ _ _ _ _ _ HR2.out hb0 (by omega) (by omega) (by omega) byteR (by decide) (by decide) (by decide)).mono ?_
  rintro e w4 ⟨rfl, q, hb⟩
  have HR3 := Lib.hid q
  have b4 := Lib.hid (b3.out.trans (hb.mono (by omega)))
  have hb0 : w.heap.size + 1 + 1 ≤ w4.heap.size := Nat.le_trans hb0 hb.size
  clear q hb HR2 b3
  go_wp2_with fail
  refine (sstep_old _ _ _ _ _ _ _ _ HR3.out hb0 (by omega) (by omega) (by omega) byteR (by decide) (by decide) (by decide)).mono ?_
  rintro e w5 ⟨rfl, q, hb⟩
  have HR4 := Lib.hid q
  have b5 := Lib.hid (b4.out.trans (hb.mono (by omega)))
  have hb0 : w.heap.size + 1 + 1 ≤ w5.heap.size := Nat.le_trans hb0 hb.size
  clear q hb HR3 b4
  go_wp2_with fail
  have hx0 := shf_zero (w1 := w5) (B := w.heap.size) b5.out.size ⟨HIB.out.1.below b5.out, HIB.out.2⟩
  have hx1 := b5.out.alloc b5.out.size (.cells #[.slice A n c, .slice none 0 0, .slice none 0 0, .slice none 0 0, .slice none 0 0, .int .i64 0, .bool false] 75)
  obtain ⟨gx, hgx⟩ : ∃ gx, gx = w5.heap.size := ⟨_, rfl⟩
  obtain ⟨w6, hw6⟩ : ∃ w6, w6 = w5.alloc (.cells #[.slice A n c, .slice none 0 0, .slice none 0 0, .slice none 0 0, .slice none 0 0, .int .i64 0, .bool false] 75) := ⟨_, rfl⟩
  rw [← hgx, ← hw6] at hx0
  rw [← hw6] at hx1
  have HX0 := Lib.hid hx0; have B6 := Lib.hid hx1
  clear hx0 hx1 b5 HR4 hb0
  try rw [← hgx]
  try rw [← hw6]
  clear hgx hw6
  have HOP := Lib.hid (opens_sw _ _ _ _ _ _ _ w6.drew (HX0.out.below (below_drewN (Below.refl w6.heap.size w6) 1) B6.out.size) B6.out.size (by omega) (by omega))
  have B7 := Lib.hid (below_drewN B6.out 1)
  have hsx : w.heap.size ≤ w6.heap.size := B6.out.size
  clear HX0 B6
  go_cut [59] (fun v wx => v = .bool false ∧ Hid (SW wx w.heap.size gx A n c bs 1) ∧ Hid (Below w.heap.size w wx))
  case first =>
    first | go_region_law (first
      | (go_simp; go_at_call 43; refine HOP.out.mono ?_; rintro e w7 ⟨rfl, q, hb⟩; have HSW := Lib.hid q; have HB7 := Lib.hid (B7.out.trans hb); obtain ⟨g, o, d, g', o', d', gr, gv, hg, hg', hgx, l0, l1, l2, l3, HTD⟩ := sw_first q (Nat.le_trans hsx hb.size) (by omega); clear q hb)
      | (go_simp; go_at_call 45; refine (HTD.out 0).mono ?_; rintro e w8 ⟨rfl, mm, rfl⟩)) | fail
    all_goals
      go_wp2_with fail
      go_meet
      case rel => exact ⟨rfl, Lib.hid (HSW.out.below (below_drewN (Below.refl _ _) _) HB7.out.size), Lib.hid (below_drewN HB7.out _)⟩
  case rest =>
    obtain ⟨rfl, HR, HB⟩ := hcut
    clear HOP B7
    go_wp2_with fail
    go_loopw [7] (fun i wr => ∃ k : Nat, k ≤ m ∧ i = .int .i64 k ∧ Hid (∃ N, SW wr w.heap.size gx A n c bs N ∧ 1 ≤ N ∧ N ≤ 20) ∧ Hid (Below w.heap.size w wr)) (fun i _ => m - (intOf i).toNat)
    case atStart => exact ⟨0, by omega, rfl, Lib.hid ⟨1, HR.out, by omega, by omega⟩, HB⟩
    case round =>
      clear HR HB
      obtain ⟨k, hk, rfl, HR, HB⟩ := hrel
      obtain ⟨N, hsw, h1, h20⟩ := HR.out
      have HSW := Lib.hid hsw
      clear hsw HR
      have hBr : w.heap.size ≤ wr.heap.size := HB.out.size
      by_cases hkm : k < m
      · obtain ⟨b0, off, o, ps, rfl, hbl, hop, HO, q0, q1, q2, q3, q4, q5⟩ := (HS.out.below HB.out).step HB.out.size hkm
        have hok := HS.out.ok _ (List.mem_of_getElem? hop)
        have HC := Lib.hid (sstep_any w.heap.size gx n c N A bs wr HSW.out hBr (by omega) h1 (by omega) o hok.2.2.2.1 hok.2.2.1 h20)
        clear hop HO hok
        go_wp2_with fail
        refine HC.out.mono ?_
        rintro e w6 ⟨rfl, q, hb⟩
        have HQ := Lib.hid q
        have HB6 := Lib.hid (HB.out.trans hb)
        clear q hb HC q0 q1 q2 q3 q4 q5
        go_wp2_with fail
        go_roundw
        case rel => exact ⟨k + 1, by omega, by go_num, HQ, HB6⟩
        case measure => simp [intOf]; omega
      · obtain ⟨A1, c1, hc1, hgx⟩ := HSW.out.len
        have hle : decide ((20 : Int) < (N : Int)) = false := decide_eq_false (by omega)
        go_wp2_with fail
        clear hc1 hgx
        go_loopw [9] (fun i wr => ∃ j : Nat, j ≤ 2 ∧ i = .int .i64 (N + j : Nat) ∧ Hid (SW wr w.heap.size gx A n c bs (N + j)) ∧ Hid (Below w.heap.size w wr)) (fun i _ => N + 2 - (intOf i).toNat)
        case atStart => exact ⟨0, by omega, rfl, HSW, HB⟩
        case round =>
          clear HSW HB hBr
          obtain ⟨j, hj, rfl, HR, HB⟩ := hrel
          have hBr : w.heap.size ≤ wr.heap.size := HB.out.size
          by_cases hj2 : j < 2
          · have e1 : decide (((N + j : Nat) : Int) < (N : Int) + 2) = true := decide_eq_true (by omega)
            have HOP := Lib.hid (opens_sw w.heap.size gx n c (N + j) A bs wr HR.out hBr (by omega) (by omega))
            go_wp2_with fail
            refine HOP.out.mono ?_
            rintro e w6 ⟨rfl, q, hb⟩
            obtain ⟨A1, c1, hc1, hgx⟩ := q.len
            have HQ := Lib.hid q
            have HB6 := Lib.hid (HB.out.trans hb)
            have hl : decide (((N + j + 1 : Nat) : Int) ≤ ((N + j : Nat) : Int)) = false := decide_eq_false (by omega)
            have HST := Lib.hid (sstep_old w.heap.size gx n c (N + j + 1) A bs w6 q HB6.out.size (by omega) (by omega) (by omega) (bytesR (N + j) n) (by simp [bytesR]) (by unfold bytesR; simp only; omega) (by unfold bytesR; simp only; omega))
            clear q hb HOP HR HB
            go_wp2_with fail
            refine HST.out.mono ?_
            rintro e w7 ⟨rfl, q, hb⟩
            have HQ7 := Lib.hid q
            have HB7 := Lib.hid (HB6.out.trans hb)
            clear q hb HST HQ HB6 hc1
            go_wp2_with fail
            go_roundw
            case rel => exact ⟨j + 1, by omega, by go_num, HQ7, HB7⟩
            case measure => simp [intOf]; omega
          · have e1 : decide (((N + j : Nat) : Int) < (N : Int) + 2) = false := decide_eq_false (by omega)
            obtain ⟨A1, c1, hc1, hgx⟩ := HR.out.len
            have HAP := Lib.hid (apart_sw HR.out HB.out (Nat.le_refl _))
            clear HR hc1
            go_wp2_with fail
            refine HAP.out.mono ?_
            rintro e w6 ⟨rfl, hb⟩
            have HB6 := Lib.hid hb
            clear hb HAP
            go_wp2_with fail
            go_ret
            exact ⟨rfl, HB6.out⟩
theorem wordreads_walk (A : Option Addr) (n c : Nat) (bs : List Nat) (A2 : Option Addr) (m cm : Nat) (ops : List (OpA × List Nat)) (w : World) (hb : IsB w w.heap.size A n bs) (hc : n ≤ c) (hA : A = none → c = 0) (hs : Scr w w.heap.size A2 m ops) :
    Calls Try.prog 7 #[.slice A n c, .slice A2 m cm] w fun e w' => e = .returned (.bool true) ∧ Below w.heap.size w w' := by
  cases hbe : beyondL 2147483647 [n] with
  | true => exact reads_far A n c bs A2 m cm w hb hbe
  | false =>
    refine reads_near A n c bs A2 m cm ops w ⟨hb, hc, hA⟩ hs hbe ?_
    unfold beyondL at hbe
    split at hbe
    · cases hbe
    · omega
end Go.Proofs.Ytajkiglogfahfaa
