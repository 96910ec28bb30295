/- The walk of the law BusFills. -/
import Derived.Test.YtmhkmemaneopeaaBuH
import Derived.Test.YtmhkmemaneopeaaBusS
set_option linter.unusedVariables false
set_option linter.unusedSimpArgs false
namespace Go.Proofs.Ytmhkmemaneopeaa
open Go.RowKit
open S64
namespace Bu
theorem IsB.cutq {w : World} {B n m : Nat} {A : Option Addr} {bs : List Nat} (h : IsB w B A n bs) (hm : m ≤ n) : IsB w B A m (bs.take m) := by
  obtain ⟨⟨h1, h2⟩, h3, h4⟩ := h
  refine ⟨⟨by simp at h1 ⊢; omega, fun h0 => ?_⟩, fun b hb => h3 b (List.mem_of_mem_take hb), by omega⟩
  obtain ⟨a, hA, hlt, hc⟩ := h2 (by omega)
  refine ⟨a, hA, hlt, fun j u hj => hc j u ?_⟩
  rw [List.map_take, List.getElem?_take] at hj
  split at hj
  · exact hj
  · cases hj
theorem IsB.blk {w : World} {B n : Nat} {A : Option Addr} {bs : List Nat} (h : IsB w B A n bs) : ∀ ad, A = some ad → 0 < n → ad.block < B := by
  intro ad ha h0
  obtain ⟨a, hA, hlt, hc⟩ := h.1.2 h0
  rw [ha] at hA
  injection hA with hA
  rw [hA]; exact hlt
/-- what holds between the calls: the machine, the bytes that are wanted, the fault's variable -/
structure FT (w : World) (g : Nat) (Z R : Nat → Prop) (M : PM) (bw bf : Nat) (wb : List Nat) (y q : Nat) (wr : World) : Prop where
  m : MZ Z R wr g M
  nw : ∀ k, Z k ∨ R k → k ≠ bw
  nf : ∀ k, Z k ∨ R k → k ≠ bf
  ne : bw ≠ bf
  row : Row wr bw 5 (wb.map u8)
  rf : Row wr bf 42 [.int .i64 (y : Nat), .int .u64 (q : Nat)]
  gw : w.heap.size ≤ bw
  gf : w.heap.size ≤ bf
  ge : ∀ x, Z x → w.heap.size ≤ x
  bel : Below w.heap.size w wr
theorem FT.set {w wr : World} {g : Nat} {Z R : Nat → Prop} {M : PM} {bw bf y q : Nat} {wb wb' : List Nat} (h : FT w g Z R M bw bf wb y q wr) (i u : Nat) (hs : (wb.map u8).set i (u8 u) = wb'.map u8) : FT w g Z R M bw bf wb' y q (wr.setCell ⟨bw, i, none⟩ (.int .u8 (u : Nat))) :=
  ⟨h.m.chg (Y := fun k => k = bw) ((ChgP.refl (fun k => k = bw) wr).set_ (p := ⟨bw, i, none⟩) (.inl rfl) _) (fun k hk e => h.nw k hk e), h.nw, h.nf, h.ne, by rw [← hs]; exact h.row.set_ i _, h.rf.far (p := ⟨bw, i, none⟩) (Ne.symm h.ne) _, h.gw, h.gf, h.ge, h.bel.setCell (p := ⟨bw, i, none⟩) h.gw _⟩
theorem FT.fset {w wr : World} {g : Nat} {Z R : Nat → Prop} {M : PM} {bw bf y q : Nat} {wb : List Nat} (h : FT w g Z R M bw bf wb y q wr) (y' q' : Nat) : FT w g Z R M bw bf wb y' q' ((wr.setCell ⟨bf, 0, none⟩ (.int .i64 (y' : Nat))).setCell ⟨bf, 1, none⟩ (.int .u64 (q' : Nat))) :=
  ⟨h.m.chg (Y := fun k => k = bf) (((ChgP.refl (fun k => k = bf) wr).set_ (p := ⟨bf, 0, none⟩) (.inl rfl) _).set_ (p := ⟨bf, 1, none⟩) (.inl rfl) _) (fun k hk e => h.nf k hk e), h.nw, h.nf, h.ne, (h.row.far (p := ⟨bf, 0, none⟩) h.ne _).far (p := ⟨bf, 1, none⟩) h.ne _, (h.rf.set_ 0 _).set_ 1 _, h.gw, h.gf, h.ge, (h.bel.setCell (p := ⟨bf, 0, none⟩) h.gf _).setCell (p := ⟨bf, 1, none⟩) h.gf _⟩
theorem FT.quiet {w wr w' : World} {g : Nat} {Z R : Nat → Prop} {M M' : PM} {bw bf y q : Nat} {wb : List Nat} (h : FT w g Z R M bw bf wb y q wr) (hm : MZ Z R w' g M') (hc : ChgP Z wr w') : FT w g Z R M' bw bf wb y q w' :=
  ⟨hm, h.nw, h.nf, h.ne, hc.row h.row (fun hz => h.nw _ (.inl hz) rfl), hc.row h.rf (fun hz => h.nf _ (.inl hz) rfl), h.gw, h.gf, h.ge, h.bel.trans (hc.below h.bel.size h.ge)⟩
theorem FT.laid {w wr w' : World} {g : Nat} {Z R : Nat → Prop} {M M' : PM} {bw bf y q : Nat} {wb : List Nat} (h : FT w g Z R M bw bf wb y q wr) (hl : Laid1 Z R wr g M' w') : ∃ Z', FT w g Z' R M' bw bf wb y q w' := by
  obtain ⟨Z', hm, hc, hz⟩ := hl
  refine ⟨Z', hm, ?_, ?_, h.ne, hc.row h.row (fun hz => h.nw _ (.inl hz) rfl), hc.row h.rf (fun hz => h.nf _ (.inl hz) rfl), h.gw, h.gf, ?_, h.bel.trans (hc.below h.bel.size h.ge)⟩
  · rintro k (hk | hk) e
    · rcases hz k hk with h1 | h1
      · exact h.nw k (.inl h1) e
      · have := h.row.lt; omega
    · exact h.nw k (.inr hk) e
  · rintro k (hk | hk) e
    · rcases hz k hk with h1 | h1
      · exact h.nf k (.inl h1) e
      · have := h.rf.lt; omega
    · exact h.nf k (.inr hk) e
  · intro x hx
    rcases hz x hx with h1 | h1
    · exact h.ge x h1
    · exact Nat.le_trans h.bel.size h1
theorem FT.below {w wr w' : World} {g : Nat} {Z R : Nat → Prop} {M : PM} {bw bf y q : Nat} {wb : List Nat} (h : FT w g Z R M bw bf wb y q wr) (hb : Below wr.heap.size wr w') : FT w g Z R M bw bf wb y q w' := h.quiet (h.m.below hb) (ChgP.of_below hb)
theorem FT.start {w w2 w3 : World} {g : Nat} {Z R : Nat → Prop} {M M' : PM} {bw : Nat} {wb : List Nat} (y q : Nat) (hm : MZ Z R w2 g M) (hnw : ∀ k, Z k ∨ R k → k ≠ bw) (hr : Row w2 bw 5 (wb.map u8)) (gw : w.heap.size ≤ bw) (ge : ∀ x, Z x → w.heap.size ≤ x) (bel : Below w.heap.size w w2) (hl : Laid1 Z R w2 g M' w3) :
    ∃ Z', FT w g Z' R M' bw w3.heap.size wb y q (w3.alloc (.cells #[.int .i64 (y : Nat), .int .u64 (q : Nat)] 42)) := by
  obtain ⟨Z', h1, hc, hz⟩ := hl
  have hbel := bel.trans (hc.below bel.size ge)
  have hlt := hr.lt
  have hsz := hc.size
  refine ⟨Z', h1.below ((Below.refl _ _).alloc (Nat.le_refl _) _), ?_, ?_, by omega, (hc.row hr (fun hz => hnw _ (.inl hz) rfl)).alloc _, Row.new w3 42 [.int .i64 (y : Nat), .int .u64 (q : Nat)], gw, hbel.size, ?_, hbel.alloc hbel.size _⟩
  · rintro k (hk | hk) e
    · rcases hz k hk with h2 | h2
      · exact hnw k (.inl h2) e
      · omega
    · exact hnw k (.inr hk) e
  · rintro k (hk | hk) e
    · have := h1.z k hk; omega
    · have := h1.r k hk; omega
  · intro x hx
    rcases hz x hx with h2 | h2
    · exact ge x h2
    · exact Nat.le_trans bel.size h2
/-- how many bytes are laid -/
def okN (b : Bool) (n : Nat) : Nat := if b = true then n else 0
theorem wantB_ok {M M' : PM} {a n y q : Nat} {f : Nat → Nat} (h : FilSaid M a n f M' y q) : wantB M.mem a (okN (okB a n) n) f = allB M' := by
  unfold okN
  have hm := h.mem
  split
  · rename_i hk; rw [if_pos hk] at hm; exact wantB_end hm
  · rename_i hk; rw [if_neg hk] at hm; rw [wantB_zero]; exact (allB_same hm).symm
theorem wantB_get (mem : Nat → Nat) (a d : Nat) (f : Nat → Nat) (i : Nat) (hi : i < 16384) : ((wantB mem a d f).map u8)[i]? = some (.int .u8 ((layM mem a d f (8192 + i) : Nat) : Int)) := by
  rw [List.getElem?_map, wantB, memB_get _ _ _ _ hi]; rfl
/-- how many of the ground's first i pages hold something -/
def kc (mem : Nat → Nat) : Nat → Nat
  | 0 => 0
  | i + 1 => kc mem i + if lz mem (i + 2) = true then 0 else 1
theorem kc_le (mem : Nat → Nat) : ∀ i, kc mem i ≤ i
  | 0 => Nat.le_refl _
  | i + 1 => by have := kc_le mem i; unfold kc; split <;> omega
theorem kc_four (mem : Nat → Nat) : kc mem 4 = (gKs mem).length := by
  unfold gKs
  simp only [kc, List.filter]
  cases lz mem 2 <;> cases lz mem 3 <;> cases lz mem 4 <;> cases lz mem 5 <;> rfl
/-- has one of the page's first j bytes been something? -/
def sm (mem : Nat → Nat) (k j : Nat) : Bool := (List.range j).any fun i => mem (4096 * k + i) != 0
theorem sm_zero (mem : Nat → Nat) (k : Nat) : sm mem k 0 = false := rfl
theorem sm_next (mem : Nat → Nat) (k j : Nat) : sm mem k (j + 1) = (sm mem k j || (mem (4096 * k + j) != 0)) := by
  unfold sm
  rw [List.range_succ, List.any_append]
  simp
theorem sm_end (mem : Nat → Nat) (k : Nat) : sm mem k 4096 = !lz mem k := by
  unfold sm lz
  rw [List.not_all_eq_any_not]
  rfl
set_option maxRecDepth 100000 in
set_option maxHeartbeats 4000000 in
theorem busfills_walk (A : Option Addr) (n c : Nat) (bs : List Nat) (at_ v : Nat) (z : Int) (P : Option Addr) (pn pc : Nat) (ps : List Nat) (w : World) (hb : IsB w w.heap.size A n bs) (hp : IsB w w.heap.size P pn ps) (hpc : pn ≤ pc) (hat : at_ ≤ TOP) (hv : v < 256) (hz : -9223372036854775808 ≤ z ∧ z ≤ 9223372036854775807) :
    Calls Try.prog 4 #[.slice A n c, .int .u64 (at_ : Nat), .int .i64 z, .int .u8 (v : Nat), .slice P pn pc] w fun e w' => e = .returned (.bool true) ∧ Below w.heap.size w w' := by
  have HG := Lib.hid (ground_any A n c bs w hb)
  have HZ := Lib.hid hz
  obtain ⟨m, hm⟩ : ∃ m, m = min n 100 := ⟨_, rfl⟩
  rw [← hm] at HG
  have hm100 : m ≤ 100 := by omega
  have hat64 : at_ ≤ 18446744073709551615 := hat
  have hp63 := hp.2.2
  have HP := Lib.hid hp
  obtain ⟨pb, po, HPF⟩ := hp.form
  clear hb hat hz hm hp
  go_enter Try.func4, Try.ntmps4
  go_upto_region 4 with (go_at_call 19; refine HG.out.mono ?_; rintro e w1 ⟨g, Z, R, rfl, hm1, hzr, hb1⟩; have HM1 := Lib.hid hm1; have HZR := Lib.hid hzr; have HB1 := Lib.hid hb1; clear hm1 hzr hb1)
  clear HG
  go_wp2_with fail
  refine (within_any z 20000 w1 HZ.out (by omega)).mono ?_
  rintro e w' ⟨⟨N, rfl, hN⟩, rfl⟩
  clear HZ
  go_upto_if 29 with fail
  obtain ⟨pm, hpm⟩ : ∃ pm, pm = min pn 20000 := ⟨_, rfl⟩
  have HPM := Lib.hid hpm
  have hpm2 : pm ≤ 20000 := by omega
  clear hpm
  go_cut [4] (fun x wx => x = .slice P pm pc ∧ w1 = wx)
  case first =>
    by_cases h2 : 20000 < pn
    · obtain ⟨rfl, _, _⟩ := HPF.out (by omega)
      have e1 : pm = 20000 := by have := HPM.out; omega
      have hcc : 20000 ≤ pc := by omega
      have h3 : (20000 : Int) < (pn : Int) := by omega
      clear HPF
      go_wp2_with fail
      go_meet
      case rel => exact ⟨by rw [e1], rfl⟩
    · have e1 : pm = pn := by have := HPM.out; omega
      have h3 : ¬ (20000 : Int) < (pn : Int) := by omega
      go_wp2_with fail
      go_meet
      case rel => exact ⟨by rw [e1], rfl⟩
  case rest =>
  obtain ⟨rfl, rfl⟩ := hcut
  obtain ⟨ps', hps'⟩ : ∃ l, l = ps.take pm := ⟨_, rfl⟩
  have HPS : Hid (IsB w w.heap.size P pm ps') := Lib.hid (by rw [hps']; exact IsB.cutq HP.out (by have := HPM.out; omega))
  clear hps' HP HPM HPF hpc hp63
  go_wp2_with fail
  refine (all_g HM1.out rfl rfl (show 0 < 9223372036854775807 by decide)).mono ?_
  rintro e w2 ⟨bw, rfl, h1, h2, h3, h4, h5⟩
  have HR2 := Lib.hid h2
  have HM2 := Lib.hid h4
  have HNW : Hid (∀ k, Z k ∨ R k → k ≠ bw) := Lib.hid (fun k hk e => by
    rcases hk with hk | hk
    · have := HM1.out.z k hk; omega
    · have := HM1.out.r k hk; omega)
  have HGW : Hid (w.heap.size ≤ bw) := Lib.hid (Nat.le_trans HB1.out.size h1)
  have HZG : Hid (∀ x, Z x → w.heap.size ≤ x) := Lib.hid (fun x hx => HZR.out x (.inl hx))
  have HB2 : Hid (Below w.heap.size w w2) := Lib.hid (HB1.out.trans (h5.below HB1.out.size HZG.out))
  clear h1 h2 h3 h4 h5 HM1 HB1 HZR
  have HOG : Hid (OnG (gm bs m)) := Lib.hid ⟨rfl, rfl, gMem_out bs m hm100⟩
  obtain ⟨M1, y1, q1, hf1, hc1⟩ := fill_g (n := N) (a := at_) (v := v) HM2.out HOG.out (show 0 ≤ 100 by decide) hN hat64 hv
  have HF1 := Lib.hid hf1
  have HC1 := Lib.hid hc1
  clear hf1 hc1
  go_wp2_with fail
  refine HC1.out.mono ?_
  rintro e w3 ⟨rfl, hl⟩
  clear HC1
  obtain ⟨Z4, hft⟩ := FT.start y1 q1 HM2.out HNW.out HR2.out HGW.out HZG.out HB2.out hl
  have HT4 := Lib.hid hft
  clear hft hl HM2 HNW HR2 HGW HZG HB2
  go_upto_region 9 with fail
  obtain ⟨bf, hbf⟩ : ∃ bf, bf = w3.heap.size := ⟨_, rfl⟩
  generalize w3.alloc (.cells #[.int .i64 (y1 : Nat), .int .u64 (q1 : Nat)] 42) = w4 at *
  rw [← hbf] at HT4 ⊢
  clear hbf
  go_cut [14] (fun x wx => x = .bool (okB at_ N) ∧ w4 = wx)
  case first =>
    by_cases h0 : N = 0
    · have h1 : ((N : Int) == 0) = true := by simp [h0]
      go_wp2_with fail
      go_meet
      case rel => exact ⟨by rw [okB, decide_eq_true h0]; rfl, rfl⟩
    · have h1 : ((N : Int) == 0) = false := by simp; omega
      go_wp2_with (go_at_call 23; refine (inside_any at_ N w4 hat64 (by omega)).mono ?_; rintro e w' ⟨rfl, rfl⟩)
      go_meet
      case rel => exact ⟨by rw [okB, decide_eq_false h0]; rfl, rfl⟩
  case rest =>
  obtain ⟨rfl, rfl⟩ := hcut
  obtain ⟨ok1, hok1⟩ : ∃ b, b = okB at_ N := ⟨_, rfl⟩
  rw [← hok1]
  have HOK1 := Lib.hid hok1
  clear hok1
  have f0 := HT4.out.rf.cell 0
  have f1 := HT4.out.rf.cell 1
  have lf := HT4.out.rf.lt
  simp only [List.getElem?_cons_zero, List.getElem?_cons_succ] at f0 f1
  go_upto_region 10 with fail
  go_cut [59] (fun x wx => x = .bool false ∧ w4 = wx)
  case first =>
    cases ok1 with
    | true =>
      obtain ⟨hy, hq⟩ := HF1.out.yes HOK1.out.symm
      subst hy hq
      go_wp2_with fail
      go_meet
      case rel => exact ⟨rfl, rfl⟩
    | false =>
      have hy := HF1.out.no HOK1.out.symm
      subst hy
      go_wp2_with fail
      go_meet
      case rel => exact ⟨rfl, rfl⟩
  case rest =>
  obtain ⟨rfl, rfl⟩ := hcut
  clear f0 f1 lf
  obtain ⟨D, hD⟩ : ∃ D, D = okN ok1 N := ⟨_, rfl⟩
  have HD := Lib.hid hD
  clear hD
  have HS4 : Hid (FT w g Z4 R M1 bw bf (wantB (gm bs m).mem at_ 0 (fun _ => v)) y1 q1 w4) := Lib.hid (by rw [wantB_zero]; exact HT4.out)
  clear HT4
  go_wp2_with fail
  go_loopw [15] (fun i wr => ∃ j : Nat, j ≤ D ∧ i = .int .i64 (j : Nat) ∧ Hid (FT w g Z4 R M1 bw bf (wantB (gm bs m).mem at_ j (fun _ => v)) y1 q1 wr)) (fun i _ => D - (intOf i).toNat)
  case atStart => exact ⟨0, by omega, rfl, HS4⟩
  case round =>
  clear HS4
  obtain ⟨j, hj, rfl, HJ⟩ := hrel
  have hDN : D ≤ N := by rw [HD.out]; unfold okN; split <;> omega
  go_upto_region 13 with fail
  go_cut [65] (fun x wx => x = .bool (decide (j < D)) ∧ wr = wx)
  case first =>
    cases ok1 with
    | true =>
      have hD : D = N := HD.out
      by_cases hjN : j < N
      · have h3 : (j : Int) < (N : Int) := by omega
        go_wp2_with fail
        go_meet
        case rel => exact ⟨by rw [decide_eq_true (show j < D by omega)], rfl⟩
      · have h3 : ¬ (j : Int) < (N : Int) := by omega
        go_wp2_with fail
        go_meet
        case rel => exact ⟨by rw [decide_eq_false (show ¬ j < D by omega)], rfl⟩
    | false =>
      have hD : D = 0 := HD.out
      go_wp2_with fail
      go_meet
      case rel => exact ⟨by rw [decide_eq_false (show ¬ j < D by omega)], rfl⟩
  case rest =>
  obtain ⟨rfl, rfl⟩ := hcut
  by_cases hjD : j < D
  · rw [decide_eq_true hjD]
    have hin : 8192 ≤ at_ ∧ at_ + N ≤ 24576 := by
      have h1 : ok1 = true := by
        cases h : ok1 with
        | true => rfl
        | false => have h2 := HD.out; rw [h] at h2; unfold okN at h2; simp at h2; omega
      rcases okB_yes (HOK1.out ▸ h1) with h2 | h2
      · omega
      · exact h2
    obtain ⟨a, ha⟩ : ∃ a, a = at_ + j := ⟨_, rfl⟩
    obtain ⟨k, hk⟩ : ∃ k, k = a - 8192 := ⟨_, rfl⟩
    have ha1 : 8192 ≤ a := by omega
    have ha2 : a < 24576 := by omega
    have hk1 : k < 16384 := by omega
    have e1 : (at_ : Int) + (j : Int) = (a : Int) := by omega
    have e2 : (a : Int) - 8192 = (k : Int) := by omega
    have HNX := Lib.hid (HJ.out.set k v (wb' := wantB (gm bs m).mem at_ (j + 1) (fun _ => v)) (by rw [hk, ha]; exact wantB_set _ _ _ _ (by omega) (by omega)))
    have rk := HJ.out.row.cell k
    rw [wantB_get _ _ _ _ _ hk1] at rk
    have fk := HJ.out.row.frozen k
    have lr := HJ.out.row.lt
    clear hk ha hin
    go_wp2_with fail
    go_roundw
    case rel => exact ⟨j + 1, by omega, by go_num, HNX⟩
    case measure => simp [intOf]; omega
  · rw [decide_eq_false hjD]
    have e : j = D := by omega
    subst e
    have HT5 : Hid (FT w g Z4 R M1 bw bf (allB M1) y1 q1 wr) := Lib.hid (by
      have hwb := wantB_ok HF1.out
      rw [← HOK1.out, ← HD.out] at hwb
      rw [← hwb]
      exact HJ.out)
    have HS1 : Hid (M1.strays ≤ 1) := Lib.hid HF1.out.st
    clear HJ hj hjD HD hDN HOK1 hN
    go_wp2_with fail
    refine (all_g HT5.out.m HF1.out.og.rams HF1.out.og.devs (by have := HS1.out; omega)).mono ?_
    rintro e w5 ⟨b6, rfl, h1, h2, h3, h4, h5⟩
    have HT6 := Lib.hid (HT5.out.quiet h4 h5)
    have HI1 := Lib.hid (allB_isB h2 h3)
    have HI2 := Lib.hid (allB_isB HT6.out.row h3)
    clear h1 h2 h3 h4 h5 HT5
    go_wp2_with fail
    refine (same_yes _ _ 16384 16384 16384 (allB M1) w5 HI1.out HI2.out).mono ?_
    rintro e w6 ⟨rfl, mm, rfl⟩
    have HT7 := Lib.hid (HT6.out.below (below_drewN (Below.refl _ _) mm))
    clear HT6 HI1 HI2
    obtain ⟨M2, y2, q2, hf2, hc2⟩ := write_g (a := at_) (A := P) (cc := pc) (n := pm) (bs := ps') HT7.out.m HF1.out.og (by have := HS1.out; omega) hat64 ((HPS.out.below HT7.out.bel).more HT7.out.bel.size) (fun ad ha h0 hz => by
      have h8 := IsB.blk HPS.out ad ha h0
      have h9 := HT7.out.ge _ hz
      omega)
    have HF2 := Lib.hid hf2
    have HC2 := Lib.hid hc2
    clear hf2 hc2
    go_wp2_with fail
    refine HC2.out.mono ?_
    rintro e w8 ⟨rfl, hl⟩
    clear HC2
    obtain ⟨Z8, hft⟩ := HT7.out.laid hl
    have HT8 := Lib.hid (hft.fset y2 q2)
    have g0 := hft.rf.cell 0
    have g1 := hft.rf.cell 1
    have gf0 := hft.rf.frozen 0
    have gf1 := hft.rf.frozen 1
    have lf := hft.rf.lt
    simp only [List.getElem?_cons_zero, List.getElem?_cons_succ] at g0 g1
    clear hft hl HT7
    go_upto_region 19 with fail
    clear g0 g1 gf0 gf1 lf
    generalize (w8.setCell ⟨bf, 0, none⟩ (.int .i64 (y2 : Nat))).setCell ⟨bf, 1, none⟩ (.int .u64 (q2 : Nat)) = w9 at *
    go_cut [14] (fun x wx => x = .bool (okB at_ pm) ∧ w9 = wx)
    case first =>
      by_cases h0 : pm = 0
      · have h1 : ((pm : Int) == 0) = true := by simp [h0]
        go_wp2_with fail
        go_meet
        case rel => exact ⟨by rw [okB, decide_eq_true h0]; rfl, rfl⟩
      · have h1 : ((pm : Int) == 0) = false := by simp; omega
        go_wp2_with (go_at_call 23; refine (inside_any at_ pm w9 hat64 (by omega)).mono ?_; rintro e w' ⟨rfl, rfl⟩)
        go_meet
        case rel => exact ⟨by rw [okB, decide_eq_false h0]; rfl, rfl⟩
    case rest =>
    obtain ⟨rfl, rfl⟩ := hcut
    obtain ⟨ok2, hok2⟩ : ∃ b, b = okB at_ pm := ⟨_, rfl⟩
    rw [← hok2]
    have HOK2 := Lib.hid hok2
    clear hok2
    have f0 := HT8.out.rf.cell 0
    have f1 := HT8.out.rf.cell 1
    have lf := HT8.out.rf.lt
    simp only [List.getElem?_cons_zero, List.getElem?_cons_succ] at f0 f1
    go_upto_region 20 with fail
    go_cut [98] (fun x wx => x = .bool false ∧ w9 = wx)
    case first =>
      cases ok2 with
      | true =>
        obtain ⟨hy, hq⟩ := HF2.out.yes HOK2.out.symm
        subst hy hq
        go_wp2_with fail
        go_meet
        case rel => exact ⟨rfl, rfl⟩
      | false =>
        have hy := HF2.out.no HOK2.out.symm
        subst hy
        go_wp2_with fail
        go_meet
        case rel => exact ⟨rfl, rfl⟩
    case rest =>
    obtain ⟨rfl, rfl⟩ := hcut
    clear f0 f1 lf
    obtain ⟨D, hD⟩ : ∃ D, D = okN ok2 pm := ⟨_, rfl⟩
    have HD := Lib.hid hD
    clear hD
    have HS4 : Hid (FT w g Z8 R M2 bw bf (wantB M1.mem at_ 0 (fun i => ps'.getD i 0)) y2 q2 w9) := Lib.hid (by rw [wantB_zero]; exact HT8.out)
    clear HT8
    go_wp2_with fail
    go_loopw [16] (fun i wr => ∃ j : Nat, j ≤ D ∧ i = .int .i64 (j : Nat) ∧ Hid (FT w g Z8 R M2 bw bf (wantB M1.mem at_ j (fun i => ps'.getD i 0)) y2 q2 wr)) (fun i _ => D - (intOf i).toNat)
    case atStart => exact ⟨0, by omega, rfl, HS4⟩
    case round =>
    clear HS4
    obtain ⟨j, hj, rfl, HJ⟩ := hrel
    have hDN : D ≤ pm := by rw [HD.out]; unfold okN; split <;> omega
    go_upto_region 23 with fail
    go_cut [105] (fun x wx => x = .bool (decide (j < D)) ∧ wr = wx)
    case first =>
      cases ok2 with
      | true =>
        have hD : D = pm := HD.out
        by_cases hjN : j < pm
        · have h3 : (j : Int) < (pm : Int) := by omega
          go_wp2_with fail
          go_meet
          case rel => exact ⟨by rw [decide_eq_true (show j < D by omega)], rfl⟩
        · have h3 : ¬ (j : Int) < (pm : Int) := by omega
          go_wp2_with fail
          go_meet
          case rel => exact ⟨by rw [decide_eq_false (show ¬ j < D by omega)], rfl⟩
      | false =>
        have hD : D = 0 := HD.out
        go_wp2_with fail
        go_meet
        case rel => exact ⟨by rw [decide_eq_false (show ¬ j < D by omega)], rfl⟩
    case rest =>
    obtain ⟨rfl, rfl⟩ := hcut
    by_cases hjD : j < D
    · rw [decide_eq_true hjD]
      have hin : 8192 ≤ at_ ∧ at_ + pm ≤ 24576 := by
        have h1 : ok2 = true := by
          cases h : ok2 with
          | true => rfl
          | false => have h2 := HD.out; rw [h] at h2; unfold okN at h2; simp at h2; omega
        rcases okB_yes (HOK2.out ▸ h1) with h2 | h2
        · omega
        · exact h2
      obtain ⟨a, ha⟩ : ∃ a, a = at_ + j := ⟨_, rfl⟩
      obtain ⟨k, hk⟩ : ∃ k, k = a - 8192 := ⟨_, rfl⟩
      have ha1 : 8192 ≤ a := by omega
      have ha2 : a < 24576 := by omega
      have hk1 : k < 16384 := by omega
      have e1 : (at_ : Int) + (j : Int) = (a : Int) := by omega
      have e2 : (a : Int) - 8192 = (k : Int) := by omega
      have hjp : (j : Int) < (pm : Int) := by omega
      obtain ⟨pb, po, HPF⟩ := (HPS.out.below HJ.out.bel).form
      obtain ⟨rfl, hpb, hpc⟩ := HPF.out (by omega)
      have cp := hpc j (by omega)
      obtain ⟨u, hu⟩ : ∃ u, u = ps'.getD j 0 := ⟨_, rfl⟩
      rw [← hu] at cp
      have HNX := Lib.hid (HJ.out.set k u (wb' := wantB M1.mem at_ (j + 1) (fun i => ps'.getD i 0)) (by rw [hk, ha, hu]; exact wantB_set M1.mem at_ j (fun i => ps'.getD i 0) (by omega) (by omega)))
      have rk := HJ.out.row.cell k
      rw [wantB_get _ _ _ _ _ hk1] at rk
      have fk := HJ.out.row.frozen k
      have lr := HJ.out.row.lt
      clear hk ha hin hpc HPF hu
      go_wp2_with fail
      go_roundw
      case rel => exact ⟨j + 1, by omega, by go_num, HNX⟩
      case measure => simp [intOf]; omega
    · rw [decide_eq_false hjD]
      have e : j = D := by omega
      subst e
      have HT9 : Hid (FT w g Z8 R M2 bw bf (allB M2) y2 q2 wr) := Lib.hid (by
        have hwb := wantB_ok HF2.out
        rw [← HOK2.out, ← HD.out] at hwb
        rw [← hwb]
        exact HJ.out)
      have HS2 : Hid (M2.strays ≤ 2) := Lib.hid (by have := HF2.out.st; have := HS1.out; omega)
      clear HJ hj hjD HD hDN HOK2 HPS hpm2
      go_wp2_with fail
      go_loopw [17, 18] (fun kp i wx => ∃ t : Nat, t ≤ 4 ∧ i = .int .i64 (t : Nat) ∧ kp = .int .i64 ((kc M2.mem t : Nat) : Int) ∧ wr = wx) (fun _ i _ => 4 - (intOf i).toNat)
      case atStart => exact ⟨0, by omega, rfl, rfl, rfl⟩
      case round =>
      obtain ⟨t, ht, rfl, rfl, rfl⟩ := hrel
      obtain ⟨kt, hkt⟩ : ∃ x, x = kc M2.mem t := ⟨_, rfl⟩
      have hkt4 : kt ≤ 4 := by have := kc_le M2.mem t; omega
      rw [← hkt]
      have HKT := Lib.hid hkt
      clear hkt
      by_cases ht4 : t < 4
      · go_wp2_with fail
        go_loopw [19, 20] (fun s j wx => ∃ d : Nat, d ≤ 4096 ∧ j = .int .i64 (d : Nat) ∧ s = .bool (sm M2.mem (t + 2) d) ∧ wr = wx) (fun _ j _ => 4096 - (intOf j).toNat)
        case atStart => exact ⟨0, by omega, rfl, rfl, rfl⟩
        case round =>
        obtain ⟨d, hd, rfl, rfl, rfl⟩ := hrel
        by_cases hd4 : d < 4096
        · cases hs : sm M2.mem (t + 2) d with
          | true =>
            have HSN : Hid (sm M2.mem (t + 2) (d + 1) = true) := Lib.hid (by rw [sm_next, hs]; rfl)
            clear hs
            go_wp2_with fail
            go_roundw
            case rel => exact ⟨d + 1, by omega, by go_num, by rw [HSN.out], (by first | rfl | trivial)⟩
            case measure => simp [intOf]; omega
          | false =>
            obtain ⟨x, hx⟩ : ∃ x, x = M2.mem (4096 * (t + 2) + d) := ⟨_, rfl⟩
            have HSN : Hid (sm M2.mem (t + 2) (d + 1) = (x != 0)) := Lib.hid (by rw [sm_next, hs, hx]; rfl)
            obtain ⟨k, hk⟩ : ∃ k, k = 4096 * t + d := ⟨_, rfl⟩
            have hk1 : k < 16384 := by omega
            have e1 : 4096 * (t : Int) + (d : Int) = (k : Int) := by omega
            have rk := HT9.out.row.cell k
            rw [allB_get _ _ hk1, show 8192 + k = 4096 * (t + 2) + d by omega, ← hx] at rk
            have lr := HT9.out.row.lt
            clear hs hx hk
            have h4t : (4096 : Int) * (t : Int) ≤ 16384 := by omega
            have h4u : (0 : Int) ≤ (4096 : Int) * (t : Int) := by omega
            by_cases hx0 : x = 0
            · have hb : ((x : Int) != 0) = false := by rw [hx0]; rfl
              have HSM : Hid (sm M2.mem (t + 2) (d + 1) = false) := Lib.hid (by rw [HSN.out, hx0]; rfl)
              clear hx0 HSN
              go_wp2_with fail
              go_roundw
              case rel => exact ⟨d + 1, by omega, by go_num, by rw [HSM.out], (by first | rfl | trivial)⟩
              case measure => simp [intOf]; omega
            · have hb : ((x : Int) != 0) = true := by rw [bne_iff_ne]; omega
              have HSM : Hid (sm M2.mem (t + 2) (d + 1) = true) := Lib.hid (by rw [HSN.out, bne_iff_ne]; exact hx0)
              clear hx0 HSN
              go_wp2_with fail
              go_roundw
              case rel => exact ⟨d + 1, by omega, by go_num, by rw [HSM.out], (by first | rfl | trivial)⟩
              case measure => simp [intOf]; omega
        · have e : d = 4096 := by omega
          subst e
          rw [sm_end]
          cases hs : lz M2.mem (t + 2) with
          | true =>
            have HKN : Hid (kt = kc M2.mem (t + 1)) := Lib.hid (by rw [kc, hs, if_pos rfl, HKT.out]; rfl)
            clear hs
            simp only [Bool.not_true]
            go_wp2_with fail
            go_roundw
            case rel => exact ⟨t + 1, by omega, by go_num, by rw [HKN.out], (by first | rfl | trivial)⟩
            case measure => simp [intOf]; omega
          | false =>
            have HKN : Hid (kt + 1 = kc M2.mem (t + 1)) := Lib.hid (by rw [kc, hs, if_neg (by decide), HKT.out])
            clear hs
            simp only [Bool.not_false]
            go_wp2_with fail
            go_roundw
            case rel => exact ⟨t + 1, by omega, by go_num, by rw [← HKN.out]; go_num, (by first | rfl | trivial)⟩
            case measure => simp [intOf]; omega
      · have e : t = 4 := by omega
        subst e
        have HK4 : Hid (kt = (gKs M2.mem).length) := Lib.hid (by rw [HKT.out, kc_four])
        clear HKT
        go_wp2_with fail
        refine (all_g HT9.out.m HF2.out.og.rams HF2.out.og.devs (by have := HS2.out; omega)).mono ?_
        rintro e w5 ⟨b6, rfl, h1, h2, h3, h4, h5⟩
        have HT6 := Lib.hid (HT9.out.quiet h4 h5)
        have HI1 := Lib.hid (allB_isB h2 h3)
        have HI2 := Lib.hid (allB_isB HT6.out.row h3)
        clear h1 h2 h3 h4 h5 HT9
        go_wp2_with fail
        refine (same_yes _ _ 16384 16384 16384 (allB M2) w5 HI1.out HI2.out).mono ?_
        rintro e w6 ⟨rfl, mm, rfl⟩
        have HT7 := Lib.hid (HT6.out.below (below_drewN (Below.refl _ _) mm))
        clear HT6 HI1 HI2
        go_wp2_with fail
        refine (kept_g HT7.out.m HF2.out.og.out).mono ?_
        rintro e w' ⟨rfl, rfl⟩
        rw [← HK4.out]
        go_wp2_with fail
        go_ret
        exact ⟨by first | rfl | trivial, HT7.out.bel⟩
end Bu
end Go.Proofs.Ytmhkmemaneopeaa
