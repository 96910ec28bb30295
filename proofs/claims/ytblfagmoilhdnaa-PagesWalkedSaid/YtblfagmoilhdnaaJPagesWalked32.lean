/- Texts of this claim, one behind the other: PrY, PwA, PwB, PwC, PwD. -/
import Derived.Test.YtblfagmoilhdnaaJPagesWalked31
import Derived.Test.YtblfagmoilhdnaaJPagesWalked27
import Derived.Test.YtblfagmoilhdnaaJPagesWalked17
import Derived.Test.YtblfagmoilhdnaaJPagesWalked24
import Derived.Test.YtblfagmoilhdnaaJPagesWalked15
/- The walk of the document's Build, of any rows. -/
set_option linter.unusedVariables false
set_option linter.unusedSimpArgs false
namespace Go.Proofs.Ytblfagmoilhdnaa
open Go.RowKit
namespace Pg
theorem entry_lt {base : Nat} {L : List Lab} {qs : List Pge} (hc : Chain qs) (t : Lab) (e : Nat) : entry base L qs t e < 18446744073709551616 := by
  have hp : ∀ b k, pageAt qs b k < 18446744073709551616 := by
    intro b k
    unfold pageAt
    cases hf : qs.find? (fun q => q.b == b && q.v / bu b == k) with
    | none => simp
    | some q => exact num_lt (hc.2 q (List.mem_of_find?_eq_some hf))
  unfold entry
  repeat' split
  all_goals first | exact ptr_lt _ _ | exact hp _ _ | decide
theorem rep_lt {base : Nat} {L : List Lab} {qs : List Pge} {all : List (List Nat)} (h : Rep base L qs all) (hc : Chain qs) (hl : ∀ a ∈ all, a.length = 512) : Tabs all := by
  intro t ht
  refine ⟨hl t ht, fun x hx => ?_⟩
  obtain ⟨i, hi, rfl⟩ := List.getElem_of_mem ht
  obtain ⟨e, he, rfl⟩ := List.getElem_of_mem hx
  have h5 := hl _ ht
  have hiL : i < L.length := by rw [← h.len]; exact hi
  have h1 := h.ent i L[i] (List.getElem?_eq_getElem hiL) e (by omega)
  unfold cell at h1
  rw [List.getD_eq_getElem?_getD (l := all), List.getElem?_eq_getElem hi, Option.getD_some, List.getD_eq_getElem?_getD, List.getElem?_eq_getElem he, Option.getD_some] at h1
  rw [h1]
  exact entry_lt hc _ _
end Pg
set_option maxRecDepth 100000 in
set_option maxHeartbeats 1000000 in
theorem rbuild_any (A : Option Addr) (n c base : Nat) (rows : List Pg.Lf) (w : World) (hr : IsL w w.heap.size A n rows) (hbl : base < 18446744073709551616) :
    Calls Try.prog 34 #[.slice A n c, .int .u64 (base : Nat)] w fun e w' => ∃ A' c', e = .returned (tansV A' c' (Pg.ansB rows base)) ∧ IsT w w' A' c' (Pg.ansB rows base).1 := by
  obtain ⟨B2, hB2⟩ : ∃ B2, B2 = base / 4096 * 4096 % 4294967296 := ⟨_, rfl⟩
  have hC := Pg.refC_ans rows B2
  have hans : Pg.ansB rows base = (if (Pg.ans rows B2).2 ≠ 0 then ([], (Pg.ans rows B2).2) else if base % 4096 ≠ 0 then ([], 33) else if 4294967296 ≤ base ∨ (4294967296 - base) / 4096 < (Pg.ans rows B2).1.length then ([], 34) else (Pg.ans rows B2)) := by
    rw [hB2]; rfl
  by_cases hgood : (Pg.ans rows B2).2 = 0 ∧ base % 4096 = 0 ∧ ¬ (4294967296 ≤ base ∨ (4294967296 - base) / 4096 < (Pg.ans rows B2).1.length)
  · obtain ⟨g1, g2, g3⟩ := hgood
    obtain ⟨hrt, hch, s, hs, hkn, hls⟩ := Pg.ans_known g1
    have hlen := Pg.ans_len rows B2 g1
    have hrl := Pg.refT_len hrt B2
    have hcap : (Pg.refT rows).length ≤ 1024 := by
      rcases Nat.lt_or_ge 1024 (Pg.refT rows).length with h | h
      · rw [hrl.1.1 h] at hs; cases hs
      · exact h
    have hll : (Pg.refT rows).length = (Pg.ans rows B2).1.length := by
      rw [hrl.2 hcap, hls, hkn.rep.len]
    have hbb : B2 = base := by omega
    rw [hbb] at hB2 hans hll g1 hlen g3
    refine (rbuild_ok A n c base rows w hr g2 hrt hcap (by rw [hll]; omega) (by omega)).mono ?_
    rintro e w' ⟨A', c', all, rfl, hrep, hla, hown, h5, hbel⟩
    have ha := Pg.rep_ans hrt hcap hrep
    have hB : Pg.ansB rows base = (all, 0) := by
      rw [hans, if_neg (by simp [g1]), if_neg (by simp [g2]), if_neg g3, ha]
    rw [hB]
    exact ⟨A', c', by unfold tansV; rw [hla]; rfl, hown, Pg.rep_lt hrep hch h5, hbel⟩
  · have HRC := Lib.hid (rcount_any A n c rows w hr)
    have HL := Lib.hid (Pg.ans_len rows B2)
    rw [hC] at HRC
    obtain ⟨a, ha⟩ : ∃ a, a = Pg.ans rows B2 := ⟨_, rfl⟩
    rw [← ha] at HRC hgood hans HL
    obtain ⟨l, f⟩ := a
    simp only at HRC hans hgood HL
    obtain ⟨R, hR⟩ : ∃ R, R = Pg.ansB rows base := ⟨_, rfl⟩
    rw [← hR] at hans ⊢
    obtain ⟨nl, hnl⟩ : ∃ nl, nl = l.length := ⟨_, rfl⟩
    rw [← hnl] at HRC hgood hans HL
    obtain ⟨M, hM⟩ : ∃ M, M = base % 4096 := ⟨_, rfl⟩
    rw [← hM] at hgood hans
    have h4 : (base : Int) % 4096 = (M : Int) := by omega
    have h5 : (base : Int).tmod 4096 = (M : Int) := by rw [Int.tmod_eq_emod_of_nonneg (by omega)]; exact h4
    have HRES := Lib.hid hans
    clear ha hC hans hR hnl hM hB2 hr
    unfold tansV
    by_cases hf : f = 0
    · have q1 : ((f : Int) != 0) = false := by rw [bne_eq_false_iff_eq]; omega
      have hl := HL.out hf
      have hl2 := hl.2
      have HF := Lib.hid hf
      by_cases hm : M = 0
      · have hq : 4294967296 ≤ base ∨ (4294967296 - base) / 4096 < nl := by
          rcases Classical.em (4294967296 ≤ base ∨ (4294967296 - base) / 4096 < nl) with h | h
          · exact h
          · exact absurd ⟨hf, hm, h⟩ hgood
        have q2 : decide ((0 : Int) < (M : Int)) = false := decide_eq_false (by omega)
        have q2' : decide (0 < M) = false := decide_eq_false (by omega)
        have HM := Lib.hid hm
        have HQ := Lib.hid hq
        have e1 : IntKind.u64.wrap (nl : Int) = (nl : Int) := by rw [IntKind.wrap_u64]; omega
        by_cases q6 : 4294967296 ≤ base
        · have f6 : decide ((4294967296 : Int) ≤ (base : Int)) = true := decide_eq_true (by omega)
          clear hf hm hq hgood hl q6
          go_enter Try.func34, Try.ntmps34
          go_wp2_with fail
          refine HRC.out.mono ?_
          rintro e w1 ⟨rfl, hb1⟩
          have HB1 := Lib.hid hb1
          clear hb1 HRC
          go_wp2_with fail
          go_ret2
          rw [HRES.out, if_neg (by simp [HF.out]), if_neg (by simp [HM.out]), if_pos HQ.out]
          exact ⟨none, 0, rfl, IsT.nil HB1.out⟩
        · obtain ⟨D, hD⟩ : ∃ D, D = 4294967296 - base := ⟨_, rfl⟩
          have e2 : IntKind.u64.wrap ((4294967296 : Int) - (base : Int)) = (D : Int) := by rw [IntKind.wrap_u64]; omega
          obtain ⟨Z, hZ⟩ : ∃ Z, Z = D / 4096 := ⟨_, rfl⟩
          have e3 : (D : Int) / 4096 = (Z : Int) := by omega
          have e6 : IntKind.u64.wrap (Z : Int) = (Z : Int) := by rw [IntKind.wrap_u64]; omega
          have e4 : decide (Z < nl) = true := decide_eq_true (by omega)
          have e5 : decide ((4294967296 : Int) ≤ (base : Int)) = false := decide_eq_false (by omega)
          clear hf hm hq hgood hl q6 hD hZ
          go_enter Try.func34, Try.ntmps34
          go_wp2_with fail
          refine HRC.out.mono ?_
          rintro e w1 ⟨rfl, hb1⟩
          have HB1 := Lib.hid hb1
          clear hb1 HRC
          go_wp2_with fail
          go_ret2
          rw [HRES.out, if_neg (by simp [HF.out]), if_neg (by simp [HM.out]), if_pos HQ.out]
          exact ⟨none, 0, rfl, IsT.nil HB1.out⟩
      · have q2 : decide ((0 : Int) < (M : Int)) = true := decide_eq_true (by omega)
        have q2' : decide (0 < M) = true := decide_eq_true (by omega)
        have HM := Lib.hid hm
        clear hf hm hgood hl
        go_enter Try.func34, Try.ntmps34
        go_wp2_with fail
        refine HRC.out.mono ?_
        rintro e w1 ⟨rfl, hb1⟩
        have HB1 := Lib.hid hb1
        clear hb1 HRC
        go_wp2_with fail
        go_ret2
        rw [HRES.out, if_neg (by simp [HF.out]), if_pos HM.out]
        exact ⟨none, 0, rfl, IsT.nil HB1.out⟩
    · have q1 : ((f : Int) != 0) = true := by rw [bne_iff_ne]; omega
      have HF := Lib.hid hf
      clear hf hgood
      go_enter Try.func34, Try.ntmps34
      go_wp2_with fail
      refine HRC.out.mono ?_
      rintro e w1 ⟨rfl, hb1⟩
      have HB1 := Lib.hid hb1
      clear hb1 HRC
      go_wp2_with fail
      go_ret2
      rw [HRES.out, if_pos HF.out]
      exact ⟨none, 0, rfl, IsT.nil HB1.out⟩
end Go.Proofs.Ytblfagmoilhdnaa

/- Plain law: walking tables that lie in a machine's memory answers what the pages say. -/
set_option linter.unusedVariables false
set_option linter.unusedSimpArgs false
namespace Go.Proofs.Ytblfagmoilhdnaa
namespace Pg
open Bu
/-- the tables lie in the memory -/
structure LiesM (M : PM) (base : Nat) (all : List (List Nat)) : Prop where
  al : base % 4096 = 0
  hi : base + all.length * 4096 ≤ 4294967296
  bus : ∀ p, base ≤ p → p < base + all.length * 4096 → onM M p = true
  num : ∀ i e, i < all.length → e < 512 → numB M.mem (base + i * 4096 + 8 * e) 8 = cell all i e
theorem LiesM.rd {M : PM} {base : Nat} {all : List (List Nat)} (h : LiesM M base all) {i e : Nat} (hi : i < all.length) (he : e < 512) : rdM M (base + i * 4096 + 8 * e) = some (cell all i e) := by
  unfold rdM
  rw [if_pos, h.num i e hi he]
  rw [List.all_eq_true]
  intro k hk
  have hk := List.mem_range.1 hk
  exact h.bus _ (by omega) (by omega)
theorem LiesM.ent {M : PM} {base : Nat} {all : List (List Nat)} (h : LiesM M base all) {i e : Nat} (hi : i < all.length) (he : e < 512) (lv : Nat) : entM M (base + i * 4096) e lv = Ent.say (cell all i e) lv := by
  unfold entM
  rw [h.rd hi he]
def covers (q : Pge) (virt : Nat) : Prop := q.v ≤ virt ∧ virt < q.v + q.u
theorem cov_idx {q : Pge} {virt : Nat} (hq : q.Ok) (h : covers q virt) : q.v / 1073741824 = virt / 1073741824 ∧ q.v / 2097152 = virt / 2097152 ∧ (q.b = false → q.v / 4096 = virt / 4096) ∧ virt % q.u = virt - q.v := by
  obtain ⟨h1, h2⟩ := h
  have ha := hq.va
  rcases q.u_or with ⟨hu, hb⟩ | ⟨hu, hb⟩
  · rw [hu] at h2 ha ⊢
    refine ⟨by omega, by omega, fun h => (by rw [hb] at h; cases h), by omega⟩
  · rw [hu] at h2 ha ⊢
    refine ⟨by omega, by omega, fun _ => by omega, by omega⟩
theorem idx_cov {q : Pge} {virt : Nat} (hq : q.Ok) (h : q.v / q.u = virt / q.u) : covers q virt := by
  have ha := hq.va
  unfold covers
  rcases q.u_or with ⟨hu, hb⟩ | ⟨hu, hb⟩
  · rw [hu] at h ha ⊢
    omega
  · rw [hu] at h ha ⊢
    omega
theorem chain_cov {qs : List Pge} (hc : Chain qs) {q r : Pge} (hq : q ∈ qs) (hr : r ∈ qs) {virt : Nat} (h1 : covers q virt) (h2 : covers r virt) : q = r := by
  have hp := hc.1
  unfold covers at h1 h2
  by_cases h : q = r
  · exact h
  · rcases List.mem_iff_getElem.1 hq with ⟨i, hi, rfl⟩
    rcases List.mem_iff_getElem.1 hr with ⟨j, hj, rfl⟩
    have hij : i ≠ j := fun e => h (by subst e; rfl)
    rcases Nat.lt_or_gt_of_ne hij with hl | hl
    · have := List.pairwise_iff_getElem.1 hp i j hi hj hl; omega
    · have := List.pairwise_iff_getElem.1 hp j i hj hi hl; omega
theorem say_smallp {q : Pge} (hq : q.Ok) (hb : q.b = false) : Ent.say q.num 2 = (⟨q.p, false, false, q.w, q.x⟩, 0) := by
  have hu : q.u = 4096 := by rcases q.u_or with ⟨_, h⟩ | ⟨h, _⟩; rw [hb] at h; cases h; exact h
  have h1 := hq.pa; have h2 := hq.pl
  rw [hu] at h1 h2
  have h := say_add (F := q.p) (by omega) (by omega) 2 q.b q.w q.x (by unfold Ent.wrong; rw [hb]; simp)
  rw [hb] at h
  unfold Pge.num
  rw [hb]
  simpa using h
theorem say_zero (lv : Nat) : Ent.say 0 lv = (Ent.zero, 41) := by
  unfold Ent.say
  rw [if_pos (by decide)]
theorem pageAt_zero {qs : List Pge} {b : Bool} {k : Nat} (h : pageAt qs b k = 0) : ∀ q ∈ qs, ¬ (q.b = b ∧ q.v / bu b = k) := by
  unfold pageAt at h
  split at h
  · unfold Pge.num at h; omega
  · rename_i hf
    intro q hq hh
    have := List.find?_eq_none.1 hf q hq
    simp [hh.1, hh.2] at this
/-- what the pages say of an address -/
def askQ (q : Option Pge) (virt : Nat) (access : Int) : Nat × Nat := match q with
  | none => (0, 41)
  | some q => if access = 2 ∧ q.w = false then (0, 43) else if access = 3 ∧ q.x = false then (0, 44) else (q.p + (virt - q.v), 0)
theorem trw_step (M : PM) (virt : Nat) (access : Int) (k lv tab : Nat) {i : Nat} {y : Ent.E} {no : Nat} (hi : ixv virt lv = i) (h : entM M tab i lv = (y, no)) : trw M virt access (k + 1) lv tab =
    if no ≠ 0 then (0, no) else if y.t = true then trw M virt access k (lv + 1) y.F else if access = 2 ∧ y.w = false then (0, 43) else if access = 3 ∧ y.x = false then (0, 44) else (y.F + virt % Bu.rch lv, 0) := by
  subst hi
  rw [trw, h]
theorem idx1 (virt : Nat) : virt / 1073741824 * 512 + virt / 2097152 % 512 = virt / 2097152 := by omega
theorem idx2 (virt : Nat) : virt / 2097152 * 512 + virt / 4096 % 512 = virt / 4096 := by omega
theorem walk_pages {M : PM} {base : Nat} {qs : List Pge} {all : List (List Nat)} (hr : Rep base (tabs qs) qs all) (hc : Chain qs) (hl : LiesM M base all) {virt : Nat} (hv : virt < 549755813888) {access : Int} (ha : 1 ≤ access ∧ access ≤ 3) (o : Option Pge)
    (ho : match o with | none => ∀ q ∈ qs, ¬ covers q virt | some q => q ∈ qs ∧ covers q virt) : trI M base virt access = askQ o virt access := by
  have hi := hl.hi
  have hal := hl.al
  have hlen := hr.len
  have h0 : (tabs qs)[0]? = some (0, 0) := (good_tabs qs).root
  have hpos : 0 < all.length := by rw [hlen]; exact (List.getElem?_eq_some_iff.1 h0).1
  unfold trI
  rw [if_neg (by omega), if_neg (by omega), if_neg (by omega)]
  have ei0 : ixv virt 0 = virt / 1073741824 := by unfold ixv; rw [Bu.rch0]; omega
  have ei1 : ixv virt 1 = virt / 2097152 % 512 := by unfold ixv; rw [Bu.rch1]
  have ei2 : ixv virt 2 = virt / 4096 % 512 := by unfold ixv; rw [Bu.rch2]
  have hE0 := hl.ent (i := 0) (e := virt / 1073741824) hpos (by omega) 0
  rw [Nat.zero_mul, Nat.add_zero, hr.ent 0 _ h0 _ (by omega)] at hE0
  have hin : ∀ q ∈ qs, covers q virt → (1, virt / 1073741824) ∈ tabs qs ∧ (q.b = false → (2, virt / 2097152) ∈ tabs qs) := fun q hq hcq => by
    obtain ⟨c1, c2, _, _⟩ := cov_idx (hc.2 q hq) hcq
    exact ⟨mem_tabs.2 (.inr ⟨q, hq, .inl (by rw [c1])⟩), fun hb => mem_tabs.2 (.inr ⟨q, hq, .inr ⟨hb, by rw [c2]⟩⟩)⟩
  have hno : (∀ q ∈ qs, ¬ covers q virt) → o = none := fun h => by
    cases o with
    | none => rfl
    | some q => exact absurd ho.2 (h q ho.1)
  have hyes : ∀ q ∈ qs, covers q virt → o = some q := fun q hq hcq => by
    cases o with
    | none => exact absurd hcq (ho q hq)
    | some r => rw [chain_cov hc hq ho.1 hcq ho.2]
  by_cases hm1 : (1, virt / 1073741824) ∈ tabs qs
  case neg =>
    have he : entry base (tabs qs) qs (0, 0) (virt / 1073741824) = 0 := by unfold entry; rw [if_pos rfl, if_neg hm1]
    rw [he, say_zero] at hE0
    rw [trw_step M virt access 2 0 base ei0 hE0, if_pos (by decide), hno (fun q hq h => hm1 (hin q hq h).1)]
    rfl
  have hx1 := List.idxOf_lt_length_of_mem hm1
  have ha1 := at_idx hm1
  have he0 : entry base (tabs qs) qs (0, 0) (virt / 1073741824) = ptr base ((tabs qs).idxOf (1, virt / 1073741824)) := by unfold entry; rw [if_pos rfl, if_pos hm1]
  rw [he0] at hE0
  clear he0
  generalize (tabs qs).idxOf (1, virt / 1073741824) = i1 at *
  obtain ⟨p1, s1⟩ := say_ptr (base := base) (n := i1) (lv := 0) hal (by omega) (by decide)
  rw [p1, s1] at hE0
  rw [trw_step M virt access 2 0 base ei0 hE0, if_neg (by decide), if_pos rfl]
  have hE1 := hl.ent (i := i1) (e := virt / 2097152 % 512) (by omega) (by omega) 1
  rw [hr.ent i1 _ ha1 _ (by omega)] at hE1
  have hk1 := idx1 virt
  by_cases hm2 : (2, virt / 2097152) ∈ tabs qs
  · have he1 : entry base (tabs qs) qs (1, virt / 1073741824) (virt / 2097152 % 512) = ptr base ((tabs qs).idxOf (2, virt / 2097152)) := by
      unfold entry
      rw [if_neg (show ¬ (1 : Nat) = 0 by decide), if_pos rfl]
      simp only
      rw [hk1, if_pos hm2]
    have hx2 := List.idxOf_lt_length_of_mem hm2
    have ha2 := at_idx hm2
    rw [he1] at hE1
    clear he1
    generalize (tabs qs).idxOf (2, virt / 2097152) = i2 at *
    obtain ⟨p2, s2⟩ := say_ptr (base := base) (n := i2) (lv := 1) hal (by omega) (by decide)
    rw [p2, s2] at hE1
    rw [trw_step M virt access 1 1 _ ei1 hE1, if_neg (by decide), if_pos rfl]
    have hE2 := hl.ent (i := i2) (e := virt / 4096 % 512) (by omega) (by omega) 2
    rw [hr.ent i2 _ ha2 _ (by omega)] at hE2
    have he2 : entry base (tabs qs) qs (2, virt / 2097152) (virt / 4096 % 512) = pageAt qs false (virt / 4096) := by
      unfold entry
      rw [if_neg (show ¬ (2 : Nat) = 0 by decide), if_neg (show ¬ (2 : Nat) = 1 by decide)]
      simp only
      rw [idx2]
    rw [he2] at hE2
    rcases pageAt_some (qs := qs) (b := false) (k := virt / 4096) with hp | ⟨q, hq, hqb, hqk, hqn⟩
    · rw [hp, say_zero] at hE2
      rw [trw_step M virt access 0 2 _ ei2 hE2, if_pos (by decide), hno ?_]
      · rfl
      intro q hq hcq
      obtain ⟨c1, c2, c3, c4⟩ := cov_idx (hc.2 q hq) hcq
      cases hb : q.b with
      | false => exact pageAt_zero hp q hq ⟨hb, by unfold bu; simpa using c3 hb⟩
      | true =>
        rcases mem_tabs.1 hm2 with h | ⟨r, hr', h | ⟨hrb, h⟩⟩
        · injection h with h _; cases h
        · injection h with h _; cases h
        · injection h with _ h
          have hro := hc.2 r hr'
          have hrv := hro.va
          have hqv := (hc.2 q hq).va
          have hru : r.u = 4096 := by rcases r.u_or with ⟨_, h⟩ | ⟨h, _⟩; rw [hrb] at h; cases h; exact h
          have hqu : q.u = 2097152 := by rcases q.u_or with ⟨h, _⟩ | ⟨_, h⟩; exact h; rw [hb] at h; cases h
          rw [hru] at hrv
          rw [hqu] at hqv
          have : q = r := chain_cov hc (virt := r.v) hq hr' (by unfold covers; rw [hqu]; omega) (by unfold covers; rw [hru]; omega)
          rw [this, hrb] at hb
          cases hb
    · have hqo := hc.2 q hq
      have hqu : q.u = 4096 := by rcases q.u_or with ⟨_, h⟩ | ⟨h, _⟩; rw [hqb] at h; cases h; exact h
      have hcq : covers q virt := idx_cov hqo (by rw [hqu]; simpa [bu] using hqk)
      rw [hqn, say_smallp hqo hqb] at hE2
      rw [trw_step M virt access 0 2 _ ei2 hE2, hyes q hq hcq]
      have h4 := (cov_idx hqo hcq).2.2.2
      rw [hqu] at h4
      simp [askQ, Bu.rch2, h4]
  · have he1 : entry base (tabs qs) qs (1, virt / 1073741824) (virt / 2097152 % 512) = pageAt qs true (virt / 2097152) := by
      unfold entry
      rw [if_neg (show ¬ (1 : Nat) = 0 by decide), if_pos rfl]
      simp only
      rw [hk1, if_neg hm2]
    rw [he1] at hE1
    rcases pageAt_some (qs := qs) (b := true) (k := virt / 2097152) with hp | ⟨q, hq, hqb, hqk, hqn⟩
    · rw [hp, say_zero] at hE1
      rw [trw_step M virt access 1 1 _ ei1 hE1, if_pos (by decide), hno ?_]
      · rfl
      intro q hq hcq
      obtain ⟨c1, c2, c3, c4⟩ := cov_idx (hc.2 q hq) hcq
      cases hb : q.b with
      | true => exact pageAt_zero hp q hq ⟨hb, by unfold bu; simpa using c2⟩
      | false => exact hm2 ((hin q hq hcq).2 hb)
    · have hqo := hc.2 q hq
      have hqu : q.u = 2097152 := by rcases q.u_or with ⟨h, _⟩ | ⟨_, h⟩; exact h; rw [hqb] at h; cases h
      have hcq : covers q virt := idx_cov hqo (by rw [hqu]; simpa [bu] using hqk)
      rw [hqn, say_bigp hqo hqb] at hE1
      rw [trw_step M virt access 1 1 _ ei1 hE1, hyes q hq hcq]
      have h4 := (cov_idx hqo hcq).2.2.2
      rw [hqu] at h4
      simp [askQ, Bu.rch1, h4]
end Pg
end Go.Proofs.Ytblfagmoilhdnaa

/- Plain law: what the tables of rows answer is what the rows say. -/
set_option linter.unusedVariables false
set_option linter.unusedSimpArgs false
namespace Go.Proofs.Ytblfagmoilhdnaa
namespace Pg
open Bu
def Lf.has (r : Lf) (virt : Nat) : Bool := decide (r.v ≤ virt ∧ virt - r.v < r.n.toNat * 4096)
/-- the row that has an address -/
def atR (rows : List Lf) (virt : Nat) : Option Lf := rows.find? (·.has virt)
/-- what rows say of an address -/
def sayV (rows : List Lf) (virt : Nat) (access : Int) : Nat × Nat :=
  if 549755813888 ≤ virt then (0, 40) else match atR rows virt with
  | none => (0, 41)
  | some r => if access = 2 ∧ r.w = false then (0, 43) else if access = 3 ∧ r.x = false then (0, 44) else (r.p + (virt - r.v), 0)
theorem right_ok : ∀ (rows : List Lf) (bh : Nat), right bh rows = 0 → ∀ r ∈ rows, r.Ok := by
  intro rows
  induction rows with
  | nil => intro bh _ r hr; cases hr
  | cons x xs ih =>
    intro bh h r hr
    obtain ⟨h1, _, h3⟩ := right_cons h
    rcases List.mem_cons.1 hr with rfl | hr
    · exact h1
    · exact ih _ h3 r hr
theorem mem_pagesOf {rows : List Lf} {q : Pge} : q ∈ pagesOf rows ↔ ∃ r ∈ rows, ∃ i, i < r.cnt ∧ q = r.page i := by
  unfold pagesOf
  rw [List.mem_flatMap]
  constructor
  · rintro ⟨r, hr, hq⟩
    exact ⟨r, hr, mem_pages hq⟩
  · rintro ⟨r, hr, i, hi, rfl⟩
    exact ⟨r, hr, List.mem_map.2 ⟨i, List.mem_range.2 hi, rfl⟩⟩
theorem says_plain {M : PM} {rows : List Lf} {base : Nat} (h : (ans rows base).2 = 0) (hl : LiesM M base (ans rows base).1) {virt : Nat} {access : Int} (ha : 1 ≤ access ∧ access ≤ 3) : trI M base virt access = sayV rows virt access := by
  obtain ⟨h0, hc, s, _, hk, hs⟩ := ans_known h
  rw [hs] at hl
  unfold sayV
  by_cases hv : 549755813888 ≤ virt
  · rw [if_pos hv]
    unfold trI
    rw [if_neg (by omega), if_pos hv]
  rw [if_neg hv]
  have hok := right_ok rows 0 h0
  cases hf : atR rows virt with
  | none =>
    have hn := List.find?_eq_none.1 hf
    rw [walk_pages hk.rep hc hl (by omega) ha none ?_]
    · rfl
    · intro q hq hcq
      obtain ⟨r, hr, i, hi, rfl⟩ := mem_pagesOf.1 hq
      have h1 := hn r hr
      have h2 := pages_span (hok r hr) (List.mem_map.2 ⟨i, List.mem_range.2 hi, rfl⟩)
      unfold covers at hcq
      apply h1
      unfold Lf.has
      rw [decide_eq_true_eq]
      omega
  | some r =>
    have hr := List.mem_of_find?_eq_some hf
    have h1 := List.find?_some hf
    unfold Lf.has at h1
    rw [decide_eq_true_eq] at h1
    have hro := hok r hr
    have hcu := hro.cnt_u
    have hup : 0 < r.u := by rcases r.u_or with h | h <;> omega
    obtain ⟨i, hi⟩ : ∃ i, i = (virt - r.v) / r.u := ⟨_, rfl⟩
    have hic : i < r.cnt := by
      rw [hi, Nat.div_lt_iff_lt_mul hup, hcu]
      exact h1.2
    have hlo : i * r.u ≤ virt - r.v := by rw [hi]; exact Nat.div_mul_le_self _ _
    have hhi : virt - r.v < i * r.u + r.u := by
      have := Nat.lt_div_mul_add (a := virt - r.v) hup
      rw [hi]; exact this
    have hq : r.page i ∈ pagesOf rows := mem_pagesOf.2 ⟨r, hr, i, hic, rfl⟩
    rw [walk_pages hk.rep hc hl (by omega) ha (some (r.page i)) ⟨hq, by
      unfold covers
      rw [Lf.page_u]
      show r.v + i * r.u ≤ virt ∧ virt < r.v + i * r.u + r.u
      omega⟩]
    unfold askQ
    show (if access = 2 ∧ r.w = false then _ else if access = 3 ∧ r.x = false then _ else (r.p + i * r.u + (virt - (r.v + i * r.u)), 0)) = _
    rw [show r.p + i * r.u + (virt - (r.v + i * r.u)) = r.p + (virt - r.v) by omega]
end Pg
end Go.Proofs.Ytblfagmoilhdnaa

/- Plain law: a machine in whose memory tables are laid, word by word. -/
set_option linter.unusedVariables false
set_option linter.unusedSimpArgs false
namespace Go.Proofs.Ytblfagmoilhdnaa
namespace Pg
open Bu
theorem unle_bytes' (v : Nat) : ∀ (k j : Nat), Wd.unle ((List.range k).map fun i => Bu.byteOf v (j + i)) = v / 2 ^ (8 * j) % 256 ^ k
  | 0, j => by simp [Wd.unle, Nat.mod_one]
  | k + 1, j => by
    rw [List.range_succ_eq_map, List.map_cons, List.map_map, Wd.unle]
    have e : ((fun i => Bu.byteOf v (j + i)) ∘ Nat.succ) = fun i => Bu.byteOf v ((j + 1) + i) := by
      funext i
      show Bu.byteOf v (j + (i + 1)) = Bu.byteOf v (j + 1 + i)
      rw [Nat.add_assoc, Nat.add_comm 1 i]
    rw [e, unle_bytes' v k (j + 1)]
    unfold Bu.byteOf
    rw [show 8 * (j + 1) = 8 * j + 8 by omega, Nat.pow_add, ← Nat.div_div_eq_div_mul, Nat.add_zero, show (2 : Nat) ^ 8 = 256 from rfl, Nat.pow_succ, Nat.mul_comm (256 ^ k) 256, Nat.mod_mul]
/-- the q-th word of tables -/
def wd (all : List (List Nat)) (q : Nat) : Nat := cell all (q / 512) (q % 512)
/-- k words of tables are laid -/
def tbMem (M : PM) (base : Nat) (all : List (List Nat)) : Nat → PM
  | 0 => M
  | k + 1 => if wd all k = 0 then tbMem M base all k else laidM (tbMem M base all k) (base + 8 * k) 8 (Bu.byteOf (wd all k)) 1 none
theorem tbMem_bus (M : PM) (base : Nat) (all : List (List Nat)) : ∀ k, (tbMem M base all k).rams = M.rams ∧ (tbMem M base all k).devs = M.devs
  | 0 => ⟨rfl, rfl⟩
  | k + 1 => by
    obtain ⟨h1, h2⟩ := tbMem_bus M base all k
    unfold tbMem
    split
    · exact ⟨h1, h2⟩
    · exact ⟨h1, h2⟩
theorem tbMem_mem (M : PM) (base : Nat) (all : List (List Nat)) (h0 : M.mem = fun _ => 0) : ∀ k p, (tbMem M base all k).mem p = if base ≤ p ∧ p < base + 8 * k then Bu.byteOf (wd all ((p - base) / 8)) ((p - base) % 8) else 0
  | 0, p => by
    rw [if_neg (by omega)]
    unfold tbMem
    rw [h0]
  | k + 1, p => by
    have ih := tbMem_mem M base all h0 k p
    unfold tbMem
    split
    · rename_i hz
      rw [ih]
      by_cases h1 : base ≤ p ∧ p < base + 8 * k
      · rw [if_pos h1, if_pos (by omega)]
      · rw [if_neg h1]
        by_cases h2 : base ≤ p ∧ p < base + 8 * (k + 1)
        · rw [if_pos h2, show (p - base) / 8 = k by omega, hz]
          unfold Bu.byteOf
          simp
        · rw [if_neg h2]
    · show layM (tbMem M base all k).mem (base + 8 * k) 8 (Bu.byteOf (wd all k)) p = _
      unfold layM
      by_cases h1 : base + 8 * k ≤ p ∧ p < base + 8 * k + 8
      · rw [if_pos h1, if_pos (by omega), show (p - base) / 8 = k by omega, show (p - base) % 8 = p - (base + 8 * k) by omega]
      · rw [if_neg h1, ih]
        by_cases h2 : base ≤ p ∧ p < base + 8 * k
        · rw [if_pos h2, if_pos (by omega)]
        · rw [if_neg h2, if_neg (by omega)]
def ramM (base n : Nat) : PM := ⟨[(base, n * 4096)], [], fun _ => 0, 0, 0, 0⟩
theorem onM_tab (base n : Nat) (all : List (List Nat)) (k p : Nat) : onM (tbMem (ramM base n) base all k) p = decide (base ≤ p ∧ p < base + n * 4096) := by
  unfold onM
  obtain ⟨h1, h2⟩ := tbMem_bus (ramM base n) base all k
  rw [h1, h2]
  simp [ramM, on]
theorem lim_tab {base n : Nat} (h : base + n * 4096 ≤ 4294967296) {all : List (List Nat)} {k : Nat} : Lim (tbMem (ramM base n) base all k) := by
  intro p hp
  rw [onM_tab] at hp
  have := of_decide_eq_true hp
  omega
theorem lies_tab {base : Nat} {all : List (List Nat)} (hal : base % 4096 = 0) (hhi : base + all.length * 4096 ≤ 4294967296) (hlt : ∀ i e, cell all i e < 18446744073709551616) : LiesM (tbMem (ramM base all.length) base all (512 * all.length)) base all := by
  refine ⟨hal, hhi, fun p h1 h2 => ?_, fun i e hi he => ?_⟩
  · rw [onM_tab]
    exact decide_eq_true ⟨h1, h2⟩
  · unfold numB
    have e1 : ((List.range 8).map fun k => (tbMem (ramM base all.length) base all (512 * all.length)).mem (base + i * 4096 + 8 * e + k)) = (List.range 8).map fun k => Bu.byteOf (cell all i e) (0 + k) := by
      apply List.map_congr_left
      intro k hk
      have hk := List.mem_range.1 hk
      rw [tbMem_mem _ _ _ rfl, if_pos (by omega), show (base + i * 4096 + 8 * e + k - base) / 8 = 512 * i + e by omega, show (base + i * 4096 + 8 * e + k - base) % 8 = k by omega, Nat.zero_add]
      unfold wd
      rw [show (512 * i + e) / 512 = i by omega, show (512 * i + e) % 512 = e by omega]
    rw [e1, unle_bytes', Nat.mul_zero, Nat.pow_zero, Nat.div_one]
    exact Nat.mod_eq_of_lt (hlt i e)
theorem newE_ram {base n : Nat} (hal : base % 4096 = 0) (hn : 1 ≤ n) (hm : n ≤ 1024) (hhi : base + n * 4096 ≤ 4294967296) : newE [(base, n * 4096)] [] = 0 := by
  have h1 : chk S64.TOP [] (base, n * 4096) = 0 := by
    unfold chk S64.TOP M32
    simp only
    rw [if_neg (by omega), if_neg (by omega), if_neg (by omega)]
    rfl
  unfold newE
  rw [if_neg (by simp), if_neg (by simp [chks, h1]), if_neg (by simp [chks]), if_neg (by simp [total]; omega)]
theorem offF_tab {base n : Nat} {all : List (List Nat)} {k q : Nat} (hq : q < 512 * n) : offF (tbMem (ramM base n) base all k) (base + 8 * q) 8 = none := by
  unfold offF
  rw [List.find?_eq_none]
  intro p hp
  obtain ⟨i, hi, rfl⟩ := List.mem_map.1 hp
  have hi := List.mem_range.1 hi
  rw [onM_tab]
  simp
  omega
end Pg
end Go.Proofs.Ytblfagmoilhdnaa

/- The walk of the law's laid: a machine in whose memory the tables lie. -/
set_option linter.unusedVariables false
set_option linter.unusedSimpArgs false
namespace Go.Proofs.Ytblfagmoilhdnaa
open Go.RowKit
open S64
open Bu
/-- a machine with tables in its memory; what it holds is new from B on -/
def LaidT (B g base : Nat) (l : List (List Nat)) (w : World) : Prop := ∃ Z R M, MZ Z R w g M ∧ Pg.LiesM M base l ∧ ∀ k, Z k ∨ R k → B ≤ k
theorem LaidT.chg {B g base : Nat} {l : List (List Nat)} {w w' : World} {Y : Nat → Prop} (h : LaidT B g base l w) (hc : ChgP Y w w') (hY : ∀ k, Y k → k < B) : LaidT B g base l w' := by
  obtain ⟨Z, R, M, h1, h2, h3⟩ := h
  exact ⟨Z, R, M, h1.chg hc (fun k hk hy => by have := h3 k hk; have := hY k hy; omega), h2, h3⟩
theorem LaidT.below {B g base : Nat} {l : List (List Nat)} {w w' : World} (h : LaidT B g base l w) (hb : Below w.heap.size w w') : LaidT B g base l w' := h.chg (Y := fun _ => False) (ChgP.of_below hb) (fun _ h => h.elim)
set_option maxRecDepth 100000 in
set_option maxHeartbeats 1000000 in
theorem laid_any (A : Option Addr) (n c base : Nat) (l : List (List Nat)) (w : World) (hl : HasT w A l) (hn : n = l.length) (hb : base % 4096 = 0) (h1 : 1 ≤ n) (hm : n ≤ 1024) (hfit : base + n * 4096 ≤ 4294967296) :
    Calls Try.prog 32 #[.slice A n c, .int .u64 (base : Nat)] w fun e w' => ∃ g, e = .returned (.pointer (some ⟨g, 0, none⟩)) ∧ LaidT w.heap.size g base l w' ∧ Below w.heap.size w w' := by
  have hlt : ∀ i e, Pg.cell l i e < 18446744073709551616 := by
    intro i e
    by_cases hi : i < l.length
    · by_cases he : e < 512
      · exact (hl.cell_at hi he).choose_spec.2.2.2
      · have hm' : l.getD i [] ∈ l := by simp [List.getD_eq_getElem?_getD, hi]
        have := (hl.1 _ hm').1
        unfold Pg.cell
        rw [List.getD_eq_getElem?_getD (l := l.getD i []), List.getElem?_eq_none (by omega)]
        decide
    · unfold Pg.cell
      rw [List.getD_eq_getElem?_getD (l := l), List.getElem?_eq_none (by omega)]
      simp
  obtain ⟨g0, rfl, hg0, _⟩ := hl.cell_at (t := 0) (e := 0) (by omega) (by omega)
  have HT := Lib.hid hl; have HN := Lib.hid hn; have HLT := Lib.hid hlt; have HG0 := Lib.hid hg0
  have HBAS := Lib.hid hb
  obtain ⟨s, hs⟩ : ∃ s, s = n * 4096 := ⟨_, rfl⟩
  have HSN := Lib.hid hs
  have ew1 : IntKind.u64.wrap (n : Int) = (n : Int) := by rw [IntKind.wrap_u64]; omega
  have ew2 : IntKind.u64.wrap ((n : Int) * 4096) = (s : Int) := by rw [IntKind.wrap_u64]; omega
  have ew3 : (n : Int) * 4096 % 18446744073709551616 = (s : Int) := by omega
  have ew4 : (n : Int) * 4096 = (s : Int) := by omega
  have HE0 : Hid (newE [(base, s)] [] = 0) := Lib.hid (by rw [hs]; exact Pg.newE_ram hb h1 hm hfit)
  have HNW : Hid (∀ (wx : World) (a : Nat), Row wx a 106 [.int .u64 (base : Nat), .int .u64 (s : Nat)] → Calls Try.prog 55 #[.agg #[.slice (some ⟨a, 0, none⟩) 1 1, .slice none 0 0]] wx (NewSaid wx [(base, s)] [])) := Lib.hid (fun wx a ha =>
    new_any _ _ 1 0 1 0 [(base, s)] [] wx (isS_row (s := [(base, s)]) ha rfl (by omega)) IsS.none_ (by intro x hx; rw [List.mem_singleton.1 hx]; unfold TOP; omega) (by intro x hx; cases hx))
  clear hl hn hlt hg0 hb hs
  go_enter Try.func32, Try.ntmps32
  go_wp2_with fail
  have hr1 := Row.new w 106 [.int .u64 (base : Nat), .int .u64 (s : Nat)]
  have hb1 : Below w.heap.size w (w.alloc (.cells #[.int .u64 (base : Nat), .int .u64 (s : Nat)] 106)) := (Below.refl _ _).alloc (Nat.le_refl _) _
  generalize w.alloc (.cells #[.int .u64 (base : Nat), .int .u64 (s : Nat)] 106) = w1 at *
  refine (HNW.out w1 w.heap.size hr1).mono ?_
  intro e w2 hn
  obtain ⟨hb2, g, Z, R, rfl, hm2, hzr⟩ := hn.mz HE0.out
  have HB2 := Lib.hid (hb1.trans (hb2.mono hb1.size))
  have HM2 : Hid (MZ Z R w2 g (Pg.tbMem (Pg.ramM base n) base l 0)) := Lib.hid (by rw [HSN.out] at hm2; exact hm2)
  have HZR : Hid (∀ k, Z k ∨ R k → w.heap.size ≤ k) := Lib.hid (fun k hk => Nat.le_trans hb1.size (hzr k hk))
  clear hn hb2 hb1 hr1 hm2 hzr HNW
  go_wp2_with fail
  go_loopw [7] (fun x wr => ∃ i : Nat, i ≤ n ∧ x = .int .i64 (i : Nat) ∧ Hid (∃ Z, MZ Z R wr g (Pg.tbMem (Pg.ramM base n) base l (512 * i)) ∧ ∀ k, Z k ∨ R k → w.heap.size ≤ k) ∧ Hid (Below w.heap.size w wr)) (fun x _ => n - (intOf x).toNat)
  case atStart => exact ⟨0, by omega, rfl, Lib.hid ⟨Z, HM2.out, HZR.out⟩, HB2⟩
  case round =>
  clear HM2 HB2 HZR
  obtain ⟨i, hi, rfl, HMI, HBI⟩ := hrel
  by_cases hin : i < n
  · go_wp2_with fail
    go_loopw [8] (fun x wr => ∃ j : Nat, j ≤ 512 ∧ x = .int .i64 (j : Nat) ∧ Hid (∃ Z, MZ Z R wr g (Pg.tbMem (Pg.ramM base n) base l (512 * i + j)) ∧ ∀ k, Z k ∨ R k → w.heap.size ≤ k) ∧ Hid (Below w.heap.size w wr)) (fun x _ => 512 - (intOf x).toNat)
    case atStart => exact ⟨0, by omega, rfl, HMI, HBI⟩
    case round =>
    clear HMI HBI
    obtain ⟨j, hj, rfl, HMJ, HBJ⟩ := hrel
    by_cases hjn : j < 512
    · obtain ⟨Z1, hm1, hz1⟩ := HMJ.out
      obtain ⟨_, hga, _, hcell, hx64⟩ := HT.out.cell_at (t := i) (e := j) (by rw [← HN.out]; exact hin) hjn
      cases hga
      obtain ⟨X, hX⟩ : ∃ X, X = Pg.cell l i j := ⟨_, rfl⟩
      rw [← hX] at hcell hx64
      have hcr := (HBJ.out.cell (p := ⟨g0, i * 512 + j, none⟩) HG0.out).trans hcell
      have hgr : g0 < wr.heap.size := Nat.lt_of_lt_of_le HG0.out HBJ.out.size
      have HWD : Hid (Pg.wd l (512 * i + j) = X) := Lib.hid (by
        unfold Pg.wd
        rw [show (512 * i + j) / 512 = i by omega, show (512 * i + j) % 512 = j by omega, hX])
      have HM1 := Lib.hid hm1; have HZ1 := Lib.hid hz1
      clear hm1 hz1 HMJ hX hcell
      by_cases hX0 : X = 0
      · subst hX0
        have HMK : Hid (∃ Z, MZ Z R wr g (Pg.tbMem (Pg.ramM base n) base l (512 * i + (j + 1))) ∧ ∀ k, Z k ∨ R k → w.heap.size ≤ k) := Lib.hid ⟨Z1, by
          rw [show 512 * i + (j + 1) = (512 * i + j) + 1 by omega, Pg.tbMem, if_pos HWD.out]
          exact HM1.out, HZ1.out⟩
        clear HM1 HZ1 HWD
        go_wp2_with fail
        go_roundw
        case rel => exact ⟨j + 1, by omega, by go_num, HMK, HBJ⟩
        case measure => simp [intOf]; omega
      · have f0 : ((X : Int) != 0) = true := by simp; omega
        have f1 : ¬ (X : Int) = 0 := by omega
        obtain ⟨a, ha⟩ : ∃ a, a = base + 8 * (512 * i + j) := ⟨_, rfl⟩
        have HA := Lib.hid ha
        have e1 : IntKind.u64.wrap (i : Int) = (i : Int) := by rw [IntKind.wrap_u64]; omega
        have e2 : IntKind.u64.wrap (j : Int) = (j : Int) := by rw [IntKind.wrap_u64]; omega
        have e3 : IntKind.u64.wrap ((i : Int) * 4096) = (i : Int) * 4096 := by rw [IntKind.wrap_u64]; omega
        have e4 : IntKind.u64.wrap (8 * (j : Int)) = 8 * (j : Int) := by rw [IntKind.wrap_u64]; omega
        have e5 : IntKind.u64.wrap ((base : Int) + (i : Int) * 4096) = (base : Int) + (i : Int) * 4096 := by rw [IntKind.wrap_u64]; omega
        have e6 : IntKind.u64.wrap ((base : Int) + (i : Int) * 4096 + 8 * (j : Int)) = (a : Int) := by rw [IntKind.wrap_u64]; omega
        have e7 : (base : Int) + (i : Int) * 4096 + 8 * (j : Int) = (a : Int) := by omega
        have hST := store_m (n := 8) (at_ := a) (v := X) (F := none) HM1.out (by omega) (by unfold TOP; omega) trivial (by unfold TOP; omega) trivial (by
          have h := offF_is (M := Pg.tbMem (Pg.ramM base n) base l (512 * i + j)) (a := a) (n := 8) (Pg.lim_tab hfit) (by unfold TOP; omega)
          rw [HA.out, Pg.offF_tab (by omega)] at h
          rw [HA.out]
          exact h)
        unfold faultV at hST
        have HST := Lib.hid hST
        clear hST ha
        go_wp2_with fail
        refine HST.out.mono ?_
        rintro e w3 ⟨rfl, Z3, hm3, hc3, hz3⟩
        have HMK : Hid (∃ Z, MZ Z R w3 g (Pg.tbMem (Pg.ramM base n) base l (512 * i + (j + 1))) ∧ ∀ k, Z k ∨ R k → w.heap.size ≤ k) := Lib.hid ⟨Z3, by
          rw [show 512 * i + (j + 1) = (512 * i + j) + 1 by omega, Pg.tbMem, if_neg (by rw [HWD.out]; exact hX0), HWD.out, ← HA.out]
          exact hm3, fun k hk => by
            rcases hk with hk | hk
            · rcases hz3 k hk with h | h
              · exact HZ1.out k (.inl h)
              · exact Nat.le_trans HBJ.out.size h
            · exact HZ1.out k (.inr hk)⟩
        have HBK : Hid (Below w.heap.size w w3) := Lib.hid (HBJ.out.trans (hc3.below HBJ.out.size (fun k hk => HZ1.out k (.inl hk))))
        clear hm3 hc3 hz3 HST HM1 HZ1 HWD hcr
        go_wp2_with fail
        go_roundw
        case rel => exact ⟨j + 1, by omega, by go_num, HMK, HBK⟩
        case measure => simp [intOf]; omega
    · have ej : j = 512 := by omega
      subst ej
      have HMK : Hid (∃ Z, MZ Z R wr g (Pg.tbMem (Pg.ramM base n) base l (512 * (i + 1))) ∧ ∀ k, Z k ∨ R k → w.heap.size ≤ k) := Lib.hid HMJ.out
      go_wp2_with fail
      go_roundw
      case rel => exact ⟨i + 1, by omega, by go_num, HMK, HBJ⟩
      case measure => simp [intOf]; omega
  · have ei : i = n := by omega
    subst ei
    go_wp2_with fail
    go_ret
    obtain ⟨Z9, hm9, hz9⟩ := HMI.out
    refine ⟨g, rfl, ⟨Z9, R, _, hm9, ?_, hz9⟩, HBI.out⟩
    rw [HN.out]
    exact Pg.lies_tab HBAS.out (by rw [← HN.out]; exact hfit) HLT.out
end Go.Proofs.Ytblfagmoilhdnaa
