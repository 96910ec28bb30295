/- Texts of this claim, one behind the other: WpC, WpD, WpE. -/
import Derived.Test.YtfpofaniicegaaaGreatJWalkPlays21
import Derived.Test.YtfpofaniicegaaaGreatJWalkPlays16
import Derived.Test.YtfpofaniicegaaaGreatJWalkPlays38
import Derived.Test.YtfpofaniicegaaaGreatJWalkPlays1
import Derived.BigQuiet
import Derived.Test.YtfpofaniicegaaaGreatJWalkPlays27
import Derived.Test.YtfpofaniicegaaaGreatJWalkPlays28
/- The document's machine: Kept. -/
set_option linter.unusedVariables false
set_option linter.unusedSimpArgs false
namespace Go.Proofs.YtfpofaniicegaaaGreat
open Go.RowKit
open S64
namespace Bu
/-- is something else than zero laid in the first j bytes of a page? -/
def nzJ (mem : Nat → Nat) (k j : Nat) : Bool := (List.range j).any fun i => decide (mem (4096 * k + i) ≠ 0)
theorem nzJ_succ (mem : Nat → Nat) (k j : Nat) : nzJ mem k (j + 1) = (nzJ mem k j || decide (mem (4096 * k + j) ≠ 0)) := by
  unfold nzJ
  rw [List.range_succ, List.any_append]
  simp
theorem nzJ_nz (mem : Nat → Nat) (k : Nat) : nzJ mem k 4096 = true ↔ nz mem k := by
  unfold nzJ nz
  rw [List.any_eq_true]
  constructor
  · rintro ⟨i, hi, h⟩
    exact ⟨i, List.mem_range.1 hi, by simpa using h⟩
  · rintro ⟨i, hi, h⟩
    exact ⟨i, List.mem_range.2 hi, by simpa using h⟩
/-- how many of the first i pages are kept -/
def keptN (mem : Nat → Nat) (pgs : List (Nat × Nat)) (i : Nat) : Nat := ((pgs.take i).filter fun x => nzJ mem x.1 4096).length
theorem keptN_succ {mem : Nat → Nat} {pgs : List (Nat × Nat)} {i : Nat} {x : Nat × Nat} (h : pgs[i]? = some x) : keptN mem pgs (i + 1) = keptN mem pgs i + if nzJ mem x.1 4096 = true then 1 else 0 := by
  have hi := (List.getElem?_eq_some_iff.1 h).1
  have e : pgs.take (i + 1) = pgs.take i ++ [x] := by
    rw [List.take_succ_eq_append_getElem hi]
    congr 2
    rw [List.getElem?_eq_getElem hi] at h
    injection h
  unfold keptN
  rw [e, List.filter_append, List.length_append]
  by_cases hn : nzJ mem x.1 4096 = true
  · rw [if_pos hn, List.filter_cons, if_pos hn]; rfl
  · rw [if_neg hn, List.filter_cons, if_neg hn]; rfl
theorem keptN_le (mem : Nat → Nat) (pgs : List (Nat × Nat)) (i : Nat) : keptN mem pgs i ≤ i := by
  unfold keptN
  exact Nat.le_trans (List.length_filter_le _ _) (by rw [List.length_take]; exact Nat.min_le_left _ _)
theorem filt (f : Nat → Bool) (l : List (Nat × Nat)) : (l.filter (fun x => f x.1)).length = ((l.map (·.1)).filter f).length := by rw [List.filter_map, List.length_map]; rfl
theorem keptN_ks {w : World} {B g : Nat} {M : PM} {A1 A2 Ap : Option Addr} {n1 n2 c1 c2 np cp : Nat} {pgs : List (Nat × Nat)} (h : RMA w B g M A1 A2 Ap n1 n2 c1 c2 np cp pgs) {ks : List Nat} (hn : ks.Nodup) (hk : ∀ k, k ∈ ks ↔ nz M.mem k) : keptN M.mem pgs pgs.length = ks.length := by
  unfold keptN
  rw [List.take_length]
  have e : (pgs.filter fun x => nzJ M.mem x.1 4096).length = ((pgs.map (·.1)).filter fun k => nzJ M.mem k 4096).length := filt (fun k => nzJ M.mem k 4096) pgs
  rw [e]
  refine List.Perm.length_eq ((List.perm_ext_iff_of_nodup (h.nums.filter _) hn).2 fun k => ?_)
  rw [List.mem_filter, hk k, nzJ_nz]
  constructor
  · rintro ⟨_, h2⟩; exact h2
  · intro h2
    refine ⟨?_, h2⟩
    obtain ⟨i, hi, hm⟩ := h2
    by_cases hx : ∃ x ∈ pgs, x.1 = k
    · obtain ⟨x, hx, rfl⟩ := hx
      exact List.mem_map.2 ⟨x, hx, rfl⟩
    · exact absurd (h.out (4096 * k + i) (fun x hx2 e2 => hx ⟨x, hx2, by omega⟩)) hm
set_option maxRecDepth 100000 in
set_option maxHeartbeats 2000000 in
theorem refkept_any {w : World} {B g : Nat} {M : PM} {A1 A2 Ap : Option Addr} {n1 n2 c1 c2 np cp : Nat} {pgs : List (Nat × Nat)} (h : RMA w B g M A1 A2 Ap n1 n2 c1 c2 np cp pgs) :
    Calls Tryz.prog 32 #[.pointer (some ⟨g, 0, none⟩)] w fun e w' => e = .returned (.int .i64 (keptN M.mem pgs pgs.length : Nat)) ∧ w = w' := by
  have p2 := h.row.cell 2
  have lp := h.row.lt
  have hn63 := h.pcap
  have HPL := Lib.hid h.plen
  have HBY := Lib.hid h.bytes
  obtain ⟨bp, op, HF⟩ := h.page
  simp only [List.getElem?_cons_zero, List.getElem?_cons_succ] at p2
  clear h
  go_enter Tryz.func32, Tryz.ntmps32
  go_wp2_with fail
  go_loopw [3, 4] (fun n i wr => ∃ (j m : Nat), j ≤ np ∧ i = .int .i64 (j : Nat) ∧ n = .int .i64 (m : Nat) ∧ Hid (m = keptN M.mem pgs j) ∧ w = wr) (fun _ i _ => np - (intOf i).toNat)
  case atStart => exact ⟨0, 0, by omega, rfl, rfl, Lib.hid rfl, rfl⟩
  case round =>
  obtain ⟨j, m, hj, rfl, rfl, HMK, rfl⟩ := hrel
  by_cases hjn : j < np
  · obtain ⟨rfl, hb, hc⟩ := HF.out (by omega)
    obtain ⟨⟨k, bk⟩, hx⟩ : ∃ x, pgs[j]? = some x := ⟨_, List.getElem?_eq_getElem (by rw [HPL.out]; exact hjn)⟩
    have x1 := (hc j _ hx).2
    have HX := Lib.hid hx
    have hrow := (HBY.out _ (List.mem_of_getElem? hx)).2
    simp only at x1 hrow
    have HROW := Lib.hid hrow
    have lk := hrow.lt
    have hm : m ≤ j := by rw [HMK.out]; exact keptN_le _ _ _
    clear hc HF hx hrow
    go_wp2_with fail
    go_loopw [5, 6] (fun s i wr => ∃ t : Nat, t ≤ 4096 ∧ i = .int .i64 (t : Nat) ∧ s = .bool (nzJ M.mem k t) ∧ w = wr) (fun _ i _ => 4096 - (intOf i).toNat)
    case atStart => exact ⟨0, by omega, rfl, rfl, rfl⟩
    case round =>
    obtain ⟨t, ht, rfl, rfl, rfl⟩ := hrel
    by_cases ht4 : t < 4096
    · have c0 := HROW.out.cell t
      rw [leafRow_get _ _ _ ht4] at c0
      unfold Go.Proofs.YtfpofaniicegaaaGreat.u8 at c0
      have HS := Lib.hid (nzJ_succ M.mem k t)
      obtain ⟨v, hv⟩ : ∃ v, v = M.mem (4096 * k + t) := ⟨_, rfl⟩
      rw [← hv] at c0 HS
      clear hv
      cases hb1 : nzJ M.mem k t with
      | true =>
        rw [hb1, Bool.true_or] at HS
        go_wp2_with fail
        go_roundw
        case rel => exact ⟨t + 1, by omega, by go_num, by rw [HS.out], by first | rfl | trivial⟩
        case measure => simp [intOf]; omega
      | false =>
        rw [hb1, Bool.false_or] at HS
        by_cases hv0 : v = 0
        · have f : ((v : Int) != 0) = false := by simp; omega
          rw [decide_eq_false (by omega)] at HS
          clear hv0
          go_wp2_with fail
          go_roundw
          case rel => exact ⟨t + 1, by omega, by go_num, by rw [HS.out], by first | rfl | trivial⟩
          case measure => simp [intOf]; omega
        · have f : ((v : Int) != 0) = true := by simp; omega
          rw [decide_eq_true hv0] at HS
          clear hv0
          go_wp2_with fail
          go_roundw
          case rel => exact ⟨t + 1, by omega, by go_num, by rw [HS.out], by first | rfl | trivial⟩
          case measure => simp [intOf]; omega
    · have et : t = 4096 := by omega
      subst et
      have HK := Lib.hid (keptN_succ (mem := M.mem) HX.out)
      rw [← HMK.out] at HK
      simp only at HK
      cases hb1 : nzJ M.mem k 4096 with
      | true =>
        rw [hb1, if_pos rfl] at HK
        go_wp2_with fail
        go_roundw
        case rel => exact ⟨j + 1, m + 1, by omega, by go_num, by go_num, Lib.hid HK.out.symm, by first | rfl | trivial⟩
        case measure => simp [intOf]; omega
      | false =>
        rw [hb1, if_neg (by decide), Nat.add_zero] at HK
        go_wp2_with fail
        go_roundw
        case rel => exact ⟨j + 1, m, by omega, by go_num, by go_num, Lib.hid HK.out.symm, by first | rfl | trivial⟩
        case measure => simp [intOf]; omega
  · have e : j = np := by omega
    subst e
    go_wp2_with fail
    have HE : Hid (m = keptN M.mem pgs pgs.length) := Lib.hid (by rw [HMK.out, HPL.out])
    go_ret
    exact ⟨by rw [← HE.out]; rfl, by first | rfl | trivial⟩
end Bu
end Go.Proofs.YtfpofaniicegaaaGreat

/- The walk of the law's alike. -/
set_option linter.unusedVariables false
set_option linter.unusedSimpArgs false
namespace Go.Proofs.YtfpofaniicegaaaGreat
open Go.RowKit
open S64
namespace Bu
/-- a bus whose ranges begin and end at pages -/
def Algn (l : Sp.S) : Prop := ∀ r ∈ l, r.1 % 4096 = 0 ∧ r.2 % 4096 = 0
theorem chk_al {most : Nat} {pre : Sp.S} {r : Nat × Nat} (h : chk most pre r = 0) : r.1 % 4096 = 0 ∧ r.2 % 4096 = 0 := by
  unfold chk at h
  split at h
  · cases h
  · rename_i h1
    split at h
    · cases h
    · rename_i h2
      exact ⟨by omega, by omega⟩
theorem chks_al {most : Nat} : ∀ {l pre : Sp.S}, chks most pre l = 0 → Algn l := by
  intro l
  induction l with
  | nil => intro pre _ r hr; cases hr
  | cons a l ih =>
    intro pre h
    unfold chks at h
    by_cases h1 : chk most pre a ≠ 0
    · rw [if_pos h1] at h; exact absurd h h1
    · rw [if_neg h1] at h
      intro r hr
      rcases List.mem_cons.1 hr with rfl | hr
      · exact chk_al (Decidable.not_not.1 h1)
      · exact ih h r hr
theorem newE_al {rams devs : Sp.S} (h : newE rams devs = 0) : Algn (rams ++ devs) := by
  unfold newE at h
  split at h
  · cases h
  split at h
  · rename_i h1; exact absurd h h1
  rename_i h1
  split at h
  · rename_i h2; exact absurd h h2
  rename_i h2
  intro r hr
  rcases List.mem_append.1 hr with hr | hr
  · exact chks_al (Decidable.not_not.1 h1) r hr
  · exact chks_al (Decidable.not_not.1 h2) r hr
theorem on_page {l : Sp.S} (h : Algn l) {p q : Nat} (hq : on l q = true) (e : q / 4096 = p / 4096) : on l p = true := by
  unfold on at hq ⊢
  obtain ⟨r, hr, h2⟩ := List.any_eq_true.1 hq
  have h2 := of_decide_eq_true h2
  obtain ⟨a1, a2⟩ := h r hr
  exact List.any_eq_true.2 ⟨r, hr, decide_eq_true (by omega)⟩
theorem isB_row {w : World} {b n : Nat} {xs : List Nat} (h : Row w b 5 (xs.map u8)) (hx : ∀ x ∈ xs, x < 256) (hn : xs.length = n) (h63 : n ≤ 9223372036854775807) : IsB w w.heap.size (some ⟨b, 0, none⟩) n xs := by
  refine ⟨⟨by simp [hn], fun _ => ⟨_, rfl, h.lt, fun j u hu => ?_⟩⟩, hx, h63⟩
  have h := h.cell j
  unfold Addr.add
  split
  · rename_i h0; subst h0; rw [h]; exact hu
  · rw [Nat.zero_add, h]; exact hu
theorem leafRow_memB (mem : Nat → Nat) (k : Nat) : leafRow mem k = (memB mem (k * 4096) 4096).map u8 := by
  unfold leafRow memB
  rw [List.map_map]
  refine List.map_congr_left fun i _ => ?_
  show u8 _ = u8 _
  rw [Nat.mul_comm]
theorem ks_of {w : World} {B g : Nat} {M : PM} {A1 A2 Ap : Option Addr} {n1 n2 c1 c2 np cp : Nat} {pgs : List (Nat × Nat)} (h : RMA w B g M A1 A2 Ap n1 n2 c1 c2 np cp pgs) : ∃ ks : List Nat, ks.Nodup ∧ ∀ k, k ∈ ks ↔ nz M.mem k := by
  refine ⟨(pgs.map (fun x : Nat × Nat => x.1)).filter (fun k => nzJ M.mem k 4096), List.Pairwise.filter _ h.nums, fun k => ?_⟩
  rw [List.mem_filter, nzJ_nz]
  constructor
  · rintro ⟨_, h2⟩; exact h2
  · intro h2
    refine ⟨?_, h2⟩
    obtain ⟨i, hi, hm⟩ := h2
    by_cases hx : ∃ x ∈ pgs, x.1 = k
    · obtain ⟨x, hx, rfl⟩ := hx
      exact List.mem_map.2 ⟨x, hx, rfl⟩
    · exact absurd (h.out (4096 * k + i) (fun x hx2 e2 => hx ⟨x, hx2, by omega⟩)) hm
/-- while it compares -/
structure AI (B g gv : Nat) (Z R Zv : Nat → Prop) (M : PM) (s : Int) (w : World) (A1 A2 Ap : Option Addr) (n1 n2 c1 c2 np cp : Nat) (pgs : List (Nat × Nat)) (wr : World) : Prop where
  m : MZ Z R wr g M
  d : DZ Zv wr B gv (sM M s) A1 A2 Ap n1 n2 c1 c2 np cp pgs
  ch : ChgP Z w wr
theorem AI.below {B g gv : Nat} {Z R Zv : Nat → Prop} {M : PM} {s : Int} {w : World} {A1 A2 Ap : Option Addr} {n1 n2 c1 c2 np cp : Nat} {pgs : List (Nat × Nat)} {wr wx : World} (h : AI B g gv Z R Zv M s w A1 A2 Ap n1 n2 c1 c2 np cp pgs wr) (hb : Below wr.heap.size wr wx) : AI B g gv Z R Zv M s w A1 A2 Ap n1 n2 c1 c2 np cp pgs wx :=
  ⟨h.m.below hb, h.d.below hb, h.ch.trans (ChgP.of_below (Z := fun _ => False) hb) (fun k hk => hk.elim)⟩
set_option maxRecDepth 100000 in
set_option maxHeartbeats 4000000 in
theorem alike_any {B g gv : Nat} {Z R Zv : Nat → Prop} {w : World} {M : PM} {s : Int} (h : Two B Z R Zv w g gv M (sM M s)) (hal : Algn (M.rams ++ M.devs)) :
    Calls Tryz.prog 12 #[.pointer (some ⟨g, 0, none⟩), .pointer (some ⟨gv, 0, none⟩)] w fun e w' => e = .returned (.bool true) ∧ ChgP Z w w' := by
  have HDIS := Lib.hid h.dis
  have HZL := Lib.hid h.zl
  have hm := h.m
  obtain ⟨A1, A2, Ap, n1, n2, c1, c2, np, cp, pgs, hd⟩ := h.v
  have HA : Hid (AI B g gv Z R Zv M s w A1 A2 Ap n1 n2 c1 c2 np cp pgs w) := Lib.hid ⟨hm, hd, ChgP.refl _ _⟩
  have HAL := Lib.hid hal
  have HNUM := Lib.hid hd.num
  have HPL := Lib.hid hd.m.plen
  obtain ⟨ks, hks1, hks2⟩ := ks_of hd.m
  have HKS : Hid (ks.Nodup ∧ (∀ k, k ∈ ks ↔ nz M.mem k) ∧ keptN M.mem pgs pgs.length = ks.length) := Lib.hid ⟨hks1, hks2, keptN_ks hd.m hks1 hks2⟩
  have hnp := hd.np_le
  clear h hal hm hks1 hks2 hd
  go_enter Tryz.func12, Tryz.ntmps12
  go_wp2_with fail
  go_loopw [5] (fun x wr => ∃ j : Nat, j ≤ np ∧ x = .int .i64 (j : Nat) ∧ Hid (AI B g gv Z R Zv M s w A1 A2 Ap n1 n2 c1 c2 np cp pgs wr)) (fun x _ => np - (intOf x).toNat)
  case atStart => exact ⟨0, by omega, rfl, HA⟩
  case round =>
  clear HA
  obtain ⟨j, hj, rfl, HA⟩ := hrel
  have v2 := HA.out.d.m.row.cell 2
  have vl := HA.out.d.m.row.lt
  simp only [List.getElem?_cons_zero, List.getElem?_cons_succ] at v2
  by_cases hjn : j < np
  · obtain ⟨bp, op, hf⟩ := HA.out.d.m.page
    obtain ⟨rfl, hbl, hc⟩ := hf.out (by omega)
    obtain ⟨⟨k, bk⟩, hx⟩ : ∃ x, pgs[j]? = some x := ⟨_, List.getElem?_eq_getElem (by rw [HPL.out]; exact hjn)⟩
    have x0 := (hc j _ hx).1
    have hxm := List.mem_of_getElem? hx
    obtain ⟨hk20, q, hq, hqo⟩ := HNUM.out _ hxm
    simp only at x0 hk20 hq
    obtain ⟨a, ha⟩ : ∃ a, a = k * 4096 := ⟨_, rfl⟩
    have hOF : OffIs (M.rams ++ M.devs) a 4096 none := fun p h1 h2 => on_page HAL.out hqo (by omega)
    have HRD : Hid (Calls Tryz.prog 30 #[.pointer (some ⟨g, 0, none⟩), .int .u64 (a : Nat), .int .i64 4096] wr fun e w' => ∃ bb, e = .returned (.tuple #[.slice (some ⟨bb, 0, none⟩) 4096 4096, .agg #[.int .i64 0, .int .u64 0]]) ∧ AI B g gv Z R Zv M s w A1 A2 (some ⟨bp, op, none⟩) n1 n2 c1 c2 np cp pgs w' ∧ IsB w' w'.heap.size (some ⟨bb, 0, none⟩) 4096 (memB M.mem a 4096)) := Lib.hid (by
      refine (read_m (n := 4096) HA.out.m (by decide) (by unfold TOP; omega) trivial hOF).mono fun e w' hh => ?_
      obtain ⟨⟨h1, h2⟩, bb, he, hb1, hb2, hb3⟩ := hh
      refine ⟨bb, he, ⟨h1, HA.out.d.chg h2 (fun k hk hy => ?_), HA.out.ch.trans h2 (fun k hk => .inl hk)⟩, isB_row hb2 hb3 (memB_len _ _ _) (by decide)⟩
      rcases hk with hk | hk
      · exact HDIS.out k (.inl hy) hk
      · have := HZL.out k (.inl hy); omega)
    have HBK : Hid (∀ wx, AI B g gv Z R Zv M s w A1 A2 (some ⟨bp, op, none⟩) n1 n2 c1 c2 np cp pgs wx → IsB wx wx.heap.size (some ⟨bk, 0, none⟩) 4096 (memB M.mem a 4096) ∧ wx.cell? ⟨bp, op + j * 2 + 1, none⟩ = some (.slice (some ⟨bk, 0, none⟩) 4096 4096) ∧ bp < wx.heap.size) := Lib.hid (fun wx hw => by
      have hb := (hw.d.m.bytes _ hxm).2
      refine ⟨isB_row (by rw [ha, ← leafRow_memB]; exact hb) (fun x hx => ?_) (memB_len _ _ _) (by decide), ?_⟩
      · obtain ⟨i, _, rfl⟩ := List.mem_map.1 hx
        exact hw.m.byteM _
      · obtain ⟨bp', op', hf'⟩ := hw.d.m.page
        obtain ⟨he, hb', hc'⟩ := hf'.out (by omega)
        injection he with he
        injection he with e1 e2 _
        subst e1 e2
        exact ⟨(hc' j _ hx).2, hb'⟩)
    have e1 : (k : Int) * 4096 = (a : Int) := by omega
    have e2 : IntKind.u64.wrap (a : Int) = (a : Int) := by rw [IntKind.wrap_u64]; omega
    clear hf hc hx hxm hk20 q hq hqo ha hOF
    go_upto_region 4 with fail
    go_upto_region 5 with (go_at_call 30; refine HRD.out.mono ?_; rintro e w2 ⟨bb, rfl, ha2, hb2⟩; have H2 := Lib.hid (And.intro ha2 hb2); clear ha2 hb2)
    have hb3 : Below w2.heap.size w2 (w2.alloc (.cells #[.int .i64 0, .int .u64 0] 57)) := (Below.refl _ _).alloc (Nat.le_refl _) _
    have HA3 := Lib.hid (H2.out.1.below hb3)
    have HI3 := Lib.hid ((H2.out.2.below hb3).more hb3.size)
    have r7 := Row.new w2 57 [.int .i64 0, .int .u64 0]
    generalize w2.alloc (.cells #[.int .i64 0, .int .u64 0] 57) = w3 at *
    obtain ⟨hI2, x1, hl3⟩ := HBK.out _ HA3.out
    have HI4 := Lib.hid hI2
    have y0 := r7.cell 0
    have yl := r7.lt
    simp only [List.getElem?_cons_zero] at y0
    clear hb3 r7 H2 hI2 x0 hbl v2 vl HA
    have v2 := HA3.out.d.m.row.cell 2
    have vl := HA3.out.d.m.row.lt
    simp only [List.getElem?_cons_zero, List.getElem?_cons_succ] at v2
    have i1 : (0 : Int) ≤ (j : Int) := by omega
    have i2 : (j : Int) < (np : Int) := by omega
    go_wp2_with fail
    refine (same_yes _ _ 4096 4096 4096 _ w3 HI3.out HI4.out).mono ?_
    rintro e w4 ⟨rfl, mm, rfl⟩
    have HA5 := Lib.hid (HA3.out.below (below_drewN (Below.refl _ _) mm))
    go_wp2_with fail
    go_roundw
    case rel => exact ⟨j + 1, by omega, by go_num, HA5⟩
    case measure => simp [intOf]; omega
  · have ej : j = np := by omega
    subst ej
    have v3 : wr.cell? ⟨gv, 3, none⟩ = some (.int .i64 M.loads) := HA.out.d.m.row.cell 3
    have v4 : wr.cell? ⟨gv, 4, none⟩ = some (.int .i64 M.stores) := HA.out.d.m.row.cell 4
    have hgl := HA.out.m.lt
    have HK1 : Hid (∀ m, Calls Tryz.prog 31 #[.pointer (some ⟨g, 0, none⟩)] (wr.drewN m) fun e w' => e = .returned (.int .i64 (ks.length : Nat)) ∧ w' = wr.drewN m) := Lib.hid (fun m => (kept_m (HA.out.m.below (below_drewN (Below.refl _ _) m)) HKS.out.1 HKS.out.2.1).mono (fun e w' ⟨h1, h2⟩ => ⟨h1, h2.symm⟩))
    have HK2 : Hid (∀ m, Calls Tryz.prog 32 #[.pointer (some ⟨gv, 0, none⟩)] (wr.drewN m) fun e w' => e = .returned (.int .i64 (ks.length : Nat)) ∧ w' = wr.drewN m) := Lib.hid (fun m => (refkept_any (HA.out.d.below (below_drewN (Below.refl _ _) m)).m).mono (fun e w' ⟨h1, h2⟩ => ⟨by rw [h1]; show Ending.returned (.int .i64 ((keptN M.mem pgs pgs.length : Nat) : Int)) = _; rw [HKS.out.2.2], h2.symm⟩))
    have HK3 : Hid (∀ m, Calls Tryz.prog 33 #[.pointer (some ⟨g, 0, none⟩)] (wr.drewN m) fun e w' => e = .returned (.int .i64 M.loads) ∧ w' = wr.drewN m) := Lib.hid (fun m => (loads_m (HA.out.m.below (below_drewN (Below.refl _ _) m))).mono (fun e w' ⟨h1, h2⟩ => ⟨h1, h2.symm⟩))
    have HK4 : Hid (∀ m, Calls Tryz.prog 34 #[.pointer (some ⟨g, 0, none⟩)] (wr.drewN m) fun e w' => e = .returned (.int .i64 M.stores) ∧ w' = wr.drewN m) := Lib.hid (fun m => (stores_m (HA.out.m.below (below_drewN (Below.refl _ _) m))).mono (fun e w' ⟨h1, h2⟩ => ⟨h1, h2.symm⟩))
    go_wp2_with fail
    go_quiet (first
      | (go_at_call 31; refine Calls.quiet_of_same (HK1.out _))
      | (go_at_call 32; refine Calls.quiet_of_same (HK2.out _))
      | (go_at_call 33; refine Calls.quiet_of_same (HK3.out _))
      | (go_at_call 34; refine Calls.quiet_of_same (HK4.out _)))
    go_wp2_with fail
    go_ret
    exact ⟨rfl, HA.out.ch.drewN _⟩
end Bu
end Go.Proofs.YtfpofaniicegaaaGreat

/- The walk of the law WalkPlays; its script, opened. -/
set_option linter.unusedVariables false
set_option linter.unusedSimpArgs false
namespace Go.Proofs.YtfpofaniicegaaaGreat
open Go.Joins Go.ChangeShapes Go.WideShapes Go.RowKit Go.Deep
open S64
namespace Bu
structure OpR where
  kd : Int
  root : Nat
  virt : Nat
  value : Nat
  nn : Int
def OpR.cells (o : OpR) : List Value := [.int .i64 o.kd, .int .u64 (o.root : Nat), .int .u64 (o.virt : Nat), .int .u64 (o.value : Nat), .int .i64 o.nn]
def OpR.ok (o : OpR) : Prop := o.root ≤ 18446744073709551615 ∧ o.virt ≤ 18446744073709551615 ∧ o.value ≤ 18446744073709551615 ∧ -9223372036854775808 ≤ o.nn ∧ o.nn ≤ 9223372036854775807
/-- a script lies at A -/
def IsO (w : World) (A : Option Addr) (n : Nat) (os : List OpR) : Prop := os.length = n ∧ n ≤ 9223372036854775807 ∧ (∀ o ∈ os, o.ok) ∧ (0 < n → ∃ b off, A = some ⟨b, off, none⟩ ∧ b < w.heap.size ∧ ∀ (k : Nat) (o : OpR), os[k]? = some o → ∀ (j : Nat) (u : Value), o.cells[j]? = some u → w.cell? ⟨b, off + k * 5 + j, none⟩ = some u)
section
variable {H : Type} {enc : TypeId × Value → H} {w : World} {base : Nat} {spare : Nat → Bool} {held : Bool}
set_option maxRecDepth 100000 in
theorem open_ops {fuel : Nat} {A : Option Addr} {len cap : Nat} {y : DataW H × List MemPlace} (h : DataW.trod enc Tryz.prog w base spare held fuel 26 [.slice A len cap] = some y) : ∃ os, IsO w A len os := by
  have hC : Tryz.prog.cellsOf 41 = 5 := by kernel_rfl
  rcases open_slice_fields Tryz.underlying26 Tryz.underlying41 (by kernel_rfl) hC h with ⟨hcs, _⟩ | ⟨a, len', cap', m, D, Pl, hcs, hb, hl, hm, hmm, hx, hi⟩
  · simp at hcs
    obtain ⟨rfl, rfl, rfl⟩ := hcs
    exact ⟨[], rfl, by decide, by simp, fun h => absurd h (by decide)⟩
  · simp at hcs
    obtain ⟨rfl, rfl, rfl⟩ := hcs
    have hle : len ≤ m := by rw [hmm]; split <;> omega
    obtain ⟨rows, hol, hrows⟩ := list_of (P := fun i (r : OpR) => (∀ (j : Nat) (v : Value), r.cells[j]? = some v → w.cell? (a.add (i * 5 + j)) = some v) ∧ r.ok) len (fun i hil => by
      obtain ⟨ys, n, _, _, _, hf⟩ := hi i (by omega)
      obtain ⟨v0, y0, c0, _, t0⟩ := hf 0 _ rfl
      obtain ⟨v1, y1, c1, _, t1⟩ := hf 1 _ rfl
      obtain ⟨v2, y2, c2, _, t2⟩ := hf 2 _ rfl
      obtain ⟨v3, y3, c3, _, t3⟩ := hf 3 _ rfl
      obtain ⟨v4, y4, c4, _, t4⟩ := hf 4 _ rfl
      obtain ⟨z0, e0, _, w0⟩ := DataW.trod_int (k := .i64) Tryz.underlying3 t0
      obtain ⟨z1, e1, _, w1⟩ := DataW.trod_int (k := .u64) Tryz.underlying31 t1
      obtain ⟨z2, e2, _, w2⟩ := DataW.trod_int (k := .u64) Tryz.underlying31 t2
      obtain ⟨z3, e3, _, w3⟩ := DataW.trod_int (k := .u64) Tryz.underlying31 t3
      obtain ⟨z4, e4, _, w4⟩ := DataW.trod_int (k := .i64) Tryz.underlying3 t4
      simp at e0 e1 e2 e3 e4
      subst e0 e1 e2 e3 e4
      have b1 := bounds_u64 w1
      have b2 := bounds_u64 w2
      have b3 := bounds_u64 w3
      have b4 := bounds_i64 w4
      obtain ⟨k1, rfl⟩ : ∃ k : Nat, z1 = k := ⟨z1.toNat, by omega⟩
      obtain ⟨k2, rfl⟩ : ∃ k : Nat, z2 = k := ⟨z2.toNat, by omega⟩
      obtain ⟨k3, rfl⟩ : ∃ k : Nat, z3 = k := ⟨z3.toNat, by omega⟩
      refine ⟨⟨z0, k1, k2, k3, z4⟩, ?_, by show k1 ≤ _; omega, by show k2 ≤ _; omega, by show k3 ≤ _; omega, b4⟩
      intro j v hv
      match j, hv with
      | 0, hv => simp [OpR.cells] at hv; subst hv; exact c0
      | 1, hv => simp [OpR.cells] at hv; subst hv; exact c1
      | 2, hv => simp [OpR.cells] at hv; subst hv; exact c2
      | 3, hv => simp [OpR.cells] at hv; subst hv; exact c3
      | 4, hv => simp [OpR.cells] at hv; subst hv; exact c4
      | j + 5, hv => simp [OpR.cells] at hv)
    refine ⟨rows, hol, by unfold maxLen at hm; omega, fun r hr => ?_, fun h0 => ?_⟩
    · obtain ⟨i, hi1, rfl⟩ := List.mem_iff_getElem.1 hr
      exact (hrows i _ (List.getElem?_eq_getElem hi1)).2
    · have hx0 := List.getElem?_eq_getElem (show 0 < rows.length by omega)
      have hc0 := (hrows 0 _ hx0).1 0 _ rfl
      obtain ⟨b, off, sp⟩ := a
      have hs : sp = none := by
        have := World.cell?_spot hc0
        simpa [Addr.add] using this
      subst hs
      refine ⟨b, off, rfl, by have := World.block_lt_of_cell? w _ hc0; rwa [block_of_add] at this, fun k o ho j u hu => ?_⟩
      have hc := (hrows k o ho).1 j u hu
      unfold Addr.add at hc
      split at hc
      · rename_i h1
        rw [show off + k * 5 + j = off by omega]
        exact hc
      · rw [Nat.add_assoc]; exact hc
end
/-- while the script is played -/
def PW (Bg g gv : Nat) (rams devs : Sp.S) (w wr : World) : Prop := (∃ (Z R Zv : Nat → Prop) (M : PM) (s : Int), Two Bg Z R Zv wr g gv M (sM M s) ∧ M.rams = rams ∧ M.devs = devs) ∧ Below w.heap.size w wr
theorem wordsM_bus' (M : PM) (ws : Sp.S) : (wordsM M ws).rams = M.rams ∧ (wordsM M ws).devs = M.devs := wordsM_bus M ws
set_option maxRecDepth 100000 in
set_option maxHeartbeats 4000000 in
theorem walkplays_walk (A1 A2 Aw Ao : Option Addr) (n1 n2 nw no c1 c2 cw co : Nat) (rams devs ws : Sp.S) (os : List OpR) (w : World) (h1 : IsS w w.heap.size A1 n1 rams) (h2 : IsS w w.heap.size A2 n2 devs) (hw : IsS w w.heap.size Aw nw ws) (ht : ∀ x ∈ rams ++ devs, x.1 ≤ TOP ∧ x.2 ≤ TOP) (htw : ∀ x ∈ ws, x.1 ≤ TOP ∧ x.2 ≤ TOP) (ho : IsO w Ao no os) :
    Calls Tryz.prog 4 #[.agg #[.slice A1 n1 c1, .slice A2 n2 c2], .slice Aw nw cw, .slice Ao no co] w fun e w' => e = .returned (.bool true) ∧ Below w.heap.size w w' := by
  have H1 := Lib.hid h1; have H2 := Lib.hid h2; have HW := Lib.hid hw; have HT := Lib.hid ht; have HTW := Lib.hid htw
  have HO := Lib.hid ho
  have hno63 := ho.2.1
  clear h1 h2 hw ht htw ho
  go_enter Tryz.func4, Tryz.ntmps4
  go_upto_region 1 with fail
  have r0 := Row.new w 24 [.slice A1 n1 c1, .slice A2 n2 c2]
  have hb0 : Below w.heap.size w (w.alloc (.cells #[.slice A1 n1 c1, .slice A2 n2 c2] 24)) := (Below.refl _ _).alloc (Nat.le_refl _) _
  obtain ⟨c6, hc⟩ : ∃ c, c = w.heap.size := ⟨_, rfl⟩
  generalize w.alloc (.cells #[.slice A1 n1 c1, .slice A2 n2 c2] 24) = w1 at *
  rw [← hc] at r0 ⊢
  have HB1 := Lib.hid hb0; have HR1 := Lib.hid r0
  clear r0 hb0 hc
  go_wp2_with fail
  refine (awake_any w1).mono ?_
  rintro e w2 ⟨rfl, hb2⟩
  have HB2 := Lib.hid (HB1.out.trans (hb2.mono HB1.out.size))
  have HR2 := Lib.hid (HR1.out.below hb2 HR1.out.lt)
  clear hb2 HR1 HB1
  have p0 := HR2.out.cell 0
  have p1 := HR2.out.cell 1
  have lp := HR2.out.lt
  simp only [List.getElem?_cons_zero, List.getElem?_cons_succ] at p0 p1
  have HGR := Lib.hid (grounds_any A1 A2 Aw n1 n2 nw c1 c2 cw rams devs ws w2 ((H1.out.below HB2.out).more HB2.out.size) ((H2.out.below HB2.out).more HB2.out.size) ((HW.out.below HB2.out).more HB2.out.size) HT.out HTW.out)
  go_wp2_with fail
  refine HGR.out.mono ?_
  rintro e w4 ⟨hb4, hg⟩
  have HB4 := Lib.hid (HB2.out.trans (hb4.mono HB2.out.size))
  have HR4 := Lib.hid (HR2.out.below hb4 HR2.out.lt)
  rcases hg with ⟨hne, rfl⟩ | ⟨hne, g, gv, Z, R, Zv, rfl, htwo⟩
  · have HNE := Lib.hid hne
    clear hb4 hne HGR p0 p1 lp
    have p0 := HR4.out.cell 0
    have p1 := HR4.out.cell 1
    have lp := HR4.out.lt
    simp only [List.getElem?_cons_zero, List.getElem?_cons_succ] at p0 p1
    go_wp2_with fail
    have HRF := Lib.hid (refuses_any A1 A2 n1 n2 c1 c2 rams devs w4 ((H1.out.below HB4.out).more HB4.out.size) ((H2.out.below HB4.out).more HB4.out.size) HT.out)
    obtain ⟨E, hE⟩ : ∃ E, E = newE rams devs := ⟨_, rfl⟩
    rw [← hE] at HRF
    have g1 : ((E : Int) != 0) = true := by have h := HNE.out; rw [← hE] at h; simp; omega
    clear hE
    refine HRF.out.mono ?_
    rintro e w5 ⟨rfl, hb5⟩
    have HB5 := Lib.hid (HB4.out.trans (hb5.mono HB4.out.size))
    clear hb5 p0 p1 lp
    go_wp2_with fail
    go_ret
    exact ⟨rfl, HB5.out⟩
  · have HAL := Lib.hid (newE_al hne)
    have HP4 : Hid (PW w2.heap.size g gv rams devs w w4) := Lib.hid ⟨⟨Z, R, Zv, _, (wordsM ⟨rams, devs, fun _ => 0, 0, 0, 0⟩ ws).strays, htwo, (wordsM_bus' _ _).1, (wordsM_bus' _ _).2⟩, HB4.out⟩
    have HW2 : Hid (w.heap.size ≤ w2.heap.size) := Lib.hid HB2.out.size
    clear hb4 hne htwo HGR p0 p1 lp HR2 HR4 HB2 HB4
    go_wp2_with fail
    go_loopw [9] (fun x wr => ∃ j : Nat, j ≤ no ∧ x = .int .i64 (j : Nat) ∧ Hid (PW w2.heap.size g gv rams devs w wr)) (fun x _ => no - (intOf x).toNat)
    case atStart => exact ⟨0, by omega, rfl, HP4⟩
    case round =>
    clear HP4
    obtain ⟨j, hj, rfl, HP⟩ := hrel
    by_cases hjn : j < no
    · obtain ⟨hol, _, hok, hf⟩ := HO.out
      obtain ⟨b, off, rfl, hb, hc⟩ := hf (by omega)
      obtain ⟨o, hoj⟩ : ∃ o, os[j]? = some o := ⟨_, List.getElem?_eq_getElem (by omega)⟩
      obtain ⟨ok1, ok2, ok3, ok4⟩ := hok o (List.mem_of_getElem? hoj)
      have hcell : ∀ (i : Nat) (u : Value), o.cells[i]? = some u → wr.cell? ⟨b, off + j * 5 + i, none⟩ = some u := fun i u hu => (HP.out.2.cell (p := ⟨b, off + j * 5 + i, none⟩) hb).trans (hc j o hoj i u hu)
      have hbl : b < wr.heap.size := Nat.lt_of_lt_of_le hb HP.out.2.size
      obtain ⟨kd, root, virt, value, nn⟩ := o
      have x0 := hcell 0 _ rfl
      have x1 := hcell 1 _ rfl
      have x2 := hcell 2 _ rfl
      have x3 := hcell 3 _ rfl
      have x4 := hcell 4 _ rfl
      simp only [Nat.add_zero] at x0 x1 x2 x3 x4
      have HST : Hid (Calls Tryz.prog 9 #[.iface 50 (.pointer (some ⟨g, 0, none⟩)), .pointer (some ⟨gv, 0, none⟩), opV kd nn root virt value] wr fun e w' => e = .returned (.bool true) ∧ PW w2.heap.size g gv rams devs w w') := Lib.hid (by
        obtain ⟨⟨Z1, R1, Zv1, M1, s1, ht1, hr1, hd1⟩, hbel⟩ := HP.out
        refine (step_any ht1 kd nn root virt value ok1 ok2 ok3 (fun Z R Zv w M s h => leaves_m h kd nn root virt value ok1 ok4)).mono fun e w' hh => ?_
        obtain ⟨he, Z', R', Zv', M', s', h5, h6, h7, h8, h9, h10⟩ := hh
        refine ⟨he, ⟨Z', R', Zv', M', s', h5, h9.trans hr1, h10.trans hd1⟩, hbel.trans (h6.below hbel.size (fun k hk => ?_))⟩
        have hw2 := HW2.out
        rcases hk with hk | hk
        · have := ht1.zl k (.inl hk); omega
        · have := (ht1.v.lt k hk).1; omega)
      unfold opV at HST
      clear hol hok hf hc hoj ok1 ok2 ok3 ok4 hcell hb
      go_wp2_with fail
      refine HST.out.mono ?_
      rintro e w5 ⟨rfl, hp5⟩
      have HP5 := Lib.hid hp5
      clear hp5 HST x0 x1 x2 x3 x4 hbl
      go_wp2_with fail
      go_roundw
      case rel => exact ⟨j + 1, by omega, by go_num, HP5⟩
      case measure => simp [intOf]; omega
    · have HAK : Hid (Calls Tryz.prog 12 #[.pointer (some ⟨g, 0, none⟩), .pointer (some ⟨gv, 0, none⟩)] wr fun e w' => e = .returned (.bool true) ∧ Below w.heap.size w w') := Lib.hid (by
        obtain ⟨⟨Z1, R1, Zv1, M1, s1, ht1, hr1, hd1⟩, hbel⟩ := HP.out
        refine (alike_any ht1 (by rw [hr1, hd1]; exact HAL.out)).mono fun e w' hh => ⟨hh.1, hbel.trans (hh.2.below hbel.size (fun k hk => ?_))⟩
        have hw2 := HW2.out
        have := ht1.zl k (.inl hk)
        omega)
      go_wp2_with fail
      refine HAK.out.mono ?_
      rintro e w5 ⟨rfl, hb5⟩
      have HB5 := Lib.hid hb5
      clear hb5 HAK
      go_wp2_with fail
      go_ret
      exact ⟨rfl, HB5.out⟩
end Bu
end Go.Proofs.YtfpofaniicegaaaGreat
