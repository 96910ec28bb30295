/- Texts of this claim, one behind the other: WpC, WpD, TpA. -/
import Derived.Test.YtfpofaniicegaaaGreatJWalkForeign21
import Derived.Test.YtfpofaniicegaaaGreatJWalkForeign16
import Derived.Test.YtfpofaniicegaaaGreatJWalkForeign38
import Derived.Test.YtfpofaniicegaaaGreatJWalkForeign1
import Derived.BigQuiet
import Derived.Test.YtfpofaniicegaaaGreatJWalkForeign37
/- The document's machine: Kept. -/
set_option linter.unusedVariables false
set_option linter.unusedSimpArgs false
namespace Go.Proofs.YtfpofaniicegaaaGreat
open Go.RowKit
open S64
namespace Bu
/-- is something else than zero laid in the first j bytes of a page? -/
def nzJ (mem : Nat → Nat) (k j : Nat) : Bool := (List.range j).any fun i => decide (mem (4096 * k + i) ≠ 0)
theorem nzJ_succ (mem : Nat → Nat) (k j : Nat) : nzJ mem k (j + 1) = (nzJ mem k j || decide (mem (4096 * k + j) ≠ 0)) := by
  unfold nzJ
  rw [List.range_succ, List.any_append]
  simp
theorem nzJ_nz (mem : Nat → Nat) (k : Nat) : nzJ mem k 4096 = true ↔ nz mem k := by
  unfold nzJ nz
  rw [List.any_eq_true]
  constructor
  · rintro ⟨i, hi, h⟩
    exact ⟨i, List.mem_range.1 hi, by simpa using h⟩
  · rintro ⟨i, hi, h⟩
    exact ⟨i, List.mem_range.2 hi, by simpa using h⟩
/-- how many of the first i pages are kept -/
def keptN (mem : Nat → Nat) (pgs : List (Nat × Nat)) (i : Nat) : Nat := ((pgs.take i).filter fun x => nzJ mem x.1 4096).length
theorem keptN_succ {mem : Nat → Nat} {pgs : List (Nat × Nat)} {i : Nat} {x : Nat × Nat} (h : pgs[i]? = some x) : keptN mem pgs (i + 1) = keptN mem pgs i + if nzJ mem x.1 4096 = true then 1 else 0 := by
  have hi := (List.getElem?_eq_some_iff.1 h).1
  have e : pgs.take (i + 1) = pgs.take i ++ [x] := by
    rw [List.take_succ_eq_append_getElem hi]
    congr 2
    rw [List.getElem?_eq_getElem hi] at h
    injection h
  unfold keptN
  rw [e, List.filter_append, List.length_append]
  by_cases hn : nzJ mem x.1 4096 = true
  · rw [if_pos hn, List.filter_cons, if_pos hn]; rfl
  · rw [if_neg hn, List.filter_cons, if_neg hn]; rfl
theorem keptN_le (mem : Nat → Nat) (pgs : List (Nat × Nat)) (i : Nat) : keptN mem pgs i ≤ i := by
  unfold keptN
  exact Nat.le_trans (List.length_filter_le _ _) (by rw [List.length_take]; exact Nat.min_le_left _ _)
theorem filt (f : Nat → Bool) (l : List (Nat × Nat)) : (l.filter (fun x => f x.1)).length = ((l.map (·.1)).filter f).length := by rw [List.filter_map, List.length_map]; rfl
theorem keptN_ks {w : World} {B g : Nat} {M : PM} {A1 A2 Ap : Option Addr} {n1 n2 c1 c2 np cp : Nat} {pgs : List (Nat × Nat)} (h : RMA w B g M A1 A2 Ap n1 n2 c1 c2 np cp pgs) {ks : List Nat} (hn : ks.Nodup) (hk : ∀ k, k ∈ ks ↔ nz M.mem k) : keptN M.mem pgs pgs.length = ks.length := by
  unfold keptN
  rw [List.take_length]
  have e : (pgs.filter fun x => nzJ M.mem x.1 4096).length = ((pgs.map (·.1)).filter fun k => nzJ M.mem k 4096).length := filt (fun k => nzJ M.mem k 4096) pgs
  rw [e]
  refine List.Perm.length_eq ((List.perm_ext_iff_of_nodup (h.nums.filter _) hn).2 fun k => ?_)
  rw [List.mem_filter, hk k, nzJ_nz]
  constructor
  · rintro ⟨_, h2⟩; exact h2
  · intro h2
    refine ⟨?_, h2⟩
    obtain ⟨i, hi, hm⟩ := h2
    by_cases hx : ∃ x ∈ pgs, x.1 = k
    · obtain ⟨x, hx, rfl⟩ := hx
      exact List.mem_map.2 ⟨x, hx, rfl⟩
    · exact absurd (h.out (4096 * k + i) (fun x hx2 e2 => hx ⟨x, hx2, by omega⟩)) hm
set_option maxRecDepth 100000 in
set_option maxHeartbeats 2000000 in
theorem refkept_any {w : World} {B g : Nat} {M : PM} {A1 A2 Ap : Option Addr} {n1 n2 c1 c2 np cp : Nat} {pgs : List (Nat × Nat)} (h : RMA w B g M A1 A2 Ap n1 n2 c1 c2 np cp pgs) :
    Calls Tryz.prog 32 #[.pointer (some ⟨g, 0, none⟩)] w fun e w' => e = .returned (.int .i64 (keptN M.mem pgs pgs.length : Nat)) ∧ w = w' := by
  have p2 := h.row.cell 2
  have lp := h.row.lt
  have hn63 := h.pcap
  have HPL := Lib.hid h.plen
  have HBY := Lib.hid h.bytes
  obtain ⟨bp, op, HF⟩ := h.page
  simp only [List.getElem?_cons_zero, List.getElem?_cons_succ] at p2
  clear h
  go_enter Tryz.func32, Tryz.ntmps32
  go_wp2_with fail
  go_loopw [3, 4] (fun n i wr => ∃ (j m : Nat), j ≤ np ∧ i = .int .i64 (j : Nat) ∧ n = .int .i64 (m : Nat) ∧ Hid (m = keptN M.mem pgs j) ∧ w = wr) (fun _ i _ => np - (intOf i).toNat)
  case atStart => exact ⟨0, 0, by omega, rfl, rfl, Lib.hid rfl, rfl⟩
  case round =>
  obtain ⟨j, m, hj, rfl, rfl, HMK, rfl⟩ := hrel
  by_cases hjn : j < np
  · obtain ⟨rfl, hb, hc⟩ := HF.out (by omega)
    obtain ⟨⟨k, bk⟩, hx⟩ : ∃ x, pgs[j]? = some x := ⟨_, List.getElem?_eq_getElem (by rw [HPL.out]; exact hjn)⟩
    have x1 := (hc j _ hx).2
    have HX := Lib.hid hx
    have hrow := (HBY.out _ (List.mem_of_getElem? hx)).2
    simp only at x1 hrow
    have HROW := Lib.hid hrow
    have lk := hrow.lt
    have hm : m ≤ j := by rw [HMK.out]; exact keptN_le _ _ _
    clear hc HF hx hrow
    go_wp2_with fail
    go_loopw [5, 6] (fun s i wr => ∃ t : Nat, t ≤ 4096 ∧ i = .int .i64 (t : Nat) ∧ s = .bool (nzJ M.mem k t) ∧ w = wr) (fun _ i _ => 4096 - (intOf i).toNat)
    case atStart => exact ⟨0, by omega, rfl, rfl, rfl⟩
    case round =>
    obtain ⟨t, ht, rfl, rfl, rfl⟩ := hrel
    by_cases ht4 : t < 4096
    · have c0 := HROW.out.cell t
      rw [leafRow_get _ _ _ ht4] at c0
      unfold Go.Proofs.YtfpofaniicegaaaGreat.u8 at c0
      have HS := Lib.hid (nzJ_succ M.mem k t)
      obtain ⟨v, hv⟩ : ∃ v, v = M.mem (4096 * k + t) := ⟨_, rfl⟩
      rw [← hv] at c0 HS
      clear hv
      cases hb1 : nzJ M.mem k t with
      | true =>
        rw [hb1, Bool.true_or] at HS
        go_wp2_with fail
        go_roundw
        case rel => exact ⟨t + 1, by omega, by go_num, by rw [HS.out], by first | rfl | trivial⟩
        case measure => simp [intOf]; omega
      | false =>
        rw [hb1, Bool.false_or] at HS
        by_cases hv0 : v = 0
        · have f : ((v : Int) != 0) = false := by simp; omega
          rw [decide_eq_false (by omega)] at HS
          clear hv0
          go_wp2_with fail
          go_roundw
          case rel => exact ⟨t + 1, by omega, by go_num, by rw [HS.out], by first | rfl | trivial⟩
          case measure => simp [intOf]; omega
        · have f : ((v : Int) != 0) = true := by simp; omega
          rw [decide_eq_true hv0] at HS
          clear hv0
          go_wp2_with fail
          go_roundw
          case rel => exact ⟨t + 1, by omega, by go_num, by rw [HS.out], by first | rfl | trivial⟩
          case measure => simp [intOf]; omega
    · have et : t = 4096 := by omega
      subst et
      have HK := Lib.hid (keptN_succ (mem := M.mem) HX.out)
      rw [← HMK.out] at HK
      simp only at HK
      cases hb1 : nzJ M.mem k 4096 with
      | true =>
        rw [hb1, if_pos rfl] at HK
        go_wp2_with fail
        go_roundw
        case rel => exact ⟨j + 1, m + 1, by omega, by go_num, by go_num, Lib.hid HK.out.symm, by first | rfl | trivial⟩
        case measure => simp [intOf]; omega
      | false =>
        rw [hb1, if_neg (by decide), Nat.add_zero] at HK
        go_wp2_with fail
        go_roundw
        case rel => exact ⟨j + 1, m, by omega, by go_num, by go_num, Lib.hid HK.out.symm, by first | rfl | trivial⟩
        case measure => simp [intOf]; omega
  · have e : j = np := by omega
    subst e
    go_wp2_with fail
    have HE : Hid (m = keptN M.mem pgs pgs.length) := Lib.hid (by rw [HMK.out, HPL.out])
    go_ret
    exact ⟨by rw [← HE.out]; rfl, by first | rfl | trivial⟩
end Bu
end Go.Proofs.YtfpofaniicegaaaGreat

/- The walk of the law's alike. -/
set_option linter.unusedVariables false
set_option linter.unusedSimpArgs false
namespace Go.Proofs.YtfpofaniicegaaaGreat
open Go.RowKit
open S64
namespace Bu
/-- a bus whose ranges begin and end at pages -/
def Algn (l : Sp.S) : Prop := ∀ r ∈ l, r.1 % 4096 = 0 ∧ r.2 % 4096 = 0
theorem chk_al {most : Nat} {pre : Sp.S} {r : Nat × Nat} (h : chk most pre r = 0) : r.1 % 4096 = 0 ∧ r.2 % 4096 = 0 := by
  unfold chk at h
  split at h
  · cases h
  · rename_i h1
    split at h
    · cases h
    · rename_i h2
      exact ⟨by omega, by omega⟩
theorem chks_al {most : Nat} : ∀ {l pre : Sp.S}, chks most pre l = 0 → Algn l := by
  intro l
  induction l with
  | nil => intro pre _ r hr; cases hr
  | cons a l ih =>
    intro pre h
    unfold chks at h
    by_cases h1 : chk most pre a ≠ 0
    · rw [if_pos h1] at h; exact absurd h h1
    · rw [if_neg h1] at h
      intro r hr
      rcases List.mem_cons.1 hr with rfl | hr
      · exact chk_al (Decidable.not_not.1 h1)
      · exact ih h r hr
theorem newE_al {rams devs : Sp.S} (h : newE rams devs = 0) : Algn (rams ++ devs) := by
  unfold newE at h
  split at h
  · cases h
  split at h
  · rename_i h1; exact absurd h h1
  rename_i h1
  split at h
  · rename_i h2; exact absurd h h2
  rename_i h2
  intro r hr
  rcases List.mem_append.1 hr with hr | hr
  · exact chks_al (Decidable.not_not.1 h1) r hr
  · exact chks_al (Decidable.not_not.1 h2) r hr
theorem on_page {l : Sp.S} (h : Algn l) {p q : Nat} (hq : on l q = true) (e : q / 4096 = p / 4096) : on l p = true := by
  unfold on at hq ⊢
  obtain ⟨r, hr, h2⟩ := List.any_eq_true.1 hq
  have h2 := of_decide_eq_true h2
  obtain ⟨a1, a2⟩ := h r hr
  exact List.any_eq_true.2 ⟨r, hr, decide_eq_true (by omega)⟩
theorem isB_row {w : World} {b n : Nat} {xs : List Nat} (h : Row w b 5 (xs.map u8)) (hx : ∀ x ∈ xs, x < 256) (hn : xs.length = n) (h63 : n ≤ 9223372036854775807) : IsB w w.heap.size (some ⟨b, 0, none⟩) n xs := by
  refine ⟨⟨by simp [hn], fun _ => ⟨_, rfl, h.lt, fun j u hu => ?_⟩⟩, hx, h63⟩
  have h := h.cell j
  unfold Addr.add
  split
  · rename_i h0; subst h0; rw [h]; exact hu
  · rw [Nat.zero_add, h]; exact hu
theorem leafRow_memB (mem : Nat → Nat) (k : Nat) : leafRow mem k = (memB mem (k * 4096) 4096).map u8 := by
  unfold leafRow memB
  rw [List.map_map]
  refine List.map_congr_left fun i _ => ?_
  show u8 _ = u8 _
  rw [Nat.mul_comm]
theorem ks_of {w : World} {B g : Nat} {M : PM} {A1 A2 Ap : Option Addr} {n1 n2 c1 c2 np cp : Nat} {pgs : List (Nat × Nat)} (h : RMA w B g M A1 A2 Ap n1 n2 c1 c2 np cp pgs) : ∃ ks : List Nat, ks.Nodup ∧ ∀ k, k ∈ ks ↔ nz M.mem k := by
  refine ⟨(pgs.map (fun x : Nat × Nat => x.1)).filter (fun k => nzJ M.mem k 4096), List.Pairwise.filter _ h.nums, fun k => ?_⟩
  rw [List.mem_filter, nzJ_nz]
  constructor
  · rintro ⟨_, h2⟩; exact h2
  · intro h2
    refine ⟨?_, h2⟩
    obtain ⟨i, hi, hm⟩ := h2
    by_cases hx : ∃ x ∈ pgs, x.1 = k
    · obtain ⟨x, hx, rfl⟩ := hx
      exact List.mem_map.2 ⟨x, hx, rfl⟩
    · exact absurd (h.out (4096 * k + i) (fun x hx2 e2 => hx ⟨x, hx2, by omega⟩)) hm
/-- while it compares -/
structure AI (B g gv : Nat) (Z R Zv : Nat → Prop) (M : PM) (s : Int) (w : World) (A1 A2 Ap : Option Addr) (n1 n2 c1 c2 np cp : Nat) (pgs : List (Nat × Nat)) (wr : World) : Prop where
  m : MZ Z R wr g M
  d : DZ Zv wr B gv (sM M s) A1 A2 Ap n1 n2 c1 c2 np cp pgs
  ch : ChgP Z w wr
theorem AI.below {B g gv : Nat} {Z R Zv : Nat → Prop} {M : PM} {s : Int} {w : World} {A1 A2 Ap : Option Addr} {n1 n2 c1 c2 np cp : Nat} {pgs : List (Nat × Nat)} {wr wx : World} (h : AI B g gv Z R Zv M s w A1 A2 Ap n1 n2 c1 c2 np cp pgs wr) (hb : Below wr.heap.size wr wx) : AI B g gv Z R Zv M s w A1 A2 Ap n1 n2 c1 c2 np cp pgs wx :=
  ⟨h.m.below hb, h.d.below hb, h.ch.trans (ChgP.of_below (Z := fun _ => False) hb) (fun k hk => hk.elim)⟩
set_option maxRecDepth 100000 in
set_option maxHeartbeats 4000000 in
theorem alike_any {B g gv : Nat} {Z R Zv : Nat → Prop} {w : World} {M : PM} {s : Int} (h : Two B Z R Zv w g gv M (sM M s)) (hal : Algn (M.rams ++ M.devs)) :
    Calls Tryz.prog 12 #[.pointer (some ⟨g, 0, none⟩), .pointer (some ⟨gv, 0, none⟩)] w fun e w' => e = .returned (.bool true) ∧ ChgP Z w w' := by
  have HDIS := Lib.hid h.dis
  have HZL := Lib.hid h.zl
  have hm := h.m
  obtain ⟨A1, A2, Ap, n1, n2, c1, c2, np, cp, pgs, hd⟩ := h.v
  have HA : Hid (AI B g gv Z R Zv M s w A1 A2 Ap n1 n2 c1 c2 np cp pgs w) := Lib.hid ⟨hm, hd, ChgP.refl _ _⟩
  have HAL := Lib.hid hal
  have HNUM := Lib.hid hd.num
  have HPL := Lib.hid hd.m.plen
  obtain ⟨ks, hks1, hks2⟩ := ks_of hd.m
  have HKS : Hid (ks.Nodup ∧ (∀ k, k ∈ ks ↔ nz M.mem k) ∧ keptN M.mem pgs pgs.length = ks.length) := Lib.hid ⟨hks1, hks2, keptN_ks hd.m hks1 hks2⟩
  have hnp := hd.np_le
  clear h hal hm hks1 hks2 hd
  go_enter Tryz.func12, Tryz.ntmps12
  go_wp2_with fail
  go_loopw [5] (fun x wr => ∃ j : Nat, j ≤ np ∧ x = .int .i64 (j : Nat) ∧ Hid (AI B g gv Z R Zv M s w A1 A2 Ap n1 n2 c1 c2 np cp pgs wr)) (fun x _ => np - (intOf x).toNat)
  case atStart => exact ⟨0, by omega, rfl, HA⟩
  case round =>
  clear HA
  obtain ⟨j, hj, rfl, HA⟩ := hrel
  have v2 := HA.out.d.m.row.cell 2
  have vl := HA.out.d.m.row.lt
  simp only [List.getElem?_cons_zero, List.getElem?_cons_succ] at v2
  by_cases hjn : j < np
  · obtain ⟨bp, op, hf⟩ := HA.out.d.m.page
    obtain ⟨rfl, hbl, hc⟩ := hf.out (by omega)
    obtain ⟨⟨k, bk⟩, hx⟩ : ∃ x, pgs[j]? = some x := ⟨_, List.getElem?_eq_getElem (by rw [HPL.out]; exact hjn)⟩
    have x0 := (hc j _ hx).1
    have hxm := List.mem_of_getElem? hx
    obtain ⟨hk20, q, hq, hqo⟩ := HNUM.out _ hxm
    simp only at x0 hk20 hq
    obtain ⟨a, ha⟩ : ∃ a, a = k * 4096 := ⟨_, rfl⟩
    have hOF : OffIs (M.rams ++ M.devs) a 4096 none := fun p h1 h2 => on_page HAL.out hqo (by omega)
    have HRD : Hid (Calls Tryz.prog 30 #[.pointer (some ⟨g, 0, none⟩), .int .u64 (a : Nat), .int .i64 4096] wr fun e w' => ∃ bb, e = .returned (.tuple #[.slice (some ⟨bb, 0, none⟩) 4096 4096, .agg #[.int .i64 0, .int .u64 0]]) ∧ AI B g gv Z R Zv M s w A1 A2 (some ⟨bp, op, none⟩) n1 n2 c1 c2 np cp pgs w' ∧ IsB w' w'.heap.size (some ⟨bb, 0, none⟩) 4096 (memB M.mem a 4096)) := Lib.hid (by
      refine (read_m (n := 4096) HA.out.m (by decide) (by unfold TOP; omega) trivial hOF).mono fun e w' hh => ?_
      obtain ⟨⟨h1, h2⟩, bb, he, hb1, hb2, hb3⟩ := hh
      refine ⟨bb, he, ⟨h1, HA.out.d.chg h2 (fun k hk hy => ?_), HA.out.ch.trans h2 (fun k hk => .inl hk)⟩, isB_row hb2 hb3 (memB_len _ _ _) (by decide)⟩
      rcases hk with hk | hk
      · exact HDIS.out k (.inl hy) hk
      · have := HZL.out k (.inl hy); omega)
    have HBK : Hid (∀ wx, AI B g gv Z R Zv M s w A1 A2 (some ⟨bp, op, none⟩) n1 n2 c1 c2 np cp pgs wx → IsB wx wx.heap.size (some ⟨bk, 0, none⟩) 4096 (memB M.mem a 4096) ∧ wx.cell? ⟨bp, op + j * 2 + 1, none⟩ = some (.slice (some ⟨bk, 0, none⟩) 4096 4096) ∧ bp < wx.heap.size) := Lib.hid (fun wx hw => by
      have hb := (hw.d.m.bytes _ hxm).2
      refine ⟨isB_row (by rw [ha, ← leafRow_memB]; exact hb) (fun x hx => ?_) (memB_len _ _ _) (by decide), ?_⟩
      · obtain ⟨i, _, rfl⟩ := List.mem_map.1 hx
        exact hw.m.byteM _
      · obtain ⟨bp', op', hf'⟩ := hw.d.m.page
        obtain ⟨he, hb', hc'⟩ := hf'.out (by omega)
        injection he with he
        injection he with e1 e2 _
        subst e1 e2
        exact ⟨(hc' j _ hx).2, hb'⟩)
    have e1 : (k : Int) * 4096 = (a : Int) := by omega
    have e2 : IntKind.u64.wrap (a : Int) = (a : Int) := by rw [IntKind.wrap_u64]; omega
    clear hf hc hx hxm hk20 q hq hqo ha hOF
    go_upto_region 4 with fail
    go_upto_region 5 with (go_at_call 30; refine HRD.out.mono ?_; rintro e w2 ⟨bb, rfl, ha2, hb2⟩; have H2 := Lib.hid (And.intro ha2 hb2); clear ha2 hb2)
    have hb3 : Below w2.heap.size w2 (w2.alloc (.cells #[.int .i64 0, .int .u64 0] 57)) := (Below.refl _ _).alloc (Nat.le_refl _) _
    have HA3 := Lib.hid (H2.out.1.below hb3)
    have HI3 := Lib.hid ((H2.out.2.below hb3).more hb3.size)
    have r7 := Row.new w2 57 [.int .i64 0, .int .u64 0]
    generalize w2.alloc (.cells #[.int .i64 0, .int .u64 0] 57) = w3 at *
    obtain ⟨hI2, x1, hl3⟩ := HBK.out _ HA3.out
    have HI4 := Lib.hid hI2
    have y0 := r7.cell 0
    have yl := r7.lt
    simp only [List.getElem?_cons_zero] at y0
    clear hb3 r7 H2 hI2 x0 hbl v2 vl HA
    have v2 := HA3.out.d.m.row.cell 2
    have vl := HA3.out.d.m.row.lt
    simp only [List.getElem?_cons_zero, List.getElem?_cons_succ] at v2
    have i1 : (0 : Int) ≤ (j : Int) := by omega
    have i2 : (j : Int) < (np : Int) := by omega
    go_wp2_with fail
    refine (same_yes _ _ 4096 4096 4096 _ w3 HI3.out HI4.out).mono ?_
    rintro e w4 ⟨rfl, mm, rfl⟩
    have HA5 := Lib.hid (HA3.out.below (below_drewN (Below.refl _ _) mm))
    go_wp2_with fail
    go_roundw
    case rel => exact ⟨j + 1, by omega, by go_num, HA5⟩
    case measure => simp [intOf]; omega
  · have ej : j = np := by omega
    subst ej
    have v3 : wr.cell? ⟨gv, 3, none⟩ = some (.int .i64 M.loads) := HA.out.d.m.row.cell 3
    have v4 : wr.cell? ⟨gv, 4, none⟩ = some (.int .i64 M.stores) := HA.out.d.m.row.cell 4
    have hgl := HA.out.m.lt
    have HK1 : Hid (∀ m, Calls Tryz.prog 31 #[.pointer (some ⟨g, 0, none⟩)] (wr.drewN m) fun e w' => e = .returned (.int .i64 (ks.length : Nat)) ∧ w' = wr.drewN m) := Lib.hid (fun m => (kept_m (HA.out.m.below (below_drewN (Below.refl _ _) m)) HKS.out.1 HKS.out.2.1).mono (fun e w' ⟨h1, h2⟩ => ⟨h1, h2.symm⟩))
    have HK2 : Hid (∀ m, Calls Tryz.prog 32 #[.pointer (some ⟨gv, 0, none⟩)] (wr.drewN m) fun e w' => e = .returned (.int .i64 (ks.length : Nat)) ∧ w' = wr.drewN m) := Lib.hid (fun m => (refkept_any (HA.out.d.below (below_drewN (Below.refl _ _) m)).m).mono (fun e w' ⟨h1, h2⟩ => ⟨by rw [h1]; show Ending.returned (.int .i64 ((keptN M.mem pgs pgs.length : Nat) : Int)) = _; rw [HKS.out.2.2], h2.symm⟩))
    have HK3 : Hid (∀ m, Calls Tryz.prog 33 #[.pointer (some ⟨g, 0, none⟩)] (wr.drewN m) fun e w' => e = .returned (.int .i64 M.loads) ∧ w' = wr.drewN m) := Lib.hid (fun m => (loads_m (HA.out.m.below (below_drewN (Below.refl _ _) m))).mono (fun e w' ⟨h1, h2⟩ => ⟨h1, h2.symm⟩))
    have HK4 : Hid (∀ m, Calls Tryz.prog 34 #[.pointer (some ⟨g, 0, none⟩)] (wr.drewN m) fun e w' => e = .returned (.int .i64 M.stores) ∧ w' = wr.drewN m) := Lib.hid (fun m => (stores_m (HA.out.m.below (below_drewN (Below.refl _ _) m))).mono (fun e w' ⟨h1, h2⟩ => ⟨h1, h2.symm⟩))
    go_wp2_with fail
    go_quiet (first
      | (go_at_call 31; refine Calls.quiet_of_same (HK1.out _))
      | (go_at_call 32; refine Calls.quiet_of_same (HK2.out _))
      | (go_at_call 33; refine Calls.quiet_of_same (HK3.out _))
      | (go_at_call 34; refine Calls.quiet_of_same (HK4.out _)))
    go_wp2_with fail
    go_ret
    exact ⟨rfl, HA.out.ch.drewN _⟩
end Bu
end Go.Proofs.YtfpofaniicegaaaGreat

/- The law's tape: a memory of the statement's own, over the document's machine. -/
set_option linter.unusedVariables false
set_option linter.unusedSimpArgs false
namespace Go.Proofs.YtfpofaniicegaaaGreat
open Go.RowKit
open S64
namespace Bu
def tapeV (g : Nat) : Value := .agg #[.pointer (some ⟨g, 0, none⟩)]
/-- a machine of the document's as a memory -/
def STape (B g : Nat) : MemS := fun Z R w M => DM Z w B g M ∧ (∀ k, k < B → R k) ∧ (∀ k, R k → k < w.heap.size)
theorem stape_i (B g : Nat) : MemI (STape B g) := ⟨fun h => h.1.lim, fun h => h.1.byte, fun h k hk => (h.1.lt k hk).2, fun h => h.2.2, fun h hc hY => ⟨h.1.chg hc (fun k hk => hY k (hk.imp id (h.2.1 k))), h.2.1, fun k hk => Nat.lt_of_lt_of_le (h.2.2 k hk) hc.size⟩⟩
set_option maxRecDepth 100000 in
theorem ftold_any (a b : Nat) (w : World) : Calls Tryz.prog 121 #[.agg #[.int .i64 (a : Nat), .int .u64 (b : Nat)]] w fun e w' => e = .returned (.agg #[.int .i64 (a : Nat), .int .u64 (b : Nat)]) ∧ Below w.heap.size w w' := by
  go_enter Tryz.func121, Tryz.ntmps121
  go_upto_region 1 with fail
  have hb : Below w.heap.size w ((w.alloc (.cells #[.int .i64 (a : Nat), .int .u64 (b : Nat)] 33)).alloc (.cells #[.int .i64 0, .int .u64 0] 57)) := ((Below.refl _ _).alloc (Nat.le_refl _) _).alloc (by simp) _
  have r1 := (Row.new w 33 [.int .i64 (a : Nat), .int .u64 (b : Nat)]).alloc (.cells #[.int .i64 0, .int .u64 0] 57)
  have r2 := Row.new (w.alloc (.cells #[.int .i64 (a : Nat), .int .u64 (b : Nat)] 33)) 57 [.int .i64 0, .int .u64 0]
  rw [show (w.alloc (.cells #[.int .i64 (a : Nat), .int .u64 (b : Nat)] 33)).heap.size = w.heap.size + 1 by simp] at r2
  generalize (w.alloc (.cells #[.int .i64 (a : Nat), .int .u64 (b : Nat)] 33)).alloc (.cells #[.int .i64 0, .int .u64 0] 57) = w1 at *
  have x0 := r1.cell 0
  have x1 := r1.cell 1
  have xl := r1.lt
  have y0 := r2.cell 0
  have y1 := r2.cell 1
  have f0 := r2.frozen 0
  have f1 := r2.frozen 1
  have yl := r2.lt
  simp only [List.getElem?_cons_zero, List.getElem?_cons_succ] at x0 x1 y0 y1
  have HB := Lib.hid hb
  have q := Lib.hid ((r2.set_ 0 (.int .i64 (a : Nat))).set_ 1 (.int .u64 (b : Nat)))
  have hs : ∀ i v, Below w.heap.size w1 (w1.setCell ⟨w.heap.size + 1, i, none⟩ v) := fun i v => (Below.refl _ _).setCell (p := ⟨w.heap.size + 1, i, none⟩) (by simp) v
  have HBF : Hid (Below w.heap.size w ((w1.setCell ⟨w.heap.size + 1, 0, none⟩ (.int .i64 (a : Nat))).setCell ⟨w.heap.size + 1, 1, none⟩ (.int .u64 (b : Nat)))) := Lib.hid ((hb.setCell (p := ⟨w.heap.size + 1, 0, none⟩) (by simp) _).setCell (p := ⟨w.heap.size + 1, 1, none⟩) (by simp) _)
  clear hb r1 r2 hs
  go_wp2_with fail
  have q3 := q.out.cell 0
  have q4 := q.out.cell 1
  simp only [List.set_cons_zero, List.set_cons_succ, List.getElem?_cons_zero, List.getElem?_cons_succ] at q3 q4
  generalize (w1.setCell ⟨w.heap.size + 1, 0, none⟩ (.int .i64 (a : Nat))).setCell ⟨w.heap.size + 1, 1, none⟩ (.int .u64 (b : Nat)) = W at *
  exact bodyPost_ret (v := .agg #[.int .i64 (a : Nat), .int .u64 (b : Nat)]) (by simp [results, Tryz.results121, go_sem, q3, q4]) rfl ⟨rfl, HBF.out⟩
set_option maxRecDepth 100000 in
set_option maxHeartbeats 1000000 in
theorem tpeek_any {Z : Nat → Prop} {w : World} {B g : Nat} {M : PM} (h : DM Z w B g M) (at_ n : Nat) (hk : n = 1 ∨ n = 2 ∨ n = 4 ∨ n = 8) (ha : at_ ≤ TOP) :
    Calls Tryz.prog 119 #[.agg #[.pointer (some ⟨g, 0, none⟩)], .int .u64 (at_ : Nat), .int .i64 (n : Nat)] w fun e w' => e = .returned (.tuple #[.int .u64 (peekV M at_ n (offF M at_ n) : Nat), faultV (offF M at_ n)]) ∧ DM Z w' B g (stray M (offF M at_ n)) ∧ ChgP Z w w' := by
  have HZ : Hid (∀ k, Z k → k < w.heap.size) := Lib.hid (fun k hk => (h.lt k hk).2)
  have HBL : Hid (B ≤ w.heap.size) := Lib.hid (by
    obtain ⟨_, _, _, _, _, _, _, _, _, _, hd⟩ := h
    exact Nat.le_trans hd.m.gB (Nat.le_of_lt hd.m.row.lt))
  have hF := offF_is (n := n) (show Lim M from h.lim) ha
  obtain ⟨F, hFF⟩ : ∃ F, F = offF M at_ n := ⟨_, rfl⟩
  rw [← hFF] at hF ⊢
  have HPK : Hid (∀ wx, DM Z wx B g M → Calls Tryz.prog 62 #[.pointer (some ⟨g, 0, none⟩), .int .u64 (at_ : Nat), .int .i64 (n : Nat)] wx fun e w' => e = .returned (.tuple #[.int .u64 (peekV M at_ n F : Nat), faultV F]) ∧ QuietD Z wx B g (stray M F) w') := Lib.hid (fun wx hd => rpeek_m hd hk ha trivial hF)
  obtain ⟨P, hP⟩ : ∃ P, P = peekV M at_ n F := ⟨_, rfl⟩
  rw [← hP] at HPK ⊢
  rw [faultV_eq] at HPK ⊢
  have HM := Lib.hid h
  clear h hF hFF hP hk ha
  go_enter Tryz.func119, Tryz.ntmps119
  go_upto_region 1 with fail
  have hb : Below w.heap.size w ((w.alloc (.cells #[.pointer (some ⟨g, 0, none⟩)] 39)).alloc (.cells #[.int .i64 0, .int .u64 0] 57)) := ((Below.refl _ _).alloc (Nat.le_refl _) _).alloc (by simp) _
  have r1 := (Row.new w 39 [.pointer (some ⟨g, 0, none⟩)]).alloc (.cells #[.int .i64 0, .int .u64 0] 57)
  have r2 := Row.new (w.alloc (.cells #[.pointer (some ⟨g, 0, none⟩)] 39)) 57 [.int .i64 0, .int .u64 0]
  rw [show (w.alloc (.cells #[.pointer (some ⟨g, 0, none⟩)] 39)).heap.size = w.heap.size + 1 by simp] at r2
  generalize (w.alloc (.cells #[.pointer (some ⟨g, 0, none⟩)] 39)).alloc (.cells #[.int .i64 0, .int .u64 0] 57) = w1 at *
  have HM1 := Lib.hid (HM.out.below hb)
  have HC1 : Hid (ChgP Z w w1) := Lib.hid (ChgP.of_below hb)
  have H2 := Lib.hid r2
  have x0 := r1.cell 0
  have xl := r1.lt
  simp only [List.getElem?_cons_zero] at x0
  clear hb r1 r2 HM
  go_upto_region 2 with (go_at_call 62; refine (HPK.out _ HM1.out).mono ?_; rintro e w2 ⟨rfl, hd2, hc2⟩; have HD2 := Lib.hid (And.intro hd2 hc2); clear hd2 hc2)
  have H22 := Lib.hid (HD2.out.2.row H2.out (fun hk => by have := HZ.out _ hk; omega))
  have hb3 : Below w2.heap.size w2 (w2.alloc (.cells #[.int .i64 (fno F : Nat), .int .u64 (F.getD 0 : Nat)] 33)) := (Below.refl _ _).alloc (Nat.le_refl _) _
  have r9 := Row.new w2 33 [.int .i64 (fno F : Nat), .int .u64 (F.getD 0 : Nat)]
  have HM3 := Lib.hid (HD2.out.1.below hb3)
  have HC3 : Hid (ChgP Z w (w2.alloc (.cells #[.int .i64 (fno F : Nat), .int .u64 (F.getD 0 : Nat)] 33))) := Lib.hid ((HC1.out.trans HD2.out.2 (fun k hk => .inl hk)).alloc _)
  have H23 := Lib.hid (H22.out.below hb3 H22.out.lt)
  generalize w2.alloc (.cells #[.int .i64 (fno F : Nat), .int .u64 (F.getD 0 : Nat)] 33) = w3 at *
  have y0 := r9.cell 0
  have y1 := r9.cell 1
  have yl := r9.lt
  simp only [List.getElem?_cons_zero, List.getElem?_cons_succ] at y0 y1
  clear x0 xl hb3 r9 HM1 HC1 H2 HD2 H22
  go_wp2_with fail
  refine (ftold_any (fno F) (F.getD 0) w3).mono ?_
  rintro e w4 ⟨rfl, hb4⟩
  have HM4 := Lib.hid (HM3.out.below hb4)
  have HC4 : Hid (ChgP Z w w4) := Lib.hid (HC3.out.trans (ChgP.of_below (Z := fun _ => False) hb4) (fun k hk => hk.elim))
  have h24 := H23.out.below hb4 H23.out.lt
  have z0 := h24.cell 0
  have z1 := h24.cell 1
  have g0 := h24.frozen 0
  have g1 := h24.frozen 1
  have zl := h24.lt
  simp only [List.getElem?_cons_zero, List.getElem?_cons_succ] at z0 z1
  have q := Lib.hid ((h24.set_ 0 (.int .i64 (fno F : Nat))).set_ 1 (.int .u64 (F.getD 0 : Nat)))
  clear hb4 h24 y0 y1 yl HM3 HC3 H23
  go_wp2_with fail
  have hc : ChgP (fun k => k = w.heap.size + 1) w4 ((w4.setCell ⟨w.heap.size + 1, 0, none⟩ (.int .i64 (fno F : Nat))).setCell ⟨w.heap.size + 1, 1, none⟩ (.int .u64 (F.getD 0 : Nat))) := (ChgP.set_ (Z := fun k => k = w.heap.size + 1) (ChgP.refl _ w4) (p := ⟨w.heap.size + 1, 0, none⟩) (.inl rfl) _).set_ (p := ⟨w.heap.size + 1, 1, none⟩) (.inl rfl) _
  have q3 := q.out.cell 0
  have q4 := q.out.cell 1
  simp only [List.set_cons_zero, List.set_cons_succ, List.getElem?_cons_zero, List.getElem?_cons_succ] at q3 q4
  generalize (w4.setCell ⟨w.heap.size + 1, 0, none⟩ (.int .i64 (fno F : Nat))).setCell ⟨w.heap.size + 1, 1, none⟩ (.int .u64 (F.getD 0 : Nat)) = W at *
  exact bodyPost_ret (v := .tuple #[.int .u64 (P : Nat), .agg #[.int .i64 (fno F : Nat), .int .u64 (F.getD 0 : Nat)]]) (by simp [results, Tryz.results119, go_sem, q3, q4]) rfl ⟨rfl, HM4.out.chg hc (fun k hk e => by
    have e : k = w.heap.size + 1 := e
    have hB := HBL.out
    rcases hk with hk | hk
    · have := HZ.out k hk; omega
    · omega), HC4.out.trans hc (fun k hk => .inr (by have e : k = w.heap.size + 1 := hk; omega))⟩
set_option maxRecDepth 100000 in
set_option maxHeartbeats 1000000 in
theorem tload_any {Z : Nat → Prop} {w : World} {B g : Nat} {M : PM} (h : DM Z w B g M) (at_ n : Nat) (hk : n = 1 ∨ n = 2 ∨ n = 4 ∨ n = 8) (ha : at_ ≤ TOP) :
    Calls Tryz.prog 118 #[.agg #[.pointer (some ⟨g, 0, none⟩)], .int .u64 (at_ : Nat), .int .i64 (n : Nat)] w fun e w' => e = .returned (.tuple #[.int .u64 (peekV M at_ n (offF M at_ n) : Nat), faultV (offF M at_ n)]) ∧ DM Z w' B g (loadM M (offF M at_ n)) ∧ ChgP Z w w' := by
  have HZ : Hid (∀ k, Z k → k < w.heap.size) := Lib.hid (fun k hk => (h.lt k hk).2)
  have HBL : Hid (B ≤ w.heap.size) := Lib.hid (by
    obtain ⟨_, _, _, _, _, _, _, _, _, _, hd⟩ := h
    exact Nat.le_trans hd.m.gB (Nat.le_of_lt hd.m.row.lt))
  have hF := offF_is (n := n) (show Lim M from h.lim) ha
  obtain ⟨F, hFF⟩ : ∃ F, F = offF M at_ n := ⟨_, rfl⟩
  rw [← hFF] at hF ⊢
  have HPK : Hid (∀ wx, DM Z wx B g M → Calls Tryz.prog 43 #[.pointer (some ⟨g, 0, none⟩), .int .u64 (at_ : Nat), .int .i64 (n : Nat)] wx fun e w' => e = .returned (.tuple #[.int .u64 (peekV M at_ n F : Nat), faultV F]) ∧ QuietD Z wx B g (loadM M F) w') := Lib.hid (fun wx hd => rload_m hd hk ha trivial trivial hF)
  obtain ⟨P, hP⟩ : ∃ P, P = peekV M at_ n F := ⟨_, rfl⟩
  rw [← hP] at HPK ⊢
  rw [faultV_eq] at HPK ⊢
  have HM := Lib.hid h
  clear h hF hFF hP hk ha
  go_enter Tryz.func118, Tryz.ntmps118
  go_upto_region 1 with fail
  have hb : Below w.heap.size w ((w.alloc (.cells #[.pointer (some ⟨g, 0, none⟩)] 39)).alloc (.cells #[.int .i64 0, .int .u64 0] 57)) := ((Below.refl _ _).alloc (Nat.le_refl _) _).alloc (by simp) _
  have r1 := (Row.new w 39 [.pointer (some ⟨g, 0, none⟩)]).alloc (.cells #[.int .i64 0, .int .u64 0] 57)
  have r2 := Row.new (w.alloc (.cells #[.pointer (some ⟨g, 0, none⟩)] 39)) 57 [.int .i64 0, .int .u64 0]
  rw [show (w.alloc (.cells #[.pointer (some ⟨g, 0, none⟩)] 39)).heap.size = w.heap.size + 1 by simp] at r2
  generalize (w.alloc (.cells #[.pointer (some ⟨g, 0, none⟩)] 39)).alloc (.cells #[.int .i64 0, .int .u64 0] 57) = w1 at *
  have HM1 := Lib.hid (HM.out.below hb)
  have HC1 : Hid (ChgP Z w w1) := Lib.hid (ChgP.of_below hb)
  have H2 := Lib.hid r2
  have x0 := r1.cell 0
  have xl := r1.lt
  simp only [List.getElem?_cons_zero] at x0
  clear hb r1 r2 HM
  go_upto_region 2 with (go_at_call 43; refine (HPK.out _ HM1.out).mono ?_; rintro e w2 ⟨rfl, hd2, hc2⟩; have HD2 := Lib.hid (And.intro hd2 hc2); clear hd2 hc2)
  have H22 := Lib.hid (HD2.out.2.row H2.out (fun hk => by have := HZ.out _ hk; omega))
  have hb3 : Below w2.heap.size w2 (w2.alloc (.cells #[.int .i64 (fno F : Nat), .int .u64 (F.getD 0 : Nat)] 33)) := (Below.refl _ _).alloc (Nat.le_refl _) _
  have r9 := Row.new w2 33 [.int .i64 (fno F : Nat), .int .u64 (F.getD 0 : Nat)]
  have HM3 := Lib.hid (HD2.out.1.below hb3)
  have HC3 : Hid (ChgP Z w (w2.alloc (.cells #[.int .i64 (fno F : Nat), .int .u64 (F.getD 0 : Nat)] 33))) := Lib.hid ((HC1.out.trans HD2.out.2 (fun k hk => .inl hk)).alloc _)
  have H23 := Lib.hid (H22.out.below hb3 H22.out.lt)
  generalize w2.alloc (.cells #[.int .i64 (fno F : Nat), .int .u64 (F.getD 0 : Nat)] 33) = w3 at *
  have y0 := r9.cell 0
  have y1 := r9.cell 1
  have yl := r9.lt
  simp only [List.getElem?_cons_zero, List.getElem?_cons_succ] at y0 y1
  clear x0 xl hb3 r9 HM1 HC1 H2 HD2 H22
  go_wp2_with fail
  refine (ftold_any (fno F) (F.getD 0) w3).mono ?_
  rintro e w4 ⟨rfl, hb4⟩
  have HM4 := Lib.hid (HM3.out.below hb4)
  have HC4 : Hid (ChgP Z w w4) := Lib.hid (HC3.out.trans (ChgP.of_below (Z := fun _ => False) hb4) (fun k hk => hk.elim))
  have h24 := H23.out.below hb4 H23.out.lt
  have z0 := h24.cell 0
  have z1 := h24.cell 1
  have g0 := h24.frozen 0
  have g1 := h24.frozen 1
  have zl := h24.lt
  simp only [List.getElem?_cons_zero, List.getElem?_cons_succ] at z0 z1
  have q := Lib.hid ((h24.set_ 0 (.int .i64 (fno F : Nat))).set_ 1 (.int .u64 (F.getD 0 : Nat)))
  clear hb4 h24 y0 y1 yl HM3 HC3 H23
  go_wp2_with fail
  have hc : ChgP (fun k => k = w.heap.size + 1) w4 ((w4.setCell ⟨w.heap.size + 1, 0, none⟩ (.int .i64 (fno F : Nat))).setCell ⟨w.heap.size + 1, 1, none⟩ (.int .u64 (F.getD 0 : Nat))) := (ChgP.set_ (Z := fun k => k = w.heap.size + 1) (ChgP.refl _ w4) (p := ⟨w.heap.size + 1, 0, none⟩) (.inl rfl) _).set_ (p := ⟨w.heap.size + 1, 1, none⟩) (.inl rfl) _
  have q3 := q.out.cell 0
  have q4 := q.out.cell 1
  simp only [List.set_cons_zero, List.set_cons_succ, List.getElem?_cons_zero, List.getElem?_cons_succ] at q3 q4
  generalize (w4.setCell ⟨w.heap.size + 1, 0, none⟩ (.int .i64 (fno F : Nat))).setCell ⟨w.heap.size + 1, 1, none⟩ (.int .u64 (F.getD 0 : Nat)) = W at *
  exact bodyPost_ret (v := .tuple #[.int .u64 (P : Nat), .agg #[.int .i64 (fno F : Nat), .int .u64 (F.getD 0 : Nat)]]) (by simp [results, Tryz.results118, go_sem, q3, q4]) rfl ⟨rfl, HM4.out.chg hc (fun k hk e => by
    have e : k = w.heap.size + 1 := e
    have hB := HBL.out
    rcases hk with hk | hk
    · have := HZ.out k hk; omega
    · omega), HC4.out.trans hc (fun k hk => .inr (by have e : k = w.heap.size + 1 := hk; omega))⟩
set_option maxRecDepth 100000 in
set_option maxHeartbeats 1000000 in
theorem tstore_any {Z : Nat → Prop} {w : World} {B g : Nat} {M : PM} (h : DM Z w B g M) (at_ n v : Nat) (hk : n = 1 ∨ n = 2 ∨ n = 4 ∨ n = 8) (ha : at_ ≤ TOP) (hv : v ≤ TOP) :
    Calls Tryz.prog 120 #[.agg #[.pointer (some ⟨g, 0, none⟩)], .int .u64 (at_ : Nat), .int .i64 (n : Nat), .int .u64 (v : Nat)] w fun e w' => e = .returned (faultV (offF M at_ n)) ∧ LaidD Z w B g (laidM M at_ n (byteOf v) 1 (offF M at_ n)) w' := by
  have HZ : Hid (∀ k, Z k → k < w.heap.size) := Lib.hid (fun k hk => (h.lt k hk).2)
  have HBL : Hid (B ≤ w.heap.size) := Lib.hid (by
    obtain ⟨_, _, _, _, _, _, _, _, _, _, hd⟩ := h
    exact Nat.le_trans hd.m.gB (Nat.le_of_lt hd.m.row.lt))
  have hF := offF_is (n := n) (show Lim M from h.lim) ha
  obtain ⟨F, hFF⟩ : ∃ F, F = offF M at_ n := ⟨_, rfl⟩
  rw [← hFF] at hF ⊢
  have HST : Hid (∀ wx, DM Z wx B g M → Calls Tryz.prog 8 #[.pointer (some ⟨g, 0, none⟩), .int .u64 (at_ : Nat), .int .i64 (n : Nat), .int .u64 (v : Nat)] wx fun e w' => e = .returned (faultV F) ∧ LaidD Z wx B g (laidM M at_ n (byteOf v) 1 F) w') := Lib.hid (fun wx hd => rstore_m hd hk hv trivial ha trivial hF)
  rw [faultV_eq] at HST ⊢
  have HM := Lib.hid h
  clear h hF hFF hk ha hv
  go_enter Tryz.func120, Tryz.ntmps120
  go_upto_region 1 with fail
  have hb : Below w.heap.size w ((w.alloc (.cells #[.pointer (some ⟨g, 0, none⟩)] 39)).alloc (.cells #[.int .i64 0, .int .u64 0] 57)) := ((Below.refl _ _).alloc (Nat.le_refl _) _).alloc (by simp) _
  have r1 := (Row.new w 39 [.pointer (some ⟨g, 0, none⟩)]).alloc (.cells #[.int .i64 0, .int .u64 0] 57)
  have r2 := Row.new (w.alloc (.cells #[.pointer (some ⟨g, 0, none⟩)] 39)) 57 [.int .i64 0, .int .u64 0]
  rw [show (w.alloc (.cells #[.pointer (some ⟨g, 0, none⟩)] 39)).heap.size = w.heap.size + 1 by simp] at r2
  generalize (w.alloc (.cells #[.pointer (some ⟨g, 0, none⟩)] 39)).alloc (.cells #[.int .i64 0, .int .u64 0] 57) = w1 at *
  have HM1 := Lib.hid (HM.out.below hb)
  have HC1 : Hid (ChgP Z w w1) := Lib.hid (ChgP.of_below hb)
  have H2 := Lib.hid r2
  have x0 := r1.cell 0
  have xl := r1.lt
  simp only [List.getElem?_cons_zero] at x0
  clear hb r1 r2 HM
  go_wp2_with fail
  refine (HST.out _ HM1.out).mono ?_
  rintro e w2 ⟨rfl, Z2, hd2, hc2, hz2⟩
  have HD2 := Lib.hid (And.intro hd2 (And.intro hc2 hz2))
  have H22 := Lib.hid (hc2.row H2.out (fun hk => by have := HZ.out _ hk; omega))
  have HL1 : Hid (w.heap.size + 1 < w1.heap.size) := Lib.hid H2.out.lt
  clear hd2 hc2 hz2 x0 xl
  go_wp2_with fail
  refine (ftold_any (fno F) (F.getD 0) w2).mono ?_
  rintro e w4 ⟨rfl, hb4⟩
  have HM4 := Lib.hid (HD2.out.1.below hb4)
  have HC4 : Hid (ChgP Z w w4) := Lib.hid ((HC1.out.trans HD2.out.2.1 (fun k hk => .inl hk)).trans (ChgP.of_below (Z := fun _ => False) hb4) (fun k hk => hk.elim))
  have h24 := H22.out.below hb4 H22.out.lt
  have z0 := h24.cell 0
  have z1 := h24.cell 1
  have g0 := h24.frozen 0
  have g1 := h24.frozen 1
  have zl := h24.lt
  simp only [List.getElem?_cons_zero, List.getElem?_cons_succ] at z0 z1
  have q := Lib.hid ((h24.set_ 0 (.int .i64 (fno F : Nat))).set_ 1 (.int .u64 (F.getD 0 : Nat)))
  clear hb4 h24 H22
  go_wp2_with fail
  have hc : ChgP (fun k => k = w.heap.size + 1) w4 ((w4.setCell ⟨w.heap.size + 1, 0, none⟩ (.int .i64 (fno F : Nat))).setCell ⟨w.heap.size + 1, 1, none⟩ (.int .u64 (F.getD 0 : Nat))) := (ChgP.set_ (Z := fun k => k = w.heap.size + 1) (ChgP.refl _ w4) (p := ⟨w.heap.size + 1, 0, none⟩) (.inl rfl) _).set_ (p := ⟨w.heap.size + 1, 1, none⟩) (.inl rfl) _
  have q3 := q.out.cell 0
  have q4 := q.out.cell 1
  simp only [List.set_cons_zero, List.set_cons_succ, List.getElem?_cons_zero, List.getElem?_cons_succ] at q3 q4
  generalize (w4.setCell ⟨w.heap.size + 1, 0, none⟩ (.int .i64 (fno F : Nat))).setCell ⟨w.heap.size + 1, 1, none⟩ (.int .u64 (F.getD 0 : Nat)) = W at *
  have hz := HD2.out.2.2
  have hl1 := HL1.out
  refine bodyPost_ret (v := .agg #[.int .i64 (fno F : Nat), .int .u64 (F.getD 0 : Nat)]) (by simp [results, Tryz.results120, go_sem, q3, q4]) rfl ⟨rfl, Z2, HM4.out.chg hc (fun k hk e => ?_), HC4.out.trans hc (fun k hk => .inr (by have e : k = w.heap.size + 1 := hk; omega)), fun k hk => (hz k hk).imp id (fun h => by have := HC1.out.size; omega)⟩
  have e : k = w.heap.size + 1 := e
  have hB := HBL.out
  rcases hk with hk | hk
  · rcases hz k hk with h1 | h1
    · have := HZ.out k h1; omega
    · omega
  · omega
end Bu
end Go.Proofs.YtfpofaniicegaaaGreat
