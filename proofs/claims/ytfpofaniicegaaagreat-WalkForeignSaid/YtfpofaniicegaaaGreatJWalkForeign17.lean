/- Texts of this claim, one behind the other: BuI. -/
import Derived.Test.YtfpofaniicegaaaGreatJWalkForeign16
/- The document's machine: the list of all ranges; apart; why there is no machine. -/
set_option linter.unusedVariables false
set_option linter.unusedSimpArgs false
namespace Go.Proofs.YtfpofaniicegaaaGreat
open Go.RowKit
open S64
namespace Bu
set_option maxRecDepth 100000 in
set_option maxHeartbeats 1000000 in
theorem refall_any (A1 A2 : Option Addr) (n1 n2 c1 c2 : Nat) (s1 s2 : Sp.S) (w : World) (h1 : IsS w w.heap.size A1 n1 s1) (h2 : IsS w w.heap.size A2 n2 s2) (b1 : n1 ≤ 1000000) (b2 : n2 ≤ 1000000) :
    Calls Tryz.prog 16 #[.agg #[.slice A1 n1 c1, .slice A2 n2 c2]] w fun e w' => ∃ A c, e = .returned (.slice A (n1 + n2) c) ∧ IsS w' w'.heap.size A (n1 + n2) (s1 ++ s2) ∧ Below w.heap.size w w' := by
  obtain ⟨i0, hi0, hz1, hz2, hz3⟩ := info_parts BR.infoE
  have H1 := Lib.hid h1; have H2 := Lib.hid h2
  have HI := Lib.hid hi0; have HZ1 := Lib.hid hz1; have HZ2 := Lib.hid hz2; have HZ3 := Lib.hid hz3
  clear hi0 hz1 hz2 hz3 h1 h2
  go_enter Tryz.func16, Tryz.ntmps16
  go_upto_region 1 with fail
  have r0 : Row (w.alloc (.cells #[.slice A1 n1 c1, .slice A2 n2 c2] 24)) w.heap.size 24 [.slice A1 n1 c1, .slice A2 n2 c2] := Row.new w _ [.slice A1 n1 c1, .slice A2 n2 c2]
  have hb0 : Below w.heap.size w (w.alloc (.cells #[.slice A1 n1 c1, .slice A2 n2 c2] 24)) := (Below.refl _ _).alloc (Nat.le_refl _) _
  generalize w.alloc (.cells #[.slice A1 n1 c1, .slice A2 n2 c2] 24) = w1 at *
  have HR0 := Lib.hid r0
  have HB0 := Lib.hid hb0
  have p0 := r0.cell 0
  have lp := r0.lt
  simp only [List.getElem?_cons_zero] at p0
  clear r0 hb0
  go_upto_region 2 with (at_builtin; refine wpList_append_nil _ rfl (.const (.slice none 0 0)) (.tmp 5) _ rfl 62 i0 _ 2 16 Tryz.underlying22 HI.out HZ1.out HZ2.out HZ3.out rfl (by omega) rfl w.heap.size A1 n1 c1 (s1.map scell).flatten rfl (H1.out.below HB0.out).1 (scell_one s1) (by simp only [maxLen]; omega) (by omega) ?_; intro A2' c2' w2 HN)
  have HR2 := Lib.hid (HR0.out.below HN.out.below HR0.out.lt)
  have HB2 := Lib.hid (HB0.out.trans (HN.out.below.mono HB0.out.size))
  have p1 := HR2.out.cell 1
  have lq := HR2.out.lt
  simp only [List.getElem?_cons_zero, List.getElem?_cons_succ] at p1
  clear p0 lp
  go_wp2_with (at_builtin; refine wpList_append_more _ rfl (.tmp 7) (.tmp 9) _ rfl w1.heap.size 62 i0 _ 2 16 Tryz.underlying22 HI.out HZ1.out HZ2.out HZ3.out rfl (by omega) _ _ _ _ rfl HN.out.1 w.heap.size A2 n2 c2 (s2.map scell).flatten rfl (H2.out.below HB2.out).1 (scell_one s2) (by simp only [maxLen]; omega) (by omega) HN.out.below.size ?_; intro A3 c3 w3 HM)
  go_ret
  obtain ⟨hm1, hm2, hm3⟩ := HM.out
  have e : (List.map scell s1).flatten ++ (List.map scell s2).flatten = (List.map scell (s1 ++ s2)).flatten := by rw [List.map_append, List.flatten_append]
  rw [e] at hm2
  exact ⟨A3, c3, rfl, ⟨hm2, by rw [List.length_append, H1.out.2.1, H2.out.2.1], by omega⟩, HB2.out.trans (hm3.mono HB0.out.size)⟩
set_option maxRecDepth 100000 in
set_option maxHeartbeats 1000000 in
theorem apart_any (a s b t : Nat) (w : World) (h1 : a + s ≤ TOP) (h2 : b + t ≤ TOP) :
    Calls Tryz.prog 17 #[.agg #[.int .u64 (a : Nat), .int .u64 (s : Nat)], .agg #[.int .u64 (b : Nat), .int .u64 (t : Nat)]] w fun e w' => e = .returned (.bool (!ovl (a, s) (b, t))) ∧ Below w.heap.size w w' := by
  unfold TOP at h1 h2
  have HO : Hid (ovl (a, s) (b, t) = decide (a < b + t ∧ b < a + s)) := Lib.hid rfl
  go_enter Tryz.func17, Tryz.ntmps17
  go_upto_region 1 with fail
  have r0 : Row ((w.alloc (.cells #[.int .u64 (a : Nat), .int .u64 (s : Nat)] 62)).alloc (.cells #[.int .u64 (b : Nat), .int .u64 (t : Nat)] 62)) w.heap.size 62 [.int .u64 (a : Nat), .int .u64 (s : Nat)] := (Row.new w _ [.int .u64 (a : Nat), .int .u64 (s : Nat)]).alloc _
  have r1 : Row ((w.alloc (.cells #[.int .u64 (a : Nat), .int .u64 (s : Nat)] 62)).alloc (.cells #[.int .u64 (b : Nat), .int .u64 (t : Nat)] 62)) (w.heap.size + 1) 62 [.int .u64 (b : Nat), .int .u64 (t : Nat)] := by
    have h := Row.new (w.alloc (.cells #[.int .u64 (a : Nat), .int .u64 (s : Nat)] 62)) 62 [.int .u64 (b : Nat), .int .u64 (t : Nat)]
    rw [sz_alloc] at h
    exact h
  have hb0 : Below w.heap.size w ((w.alloc (.cells #[.int .u64 (a : Nat), .int .u64 (s : Nat)] 62)).alloc (.cells #[.int .u64 (b : Nat), .int .u64 (t : Nat)] 62)) := ((Below.refl _ _).alloc (Nat.le_refl _) _).alloc (by simp) _
  generalize (w.alloc (.cells #[.int .u64 (a : Nat), .int .u64 (s : Nat)] 62)).alloc (.cells #[.int .u64 (b : Nat), .int .u64 (t : Nat)] 62) = w1 at *
  have p0 := r0.cell 0
  have p1 := r0.cell 1
  have q0 := r1.cell 0
  have q1 := r1.cell 1
  have lp := r0.lt
  have lq := r1.lt
  simp only [List.getElem?_cons_zero, List.getElem?_cons_succ] at p0 p1 q0 q1
  have HB0 := Lib.hid hb0
  clear r0 r1 hb0
  by_cases g1 : a + s ≤ b
  · have f1 : (a : Int) + (s : Int) ≤ (b : Int) := by omega
    go_wp2_with fail
    go_ret
    exact ⟨by rw [HO.out, decide_eq_false (by omega)]; rfl, HB0.out⟩
  · have f1 : ¬ (a : Int) + (s : Int) ≤ (b : Int) := by omega
    by_cases g2 : b + t ≤ a
    · have f2 : (b : Int) + (t : Int) ≤ (a : Int) := by omega
      go_wp2_with fail
      go_ret
      exact ⟨by rw [HO.out, decide_eq_false (by omega)]; rfl, HB0.out⟩
    · have f2 : ¬ (b : Int) + (t : Int) ≤ (a : Int) := by omega
      go_wp2_with fail
      go_ret
      exact ⟨by rw [HO.out, decide_eq_true (by omega)]; rfl, HB0.out⟩
/-- how long a range may be -/
def mst (n1 j : Nat) : Nat := if j < n1 then TOP else 1048576
/-- all ranges ahead of the k-th are good -/
def Good (rams devs : Sp.S) (k : Nat) : Prop := ∀ j r, j < k → (rams ++ devs)[j]? = some r → chk (mst rams.length j) ((rams ++ devs).take j) r = 0
theorem take_l {rams devs : Sp.S} {k : Nat} (h : k ≤ rams.length) : (rams ++ devs).take k = rams.take k := List.take_append_of_le_length h
theorem take_r {rams devs : Sp.S} {k : Nat} : (rams ++ devs).take (rams.length + k) = rams ++ devs.take k := by
  rw [List.take_append, List.take_of_length_le (by omega), show rams.length + k - rams.length = k by omega]
theorem get_r {rams devs : Sp.S} {k : Nat} : (rams ++ devs)[rams.length + k]? = devs[k]? := by rw [List.getElem?_append_right (by omega)]; congr 1; omega
theorem good_rams {rams devs : Sp.S} {k : Nat} (h : Good rams devs k) (hk : rams.length ≤ k) : chks TOP [] rams = 0 := chks_all fun j r hj => by
  have hl : j < rams.length := (List.getElem?_eq_some_iff.1 hj).1
  have h1 := h j r (by omega) (by rw [List.getElem?_append_left hl]; exact hj)
  rw [take_l (by omega), mst, if_pos hl] at h1
  exact h1
theorem newE_at {rams devs : Sp.S} {k : Nat} {r : Nat × Nat} (h8 : rams.length ≤ 8) (h32 : devs.length ≤ 32) (hb : Good rams devs k) (hr : (rams ++ devs)[k]? = some r) (hn : chk (mst rams.length k) ((rams ++ devs).take k) r ≠ 0) :
    newE rams devs = chk (mst rams.length k) ((rams ++ devs).take k) r := by
  by_cases hk : k < rams.length
  · rw [take_l (by omega), mst, if_pos hk] at hn ⊢
    rw [List.getElem?_append_left hk] at hr
    have hc := chks_at (most := TOP) (pre := []) (l := rams) (k := k) (r := r) (fun j x hj hx => by
      have h1 := hb j x hj (by rw [List.getElem?_append_left (by omega)]; exact hx)
      rw [take_l (by omega), mst, if_pos (by omega)] at h1
      exact h1) hr hn
    rw [List.nil_append] at hc
    unfold newE
    rw [if_neg (by omega), if_pos (by rw [hc]; exact hn), hc]
  · obtain ⟨d, rfl⟩ : ∃ d, k = rams.length + d := ⟨k - rams.length, by omega⟩
    rw [take_r, mst, if_neg (by omega)] at hn ⊢
    rw [get_r] at hr
    have hc := chks_at (most := 1048576) (pre := rams) (l := devs) (k := d) (r := r) (fun j x hj hx => by
      have h1 := hb (rams.length + j) x (by omega) (by rw [get_r]; exact hx)
      rw [take_r, mst, if_neg (by omega)] at h1
      exact h1) hr hn
    unfold newE
    rw [if_neg (by omega), good_rams hb (by omega), if_neg (by omega), if_pos (by rw [hc]; exact hn), hc]
theorem newE_end {rams devs : Sp.S} (h8 : rams.length ≤ 8) (h32 : devs.length ≤ 32) (hb : Good rams devs (rams.length + devs.length)) : newE rams devs = if 67108864 < total rams then 36 else 0 := by
  have hc : chks 1048576 rams devs = 0 := chks_all fun j r hj => by
    have hl : j < devs.length := (List.getElem?_eq_some_iff.1 hj).1
    have h1 := hb (rams.length + j) r (by omega) (by rw [get_r]; exact hj)
    rw [take_r, mst, if_neg (by omega)] at h1
    exact h1
  unfold newE
  rw [if_neg (by omega), good_rams hb (by omega), if_neg (by omega), hc, if_neg (by omega)]
theorem Good.next {rams devs : Sp.S} {k : Nat} {r : Nat × Nat} (h : Good rams devs k) (hr : (rams ++ devs)[k]? = some r) (hc : chk (mst rams.length k) ((rams ++ devs).take k) r = 0) : Good rams devs (k + 1) := by
  intro j x hj hx
  rcases Nat.lt_or_ge j k with h1 | h1
  · exact h j x h1 hx
  · obtain rfl : j = k := by omega
    rw [hr] at hx; injection hx with hx; rw [← hx]; exact hc
theorem IsS.at_ {w : World} {B n b o : Nat} {s : Sp.S} (h : IsS w B (some ⟨b, o, none⟩) n s) : ∀ i x, s[i]? = some x → w.cell? ⟨b, o + i * 2, none⟩ = some (.int .u64 (x.1 : Nat)) ∧ w.cell? ⟨b, o + i * 2 + 1, none⟩ = some (.int .u64 (x.2 : Nat)) := by
  intro i x hx
  have hl := (List.getElem?_eq_some_iff.1 hx).1
  obtain ⟨b', o', hf⟩ := h.form
  obtain ⟨e, _, hc⟩ := hf.out (by have := h.2.1; omega)
  injection e with e
  injection e with e1 e2
  subst e1 e2
  exact hc i x hx
theorem Good.good {rams devs : Sp.S} {k : Nat} (h : Good rams devs k) : good (rams.take k) := by
  intro r hr
  obtain ⟨j, hj, he⟩ := List.mem_iff_getElem.1 hr
  rw [List.length_take] at hj
  have h1 : rams[j]? = some r := by
    rw [← he, List.getElem_take]; exact List.getElem?_eq_getElem (by omega)
  have h2 := chk_zero (h j r (by omega) (by rw [List.getElem?_append_left (by omega)]; exact h1))
  exact ⟨h2.1, h2.2.1⟩
theorem Good.total_le {rams devs : Sp.S} {k : Nat} (h : Good rams devs k) (h8 : rams.length ≤ 8) : total (rams.take k) ≤ 34359738368 := by
  have h1 := Bu.total_le h.good
  have h2 : (rams.take k).length ≤ 8 := by rw [List.length_take]; omega
  have : 4294967296 * (rams.take k).length ≤ 4294967296 * 8 := Nat.mul_le_mul_left _ h2
  omega
set_option maxRecDepth 100000 in
set_option maxHeartbeats 4000000 in
theorem refuses_any (A1 A2 : Option Addr) (n1 n2 c1 c2 : Nat) (rams devs : Sp.S) (w : World) (h1 : IsS w w.heap.size A1 n1 rams) (h2 : IsS w w.heap.size A2 n2 devs) (t1 : ∀ x ∈ rams ++ devs, x.1 ≤ TOP ∧ x.2 ≤ TOP) :
    Calls Tryz.prog 6 #[.agg #[.slice A1 n1 c1, .slice A2 n2 c2]] w fun e w' => e = .returned (.int .i64 (newE rams devs : Nat)) ∧ Below w.heap.size w w' := by
  have H1 := Lib.hid h1; have H2 := Lib.hid h2; have HT := Lib.hid t1
  have l1 := h1.2.2
  have l2 := h2.2.2
  clear h1 h2 t1
  go_enter Tryz.func6, Tryz.ntmps6
  go_upto_region 1 with fail
  have r0 : Row (w.alloc (.cells #[.slice A1 n1 c1, .slice A2 n2 c2] 24)) w.heap.size 24 [.slice A1 n1 c1, .slice A2 n2 c2] := Row.new w _ [.slice A1 n1 c1, .slice A2 n2 c2]
  have hb0 : Below w.heap.size w (w.alloc (.cells #[.slice A1 n1 c1, .slice A2 n2 c2] 24)) := (Below.refl _ _).alloc (Nat.le_refl _) _
  obtain ⟨cb, hcb⟩ : ∃ cb, cb = w.heap.size := ⟨_, rfl⟩
  generalize w.alloc (.cells #[.slice A1 n1 c1, .slice A2 n2 c2] 24) = w1 at *
  rw [← hcb] at r0 ⊢
  have HCB := Lib.hid hcb
  clear hcb
  have HR0 := Lib.hid r0
  have HB0 := Lib.hid hb0
  have p0 := r0.cell 0
  have p1 := r0.cell 1
  have lp := r0.lt
  simp only [List.getElem?_cons_zero, List.getElem?_cons_succ] at p0 p1
  clear r0 hb0
  by_cases g1 : 8 < n1
  · have HE : Hid (newE rams devs = 4) := Lib.hid (by rw [newE, if_pos (.inl (by rw [H1.out.2.1]; exact g1))])
    have f1 : (8 : Int) < (n1 : Int) := by omega
    go_wp2_with fail
    go_ret
    exact ⟨by rw [HE.out]; rfl, HB0.out⟩
  by_cases g2 : 32 < n2
  · have HE : Hid (newE rams devs = 4) := Lib.hid (by rw [newE, if_pos (.inr (by rw [H2.out.2.1]; exact g2))])
    have f1 : ¬ (8 : Int) < (n1 : Int) := by omega
    have f2 : (32 : Int) < (n2 : Int) := by omega
    go_wp2_with fail
    go_ret
    exact ⟨by rw [HE.out]; rfl, HB0.out⟩
  have f1 : ¬ (8 : Int) < (n1 : Int) := by omega
  have f2 : ¬ (32 : Int) < (n2 : Int) := by omega
  go_wp2_with fail
  refine (refall_any A1 A2 n1 n2 c1 c2 rams devs w1 ((H1.out.below HB0.out).more HB0.out.size) ((H2.out.below HB0.out).more HB0.out.size) (by omega) (by omega)).mono ?_
  rintro e w2 ⟨AL, cl, rfl, h3, h4⟩
  obtain ⟨N, hN⟩ : ∃ N, N = n1 + n2 := ⟨_, rfl⟩
  rw [← hN] at h3 ⊢
  have hn1 : n1 ≤ 8 := by omega
  have hN40 : N ≤ 40 := by omega
  have HN := Lib.hid hN
  have HL := Lib.hid h3
  have HB2 : Hid (Below w.heap.size w w2) := Lib.hid (HB0.out.trans (h4.mono HB0.out.size))
  have HR2 := Lib.hid (HR0.out.below h4 HR0.out.lt)
  have HN1 : Hid (rams.length = n1) := Lib.hid H1.out.2.1
  have HN2 : Hid (devs.length = n2) := Lib.hid H2.out.2.1
  have HN32 : Hid (n2 ≤ 32) := Lib.hid (by omega)
  clear h3 h4 HR0 p0 p1 lp l1 l2 f1 f2 g1 g2 H1 H2 HB0 HCB hN
  go_wp2_with fail
  go_loopw [4, 5] (fun ram i wr => ∃ k : Nat, k ≤ N ∧ i = .int .i64 (k : Nat) ∧ ram = .int .u64 (total (rams.take k) : Nat) ∧ Hid (Good rams devs k) ∧ Hid (Below w2.heap.size w2 wr)) (fun _ i _ => N - (intOf i).toNat)
  case atStart => exact ⟨0, by omega, rfl, rfl, Lib.hid (fun j r h => absurd h (by omega)), Lib.hid (Below.refl _ _)⟩
  case round =>
  obtain ⟨k, hk, rfl, rfl, HG, HB⟩ := hrel
  obtain ⟨tt, htt⟩ : ∃ tt, tt = total (rams.take k) := ⟨_, rfl⟩
  have htb : tt ≤ 34359738368 := by rw [htt]; exact HG.out.total_le (by rw [HN1.out]; exact hn1)
  rw [← htt]
  have HTT := Lib.hid htt
  clear htt
  by_cases hkn : k < N
  · obtain ⟨bl, ol, hf⟩ := HL.out.form
    obtain ⟨rfl, hbB, _⟩ := hf.out (by omega)
    clear hf
    obtain ⟨⟨a, s⟩, hx⟩ : ∃ x, (rams ++ devs)[k]? = some x := ⟨_, List.getElem?_eq_getElem (by rw [List.length_append, HN1.out, HN2.out, ← HN.out]; exact hkn)⟩
    obtain ⟨x0, x1⟩ := IsS.at_ (IsS.below HL.out HB.out) k _ hx
    have hT := HT.out _ (List.mem_of_getElem? hx)
    have ha64 : a ≤ 18446744073709551615 := hT.1
    have hs64 : s ≤ 18446744073709551615 := hT.2
    have HX := Lib.hid hx
    have p0 := (HR2.out.below HB.out HR2.out.lt).cell 0
    have lp := (HR2.out.below HB.out HR2.out.lt).lt
    have lbl : bl < wr.heap.size := Nat.lt_of_lt_of_le hbB HB.out.size
    simp only [List.getElem?_cons_zero, List.getElem?_cons_succ] at p0 x0 x1
    clear hx hT
    have HFIN : Hid (∀ E, E ≠ 0 → chk (mst n1 k) ((rams ++ devs).take k) (a, s) = E → newE rams devs = E) := Lib.hid (fun E h0 h1 => by
      have h2 := newE_at (k := k) (r := (a, s)) (by rw [HN1.out]; exact hn1) (by rw [HN2.out]; exact HN32.out) HG.out HX.out (by rw [HN1.out, h1]; exact h0)
      rw [h2, HN1.out, h1])
    have HBW : Hid (Below w.heap.size w wr) := Lib.hid (HB2.out.trans (HB.out.mono HB2.out.size))
    obtain ⟨WB, hWB⟩ : ∃ b, b = decide (n1 ≤ k) := ⟨_, rfl⟩
    have HWB := Lib.hid hWB
    clear hWB
    go_upto_region 8 with fail
    go_cut [6] (fun x wx => x = .bool WB ∧ wr = wx)
    case first =>
      by_cases q : n1 ≤ k
      · have f : (n1 : Int) ≤ (k : Int) := by omega
        go_wp2_with fail
        go_meet
        case rel => exact ⟨by rw [HWB.out, decide_eq_true q], rfl⟩
      · have f : ¬ (n1 : Int) ≤ (k : Int) := by omega
        go_wp2_with fail
        go_meet
        case rel => exact ⟨by rw [HWB.out, decide_eq_false q], rfl⟩
    case rest =>
    obtain ⟨rfl, rfl⟩ := hcut
    go_upto_region 9 with fail
    go_cut [31] (fun x wx => x = .bool (decide (s = 0 ∨ s % 4096 ≠ 0 ∨ mst n1 k < s)) ∧ wr = wx)
    case first =>
      by_cases q0 : s = 0
      · have f : ((s : Int) == 0) = true := by simp [q0]
        go_wp2_with fail
        go_meet
        case rel => exact ⟨by rw [decide_eq_true (.inl q0)], rfl⟩
      have f : ((s : Int) == 0) = false := by simp; omega
      by_cases q1 : s % 4096 = 0
      · have f1 : ((s : Int) % 4096 != 0) = false := by rw [bne_eq_false_iff_eq]; omega
        cases WB with
        | true =>
          have hw : n1 ≤ k := of_decide_eq_true HWB.out.symm
          by_cases q2 : 1048576 < s
          · have f2 : (1048576 : Int) < (s : Int) := by omega
            go_wp2_with fail
            go_meet
            case rel => exact ⟨by rw [decide_eq_true (.inr (.inr (by unfold mst; rw [if_neg (by omega)]; exact q2)))], rfl⟩
          · have f2 : ¬ (1048576 : Int) < (s : Int) := by omega
            go_wp2_with fail
            go_meet
            case rel => exact ⟨by rw [decide_eq_false (by unfold mst; rw [if_neg (by omega)]; omega)], rfl⟩
        | false =>
          have hw : ¬ n1 ≤ k := of_decide_eq_false HWB.out.symm
          go_wp2_with fail
          go_meet
          case rel => exact ⟨by rw [decide_eq_false (by unfold mst TOP; rw [if_pos (by omega)]; omega)], rfl⟩
      · have f1 : ((s : Int) % 4096 != 0) = true := by rw [bne_iff_ne]; omega
        go_wp2_with fail
        go_meet
        case rel => exact ⟨by rw [decide_eq_true (.inr (.inl q1))], rfl⟩
    case rest =>
    obtain ⟨rfl, rfl⟩ := hcut
    by_cases c1 : s = 0 ∨ s % 4096 ≠ 0 ∨ mst n1 k < s
    · rw [decide_eq_true c1]
      have HE : Hid (newE rams devs = 32) := Lib.hid (HFIN.out 32 (by decide) (by rw [chk, if_pos c1]))
      clear c1
      go_wp2_with fail
      go_ret
      exact ⟨by rw [HE.out]; rfl, HBW.out⟩
    rw [decide_eq_false c1]
    have HC1 := Lib.hid c1
    have hs0 : 0 < s := by omega
    clear c1
    go_upto_region 11 with fail
    go_cut [58] (fun x wx => x = .bool (decide (a % 4096 ≠ 0)) ∧ wr = wx)
    case first =>
      by_cases q1 : a % 4096 = 0
      · have f1 : ((a : Int) % 4096 != 0) = false := by rw [bne_eq_false_iff_eq]; omega
        go_wp2_with fail
        go_meet
        case rel => exact ⟨by rw [decide_eq_false (by omega)], rfl⟩
      · have f1 : ((a : Int) % 4096 != 0) = true := by rw [bne_iff_ne]; omega
        go_wp2_with fail
        go_meet
        case rel => exact ⟨by rw [decide_eq_true q1], rfl⟩
    case rest =>
    obtain ⟨rfl, rfl⟩ := hcut
    by_cases c2 : a % 4096 ≠ 0
    · rw [decide_eq_true c2]
      have HE : Hid (newE rams devs = 33) := Lib.hid (HFIN.out 33 (by decide) (by rw [chk, if_neg HC1.out, if_pos c2]))
      clear c2
      go_wp2_with fail
      go_ret
      exact ⟨by rw [HE.out]; rfl, HBW.out⟩
    rw [decide_eq_false c2]
    have HC2 := Lib.hid c2
    clear c2
    go_upto_region 13 with fail
    go_cut [66] (fun x wx => x = .bool (decide (M32 < a + s)) ∧ Hid (Below wr.heap.size wr wx))
    case first =>
      by_cases q1 : 4294967296 ≤ a
      · have f1 : (4294967296 : Int) ≤ (a : Int) := by omega
        go_quiet (fail)
        go_wp2_with fail
        go_meet
        case rel => exact ⟨by rw [decide_eq_true (by unfold M32; omega)], Lib.hid (below_drewN (Below.refl _ _) _)⟩
      · have f1 : ¬ (4294967296 : Int) ≤ (a : Int) := by omega
        have f3 : (0 : Int) ≤ 4294967296 - (a : Int) := by omega
        by_cases q2 : M32 < a + s
        · have f2 : 4294967296 - (a : Int) < (s : Int) := by unfold M32 at q2; omega
          go_quiet (fail)
          go_wp2_with fail
          go_meet
          case rel => exact ⟨by rw [decide_eq_true q2], Lib.hid (below_drewN (Below.refl _ _) _)⟩
        · have f2 : ¬ 4294967296 - (a : Int) < (s : Int) := by unfold M32 at q2; omega
          go_quiet (fail)
          go_wp2_with fail
          go_meet
          case rel => exact ⟨by rw [decide_eq_false q2], Lib.hid (below_drewN (Below.refl _ _) _)⟩
    case rest =>
    obtain ⟨rfl, HBD⟩ := hcut
    have HB3 : Hid (Below w2.heap.size w2 wc) := Lib.hid (bel_chain HB.out HBD.out)
    clear HBD p0 lp lbl x0 x1
    by_cases c3 : M32 < a + s
    · rw [decide_eq_true c3]
      have HE : Hid (newE rams devs = 34) := Lib.hid (HFIN.out 34 (by decide) (by rw [chk, if_neg HC1.out, if_neg HC2.out, if_pos c3]))
      have HBZ : Hid (Below w.heap.size w wc) := Lib.hid (HB2.out.trans (HB3.out.mono HB2.out.size))
      clear c3
      go_wp2_with fail
      go_ret
      exact ⟨by rw [HE.out]; rfl, HBZ.out⟩
    rw [decide_eq_false c3]
    have HC3 := Lib.hid c3
    have hends : a + s ≤ 4294967296 := by unfold M32 at c3; omega
    clear c3 HB HBW
    go_wp2_with fail
    go_loopw [7] (fun j wx => ∃ d : Nat, d ≤ k ∧ j = .int .i64 (d : Nat) ∧ Hid (((rams ++ devs).take d).any (ovl (a, s)) = false) ∧ Hid (Below w2.heap.size w2 wx)) (fun j _ => k - (intOf j).toNat)
    case atStart => exact ⟨0, by omega, rfl, Lib.hid rfl, HB3⟩
    case round =>
    clear HB3
    obtain ⟨d, hd, rfl, HV, HB⟩ := hrel
    have HBW : Hid (Below w.heap.size w wr) := Lib.hid (HB2.out.trans (HB.out.mono HB2.out.size))
    have lbl : bl < wr.heap.size := Nat.lt_of_lt_of_le hbB HB.out.size
    obtain ⟨x0, x1⟩ := IsS.at_ (IsS.below HL.out HB.out) k _ HX.out
    by_cases hdk : d < k
    · have hdN : d < N := by omega
      obtain ⟨⟨b, t⟩, hy⟩ : ∃ x, (rams ++ devs)[d]? = some x := ⟨_, List.getElem?_eq_getElem (by rw [List.length_append, HN1.out, HN2.out, ← HN.out]; omega)⟩
      obtain ⟨y0, y1⟩ := IsS.at_ (IsS.below HL.out HB.out) d _ hy
      have HBT : Hid (b + t ≤ 4294967296) := Lib.hid (chk_zero (HG.out d _ hdk hy)).2.1
      have HY := Lib.hid hy
      simp only at x0 x1 y0 y1
      clear hy
      have KAL : Hid (∀ wz, Below wr.heap.size wr wz → (wz.cell? ⟨bl, ol + k * 2, none⟩ = some (.int .u64 (a : Nat)) ∧ wz.cell? ⟨bl, ol + k * 2 + 1, none⟩ = some (.int .u64 (s : Nat)) ∧ wz.cell? ⟨bl, ol + d * 2, none⟩ = some (.int .u64 (b : Nat)) ∧ wz.cell? ⟨bl, ol + d * 2 + 1, none⟩ = some (.int .u64 (t : Nat)))) := Lib.hid (fun wz hb => ⟨(hb.cell (p := ⟨bl, ol + k * 2, none⟩) lbl).trans x0, (hb.cell (p := ⟨bl, ol + k * 2 + 1, none⟩) lbl).trans x1, (hb.cell (p := ⟨bl, ol + d * 2, none⟩) lbl).trans y0, (hb.cell (p := ⟨bl, ol + d * 2 + 1, none⟩) lbl).trans y1⟩)
      obtain ⟨ob, hob⟩ : ∃ ob, ob = ovl (a, s) (b, t) := ⟨_, rfl⟩
      have HOB := Lib.hid hob
      clear hob
      have HAP : Hid (∀ wz, Calls Tryz.prog 17 #[.agg #[.int .u64 (a : Nat), .int .u64 (s : Nat)], .agg #[.int .u64 (b : Nat), .int .u64 (t : Nat)]] wz fun e w' => e = .returned (.bool (!ob)) ∧ Below wz.heap.size wz w') := Lib.hid (fun wz => by rw [HOB.out]; exact apart_any a s b t wz (by unfold TOP; omega) (by have := HBT.out; unfold TOP; omega))
      go_upto_region 18 with fail
      cases ob with
      | true =>
        simp only [Bool.not_true] at HAP
        have HE : Hid (newE rams devs = 35) := Lib.hid (HFIN.out 35 (by decide) (by
          rw [chk, if_neg HC1.out, if_neg HC2.out, if_neg HC3.out, if_pos]
          refine List.any_eq_true.2 ⟨(b, t), ?_, HOB.out.symm⟩
          refine List.mem_iff_getElem?.2 ⟨d, ?_⟩
          rw [List.getElem?_take, if_pos hdk]; exact HY.out))
        go_region_held3 (fun w' => w'.cell? ⟨bl, ol + k * 2, none⟩ = some (.int .u64 (a : Nat)) ∧ w'.cell? ⟨bl, ol + k * 2 + 1, none⟩ = some (.int .u64 (s : Nat)) ∧ w'.cell? ⟨bl, ol + d * 2, none⟩ = some (.int .u64 (b : Nat)) ∧ w'.cell? ⟨bl, ol + d * 2 + 1, none⟩ = some (.int .u64 (t : Nat)))
          (first | exact ⟨x0, x1, y0, y1⟩ | exact KAL.out _ HBP.out)
          (first
            | (go_at_call 17; refine (HAP.out _).mono ?_; rintro e wp ⟨rfl, hbp⟩; have HBP : Hid (Below wr.heap.size wr wp) := Lib.hid ((Below.refl wr.heap.size wr).drew.trans (hbp.mono (Below.refl wr.heap.size wr).drew.size)); clear hbp))
        all_goals
          have HBZ : Hid (Below w.heap.size w wp) := Lib.hid (HBW.out.trans (HBP.out.mono HBW.out.size))
          go_wp2_with fail
          go_ret
          exact ⟨by rw [HE.out]; rfl, HBZ.out⟩
      | false =>
        simp only [Bool.not_false] at HAP
        have HV' : Hid (((rams ++ devs).take (d + 1)).any (ovl (a, s)) = false) := Lib.hid (by
          rw [List.take_add_one, HY.out, List.any_append, HV.out]
          simp only [Option.toList, List.any_cons, List.any_nil, Bool.or_false, Bool.false_or]
          exact HOB.out.symm)
        go_region_held3 (fun w' => w'.cell? ⟨bl, ol + k * 2, none⟩ = some (.int .u64 (a : Nat)) ∧ w'.cell? ⟨bl, ol + k * 2 + 1, none⟩ = some (.int .u64 (s : Nat)) ∧ w'.cell? ⟨bl, ol + d * 2, none⟩ = some (.int .u64 (b : Nat)) ∧ w'.cell? ⟨bl, ol + d * 2 + 1, none⟩ = some (.int .u64 (t : Nat)))
          (first | exact ⟨x0, x1, y0, y1⟩ | exact KAL.out _ HBP.out)
          (first
            | (go_at_call 17; refine (HAP.out _).mono ?_; rintro e wp ⟨rfl, hbp⟩; have HBP : Hid (Below wr.heap.size wr wp) := Lib.hid ((Below.refl wr.heap.size wr).drew.trans (hbp.mono (Below.refl wr.heap.size wr).drew.size)); clear hbp))
        all_goals
          have HBZ : Hid (Below w2.heap.size w2 wp) := Lib.hid (bel_chain HB.out HBP.out)
          go_wp2_with fail
          go_roundw
          case rel => exact ⟨d + 1, by omega, by go_num, HV', HBZ⟩
          case measure => simp [intOf]; omega
    · have e : d = k := by omega
      subst e
      have HGN : Hid (Good rams devs (d + 1)) := Lib.hid (HG.out.next HX.out (by rw [HN1.out, chk, if_neg HC1.out, if_neg HC2.out, if_neg HC3.out, if_neg (by rw [HV.out]; decide)]))
      simp only at x0 x1
      cases WB with
      | true =>
        have HTN : Hid (tt = total (rams.take (d + 1))) := Lib.hid (by
          have hw : n1 ≤ d := of_decide_eq_true HWB.out.symm
          rw [HTT.out, List.take_of_length_le (by rw [HN1.out]; omega), List.take_of_length_le (by rw [HN1.out]; omega)])
        go_wp2_with fail
        go_roundw
        case rel => exact ⟨d + 1, by omega, by go_num, by rw [HTN.out], HGN, HB⟩
        case measure => simp [intOf]; omega
      | false =>
        have HTN : Hid (tt + s = total (rams.take (d + 1))) := Lib.hid (by
          have hw : ¬ n1 ≤ d := of_decide_eq_false HWB.out.symm
          have hx := HX.out
          rw [List.getElem?_append_left (by rw [HN1.out]; omega)] at hx
          rw [HTT.out, List.take_add_one, hx]
          exact (total_snoc (rams.take d) (a, s)).symm)
        have hts : (tt : Int) + (s : Int) ≤ 18446744073709551615 := by omega
        go_wp2_with fail
        go_roundw
        case rel => exact ⟨d + 1, by omega, by go_num, by rw [← HTN.out]; go_num, HGN, HB⟩
        case measure => simp [intOf]; omega
  · have e : k = N := by omega
    subst e
    have HBW : Hid (Below w.heap.size w wr) := Lib.hid (HB2.out.trans (HB.out.mono HB2.out.size))
    have HEE : Hid (newE rams devs = if 67108864 < tt then 36 else 0) := Lib.hid (by
      have h1 := newE_end (rams := rams) (devs := devs) (by rw [HN1.out]; exact hn1) (by rw [HN2.out]; exact HN32.out) (by rw [HN1.out, HN2.out, ← HN.out]; exact HG.out)
      rw [h1, HTT.out, List.take_of_length_le (by rw [HN1.out, HN.out]; omega)])
    by_cases q : 67108864 < tt
    · have f : (67108864 : Int) < (tt : Int) := by omega
      have HE : Hid (newE rams devs = 36) := Lib.hid (by rw [HEE.out, if_pos q])
      go_wp2_with fail
      go_ret
      exact ⟨by rw [HE.out]; rfl, HBW.out⟩
    · have f : ¬ (67108864 : Int) < (tt : Int) := by omega
      have HE : Hid (newE rams devs = 0) := Lib.hid (by rw [HEE.out, if_neg q])
      go_wp2_with fail
      go_ret
      exact ⟨by rw [HE.out]; rfl, HBW.out⟩
end Bu
end Go.Proofs.YtfpofaniicegaaaGreat
