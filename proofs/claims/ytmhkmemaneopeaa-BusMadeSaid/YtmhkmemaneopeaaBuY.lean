/- The document's machine: find, bytes. -/
import Derived.Test.YtmhkmemaneopeaaBuO
set_option linter.unusedVariables false
set_option linter.unusedSimpArgs false
namespace Go.Proofs.Ytmhkmemaneopeaa
open Go.RowKit
open S64
namespace Bu
theorem pcell_len (s : List (Nat × Nat)) : ∀ b ∈ s.map pcell, b.length = 2 := by
  intro b h
  obtain ⟨x, _, rfl⟩ := List.mem_map.1 h
  rfl
/-- the pages' cells -/
theorem RMA.page {w : World} {B g : Nat} {M : PM} {A1 A2 Ap : Option Addr} {n1 n2 c1 c2 np cp : Nat} {pgs : List (Nat × Nat)} (h : RMA w B g M A1 A2 Ap n1 n2 c1 c2 np cp pgs) : ∃ b o, Hid (0 < np → Ap = some ⟨b, o, none⟩ ∧ b < w.heap.size ∧ ∀ (i : Nat) (x : Nat × Nat), pgs[i]? = some x → w.cell? ⟨b, o + i * 2, none⟩ = some (.int .u64 (x.1 : Nat)) ∧ w.cell? ⟨b, o + i * 2 + 1, none⟩ = some (.slice (some ⟨x.2, 0, none⟩) 4096 4096)) := by
  obtain ⟨b, o, hf⟩ := el_form (Reads.of_own h.own) (pcell_len pgs) (by rw [List.length_map]; exact h.plen) (by decide)
  refine ⟨b, o, fun h0 => ?_⟩
  obtain ⟨h1, h2, h3⟩ := hf.out h0
  refine ⟨h1, h2, fun i x hx => ?_⟩
  have hr := h3 i (pcell x) (by rw [List.getElem?_map, hx]; rfl)
  exact ⟨hr 0 _ rfl, hr 1 _ rfl⟩
theorem RMA.pcap {w : World} {B g : Nat} {M : PM} {A1 A2 Ap : Option Addr} {n1 n2 c1 c2 np cp : Nat} {pgs : List (Nat × Nat)} (h : RMA w B g M A1 A2 Ap n1 n2 c1 c2 np cp pgs) : np ≤ 9223372036854775807 := by have := own_cap h.own; omega
/-- what find tells: where the page's number stands, or that it stands nowhere -/
def FindSaid (pgs : List (Nat × Nat)) (num : Nat) (w : World) (e : Ending) (w' : World) : Prop :=
  ((∃ (i : Nat) (x : Nat × Nat), pgs[i]? = some x ∧ x.1 = num ∧ e = .returned (.int .i64 (i : Nat))) ∨ ((∀ x ∈ pgs, x.1 ≠ num) ∧ e = .returned (.int .i64 (-1)))) ∧ w = w'
set_option maxRecDepth 100000 in
set_option maxHeartbeats 2000000 in
theorem find_any {w : World} {B g : Nat} {M : PM} {A1 A2 Ap : Option Addr} {n1 n2 c1 c2 np cp : Nat} {pgs : List (Nat × Nat)} (h : RMA w B g M A1 A2 Ap n1 n2 c1 c2 np cp pgs) (num : Nat) (hnum : num ≤ TOP) :
    Calls Try.prog 75 #[.pointer (some ⟨g, 0, none⟩), .int .u64 (num : Nat)] w (FindSaid pgs num w) := by
  have p2 := h.row.cell 2
  have lp := h.row.lt
  have hn63 := h.pcap
  have HPL := Lib.hid h.plen
  obtain ⟨bp, op, HF⟩ := h.page
  have hnum64 : num ≤ 18446744073709551615 := hnum
  simp only [List.getElem?_cons_zero, List.getElem?_cons_succ] at p2
  clear h hnum
  go_enter Try.func75, Try.ntmps75
  go_wp2_with fail
  go_loopw [5] (fun i wr => ∃ j : Nat, j ≤ np ∧ i = .int .i64 (j : Nat) ∧ Hid (∀ (x : Nat) (r : Nat × Nat), x < j → pgs[x]? = some r → r.1 ≠ num) ∧ w = wr) (fun i _ => np - (intOf i).toNat)
  case atStart => exact ⟨0, by omega, rfl, Lib.hid (fun x r h => absurd h (by omega)), rfl⟩
  case round =>
  obtain ⟨j, hj, rfl, HNO, rfl⟩ := hrel
  by_cases hjn : j < np
  · obtain ⟨rfl, hb, hc⟩ := HF.out (by omega)
    obtain ⟨⟨m, k⟩, hx⟩ : ∃ x, pgs[j]? = some x := ⟨_, List.getElem?_eq_getElem (by rw [HPL.out]; exact hjn)⟩
    have x0 := (hc j _ hx).1
    have HX := Lib.hid hx
    simp only at x0
    clear hc HF hx
    by_cases q : m = num
    · have f : ((m : Int) == (num : Int)) = true := by rw [q]; simp
      have HQ := Lib.hid q
      clear q
      go_wp2_with fail
      go_ret
      exact ⟨.inl ⟨j, (m, k), HX.out, HQ.out, rfl⟩, rfl⟩
    · have f : ((m : Int) == (num : Int)) = false := by simp; omega
      have HNO' : Hid (∀ (x : Nat) (r : Nat × Nat), x < j + 1 → pgs[x]? = some r → r.1 ≠ num) := Lib.hid (fun x r hx hr => by
        rcases Nat.lt_or_ge x j with h1 | h1
        · exact HNO.out x r h1 hr
        · obtain rfl : x = j := by omega
          have e : some r = some (m, k) := hr.symm.trans HX.out
          injection e with e
          subst e
          exact q)
      clear q
      go_wp2_with fail
      go_roundw
      case rel => exact ⟨j + 1, by omega, by go_num, HNO', by first | rfl | trivial⟩
      case measure => simp [intOf]; omega
  · have e : j = np := by omega
    subst e
    go_wp2_with fail
    go_ret
    refine ⟨.inr ⟨fun x hx => ?_, by first | rfl | trivial⟩, by first | rfl | trivial⟩
    obtain ⟨i, hi⟩ := List.getElem?_of_mem hx
    exact HNO.out i x (by have := (List.getElem?_eq_some_iff.1 hi).1; have := HPL.out; omega) hi
theorem outB_set (mem : Nat → Nat) (a n d : Nat) (hd : d < n) : (outB mem a n d).set d (u8 (mem (a + d))) = outB mem a n (d + 1) := by
  apply List.ext_getElem?
  intro i
  rw [List.getElem?_set]
  by_cases hi : i < n
  · rw [outB_get _ _ _ _ _ hi, outB_get _ _ _ _ _ hi, outB_len]
    by_cases h : d = i
    · subst h; rw [if_pos rfl, if_pos hd, if_pos (by omega)]
    · rw [if_neg h]
      by_cases h2 : i < d
      · rw [if_pos h2, if_pos (by omega)]
      · rw [if_neg h2, if_neg (by omega)]
  · rw [if_neg (by omega), List.getElem?_eq_none (by rw [outB_len]; omega), List.getElem?_eq_none (by rw [outB_len]; omega)]
/-- while the document's bytes are taken -/
structure YI (w : World) (mem : Nat → Nat) (at_ n bb d : Nat) (wr : World) : Prop where
  rb : Row wr bb 5 (outB mem at_ n d)
  bel : Below w.heap.size w wr
theorem YI.set {w : World} {mem : Nat → Nat} {at_ n bb d : Nat} {wr : World} (h : YI w mem at_ n bb d wr) (hbb : w.heap.size ≤ bb) (hd : d < n) (v : Nat) (hv : v = mem (at_ + d)) : YI w mem at_ n bb (d + 1) (wr.setCell ⟨bb, d, none⟩ (.int .u8 (v : Nat))) :=
  ⟨by rw [← outB_set _ _ _ _ hd, ← hv]; exact h.rb.set_ d _, h.bel.setCell (p := ⟨bb, d, none⟩) hbb _⟩
set_option maxRecDepth 100000 in
set_option maxHeartbeats 4000000 in
theorem refbytes_any {w : World} {B g : Nat} {M : PM} {A1 A2 Ap : Option Addr} {n1 n2 c1 c2 np cp : Nat} {pgs : List (Nat × Nat)} (h : RMA w B g M A1 A2 Ap n1 n2 c1 c2 np cp pgs) (at_ n : Nat) (ha : at_ ≤ TOP) (h32 : n = 0 ∨ at_ + n ≤ 4294967296) :
    Calls Try.prog 60 #[.pointer (some ⟨g, 0, none⟩), .int .u64 (at_ : Nat), .int .i64 (n : Nat)] w
      fun e w' => ∃ bb, e = .returned (.slice (some ⟨bb, 0, none⟩) n n) ∧ w.heap.size ≤ bb ∧ Row w' bb 5 (outB M.mem at_ n n) ∧ Below w.heap.size w w' := by
  have hn32 : n ≤ 4294967296 := by omega
  have hmk := run_make_row' (P := Try.prog) 52 5 (.int .u8 0) 1 Try.underlying52 info5 rfl .i64 .i64 n (by omega) (by omega)
  rw [madeCells_one, ← outB_zero M.mem at_ n] at hmk
  have HM := Lib.hid h
  have H32 := Lib.hid h32
  have hat64 : at_ ≤ 18446744073709551615 := ha
  obtain ⟨Z0, hZ0⟩ : ∃ Z0, Z0 = outB M.mem at_ n 0 := ⟨_, rfl⟩
  rw [← hZ0] at hmk
  have HZ0 := Lib.hid hZ0
  clear h ha h32 hZ0
  go_enter Try.func60, Try.ntmps60
  go_upto_region 2 with fail
  have hrb : Row (w.alloc (.cells Z0.toArray 5)) w.heap.size 5 Z0 := Row.new w 5 Z0
  have hb0 : Below w.heap.size w (w.alloc (.cells Z0.toArray 5)) := (Below.refl _ _).alloc (Nat.le_refl _) _
  obtain ⟨bb, hbb⟩ : ∃ bb, bb = w.heap.size := ⟨_, rfl⟩
  generalize w.alloc (.cells Z0.toArray 5) = w1 at *
  rw [← hbb] at hrb ⊢
  have HBB : Hid (w.heap.size ≤ bb) := Lib.hid (Nat.le_of_eq hbb.symm)
  have HI0 : Hid (YI w M.mem at_ n bb 0 w1) := Lib.hid ⟨by rw [← HZ0.out]; exact hrb, hb0⟩
  clear hrb hb0 hmk HZ0 hbb
  go_wp2_with fail
  go_loopw [8] (fun i wr => ∃ d : Nat, d ≤ n ∧ i = .int .i64 (d : Nat) ∧ Hid (YI w M.mem at_ n bb d wr)) (fun i _ => n - (intOf i).toNat)
  case atStart => exact ⟨0, by omega, rfl, HI0⟩
  case round =>
  clear HI0
  obtain ⟨d, hd, rfl, HI⟩ := hrel
  by_cases hdn : d < n
  · obtain ⟨a, hae⟩ : ∃ a, a = at_ + d := ⟨_, rfl⟩
    have ha32 : a < 4294967296 := by have := H32.out; omega
    have e1 : (at_ : Int) + (d : Int) = (a : Int) := by omega
    obtain ⟨f, hf⟩ : ∃ f, f = a % 4096 := ⟨_, rfl⟩
    obtain ⟨p, hp⟩ : ∃ p, p = a / 4096 := ⟨_, rfl⟩
    have e2 : (a : Int) % 4096 = (f : Int) := by omega
    have e3 : (a : Int) / 4096 = (p : Int) := by omega
    have hf4 : f < 4096 := by omega
    have hp32 : p ≤ 4294967296 := by omega
    obtain ⟨K, hK⟩ : ∃ K, K = eachK at_ n d := ⟨_, rfl⟩
    have hKe : K = min (4096 - f) (n - d) := by rw [hK, eachK, ← hae, ← hf]
    have HK := Lib.hid hK
    have hK1 : 0 < K := by omega
    have hK2 : d + K ≤ n := by omega
    have hK3 : f + K ≤ 4096 := by omega
    have HAE := Lib.hid hae
    have HFP : Hid (4096 * p + f = a) := Lib.hid (by omega)
    have HPE := Lib.hid hp
    have HMR := Lib.hid (HM.out.below (HI.out.bel.mono (Nat.le_refl _)))
    have HKE := Lib.hid hKe
    clear hae hf hp hK hKe
    go_upto_if 30 with fail
    go_cut [10] (fun x wx => x = .int .i64 (K : Nat) ∧ wr = wx)
    case first =>
      by_cases q : n - d < 4096 - f
      · have f1 : (n : Int) - (d : Int) < 4096 - (f : Int) := by omega
        have e4 : (K : Int) = (n : Int) - (d : Int) := by have := HKE.out; omega
        have HE4 := Lib.hid e4
        clear e4
        go_wp2_with fail
        go_meet
        case rel => exact ⟨by rw [HE4.out], rfl⟩
      · have f1 : ¬ (n : Int) - (d : Int) < 4096 - (f : Int) := by omega
        have e4 : (K : Int) = 4096 - (f : Int) := by have := HKE.out; omega
        have HE4 := Lib.hid e4
        clear e4
        go_wp2_with fail
        go_meet
        case rel => exact ⟨by rw [HE4.out], rfl⟩
    case rest =>
    obtain ⟨rfl, rfl⟩ := hcut
    go_wp2_with fail
    refine (find_any HMR.out p (by unfold TOP; omega)).mono ?_
    rintro e w' ⟨hs, rfl⟩
    rcases hs with ⟨i, ⟨m, k⟩, hi, hm, rfl⟩ | ⟨hno, rfl⟩
    · have hin : i < np := by have := (List.getElem?_eq_some_iff.1 hi).1; have := HM.out.plen; omega
      have hnp63 := HM.out.pcap
      have HIX := Lib.hid hi
      have HMP : Hid (m = p) := Lib.hid hm
      have hiN : (0 : Int) ≤ (i : Int) := by omega
      have HI0 : Hid (YI w M.mem at_ n bb (d + 0) wr) := HI
      clear hi hm
      go_wp2_with fail
      go_loopw [12] (fun x wx => ∃ t : Nat, t ≤ K ∧ x = .int .i64 (t : Nat) ∧ Hid (YI w M.mem at_ n bb (d + t) wx)) (fun x _ => K - (intOf x).toNat)
      case atStart => exact ⟨0, by omega, rfl, HI0⟩
      case round =>
      clear HI0 HI HMR
      obtain ⟨t, ht, rfl, HI⟩ := hrel
      by_cases htK : t < K
      · have HMX := Lib.hid (HM.out.below HI.out.bel)
        obtain ⟨bp, op, HF⟩ := HMX.out.page
        obtain ⟨rfl, hb, hc⟩ := HF.out (by omega)
        obtain ⟨c0, cx⟩ := hc i _ HIX.out
        have p2 := HMX.out.row.cell 2
        have lp := HMX.out.row.lt
        simp only [List.getElem?_cons_zero, List.getElem?_cons_succ] at p2 c0 cx
        obtain ⟨v, hv⟩ : ∃ v, v = M.mem (at_ + (d + t)) := ⟨_, rfl⟩
        obtain ⟨ft, hft⟩ : ∃ ft, ft = f + t := ⟨_, rfl⟩
        obtain ⟨dt, hdt⟩ : ∃ dt, dt = d + t := ⟨_, rfl⟩
        have hft4 : ft < 4096 := by omega
        have hdtn : dt < n := by omega
        have e5 : (f : Int) + (t : Int) = (ft : Int) := by omega
        have e6 : (d : Int) + (t : Int) = (dt : Int) := by omega
        have hrk := (HMX.out.bytes (m, k) (List.mem_of_getElem? HIX.out)).2
        have y0 := hrk.cell ft
        have ly := hrk.lt
        simp only at y0 ly
        rw [leafRow_get _ _ _ hft4, show 4096 * m + ft = at_ + (d + t) by have h1 := HFP.out; have h2 := HAE.out; have h3 := HMP.out; rw [h3]; omega, ← hv] at y0
        simp only [u8] at y0
        have HI' : Hid (YI w M.mem at_ n bb (d + (t + 1)) (wr.setCell ⟨bb, dt, none⟩ (.int .u8 (v : Nat)))) := Lib.hid (by
          rw [hdt, show d + (t + 1) = d + t + 1 by omega]
          exact HI.out.set HBB.out (by omega) v hv)
        have r0 := HI.out.rb.cell dt
        rw [outB_get _ _ _ _ _ hdtn] at r0
        simp only [u8] at r0
        have rf := HI.out.rb.frozen dt
        have lr := HI.out.rb.lt
        clear hc HF hrk hv hft hdt c0
        go_wp2_with fail
        go_roundw
        case rel => exact ⟨t + 1, by omega, by go_num, HI'⟩
        case measure => simp [intOf]; omega
      · have e : t = K := by omega
        subst e
        go_wp2_with fail
        go_roundw
        case rel => exact ⟨d + t, hK2, by go_num, HI⟩
        case measure => simp [intOf]; omega
    · have HSK : Hid (outB M.mem at_ n (d + K) = outB M.mem at_ n d) := Lib.hid (by
        rw [HK.out]
        refine outB_skip M.mem at_ n d (fun i hi => HM.out.out _ (fun x hx => ?_)) hdn
        have := hno x hx
        rw [← HAE.out, ← HPE.out]
        omega)
      have HI' : Hid (YI w M.mem at_ n bb (d + K) wr) := Lib.hid ⟨by rw [HSK.out]; exact HI.out.rb, HI.out.bel⟩
      clear hno
      go_wp2_with fail
      go_loopw [12] (fun x wx => x = .int .i64 0 ∧ wr = wx) (fun _ _ => 0)
      case atStart => exact ⟨rfl, rfl⟩
      case round =>
      obtain ⟨rfl, rfl⟩ := hrel
      go_wp2_with fail
      go_roundw
      case rel => exact ⟨d + K, hK2, by go_num, HI'⟩
      case measure => simp [intOf]; omega
  · have e : d = n := by omega
    subst e
    go_wp2_with fail
    go_ret
    exact ⟨bb, rfl, HBB.out, HI.out.rb, HI.out.bel⟩
end Bu
end Go.Proofs.Ytmhkmemaneopeaa
