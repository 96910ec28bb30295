/- The walks of Same over ranges (alike ones), sameBus (of alike ones); how many pages are kept. -/
import Derived.Test.YtmhkmemaneopeaaBuG
import Derived.BigQuiet
import Derived.Deep.QuietTactic
set_option linter.unusedVariables false
set_option linter.unusedSimpArgs false
namespace Go.Proofs.Ytmhkmemaneopeaa
open Go.RowKit
open S64
namespace Bu
theorem neqR (w : World) (a s : Nat) : (binOp .neq 31 (.agg #[.int .u64 (a : Nat), .int .u64 (s : Nat)]) (.agg #[.int .u64 (a : Nat), .int .u64 (s : Nat)])).run Try.prog w = .ok (.bool false) w := by
  go_simp
set_option maxRecDepth 100000 in
set_option maxHeartbeats 1000000 in
theorem sameR_yes (A A' : Option Addr) (n c c' : Nat) (l : Sp.S) (w : World) (ha : IsS w w.heap.size A n l) (hb : IsS w w.heap.size A' n l) :
    Calls Try.prog 40 #[.slice A n c, .slice A' n c'] w fun e w' => e = .returned (.bool true) ∧ ∃ m, w' = w.drewN m := by
  obtain ⟨b, off, HA⟩ := ha.form
  obtain ⟨b', off', HB⟩ := hb.form
  have HL := Lib.hid ha.2.1
  have hn63 := ha.2.2
  clear ha hb
  go_enter Try.func40, Try.ntmps40
  go_wp2
  go_loopw [5] (fun i wr => ∃ j m : Nat, j ≤ n ∧ i = .int .i64 j ∧ wr = w.drewN m) (fun i _ => n - (intOf i).toNat)
  case atStart => exact ⟨0, 0, by omega, rfl, rfl⟩
  case round =>
    obtain ⟨j, m, hj, rfl, rfl⟩ := hrel
    by_cases hjn : j < n
    · obtain ⟨rfl, hg, hc⟩ := HA.out (by omega)
      obtain ⟨rfl, hg', hc'⟩ := HB.out (by omega)
      obtain ⟨⟨a, s⟩, hrk⟩ : ∃ r, l[j]? = some r := ⟨_, List.getElem?_eq_getElem (by have := HL.out; omega)⟩
      obtain ⟨c0, c1⟩ := hc j _ hrk
      obtain ⟨d0, d1⟩ := hc' j _ hrk
      have hne := fun wx => neqR wx a s
      simp only at c0 c1 d0 d1
      clear hc hc' HA HB hrk
      go_wp2_with fail
      go_quiet (fail)
      go_wp2
      go_roundw
      case rel => exact ⟨j + 1, _, by omega, by go_num, rfl⟩
      case measure => simp [intOf]; omega
    · have HJ : Hid (j = n) := Lib.hid (by omega)
      go_wp2
      go_ret
      exact ⟨rfl, _, rfl⟩
/-- two buses that read alike -/
def IsBus (w : World) (A1 A2 : Option Addr) (n1 n2 : Nat) (s1 s2 : Sp.S) : Prop := IsS w w.heap.size A1 n1 s1 ∧ IsS w w.heap.size A2 n2 s2
set_option maxRecDepth 100000 in
set_option maxHeartbeats 1000000 in
theorem samebus_yes (A1 A2 B1 B2 : Option Addr) (n1 n2 c1 c2 d1 d2 : Nat) (s1 s2 : Sp.S) (w : World) (ha : IsBus w A1 A2 n1 n2 s1 s2) (hb : IsBus w B1 B2 n1 n2 s1 s2) :
    Calls Try.prog 17 #[.agg #[.slice A1 n1 c1, .slice A2 n2 c2], .agg #[.slice B1 n1 d1, .slice B2 n2 d2]] w fun e w' => e = .returned (.bool true) ∧ Below w.heap.size w w' := by
  have HA := Lib.hid ha; have HB := Lib.hid hb
  clear ha hb
  go_enter Try.func17, Try.ntmps17
  go_upto_region 1 with fail
  have r0 : Row ((w.alloc (.cells #[.slice A1 n1 c1, .slice A2 n2 c2] 24)).alloc (.cells #[.slice B1 n1 d1, .slice B2 n2 d2] 24)) w.heap.size 24 [.slice A1 n1 c1, .slice A2 n2 c2] := (Row.new w _ [.slice A1 n1 c1, .slice A2 n2 c2]).alloc _
  have r1 : Row ((w.alloc (.cells #[.slice A1 n1 c1, .slice A2 n2 c2] 24)).alloc (.cells #[.slice B1 n1 d1, .slice B2 n2 d2] 24)) (w.heap.size + 1) 24 [.slice B1 n1 d1, .slice B2 n2 d2] := by
    have h := Row.new (w.alloc (.cells #[.slice A1 n1 c1, .slice A2 n2 c2] 24)) 24 [.slice B1 n1 d1, .slice B2 n2 d2]
    rw [sz_alloc] at h
    exact h
  have hb0 : Below w.heap.size w ((w.alloc (.cells #[.slice A1 n1 c1, .slice A2 n2 c2] 24)).alloc (.cells #[.slice B1 n1 d1, .slice B2 n2 d2] 24)) := ((Below.refl _ _).alloc (Nat.le_refl _) _).alloc (by simp) _
  generalize (w.alloc (.cells #[.slice A1 n1 c1, .slice A2 n2 c2] 24)).alloc (.cells #[.slice B1 n1 d1, .slice B2 n2 d2] 24) = w1 at *
  have p0 := r0.cell 0
  have p1 := r0.cell 1
  have q0 := r1.cell 0
  have q1 := r1.cell 1
  have lp := r0.lt
  have lq := r1.lt
  simp only [List.getElem?_cons_zero, List.getElem?_cons_succ] at p0 p1 q0 q1
  have HB0 := Lib.hid hb0
  have HS1 : Hid (∀ wx, Below w1.heap.size w1 wx → Calls Try.prog 40 #[.slice A1 n1 c1, .slice B1 n1 d1] wx fun e w' => e = .returned (.bool true) ∧ ∃ m, w' = wx.drewN m) := Lib.hid (fun wx h => sameR_yes A1 B1 n1 c1 d1 s1 wx ((((HA.out.1.below hb0).more hb0.size).below h).more h.size) ((((HB.out.1.below hb0).more hb0.size).below h).more h.size))
  have HS2 : Hid (∀ wx, Below w1.heap.size w1 wx → Calls Try.prog 40 #[.slice A2 n2 c2, .slice B2 n2 d2] wx fun e w' => e = .returned (.bool true) ∧ ∃ m, w' = wx.drewN m) := Lib.hid (fun wx h => sameR_yes A2 B2 n2 c2 d2 s2 wx ((((HA.out.2.below hb0).more hb0.size).below h).more h.size) ((((HB.out.2.below hb0).more hb0.size).below h).more h.size))
  clear r0 r1 hb0
  go_wp2_with fail
  refine (HS1.out w1 (Below.refl _ _)).mono ?_
  rintro e wa ⟨rfl, m1, rfl⟩
  go_wp2_with fail
  refine (HS2.out _ (below_drewN (Below.refl _ _) _)).mono ?_
  rintro e wb ⟨rfl, m2, rfl⟩
  go_wp2_with fail
  go_ret
  exact ⟨by first | rfl | trivial, below_drewN HB0.out _⟩
theorem MZ.byte {Z R : Nat → Prop} {w : World} {g : Nat} {M : PM} (h : MZ Z R w g M) : ∀ p, M.mem p < 256 := by
  obtain ⟨_, _, _, _, _, _, _, _, _, _, h⟩ := h.m
  exact h.byte
theorem nz_lz {mem : Nat → Nat} {k : Nat} : nz mem k ↔ lz mem k = false := by
  constructor
  · rintro ⟨i, hi, hn⟩
    cases h : lz mem k with
    | false => rfl
    | true => exact absurd (lz_yes h i hi) hn
  · exact lz_no
/-- the pages of the ground that hold something -/
def gKs (mem : Nat → Nat) : List Nat := [2, 3, 4, 5].filter fun k => !lz mem k
theorem gKs_nodup (mem : Nat → Nat) : (gKs mem).Nodup := (by decide : [2, 3, 4, 5].Nodup).filter _
theorem gKs_mem {mem : Nat → Nat} (h : ∀ p, ¬ (8192 ≤ p ∧ p < 24576) → mem p = 0) (k : Nat) : k ∈ gKs mem ↔ nz mem k := by
  unfold gKs
  rw [List.mem_filter, nz_lz, Bool.not_eq_true']
  constructor
  · exact fun h => h.2
  · intro hk
    refine ⟨?_, hk⟩
    obtain ⟨i, hi, hn⟩ := lz_no hk
    have : 8192 ≤ 4096 * k + i ∧ 4096 * k + i < 24576 := by
      rcases Classical.em (8192 ≤ 4096 * k + i ∧ 4096 * k + i < 24576) with h1 | h1
      · exact h1
      · exact absurd (h _ h1) hn
    have hk' : k = 2 ∨ k = 3 ∨ k = 4 ∨ k = 5 := by omega
    simp; omega
theorem kept_g {Z R : Nat → Prop} {M : PM} {g : Nat} {w : World} (h : MZ Z R w g M) (ho : ∀ p, ¬ (8192 ≤ p ∧ p < 24576) → M.mem p = 0) : Calls Try.prog 11 #[.pointer (some ⟨g, 0, none⟩)] w fun e w' => e = .returned (.int .i64 ((gKs M.mem).length : Nat)) ∧ w = w' := kept_m h (gKs_nodup _) (gKs_mem ho)
theorem layM_out {mem : Nat → Nat} {a k : Nat} {f : Nat → Nat} (h : ∀ p, ¬ (8192 ≤ p ∧ p < 24576) → mem p = 0) (ha : k = 0 ∨ (8192 ≤ a ∧ a + k ≤ 24576)) : ∀ p, ¬ (8192 ≤ p ∧ p < 24576) → layM mem a k f p = 0 := by
  intro p hp
  unfold layM
  rw [if_neg (by rcases ha with rfl | h1 <;> omega)]
  exact h p hp
theorem gMem_out (bs : List Nat) : ∀ k, k ≤ 100 → ∀ p, ¬ (8192 ≤ p ∧ p < 24576) → gMem bs k p = 0
  | 0, _ => fun p _ => rfl
  | k + 1, h => layM_out (gMem_out bs k (by omega)) (.inr ⟨by omega, by omega⟩)
/-- may so many bytes be laid there? -/
def okB (a n : Nat) : Bool := decide (n = 0) || inB a n
theorem okB_yes {a n : Nat} (h : okB a n = true) : n = 0 ∨ (8192 ≤ a ∧ a + n ≤ 24576) := by
  unfold okB inB at h
  rw [Bool.or_eq_true, decide_eq_true_iff, decide_eq_true_iff] at h
  exact h
theorem okB_no {a n : Nat} (h : okB a n = false) : 0 < n ∧ ¬ (8192 ≤ a ∧ a + n ≤ 24576) := by
  unfold okB inB at h
  rw [Bool.or_eq_false_iff, decide_eq_false_iff_not, decide_eq_false_iff_not] at h
  omega
/-- a machine on the ground -/
structure OnG (M : PM) : Prop where
  rams : M.rams = gR
  devs : M.devs = gD
  out : ∀ p, ¬ (8192 ≤ p ∧ p < 24576) → M.mem p = 0
/-- what laying bytes on the ground makes: the machine, the fault's two numbers -/
structure FilSaid (M : PM) (a n : Nat) (f : Nat → Nat) (M' : PM) (y q : Nat) : Prop where
  og : OnG M'
  st : M'.strays ≤ M.strays + 1
  mem : M'.mem = if okB a n = true then layM M.mem a n f else M.mem
  yes : okB a n = true → y = 0 ∧ q = 0
  no : okB a n = false → y = 30
theorem fil_of {M : PM} (hg : OnG M) (a n : Nat) (f : Nat → Nat) (ha : a ≤ TOP) : ∃ F y q, OffIs (M.rams ++ M.devs) a n F ∧ faultV F = .agg #[.int .i64 ((y : Nat) : Int), .int .u64 ((q : Nat) : Int)] ∧ FilSaid M a n f (laidM M a n f 0 F) y q := by
  rw [hg.rams, hg.devs]
  cases hk : okB a n with
  | true =>
    have h := okB_yes hk
    refine ⟨none, 0, 0, ?_, rfl, ⟨⟨hg.rams, hg.devs, ?_⟩, Nat.le_succ _, by rw [if_pos hk]; rfl, fun _ => ⟨rfl, rfl⟩, fun h => by rw [hk] at h; cases h⟩⟩
    · rcases h with rfl | h
      · exact fun p h1 h2 => by omega
      · exact g_in h
    · exact layM_out hg.out h
  | false =>
    have h := okB_no hk
    refine ⟨some (gOff a), 30, gOff a, g_out ha h.1 h.2, rfl, ⟨⟨hg.rams, hg.devs, hg.out⟩, Nat.le_refl _, by rw [if_neg (by rw [hk]; decide)]; rfl, (fun h => by rw [hk] at h; cases h), fun _ => rfl⟩⟩
theorem fill_g {Z R : Nat → Prop} {M : PM} {g n a v : Nat} {w : World} (h : MZ Z R w g M) (hg : OnG M) (hs : M.strays ≤ 100) (hn : n ≤ 20000) (ha : a ≤ TOP) (hv : v < 256) :
    ∃ M' y q, FilSaid M a n (fun _ => v) M' y q ∧ Calls Try.prog 22 #[.pointer (some ⟨g, 0, none⟩), .int .u64 (a : Nat), .int .i64 (n : Nat), .int .u8 (v : Nat)] w fun e w' => e = .returned (.agg #[.int .i64 (y : Nat), .int .u64 (q : Nat)]) ∧ Laid1 Z R w g M' w' := by
  obtain ⟨F, y, q, hF, hv1, hf⟩ := fil_of hg a n (fun _ => v) ha
  refine ⟨_, y, q, hf, ?_⟩
  rw [← hv1]
  exact fill_m h (by omega) hv ha (by omega) hF
theorem write_g {Z R : Nat → Prop} {M : PM} {g n a : Nat} {A : Option Addr} {cc : Nat} {bs : List Nat} {w : World} (h : MZ Z R w g M) (hg : OnG M) (hs : M.strays ≤ 100) (ha : a ≤ TOP) (hb : IsB w w.heap.size A n bs) (hnz : ∀ ad, A = some ad → 0 < n → ¬ Z ad.block) :
    ∃ M' y q, FilSaid M a n (fun i => bs.getD i 0) M' y q ∧ Calls Try.prog 25 #[.pointer (some ⟨g, 0, none⟩), .int .u64 (a : Nat), .slice A n cc] w fun e w' => e = .returned (.agg #[.int .i64 (y : Nat), .int .u64 (q : Nat)]) ∧ Laid1 Z R w g M' w' := by
  obtain ⟨F, y, q, hF, hv1, hf⟩ := fil_of hg a n (fun i => bs.getD i 0) ha
  refine ⟨_, y, q, hf, ?_⟩
  rw [← hv1]
  exact write_m h hb hnz ha (by omega) hF
/-- the bytes of the ground while d bytes are laid -/
def wantB (mem : Nat → Nat) (a d : Nat) (f : Nat → Nat) : List Nat := memB (layM mem a d f) 8192 16384
theorem wantB_set (mem : Nat → Nat) (a d : Nat) (f : Nat → Nat) (h1 : 8192 ≤ a) (h2 : a + d < 24576) : ((wantB mem a d f).map u8).set (a + d - 8192) (u8 (f d)) = (wantB mem a (d + 1) f).map u8 := by
  apply List.ext_getElem?
  intro i
  rw [List.getElem?_set, List.getElem?_map, List.getElem?_map]
  by_cases hi : i < 16384
  · rw [wantB, wantB, memB_get _ _ _ _ hi, memB_get _ _ _ _ hi]
    by_cases he : a + d - 8192 = i
    · rw [if_pos he, if_pos (by rw [List.length_map, memB_len]; omega)]
      have e : 8192 + i = a + d := by omega
      rw [e]
      unfold layM
      rw [if_pos (by omega), show a + d - a = d by omega]; rfl
    · rw [if_neg he]
      unfold layM
      congr 2
      by_cases h3 : a ≤ 8192 + i ∧ 8192 + i < a + d
      · rw [if_pos h3, if_pos (by omega)]
      · rw [if_neg h3, if_neg (by omega)]
  · rw [List.getElem?_eq_none (by rw [wantB, memB_len]; omega), if_neg (by omega), List.getElem?_eq_none (by rw [wantB, memB_len]; omega)]
theorem wantB_zero (M : PM) (a : Nat) (f : Nat → Nat) : wantB M.mem a 0 f = allB M := by rw [wantB, layM_zero]; rfl
theorem wantB_end {M M' : PM} {a n : Nat} {f : Nat → Nat} (h : M'.mem = layM M.mem a n f) : wantB M.mem a n f = allB M' := by rw [wantB, allB, h]
theorem allB_same {M M' : PM} (h : M'.mem = M.mem) : allB M' = allB M := by rw [allB, allB, h]
/-- what holds between the calls: the machine, the bytes that are wanted, the fault's variable -/
structure FS (w : World) (g : Nat) (R : Nat → Prop) (M : PM) (bw bf : Nat) (wb : List Nat) (y q : Nat) (A : Option Addr) (n : Nat) (ps : List Nat) (wr : World) : Prop where
  m : ∃ Z, MZ Z R wr g M ∧ (∀ x, Z x → w.heap.size ≤ x) ∧ ¬ Z bw ∧ ¬ Z bf
  rw_ : Row wr bw 5 (wb.map u8)
  rf : Row wr bf 42 [.int .i64 (y : Nat), .int .u64 (q : Nat)]
  ps : IsB wr w.heap.size A n ps
  gw : w.heap.size ≤ bw
  gf : w.heap.size ≤ bf
  bel : Below w.heap.size w wr
end Bu
end Go.Proofs.Ytmhkmemaneopeaa
