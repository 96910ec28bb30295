/- Texts of this claim, one behind the other: WkJ, WkK. -/
import Derived.Test.YtfpofaniicegaaaJWalkLeaves27
/- The walks of the law's small and whole. -/
set_option linter.unusedVariables false
set_option linter.unusedSimpArgs false
namespace Go.Proofs.Ytfpofaniicegaaa
open Go.RowKit
open S64
namespace Bu
def sumS (l : Sp.S) : Nat := (l.map (·.2)).sum
theorem sumS_take (l : Sp.S) (i : Nat) (x : Nat × Nat) (h : l[i]? = some x) : sumS (l.take (i + 1)) = sumS (l.take i) + x.2 := by
  have hi := (List.getElem?_eq_some_iff.1 h).1
  have e : l.take (i + 1) = l.take i ++ [x] := by
    rw [List.take_succ_eq_append_getElem hi]
    congr 2
    rw [List.getElem?_eq_getElem hi] at h
    injection h
  unfold sumS
  rw [e, List.map_append, List.sum_append]; simp
theorem sumS_le {l : Sp.S} (h : ∀ r ∈ l, 0 < r.2 ∧ r.1 + r.2 ≤ M32) (i : Nat) (hi : i ≤ l.length) : sumS (l.take i) ≤ 4294967296 * i := by
  induction i with
  | zero => simp [sumS]
  | succ i ih =>
    have hx : l[i]? = some (l[i]'(by omega)) := List.getElem?_eq_getElem (by omega)
    rw [sumS_take l i _ hx]
    have h1 := ih (by omega)
    have h2 := (h _ (List.mem_of_getElem? hx)).2
    unfold M32 at h2
    omega
/-- a bus that may be, of at most half a million bytes? -/
def smallB (rams devs : Sp.S) : Bool := decide (newE rams devs = 0) && decide (sumS (rams ++ devs) ≤ 500000)
set_option maxRecDepth 100000 in
set_option maxHeartbeats 1000000 in
theorem small_any (A1 A2 : Option Addr) (n1 n2 c1 c2 : Nat) (rams devs : Sp.S) (w : World) (h1 : IsS w w.heap.size A1 n1 rams) (h2 : IsS w w.heap.size A2 n2 devs) (ht : ∀ x ∈ rams ++ devs, x.1 ≤ TOP ∧ x.2 ≤ TOP) :
    Calls Try.prog 13 #[.agg #[.slice A1 n1 c1, .slice A2 n2 c2]] w fun e w' => e = .returned (.bool (smallB rams devs)) ∧ Below w.heap.size w w' := by
  have H1 := Lib.hid h1; have H2 := Lib.hid h2; have HT := Lib.hid ht
  obtain ⟨E, hE⟩ : ∃ E, E = newE rams devs := ⟨_, rfl⟩
  have HE := Lib.hid hE
  obtain ⟨SB, hSB⟩ : ∃ SB, SB = smallB rams devs := ⟨_, rfl⟩
  have HSB := Lib.hid hSB
  rw [← hSB]
  clear h1 h2 ht hE hSB
  go_enter Try.func13, Try.ntmps13
  go_upto_region 1 with fail
  have r0 := Row.new w 37 [.slice A1 n1 c1, .slice A2 n2 c2]
  have hb0 : Below w.heap.size w (w.alloc (.cells #[.slice A1 n1 c1, .slice A2 n2 c2] 37)) := (Below.refl _ _).alloc (Nat.le_refl _) _
  obtain ⟨c, hc⟩ : ∃ c, c = w.heap.size := ⟨_, rfl⟩
  generalize w.alloc (.cells #[.slice A1 n1 c1, .slice A2 n2 c2] 37) = w1 at *
  rw [← hc] at r0 ⊢
  have HB := Lib.hid hb0; have HR := Lib.hid r0
  have HRF : Hid (Calls Try.prog 24 #[.agg #[.slice A1 n1 c1, .slice A2 n2 c2]] w1 fun e w' => e = .returned (.int .i64 (E : Nat)) ∧ Below w1.heap.size w1 w') := Lib.hid (by rw [HE.out]; exact refuses_any A1 A2 n1 n2 c1 c2 rams devs w1 ((H1.out.below hb0).more hb0.size) ((H2.out.below hb0).more hb0.size) HT.out)
  have p0 := r0.cell 0
  have p1 := r0.cell 1
  have lp := r0.lt
  simp only [List.getElem?_cons_zero, List.getElem?_cons_succ] at p0 p1
  clear r0 hb0 hc
  go_wp2_with fail
  refine HRF.out.mono ?_
  rintro e w2 ⟨rfl, hb2⟩
  have HB2 := Lib.hid (HB.out.trans (hb2.mono HB.out.size))
  have HR2 := Lib.hid (HR.out.below hb2 HR.out.lt)
  clear hb2 HRF p0 p1 lp HR HB
  by_cases h0 : E = 0
  · subst h0
    have p0 := HR2.out.cell 0
    have p1 := HR2.out.cell 1
    have lp := HR2.out.lt
    simp only [List.getElem?_cons_zero, List.getElem?_cons_succ] at p0 p1
    have hok := okay_of HE.out.symm
    have HOK := Lib.hid hok
    have hn1 : n1 ≤ 8 := by have := hok.r8; have := H1.out.2.1; omega
    have hn2 : n2 ≤ 32 := by have := hok.d32; have := H2.out.2.1; omega
    have HAL := Lib.hid (refall_any A1 A2 n1 n2 c1 c2 rams devs w2 ((H1.out.below HB2.out).more HB2.out.size) ((H2.out.below HB2.out).more HB2.out.size) (by omega) (by omega))
    clear hok
    go_wp2_with fail
    refine HAL.out.mono ?_
    rintro e w3 ⟨AL, cl, rfl, h3, h4⟩
    obtain ⟨N, hN⟩ : ∃ N, N = n1 + n2 := ⟨_, rfl⟩
    rw [← hN] at h3 ⊢
    have hN40 : N ≤ 40 := by omega
    have HL := Lib.hid h3
    have HB3 := Lib.hid (HB2.out.trans (h4.mono HB2.out.size))
    clear h3 h4 hN HAL p0 p1 lp HR2 HB2
    go_wp2_with fail
    go_loopw [3, 5] (fun a x wr => ∃ i s : Nat, i ≤ N ∧ x = .int .i64 (i : Nat) ∧ a = .int .u64 (s : Nat) ∧ Hid (s = sumS ((rams ++ devs).take i)) ∧ Hid (s ≤ 4294967296 * i) ∧ w3 = wr) (fun _ x _ => N - (intOf x).toNat)
    case atStart => exact ⟨0, 0, by omega, rfl, rfl, Lib.hid (by simp [sumS]), Lib.hid (by omega), rfl⟩
    case round =>
    obtain ⟨i, s, hi, rfl, rfl, HSM, HSL, rfl⟩ := hrel
    by_cases hin : i < N
    · obtain ⟨bl, ol, hf⟩ := HL.out.form
      obtain ⟨rfl, hbB, _⟩ := hf.out (by omega)
      obtain ⟨⟨b, t⟩, hx⟩ : ∃ x, (rams ++ devs)[i]? = some x := ⟨_, List.getElem?_eq_getElem (by rw [HL.out.2.1]; exact hin)⟩
      obtain ⟨x0, x1⟩ := IsS.at_ HL.out i _ hx
      have hg := HOK.out.good _ (List.mem_of_getElem? hx)
      simp only at x0 x1 hg
      unfold M32 at hg
      have ht32 : t ≤ 4294967296 := by omega
      have hs64 : s ≤ 171798691840 := by have := HSL.out; omega
      have HSM' : Hid (s + t = sumS ((rams ++ devs).take (i + 1))) := Lib.hid (by rw [sumS_take _ _ _ hx, HSM.out])
      have HSL' : Hid (s + t ≤ 4294967296 * (i + 1)) := Lib.hid (by have := HSL.out; omega)
      clear hf hx hg
      go_wp2_with fail
      go_roundw
      case rel => exact ⟨i + 1, s + t, by omega, by go_num, by first | rfl | go_num, HSM', HSL', by first | rfl | trivial⟩
      case measure => simp [intOf]; omega
    · have ei : i = N := by omega
      subst ei
      have hse : s = sumS (rams ++ devs) := by rw [HSM.out, List.take_of_length_le (by rw [HL.out.2.1]; exact Nat.le_refl _)]
      have hsv : SB = decide (s ≤ 500000) := by rw [HSB.out, smallB, ← HE.out, ← hse]; rfl
      have HSV : Hid (SB = decide ((s : Int) ≤ 500000)) := Lib.hid (by rw [hsv]; congr 1; rw [eq_iff_iff]; omega)
      clear hse hsv
      go_wp2_with fail
      go_ret
      exact ⟨by rw [HSV.out]; rfl, HB3.out⟩
  · have f0 : ((E : Int) != 0) = true := by simp; omega
    have HSV : Hid (SB = false) := Lib.hid (by rw [HSB.out, smallB, ← HE.out, decide_eq_false h0]; rfl)
    clear h0
    go_wp2_with fail
    go_ret
    exact ⟨by rw [HSV.out]; rfl, HB2.out⟩
/-- all bytes of ranges -/
def allR (mem : Nat → Nat) (l : Sp.S) : List Nat := (l.map fun r => memB mem r.1 r.2).flatten
theorem allR_snoc (mem : Nat → Nat) (l : Sp.S) (i : Nat) (x : Nat × Nat) (h : l[i]? = some x) : allR mem (l.take (i + 1)) = allR mem (l.take i) ++ memB mem x.1 x.2 := by
  have hi := (List.getElem?_eq_some_iff.1 h).1
  have e : l.take (i + 1) = l.take i ++ [x] := by
    rw [List.take_succ_eq_append_getElem hi]
    congr 2
    rw [List.getElem?_eq_getElem hi] at h
    injection h
  unfold allR
  rw [e, List.map_append, List.flatten_append]; simp
theorem allR_len (mem : Nat → Nat) (l : Sp.S) : (allR mem l).length = sumS l := by
  unfold allR sumS
  rw [List.length_flatten, List.map_map]
  congr 1
  exact List.map_congr_left fun x _ => memB_len _ _ _
set_option maxRecDepth 100000 in
set_option maxHeartbeats 1000000 in
theorem refall_new (A1 A2 : Option Addr) (n1 n2 c1 c2 : Nat) (s1 s2 : Sp.S) (w : World) (h1 : IsS w w.heap.size A1 n1 s1) (h2 : IsS w w.heap.size A2 n2 s2) (b1 : n1 ≤ 1000000) (b2 : n2 ≤ 1000000) :
    Calls Try.prog 22 #[.agg #[.slice A1 n1 c1, .slice A2 n2 c2]] w fun e w' => ∃ A c, e = .returned (.slice A (n1 + n2) c) ∧ IsS w' w'.heap.size A (n1 + n2) (s1 ++ s2) ∧ Below w.heap.size w w' ∧ ∀ ad, A = some ad → w.heap.size ≤ ad.block ∧ ad.block < w'.heap.size ∧ ∃ cur, Blk w' ad.block 58 cur := by
  obtain ⟨i0, hi0, hz1, hz2, hz3⟩ := info_parts BR.infoE
  have H1 := Lib.hid h1; have H2 := Lib.hid h2
  have HI := Lib.hid hi0; have HZ1 := Lib.hid hz1; have HZ2 := Lib.hid hz2; have HZ3 := Lib.hid hz3
  clear hi0 hz1 hz2 hz3 h1 h2
  go_enter Try.func22, Try.ntmps22
  go_upto_region 1 with fail
  have r0 : Row (w.alloc (.cells #[.slice A1 n1 c1, .slice A2 n2 c2] 37)) w.heap.size 37 [.slice A1 n1 c1, .slice A2 n2 c2] := Row.new w _ [.slice A1 n1 c1, .slice A2 n2 c2]
  have hb0 : Below w.heap.size w (w.alloc (.cells #[.slice A1 n1 c1, .slice A2 n2 c2] 37)) := (Below.refl _ _).alloc (Nat.le_refl _) _
  generalize w.alloc (.cells #[.slice A1 n1 c1, .slice A2 n2 c2] 37) = w1 at *
  have HR0 := Lib.hid r0
  have HB0 := Lib.hid hb0
  have p0 := r0.cell 0
  have lp := r0.lt
  simp only [List.getElem?_cons_zero] at p0
  clear r0 hb0
  go_upto_region 2 with (at_builtin; refine wpList_append_nil _ rfl (.const (.slice none 0 0)) (.tmp 5) _ rfl 58 i0 _ 2 16 Try.underlying35 HI.out HZ1.out HZ2.out HZ3.out rfl (by omega) rfl w.heap.size A1 n1 c1 (s1.map scell).flatten rfl (H1.out.below HB0.out).1 (scell_one s1) (by simp only [maxLen]; omega) (by omega) ?_; intro A2' c2' w2 HN)
  have HR2 := Lib.hid (HR0.out.below HN.out.below HR0.out.lt)
  have HB2 := Lib.hid (HB0.out.trans (HN.out.below.mono HB0.out.size))
  have p1 := HR2.out.cell 1
  have lq := HR2.out.lt
  simp only [List.getElem?_cons_zero, List.getElem?_cons_succ] at p1
  clear p0 lp
  go_wp2_with (at_builtin; refine wpList_append_more _ rfl (.tmp 7) (.tmp 9) _ rfl w1.heap.size 58 i0 _ 2 16 Try.underlying35 HI.out HZ1.out HZ2.out HZ3.out rfl (by omega) _ _ _ _ rfl HN.out.1 w.heap.size A2 n2 c2 (s2.map scell).flatten rfl (H2.out.below HB2.out).1 (scell_one s2) (by simp only [maxLen]; omega) (by omega) HN.out.below.size ?_; intro A3 c3 w3 HM)
  go_ret
  obtain ⟨hm1, hm2, hm3⟩ := HM.out
  have e : (List.map scell s1).flatten ++ (List.map scell s2).flatten = (List.map scell (s1 ++ s2)).flatten := by rw [List.map_append, List.flatten_append]
  rw [e] at hm2
  exact ⟨A3, c3, rfl, ⟨hm2, by rw [List.length_append, H1.out.2.1, H2.out.2.1], by omega⟩, HB2.out.trans (hm3.mono HB0.out.size), fun ad had => ⟨Nat.le_trans HB0.out.size (own_adr hm1 ad had).1, (own_adr hm1 ad had).2, by subst had; exact own_blk2 hm1⟩⟩
theorem owns_chgP {Z : Nat → Prop} {w w' : World} {base : Nat} {e : TypeId} {size n : Nat} {v : Value} {xs : List Value} (h : w.ownsRow base e size v n xs) (hc : ChgP Z w w') (hr : ∀ k, v.ownBlock = some k → ¬ Z k) : w'.ownsRow base e size v n xs := by
  refine ⟨h.1, ?_⟩
  rcases h.2 with h2 | ⟨g, cap, cur, hv, hg, hh, r⟩
  · exact .inl h2
  · refine .inr ⟨g, cap, cur, hv, hg, ?_, r⟩
    rw [hc.block g (Blk.lt (cs := cur) hh) (hr g (by rw [hv]; rfl))]; exact hh
/-- what whole answers -/
def WholeS (g : Nat) (Z R : Nat → Prop) (w : World) (M : PM) (bs : List Nat) (e : Ending) (w' : World) : Prop :=
  ∃ A c, e = .returned (.slice A bs.length c) ∧ Own w' w.heap.size A bs.length c bs ∧ MZ Z R w' g M ∧ ChgP Z w w'
set_option maxRecDepth 100000 in
set_option maxHeartbeats 400000 in
theorem whole_any (g : Nat) {Z R : Nat → Prop} {M : PM} (A1 A2 : Option Addr) (n1 n2 c1 c2 : Nat) (w : World) (h1 : IsS w w.heap.size A1 n1 M.rams) (h2 : IsS w w.heap.size A2 n2 M.devs) (hk : Okay M.rams M.devs) (hs : sumS (M.rams ++ M.devs) ≤ 500000) (hm : MZ Z R w g M) :
    Calls Try.prog 19 #[.pointer (some ⟨g, 0, none⟩), .agg #[.slice A1 n1 c1, .slice A2 n2 c2]] w (WholeS g Z R w M (allR M.mem (M.rams ++ M.devs))) := by
  have H1 := Lib.hid h1; have H2 := Lib.hid h2; have HOK := Lib.hid hk; have HM := Lib.hid hm; have HSUM := Lib.hid hs
  have HZL : Hid (∀ k, Z k → k < w.heap.size) := Lib.hid hm.z
  have hn1 : n1 ≤ 8 := by have := hk.r8; have := h1.2.1; omega
  have hn2 : n2 ≤ 32 := by have := hk.d32; have := h2.2.1; omega
  obtain ⟨i0, hi, hz1, hz2, hz3⟩ := info_parts infoU8
  have HI0 := Lib.hid hi; have HZ1 := Lib.hid hz1; have HZ2 := Lib.hid hz2; have HZ3 := Lib.hid hz3
  clear h1 h2 hk hm hs hi hz1 hz2 hz3
  go_enter Try.func19, Try.ntmps19
  go_upto_region 1 with fail
  have r0 := Row.new w 37 [.slice A1 n1 c1, .slice A2 n2 c2]
  have hb0 : Below w.heap.size w (w.alloc (.cells #[.slice A1 n1 c1, .slice A2 n2 c2] 37)) := (Below.refl _ _).alloc (Nat.le_refl _) _
  obtain ⟨c, hc⟩ : ∃ c, c = w.heap.size := ⟨_, rfl⟩
  generalize w.alloc (.cells #[.slice A1 n1 c1, .slice A2 n2 c2] 37) = w1 at *
  rw [← hc] at r0 ⊢
  have HB := Lib.hid hb0
  have HAL := Lib.hid (refall_new A1 A2 n1 n2 c1 c2 M.rams M.devs w1 ((H1.out.below hb0).more hb0.size) ((H2.out.below hb0).more hb0.size) (by omega) (by omega))
  have p0 := r0.cell 0
  have p1 := r0.cell 1
  have lp := r0.lt
  simp only [List.getElem?_cons_zero, List.getElem?_cons_succ] at p0 p1
  clear r0 hb0 hc
  go_wp2_with fail
  refine HAL.out.mono ?_
  rintro e w3 ⟨AL, cl, rfl, h3, h4, h5⟩
  have HLN : Hid (∀ ad, AL = some ad → w.heap.size ≤ ad.block ∧ ad.block < w3.heap.size ∧ ∃ cur, Blk w3 ad.block 58 cur) := Lib.hid (fun ad had => ⟨Nat.le_trans HB.out.size (h5 ad had).1, (h5 ad had).2⟩)
  clear h5
  obtain ⟨N, hN⟩ : ∃ N, N = n1 + n2 := ⟨_, rfl⟩
  rw [← hN] at h3 ⊢
  have hN40 : N ≤ 40 := by omega
  obtain ⟨l, hl⟩ : ∃ l, l = M.rams ++ M.devs := ⟨_, rfl⟩
  rw [← hl] at h3 HSUM ⊢
  have HLE := Lib.hid hl
  have HL := Lib.hid h3
  have HB3 := Lib.hid (HB.out.trans (h4.mono HB.out.size))
  clear h3 h4 hN HAL p0 p1 lp HB hl
  go_wp2_with fail
  go_loopw [5, 7] (fun a x wr => ∃ (i m ca : Nat) (Aa : Option Addr), i ≤ N ∧ x = .int .i64 (i : Nat) ∧ a = .slice Aa m ca ∧ Hid (m = sumS (l.take i)) ∧ Hid (Own wr w.heap.size Aa m ca (allR M.mem (l.take i))) ∧ Hid (MZ Z R wr g M ∧ ChgP Z w wr) ∧ Hid (∀ ad, AL = some ad → wr.heap[ad.block]? = w3.heap[ad.block]?)) (fun _ x _ => N - (intOf x).toNat)
  case atStart => exact ⟨0, 0, 0, none, by omega, rfl, rfl, Lib.hid (by simp [sumS]), Lib.hid ⟨World.ownsRow_nil _ _ _ _, by simp [allR], by omega⟩, Lib.hid ⟨HM.out.below HB3.out, ChgP.of_below HB3.out⟩, Lib.hid (fun _ _ => rfl)⟩
  case round =>
  obtain ⟨i, m, ca, Aa, hi, rfl, rfl, HMS, HO, HMC, HLQ⟩ := hrel
  by_cases hin : i < N
  · have HLR : Hid (IsS wr w3.heap.size AL N l) := Lib.hid (IsS.same HL.out (fun ad had _ => HLQ.out ad had))
    obtain ⟨bl, ol, hf⟩ := HLR.out.form
    obtain ⟨rfl, hbB, _⟩ := hf.out (by omega)
    obtain ⟨⟨b, t⟩, hx⟩ : ∃ x, l[i]? = some x := ⟨_, List.getElem?_eq_getElem (by rw [HL.out.2.1]; exact hin)⟩
    obtain ⟨x0, x1⟩ := IsS.at_ HLR.out i _ hx
    have hg := HOK.out.good (b, t) (by rw [← HLE.out]; exact List.mem_of_getElem? hx)
    simp only at x0 x1 hg
    unfold M32 at hg
    have ht32 : t ≤ 4294967296 := by omega
    have lbl : bl < wr.heap.size := World.block_lt_of_cell? wr ⟨bl, ol + i * 2, none⟩ x0
    have ew1 : wrap64 (t : Int) = (t : Int) := by unfold wrap64; omega
    have ew2 : IntKind.i64.wrap (t : Int) = (t : Int) := by rw [IntKind.wrap_i64]; omega
    have HG := Lib.hid hg
    have hOF : OffIs (M.rams ++ M.devs) b t none := fun p h1 h2 => on_in (r := (b, t)) (by rw [← HLE.out]; exact List.mem_of_getElem? hx) h1 h2
    have HRD : Hid (∀ wx, Below wr.heap.size wr wx → Calls Try.prog 35 #[.pointer (some ⟨g, 0, none⟩), .int .u64 (b : Nat), .int .i64 (t : Nat)] wx fun e w' => ∃ bb, e = .returned (.tuple #[.slice (some ⟨bb, 0, none⟩) t t, .agg #[.int .i64 0, .int .u64 0]]) ∧ MZ Z R w' g M ∧ ChgP Z wx w' ∧ wr.heap.size ≤ bb ∧ Row w' bb 5 ((memB M.mem b t).map Go.Proofs.Ytfpofaniicegaaa.u8) ∧ ∀ y ∈ memB M.mem b t, y < 256) := Lib.hid (fun wx hb => (read_m (Z := Z) (R := R) (M := M) (at_ := b) (n := t) (w := wx) (HMC.out.1.below hb) (by omega) (by unfold TOP; omega) trivial hOF).mono fun e w' hh => by
      obtain ⟨hq, bb, he, h1, h2, h3⟩ := hh
      exact ⟨bb, he, hq.1, hq.2, Nat.le_trans hb.size h1, h2, h3⟩)
    have HBA : Hid (Below wr.heap.size wr (wr.alloc (.cells #[.int .i64 0, .int .u64 0] 48))) := Lib.hid ((Below.refl _ _).alloc (Nat.le_refl _) _)
    have HRFA : Hid (Row (wr.alloc (.cells #[.int .i64 0, .int .u64 0] 48)) wr.heap.size 48 [.int .i64 0, .int .u64 0]) := Lib.hid (Row.new wr _ [.int .i64 0, .int .u64 0])
    have HNZ : Hid (¬ Z wr.heap.size) := Lib.hid (fun h => Nat.lt_irrefl _ (HMC.out.1.z _ h))
    have HX := Lib.hid hx
    have HBL := Lib.hid hbB
    clear hf hx hg hOF hbB
    go_upto_region 6 with fail
    go_cut [8] (fun v wx => Hid (∃ bb, v = .slice (some ⟨bb, 0, none⟩) t t ∧ MZ Z R wx g M ∧ ChgP Z wr wx ∧ wr.heap.size ≤ bb ∧ Row wx bb 5 ((memB M.mem b t).map Go.Proofs.Ytfpofaniicegaaa.u8) ∧ ∀ y ∈ memB M.mem b t, y < 256))
    case first =>
      go_region_law (first
        | (go_simp; go_at_call 35; refine (HRD.out wr.drew (Below.refl _ _).drew).mono ?_; rintro e w5 ⟨bb, rfl, hm5, hc5, hbb, hrb, hb256⟩; have HM5 := Lib.hid hm5; have HC5 : Hid (ChgP Z wr w5) := Lib.hid ((ChgP.refl Z wr).drew.trans hc5 (fun x hx => .inl hx)); have HBB := Lib.hid hbb; have HRB := Lib.hid hrb; have H256 := Lib.hid hb256; clear hm5 hc5 hbb hrb hb256)
        | (go_simp; go_at_call 35; refine (HRD.out (wr.alloc (.cells #[.int .i64 0, .int .u64 0] 48)).drew HBA.out.drew).mono ?_; rintro e w5 ⟨bb, rfl, hm5, hc5, hbb, hrb, hb256⟩; have r5 := hc5.row HRFA.out.drew HNZ.out; have z0 := r5.cell 0; have z1 := r5.cell 1; have zf0 := r5.frozen 0; have zf1 := r5.frozen 1; have zl := r5.lt; simp only [List.getElem?_cons_zero, List.getElem?_cons_succ] at z0 z1; have HR5 := Lib.hid r5; have HM5 := Lib.hid hm5; have HC5 : Hid (ChgP Z wr w5) := Lib.hid ((ChgP.of_below (Z := Z) HBA.out.drew).trans hc5 (fun x hx => .inl hx)); have HBB := Lib.hid hbb; have HRB := Lib.hid hrb; have H256 := Lib.hid hb256; clear hm5 hc5 hbb hrb hb256 r5))
      all_goals
        go_wp2_with fail
        go_meet
        case rel =>
          first
            | exact Lib.hid ⟨bb, rfl, HM5.out.below ((Below.refl _ _).alloc (Nat.le_refl _) _), HC5.out.trans (ChgP.of_below (Z := Z) ((Below.refl _ _).alloc (Nat.le_refl _) _)) (fun x hx => .inl hx), HBB.out, HRB.out.alloc _, H256.out⟩
            | exact Lib.hid ⟨bb, rfl, HM5.out.chg (Y := fun k => k = wr.heap.size) (((ChgP.refl (fun k => k = wr.heap.size) w5).set_ (p := ⟨wr.heap.size, 0, none⟩) (.inl rfl) _).set_ (p := ⟨wr.heap.size, 1, none⟩) (.inl rfl) _) (fun k hk hy => by rw [show k = wr.heap.size from hy] at hk; rcases hk with hk | hk; exact HNZ.out hk; exact Nat.lt_irrefl _ (HMC.out.1.r _ hk)), (HC5.out.set_ (p := ⟨wr.heap.size, 0, none⟩) (.inr (Nat.le_refl _)) _).set_ (p := ⟨wr.heap.size, 1, none⟩) (.inr (Nat.le_refl _)) _, HBB.out, (HRB.out.far (p := ⟨wr.heap.size, 0, none⟩) (Row.ne_t HRB.out HR5.out (by decide)) _).far (p := ⟨wr.heap.size, 1, none⟩) (Row.ne_t HRB.out HR5.out (by decide)) _, H256.out⟩
            | trace_state
    case rest =>
    obtain ⟨bb, rfl, hm5, hc5, hbb, hrb, hb256⟩ := hcut.out
    have HM5 := Lib.hid hm5; have HC5 := Lib.hid hc5
    obtain ⟨hln1, hln2, hln3⟩ := HLN.out _ rfl
    have HLB := Lib.hid hln3
    have HLN1 : Hid (w.heap.size ≤ bl ∧ bl < w3.heap.size) := Lib.hid ⟨hln1, hln2⟩
    have HLC : Hid (wc.heap[bl]? = w3.heap[bl]?) := Lib.hid ((HC5.out.block bl lbl (fun h => by have := HZL.out _ h; have := HLN1.out.1; omega)).trans (HLQ.out _ rfl))
    clear hln1 hln2 hln3
    have HOC := Lib.hid (owns_chgP HO.out.1 HC5.out (fun k hk h => by have := (HO.out.1.lt k hk).1; have := HZL.out _ h; omega))
    have HRD5 : Hid (Reads wc wc.heap.size 1 (some ⟨bb, 0, none⟩) t ((memB M.mem b t).map Go.Proofs.Ytfpofaniicegaaa.u8)) := Lib.hid (by
      have := hrb.reads 0 t (by rw [List.length_map, memB_len]; omega) hrb.lt
      rwa [List.drop_zero, List.take_of_length_le (by rw [List.length_map, memB_len]; exact Nat.le_refl _)] at this)
    have H5 := Lib.hid hb256
    have HMB : Hid (m ≤ 4294967296 * i) := Lib.hid (by rw [HMS.out]; exact sumS_le (fun r hr => HOK.out.good r (by rw [← HLE.out]; exact hr)) i (by rw [HL.out.2.1]; omega))
    have HWB : Hid (w.heap.size ≤ wc.heap.size) := Lib.hid (Nat.le_trans HMC.out.2.size HC5.out.size)
    clear hm5 hc5 hbb hrb hb256 hcut x0 x1 HRD HBA HRFA HNZ
    go_wp2_with (at_builtin; refine wpList_append_sl _ rfl (.tmp 34) (.tmp 35) _ rfl w.heap.size 5 i0 _ 1 1 Try.underlying52 HI0.out HZ1.out HZ2.out HZ3.out rfl (by omega) (.slice Aa m ca) m ((allR M.mem (l.take i)).map Go.Proofs.Ytfpofaniicegaaa.u8) rfl HOC.out wc.heap.size (some ⟨bb, 0, none⟩) t t ((memB M.mem b t).map Go.Proofs.Ytfpofaniicegaaa.u8) rfl HRD5.out (fun v hv => by obtain ⟨x, _, rfl⟩ := List.mem_map.1 hv; rfl) (by have := HMB.out; unfold maxLen; omega) (by have := HMB.out; omega) HWB.out ?_; intro Ab2 cb2 wn hown2 hrd2 hg2 hat2; have HO2 := Lib.hid hown2; have HG2 := Lib.hid hg2; clear hown2 hrd2 hg2 hat2)
    go_roundw
    case rel =>
      have hbn : Below w.heap.size wc wn := (Below.refl _ _).grown HG2.out HWB.out (fun k hk => (HOC.out.lt k hk).1)
      have hcn : ChgP (fun k => w.heap.size ≤ k) wc wn := ⟨hbn.os, hbn.tape, hbn.output, hbn.size, fun k hk hn => hbn.block k (by omega)⟩
      refine ⟨i + 1, m + t, cb2, Ab2, by omega, by go_num, rfl, Lib.hid (by rw [sumS_take _ _ _ HX.out, HMS.out]), Lib.hid ⟨?_, ?_, by have := HMB.out; omega⟩, Lib.hid ⟨HM5.out.chg hcn (fun k hk hy => ?_), (HMC.out.2.trans HC5.out (fun x hx => .inl hx)).trans hcn (fun x hx => .inr hx)⟩, Lib.hid (fun ad had => ?_)⟩
      · rw [allR_snoc _ _ _ _ HX.out, List.map_append]; exact HO2.out
      · intro y hy
        rw [allR_snoc _ _ _ _ HX.out] at hy
        rcases List.mem_append.1 hy with h | h
        · exact HO.out.2.1 y h
        · exact H5.out y h
      · rcases hk with hk | hk
        · have := HZL.out k hk; omega
        · have := HM.out.r k hk; omega
      · injection had with had
        subst had
        refine Eq.trans (HG2.out.block bl (Nat.lt_of_lt_of_le lbl HC5.out.size) (fun e => ?_)) HLC.out
        obtain ⟨cur, hcur⟩ := own_blkr HOC.out bl e.symm
        obtain ⟨cs2, hb2⟩ := HLB.out
        exact Blk.ne_ (t := 5) hcur (show Blk wc bl 58 cs2 from HLC.out.trans hb2) (by decide) rfl
    case measure => simp [intOf]; omega
  · have ei : i = N := by omega
    subst ei
    have he : l.take i = l := List.take_of_length_le (by rw [HL.out.2.1]; exact Nat.le_refl _)
    have hml : m = (allR M.mem l).length := by rw [HMS.out, he, allR_len]
    go_wp2_with fail
    go_ret
    have ho := HO.out
    rw [he] at ho
    rw [HLE.out] at ho hml
    exact ⟨Aa, ca, by rw [← hml]; rfl, by rw [← hml]; exact ho, HMC.out.1, HMC.out.2⟩
end Bu
end Go.Proofs.Ytfpofaniicegaaa

/- The walk of the law WalkBytes. -/
set_option linter.unusedVariables false
set_option linter.unusedSimpArgs false
namespace Go.Proofs.Ytfpofaniicegaaa
open Go.RowKit
open S64
namespace Bu
theorem own_rowW {w : World} {base n c : Nat} {A : Option Addr} {bs : List Nat} (h : Own w base A n c bs) (hn : 0 < n) :
    ∃ g T, A = some ⟨g, 0, none⟩ ∧ base ≤ g ∧ n ≤ c ∧ Row w g 5 (bs.map u8 ++ T) := by
  obtain ⟨⟨h1, h2⟩, h3, h4⟩ := h
  rcases h2 with ⟨_, h⟩ | ⟨g, cap, cur, hv, hg, hh, hnc, hcm, hsz, htk⟩
  · omega
  · injection hv with hA _ hc
    subst hA hc
    rw [Nat.mul_one] at htk hsz h1
    have hcur : cur = (bs.map u8 ++ cur.toList.drop n).toArray := by
      rw [← htk, List.take_append_drop]
    refine ⟨g, cur.toList.drop n, rfl, hg, hnc, ?_⟩
    show w.heap[g]? = _
    rw [hh, ← hcur]
theorem Own.setW {w : World} {base n c : Nat} {A : Option Addr} {bs : List Nat} (h : Own w base A n c bs) {i v : Nat} (hi : i < n) (hv : v < 256) :
    ∃ g, A = some ⟨g, 0, none⟩ ∧ base ≤ g ∧ n ≤ c ∧ (∃ cs, Row w g 5 cs) ∧ (∃ y, w.cell? ⟨g, i, none⟩ = some y) ∧ w.frozen? ⟨g, i, none⟩ = false ∧ Own (w.setCell ⟨g, i, none⟩ (u8 v)) base A n c (bs.set i v) := by
  have hl := h.len
  obtain ⟨⟨h1, h2⟩, h3, h4⟩ := h
  rcases h2 with ⟨_, h⟩ | ⟨g, cap, cur, hv', hg, hh, hnc, hcm, hsz, htk⟩
  · omega
  · injection hv' with hA _ hc
    subst hA hc
    rw [Nat.mul_one] at htk hsz h1
    have hrow : Row w g 5 cur.toList := by show w.heap[g]? = _; rw [hh]
    have h5 : cur.toList.length = c := by simpa using hsz
    refine ⟨g, rfl, hg, hnc, ⟨_, hrow⟩, ⟨cur.toList[i]'(by omega), by rw [hrow.cell, List.getElem?_eq_getElem (by omega)]⟩, hrow.frozen i, ⟨⟨by simp [hl], .inr ⟨g, c, (cur.toList.set i (u8 v)).toArray, rfl, hg, hrow.set_ i _, hnc, hcm, ?_, ?_⟩⟩, fun b hb => ?_, h4⟩⟩
    · simp [h5]
    · show (cur.toList.set i (u8 v)).take (n * 1) = (bs.set i v).map u8
      rw [Nat.mul_one, List.take_set, htk, List.map_set]
    · rcases List.mem_or_eq_of_mem_set hb with hb | rfl
      · exact h3 b hb
      · exact hv
/-- the machine between the calls: Bg: what lay ahead of it; W0: the world there -/
structure KM (Bg : Nat) (W0 : World) (g : Nat) (R : Nat → Prop) (M : PM) (c17 c19 : Nat) (wr : World) : Prop where
  m : ∃ Z, MZ Z R wr g M ∧ (∀ k, Z k → Bg ≤ k) ∧ ¬ Z c17 ∧ ¬ Z c19
  b : Below Bg W0 wr
theorem accZ_k {M : PM} {root virt k : Nat} {access : Int} (hk : k = 1 ∨ k = 2 ∨ k = 4 ∨ k = 8) : accZ M root virt access (k : Nat) = (atL M root virt access k, accF M root virt access k) := by
  unfold accZ
  rw [if_pos (wideB_of hk)]; rfl
theorem accF_sM {M : PM} {s : Int} {root virt k : Nat} {access : Int} : accF (sM M s) root virt access k = accF M root virt access k := by
  unfold accF
  simp only [sM_tr]
  rfl
theorem atL_sM {M : PM} {s : Int} {root virt k : Nat} {access : Int} : atL (sM M s) root virt access k = atL M root virt access k := by
  unfold atL
  simp only [sM_tr]
/-- M with other counts -/
def cM (M : PM) (s ld : Int) : PM := { M with strays := s, loads := ld }
theorem trI_cM (M : PM) (s ld : Int) (root virt : Nat) (access : Int) : trI (cM M s ld) root virt access = trI M root virt access := by
  have h : ∀ k lv tab, trw (cM M s ld) virt access k lv tab = trw M virt access k lv tab := by
    intro k
    induction k with
    | zero => intro lv tab; rfl
    | succ k ih =>
      intro lv tab
      unfold trw
      rw [ih]
      rfl
  unfold trI
  rw [h]
theorem accF_cM {M : PM} {s ld : Int} {root virt k : Nat} {access : Int} : accF (cM M s ld) root virt access k = accF M root virt access k := by
  unfold accF
  simp only [trI_cM]
  rfl
theorem atL_cM {M : PM} {s ld : Int} {root virt k : Nat} {access : Int} : atL (cM M s ld) root virt access k = atL M root virt access k := by
  unfold atL
  simp only [trI_cM]
/-- a value and a fault, as a call of several bytes tells them -/
def accV (M : PM) (root virt : Nat) (access : Int) (k : Nat) : Nat := if (accF M root virt access k).1 = 0 then Wd.unle ((atL M root virt access k).map M.mem) else 0
def accA (M : PM) (root virt : Nat) (access : Int) (k : Nat) : Nat := if (accF M root virt access k).1 = 0 then 0 else (accF M root virt access k).2
theorem split_k (g : Nat) {Z R : Nat → Prop} {w : World} {M : PM} {s ld : Int} (root virt k : Nat) (access : Int) (hk : k = 1 ∨ k = 2 ∨ k = 4 ∨ k = 8) (hm : MZ Z R w g (cM M s ld)) (hr : root ≤ TOP) (hv : virt ≤ TOP) :
    Calls Try.prog 16 #[.pointer (some ⟨g, 0, none⟩), .int .u64 (root : Nat), .int .u64 (virt : Nat), .int .i64 (k : Nat), .int .i64 access] w fun e w' => e = .returned (.tuple #[.int .u64 (accV M root virt access k : Nat), .agg #[.int .i64 ((accF M root virt access k).1 : Nat), .int .u64 (accA M root virt access k : Nat)]]) ∧ ∃ s ld, MZ Z R w' g (cM M s ld) ∧ ChgP Z w w' := by
  refine (split_any g root virt k access hk hm hr hv).mono fun e w' hh => ?_
  obtain ⟨he, s', h1, h2⟩ := hh
  rw [accF_cM, atL_cM] at he
  refine ⟨?_, s', ld, h1, h2⟩
  rw [he, flt_agg]; rfl
theorem load_k (g : Nat) {Z R : Nat → Prop} {w : World} {M : PM} {s ld : Int} (root virt k : Nat) (hk : k = 1 ∨ k = 2 ∨ k = 4 ∨ k = 8) (hm : MZ Z R w g (cM M s ld)) (hr : root ≤ TOP) (hv : virt ≤ TOP) :
    Calls Try.prog 17 #[.iface 41 (.pointer (some ⟨g, 0, none⟩)), .int .u64 (root : Nat), .int .u64 (virt : Nat), .int .i64 (k : Nat)] w fun e w' => e = .returned (.tuple #[.int .u64 (accV M root virt 1 k : Nat), .agg #[.int .i64 ((accF M root virt 1 k).1 : Nat), .int .u64 (accA M root virt 1 k : Nat)]]) ∧ ∃ s ld, MZ Z R w' g (cM M s ld) ∧ ChgP Z w w' := by
  refine (wload_mach g (translateT_any (smach_i g) (ent_mach g)) root virt k hm trivial trivial hr hv).mono fun e w' hh => ?_
  obtain ⟨he, s', _, _, h1, h2⟩ := hh
  rw [accZ_k hk, accF_cM, atL_cM] at he
  refine ⟨?_, s', _, h1, h2⟩
  rw [he, flt_agg]; rfl
theorem fetch_k (g : Nat) {Z R : Nat → Prop} {w : World} {M : PM} {s ld : Int} (root virt k : Nat) (hk : k = 1 ∨ k = 2 ∨ k = 4 ∨ k = 8) (hm : MZ Z R w g (cM M s ld)) (hr : root ≤ TOP) (hv : virt ≤ TOP) :
    Calls Try.prog 18 #[.iface 41 (.pointer (some ⟨g, 0, none⟩)), .int .u64 (root : Nat), .int .u64 (virt : Nat), .int .i64 (k : Nat)] w fun e w' => e = .returned (.tuple #[.int .u64 (accV M root virt 3 k : Nat), .agg #[.int .i64 ((accF M root virt 3 k).1 : Nat), .int .u64 (accA M root virt 3 k : Nat)]]) ∧ ∃ s ld, MZ Z R w' g (cM M s ld) ∧ ChgP Z w w' := by
  refine (wfetch_mach g (translateT_any (smach_i g) (ent_mach g)) root virt k hm trivial trivial hr hv).mono fun e w' hh => ?_
  obtain ⟨he, s', _, _, h1, h2⟩ := hh
  rw [accZ_k hk, accF_cM, atL_cM] at he
  refine ⟨?_, s', _, h1, h2⟩
  rw [he, flt_agg]; rfl
theorem wtr_k (g : Nat) {Z R : Nat → Prop} {w : World} {M : PM} {s ld : Int} (root virt : Nat) (access : Int) (hm : MZ Z R w g (cM M s ld)) (hr : root ≤ TOP) (hv : virt ≤ TOP) :
    Calls Try.prog 20 #[.iface 41 (.pointer (some ⟨g, 0, none⟩)), .int .u64 (root : Nat), .int .u64 (virt : Nat), .int .i64 access] w fun e w' => e = .returned (.tuple #[.int .u64 ((trI M root virt access).1 : Nat), .agg #[.int .i64 ((trI M root virt access).2 : Nat), .int .u64 ((if (trI M root virt access).2 = 0 then 0 else virt : Nat) : Nat)]]) ∧ ∃ s ld, MZ Z R w' g (cM M s ld) ∧ ChgP Z w w' := by
  refine (translateT_any (smach_i g) (ent_mach g) Z R w (cM M s ld) root virt access hm trivial hr hv).mono fun e w' hh => ?_
  obtain ⟨he, s', _, _, h1, h2⟩ := hh
  rw [trI_cM] at he
  refine ⟨?_, s', ld, h1, h2⟩
  rw [he, flt_agg]
/-- what is stored, of M's bytes -/
def memN (mem : Nat → Nat) (p : Nat → Nat) (v : Nat) : Nat → Nat → Nat
  | 0 => mem
  | i + 1 => fun q => if q = p i then byteOf v i % 256 else memN mem p v i q
theorem stN_mem (M : PM) (p : Nat → Nat) (v i : Nat) : (stN M p v i).mem = memN M.mem p v i := by
  induction i with
  | zero => rfl
  | succ i ih =>
    show (fun q => if q = p i then byteOf v i % 256 else (stN M p v i).mem q) = _
    rw [ih]; rfl
theorem wstore_k (g : Nat) {Z R : Nat → Prop} {w : World} {M : PM} {s ld : Int} (root virt v k : Nat) (hk : k = 1 ∨ k = 2 ∨ k = 4 ∨ k = 8) (hm : MZ Z R w g (cM M s ld)) (hr : root ≤ TOP) (hv : virt ≤ TOP) (hvv : v ≤ TOP) :
    Calls Try.prog 21 #[.iface 41 (.pointer (some ⟨g, 0, none⟩)), .int .u64 (root : Nat), .int .u64 (virt : Nat), .int .i64 (k : Nat), .int .u64 (v : Nat)] w fun e w' => e = .returned (.agg #[.int .i64 ((accF M root virt 2 k).1 : Nat), .int .u64 (accA M root virt 2 k : Nat)]) ∧ ∃ M' Z', MZ Z' R w' g M' ∧ M'.rams = M.rams ∧ M'.devs = M.devs ∧ M'.mem = memN M.mem (fun j => (atL M root virt 2 k).getD j 0) v (if (accF M root virt 2 k).1 = 0 then k else 0) ∧ ChgP Z w w' ∧ ∀ x, Z' x → Z x ∨ w.heap.size ≤ x := by
  refine (wstore_mach g root virt v k (accZ (cM M s ld) root virt 2 k).1 (accZ (cM M s ld) root virt 2 k).2 (fun wx hx => reach_z g (translateT_any (smach_i g) (ent_mach g)) root virt k 2 hx trivial hr hv) (st1_mach g) hm hvv trivial trivial accZ_len accZ_on).mono fun e w' hh => ?_
  obtain ⟨he, s', Z', _, _, h1, h2, h3⟩ := hh
  rw [accZ_k hk, accF_cM] at he h1
  rw [atL_cM] at h1
  refine ⟨?_, _, Z', h1, ?_, ?_, ?_, h2, h3⟩
  · rw [he, flt_agg]; rfl
  · exact (stN_meta _ _ _ _).1
  · exact (stN_meta _ _ _ _).2.1
  · rw [stN_mem]
    show memN M.mem _ v (if (accF M root virt 2 k).1 = 0 then (atL M root virt 2 k).length else 0) = _
    rw [atL_len]
/-- one byte turned in what lies in ranges: j ranges done -/
theorem allR_split (mem : Nat → Nat) (l : Sp.S) (j : Nat) : allR mem l = allR mem (l.take j) ++ allR mem (l.drop j) := by
  unfold allR
  rw [← List.flatten_append, ← List.map_append, List.take_append_drop]
/-- the wanted bytes while one byte is turned -/
def wantJ (mem mem' : Nat → Nat) (l : Sp.S) (j : Nat) : List Nat := allR mem' (l.take j) ++ allR mem (l.drop j)
theorem wantJ_len (mem mem' : Nat → Nat) (l : Sp.S) (j : Nat) : (wantJ mem mem' l j).length = sumS l := by
  unfold wantJ
  rw [List.length_append, allR_len, allR_len]
  have h := allR_len mem l
  rw [allR_split mem l j, List.length_append, allR_len, allR_len] at h
  exact h
theorem memB_far {mem mem' : Nat → Nat} {a n p v : Nat} (hm : ∀ q, mem' q = if q = p then v else mem q) (h : ¬ (a ≤ p ∧ p < a + n)) : memB mem' a n = memB mem a n := by
  unfold memB
  exact List.map_congr_left fun i hi => by rw [hm, if_neg (by have := List.mem_range.1 hi; omega)]
theorem memB_set {mem mem' : Nat → Nat} {a n p v : Nat} (hm : ∀ q, mem' q = if q = p then v else mem q) (h1 : a ≤ p) (h2 : p < a + n) : memB mem' a n = (memB mem a n).set (p - a) v := by
  apply List.ext_getElem?
  intro i
  rw [List.getElem?_set, memB_len]
  by_cases hi : i < n
  · rw [memB_get _ _ _ _ hi, memB_get _ _ _ _ hi, hm]
    by_cases e : p - a = i
    · rw [if_pos e, if_pos (by omega), if_pos (by omega)]
    · rw [if_neg e, if_neg (by omega)]
  · rw [List.getElem?_eq_none (by rw [memB_len]; omega), List.getElem?_eq_none (by rw [memB_len]; omega), if_neg (by omega)]
theorem wantJ_out {mem mem' : Nat → Nat} {l : Sp.S} {j p v : Nat} {x : Nat × Nat} (hx : l[j]? = some x) (hm : ∀ q, mem' q = if q = p then v else mem q) (h : ¬ (x.1 ≤ p ∧ p < x.1 + x.2)) : wantJ mem mem' l (j + 1) = wantJ mem mem' l j := by
  have hj := (List.getElem?_eq_some_iff.1 hx).1
  have e : l.drop j = x :: l.drop (j + 1) := by
    rw [List.drop_eq_getElem_cons hj]
    congr 1
    rw [List.getElem?_eq_getElem hj] at hx
    injection hx
  unfold wantJ
  rw [allR_snoc mem' l j x hx, e, memB_far hm h, List.append_assoc]
  rfl
theorem wantJ_in {mem mem' : Nat → Nat} {l : Sp.S} {j p v : Nat} {x : Nat × Nat} (hx : l[j]? = some x) (hm : ∀ q, mem' q = if q = p then v else mem q) (h1 : x.1 ≤ p) (h2 : p < x.1 + x.2) : wantJ mem mem' l (j + 1) = (wantJ mem mem' l j).set (sumS (l.take j) + (p - x.1)) v := by
  have hj := (List.getElem?_eq_some_iff.1 hx).1
  have e : l.drop j = x :: l.drop (j + 1) := by
    rw [List.drop_eq_getElem_cons hj]
    congr 1
    rw [List.getElem?_eq_getElem hj] at hx
    injection hx
  unfold wantJ
  rw [allR_snoc mem' l j x hx, e, memB_set hm h1 h2, List.append_assoc, List.set_append_right _ _ (by rw [allR_len]; omega), allR_len, show sumS (l.take j) + (p - x.1) - sumS (l.take j) = p - x.1 by omega]
  congr 1
  show _ = (memB mem x.1 x.2 ++ allR mem (l.drop (j + 1))).set (p - x.1) v
  rw [List.set_append_left _ _ (by rw [memB_len]; omega)]
theorem wantJ_zero (mem mem' : Nat → Nat) (l : Sp.S) : wantJ mem mem' l 0 = allR mem l := by simp [wantJ, allR]
theorem wantJ_end (mem mem' : Nat → Nat) (l : Sp.S) : wantJ mem mem' l l.length = allR mem' l := by simp [wantJ, allR]
theorem sumS_at {l : Sp.S} {j : Nat} {x : Nat × Nat} (hx : l[j]? = some x) : sumS (l.take j) + x.2 ≤ sumS l := by
  rw [← sumS_take l j x hx]
  have h := allR_len (fun _ => 0) l
  rw [allR_split _ l (j + 1), List.length_append, allR_len, allR_len] at h
  omega
theorem wordsM_bus (M : PM) (ws : Sp.S) : (wordsM M ws).rams = M.rams ∧ (wordsM M ws).devs = M.devs := by
  unfold wordsM
  induction ws generalizing M with
  | nil => exact ⟨rfl, rfl⟩
  | cons x ws ih =>
    rw [List.foldl_cons]
    have h : (laidM M x.1 8 (byteOf x.2) 1 (offF M x.1 8)).rams = M.rams ∧ (laidM M x.1 8 (byteOf x.2) 1 (offF M x.1 8)).devs = M.devs := by
      unfold laidM
      cases offF M x.1 8 <;> exact ⟨rfl, rfl⟩
    exact ⟨(ih _).1.trans h.1, (ih _).2.trans h.2⟩
theorem MZ.zg {Z R : Nat → Prop} {w : World} {g : Nat} {M : PM} (h : MZ Z R w g M) : Z g := by
  obtain ⟨_, _, _, _, _, _, _, _, _, _, h⟩ := h.m
  exact h.zg
end Bu
end Go.Proofs.Ytfpofaniicegaaa
