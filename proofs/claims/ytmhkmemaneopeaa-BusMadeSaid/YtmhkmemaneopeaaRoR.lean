/- Roomy and Intact of lists of api.Range. -/
import Derived.Test.YtmhkmemaneopeaaEl
import Derived.Test.YtmhkmemaneopeaaBuH
set_option linter.unusedVariables false
set_option linter.unusedSimpArgs false
namespace Go.Proofs.Ytmhkmemaneopeaa
open Go.RowKit
namespace BR
theorem infoRoom : (Try.prog.info? 31).map (fun i => (i.zero, i.size, i.bytes)) = some (some (.agg ([.int .u64 0, .int .u64 0] : List Value).toArray), 2, 16) := by kernel_rfl
theorem sizeRoom : (Try.prog.info? 31).map (·.size) = some 2 := by kernel_rfl
/-- a list with so many of its spare places marked -/
def fillR (bs : List (List Value)) (V : List Value) (k : Nat) : List (List Value) := bs ++ List.replicate k V ++ List.replicate (80 - k) ([.int .u64 0, .int .u64 0] : List Value)
theorem fillR_len (bs : List (List Value)) (V : List Value) {k : Nat} (hk : k ≤ 80) : (fillR bs V k).length = bs.length + 80 := by
  unfold fillR
  rw [List.length_append, List.length_append, List.length_replicate, List.length_replicate]
  omega
theorem fillR_all {bs : List (List Value)} {V : List Value} (hb : ∀ b ∈ bs, b.length = 2) (hV : V.length = 2) (k : Nat) : ∀ b ∈ fillR bs V k, b.length = 2 := by
  intro b h
  unfold fillR at h
  rcases List.mem_append.1 h with h | h
  · rcases List.mem_append.1 h with h | h
    · exact hb b h
    · rw [List.eq_of_mem_replicate h]; exact hV
  · rw [List.eq_of_mem_replicate h]; rfl
theorem fillR_set (bs : List (List Value)) (V : List Value) {k : Nat} (hk : k < 80) : (fillR bs V k).set (bs.length + k) V = fillR bs V (k + 1) := by
  unfold fillR
  rw [List.set_append_right _ _ (by simp), List.length_append, List.length_replicate, show bs.length + k - (bs.length + k) = 0 by omega, show 80 - k = (80 - (k + 1)) + 1 by omega, List.replicate_succ, List.set_cons_zero, List.replicate_succ', ]
  simp
theorem fillR_start (bs : List (List Value)) (V : List Value) {n : Nat} (hb : ∀ b ∈ bs, b.length = 2) (hn : bs.length = n) : splice (List.replicate (n + 80) ([.int .u64 0, .int .u64 0] : List Value)).flatten 0 bs.flatten = (fillR bs V 0).flatten := by
  unfold splice fillR
  have hz : ∀ m, (List.replicate m ([.int .u64 0, .int .u64 0] : List Value)).flatten.length = 2 * m := by
    intro m
    have h := flat_len (s := 2) (List.replicate m ([.int .u64 0, .int .u64 0] : List Value)) (fun b h => by rw [List.eq_of_mem_replicate h]; rfl)
    rw [List.length_replicate] at h
    exact h
  have hl := flat_len (s := 2) bs hb
  rw [List.take_zero, List.nil_append, Nat.zero_add, List.replicate_zero, List.append_nil, List.flatten_append, hl, hn, Nat.sub_zero]
  congr 1
  rw [← List.replicate_append_replicate, List.flatten_append, List.drop_append, hz, Nat.sub_self, List.drop_zero, List.drop_of_length_le (by rw [hz]; exact Nat.le_refl _), List.nil_append]
theorem made_rep (n : Nat) : madeCells ([.int .u64 0, .int .u64 0] : List Value).toArray (n * 2) = ((List.replicate n ([.int .u64 0, .int .u64 0] : List Value)).flatten).toArray := madeCells_rep ([.int .u64 0, .int .u64 0] : List Value) 2 n rfl (by decide)
theorem made_row (n : Nat) (w : World) (h : n ≤ 4294967376) : (Instr.makeSlice 22 (.int .i64 (n : Int)) (.int .i64 (n : Int))).run Try.prog w = .ok (.slice (some ⟨w.heap.size, 0, none⟩) n n) (w.alloc (.cells ((List.replicate n ([.int .u64 0, .int .u64 0] : List Value)).flatten).toArray 31)) := by
  obtain ⟨i0, hi0, hz1, hz2, hz3⟩ := info_parts infoRoom
  have := run_make (P := Try.prog) w 22 31 i0 _ Try.underlying22 hi0 hz1 .i64 .i64 (n : Int) (n : Int) (by omega) (by omega) (by rw [hz3]; omega) (by omega)
  rw [Int.toNat_natCast, hz2] at this
  rw [this, ← made_rep]
  rfl
set_option maxRecDepth 100000 in
set_option maxHeartbeats 1000000 in
theorem roomR_any (A : Option Addr) (n c : Nat) (bs : List (List Value)) (V : List Value) (w : World) (hr : Reads w w.heap.size 2 A n bs.flatten) (hb : ∀ b ∈ bs, b.length = 2) (h1 : ∀ v ∈ bs.flatten, v.oneCell' = true) (hV : V.length = 2) (hV1 : ∀ v ∈ V, v.oneCell' = true) (hl : bs.length = n) (hn : n ≤ 4294967296) (hVX : ∃ x y : Nat, V = [.int .u64 (x : Nat), .int .u64 (y : Nat)]) :
    Calls Try.prog 53 #[.slice A n c, .agg V.toArray] w fun e w' => e = .returned (.slice (some ⟨w.heap.size + 1, 0, none⟩) (n + 80) (n + 80)) ∧ Row w' (w.heap.size + 1) 31 (fillR bs V 80).flatten ∧ Below w.heap.size w w' := by
  have HVX := Lib.hid hVX
  clear hVX
  have hmk := fun wx => made_row (n + 80) wx (by omega)
  rw [show ((n + 80 : Nat) : Int) = (n : Int) + 80 by omega] at hmk
  obtain ⟨Z, hZ⟩ : ∃ Z : List Value, Z = (List.replicate (n + 80) ([.int .u64 0, .int .u64 0] : List Value)).flatten := ⟨_, rfl⟩
  rw [← hZ] at hmk
  obtain ⟨X, hX⟩ : ∃ X, X = bs.flatten := ⟨_, rfl⟩
  have hXl : X.length = n * 2 := by rw [hX]; exact hr.1
  have hZl : Z.length = (n + 80) * 2 := by
    rw [hZ, flat_len (s := 2) _ (fun b h => by rw [List.eq_of_mem_replicate h]; rfl), List.length_replicate, Nat.mul_comm]
  have hst : splice Z 0 X = (fillR bs V 0).flatten := by rw [hZ, hX]; exact fillR_start bs V hb hl
  rw [← hX] at hr h1
  have hm1 : ∀ k, k < 80 → setL (fillR bs V k).flatten (2 * (n + k)) V = (fillR bs V (k + 1)).flatten := by
    intro k hk
    rw [setL_flat hV _ (fillR_all hb hV k) (n + k) (by rw [fillR_len bs V (by omega)]; omega), ← hl, fillR_set bs V hk]
  have hln : ∀ k, k ≤ 80 → (fillR bs V k).flatten.length = 2 * (n + 80) := by
    intro k hk
    rw [flat_len (s := 2) _ (fillR_all hb hV k), fillR_len bs V hk, hl]
  have HXl := Lib.hid hXl; have HZl := Lib.hid hZl; have HST := Lib.hid hst; have HM1 := Lib.hid hm1; have HLN := Lib.hid hln
  have HV := Lib.hid hV; have HV1 := Lib.hid hV1; have H1 := Lib.hid h1; have HR := Lib.hid hr; have HMK := Lib.hid hmk
  clear hXl hZl hst hm1 hln hV hV1 h1 hX hZ hl hb hr
  go_enter Try.func53, Try.ntmps53
  have hrv : Row (w.alloc (.cells V.toArray 31)) w.heap.size 31 V := Row.new w _ V
  have HRV := Lib.hid hrv
  clear hrv
  go_upto_region 2 with fail
  have hr2 := (HR.out.alloc (Nat.le_refl _) (.cells V.toArray 31)).alloc (by simp) (.cells Z.toArray 31)
  have HR2 := Lib.hid hr2
  have hb1 : Below w.heap.size w ((w.alloc (.cells V.toArray 31)).alloc (.cells Z.toArray 31)) := ((Below.refl _ _).alloc (Nat.le_refl _) _).alloc (by simp) _
  have hz1 : Row ((w.alloc (.cells V.toArray 31)).alloc (.cells Z.toArray 31)) (w.heap.size + 1) 31 Z := by
    have h := Row.new (w.alloc (.cells V.toArray 31)) 31 Z
    rw [show (w.alloc (.cells V.toArray 31)).heap.size = w.heap.size + 1 by simp] at h
    exact h
  have hv1 := HRV.out.alloc (.cells Z.toArray 31)
  have HZ1 := Lib.hid hz1
  have hb0 : Below (w.heap.size + 1) ((w.alloc (.cells V.toArray 31)).alloc (.cells Z.toArray 31)) ((w.alloc (.cells V.toArray 31)).alloc (.cells Z.toArray 31)) := Below.refl _ _
  have HB0 := Lib.hid hb0
  clear hr2 hz1 hmk HR HRV hb0
  generalize (w.alloc (.cells V.toArray 31)).alloc (.cells Z.toArray 31) = w1 at *
  have HVR := Lib.hid hv1
  have HB1 := Lib.hid hb1
  clear hv1 hb1
  go_wp2_with (with_reducible refine wpList_copy_sz rfl (.tmp 11) (.tmp 12) 22 22 rfl 31 2 Try.underlying22 sizeRoom _ _ _ _ _ _ rfl rfl (w.heap.size + 1) 0 Z 31 HZ1.out.out X ?hn ?hpos ?hfit H1.out (w.heap.size + 1) w1 HB0.out (Nat.le_refl _) ?_; rotate_right; intro w2 HG hb2)
  case hn => rw [HXl.out]; congr 1; exact (Nat.min_eq_left (by omega)).symm
  case hpos => intro h0; obtain ⟨ad, e, _, hc⟩ := HR2.out.2 (by have : Nat.min n (n + 80) = n := Nat.min_eq_left (by omega); omega); first | exact ⟨rfl, ad, e, hc⟩ | exact ⟨ad, e, hc⟩
  case hfit => have := HXl.out; have := HZl.out; omega
  have hrow : Row w2 (w.heap.size + 1) 31 (fillR bs V 0).flatten := by
    have h := HG.out
    rw [HST.out] at h
    exact h
  have HROW := Lib.hid hrow
  have hbb := HB1.out.trans (hb2.mono (by omega))
  have HBB := Lib.hid hbb
  have hv2 := HVR.out.below hb2 (Nat.lt_succ_self _)
  have HV2 := Lib.hid hv2
  clear HG hrow hbb hv2 hb2 HR2 HZ1 HB0 HVR HB1 HST HXl HZl
  go_wp2_with fail
  go_loopw [6] (fun i wr => ∃ k : Nat, k ≤ 80 ∧ i = .int .i64 ((n + k : Nat) : Int) ∧ Hid (Row wr (w.heap.size + 1) 31 (fillR bs V k).flatten ∧ Row wr w.heap.size 31 V ∧ Below w.heap.size w wr)) (fun i _ => n + 80 - (intOf i).toNat)
  case atStart => exact ⟨0, by omega, rfl, Lib.hid ⟨HROW.out, HV2.out, HBB.out⟩⟩
  case round =>
    clear HROW HBB HV2
    obtain ⟨k, hk, rfl, HT⟩ := hrel
    by_cases hk8 : k < 80
    · have hth : wr.there (w.heap.size + 1) ((n + k) * 2) 2 := HT.out.1.there (by rw [HLN.out k hk]; omega)
      have HTH := Lib.hid hth
      have hki : ((n + k : Nat) : Int) < ((n + 80 : Nat) : Int) := by omega
      have HN9 : Hid (Row (wr.setCells (w.heap.size + 1) ((n + k) * 2) V) (w.heap.size + 1) 31 (fillR bs V (k + 1)).flatten) := Lib.hid (by
        have h := HT.out.1.sets V ((n + k) * 2)
        rw [Nat.mul_comm (n + k) 2, HM1.out k hk8] at h
        rw [Nat.mul_comm (n + k) 2]
        exact h)
      obtain ⟨v0, v1, rfl⟩ := HVX.out
      have q0 := HT.out.2.1.cell 0
      have q1 := HT.out.2.1.cell 1
      have lq := HT.out.2.1.lt
      have lt := HT.out.1.lt
      have hl9 := HLN.out k hk
      obtain ⟨u0, hu0⟩ : ∃ u, (fillR bs [.int .u64 (v0 : Nat), .int .u64 (v1 : Nat)] k).flatten[(n + k) * 2]? = some u := ⟨_, List.getElem?_eq_getElem (by omega)⟩
      obtain ⟨u1, hu1⟩ : ∃ u, (fillR bs [.int .u64 (v0 : Nat), .int .u64 (v1 : Nat)] k).flatten[(n + k) * 2 + 1]? = some u := ⟨_, List.getElem?_eq_getElem (by omega)⟩
      have t0 := (HT.out.1.cell ((n + k) * 2)).trans hu0
      have t1 := (HT.out.1.cell ((n + k) * 2 + 1)).trans hu1
      have tf0 := HT.out.1.frozen ((n + k) * 2)
      have tf1 := HT.out.1.frozen ((n + k) * 2 + 1)
      have hki2 : (n : Int) + (k : Int) < (n : Int) + 80 := by omega
      have hkt : ((n : Int) + (k : Int)).toNat = n + k := by omega
      have hk0 : (0 : Int) ≤ (n : Int) + (k : Int) := by omega
      simp only [List.getElem?_cons_zero, List.getElem?_cons_succ] at q0 q1
      clear hth hu0 hu1 hl9
      go_wp2_with fail
      go_roundw
      case rel => exact ⟨k + 1, by omega, by go_num, Lib.hid ⟨HN9.out, (HT.out.2.1.far (p := ⟨w.heap.size + 1, (n + k) * 2, none⟩) (by simp) _).far (p := ⟨w.heap.size + 1, (n + k) * 2 + 1, none⟩) (by simp) _, (HT.out.2.2.setCell (p := ⟨w.heap.size + 1, (n + k) * 2, none⟩) (Nat.le_succ _) _).setCell (p := ⟨w.heap.size + 1, (n + k) * 2 + 1, none⟩) (Nat.le_succ _) _⟩⟩
      case measure => simp [intOf]; omega
    · have HK : Hid (k = 80) := Lib.hid (by omega)
      go_wp2_with fail
      go_ret
      exact ⟨rfl, by have h := HT.out.1; rwa [HK.out] at h, HT.out.2.2⟩
theorem guardRoom : Try.prog.eqGuardType Try.prog.depth 31 = false := by kernel_rfl
/-- unequal? of an element and itself: no -/
def Neq (V : List Value) : Prop := ∀ w : World, (binOp .neq 31 (.agg V.toArray) (.agg V.toArray)).run Try.prog w = .ok (.bool false) w
set_option maxRecDepth 100000 in
set_option maxHeartbeats 1000000 in
theorem same_yes (A A' : Option Addr) (n c c' : Nat) (bs : List (List Value)) (w : World) (hr : Reads w w.heap.size 2 A n bs.flatten) (hr' : Reads w w.heap.size 2 A' n bs.flatten) (hb : ∀ b ∈ bs, b.length = 2) (hq : ∀ b ∈ bs, Neq b) (hl : bs.length = n) (hn : n ≤ 9223372036854775807) :
    Calls Try.prog 40 #[.slice A n c, .slice A' n c'] w fun e w' => e = .returned (.bool true) ∧ ∃ m, w' = w.drewN m := by
  obtain ⟨b, o, HA⟩ := el_form hr hb hl (by decide)
  obtain ⟨b', o', HA'⟩ := el_form hr' hb hl (by decide)
  have HB := Lib.hid hb; have HQ := Lib.hid hq; have HL := Lib.hid hl
  clear hr hr' hb hq hl
  go_enter Try.func40, Try.ntmps40
  go_wp2
  go_loopw [5] (fun i wr => ∃ j m : Nat, j ≤ n ∧ i = .int .i64 j ∧ wr = w.drewN m) (fun i _ => n - (intOf i).toNat)
  case atStart => exact ⟨0, 0, by omega, rfl, rfl⟩
  case round =>
    obtain ⟨j, m, hj, rfl, rfl⟩ := hrel
    by_cases hjn : j < n
    · obtain ⟨V, hV⟩ : ∃ V, bs[j]? = some V := ⟨_, List.getElem?_eq_getElem (by have := HL.out; omega)⟩
      obtain ⟨rfl, _, h1⟩ := HA.out (by omega)
      obtain ⟨rfl, _, h2⟩ := HA'.out (by omega)
      have HVL : Hid (V.length = 2) := Lib.hid (HB.out V (List.mem_of_getElem? hV))
      have HNE := Lib.hid (HQ.out V (List.mem_of_getElem? hV))
      have H1 : Hid (∀ w' : World, (∃ k, w' = (w.drewN m).drewN k) → w'.rangeAt b (o + j * 2) V) := Lib.hid (by rintro w' ⟨k, rfl⟩; exact h1 j V hV)
      have H2 : Hid (∀ w' : World, (∃ k, w' = (w.drewN m).drewN k) → w'.rangeAt b' (o' + j * 2) V) := Lib.hid (by rintro w' ⟨k, rfl⟩; exact h2 j V hV)
      clear h1 h2 hV HA HA'
      go_wp2_with fail
      refine wp_region_quiet_lit (by kernel_rfl) (by kernel_rfl) ?_
      repeat (first
        | (refine el_qwant (by rfl) (fun K hK => ?_)
           first
             | refine el_qload _ _ rfl _ _ (by rfl) V _ H1.out Try.underlying31 rfl (by rw [sizeRoom, HVL.out]) (hK _ ?_)
             | refine el_qload _ _ rfl _ _ (by rfl) V _ H2.out Try.underlying31 rfl (by rw [sizeRoom, HVL.out]) (hK _ ?_)
             | refine el_qbin .neq 31 _ _ _ rfl (by rfl) (by rfl) guardRoom HNE.out (hK _ ?_))
        | quiet_step (fail))
      refine wpQuiet_nil ?_
      rintro w' ⟨nq, rfl⟩
      go_wp2
      go_roundw
      case rel => exact ⟨j + 1, _, by omega, by go_num, rfl⟩
      case measure => simp [intOf]; omega
    · have HJ : Hid (j = n) := Lib.hid (by omega)
      go_wp2
      go_ret
      exact ⟨rfl, _, rfl⟩
theorem fillR_reads {w : World} {g n B : Nat} {bs : List (List Value)} {V : List Value} (h : Row w g 31 (fillR bs V 80).flatten) (hb : ∀ b ∈ bs, b.length = 2) (hl : bs.length = n) (hB : g < B) : Reads w B 2 (some ⟨g, 0, none⟩) n bs.flatten := by
  have hfl := flat_len (s := 2) bs hb
  refine ⟨by rw [hfl, hl, Nat.mul_comm], fun _ => ⟨_, rfl, hB, fun j u hu => ?_⟩⟩
  rw [Addr.add_mid, Nat.zero_add, h.cell]
  unfold fillR
  rw [List.flatten_append, List.flatten_append, List.append_assoc, List.getElem?_append_left (List.getElem?_eq_some_iff.1 hu).1, hu]
set_option maxRecDepth 100000 in
set_option maxHeartbeats 1000000 in
theorem intactR_yes (A : Option Addr) (n c g : Nat) (bs : List (List Value)) (V : List Value) (w : World) (hr : Reads w w.heap.size 2 A n bs.flatten) (hrow : Row w g 31 (fillR bs V 80).flatten) (hb : ∀ b ∈ bs, b.length = 2) (hq : ∀ b ∈ bs, Neq b) (hV : V.length = 2) (hVq : Neq V) (hl : bs.length = n) (hn : n ≤ 4294967296) :
    Calls Try.prog 34 #[.slice (some ⟨g, 0, none⟩) (n + 80) (n + 80), .slice A n c, .agg V.toArray] w fun e w' => e = .returned (.bool true) ∧ Below w.heap.size w w' := by
  have HSM : Hid (∀ w1, Below w.heap.size w w1 → Calls Try.prog 40 #[.slice (some ⟨g, 0, none⟩) n (n + 80), .slice A n c] w1 fun e w' => e = .returned (.bool true) ∧ ∃ m, w' = w1.drewN m) := Lib.hid fun w1 hb1 =>
    same_yes _ _ n _ _ bs w1 (fillR_reads (hrow.below hb1 hrow.lt) hb hl (Nat.lt_of_lt_of_le hrow.lt hb1.size)) ((hr.below hb1).more hb1.size) hb hq hl (by omega)
  have HK : Hid (∀ w1, Below w.heap.size w w1 → ∀ k, k < 80 → w1.rangeAt g ((n + k) * 2) V) := Lib.hid fun w1 hb1 k hk => by
    refine el_at (hrow.below hb1 hrow.lt) (fillR_all hb hV 80) (i := n + k) ?_
    unfold fillR
    rw [List.getElem?_append_left (by simp; omega), List.getElem?_append_right (by omega), List.getElem?_replicate, if_pos (by omega)]
  have HVL := Lib.hid hV; have HNE := Lib.hid hVq
  have hne : (((n : Int) + 80) != ((n : Int) + 80)) = false := by simp
  clear hr hrow hb hq hV hVq hl
  go_enter Try.func34, Try.ntmps34
  go_upto_region 1 with fail
  have hba : Below w.heap.size w (w.alloc (.cells V.toArray 31)) := (Below.refl _ _).alloc (Nat.le_refl _) _
  have hrv : Row (w.alloc (.cells V.toArray 31)) w.heap.size 31 V := Row.new w _ V
  have hsz : w.heap.size < (w.alloc (.cells V.toArray 31)).heap.size := by simp
  generalize w.alloc (.cells V.toArray 31) = w1 at *
  have HBA := Lib.hid hba; have HRV := Lib.hid hrv
  clear hba hrv
  go_wp2_with (go_at_call 40; refine (HSM.out _ HBA.out).mono ?_; rintro e w' ⟨rfl, m1, rfl⟩)
  go_loopw [7] (fun i wr => ∃ k m2 : Nat, k ≤ 80 ∧ i = .int .i64 ((n + k : Nat) : Int) ∧ wr = w1.drewN m2) (fun i _ => n + 80 - (intOf i).toNat)
  case atStart => exact ⟨0, _, by omega, rfl, rfl⟩
  case round =>
    obtain ⟨k, m2, hk, rfl, rfl⟩ := hrel
    by_cases hk8 : k < 80
    · have H1 : Hid (∀ w' : World, (∃ q, w' = (w1.drewN m2).drewN q) → w'.rangeAt g ((n + k) * 2) V) := Lib.hid (by rintro w' ⟨q, rfl⟩; exact HK.out w1 HBA.out k hk8)
      have H2 : Hid (∀ w' : World, (∃ q, w' = (w1.drewN m2).drewN q) → w'.rangeAt w.heap.size 0 V) := Lib.hid (by rintro w' ⟨q, rfl⟩; exact el_range HRV.out)
      have hki : (n : Int) + (k : Int) < (n : Int) + 80 := by omega
      have hk0 : (0 : Int) ≤ (n : Int) + (k : Int) := by omega
      have hkt : ((n : Int) + (k : Int)).toNat = n + k := by omega
      go_wp2_with fail
      refine wp_region_quiet_lit (by kernel_rfl) (by kernel_rfl) ?_
      repeat (first
        | (refine el_qwant (by rfl) (fun K hK => ?_)
           first
             | refine el_qload _ _ rfl _ _ (by rfl) V _ H1.out Try.underlying31 rfl (by rw [sizeRoom, HVL.out]) (hK _ ?_)
             | refine el_qload _ _ rfl _ _ (by rfl) V _ H2.out Try.underlying31 rfl (by rw [sizeRoom, HVL.out]) (hK _ ?_)
             | refine el_qbin .neq 31 _ _ _ rfl (by rfl) (by rfl) guardRoom HNE.out (hK _ ?_))
        | quiet_step (fail))
      refine wpQuiet_nil ?_
      rintro w' ⟨nq, rfl⟩
      go_wp2
      go_roundw
      case rel => exact ⟨k + 1, _, by omega, by go_num, rfl⟩
      case measure => simp [intOf]; omega
    · have HK8 : Hid (k = 80) := Lib.hid (by omega)
      go_wp2
      go_ret
      exact ⟨rfl, below_drewN HBA.out _⟩
end BR
end Go.Proofs.Ytmhkmemaneopeaa
