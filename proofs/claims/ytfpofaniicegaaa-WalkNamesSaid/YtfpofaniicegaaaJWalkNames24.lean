/- Texts of this claim, one behind the other: LvD, LvE, LvN, WnA, WnC. -/
import Derived.Test.YtfpofaniicegaaaJWalkNames23
import Derived.Sort.CutIn
import Derived.Laws.EntriesVeiled
import Derived.Test.YtfpofaniicegaaaJWalkNames21
import Derived.Test.YtfpofaniicegaaaJWalkNames22
/- The walk of the function that Leaves hands back. -/
set_option linter.unusedVariables false
set_option linter.unusedSimpArgs false
namespace Go.Proofs.Ytfpofaniicegaaa
open Go.RowKit
open S64
open Bu
attribute [local go_sem] Oper.semAt_some
/-- how many cells of its own the iterator has -/
def lvM (root : Nat) : Nat := if root % 4096 = 0 then 3 else 2
set_option maxRecDepth 100000 in
set_option maxHeartbeats 4000000 in
theorem leaves1_seq {T : TypeId} {v : Value} {S : MemS} (hS : MemI S) (hC : EntC T v S) (Z R prot : Nat → Prop) (M : PM) (mb rb bb root : Nat) (most : Int) (n : Nat) (w : World) (hroot : root < 18446744073709551616) (hmost : most < 9223372036854775808) (hmost' : -9223372036854775808 ≤ most)
    (hp : ∀ k, Z k ∨ R k ∨ k = mb → prot k) (hmb : ¬ Z mb) (hpB : ∀ k, prot k → k < w.heap.size) (hm : ∃ s : Int, S Z R w (sM M s)) (hr1 : Row w mb 88 [.iface T v]) (hr2 : Row w rb 22 [.int .u64 (root : Nat)]) (hr3 : Row w bb 3 [.int .i64 most]) :
    SeqC Fence.wide n Try.prog 40 #[pmb bb, pmb mb, pmb rb] lvEnc Z prot (fun xs => xs = lvs M root most) (fun pre => pre <+: lvs M root most) (lvs M root most) (lvM root) (fun W => ∃ s : Int, S Z R W (sM M s)) w := by
  intro l J Jx W hb hJ hJx hY h0
  have hdd : ∀ k : Nat, (Fence.wide.depth.isSome = true → 1 ≤ k) := fun k h => by cases h
  obtain ⟨s0, hm0⟩ := hm
  have hmW := hS.below hm0 hb
  have hrW1 := hr1.below hb hr1.lt
  have hrW2 := hr2.below hb hr2.lt
  have hrW3 := hr3.below hb hr3.lt
  have hmbw : mb < W.heap.size := hrW1.lt
  have hpW : ∀ k, prot k → k < W.heap.size := fun k hk => Nat.lt_of_lt_of_le (hpB k hk) hb.size
  clear hm0 hr1 hr2 hr3 hb hpB
  have HS := Lib.hid hS; have HC := Lib.hid hC; have HP := Lib.hid hp; have HMB := Lib.hid hmb; have HPW := Lib.hid hpW; have HJ := Lib.hid hJ; have HJX := Lib.hid hJx; have HY := Lib.hid hY; have HM := Lib.hid hmW
  have HR1 := Lib.hid hrW1
  have HR2 := Lib.hid hrW2
  have H0 := Lib.hid h0
  have a1 := hrW1.cell 0
  have a2 := hrW2.cell 0
  have a3 := hrW3.cell 0
  have b1 := hrW1.lt
  have b2 := hrW2.lt
  have b3 := hrW3.lt
  simp only [List.getElem?_cons_zero] at a1 a2 a3
  clear hS hC hp hmb hpW hJ hJx hY hmW h0 hrW1 hrW2 hrW3
  unfold pmb
  simp only [List.append_toArray, List.cons_append, List.nil_append]
  refine callsIn_of_wp Try.func40 rfl trivial ?_ rfl
  simp only [Try.ntmps40, List.size_toArray, List.length_cons, List.length_nil, Nat.reduceAdd, Nat.reduceSub, Array.replicate_succ, Array.replicate_zero, List.push_toArray, List.append_toArray, List.nil_append, List.cons_append]
  have hsz1 : ((W.alloc (.cells #[.func (.yield l) #[] #[]] 102)).alloc (.cells #[.int .i64 most] 3)).heap.size = W.heap.size + 2 := by simp
  have hb1 : Below W.heap.size W ((W.alloc (.cells #[.func (.yield l) #[] #[]] 102)).alloc (.cells #[.int .i64 most] 3)) := ((Below.refl _ _).alloc (Nat.le_refl _) _).alloc (by simp) _
  have hry : Row ((W.alloc (.cells #[.func (.yield l) #[] #[]] 102)).alloc (.cells #[.int .i64 most] 3)) W.heap.size 102 [pyl l] := (Row.new W _ [pyl l]).alloc _
  have hrl : Row ((W.alloc (.cells #[.func (.yield l) #[] #[]] 102)).alloc (.cells #[.int .i64 most] 3)) (W.heap.size + 1) 3 [.int .i64 most] := by
    have h := Row.new (W.alloc (.cells #[.func (.yield l) #[] #[]] 102)) 3 [.int .i64 most]
    rw [show (W.alloc (.cells #[.func (.yield l) #[] #[]] 102)).heap.size = W.heap.size + 1 by simp] at h
    exact h
  have hj1 := HJ.out _ _ _ H0.out (ChgP.of_below hb1)
  have hm1 := HS.out.below HM.out hb1
  have hr1 := HR1.out.below hb1 HR1.out.lt
  have HB1 := Lib.hid hb1; have HRY := Lib.hid hry; have HRL := Lib.hid hrl; have HJ1 := Lib.hid hj1; have HM1 := Lib.hid hm1; have HSZ1 := Lib.hid hsz1; have HMM := Lib.hid hr1
  clear hb1 hry hrl hj1 hm1 hsz1 hr1
  by_cases q0 : most < 1
  · have HE : Hid (lvs M root most = []) := Lib.hid (by unfold lvs; rw [if_pos q0])
    gi_wp2_with fail
    refine bodyPost_ret (results_none rfl _ _ _) rfl ?_
    exact ⟨⟨_, rfl⟩, .inl ⟨[], HE.out.symm, HJ1.out⟩, ⟨s0, HM1.out⟩⟩
  obtain ⟨left, rfl⟩ : ∃ left : Nat, most = (left : Int) := ⟨most.toNat, by omega⟩
  have hl1 : 1 ≤ left := by omega
  by_cases q1 : root % 4096 = 0
  · have f1 : ((root : Int) % 4096 != 0) = false := by simp; omega
    have HE : Hid (lvs M root (left : Int) = (lvT M 3 0 root 0 left).1) := Lib.hid (by unfold lvs; rw [if_neg q0, if_neg (by omega)]; rfl)
    have HML : Hid (lvM root = 3) := Lib.hid (by unfold lvM; rw [if_pos q1])
    gi_upto_region 5 with fail
    generalize (W.alloc (.cells #[.func (.yield l) #[] #[]] 102)).alloc (.cells #[.int .i64 (left : Int)] 3) = w1 at *
    obtain ⟨B, hB⟩ : ∃ B, B = W.heap.size := ⟨_, rfl⟩
    rw [← hB] at HRY HRL HSZ1 HPW HJ hmbw ⊢
    have HW := Lib.hid hB
    clear hB
    have hs1 : w1.heap.size = B + 2 := HSZ1.out
    gi_upto_region 6 with fail
    try rw [hs1]
    have hb2 : Below w1.heap.size w1 (w1.alloc (.cells #[.nilFunc] 103)) := (Below.refl _ _).alloc (Nat.le_refl _) _
    have hrd := Row.new w1 103 [.nilFunc]
    rw [hs1] at hrd
    have hsz2 : (w1.alloc (.cells #[.nilFunc] 103)).heap.size = B + 3 := by simp [hs1]
    generalize w1.alloc (.cells #[.nilFunc] 103) = w2 at *
    have e0 := hrd.cell 0
    have ef := hrd.frozen 0
    have el := hrd.lt
    simp only [List.getElem?_cons_zero] at e0
    gi_upto_region 7 with fail
    have hy2 := HRY.out.below hb2 HRY.out.lt
    have hl2 := HRL.out.below hb2 HRL.out.lt
    have hmm2 := HMM.out.below hb2 HMM.out.lt
    have hj2 := HJ.out _ _ _ HJ1.out (ChgP.of_below hb2)
    have hm2 := HS.out.below HM1.out hb2
    have hc3 : ChgP (fun k => k = B + 2) w2 (w2.setCell ⟨B + 2, 0, none⟩ (.func (.func 41) #[] #[.pointer (some ⟨mb, 0, none⟩), .pointer (some ⟨B + 1, 0, none⟩), .pointer (some ⟨B + 2, 0, none⟩), .pointer (some ⟨B, 0, none⟩)])) := ChgP.set_ (Z := fun k => k = B + 2) (ChgP.refl _ w2) (p := ⟨B + 2, 0, none⟩) (.inl rfl) _
    have hd3 := hrd.set_ 0 (.func (.func 41) #[] #[.pointer (some ⟨mb, 0, none⟩), .pointer (some ⟨B + 1, 0, none⟩), .pointer (some ⟨B + 2, 0, none⟩), .pointer (some ⟨B, 0, none⟩)])
    simp only [List.set_cons_zero] at hd3
    generalize w2.setCell ⟨B + 2, 0, none⟩ (.func (.func 41) #[] #[.pointer (some ⟨mb, 0, none⟩), .pointer (some ⟨B + 1, 0, none⟩), .pointer (some ⟨B + 2, 0, none⟩), .pointer (some ⟨B, 0, none⟩)]) = w3 at *
    have hz3 : ∀ k, Z k ∨ R k → k < B := fun k hk => HPW.out k (HP.out k (hk.elim .inl (fun h => .inr (.inl h))))
    have hit : Itr S Z R M T v mb B l left w3 := ⟨⟨s0, HS.out.chg hm2 hc3 (fun k hk hk2 => by have := hz3 k hk; omega)⟩, hc3.row hmm2 (by omega), hc3.row hy2 (by omega), hc3.row hl2 (by omega), hd3⟩
    have hj3 := HJ.out _ _ _ hj2 (hc3.mono (fun k hk => .inl (.inr (by rw [HML.out]; omega))))
    have hsz3 : B + 3 ≤ w3.heap.size := by have := hc3.size; omega
    have hdn := under_in HS.out HC.out Z R prot M mb B l (lvs M root (left : Int)) HP.out HMB.out HPW.out J Jx (by rw [← HML.out]; exact HJ.out)
      (fun pre x W1 h1 h2 h3 => by
        have h := YieldAt.any 0 (HY.out pre x W1 h1 h2 (by rw [HML.out, ← HW.out]; exact h3))
        rw [HML.out, ← HW.out] at h
        exact h)
      3 0 root 0 left (n - 1) [] w3 rfl (by omega) (by omega) (by unfold Bu.rch; decide) hl1 (by omega) hit hj3 (by rw [HE.out]; simp) hsz3
    rw [← HE.out] at hdn
    simp only [List.nil_append] at hdn
    unfold pmb at hdn
    have HDN := Lib.hid hdn
    have e1 := hd3.cell 0
    have e1l := hd3.lt
    simp only [List.getElem?_cons_zero] at e1
    have a2' : w3.cell? ⟨rb, 0, none⟩ = some (.int .u64 (root : Nat)) := by
      have h := hc3.row ((HR2.out.below HB1.out HR2.out.lt).below hb2 (HR2.out.below HB1.out HR2.out.lt).lt) (by have := HR2.out.lt; rw [← HW.out] at this; omega)
      exact h.cell 0
    clear hdn hy2 hl2 hmm2 hj2 hm2 hc3 hd3 hit hj3 hsz3 e0 ef el hrd hb2
    gi_wp2_with fail
    refine ⟨trivial, hdd _, HDN.out.mono ?_⟩
    rintro e w7 ⟨_, (⟨rfl, hj7, hit7⟩ | ⟨rfl, q, hq, hjx, hm7⟩)⟩
    · have HX7 := Lib.hid (And.intro hj7 hit7.mach)
      clear hj7 hit7
      gi_wp2_with fail
      go_end0
      exact ⟨⟨_, rfl⟩, .inl ⟨_, rfl, HX7.out.1⟩, HX7.out.2⟩
    · have HX7 := Lib.hid (And.intro hq (And.intro hjx hm7))
      clear hq hjx hm7
      gi_wp2_with fail
      go_end0
      exact ⟨⟨_, rfl⟩, .inr ⟨q, HX7.out.1, HX7.out.2.1⟩, HX7.out.2.2⟩
  · have f1 : ((root : Int) % 4096 != 0) = true := by simp; omega
    have HE : Hid (lvs M root (left : Int) = [⟨0, 0, 134217728, false, false, false, 42⟩]) := Lib.hid (by unfold lvs; rw [if_neg q0, if_pos q1])
    have HML : Hid (lvM root = 2) := Lib.hid (by unfold lvM; rw [if_neg q1])
    have hy0 := HY.out [] ⟨0, 0, 134217728, false, false, false, 42⟩ _ HJ1.out (by rw [HE.out]; simp) (by rw [HML.out, HSZ1.out]; exact Nat.le_refl _)
    obtain ⟨fn, tmps, assign, body, hy, hR⟩ := YieldAt.any (n - 1) hy0
    rw [show lvEnc ⟨0, 0, 134217728, false, false, false, 42⟩ = #[.agg #[.int .u64 0, .int .u64 0, .int .i64 134217728, .bool false, .bool false, .bool false], .int .i64 42] from rfl] at hy
    clear hy0
    have y0 := HRY.out.cell 0
    have yl := HRY.out.lt
    simp only [List.getElem?_cons_zero] at y0
    unfold pyl at y0
    gi_wp2_with fail
    refine ⟨hdd _, hR.mono ?_⟩
    have hkm : ∀ w7, KpC (upTo prot W.heap.size (lvM root)) ((W.alloc (.cells #[.func (.yield l) #[] #[]] 102)).alloc (.cells #[.int .i64 (left : Int)] 3)) w7 → S Z R w7 (sM M s0) := fun w7 hk => HS.out.chg HM1.out hk (fun k hz hn => hn (.inl (HP.out k (hz.elim .inl (fun h => .inr (.inl h))))))
    rintro e w7 (⟨rfl, hj7, hk7⟩ | ⟨rfl, hjx, hk7⟩)
    · have HX7 : Hid (J [⟨0, 0, 134217728, false, false, false, 42⟩] w7 ∧ S Z R w7 (sM M s0)) := Lib.hid ⟨hj7, hkm w7 hk7⟩
      clear hj7 hk7 hkm hy hR
      gi_wp2_with fail
      refine bodyPost_ret (results_none rfl _ _ _) rfl ?_
      exact ⟨⟨_, rfl⟩, .inl ⟨_, HE.out.symm, HX7.out.1⟩, ⟨s0, HX7.out.2⟩⟩
    · have HX7 : Hid (Jx [⟨0, 0, 134217728, false, false, false, 42⟩] w7 ∧ S Z R w7 (sM M s0)) := Lib.hid ⟨hjx, hkm w7 hk7⟩
      clear hjx hk7 hkm hy hR
      gi_wp2_with fail
      refine bodyPost_ret (results_none rfl _ _ _) rfl ?_
      exact ⟨⟨_, rfl⟩, .inr ⟨_, by rw [HE.out]; exact List.prefix_rfl, HX7.out.1⟩, ⟨s0, HX7.out.2⟩⟩
end Go.Proofs.Ytfpofaniicegaaa

/- The walk of walk.Leaves. -/
set_option linter.unusedVariables false
set_option linter.unusedSimpArgs false
namespace Go.Proofs.Ytfpofaniicegaaa
open Go.RowKit
open S64
open Bu
/-- the three boxes that Leaves lays -/
def lvW (w : World) (m : Value) (root : Nat) (most : Int) : World := ((w.alloc (.cells #[m] 88)).alloc (.cells #[.int .u64 (root : Nat)] 22)).alloc (.cells #[.int .i64 most] 3)
def lvF (B : Nat) : Value := .func (.func 40) #[] #[pmb (B + 2), pmb B, pmb (B + 1)]
theorem leaves_any (T : TypeId) (v : Value) (root : Nat) (most : Int) (w : World) : Calls Try.prog 26 #[(.iface T v), .int .u64 (root : Nat), .int .i64 most] w fun e w' => e = .returned (lvF w.heap.size) ∧ w' = lvW w (.iface T v) root most := by
  go_enter Try.func26, Try.ntmps26
  go_wp2_with fail
  refine bodyPost_ret (v := lvF w.heap.size) (by simp [results, Try.results26, go_sem, lvF, pmb]) rfl ⟨rfl, rfl⟩
theorem leavesN_any (root : Nat) (most : Int) (w : World) : Calls Try.prog 26 #[.nilIface, .int .u64 (root : Nat), .int .i64 most] w fun e w' => e = .returned (lvF w.heap.size) ∧ w' = lvW w .nilIface root most := by
  go_enter Try.func26, Try.ntmps26
  go_wp2_with fail
  refine bodyPost_ret (v := lvF w.heap.size) (by simp [results, Try.results26, go_sem, lvF, pmb]) rfl ⟨rfl, rfl⟩
theorem lvW_rows (w : World) (m : Value) (root : Nat) (most : Int) : (lvW w m root most).heap.size = w.heap.size + 3 ∧ Below w.heap.size w (lvW w m root most) ∧ Row (lvW w m root most) w.heap.size 88 [m] ∧ Row (lvW w m root most) (w.heap.size + 1) 22 [.int .u64 (root : Nat)] ∧ Row (lvW w m root most) (w.heap.size + 2) 3 [.int .i64 most] := by
  unfold lvW
  refine ⟨by simp, (((Below.refl _ _).alloc (Nat.le_refl _) _).alloc (by simp) _).alloc (by simp; omega) _, ((Row.new w _ [m]).alloc _).alloc _, ?_, ?_⟩
  · have h := Row.new (w.alloc (.cells #[m] 88)) 22 [.int .u64 (root : Nat)]
    rw [show (w.alloc (.cells #[m] 88)).heap.size = w.heap.size + 1 by simp] at h
    exact h.alloc _
  · have h := Row.new ((w.alloc (.cells #[m] 88)).alloc (.cells #[.int .u64 (root : Nat)] 22)) 3 [.int .i64 most]
    rw [show ((w.alloc (.cells #[m] 88)).alloc (.cells #[.int .u64 (root : Nat)] 22)).heap.size = w.heap.size + 2 by simp] at h
    exact h
end Go.Proofs.Ytfpofaniicegaaa

/- The walks over no memory. -/
set_option linter.unusedVariables false
set_option linter.unusedSimpArgs false
namespace Go.Proofs.Ytfpofaniicegaaa
open Go.RowKit
open S64
open Bu
attribute [local go_sem] Oper.semAt_some
set_option maxRecDepth 100000 in
set_option maxHeartbeats 1000000 in
theorem leavesN_seq {α : Type} (encs : α → Array Value) (Z prot : Nat → Prop) (mb rb bb root : Nat) (most : Int) (n : Nat) (w : World)
    (hr1 : Row w mb 88 [.nilIface]) (hr2 : Row w rb 22 [.int .u64 (root : Nat)]) (hr3 : Row w bb 3 [.int .i64 most]) :
    SeqC Fence.wide n Try.prog 40 #[pmb bb, pmb mb, pmb rb] encs Z prot (fun xs => xs = []) (fun _ => False) [] 0 (fun _ => True) w := by
  intro l J Jx W hb hJ hJx hY h0
  have hdd : ∀ k : Nat, (Fence.wide.depth.isSome = true → 1 ≤ k) := fun k h => by cases h
  have hrW1 := hr1.below hb hr1.lt
  have hrW3 := hr3.below hb hr3.lt
  have HJ := Lib.hid hJ; have H0 := Lib.hid h0
  have a1 := hrW1.cell 0
  have a3 := hrW3.cell 0
  have b1 := hrW1.lt
  have b3 := hrW3.lt
  simp only [List.getElem?_cons_zero] at a1 a3
  clear hJ hJx hY h0 hrW1 hrW3 hr1 hr2 hr3 hb
  unfold pmb
  simp only [List.append_toArray, List.cons_append, List.nil_append]
  refine callsIn_of_wp Try.func40 rfl trivial ?_ rfl
  simp only [Try.ntmps40, List.size_toArray, List.length_cons, List.length_nil, Nat.reduceAdd, Nat.reduceSub, Array.replicate_succ, Array.replicate_zero, List.push_toArray, List.append_toArray, List.nil_append, List.cons_append]
  have hj1 := HJ.out _ _ _ H0.out (((ChgP.refl (upTo Z W.heap.size 0) W).alloc (.cells #[.func (.yield l) #[] #[]] 102)).alloc (.cells #[.int .i64 most] 3))
  have HJ1 := Lib.hid hj1
  clear hj1
  gi_wp2_with fail
  refine bodyPost_ret (results_none rfl _ _ _) rfl ?_
  exact ⟨⟨_, rfl⟩, .inl ⟨[], rfl, HJ1.out⟩, trivial⟩
set_option maxRecDepth 100000 in
set_option maxHeartbeats 1000000 in
theorem translateN_any (root virt : Nat) (access : Int) (w : World) (hv : 0 < virt) : Calls Try.prog 20 #[.nilIface, .int .u64 (root : Nat), .int .u64 (virt : Nat), .int .i64 access] w fun e w' => e = .returned (.tuple #[.int .u64 0, .agg #[.int .i64 1, .int .u64 (virt : Nat)]]) ∧ Below w.heap.size w w' := by
  have HT : Hid (∀ wx, Calls Try.prog 36 #[.nilIface, .int .u64 (root : Nat), .int .u64 (virt : Nat), .int .i64 access] wx fun e w' => e = .returned (.tuple #[.int .u64 0, .int .i64 1]) ∧ w' = wx) := Lib.hid (fun wx => by
    go_enter Try.func36, Try.ntmps36
    go_wp2_with fail
    go_ret2
    exact ⟨rfl, rfl⟩)
  go_enter Try.func20, Try.ntmps20
  go_upto_region 1 with fail
  have hra := Row.new w 48 [.int .i64 0, .int .u64 0]
  have hb0 : Below w.heap.size w (w.alloc (.cells #[.int .i64 0, .int .u64 0] 48)) := (Below.refl _ _).alloc (Nat.le_refl _) _
  obtain ⟨c, hc⟩ : ∃ c, c = w.heap.size := ⟨_, rfl⟩
  generalize w.alloc (.cells #[.int .i64 0, .int .u64 0] 48) = w1 at *
  rw [← hc] at hra ⊢
  have HC := Lib.hid hc
  have HB0 := Lib.hid hb0
  have HRA2 := Lib.hid hra
  clear hra hb0 hc
  go_wp2_with fail
  refine (HT.out w1).mono ?_
  rintro e w2 ⟨rfl, rfl⟩
  clear HT
  have q0 := HRA2.out.cell 0
  have q1 := HRA2.out.cell 1
  have la := HRA2.out.lt
  have y0 := HRA2.out.frozen 0
  have y1 := HRA2.out.frozen 1
  simp only [List.getElem?_cons_zero, List.getElem?_cons_succ] at q0 q1
  have HY0 := Lib.hid ((HRA2.out.set_ 0 (.int .i64 1)).cell 0)
  have HY1 := Lib.hid (((HRA2.out.set_ 0 (.int .i64 1)).set_ 1 (.int .u64 (virt : Nat))).cell 1)
  simp only [List.set_cons_zero, List.set_cons_succ, List.getElem?_cons_zero, List.getElem?_cons_succ] at HY0 HY1
  go_wp2_with fail
  refine bodyPost_ret (v := .tuple #[.int .u64 0, .agg #[.int .i64 1, .int .u64 (virt : Nat)]]) (by simp [results, Try.results20, go_sem, HY0.out, HY1.out]) rfl ⟨rfl, ?_⟩
  exact ((HB0.out.setCell (p := ⟨c, 0, none⟩) (Nat.le_of_eq HC.out.symm) _).setCell (p := ⟨c, 1, none⟩) (Nat.le_of_eq HC.out.symm) _)
end Go.Proofs.Ytfpofaniicegaaa

/- Closed facts for WalkNames. -/
set_option linter.unusedVariables false
set_option linter.unusedSimpArgs false
namespace Go.Proofs.Ytfpofaniicegaaa
open Go.RowKit
open S64
namespace Bu
theorem wn_t1 : trI fM 4096 12304 1 = (20496, 0) := by decide +kernel
theorem wn_t2 : trI fM 4096 12304 3 = (0, 44) := by decide +kernel
theorem wn_l1 : (accZ fM 4096 16382 1 4).2 = (41, 16384) := by decide +kernel
def n1M : PM := ldM fM 0 0
theorem wn_s : accZ n1M 4096 16383 2 1 = ([24575], (0, 0)) := by decide +kernel
def n2M : PM := stN (sM n1M 0) (fun j => [24575].getD j 0) 511 1
theorem wn_l2 : accZ n2M 4096 16380 1 4 = ([24572, 24573, 24574, 24575], (0, 0)) := by decide +kernel
theorem wn_v : Wd.unle ([24572, 24573, 24574, 24575].map n2M.mem) = 4278190080 := by decide +kernel
def n3M : PM := ldM n2M 0 4
theorem wn_lv : lvs n3M 4096 3 = [⟨12288, 20480, 1, false, true, false, 0⟩] := by decide +kernel
end Bu
end Go.Proofs.Ytfpofaniicegaaa

/- Loads and stores over no memory. -/
set_option linter.unusedVariables false
set_option linter.unusedSimpArgs false
namespace Go.Proofs.Ytfpofaniicegaaa
open Go.RowKit
open S64
open Bu
set_option maxRecDepth 100000 in
set_option maxHeartbeats 1000000 in
theorem reachN_any (root virt : Nat) (width access : Int) (w : World) : Calls Try.prog 37 #[.nilIface, .int .u64 (root : Nat), .int .u64 (virt : Nat), .int .i64 width, .int .i64 access] w fun e w' => e = .returned (.tuple #[.slice none 0 0, .agg #[.int .i64 1, .int .u64 (virt : Nat)]]) ∧ Below w.heap.size w w' := by
  go_enter Try.func37, Try.ntmps37
  go_upto_region 1 with fail
  have hra := Row.new w 48 [.int .i64 0, .int .u64 0]
  have hb0 : Below w.heap.size w (w.alloc (.cells #[.int .i64 0, .int .u64 0] 48)) := (Below.refl _ _).alloc (Nat.le_refl _) _
  obtain ⟨c, hc⟩ : ∃ c, c = w.heap.size := ⟨_, rfl⟩
  generalize w.alloc (.cells #[.int .i64 0, .int .u64 0] 48) = w1 at *
  rw [← hc] at hra ⊢
  have HC := Lib.hid hc
  have HB0 := Lib.hid hb0
  have HRA2 := Lib.hid hra
  clear hra hb0 hc
  have q0 := HRA2.out.cell 0
  have q1 := HRA2.out.cell 1
  have la := HRA2.out.lt
  have y0 := HRA2.out.frozen 0
  have y1 := HRA2.out.frozen 1
  simp only [List.getElem?_cons_zero, List.getElem?_cons_succ] at q0 q1
  have HY0 := Lib.hid ((HRA2.out.set_ 0 (.int .i64 1)).cell 0)
  have HY1 := Lib.hid (((HRA2.out.set_ 0 (.int .i64 1)).set_ 1 (.int .u64 (virt : Nat))).cell 1)
  simp only [List.set_cons_zero, List.set_cons_succ, List.getElem?_cons_zero, List.getElem?_cons_succ] at HY0 HY1
  go_wp2_with fail
  refine bodyPost_ret (v := .tuple #[.slice none 0 0, .agg #[.int .i64 1, .int .u64 (virt : Nat)]]) (by simp [results, Try.results37, go_sem, HY0.out, HY1.out]) rfl ⟨rfl, ?_⟩
  exact ((HB0.out.setCell (p := ⟨c, 0, none⟩) (Nat.le_of_eq HC.out.symm) _).setCell (p := ⟨c, 1, none⟩) (Nat.le_of_eq HC.out.symm) _)
set_option maxRecDepth 100000 in
set_option maxHeartbeats 1000000 in
theorem takeN_any (root virt : Nat) (width access : Int) (w : World) : Calls Try.prog 34 #[.nilIface, .int .u64 (root : Nat), .int .u64 (virt : Nat), .int .i64 width, .int .i64 access] w fun e w' => e = .returned (.tuple #[.int .u64 0, .agg #[.int .i64 1, .int .u64 (virt : Nat)]]) ∧ Below w.heap.size w w' := by
  go_enter Try.func34, Try.ntmps34
  go_upto_region 1 with fail
  have r0 := Row.new w 48 [.int .i64 0, .int .u64 0]
  have hb0 : Below w.heap.size w (w.alloc (.cells #[.int .i64 0, .int .u64 0] 48)) := (Below.refl _ _).alloc (Nat.le_refl _) _
  obtain ⟨c, hc⟩ : ∃ c, c = w.heap.size := ⟨_, rfl⟩
  generalize w.alloc (.cells #[.int .i64 0, .int .u64 0] 48) = w1 at *
  rw [← hc] at r0 ⊢
  have HC := Lib.hid hc; have HB := Lib.hid hb0; have HRC := Lib.hid r0
  clear r0 hb0 hc
  go_wp2_with fail
  refine (reachN_any root virt width access w1).mono ?_
  rintro e w2 ⟨rfl, hb2⟩
  have HRC2 := Lib.hid (HRC.out.below hb2 HRC.out.lt)
  have HB2 := Lib.hid (HB.out.trans (hb2.mono HB.out.size))
  clear hb2 HRC HB
  go_upto_region 2 with fail
  have hr3 := Row.new w2 48 [.int .i64 1, .int .u64 (virt : Nat)]
  have hb3 : Below w2.heap.size w2 (w2.alloc (.cells #[.int .i64 1, .int .u64 (virt : Nat)] 48)) := (Below.refl _ _).alloc (Nat.le_refl _) _
  obtain ⟨c3, hc3⟩ : ∃ c3, c3 = w2.heap.size := ⟨_, rfl⟩
  generalize w2.alloc (.cells #[.int .i64 1, .int .u64 (virt : Nat)] 48) = w3 at *
  rw [← hc3] at hr3 ⊢
  have HR3 := Lib.hid hr3
  have HRC3 := Lib.hid (HRC2.out.below hb3 HRC2.out.lt)
  have HB3 := Lib.hid (HB2.out.trans (hb3.mono HB2.out.size))
  clear hr3 hb3 hc3 HRC2 HB2
  go_upto_region 3 with fail
  have hr8 := Row.new w3 131 [.int .u8 0, .int .u8 0, .int .u8 0, .int .u8 0, .int .u8 0, .int .u8 0, .int .u8 0, .int .u8 0]
  have hb4 : Below w3.heap.size w3 (w3.alloc (.cells #[.int .u8 0, .int .u8 0, .int .u8 0, .int .u8 0, .int .u8 0, .int .u8 0, .int .u8 0, .int .u8 0] 131)) := (Below.refl _ _).alloc (Nat.le_refl _) _
  obtain ⟨b8, hb8⟩ : ∃ b8, b8 = w3.heap.size := ⟨_, rfl⟩
  generalize w3.alloc (.cells #[.int .u8 0, .int .u8 0, .int .u8 0, .int .u8 0, .int .u8 0, .int .u8 0, .int .u8 0, .int .u8 0] 131) = w4 at *
  rw [← hb8] at hr8 ⊢
  have HR4 := Lib.hid (HR3.out.below hb4 HR3.out.lt)
  have HRC4 := Lib.hid (HRC3.out.below hb4 HRC3.out.lt)
  have HB4 := Lib.hid (HB3.out.trans (hb4.mono HB3.out.size))
  have HIB : Hid (IsB w4 w4.heap.size (some ⟨b8, 0, none⟩) 8 (List.replicate 8 0)) := Lib.hid (IsB.of_row hr8 rfl rfl (by decide) hr8.lt (by omega) (by simp))
  have l8 := hr8.lt
  clear hr8 hb4 hb8 HR3 HRC3 HB3
  have q0 := HRC4.out.cell 0
  have q1 := HRC4.out.cell 1
  have la := HRC4.out.lt
  have a0 := HRC4.out.frozen 0
  have a1 := HRC4.out.frozen 1
  have t0 := HR4.out.cell 0
  have t1 := HR4.out.cell 1
  have lt := HR4.out.lt
  simp only [List.getElem?_cons_zero, List.getElem?_cons_succ] at q0 q1 t0 t1
  have HY0 := Lib.hid ((HRC4.out.set_ 0 (.int .i64 1)).cell 0)
  have HY1 := Lib.hid (((HRC4.out.set_ 0 (.int .i64 1)).set_ 1 (.int .u64 (virt : Nat))).cell 1)
  simp only [List.set_cons_zero, List.set_cons_succ, List.getElem?_cons_zero, List.getElem?_cons_succ] at HY0 HY1
  have HG : Hid (Calls Try.prog 58 #[.slice (some ⟨b8, 0, none⟩) 8 8] w4 fun e w' => e = .returned (.tuple #[.int .u64 0, .bool true]) ∧ w4 = w') := Lib.hid ((get_uint64 (some ⟨b8, 0, none⟩) 8 8 (List.replicate 8 0) w4 HIB.out (by omega) (by omega)).mono (fun e w' h => by
    obtain ⟨h1, h2⟩ := h
    exact ⟨h1, h2⟩))
  go_wp2_with fail
  go_loopw [32] (fun x wr => x = .int .i64 0 ∧ wr = w4) (fun x _ => 0)
  case atStart => exact ⟨rfl, rfl⟩
  case round =>
  obtain ⟨rfl, rfl⟩ := hrel
  go_upto_region 10 with (go_at_call 58; refine HG.out.mono ?_; rintro e w6 ⟨rfl, rfl⟩)
  go_still_tail 3, (by kernel_rfl)
  change wpList _ _ _ _ _ wr.drew
  go_wp2_with fail
  refine bodyPost_ret (v := .tuple #[.int .u64 0, .agg #[.int .i64 1, .int .u64 (virt : Nat)]]) (by simp [results, Try.results34, go_sem, HY0.out, HY1.out]) rfl ⟨rfl, ?_⟩
  exact ((HB4.out.drew.setCell (p := ⟨c, 0, none⟩) (Nat.le_of_eq HC.out.symm) _).setCell (p := ⟨c, 1, none⟩) (Nat.le_of_eq HC.out.symm) _)
set_option maxRecDepth 100000 in
set_option maxHeartbeats 1000000 in
theorem loadN_any (root virt : Nat) (width : Int) (w : World) : Calls Try.prog 17 #[.nilIface, .int .u64 (root : Nat), .int .u64 (virt : Nat), .int .i64 width] w fun e w' => e = .returned (.tuple #[.int .u64 0, .agg #[.int .i64 1, .int .u64 (virt : Nat)]]) ∧ Below w.heap.size w w' := by
  go_enter Try.func17, Try.ntmps17
  go_upto_region 1 with fail
  have hra := Row.new w 48 [.int .i64 0, .int .u64 0]
  have hb0 : Below w.heap.size w (w.alloc (.cells #[.int .i64 0, .int .u64 0] 48)) := (Below.refl _ _).alloc (Nat.le_refl _) _
  obtain ⟨c, hc⟩ : ∃ c, c = w.heap.size := ⟨_, rfl⟩
  generalize w.alloc (.cells #[.int .i64 0, .int .u64 0] 48) = w1 at *
  rw [← hc] at hra ⊢
  have HC := Lib.hid hc
  have HB0 := Lib.hid hb0
  have HRA := Lib.hid hra
  clear hra hb0 hc
  go_wp2_with fail
  refine (takeN_any root virt width 1 w1).mono ?_
  rintro e w2 ⟨rfl, hb2⟩
  have HRA2 := Lib.hid (HRA.out.below hb2 HRA.out.lt)
  have HB2 := Lib.hid (HB0.out.trans (hb2.mono HB0.out.size))
  clear hb2 HRA HB0
  have q0 := HRA2.out.cell 0
  have q1 := HRA2.out.cell 1
  have la := HRA2.out.lt
  have y0 := HRA2.out.frozen 0
  have y1 := HRA2.out.frozen 1
  simp only [List.getElem?_cons_zero, List.getElem?_cons_succ] at q0 q1
  have HY0 := Lib.hid ((HRA2.out.set_ 0 (.int .i64 1)).cell 0)
  have HY1 := Lib.hid (((HRA2.out.set_ 0 (.int .i64 1)).set_ 1 (.int .u64 (virt : Nat))).cell 1)
  simp only [List.set_cons_zero, List.set_cons_succ, List.getElem?_cons_zero, List.getElem?_cons_succ] at HY0 HY1
  go_wp2_with fail
  refine bodyPost_ret (v := .tuple #[.int .u64 0, .agg #[.int .i64 1, .int .u64 (virt : Nat)]]) (by simp [results, Try.results17, go_sem, HY0.out, HY1.out]) rfl ⟨rfl, ?_⟩
  exact ((HB2.out.setCell (p := ⟨c, 0, none⟩) (Nat.le_of_eq HC.out.symm) _).setCell (p := ⟨c, 1, none⟩) (Nat.le_of_eq HC.out.symm) _)
set_option maxRecDepth 100000 in
set_option maxHeartbeats 1000000 in
theorem storeN_any (root virt v : Nat) (width : Int) (w : World) : Calls Try.prog 21 #[.nilIface, .int .u64 (root : Nat), .int .u64 (virt : Nat), .int .i64 width, .int .u64 (v : Nat)] w fun e w' => e = .returned (.agg #[.int .i64 1, .int .u64 (virt : Nat)]) ∧ Below w.heap.size w w' := by
  go_enter Try.func21, Try.ntmps21
  go_upto_region 1 with fail
  have hra := Row.new w 48 [.int .i64 0, .int .u64 0]
  have hb0 : Below w.heap.size w (w.alloc (.cells #[.int .i64 0, .int .u64 0] 48)) := (Below.refl _ _).alloc (Nat.le_refl _) _
  obtain ⟨c, hc⟩ : ∃ c, c = w.heap.size := ⟨_, rfl⟩
  generalize w.alloc (.cells #[.int .i64 0, .int .u64 0] 48) = w1 at *
  rw [← hc] at hra ⊢
  have HC := Lib.hid hc
  have HB0 := Lib.hid hb0
  have HRA := Lib.hid hra
  clear hra hb0 hc
  go_wp2_with fail
  refine (reachN_any root virt width 2 w1).mono ?_
  rintro e w2 ⟨rfl, hb2⟩
  have HRA2 := Lib.hid (HRA.out.below hb2 HRA.out.lt)
  have HB2 := Lib.hid (HB0.out.trans (hb2.mono HB0.out.size))
  clear hb2 HRA HB0
  go_upto_region 2 with fail
  have hr3 := Row.new w2 48 [.int .i64 1, .int .u64 (virt : Nat)]
  have hb3 : Below w2.heap.size w2 (w2.alloc (.cells #[.int .i64 1, .int .u64 (virt : Nat)] 48)) := (Below.refl _ _).alloc (Nat.le_refl _) _
  obtain ⟨c3, hc3⟩ : ∃ c3, c3 = w2.heap.size := ⟨_, rfl⟩
  generalize w2.alloc (.cells #[.int .i64 1, .int .u64 (virt : Nat)] 48) = w3 at *
  rw [← hc3] at hr3 ⊢
  have HR3 := Lib.hid hr3
  have HRC3 := Lib.hid (HRA2.out.below hb3 HRA2.out.lt)
  have HB3 := Lib.hid (HB2.out.trans (hb3.mono HB2.out.size))
  clear hr3 hb3 hc3 HRA2 HB2
  have q0 := HRC3.out.cell 0
  have q1 := HRC3.out.cell 1
  have la := HRC3.out.lt
  have y0 := HRC3.out.frozen 0
  have y1 := HRC3.out.frozen 1
  have t0 := HR3.out.cell 0
  have t1 := HR3.out.cell 1
  have lt := HR3.out.lt
  simp only [List.getElem?_cons_zero, List.getElem?_cons_succ] at q0 q1 t0 t1
  have HY0 := Lib.hid ((HRC3.out.set_ 0 (.int .i64 1)).cell 0)
  have HY1 := Lib.hid (((HRC3.out.set_ 0 (.int .i64 1)).set_ 1 (.int .u64 (virt : Nat))).cell 1)
  simp only [List.set_cons_zero, List.set_cons_succ, List.getElem?_cons_zero, List.getElem?_cons_succ] at HY0 HY1
  go_wp2_with fail
  go_loopw [25] (fun x wr => x = .int .i64 0 ∧ wr = w3) (fun x _ => 0)
  case atStart => exact ⟨rfl, rfl⟩
  case round =>
  obtain ⟨rfl, rfl⟩ := hrel
  go_wp2_with fail
  refine bodyPost_ret (v := .agg #[.int .i64 1, .int .u64 (virt : Nat)]) (by simp [results, Try.results21, go_sem, HY0.out, HY1.out]) rfl ⟨rfl, ?_⟩
  exact ((HB3.out.setCell (p := ⟨c, 0, none⟩) (Nat.le_of_eq HC.out.symm) _).setCell (p := ⟨c, 1, none⟩) (Nat.le_of_eq HC.out.symm) _)
end Go.Proofs.Ytfpofaniicegaaa
