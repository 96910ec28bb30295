/- Texts of this claim, one behind the other: LvD, LvE, QuR, RlD, RlE. -/
import Derived.Test.YtfpofaniicegaaaGreatJWalkForeign32
import Derived.Sort.CutIn
import Derived.Laws.EntriesVeiled
import Derived.Test.YtfpofaniicegaaaGreatJWalkForeign31
import Derived.Sort.BigQuietIn
import Derived.Test.YtfpofaniicegaaaGreatJWalkForeign27
import Derived.Test.YtfpofaniicegaaaGreatJWalkForeign29
import Derived.Laws.OwnMore
/- The walk of the function that Leaves hands back. -/
set_option linter.unusedVariables false
set_option linter.unusedSimpArgs false
namespace Go.Proofs.YtfpofaniicegaaaGreat
open Go.RowKit
open S64
open Bu
attribute [local go_sem] Oper.semAt_some
/-- how many cells of its own the iterator has -/
def lvM (root : Nat) : Nat := if root % 4096 = 0 then 3 else 2
set_option maxRecDepth 100000 in
set_option maxHeartbeats 4000000 in
theorem leaves1_seq {T : TypeId} {v : Value} {S : MemS} (hS : MemI S) (hC : EntC T v S) (Z R prot : Nat → Prop) (M : PM) (mb rb bb root : Nat) (most : Int) (n : Nat) (w : World) (hroot : root < 18446744073709551616) (hmost : most < 9223372036854775808) (hmost' : -9223372036854775808 ≤ most)
    (hp : ∀ k, Z k ∨ R k ∨ k = mb → prot k) (hmb : ¬ Z mb) (hpB : ∀ k, prot k → k < w.heap.size) (hm : ∃ s : Int, S Z R w (sM M s)) (hr1 : Row w mb 69 [.iface T v]) (hr2 : Row w rb 31 [.int .u64 (root : Nat)]) (hr3 : Row w bb 3 [.int .i64 most]) :
    SeqC Fence.wide n Tryz.prog 64 #[pmb bb, pmb mb, pmb rb] lvEnc Z prot (fun xs => xs = lvs M root most) (fun pre => pre <+: lvs M root most) (lvs M root most) (lvM root) (fun W => ∃ s : Int, S Z R W (sM M s)) w := by
  intro l J Jx W hb hJ hJx hY h0
  have hdd : ∀ k : Nat, (Fence.wide.depth.isSome = true → 1 ≤ k) := fun k h => by cases h
  obtain ⟨s0, hm0⟩ := hm
  have hmW := hS.below hm0 hb
  have hrW1 := hr1.below hb hr1.lt
  have hrW2 := hr2.below hb hr2.lt
  have hrW3 := hr3.below hb hr3.lt
  have hmbw : mb < W.heap.size := hrW1.lt
  have hpW : ∀ k, prot k → k < W.heap.size := fun k hk => Nat.lt_of_lt_of_le (hpB k hk) hb.size
  clear hm0 hr1 hr2 hr3 hb hpB
  have HS := Lib.hid hS; have HC := Lib.hid hC; have HP := Lib.hid hp; have HMB := Lib.hid hmb; have HPW := Lib.hid hpW; have HJ := Lib.hid hJ; have HJX := Lib.hid hJx; have HY := Lib.hid hY; have HM := Lib.hid hmW
  have HR1 := Lib.hid hrW1
  have HR2 := Lib.hid hrW2
  have H0 := Lib.hid h0
  have a1 := hrW1.cell 0
  have a2 := hrW2.cell 0
  have a3 := hrW3.cell 0
  have b1 := hrW1.lt
  have b2 := hrW2.lt
  have b3 := hrW3.lt
  simp only [List.getElem?_cons_zero] at a1 a2 a3
  clear hS hC hp hmb hpW hJ hJx hY hmW h0 hrW1 hrW2 hrW3
  unfold pmb
  simp only [List.append_toArray, List.cons_append, List.nil_append]
  refine callsIn_of_wp Tryz.func64 rfl trivial ?_ rfl
  simp only [Tryz.ntmps64, List.size_toArray, List.length_cons, List.length_nil, Nat.reduceAdd, Nat.reduceSub, Array.replicate_succ, Array.replicate_zero, List.push_toArray, List.append_toArray, List.nil_append, List.cons_append]
  have hsz1 : ((W.alloc (.cells #[.func (.yield l) #[] #[]] 142)).alloc (.cells #[.int .i64 most] 3)).heap.size = W.heap.size + 2 := by simp
  have hb1 : Below W.heap.size W ((W.alloc (.cells #[.func (.yield l) #[] #[]] 142)).alloc (.cells #[.int .i64 most] 3)) := ((Below.refl _ _).alloc (Nat.le_refl _) _).alloc (by simp) _
  have hry : Row ((W.alloc (.cells #[.func (.yield l) #[] #[]] 142)).alloc (.cells #[.int .i64 most] 3)) W.heap.size 142 [pyl l] := (Row.new W _ [pyl l]).alloc _
  have hrl : Row ((W.alloc (.cells #[.func (.yield l) #[] #[]] 142)).alloc (.cells #[.int .i64 most] 3)) (W.heap.size + 1) 3 [.int .i64 most] := by
    have h := Row.new (W.alloc (.cells #[.func (.yield l) #[] #[]] 142)) 3 [.int .i64 most]
    rw [show (W.alloc (.cells #[.func (.yield l) #[] #[]] 142)).heap.size = W.heap.size + 1 by simp] at h
    exact h
  have hj1 := HJ.out _ _ _ H0.out (ChgP.of_below hb1)
  have hm1 := HS.out.below HM.out hb1
  have hr1 := HR1.out.below hb1 HR1.out.lt
  have HB1 := Lib.hid hb1; have HRY := Lib.hid hry; have HRL := Lib.hid hrl; have HJ1 := Lib.hid hj1; have HM1 := Lib.hid hm1; have HSZ1 := Lib.hid hsz1; have HMM := Lib.hid hr1
  clear hb1 hry hrl hj1 hm1 hsz1 hr1
  by_cases q0 : most < 1
  · have HE : Hid (lvs M root most = []) := Lib.hid (by unfold lvs; rw [if_pos q0])
    gi_wp2_with fail
    refine bodyPost_ret (results_none rfl _ _ _) rfl ?_
    exact ⟨⟨_, rfl⟩, .inl ⟨[], HE.out.symm, HJ1.out⟩, ⟨s0, HM1.out⟩⟩
  obtain ⟨left, rfl⟩ : ∃ left : Nat, most = (left : Int) := ⟨most.toNat, by omega⟩
  have hl1 : 1 ≤ left := by omega
  by_cases q1 : root % 4096 = 0
  · have f1 : ((root : Int) % 4096 != 0) = false := by simp; omega
    have HE : Hid (lvs M root (left : Int) = (lvT M 3 0 root 0 left).1) := Lib.hid (by unfold lvs; rw [if_neg q0, if_neg (by omega)]; rfl)
    have HML : Hid (lvM root = 3) := Lib.hid (by unfold lvM; rw [if_pos q1])
    gi_upto_region 5 with fail
    generalize (W.alloc (.cells #[.func (.yield l) #[] #[]] 142)).alloc (.cells #[.int .i64 (left : Int)] 3) = w1 at *
    obtain ⟨B, hB⟩ : ∃ B, B = W.heap.size := ⟨_, rfl⟩
    rw [← hB] at HRY HRL HSZ1 HPW HJ hmbw ⊢
    have HW := Lib.hid hB
    clear hB
    have hs1 : w1.heap.size = B + 2 := HSZ1.out
    gi_upto_region 6 with fail
    try rw [hs1]
    have hb2 : Below w1.heap.size w1 (w1.alloc (.cells #[.nilFunc] 143)) := (Below.refl _ _).alloc (Nat.le_refl _) _
    have hrd := Row.new w1 143 [.nilFunc]
    rw [hs1] at hrd
    have hsz2 : (w1.alloc (.cells #[.nilFunc] 143)).heap.size = B + 3 := by simp [hs1]
    generalize w1.alloc (.cells #[.nilFunc] 143) = w2 at *
    have e0 := hrd.cell 0
    have ef := hrd.frozen 0
    have el := hrd.lt
    simp only [List.getElem?_cons_zero] at e0
    gi_upto_region 7 with fail
    have hy2 := HRY.out.below hb2 HRY.out.lt
    have hl2 := HRL.out.below hb2 HRL.out.lt
    have hmm2 := HMM.out.below hb2 HMM.out.lt
    have hj2 := HJ.out _ _ _ HJ1.out (ChgP.of_below hb2)
    have hm2 := HS.out.below HM1.out hb2
    have hc3 : ChgP (fun k => k = B + 2) w2 (w2.setCell ⟨B + 2, 0, none⟩ (.func (.func 65) #[] #[.pointer (some ⟨mb, 0, none⟩), .pointer (some ⟨B + 1, 0, none⟩), .pointer (some ⟨B + 2, 0, none⟩), .pointer (some ⟨B, 0, none⟩)])) := ChgP.set_ (Z := fun k => k = B + 2) (ChgP.refl _ w2) (p := ⟨B + 2, 0, none⟩) (.inl rfl) _
    have hd3 := hrd.set_ 0 (.func (.func 65) #[] #[.pointer (some ⟨mb, 0, none⟩), .pointer (some ⟨B + 1, 0, none⟩), .pointer (some ⟨B + 2, 0, none⟩), .pointer (some ⟨B, 0, none⟩)])
    simp only [List.set_cons_zero] at hd3
    generalize w2.setCell ⟨B + 2, 0, none⟩ (.func (.func 65) #[] #[.pointer (some ⟨mb, 0, none⟩), .pointer (some ⟨B + 1, 0, none⟩), .pointer (some ⟨B + 2, 0, none⟩), .pointer (some ⟨B, 0, none⟩)]) = w3 at *
    have hz3 : ∀ k, Z k ∨ R k → k < B := fun k hk => HPW.out k (HP.out k (hk.elim .inl (fun h => .inr (.inl h))))
    have hit : Itr S Z R M T v mb B l left w3 := ⟨⟨s0, HS.out.chg hm2 hc3 (fun k hk hk2 => by have := hz3 k hk; omega)⟩, hc3.row hmm2 (by omega), hc3.row hy2 (by omega), hc3.row hl2 (by omega), hd3⟩
    have hj3 := HJ.out _ _ _ hj2 (hc3.mono (fun k hk => .inl (.inr (by rw [HML.out]; omega))))
    have hsz3 : B + 3 ≤ w3.heap.size := by have := hc3.size; omega
    have hdn := under_in HS.out HC.out Z R prot M mb B l (lvs M root (left : Int)) HP.out HMB.out HPW.out J Jx (by rw [← HML.out]; exact HJ.out)
      (fun pre x W1 h1 h2 h3 => by
        have h := YieldAt.any 0 (HY.out pre x W1 h1 h2 (by rw [HML.out, ← HW.out]; exact h3))
        rw [HML.out, ← HW.out] at h
        exact h)
      3 0 root 0 left (n - 1) [] w3 rfl (by omega) (by omega) (by unfold Bu.rch; decide) hl1 (by omega) hit hj3 (by rw [HE.out]; simp) hsz3
    rw [← HE.out] at hdn
    simp only [List.nil_append] at hdn
    unfold pmb at hdn
    have HDN := Lib.hid hdn
    have e1 := hd3.cell 0
    have e1l := hd3.lt
    simp only [List.getElem?_cons_zero] at e1
    have a2' : w3.cell? ⟨rb, 0, none⟩ = some (.int .u64 (root : Nat)) := by
      have h := hc3.row ((HR2.out.below HB1.out HR2.out.lt).below hb2 (HR2.out.below HB1.out HR2.out.lt).lt) (by have := HR2.out.lt; rw [← HW.out] at this; omega)
      exact h.cell 0
    clear hdn hy2 hl2 hmm2 hj2 hm2 hc3 hd3 hit hj3 hsz3 e0 ef el hrd hb2
    gi_wp2_with fail
    refine ⟨trivial, hdd _, HDN.out.mono ?_⟩
    rintro e w7 ⟨_, (⟨rfl, hj7, hit7⟩ | ⟨rfl, q, hq, hjx, hm7⟩)⟩
    · have HX7 := Lib.hid (And.intro hj7 hit7.mach)
      clear hj7 hit7
      gi_wp2_with fail
      go_end0
      exact ⟨⟨_, rfl⟩, .inl ⟨_, rfl, HX7.out.1⟩, HX7.out.2⟩
    · have HX7 := Lib.hid (And.intro hq (And.intro hjx hm7))
      clear hq hjx hm7
      gi_wp2_with fail
      go_end0
      exact ⟨⟨_, rfl⟩, .inr ⟨q, HX7.out.1, HX7.out.2.1⟩, HX7.out.2.2⟩
  · have f1 : ((root : Int) % 4096 != 0) = true := by simp; omega
    have HE : Hid (lvs M root (left : Int) = [⟨0, 0, 134217728, false, false, false, 42⟩]) := Lib.hid (by unfold lvs; rw [if_neg q0, if_pos q1])
    have HML : Hid (lvM root = 2) := Lib.hid (by unfold lvM; rw [if_neg q1])
    have hy0 := HY.out [] ⟨0, 0, 134217728, false, false, false, 42⟩ _ HJ1.out (by rw [HE.out]; simp) (by rw [HML.out, HSZ1.out]; exact Nat.le_refl _)
    obtain ⟨fn, tmps, assign, body, hy, hR⟩ := YieldAt.any (n - 1) hy0
    rw [show lvEnc ⟨0, 0, 134217728, false, false, false, 42⟩ = #[.agg #[.int .u64 0, .int .u64 0, .int .i64 134217728, .bool false, .bool false, .bool false], .int .i64 42] from rfl] at hy
    clear hy0
    have y0 := HRY.out.cell 0
    have yl := HRY.out.lt
    simp only [List.getElem?_cons_zero] at y0
    unfold pyl at y0
    gi_wp2_with fail
    refine ⟨hdd _, hR.mono ?_⟩
    have hkm : ∀ w7, KpC (upTo prot W.heap.size (lvM root)) ((W.alloc (.cells #[.func (.yield l) #[] #[]] 142)).alloc (.cells #[.int .i64 (left : Int)] 3)) w7 → S Z R w7 (sM M s0) := fun w7 hk => HS.out.chg HM1.out hk (fun k hz hn => hn (.inl (HP.out k (hz.elim .inl (fun h => .inr (.inl h))))))
    rintro e w7 (⟨rfl, hj7, hk7⟩ | ⟨rfl, hjx, hk7⟩)
    · have HX7 : Hid (J [⟨0, 0, 134217728, false, false, false, 42⟩] w7 ∧ S Z R w7 (sM M s0)) := Lib.hid ⟨hj7, hkm w7 hk7⟩
      clear hj7 hk7 hkm hy hR
      gi_wp2_with fail
      refine bodyPost_ret (results_none rfl _ _ _) rfl ?_
      exact ⟨⟨_, rfl⟩, .inl ⟨_, HE.out.symm, HX7.out.1⟩, ⟨s0, HX7.out.2⟩⟩
    · have HX7 : Hid (Jx [⟨0, 0, 134217728, false, false, false, 42⟩] w7 ∧ S Z R w7 (sM M s0)) := Lib.hid ⟨hjx, hkm w7 hk7⟩
      clear hjx hk7 hkm hy hR
      gi_wp2_with fail
      refine bodyPost_ret (results_none rfl _ _ _) rfl ?_
      exact ⟨⟨_, rfl⟩, .inr ⟨_, by rw [HE.out]; exact List.prefix_rfl, HX7.out.1⟩, ⟨s0, HX7.out.2⟩⟩
end Go.Proofs.YtfpofaniicegaaaGreat

/- The walk of walk.Leaves. -/
set_option linter.unusedVariables false
set_option linter.unusedSimpArgs false
namespace Go.Proofs.YtfpofaniicegaaaGreat
open Go.RowKit
open S64
open Bu
/-- the three boxes that Leaves lays -/
def lvW (w : World) (m : Value) (root : Nat) (most : Int) : World := ((w.alloc (.cells #[m] 69)).alloc (.cells #[.int .u64 (root : Nat)] 31)).alloc (.cells #[.int .i64 most] 3)
def lvF (B : Nat) : Value := .func (.func 64) #[] #[pmb (B + 2), pmb B, pmb (B + 1)]
theorem leaves_any (T : TypeId) (v : Value) (root : Nat) (most : Int) (w : World) : Calls Tryz.prog 47 #[(.iface T v), .int .u64 (root : Nat), .int .i64 most] w fun e w' => e = .returned (lvF w.heap.size) ∧ w' = lvW w (.iface T v) root most := by
  go_enter Tryz.func47, Tryz.ntmps47
  go_wp2_with fail
  refine bodyPost_ret (v := lvF w.heap.size) (by simp [results, Tryz.results47, go_sem, lvF, pmb]) rfl ⟨rfl, rfl⟩
theorem leavesN_any (root : Nat) (most : Int) (w : World) : Calls Tryz.prog 47 #[.nilIface, .int .u64 (root : Nat), .int .i64 most] w fun e w' => e = .returned (lvF w.heap.size) ∧ w' = lvW w .nilIface root most := by
  go_enter Tryz.func47, Tryz.ntmps47
  go_wp2_with fail
  refine bodyPost_ret (v := lvF w.heap.size) (by simp [results, Tryz.results47, go_sem, lvF, pmb]) rfl ⟨rfl, rfl⟩
theorem lvW_rows (w : World) (m : Value) (root : Nat) (most : Int) : (lvW w m root most).heap.size = w.heap.size + 3 ∧ Below w.heap.size w (lvW w m root most) ∧ Row (lvW w m root most) w.heap.size 69 [m] ∧ Row (lvW w m root most) (w.heap.size + 1) 31 [.int .u64 (root : Nat)] ∧ Row (lvW w m root most) (w.heap.size + 2) 3 [.int .i64 most] := by
  unfold lvW
  refine ⟨by simp, (((Below.refl _ _).alloc (Nat.le_refl _) _).alloc (by simp) _).alloc (by simp; omega) _, ((Row.new w _ [m]).alloc _).alloc _, ?_, ?_⟩
  · have h := Row.new (w.alloc (.cells #[m] 69)) 31 [.int .u64 (root : Nat)]
    rw [show (w.alloc (.cells #[m] 69)).heap.size = w.heap.size + 1 by simp] at h
    exact h.alloc _
  · have h := Row.new ((w.alloc (.cells #[m] 69)).alloc (.cells #[.int .u64 (root : Nat)] 31)) 3 [.int .i64 most]
    rw [show ((w.alloc (.cells #[m] 69)).alloc (.cells #[.int .u64 (root : Nat)] 31)).heap.size = w.heap.size + 2 by simp] at h
    exact h
end Go.Proofs.YtfpofaniicegaaaGreat

/- A region that draws its order and only reads, inside a round of a range over a function: one walk. -/
set_option linter.unusedVariables false
set_option linter.unusedSimpArgs false
namespace Go.Proofs.YtfpofaniicegaaaGreat
open Go.RowKit
/-- no operation is a deferred call -/
def noDefer (l : List Oper) : Bool := l.all fun o => match o.op with | .defer _ => false | _ => true
theorem noDefer_at {l : List Oper} (h : noDefer l = true) : ∀ o ∈ l, ∀ c, o.op ≠ .defer c := by
  intro o ho c hc
  have := List.all_eq_true.1 h o ho
  rw [hc] at this
  cases this
section
variable {F : Fence} {n : Nat} {P : Program} {ops : Array Oper} {md : Region.Mode} {C : World → Prop}
theorem wpIn_of_quietR {o : Oper} {a : Act} {K : Act → Prop} {K' : Act → World → Prop} {Q' : Exit → Act → World → Prop} {w : World} (hd : ∀ c, o.op ≠ .defer c) (hw : C w) (h : ∀ a w', C w' → K a → K' a w')
    (ha : o.askedIn F P a C) (hh : o.quietIn F n P a C K) : o.wpIn F n P a w K' Q' := by
  obtain ⟨v, h1, h2⟩ := hh
  have h3 := h1 w hw
  unfold Oper.quietAtIn at h3
  unfold Oper.wpIn
  refine ⟨ha w hw, ?_⟩
  rw [Oper.semAt_eq _ _ _ hd]
  generalize (execOp a.eval o).run P w = r at *
  cases r with
  | ok x w' =>
    cases x <;> simp only [Oper.quietUponIn] at h3 <;> simp only [Oper.uponIn]
    case value u =>
      obtain ⟨e1, e2⟩ := h3
      rw [e1, e2]
      exact h _ _ hw h2
    case skip =>
      obtain ⟨e1, e2⟩ := h3
      rw [e1, ← e2]
      exact h _ _ hw h2
    case enter f args =>
      obtain ⟨e1, hd, hc⟩ := h3
      rw [e1]
      exact ⟨hd, hc.mono fun e w'' ⟨he, hw''⟩ => by subst he; exact h _ _ hw'' h2⟩
  | halt x w' => simp only [Oper.quietUponIn] at h3
theorem wpOpIn_of_qOpInR {i : Nat} {a : Act} {K : Act → Prop} {K' : Act → World → Prop} {Q' : Exit → Act → World → Prop} {w : World} (hd : ∀ (i : Nat) (o : Oper), ops[i]? = some o → ∀ c, o.op ≠ .defer c) (hC : C w) (h : ∀ a w', C w' → K a → K' a w')
    (hh : qOpIn F n P ops C i K a) : wpOpIn F n P ops Q' i K' a w := by
  unfold qOpIn at hh
  unfold wpOpIn
  split
  · rename_i ho; simp only [ho] at hh; exact h _ _ hC hh
  · rename_i o ho
    simp only [ho] at hh
    obtain ⟨ha, hh⟩ := hh
    split
    · rename_i hw; simp only [hw, if_true] at hh; exact wpIn_of_quietR (hd i o ho) hC h ha hh
    · rename_i hw; simp only [hw] at hh; exact ⟨ha w hC, h _ _ hC hh⟩
theorem wpAnyIn_of_quietR {Q : Act → Prop} {Q' : Exit → Act → World → Prop} (hd : ∀ (i : Nat) (o : Oper), ops[i]? = some o → ∀ c, o.op ≠ .defer c) (hQ : ∀ a w, C w → Q a → Q' .normal a w) : ∀ (fuel : Nat) (listed : Array Bool) (a : Act) (w : World), C w →
    wpAnyQIn F n P md ops C Q fuel listed a → wpAnyIn F n P md ops Q' fuel listed a w
  | 0, _, _, _, hw, h => ⟨h.1, hQ _ _ hw h.2⟩
  | fuel + 1, _, _, _, hw, h => ⟨fun h0 => hQ _ _ hw (h.1 h0), fun i hi => wpOpIn_of_qOpInR hd hw (fun a' w' hw' => wpAnyIn_of_quietR hd hQ fuel _ a' w' hw') (h.2 i hi)⟩
theorem wpIn_region_quietR {id : Nat} {Q : Exit → Act → World → Prop} {a : Act} {w : World} {l : List Oper} (hd : noDefer l = true) (hm : P.follows .mixedOrders = true) (hB : Region.lexB .any l.toArray = true)
    (h : wpQuietIn F n P l.toArray (fun w' => ∃ n, w' = w.drewN n) (fun a' => ∀ w', (∃ n, w' = w.drewN n) → Q .normal a' w') l a) : (Code.region id l.toArray true).wpIn F n P Q a w := by
  simp only [Region.lexB, Bool.and_eq_true] at hB
  refine wpIn_region_any hm (wpAnyIn_of_quietR (C := fun w' => ∃ n, w' = w.drewN n) (Q := fun a' => ∀ w', (∃ n, w' = w.drewN n) → Q .normal a' w') (fun i o ho => noDefer_at hd o (List.mem_of_getElem? (by simpa using ho))) (fun _ w' hw' h => h w' hw') _ _ _ _ ⟨1, rfl⟩ ?_)
  have := wpAnyQIn_lex (F := F) (n := n) (C := fun w' => ∃ n, w' = w.drewN n) (md := .any) hB.1 l 0 (Array.replicate l.length false) a (by simp) (by simpa using hB.2) h
  simpa using this
end
end Go.Proofs.YtfpofaniicegaaaGreat

/- The walk of mapped: is an address within a leaf translated as the leaf says? -/
set_option linter.unusedVariables false
set_option linter.unusedSimpArgs false
namespace Go.Proofs.YtfpofaniicegaaaGreat
open Go.RowKit
open S64
namespace Bu
/-- three faults and a leaf lie in cells -/
structure Lain (g : Nat) (Z R : Nat → Prop) (M : PM) (w0 wr : World) (c7 c12 c14 c16 : Nat) (l : Lv) (f1 f2 f3 : Nat × Nat) : Prop where
  m : ∃ s ld, MZ Z R wr g (cM M s ld)
  c : ChgP Z w0 wr
  r7 : Row wr c7 116 [.int .u64 (l.v : Nat), .int .u64 (l.p : Nat), .int .i64 (l.n : Nat), .bool l.b, .bool l.w, .bool l.x]
  r12 : Row wr c12 57 [.int .i64 (f1.1 : Nat), .int .u64 (f1.2 : Nat)]
  r14 : Row wr c14 57 [.int .i64 (f2.1 : Nat), .int .u64 (f2.2 : Nat)]
  r16 : Row wr c16 57 [.int .i64 (f3.1 : Nat), .int .u64 (f3.2 : Nat)]
end Bu
end Go.Proofs.YtfpofaniicegaaaGreat

/- What WalkLeaves collects: leaves and their refusals, in two lists. -/
set_option linter.unusedVariables false
set_option linter.unusedSimpArgs false
namespace Go.Proofs.YtfpofaniicegaaaGreat
open Go.RowKit
open S64
namespace Bu
def lvC (l : Lv) : List Value := [.int .u64 (l.v : Nat), .int .u64 (l.p : Nat), .int .i64 (l.n : Nat), .bool l.b, .bool l.w, .bool l.x]
def lvAll (L : List Lv) : List Value := L.flatMap lvC
def noV (l : Lv) : Value := .int .i64 (l.no : Nat)
theorem lvAll_snoc (L : List Lv) (x : Lv) : lvAll (L ++ [x]) = lvAll L ++ lvC x := by simp [lvAll]
theorem noAll_snoc (L : List Lv) (x : Lv) : (L ++ [x]).map noV = L.map noV ++ [noV x] := by simp
theorem oneCell_lv (l : Lv) : ∀ v ∈ lvC l, v.oneCell' = true := by
  intro u hu
  simp only [lvC, List.mem_cons, List.not_mem_nil, or_false] at hu
  rcases hu with rfl | rfl | rfl | rfl | rfl | rfl <;> rfl
theorem lvAll_at : ∀ (L : List Lv) (k j : Nat) (x : Lv), L[k]? = some x → j < 6 → (lvAll L)[k * 6 + j]? = (lvC x)[j]?
  | [], k, j, a, h, _ => by simp at h
  | y :: L, 0, j, a, h, hj => by
    simp at h; subst h
    unfold lvAll
    rw [List.flatMap_cons, Nat.zero_mul, Nat.zero_add, List.getElem?_append_left (by simp [lvC]; omega)]
  | y :: L, k + 1, j, a, h, hj => by
    have hl : (lvC y).length = 6 := rfl
    have := lvAll_at L k j a (by simpa using h) hj
    unfold lvAll at this ⊢
    rw [List.flatMap_cons, List.getElem?_append_right (by rw [hl]; omega), hl, show (k + 1) * 6 + j - 6 = k * 6 + j by omega]
    exact this
/-- two lists of two kinds lie apart -/
theorem Col.apart {lo lo' n n' s s' : Nat} {t t' : TypeId} {W : World} {v v' : Value} {xs xs' : List Value} (h : W.ownsRow lo t s v n xs) (h' : W.ownsRow lo' t' s' v' n' xs') (ht : t ≠ t') (k : Nat) (h1 : v.ownBlock = some k) (h2 : v'.ownBlock = some k) : False := by
  rcases h.2 with ⟨hv, _⟩ | ⟨g, cap, cur, hv, _, hh, _⟩
  · rw [hv] at h1; simp [Value.ownBlock] at h1
  · rcases h'.2 with ⟨hv', _⟩ | ⟨g', cap', cur', hv', _, hh', _⟩
    · rw [hv'] at h2; simp [Value.ownBlock] at h2
    · rw [hv] at h1; rw [hv'] at h2
      have e1 : g = k := by simpa [Value.ownBlock] using h1
      have e2 : g' = k := by simpa [Value.ownBlock] using h2
      rw [e1] at hh; rw [e2, hh] at hh'
      injection hh' with hh'
      injection hh' with _ hh'
      exact ht hh'
def colA (lo : Nat) (a : Act) (x : Lv) (a' : Act) (W : World) : Prop := ∃ Bx, lo ≤ Bx ∧ Row W Bx 116 (lvC x) ∧ a' = { tmps := (((a.tmps.setIfInBounds 54 (lvV x)).setIfInBounds 55 (.int .i64 (x.no : Nat))).setIfInBounds 16 (.pointer (some ⟨Bx, 0, none⟩))).setIfInBounds 17 (.int .i64 (x.no : Nat)), defers := [] }
theorem colA_ab {lo : Nat} {a : Act} {x : Lv} {a' : Act} {T : Nat → Prop} (h3 : ∀ k, lo ≤ k → ¬ T k) : AbC T (fun (_ : Unit) W => colA lo a x a' W) := by
  rintro _ W W' ⟨Bx, h1, h2, h⟩ hc
  exact ⟨Bx, h1, hc.row h2 (h3 _ h1), h⟩
theorem reads_lv (w : World) (l : Lv) : ∀ (j : Nat) (u : Value), (lvC l)[j]? = some u → (w.alloc (.cells (lvC l).toArray 116)).cell? ((⟨w.heap.size, 0, none⟩ : Addr).add j) = some u := by
  intro j u hu
  have h := (Row.new w 116 (lvC l)).cell j
  unfold Addr.add
  split
  · rename_i h0; subst h0; rw [h]; exact hu
  · rw [Nat.zero_add, h]; exact hu
theorem reads_no (w : World) (l : Lv) : ∀ (j : Nat) (u : Value), [noV l][j]? = some u → (w.alloc (.cells #[noV l] 55)).cell? ((⟨w.heap.size, 0, none⟩ : Addr).add j) = some u := by
  intro j u hu
  have h := (Row.new w 55 [noV l]).cell j
  unfold Addr.add
  split
  · rename_i h0; subst h0; rw [h]; exact hu
  · rw [Nat.zero_add, h]; exact hu
theorem oneCell_no (l : Lv) : ∀ v ∈ [noV l], v.oneCell' = true := by
  intro u hu
  simp only [List.mem_cons, List.not_mem_nil, or_false] at hu
  subst hu; rfl
/-- a leaf that has an address is found -/
theorem Rises.find {a b : Nat} {L : List Lv} (h : Rises a b L) {x : Lv} (hx : x ∈ L) {v : Nat} (hv : x.v ≤ v ∧ v < x.hi) : L.find? (·.has v) = some x := by
  induction L with
  | nil => cases hx
  | cons y L ih =>
    have hp := List.pairwise_cons.1 h.1
    rw [List.find?_cons]
    rcases List.mem_cons.1 hx with rfl | hx
    · rw [show Lv.has x v = true by unfold Lv.has; simpa using hv]
    · have h1 := hp.1 x hx
      rw [show Lv.has y v = false by unfold Lv.has; simp only [decide_eq_false_iff_not]; omega]
      exact ih ⟨hp.2, fun l hl => h.2 l (List.mem_cons_of_mem _ hl)⟩ hx
theorem wl_says {M : PM} {root : Nat} (h : endsI M root 3000 = true) : Rises 0 549755813888 (lvs M root 3000) ∧
    (∀ x ∈ lvs M root 3000, ∀ v, x.v ≤ v → v < x.hi → ∀ access, 1 ≤ access ∧ access ≤ 3 → trI M root v access = x.say v access) ∧
    (∀ v, v < 549755813888 → (∀ x ∈ lvs M root 3000, ¬ (x.v ≤ v ∧ v < x.hi)) → ∀ access, 1 ≤ access ∧ access ≤ 3 → trI M root v access = (0, 41)) := by
  have he : lvEnds M root 3000 = true := h
  obtain ⟨h1, h2⟩ := lvs_says (M := M) (root := root) (most := 3000) (by decide) he
  have e : ((3000 : Nat) : Int) = 3000 := rfl
  rw [e] at h1 h2
  refine ⟨h1, fun x hx v ha hb access hac => ?_, fun v hv hno access hac => ?_⟩
  · have := (h1.2 x hx).2.1
    rw [h2 v (by omega) access hac]
    unfold askL
    rw [h1.find hx ⟨ha, hb⟩]
  · rw [h2 v hv access hac]
    unfold askL
    rw [List.find?_eq_none.2 (fun x hx hh => hno x hx (by unfold Lv.has at hh; simpa using hh))]
/-- what a look at a leaf reads -/
structure WR (gl : Nat) (ga gb c c' n i : Nat) (x : Lv) (W : World) : Prop where
  l0 : W.cell? ⟨gl, 0, none⟩ = some (.slice (some ⟨ga, 0, none⟩) n c)
  w0 : W.cell? ⟨gl + 1, 0, none⟩ = some (.slice (some ⟨gb, 0, none⟩) n c')
  x0 : W.cell? ⟨ga, i * 6, none⟩ = some (.int .u64 (x.v : Nat))
  x1 : W.cell? ⟨ga, i * 6 + 1, none⟩ = some (.int .u64 (x.p : Nat))
  x2 : W.cell? ⟨ga, i * 6 + 2, none⟩ = some (.int .i64 (x.n : Nat))
  x3 : W.cell? ⟨ga, i * 6 + 3, none⟩ = some (.bool x.b)
  x4 : W.cell? ⟨ga, i * 6 + 4, none⟩ = some (.bool x.w)
  x5 : W.cell? ⟨ga, i * 6 + 5, none⟩ = some (.bool x.x)
  y : W.cell? ⟨gb, i, none⟩ = some (.int .i64 (x.no : Nat))
theorem infoLv : (Tryz.prog.info? 116).map (fun i => (i.zero, i.size, i.bytes)) = some (some (.agg #[.int .u64 0, .int .u64 0, .int .i64 0, .bool false, .bool false, .bool false]), 6, 32) := by kernel_rfl
theorem infoNo : (Tryz.prog.info? 55).map (fun i => (i.zero, i.size, i.bytes)) = some (some (.int .i64 0), 1, 8) := by kernel_rfl
end Bu
end Go.Proofs.YtfpofaniicegaaaGreat
