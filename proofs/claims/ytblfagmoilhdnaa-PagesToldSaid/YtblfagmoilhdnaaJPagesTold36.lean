/- Texts of this claim, one behind the other: LvD, LvE, PtA, PtB. -/
import Derived.Test.YtblfagmoilhdnaaJPagesTold35
import Derived.Sort.CutIn
import Derived.Laws.EntriesVeiled
import Derived.Test.YtblfagmoilhdnaaJPagesTold33
import Derived.Test.YtblfagmoilhdnaaJPagesTold34
import Derived.Test.YtblfagmoilhdnaaJPagesTold20
import Derived.Test.YtblfagmoilhdnaaJPagesTold25
/- The walk of the function that Leaves hands back. -/
set_option linter.unusedVariables false
set_option linter.unusedSimpArgs false
namespace Go.Proofs.Ytblfagmoilhdnaa
open Go.RowKit
open S64
open Bu
attribute [local go_sem] Oper.semAt_some
/-- how many cells of its own the iterator has -/
def lvM (root : Nat) : Nat := if root % 4096 = 0 then 3 else 2
set_option maxRecDepth 100000 in
set_option maxHeartbeats 4000000 in
theorem leaves1_seq {T : TypeId} {v : Value} {S : MemS} (hS : MemI S) (hC : EntC T v S) (Z R prot : Nat → Prop) (M : PM) (mb rb bb root : Nat) (most : Int) (n : Nat) (w : World) (hroot : root < 18446744073709551616) (hmost : most < 9223372036854775808) (hmost' : -9223372036854775808 ≤ most)
    (hp : ∀ k, Z k ∨ R k ∨ k = mb → prot k) (hmb : ¬ Z mb) (hpB : ∀ k, prot k → k < w.heap.size) (hm : ∃ s : Int, S Z R w (sM M s)) (hr1 : Row w mb 156 [.iface T v]) (hr2 : Row w rb 22 [.int .u64 (root : Nat)]) (hr3 : Row w bb 3 [.int .i64 most]) :
    SeqC Fence.wide n Try.prog 80 #[pmb bb, pmb mb, pmb rb] lvEnc Z prot (fun xs => xs = lvs M root most) (fun pre => pre <+: lvs M root most) (lvs M root most) (lvM root) (fun W => ∃ s : Int, S Z R W (sM M s)) w := by
  intro l J Jx W hb hJ hJx hY h0
  have hdd : ∀ k : Nat, (Fence.wide.depth.isSome = true → 1 ≤ k) := fun k h => by cases h
  obtain ⟨s0, hm0⟩ := hm
  have hmW := hS.below hm0 hb
  have hrW1 := hr1.below hb hr1.lt
  have hrW2 := hr2.below hb hr2.lt
  have hrW3 := hr3.below hb hr3.lt
  have hmbw : mb < W.heap.size := hrW1.lt
  have hpW : ∀ k, prot k → k < W.heap.size := fun k hk => Nat.lt_of_lt_of_le (hpB k hk) hb.size
  clear hm0 hr1 hr2 hr3 hb hpB
  have HS := Lib.hid hS; have HC := Lib.hid hC; have HP := Lib.hid hp; have HMB := Lib.hid hmb; have HPW := Lib.hid hpW; have HJ := Lib.hid hJ; have HJX := Lib.hid hJx; have HY := Lib.hid hY; have HM := Lib.hid hmW
  have HR1 := Lib.hid hrW1
  have HR2 := Lib.hid hrW2
  have H0 := Lib.hid h0
  have a1 := hrW1.cell 0
  have a2 := hrW2.cell 0
  have a3 := hrW3.cell 0
  have b1 := hrW1.lt
  have b2 := hrW2.lt
  have b3 := hrW3.lt
  simp only [List.getElem?_cons_zero] at a1 a2 a3
  clear hS hC hp hmb hpW hJ hJx hY hmW h0 hrW1 hrW2 hrW3
  unfold pmb
  simp only [List.append_toArray, List.cons_append, List.nil_append]
  refine callsIn_of_wp Try.func80 rfl trivial ?_ rfl
  simp only [Try.ntmps80, List.size_toArray, List.length_cons, List.length_nil, Nat.reduceAdd, Nat.reduceSub, Array.replicate_succ, Array.replicate_zero, List.push_toArray, List.append_toArray, List.nil_append, List.cons_append]
  have hsz1 : ((W.alloc (.cells #[.func (.yield l) #[] #[]] 160)).alloc (.cells #[.int .i64 most] 3)).heap.size = W.heap.size + 2 := by simp
  have hb1 : Below W.heap.size W ((W.alloc (.cells #[.func (.yield l) #[] #[]] 160)).alloc (.cells #[.int .i64 most] 3)) := ((Below.refl _ _).alloc (Nat.le_refl _) _).alloc (by simp) _
  have hry : Row ((W.alloc (.cells #[.func (.yield l) #[] #[]] 160)).alloc (.cells #[.int .i64 most] 3)) W.heap.size 160 [pyl l] := (Row.new W _ [pyl l]).alloc _
  have hrl : Row ((W.alloc (.cells #[.func (.yield l) #[] #[]] 160)).alloc (.cells #[.int .i64 most] 3)) (W.heap.size + 1) 3 [.int .i64 most] := by
    have h := Row.new (W.alloc (.cells #[.func (.yield l) #[] #[]] 160)) 3 [.int .i64 most]
    rw [show (W.alloc (.cells #[.func (.yield l) #[] #[]] 160)).heap.size = W.heap.size + 1 by simp] at h
    exact h
  have hj1 := HJ.out _ _ _ H0.out (ChgP.of_below hb1)
  have hm1 := HS.out.below HM.out hb1
  have hr1 := HR1.out.below hb1 HR1.out.lt
  have HB1 := Lib.hid hb1; have HRY := Lib.hid hry; have HRL := Lib.hid hrl; have HJ1 := Lib.hid hj1; have HM1 := Lib.hid hm1; have HSZ1 := Lib.hid hsz1; have HMM := Lib.hid hr1
  clear hb1 hry hrl hj1 hm1 hsz1 hr1
  by_cases q0 : most < 1
  · have HE : Hid (lvs M root most = []) := Lib.hid (by unfold lvs; rw [if_pos q0])
    gi_wp2_with fail
    refine bodyPost_ret (results_none rfl _ _ _) rfl ?_
    exact ⟨⟨_, rfl⟩, .inl ⟨[], HE.out.symm, HJ1.out⟩, ⟨s0, HM1.out⟩⟩
  obtain ⟨left, rfl⟩ : ∃ left : Nat, most = (left : Int) := ⟨most.toNat, by omega⟩
  have hl1 : 1 ≤ left := by omega
  by_cases q1 : root % 4096 = 0
  · have f1 : ((root : Int) % 4096 != 0) = false := by simp; omega
    have HE : Hid (lvs M root (left : Int) = (lvT M 3 0 root 0 left).1) := Lib.hid (by unfold lvs; rw [if_neg q0, if_neg (by omega)]; rfl)
    have HML : Hid (lvM root = 3) := Lib.hid (by unfold lvM; rw [if_pos q1])
    gi_upto_region 5 with fail
    generalize (W.alloc (.cells #[.func (.yield l) #[] #[]] 160)).alloc (.cells #[.int .i64 (left : Int)] 3) = w1 at *
    obtain ⟨B, hB⟩ : ∃ B, B = W.heap.size := ⟨_, rfl⟩
    rw [← hB] at HRY HRL HSZ1 HPW HJ hmbw ⊢
    have HW := Lib.hid hB
    clear hB
    have hs1 : w1.heap.size = B + 2 := HSZ1.out
    gi_upto_region 6 with fail
    try rw [hs1]
    have hb2 : Below w1.heap.size w1 (w1.alloc (.cells #[.nilFunc] 161)) := (Below.refl _ _).alloc (Nat.le_refl _) _
    have hrd := Row.new w1 161 [.nilFunc]
    rw [hs1] at hrd
    have hsz2 : (w1.alloc (.cells #[.nilFunc] 161)).heap.size = B + 3 := by simp [hs1]
    generalize w1.alloc (.cells #[.nilFunc] 161) = w2 at *
    have e0 := hrd.cell 0
    have ef := hrd.frozen 0
    have el := hrd.lt
    simp only [List.getElem?_cons_zero] at e0
    gi_upto_region 7 with fail
    have hy2 := HRY.out.below hb2 HRY.out.lt
    have hl2 := HRL.out.below hb2 HRL.out.lt
    have hmm2 := HMM.out.below hb2 HMM.out.lt
    have hj2 := HJ.out _ _ _ HJ1.out (ChgP.of_below hb2)
    have hm2 := HS.out.below HM1.out hb2
    have hc3 : ChgP (fun k => k = B + 2) w2 (w2.setCell ⟨B + 2, 0, none⟩ (.func (.func 81) #[] #[.pointer (some ⟨mb, 0, none⟩), .pointer (some ⟨B + 1, 0, none⟩), .pointer (some ⟨B + 2, 0, none⟩), .pointer (some ⟨B, 0, none⟩)])) := ChgP.set_ (Z := fun k => k = B + 2) (ChgP.refl _ w2) (p := ⟨B + 2, 0, none⟩) (.inl rfl) _
    have hd3 := hrd.set_ 0 (.func (.func 81) #[] #[.pointer (some ⟨mb, 0, none⟩), .pointer (some ⟨B + 1, 0, none⟩), .pointer (some ⟨B + 2, 0, none⟩), .pointer (some ⟨B, 0, none⟩)])
    simp only [List.set_cons_zero] at hd3
    generalize w2.setCell ⟨B + 2, 0, none⟩ (.func (.func 81) #[] #[.pointer (some ⟨mb, 0, none⟩), .pointer (some ⟨B + 1, 0, none⟩), .pointer (some ⟨B + 2, 0, none⟩), .pointer (some ⟨B, 0, none⟩)]) = w3 at *
    have hz3 : ∀ k, Z k ∨ R k → k < B := fun k hk => HPW.out k (HP.out k (hk.elim .inl (fun h => .inr (.inl h))))
    have hit : Itr S Z R M T v mb B l left w3 := ⟨⟨s0, HS.out.chg hm2 hc3 (fun k hk hk2 => by have := hz3 k hk; omega)⟩, hc3.row hmm2 (by omega), hc3.row hy2 (by omega), hc3.row hl2 (by omega), hd3⟩
    have hj3 := HJ.out _ _ _ hj2 (hc3.mono (fun k hk => .inl (.inr (by rw [HML.out]; omega))))
    have hsz3 : B + 3 ≤ w3.heap.size := by have := hc3.size; omega
    have hdn := under_in HS.out HC.out Z R prot M mb B l (lvs M root (left : Int)) HP.out HMB.out HPW.out J Jx (by rw [← HML.out]; exact HJ.out)
      (fun pre x W1 h1 h2 h3 => by
        have h := YieldAt.any 0 (HY.out pre x W1 h1 h2 (by rw [HML.out, ← HW.out]; exact h3))
        rw [HML.out, ← HW.out] at h
        exact h)
      3 0 root 0 left (n - 1) [] w3 rfl (by omega) (by omega) (by unfold Bu.rch; decide) hl1 (by omega) hit hj3 (by rw [HE.out]; simp) hsz3
    rw [← HE.out] at hdn
    simp only [List.nil_append] at hdn
    unfold pmb at hdn
    have HDN := Lib.hid hdn
    have e1 := hd3.cell 0
    have e1l := hd3.lt
    simp only [List.getElem?_cons_zero] at e1
    have a2' : w3.cell? ⟨rb, 0, none⟩ = some (.int .u64 (root : Nat)) := by
      have h := hc3.row ((HR2.out.below HB1.out HR2.out.lt).below hb2 (HR2.out.below HB1.out HR2.out.lt).lt) (by have := HR2.out.lt; rw [← HW.out] at this; omega)
      exact h.cell 0
    clear hdn hy2 hl2 hmm2 hj2 hm2 hc3 hd3 hit hj3 hsz3 e0 ef el hrd hb2
    gi_wp2_with fail
    refine ⟨trivial, hdd _, HDN.out.mono ?_⟩
    rintro e w7 ⟨_, (⟨rfl, hj7, hit7⟩ | ⟨rfl, q, hq, hjx, hm7⟩)⟩
    · have HX7 := Lib.hid (And.intro hj7 hit7.mach)
      clear hj7 hit7
      gi_wp2_with fail
      go_end0
      exact ⟨⟨_, rfl⟩, .inl ⟨_, rfl, HX7.out.1⟩, HX7.out.2⟩
    · have HX7 := Lib.hid (And.intro hq (And.intro hjx hm7))
      clear hq hjx hm7
      gi_wp2_with fail
      go_end0
      exact ⟨⟨_, rfl⟩, .inr ⟨q, HX7.out.1, HX7.out.2.1⟩, HX7.out.2.2⟩
  · have f1 : ((root : Int) % 4096 != 0) = true := by simp; omega
    have HE : Hid (lvs M root (left : Int) = [⟨0, 0, 134217728, false, false, false, 42⟩]) := Lib.hid (by unfold lvs; rw [if_neg q0, if_pos q1])
    have HML : Hid (lvM root = 2) := Lib.hid (by unfold lvM; rw [if_neg q1])
    have hy0 := HY.out [] ⟨0, 0, 134217728, false, false, false, 42⟩ _ HJ1.out (by rw [HE.out]; simp) (by rw [HML.out, HSZ1.out]; exact Nat.le_refl _)
    obtain ⟨fn, tmps, assign, body, hy, hR⟩ := YieldAt.any (n - 1) hy0
    rw [show lvEnc ⟨0, 0, 134217728, false, false, false, 42⟩ = #[.agg #[.int .u64 0, .int .u64 0, .int .i64 134217728, .bool false, .bool false, .bool false], .int .i64 42] from rfl] at hy
    clear hy0
    have y0 := HRY.out.cell 0
    have yl := HRY.out.lt
    simp only [List.getElem?_cons_zero] at y0
    unfold pyl at y0
    gi_wp2_with fail
    refine ⟨hdd _, hR.mono ?_⟩
    have hkm : ∀ w7, KpC (upTo prot W.heap.size (lvM root)) ((W.alloc (.cells #[.func (.yield l) #[] #[]] 160)).alloc (.cells #[.int .i64 (left : Int)] 3)) w7 → S Z R w7 (sM M s0) := fun w7 hk => HS.out.chg HM1.out hk (fun k hz hn => hn (.inl (HP.out k (hz.elim .inl (fun h => .inr (.inl h))))))
    rintro e w7 (⟨rfl, hj7, hk7⟩ | ⟨rfl, hjx, hk7⟩)
    · have HX7 : Hid (J [⟨0, 0, 134217728, false, false, false, 42⟩] w7 ∧ S Z R w7 (sM M s0)) := Lib.hid ⟨hj7, hkm w7 hk7⟩
      clear hj7 hk7 hkm hy hR
      gi_wp2_with fail
      refine bodyPost_ret (results_none rfl _ _ _) rfl ?_
      exact ⟨⟨_, rfl⟩, .inl ⟨_, HE.out.symm, HX7.out.1⟩, ⟨s0, HX7.out.2⟩⟩
    · have HX7 : Hid (Jx [⟨0, 0, 134217728, false, false, false, 42⟩] w7 ∧ S Z R w7 (sM M s0)) := Lib.hid ⟨hjx, hkm w7 hk7⟩
      clear hjx hk7 hkm hy hR
      gi_wp2_with fail
      refine bodyPost_ret (results_none rfl _ _ _) rfl ?_
      exact ⟨⟨_, rfl⟩, .inr ⟨_, by rw [HE.out]; exact List.prefix_rfl, HX7.out.1⟩, ⟨s0, HX7.out.2⟩⟩
end Go.Proofs.Ytblfagmoilhdnaa

/- The walk of walk.Leaves. -/
set_option linter.unusedVariables false
set_option linter.unusedSimpArgs false
namespace Go.Proofs.Ytblfagmoilhdnaa
open Go.RowKit
open S64
open Bu
/-- the three boxes that Leaves lays -/
def lvW (w : World) (m : Value) (root : Nat) (most : Int) : World := ((w.alloc (.cells #[m] 156)).alloc (.cells #[.int .u64 (root : Nat)] 22)).alloc (.cells #[.int .i64 most] 3)
def lvF (B : Nat) : Value := .func (.func 80) #[] #[pmb (B + 2), pmb B, pmb (B + 1)]
theorem leaves_any (T : TypeId) (v : Value) (root : Nat) (most : Int) (w : World) : Calls Try.prog 62 #[(.iface T v), .int .u64 (root : Nat), .int .i64 most] w fun e w' => e = .returned (lvF w.heap.size) ∧ w' = lvW w (.iface T v) root most := by
  go_enter Try.func62, Try.ntmps62
  go_wp2_with fail
  refine bodyPost_ret (v := lvF w.heap.size) (by simp [results, Try.results62, go_sem, lvF, pmb]) rfl ⟨rfl, rfl⟩
theorem leavesN_any (root : Nat) (most : Int) (w : World) : Calls Try.prog 62 #[.nilIface, .int .u64 (root : Nat), .int .i64 most] w fun e w' => e = .returned (lvF w.heap.size) ∧ w' = lvW w .nilIface root most := by
  go_enter Try.func62, Try.ntmps62
  go_wp2_with fail
  refine bodyPost_ret (v := lvF w.heap.size) (by simp [results, Try.results62, go_sem, lvF, pmb]) rfl ⟨rfl, rfl⟩
theorem lvW_rows (w : World) (m : Value) (root : Nat) (most : Int) : (lvW w m root most).heap.size = w.heap.size + 3 ∧ Below w.heap.size w (lvW w m root most) ∧ Row (lvW w m root most) w.heap.size 156 [m] ∧ Row (lvW w m root most) (w.heap.size + 1) 22 [.int .u64 (root : Nat)] ∧ Row (lvW w m root most) (w.heap.size + 2) 3 [.int .i64 most] := by
  unfold lvW
  refine ⟨by simp, (((Below.refl _ _).alloc (Nat.le_refl _) _).alloc (by simp) _).alloc (by simp; omega) _, ((Row.new w _ [m]).alloc _).alloc _, ?_, ?_⟩
  · have h := Row.new (w.alloc (.cells #[m] 156)) 22 [.int .u64 (root : Nat)]
    rw [show (w.alloc (.cells #[m] 156)).heap.size = w.heap.size + 1 by simp] at h
    exact h.alloc _
  · have h := Row.new ((w.alloc (.cells #[m] 156)).alloc (.cells #[.int .u64 (root : Nat)] 22)) 3 [.int .i64 most]
    rw [show ((w.alloc (.cells #[m] 156)).alloc (.cells #[.int .u64 (root : Nat)] 22)).heap.size = w.heap.size + 2 by simp] at h
    exact h
end Go.Proofs.Ytblfagmoilhdnaa

/- Plain law: what Leaves tells of tables that lie in a memory is their pages, in order. -/
set_option linter.unusedVariables false
set_option linter.unusedSimpArgs false
namespace Go.Proofs.Ytblfagmoilhdnaa
namespace Pg
open Bu
theorem lvRstep {M : PM} {sub : Nat → Nat → Nat → List Lv × Nat × Bool} {lv tab virt i left : Nat} (hi : i < 512) : lvR M sub lv tab virt (512 - i) left =
    if (entM M tab i lv).2 = 41 then lvR M sub lv tab virt (512 - (i + 1)) left
    else if (entM M tab i lv).2 = 0 ∧ (entM M tab i lv).1.t = true then
      (if left ≤ 1 then ([], 0, false)
       else if (sub (entM M tab i lv).1.F (virt + i * Bu.rch lv) (left - 1)).2.2 = true then
         ((sub (entM M tab i lv).1.F (virt + i * Bu.rch lv) (left - 1)).1 ++ (lvR M sub lv tab virt (512 - (i + 1)) (sub (entM M tab i lv).1.F (virt + i * Bu.rch lv) (left - 1)).2.1).1, (lvR M sub lv tab virt (512 - (i + 1)) (sub (entM M tab i lv).1.F (virt + i * Bu.rch lv) (left - 1)).2.1).2)
       else ((sub (entM M tab i lv).1.F (virt + i * Bu.rch lv) (left - 1)).1, (sub (entM M tab i lv).1.F (virt + i * Bu.rch lv) (left - 1)).2.1, false))
    else if left ≤ 1 then ([leafAt lv (virt + i * Bu.rch lv) (entM M tab i lv)], 0, false)
    else (leafAt lv (virt + i * Bu.rch lv) (entM M tab i lv) :: (lvR M sub lv tab virt (512 - (i + 1)) (left - 1)).1, (lvR M sub lv tab virt (512 - (i + 1)) (left - 1)).2) := by
  obtain ⟨d, hd⟩ : ∃ d, d = 511 - i := ⟨_, rfl⟩
  rw [show 512 - i = d + 1 by omega, show 512 - (i + 1) = d by omega]
  obtain rfl : i = 511 - d := by omega
  rfl
def tolv (q : Pge) : Lv := ⟨q.v, q.p, q.u / 4096, q.b, q.w, q.x, 0⟩
/-- the pages that begin in a range -/
def rng (qs : List Pge) (a b : Nat) : List Pge := qs.filter fun q => decide (a ≤ q.v ∧ q.v < b)
/-- the tables of a level that begin in a range -/
def tcn (L : List Lab) (lv sz a b : Nat) : Nat := L.countP fun t => decide (t.1 = lv ∧ a ≤ t.2 * sz ∧ t.2 * sz < b)
theorem rng_nil {qs : List Pge} {a b : Nat} (h : ∀ q ∈ qs, ¬ (a ≤ q.v ∧ q.v < b)) : rng qs a b = [] := by
  unfold rng
  rw [List.filter_eq_nil_iff]
  intro q hq
  simpa using h q hq
theorem mem_rng {qs : List Pge} {a b : Nat} {q : Pge} : q ∈ rng qs a b ↔ q ∈ qs ∧ a ≤ q.v ∧ q.v < b := by
  unfold rng
  rw [List.mem_filter, decide_eq_true_eq]
def Asc (qs : List Pge) : Prop := qs.Pairwise (fun a c => a.v < c.v)
theorem chain_asc {qs : List Pge} (h : Chain qs) : Asc qs := by
  refine h.1.imp_of_mem ?_
  intro a c ha hc hh
  rcases a.u_or with ⟨h, _⟩ | ⟨h, _⟩ <;> omega
theorem rng_split {qs : List Pge} (h : Asc qs) {a m b : Nat} (h1 : a ≤ m) (h2 : m ≤ b) : rng qs a b = rng qs a m ++ rng qs m b := by
  induction qs with
  | nil => rfl
  | cons q l ih =>
    have hl := List.pairwise_cons.1 h
    have ih := ih hl.2
    unfold rng at ih ⊢
    rw [List.filter_cons, List.filter_cons, List.filter_cons, ih]
    by_cases q1 : a ≤ q.v ∧ q.v < m
    · rw [if_pos (by simp; omega), if_pos (by simp; omega), if_neg (by simp; omega)]
      rfl
    · by_cases q2 : m ≤ q.v ∧ q.v < b
      · rw [if_pos (by simp; omega), if_neg (by simp; omega), if_pos (by simp; omega)]
        have hn : l.filter (fun q => decide (a ≤ q.v ∧ q.v < m)) = [] := by
          rw [List.filter_eq_nil_iff]
          intro x hx
          have := hl.1 x hx
          simp; omega
        rw [hn]
        rfl
      · rw [if_neg (by simp; omega), if_neg (by simp; omega), if_neg (by simp; omega)]
theorem rng_one {qs : List Pge} (h : Asc qs) {a b : Nat} {q : Pge} (hq : q ∈ qs) (h1 : a ≤ q.v ∧ q.v < b) (hu : ∀ r ∈ qs, a ≤ r.v → r.v < b → r = q) : rng qs a b = [q] := by
  induction qs with
  | nil => cases hq
  | cons x l ih =>
    have hl := List.pairwise_cons.1 h
    unfold rng
    rw [List.filter_cons]
    by_cases hx : a ≤ x.v ∧ x.v < b
    · have : x = q := hu x (by simp) hx.1 hx.2
      subst this
      rw [if_pos (by simp; omega)]
      have hn : l.filter (fun q => decide (a ≤ q.v ∧ q.v < b)) = [] := by
        rw [List.filter_eq_nil_iff]
        intro y hy
        have h3 := hl.1 y hy
        intro hh
        simp only [decide_eq_true_eq] at hh
        have := hu y (by simp [hy]) hh.1 hh.2
        rw [this] at h3
        omega
      rw [hn]
    · rw [if_neg (by simp; omega)]
      rcases List.mem_cons.1 hq with rfl | hq
      · exact absurd h1 hx
      · exact ih hl.2 hq (fun r hr => hu r (by simp [hr]))
theorem tcn_split (L : List Lab) (lv sz : Nat) {a m b : Nat} (h1 : a ≤ m) (h2 : m ≤ b) : tcn L lv sz a b = tcn L lv sz a m + tcn L lv sz m b := by
  induction L with
  | nil => rfl
  | cons t l ih =>
    unfold tcn at ih ⊢
    rw [List.countP_cons, List.countP_cons, List.countP_cons, ih]
    by_cases q0 : t.1 = lv
    · by_cases q1 : a ≤ t.2 * sz ∧ t.2 * sz < m
      · rw [if_pos (by simp; omega), if_pos (by simp; omega), if_neg (by simp; omega)]; omega
      · by_cases q2 : m ≤ t.2 * sz ∧ t.2 * sz < b
        · rw [if_pos (by simp; omega), if_neg (by simp; omega), if_pos (by simp; omega)]; omega
        · rw [if_neg (by simp; omega), if_neg (by simp; omega), if_neg (by simp; omega)]; omega
    · rw [if_neg (by simp [q0]), if_neg (by simp [q0]), if_neg (by simp [q0])]; omega
theorem tcn_pos {L : List Lab} {lv sz k a b : Nat} (h : (lv, k) ∈ L) (h1 : a ≤ k * sz) (h2 : k * sz < b) : 1 ≤ tcn L lv sz a b := by
  unfold tcn
  exact List.countP_pos_iff.2 ⟨(lv, k), h, by simp; omega⟩
section
variable {M : PM} {base : Nat} {qs : List Pge} {all : List (List Nat)}
theorem small_u {q : Pge} (h : q.b = false) : q.u = 4096 := by rcases q.u_or with ⟨_, h'⟩ | ⟨h', _⟩; rw [h] at h'; cases h'; exact h'
theorem big_u {q : Pge} (h : q.b = true) : q.u = 2097152 := by rcases q.u_or with ⟨h', _⟩ | ⟨_, h'⟩; exact h'; rw [h] at h'; cases h'
/-- within a low table's region all pages are small -/
theorem low_small (hc : Chain qs) {k : Nat} (h2 : (2, k) ∈ tabs qs) : ∀ q ∈ qs, q.v / 2097152 = k → q.b = false := by
  intro q hq hk
  cases hb : q.b with
  | false => rfl
  | true =>
    rcases mem_tabs.1 h2 with h | ⟨r, hr', h | ⟨hrb, h⟩⟩
    · injection h with h _; cases h
    · injection h with h _; cases h
    · injection h with _ h
      have hrv := (hc.2 r hr').va
      have hqv := (hc.2 q hq).va
      rw [small_u hrb] at hrv
      rw [big_u hb] at hqv
      have : q = r := chain_cov hc (virt := r.v) hq hr' (by unfold covers; rw [big_u hb]; omega) (by unfold covers; rw [small_u hrb]; omega)
      rw [this, hrb] at hb
      cases hb
theorem same_start (hc : Chain qs) {q r : Pge} (hq : q ∈ qs) (hr : r ∈ qs) (h : q.v = r.v) : q = r := by
  refine chain_cov hc (virt := r.v) hq hr ?_ ?_
  · unfold covers; rcases q.u_or with ⟨h', _⟩ | ⟨h', _⟩ <;> omega
  · unfold covers; rcases r.u_or with ⟨h', _⟩ | ⟨h', _⟩ <;> omega
theorem low_told (hr : Rep base (tabs qs) qs all) (hc : Chain qs) (hl : LiesM M base all) {i2 k : Nat} (h2 : (tabs qs)[i2]? = some (2, k)) (sub : Nat → Nat → Nat → List Lv × Nat × Bool) : ∀ d, d ≤ 512 → ∀ left, (rng qs (k * 2097152 + (512 - d) * 4096) ((k + 1) * 2097152)).length < left →
    lvR M sub 2 (base + i2 * 4096) (k * 2097152) d left = ((rng qs (k * 2097152 + (512 - d) * 4096) ((k + 1) * 2097152)).map tolv, left - (rng qs (k * 2097152 + (512 - d) * 4096) ((k + 1) * 2097152)).length, true) := by
  have hm2 : (2, k) ∈ tabs qs := List.mem_of_getElem? h2
  have hi2 : i2 < all.length := by rw [hr.len]; exact (List.getElem?_eq_some_iff.1 h2).1
  have hasc := chain_asc hc
  intro d
  induction d with
  | zero =>
    intro hd left hlt
    rw [rng_nil (fun q _ => by omega)]
    rfl
  | succ d ih =>
    intro hd left hlt
    obtain ⟨e, he⟩ : ∃ e, e = 511 - d := ⟨_, rfl⟩
    have he5 : e < 512 := by omega
    have hsp := rng_split hasc (a := k * 2097152 + (512 - (d + 1)) * 4096) (m := k * 2097152 + (512 - d) * 4096) (b := (k + 1) * 2097152) (by omega) (by omega)
    have hE := hl.ent (i := i2) (e := e) hi2 he5 2
    rw [hr.ent i2 _ h2 _ he5] at hE
    have he2 : entry base (tabs qs) qs (2, k) e = pageAt qs false (k * 512 + e) := by
      unfold entry
      rw [if_neg (show ¬ (2 : Nat) = 0 by decide), if_neg (show ¬ (2 : Nat) = 1 by decide)]
    rw [he2] at hE
    have hkey : ∀ q ∈ qs, k * 2097152 + (512 - (d + 1)) * 4096 ≤ q.v → q.v < k * 2097152 + (512 - d) * 4096 → q.b = false ∧ q.v / 4096 = k * 512 + e ∧ q.v = k * 2097152 + e * 4096 := fun q hq h3 h4 => by
      have hb := low_small hc hm2 q hq (by omega)
      have hv := (hc.2 q hq).va
      rw [small_u hb] at hv
      exact ⟨hb, by omega, by omega⟩
    rw [hsp] at hlt ⊢
    rw [show d + 1 = 512 - e by omega, lvRstep he5, show 512 - (e + 1) = d by omega, hE, ← show d + 1 = 512 - e by omega]
    rcases pageAt_some (qs := qs) (b := false) (k := k * 512 + e) with hp | ⟨q, hq, hqb, hqk, hqn⟩
    · have hz : rng qs (k * 2097152 + (512 - (d + 1)) * 4096) (k * 2097152 + (512 - d) * 4096) = [] := rng_nil (fun q hq h => by
        obtain ⟨h5, h6, _⟩ := hkey q hq h.1 h.2
        exact pageAt_zero hp q hq ⟨h5, by unfold bu; simpa using h6⟩)
      rw [hz] at hlt ⊢
      rw [hp, say_zero, if_pos rfl]
      exact ih (by omega) left hlt
    · have hqo := hc.2 q hq
      have hqu := small_u hqb
      have hqv := hqo.va
      rw [hqu] at hqv
      have hqk' : q.v / 4096 = k * 512 + e := by simpa [bu] using hqk
      have hv : q.v = k * 2097152 + e * 4096 := by omega
      have hz : rng qs (k * 2097152 + (512 - (d + 1)) * 4096) (k * 2097152 + (512 - d) * 4096) = [q] := rng_one hasc hq ⟨by omega, by omega⟩ (fun r hr3 h3 h4 => same_start hc hr3 hq (by rw [(hkey r hr3 h3 h4).2.2, hv]))
      rw [hz] at hlt ⊢
      rw [hqn, say_smallp hqo hqb, if_neg (by simp), if_neg (by simp)]
      simp only [List.length_append, List.length_singleton] at hlt
      rw [if_neg (by omega), ih (by omega) (left - 1) (by omega)]
      have hlf : leafAt 2 (k * 2097152 + e * Bu.rch 2) (⟨q.p, false, false, q.w, q.x⟩, 0) = tolv q := by
        unfold leafAt tolv
        rw [if_pos rfl, hqb, hqu, Bu.rch2, hv]
      rw [hlf]
      rw [show left - 1 - (rng qs (k * 2097152 + (512 - d) * 4096) ((k + 1) * 2097152)).length = left - ([q] ++ rng qs (k * 2097152 + (512 - d) * 4096) ((k + 1) * 2097152)).length by simp; omega]
      rfl
theorem mid_told (hr : Rep base (tabs qs) qs all) (hc : Chain qs) (hl : LiesM M base all) {i1 T : Nat} (h1 : (tabs qs)[i1]? = some (1, T)) : ∀ d, d ≤ 512 → ∀ left, (rng qs (T * 1073741824 + (512 - d) * 2097152) ((T + 1) * 1073741824)).length + tcn (tabs qs) 2 2097152 (T * 1073741824 + (512 - d) * 2097152) ((T + 1) * 1073741824) < left →
    ∃ l', left ≤ l' + ((rng qs (T * 1073741824 + (512 - d) * 2097152) ((T + 1) * 1073741824)).length + tcn (tabs qs) 2 2097152 (T * 1073741824 + (512 - d) * 2097152) ((T + 1) * 1073741824)) ∧ lvR M (lvT M 1 2) 1 (base + i1 * 4096) (T * 1073741824) d left = ((rng qs (T * 1073741824 + (512 - d) * 2097152) ((T + 1) * 1073741824)).map tolv, l', true) := by
  have hi1 : i1 < all.length := by rw [hr.len]; exact (List.getElem?_eq_some_iff.1 h1).1
  have hasc := chain_asc hc
  have hhi := hl.hi
  intro d
  induction d with
  | zero =>
    intro hd left hlt
    rw [rng_nil (fun q _ => by omega)]
    exact ⟨left, by omega, rfl⟩
  | succ d ih =>
    intro hd left hlt
    obtain ⟨e, he⟩ : ∃ e, e = 511 - d := ⟨_, rfl⟩
    have he5 : e < 512 := by omega
    have hsp := rng_split hasc (a := T * 1073741824 + (512 - (d + 1)) * 2097152) (m := T * 1073741824 + (512 - d) * 2097152) (b := (T + 1) * 1073741824) (by omega) (by omega)
    have htp := tcn_split (tabs qs) 2 2097152 (a := T * 1073741824 + (512 - (d + 1)) * 2097152) (m := T * 1073741824 + (512 - d) * 2097152) (b := (T + 1) * 1073741824) (by omega) (by omega)
    have hE := hl.ent (i := i1) (e := e) hi1 he5 1
    rw [hr.ent i1 _ h1 _ he5] at hE
    rw [hsp, htp] at hlt ⊢
    rw [List.length_append] at hlt
    rw [List.length_append, show d + 1 = 512 - e by omega, lvRstep he5, show 512 - (e + 1) = d by omega, hE, ← show d + 1 = 512 - e by omega]
    by_cases hm2 : (2, T * 512 + e) ∈ tabs qs
    · have he1 : entry base (tabs qs) qs (1, T) e = ptr base ((tabs qs).idxOf (2, T * 512 + e)) := by
        unfold entry
        rw [if_neg (show ¬ (1 : Nat) = 0 by decide), if_pos rfl]
        simp only
        rw [if_pos hm2]
      have hx2 := List.idxOf_lt_length_of_mem hm2
      have ha2 := at_idx hm2
      have hcp := tcn_pos (sz := 2097152) (a := T * 1073741824 + (512 - (d + 1)) * 2097152) (b := T * 1073741824 + (512 - d) * 2097152) hm2 (by omega) (by omega)
      rw [he1]
      clear he1
      generalize (tabs qs).idxOf (2, T * 512 + e) = i2 at *
      obtain ⟨p2, s2⟩ := say_ptr (base := base) (n := i2) (lv := 1) hl.al (by rw [← hr.len] at hx2; omega) (by decide)
      rw [p2, s2, if_neg (by simp), if_pos (by simp), if_neg (by omega)]
      have hlow := low_told hr hc hl ha2 (lvT M 0 3) 512 (Nat.le_refl _) (left - 1) (by
        rw [show (T * 512 + e) * 2097152 + (512 - 512) * 4096 = T * 1073741824 + (512 - (d + 1)) * 2097152 by omega, show (T * 512 + e + 1) * 2097152 = T * 1073741824 + (512 - d) * 2097152 by omega]
        omega)
      rw [show (T * 512 + e) * 2097152 + (512 - 512) * 4096 = T * 1073741824 + (512 - (d + 1)) * 2097152 by omega, show (T * 512 + e + 1) * 2097152 = T * 1073741824 + (512 - d) * 2097152 by omega, show (T * 512 + e) * 2097152 = T * 1073741824 + e * Bu.rch 1 by rw [Bu.rch1]; omega] at hlow
      simp only
      rw [show lvT M 1 2 (base + i2 * 4096) (T * 1073741824 + e * Bu.rch 1) (left - 1) = lvR M (lvT M 0 3) 2 (base + i2 * 4096) (T * 1073741824 + e * Bu.rch 1) 512 (left - 1) from rfl, hlow, if_pos rfl]
      obtain ⟨l', hl1, hl2⟩ := ih (by omega) (left - 1 - (rng qs (T * 1073741824 + (512 - (d + 1)) * 2097152) (T * 1073741824 + (512 - d) * 2097152)).length) (by omega)
      refine ⟨l', by omega, ?_⟩
      simp only
      rw [hl2, List.map_append]
    · have he1 : entry base (tabs qs) qs (1, T) e = pageAt qs true (T * 512 + e) := by
        unfold entry
        rw [if_neg (show ¬ (1 : Nat) = 0 by decide), if_pos rfl]
        simp only
        rw [if_neg hm2]
      rw [he1]
      have hkey : ∀ q ∈ qs, T * 1073741824 + (512 - (d + 1)) * 2097152 ≤ q.v → q.v < T * 1073741824 + (512 - d) * 2097152 → q.b = true ∧ q.v / 2097152 = T * 512 + e ∧ q.v = T * 1073741824 + e * 2097152 := fun q hq h3 h4 => by
        have hi : q.v / 2097152 = T * 512 + e := by omega
        have hb : q.b = true := by
          cases hb : q.b with
          | true => rfl
          | false => exact absurd (mem_tabs.2 (.inr ⟨q, hq, .inr ⟨hb, by rw [hi]⟩⟩)) hm2
        have hv := (hc.2 q hq).va
        rw [big_u hb] at hv
        exact ⟨hb, hi, by omega⟩
      rcases pageAt_some (qs := qs) (b := true) (k := T * 512 + e) with hp | ⟨q, hq, hqb, hqk, hqn⟩
      · have hz : rng qs (T * 1073741824 + (512 - (d + 1)) * 2097152) (T * 1073741824 + (512 - d) * 2097152) = [] := rng_nil (fun q hq h => by
          obtain ⟨h5, h6, _⟩ := hkey q hq h.1 h.2
          exact pageAt_zero hp q hq ⟨h5, by unfold bu; simpa using h6⟩)
        rw [hz] at hlt ⊢
        rw [hp, say_zero, if_pos rfl]
        simp only [List.length_nil] at hlt ⊢
        obtain ⟨l', hl1, hl2⟩ := ih (by omega) left (by omega)
        exact ⟨l', by omega, hl2⟩
      · have hqo := hc.2 q hq
        have hqu := big_u hqb
        have hqv := hqo.va
        rw [hqu] at hqv
        have hqk' : q.v / 2097152 = T * 512 + e := by simpa [bu] using hqk
        have hv : q.v = T * 1073741824 + e * 2097152 := by omega
        have hz : rng qs (T * 1073741824 + (512 - (d + 1)) * 2097152) (T * 1073741824 + (512 - d) * 2097152) = [q] := rng_one hasc hq ⟨by omega, by omega⟩ (fun r hr3 h3 h4 => same_start hc hr3 hq (by rw [(hkey r hr3 h3 h4).2.2, hv]))
        rw [hz] at hlt ⊢
        simp only [List.length_singleton] at hlt ⊢
        rw [hqn, say_bigp hqo hqb, if_neg (by simp), if_neg (by simp), if_neg (by omega)]
        obtain ⟨l', hl1, hl2⟩ := ih (by omega) (left - 1) (by omega)
        refine ⟨l', by omega, ?_⟩
        have hlf : leafAt 1 (T * 1073741824 + e * Bu.rch 1) (⟨q.p, false, true, q.w, q.x⟩, 0) = tolv q := by
          unfold leafAt tolv
          rw [if_pos rfl, hqb, hqu, Bu.rch1, hv]
        rw [hlf, hl2]
        rfl
theorem top_told (hr : Rep base (tabs qs) qs all) (hc : Chain qs) (hl : LiesM M base all) : ∀ d, d ≤ 512 → ∀ left, (rng qs ((512 - d) * 1073741824) 549755813888).length + (tcn (tabs qs) 2 2097152 ((512 - d) * 1073741824) 549755813888 + tcn (tabs qs) 1 1073741824 ((512 - d) * 1073741824) 549755813888) < left →
    ∃ l', lvR M (lvT M 2 1) 0 base 0 d left = ((rng qs ((512 - d) * 1073741824) 549755813888).map tolv, l', true) := by
  have h0 : (tabs qs)[0]? = some (0, 0) := (good_tabs qs).root
  have hpos : 0 < all.length := by rw [hr.len]; exact (List.getElem?_eq_some_iff.1 h0).1
  have hasc := chain_asc hc
  have hhi := hl.hi
  intro d
  induction d with
  | zero =>
    intro hd left hlt
    rw [rng_nil (fun q _ => by omega)]
    exact ⟨left, rfl⟩
  | succ d ih =>
    intro hd left hlt
    obtain ⟨e, he⟩ : ∃ e, e = 511 - d := ⟨_, rfl⟩
    have he5 : e < 512 := by omega
    have hsp := rng_split hasc (a := (512 - (d + 1)) * 1073741824) (m := (512 - d) * 1073741824) (b := 549755813888) (by omega) (by omega)
    have htp := tcn_split (tabs qs) 2 2097152 (a := (512 - (d + 1)) * 1073741824) (m := (512 - d) * 1073741824) (b := 549755813888) (by omega) (by omega)
    have htq := tcn_split (tabs qs) 1 1073741824 (a := (512 - (d + 1)) * 1073741824) (m := (512 - d) * 1073741824) (b := 549755813888) (by omega) (by omega)
    have hE := hl.ent (i := 0) (e := e) hpos he5 0
    rw [hr.ent 0 _ h0 _ he5, Nat.zero_mul, Nat.add_zero] at hE
    rw [hsp, htp, htq] at hlt
    rw [List.length_append] at hlt
    rw [hsp, show d + 1 = 512 - e by omega, lvRstep he5, show 512 - (e + 1) = d by omega, hE, ← show d + 1 = 512 - e by omega]
    by_cases hm1 : (1, e) ∈ tabs qs
    · have he1 : entry base (tabs qs) qs (0, 0) e = ptr base ((tabs qs).idxOf (1, e)) := by
        unfold entry
        rw [if_pos rfl, if_pos hm1]
      have hx1 := List.idxOf_lt_length_of_mem hm1
      have ha1 := at_idx hm1
      have hcp := tcn_pos (sz := 1073741824) (a := (512 - (d + 1)) * 1073741824) (b := (512 - d) * 1073741824) hm1 (by omega) (by omega)
      rw [he1]
      clear he1
      generalize (tabs qs).idxOf (1, e) = i1 at *
      obtain ⟨p1, s1⟩ := say_ptr (base := base) (n := i1) (lv := 0) hl.al (by rw [← hr.len] at hx1; omega) (by decide)
      rw [p1, s1, if_neg (by simp), if_pos (by simp), if_neg (by omega)]
      obtain ⟨lm, hlm1, hlm2⟩ := mid_told hr hc hl ha1 512 (Nat.le_refl _) (left - 1) (by
        rw [show e * 1073741824 + (512 - 512) * 2097152 = (512 - (d + 1)) * 1073741824 by omega, show (e + 1) * 1073741824 = (512 - d) * 1073741824 by omega]
        omega)
      rw [show e * 1073741824 + (512 - 512) * 2097152 = (512 - (d + 1)) * 1073741824 by omega, show (e + 1) * 1073741824 = (512 - d) * 1073741824 by omega] at hlm1 hlm2
      rw [show e * 1073741824 = 0 + e * Bu.rch 0 by rw [Bu.rch0]; omega] at hlm2
      simp only
      rw [show lvT M 2 1 (base + i1 * 4096) (0 + e * Bu.rch 0) (left - 1) = lvR M (lvT M 1 2) 1 (base + i1 * 4096) (0 + e * Bu.rch 0) 512 (left - 1) from rfl, hlm2, if_pos rfl]
      obtain ⟨l', hl2⟩ := ih (by omega) lm (by omega)
      refine ⟨l', ?_⟩
      simp only
      rw [hl2, List.map_append]
    · have he1 : entry base (tabs qs) qs (0, 0) e = 0 := by
        unfold entry
        rw [if_pos rfl, if_neg hm1]
      rw [he1, say_zero, if_pos rfl]
      have hz : rng qs ((512 - (d + 1)) * 1073741824) ((512 - d) * 1073741824) = [] := rng_nil (fun q hq h => hm1 (mem_tabs.2 (.inr ⟨q, hq, .inl (by rw [show q.v / 1073741824 = e by omega])⟩)))
      rw [hz] at hlt ⊢
      obtain ⟨l', hl2⟩ := ih (by omega) left (by simp only [List.length_nil] at hlt; omega)
      exact ⟨l', hl2⟩
end
theorem tcn_le (L : List Lab) (a b c d : Nat) : tcn L 2 2097152 a b + tcn L 1 1073741824 c d ≤ L.length := by
  induction L with
  | nil => exact Nat.le_refl _
  | cons t l ih =>
    unfold tcn at ih ⊢
    rw [List.countP_cons, List.countP_cons, List.length_cons]
    by_cases q0 : t.1 = 2
    · rw [if_neg (c := decide (t.1 = 1 ∧ c ≤ t.2 * 1073741824 ∧ t.2 * 1073741824 < d) = true) (by simp [q0])]
      split <;> omega
    · rw [if_neg (c := decide (t.1 = 2 ∧ a ≤ t.2 * 2097152 ∧ t.2 * 2097152 < b) = true) (by simp [q0])]
      split <;> omega
/-- WHAT LEAVES TELLS IS THE ROWS' PAGES -/
theorem lvs_pages {M : PM} {rows : List Lf} {base : Nat} (h : (ans rows base).2 = 0) (hl : LiesM M base (ans rows base).1) {most : Nat} (hm : (pagesOf rows).length + (ans rows base).1.length < most) : lvs M base (most : Int) = (pagesOf rows).map tolv := by
  obtain ⟨_, hc, s, _, hk, hs⟩ := ans_known h
  rw [hs] at hl hm
  unfold lvs
  rw [if_neg (by omega), if_neg (by have := hl.al; omega)]
  have hlen := hk.rep.len
  obtain ⟨l', h'⟩ := top_told hk.rep hc hl 512 (Nat.le_refl _) most (by
    have h1 := tcn_le (tabs (pagesOf rows)) ((512 - 512) * 1073741824) 549755813888 ((512 - 512) * 1073741824) 549755813888
    have h2 : (rng (pagesOf rows) ((512 - 512) * 1073741824) 549755813888).length ≤ (pagesOf rows).length := List.length_filter_le _ _
    omega)
  have hall : rng (pagesOf rows) ((512 - 512) * 1073741824) 549755813888 = pagesOf rows := by
    unfold rng
    rw [List.filter_eq_self]
    intro q hq
    have h1 := (hc.2 q hq).vl
    have h2 : 0 < q.u := by rcases q.u_or with ⟨h, _⟩ | ⟨h, _⟩ <;> omega
    simp; omega
  rw [hall] at h'
  show (lvR M (lvT M 2 1) 0 base 0 512 (most : Int).toNat).1 = _
  rw [Int.toNat_natCast, h']
end Pg
end Go.Proofs.Ytblfagmoilhdnaa

/- Plain law for PagesTold: sums of rows and of their pages. -/
set_option linter.unusedVariables false
set_option linter.unusedSimpArgs false
namespace Go.Proofs.Ytblfagmoilhdnaa
namespace Pg
open Bu
def sumN (rows : List Lf) : Nat := (rows.map (·.n.toNat)).sum
theorem sumN_cons (r : Lf) (l : List Lf) : sumN (r :: l) = r.n.toNat + sumN l := by simp [sumN]
theorem sumN_app (a b : List Lf) : sumN (a ++ b) = sumN a + sumN b := by simp [sumN]
theorem sumN_take {rows : List Lf} {k : Nat} {r : Lf} (h : rows[k]? = some r) : sumN (rows.take (k + 1)) = sumN (rows.take k) + r.n.toNat := by
  rw [List.take_add_one, h, sumN_app]
  simp [sumN]
theorem sumN_take_le (rows : List Lf) (k : Nat) : sumN (rows.take k) ≤ sumN rows := by
  have h := sumN_app (rows.take k) (rows.drop k)
  rw [List.take_append_drop] at h
  omega
theorem sumN_right : ∀ (rows : List Lf) (bh : Nat), bh ≤ 549755813888 → right bh rows = 0 → bh + sumN rows * 4096 ≤ 549755813888 := by
  intro rows
  induction rows with
  | nil => intro bh hb _; simp [sumN]; exact hb
  | cons x xs ih =>
    intro bh hb h
    obtain ⟨h1, h2, h3⟩ := right_cons h
    have h4 := h1.vl
    have h5 := ih _ (by omega) h3
    rw [sumN_cons]
    omega
theorem pages_lenN : ∀ rows : List Lf, (pagesOf rows).length ≤ sumN rows := by
  intro rows
  induction rows with
  | nil => exact Nat.le_refl _
  | cons r l ih =>
    have h1 : pagesOf (r :: l) = r.pages ++ pagesOf l := by simp [pagesOf]
    rw [h1, List.length_append, sumN_cons]
    have h2 : r.pages.length = r.cnt := by simp [Lf.pages]
    have h3 : r.cnt ≤ r.n.toNat := by
      unfold Lf.cnt
      rcases r.u_or with h | h <;> rw [h] <;> omega
    omega
/-- a page as a row -/
def pgRow (q : Pge) : Lf := ⟨q.v, q.p, (q.u / 4096 : Nat), q.b, q.w, q.x⟩
theorem singles_rows (r : Lf) : r.singles = r.pages.map pgRow := by
  unfold Lf.singles Lf.pages
  rw [List.map_map]
  rfl
theorem each_rows (rows : List Lf) : each rows = (pagesOf rows).map pgRow := by
  unfold each pagesOf
  rw [List.map_flatMap]
  congr 1
  funext r
  exact singles_rows r
theorem sumN_pages {rows : List Lf} (h : ∀ r ∈ rows, r.Ok) : sumN ((pagesOf rows).map pgRow) = sumN rows := by
  induction rows with
  | nil => rfl
  | cons r l ih =>
    have h1 : pagesOf (r :: l) = r.pages ++ pagesOf l := by simp [pagesOf]
    rw [h1, List.map_append, sumN_app, sumN_cons, ih (fun x hx => h x (by simp [hx]))]
    congr 1
    have hro := h r (by simp)
    have hk : ∀ k, sumN (((List.range k).map r.page).map pgRow) = k * (r.u / 4096) := by
      intro k
      induction k with
      | zero => simp [sumN]
      | succ k ih =>
        rw [List.range_succ, List.map_append, List.map_append, sumN_app, ih, Nat.add_mul]
        simp [sumN, pgRow, Lf.page_u]
        omega
    unfold Lf.pages
    rw [hk]
    have h5 := hro.nu
    unfold Lf.cnt
    rcases r.u_or with h | h <;> rw [h] at h5 ⊢ <;> omega
end Pg
end Go.Proofs.Ytblfagmoilhdnaa
