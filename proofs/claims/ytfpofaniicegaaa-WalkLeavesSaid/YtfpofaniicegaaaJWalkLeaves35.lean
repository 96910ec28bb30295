/- Texts of this claim, one behind the other: LvD, LvE, UOpen, RlD. -/
import Derived.Test.YtfpofaniicegaaaJWalkLeaves34
import Derived.Sort.CutIn
import Derived.Laws.EntriesVeiled
import Derived.Test.YtfpofaniicegaaaJWalkLeaves30
import Derived.Test.YtfpofaniicegaaaJWalkLeaves28
import Derived.Test.YtfpofaniicegaaaJWalkLeaves31
/- The walk of the function that Leaves hands back. -/
set_option linter.unusedVariables false
set_option linter.unusedSimpArgs false
namespace Go.Proofs.Ytfpofaniicegaaa
open Go.RowKit
open S64
open Bu
attribute [local go_sem] Oper.semAt_some
/-- how many cells of its own the iterator has -/
def lvM (root : Nat) : Nat := if root % 4096 = 0 then 3 else 2
set_option maxRecDepth 100000 in
set_option maxHeartbeats 4000000 in
theorem leaves1_seq {T : TypeId} {v : Value} {S : MemS} (hS : MemI S) (hC : EntC T v S) (Z R prot : Nat → Prop) (M : PM) (mb rb bb root : Nat) (most : Int) (n : Nat) (w : World) (hroot : root < 18446744073709551616) (hmost : most < 9223372036854775808) (hmost' : -9223372036854775808 ≤ most)
    (hp : ∀ k, Z k ∨ R k ∨ k = mb → prot k) (hmb : ¬ Z mb) (hpB : ∀ k, prot k → k < w.heap.size) (hm : ∃ s : Int, S Z R w (sM M s)) (hr1 : Row w mb 88 [.iface T v]) (hr2 : Row w rb 22 [.int .u64 (root : Nat)]) (hr3 : Row w bb 3 [.int .i64 most]) :
    SeqC Fence.wide n Try.prog 40 #[pmb bb, pmb mb, pmb rb] lvEnc Z prot (fun xs => xs = lvs M root most) (fun pre => pre <+: lvs M root most) (lvs M root most) (lvM root) (fun W => ∃ s : Int, S Z R W (sM M s)) w := by
  intro l J Jx W hb hJ hJx hY h0
  have hdd : ∀ k : Nat, (Fence.wide.depth.isSome = true → 1 ≤ k) := fun k h => by cases h
  obtain ⟨s0, hm0⟩ := hm
  have hmW := hS.below hm0 hb
  have hrW1 := hr1.below hb hr1.lt
  have hrW2 := hr2.below hb hr2.lt
  have hrW3 := hr3.below hb hr3.lt
  have hmbw : mb < W.heap.size := hrW1.lt
  have hpW : ∀ k, prot k → k < W.heap.size := fun k hk => Nat.lt_of_lt_of_le (hpB k hk) hb.size
  clear hm0 hr1 hr2 hr3 hb hpB
  have HS := Lib.hid hS; have HC := Lib.hid hC; have HP := Lib.hid hp; have HMB := Lib.hid hmb; have HPW := Lib.hid hpW; have HJ := Lib.hid hJ; have HJX := Lib.hid hJx; have HY := Lib.hid hY; have HM := Lib.hid hmW
  have HR1 := Lib.hid hrW1
  have HR2 := Lib.hid hrW2
  have H0 := Lib.hid h0
  have a1 := hrW1.cell 0
  have a2 := hrW2.cell 0
  have a3 := hrW3.cell 0
  have b1 := hrW1.lt
  have b2 := hrW2.lt
  have b3 := hrW3.lt
  simp only [List.getElem?_cons_zero] at a1 a2 a3
  clear hS hC hp hmb hpW hJ hJx hY hmW h0 hrW1 hrW2 hrW3
  unfold pmb
  simp only [List.append_toArray, List.cons_append, List.nil_append]
  refine callsIn_of_wp Try.func40 rfl trivial ?_ rfl
  simp only [Try.ntmps40, List.size_toArray, List.length_cons, List.length_nil, Nat.reduceAdd, Nat.reduceSub, Array.replicate_succ, Array.replicate_zero, List.push_toArray, List.append_toArray, List.nil_append, List.cons_append]
  have hsz1 : ((W.alloc (.cells #[.func (.yield l) #[] #[]] 102)).alloc (.cells #[.int .i64 most] 3)).heap.size = W.heap.size + 2 := by simp
  have hb1 : Below W.heap.size W ((W.alloc (.cells #[.func (.yield l) #[] #[]] 102)).alloc (.cells #[.int .i64 most] 3)) := ((Below.refl _ _).alloc (Nat.le_refl _) _).alloc (by simp) _
  have hry : Row ((W.alloc (.cells #[.func (.yield l) #[] #[]] 102)).alloc (.cells #[.int .i64 most] 3)) W.heap.size 102 [pyl l] := (Row.new W _ [pyl l]).alloc _
  have hrl : Row ((W.alloc (.cells #[.func (.yield l) #[] #[]] 102)).alloc (.cells #[.int .i64 most] 3)) (W.heap.size + 1) 3 [.int .i64 most] := by
    have h := Row.new (W.alloc (.cells #[.func (.yield l) #[] #[]] 102)) 3 [.int .i64 most]
    rw [show (W.alloc (.cells #[.func (.yield l) #[] #[]] 102)).heap.size = W.heap.size + 1 by simp] at h
    exact h
  have hj1 := HJ.out _ _ _ H0.out (ChgP.of_below hb1)
  have hm1 := HS.out.below HM.out hb1
  have hr1 := HR1.out.below hb1 HR1.out.lt
  have HB1 := Lib.hid hb1; have HRY := Lib.hid hry; have HRL := Lib.hid hrl; have HJ1 := Lib.hid hj1; have HM1 := Lib.hid hm1; have HSZ1 := Lib.hid hsz1; have HMM := Lib.hid hr1
  clear hb1 hry hrl hj1 hm1 hsz1 hr1
  by_cases q0 : most < 1
  · have HE : Hid (lvs M root most = []) := Lib.hid (by unfold lvs; rw [if_pos q0])
    gi_wp2_with fail
    refine bodyPost_ret (results_none rfl _ _ _) rfl ?_
    exact ⟨⟨_, rfl⟩, .inl ⟨[], HE.out.symm, HJ1.out⟩, ⟨s0, HM1.out⟩⟩
  obtain ⟨left, rfl⟩ : ∃ left : Nat, most = (left : Int) := ⟨most.toNat, by omega⟩
  have hl1 : 1 ≤ left := by omega
  by_cases q1 : root % 4096 = 0
  · have f1 : ((root : Int) % 4096 != 0) = false := by simp; omega
    have HE : Hid (lvs M root (left : Int) = (lvT M 3 0 root 0 left).1) := Lib.hid (by unfold lvs; rw [if_neg q0, if_neg (by omega)]; rfl)
    have HML : Hid (lvM root = 3) := Lib.hid (by unfold lvM; rw [if_pos q1])
    gi_upto_region 5 with fail
    generalize (W.alloc (.cells #[.func (.yield l) #[] #[]] 102)).alloc (.cells #[.int .i64 (left : Int)] 3) = w1 at *
    obtain ⟨B, hB⟩ : ∃ B, B = W.heap.size := ⟨_, rfl⟩
    rw [← hB] at HRY HRL HSZ1 HPW HJ hmbw ⊢
    have HW := Lib.hid hB
    clear hB
    have hs1 : w1.heap.size = B + 2 := HSZ1.out
    gi_upto_region 6 with fail
    try rw [hs1]
    have hb2 : Below w1.heap.size w1 (w1.alloc (.cells #[.nilFunc] 103)) := (Below.refl _ _).alloc (Nat.le_refl _) _
    have hrd := Row.new w1 103 [.nilFunc]
    rw [hs1] at hrd
    have hsz2 : (w1.alloc (.cells #[.nilFunc] 103)).heap.size = B + 3 := by simp [hs1]
    generalize w1.alloc (.cells #[.nilFunc] 103) = w2 at *
    have e0 := hrd.cell 0
    have ef := hrd.frozen 0
    have el := hrd.lt
    simp only [List.getElem?_cons_zero] at e0
    gi_upto_region 7 with fail
    have hy2 := HRY.out.below hb2 HRY.out.lt
    have hl2 := HRL.out.below hb2 HRL.out.lt
    have hmm2 := HMM.out.below hb2 HMM.out.lt
    have hj2 := HJ.out _ _ _ HJ1.out (ChgP.of_below hb2)
    have hm2 := HS.out.below HM1.out hb2
    have hc3 : ChgP (fun k => k = B + 2) w2 (w2.setCell ⟨B + 2, 0, none⟩ (.func (.func 41) #[] #[.pointer (some ⟨mb, 0, none⟩), .pointer (some ⟨B + 1, 0, none⟩), .pointer (some ⟨B + 2, 0, none⟩), .pointer (some ⟨B, 0, none⟩)])) := ChgP.set_ (Z := fun k => k = B + 2) (ChgP.refl _ w2) (p := ⟨B + 2, 0, none⟩) (.inl rfl) _
    have hd3 := hrd.set_ 0 (.func (.func 41) #[] #[.pointer (some ⟨mb, 0, none⟩), .pointer (some ⟨B + 1, 0, none⟩), .pointer (some ⟨B + 2, 0, none⟩), .pointer (some ⟨B, 0, none⟩)])
    simp only [List.set_cons_zero] at hd3
    generalize w2.setCell ⟨B + 2, 0, none⟩ (.func (.func 41) #[] #[.pointer (some ⟨mb, 0, none⟩), .pointer (some ⟨B + 1, 0, none⟩), .pointer (some ⟨B + 2, 0, none⟩), .pointer (some ⟨B, 0, none⟩)]) = w3 at *
    have hz3 : ∀ k, Z k ∨ R k → k < B := fun k hk => HPW.out k (HP.out k (hk.elim .inl (fun h => .inr (.inl h))))
    have hit : Itr S Z R M T v mb B l left w3 := ⟨⟨s0, HS.out.chg hm2 hc3 (fun k hk hk2 => by have := hz3 k hk; omega)⟩, hc3.row hmm2 (by omega), hc3.row hy2 (by omega), hc3.row hl2 (by omega), hd3⟩
    have hj3 := HJ.out _ _ _ hj2 (hc3.mono (fun k hk => .inl (.inr (by rw [HML.out]; omega))))
    have hsz3 : B + 3 ≤ w3.heap.size := by have := hc3.size; omega
    have hdn := under_in HS.out HC.out Z R prot M mb B l (lvs M root (left : Int)) HP.out HMB.out HPW.out J Jx (by rw [← HML.out]; exact HJ.out)
      (fun pre x W1 h1 h2 h3 => by
        have h := YieldAt.any 0 (HY.out pre x W1 h1 h2 (by rw [HML.out, ← HW.out]; exact h3))
        rw [HML.out, ← HW.out] at h
        exact h)
      3 0 root 0 left (n - 1) [] w3 rfl (by omega) (by omega) (by unfold Bu.rch; decide) hl1 (by omega) hit hj3 (by rw [HE.out]; simp) hsz3
    rw [← HE.out] at hdn
    simp only [List.nil_append] at hdn
    unfold pmb at hdn
    have HDN := Lib.hid hdn
    have e1 := hd3.cell 0
    have e1l := hd3.lt
    simp only [List.getElem?_cons_zero] at e1
    have a2' : w3.cell? ⟨rb, 0, none⟩ = some (.int .u64 (root : Nat)) := by
      have h := hc3.row ((HR2.out.below HB1.out HR2.out.lt).below hb2 (HR2.out.below HB1.out HR2.out.lt).lt) (by have := HR2.out.lt; rw [← HW.out] at this; omega)
      exact h.cell 0
    clear hdn hy2 hl2 hmm2 hj2 hm2 hc3 hd3 hit hj3 hsz3 e0 ef el hrd hb2
    gi_wp2_with fail
    refine ⟨trivial, hdd _, HDN.out.mono ?_⟩
    rintro e w7 ⟨_, (⟨rfl, hj7, hit7⟩ | ⟨rfl, q, hq, hjx, hm7⟩)⟩
    · have HX7 := Lib.hid (And.intro hj7 hit7.mach)
      clear hj7 hit7
      gi_wp2_with fail
      go_end0
      exact ⟨⟨_, rfl⟩, .inl ⟨_, rfl, HX7.out.1⟩, HX7.out.2⟩
    · have HX7 := Lib.hid (And.intro hq (And.intro hjx hm7))
      clear hq hjx hm7
      gi_wp2_with fail
      go_end0
      exact ⟨⟨_, rfl⟩, .inr ⟨q, HX7.out.1, HX7.out.2.1⟩, HX7.out.2.2⟩
  · have f1 : ((root : Int) % 4096 != 0) = true := by simp; omega
    have HE : Hid (lvs M root (left : Int) = [⟨0, 0, 134217728, false, false, false, 42⟩]) := Lib.hid (by unfold lvs; rw [if_neg q0, if_pos q1])
    have HML : Hid (lvM root = 2) := Lib.hid (by unfold lvM; rw [if_neg q1])
    have hy0 := HY.out [] ⟨0, 0, 134217728, false, false, false, 42⟩ _ HJ1.out (by rw [HE.out]; simp) (by rw [HML.out, HSZ1.out]; exact Nat.le_refl _)
    obtain ⟨fn, tmps, assign, body, hy, hR⟩ := YieldAt.any (n - 1) hy0
    rw [show lvEnc ⟨0, 0, 134217728, false, false, false, 42⟩ = #[.agg #[.int .u64 0, .int .u64 0, .int .i64 134217728, .bool false, .bool false, .bool false], .int .i64 42] from rfl] at hy
    clear hy0
    have y0 := HRY.out.cell 0
    have yl := HRY.out.lt
    simp only [List.getElem?_cons_zero] at y0
    unfold pyl at y0
    gi_wp2_with fail
    refine ⟨hdd _, hR.mono ?_⟩
    have hkm : ∀ w7, KpC (upTo prot W.heap.size (lvM root)) ((W.alloc (.cells #[.func (.yield l) #[] #[]] 102)).alloc (.cells #[.int .i64 (left : Int)] 3)) w7 → S Z R w7 (sM M s0) := fun w7 hk => HS.out.chg HM1.out hk (fun k hz hn => hn (.inl (HP.out k (hz.elim .inl (fun h => .inr (.inl h))))))
    rintro e w7 (⟨rfl, hj7, hk7⟩ | ⟨rfl, hjx, hk7⟩)
    · have HX7 : Hid (J [⟨0, 0, 134217728, false, false, false, 42⟩] w7 ∧ S Z R w7 (sM M s0)) := Lib.hid ⟨hj7, hkm w7 hk7⟩
      clear hj7 hk7 hkm hy hR
      gi_wp2_with fail
      refine bodyPost_ret (results_none rfl _ _ _) rfl ?_
      exact ⟨⟨_, rfl⟩, .inl ⟨_, HE.out.symm, HX7.out.1⟩, ⟨s0, HX7.out.2⟩⟩
    · have HX7 : Hid (Jx [⟨0, 0, 134217728, false, false, false, 42⟩] w7 ∧ S Z R w7 (sM M s0)) := Lib.hid ⟨hjx, hkm w7 hk7⟩
      clear hjx hk7 hkm hy hR
      gi_wp2_with fail
      refine bodyPost_ret (results_none rfl _ _ _) rfl ?_
      exact ⟨⟨_, rfl⟩, .inr ⟨_, by rw [HE.out]; exact List.prefix_rfl, HX7.out.1⟩, ⟨s0, HX7.out.2⟩⟩
end Go.Proofs.Ytfpofaniicegaaa

/- The walk of walk.Leaves. -/
set_option linter.unusedVariables false
set_option linter.unusedSimpArgs false
namespace Go.Proofs.Ytfpofaniicegaaa
open Go.RowKit
open S64
open Bu
/-- the three boxes that Leaves lays -/
def lvW (w : World) (m : Value) (root : Nat) (most : Int) : World := ((w.alloc (.cells #[m] 88)).alloc (.cells #[.int .u64 (root : Nat)] 22)).alloc (.cells #[.int .i64 most] 3)
def lvF (B : Nat) : Value := .func (.func 40) #[] #[pmb (B + 2), pmb B, pmb (B + 1)]
theorem leaves_any (T : TypeId) (v : Value) (root : Nat) (most : Int) (w : World) : Calls Try.prog 26 #[(.iface T v), .int .u64 (root : Nat), .int .i64 most] w fun e w' => e = .returned (lvF w.heap.size) ∧ w' = lvW w (.iface T v) root most := by
  go_enter Try.func26, Try.ntmps26
  go_wp2_with fail
  refine bodyPost_ret (v := lvF w.heap.size) (by simp [results, Try.results26, go_sem, lvF, pmb]) rfl ⟨rfl, rfl⟩
theorem leavesN_any (root : Nat) (most : Int) (w : World) : Calls Try.prog 26 #[.nilIface, .int .u64 (root : Nat), .int .i64 most] w fun e w' => e = .returned (lvF w.heap.size) ∧ w' = lvW w .nilIface root most := by
  go_enter Try.func26, Try.ntmps26
  go_wp2_with fail
  refine bodyPost_ret (v := lvF w.heap.size) (by simp [results, Try.results26, go_sem, lvF, pmb]) rfl ⟨rfl, rfl⟩
theorem lvW_rows (w : World) (m : Value) (root : Nat) (most : Int) : (lvW w m root most).heap.size = w.heap.size + 3 ∧ Below w.heap.size w (lvW w m root most) ∧ Row (lvW w m root most) w.heap.size 88 [m] ∧ Row (lvW w m root most) (w.heap.size + 1) 22 [.int .u64 (root : Nat)] ∧ Row (lvW w m root most) (w.heap.size + 2) 3 [.int .i64 most] := by
  unfold lvW
  refine ⟨by simp, (((Below.refl _ _).alloc (Nat.le_refl _) _).alloc (by simp) _).alloc (by simp; omega) _, ((Row.new w _ [m]).alloc _).alloc _, ?_, ?_⟩
  · have h := Row.new (w.alloc (.cells #[m] 88)) 22 [.int .u64 (root : Nat)]
    rw [show (w.alloc (.cells #[m] 88)).heap.size = w.heap.size + 1 by simp] at h
    exact h.alloc _
  · have h := Row.new ((w.alloc (.cells #[m] 88)).alloc (.cells #[.int .u64 (root : Nat)] 22)) 3 [.int .i64 most]
    rw [show ((w.alloc (.cells #[m] 88)).alloc (.cells #[.int .u64 (root : Nat)] 22)).heap.size = w.heap.size + 2 by simp] at h
    exact h
end Go.Proofs.Ytfpofaniicegaaa

/- An argument that is a slice of uint64: opened to its numbers. -/
set_option linter.unusedVariables false
set_option linter.unusedSimpArgs false
namespace Go.Proofs.Ytfpofaniicegaaa
open Go.Joins Go.ChangeShapes Go.WideShapes Go.RowKit Go.Deep
open S64 Bu
/-- a slice of numbers -/
def IsU (w : World) (B : Nat) (A : Option Addr) (n : Nat) (us : List Nat) : Prop := Reads w B 1 A n (us.map u64v) ∧ (∀ u ∈ us, u < 18446744073709551616) ∧ n ≤ 9223372036854775807
theorem IsU.len {w : World} {B n : Nat} {A : Option Addr} {us : List Nat} (h : IsU w B A n us) : us.length = n := by have := h.1.1; simpa using this
theorem IsU.below {w w' : World} {B n : Nat} {A : Option Addr} {us : List Nat} (h : IsU w B A n us) (hb : Below B w w') : IsU w' B A n us := ⟨h.1.below hb, h.2⟩
theorem IsU.form {w : World} {B n : Nat} {A : Option Addr} {us : List Nat} (h : IsU w B A n us) :
    ∃ b off, Hid (0 < n → A = some ⟨b, off, none⟩ ∧ b < B ∧ ∀ k u, us[k]? = some u → u < 18446744073709551616 ∧ w.cell? ⟨b, off + k, none⟩ = some (.int .u64 (u : Nat))) := by
  rcases Nat.eq_zero_or_pos n with h0 | h0
  · exact ⟨0, 0, fun h => absurd h (by omega)⟩
  · obtain ⟨⟨b, off, sp⟩, rfl, hb, hc⟩ := h.1.2 h0
    have hx : ∀ k u, us[k]? = some u → (us.map u64v)[k]? = some (u64v u) := fun k u hu => by rw [List.getElem?_map, hu]; rfl
    have hs : sp = none := by
      have hl := h.len
      have h0r : ∃ r, us[0]? = some r := ⟨_, List.getElem?_eq_getElem (by omega)⟩
      obtain ⟨r, hr⟩ := h0r
      have := World.cell?_spot (hc 0 _ (hx 0 r hr))
      simpa [Addr.add] using this
    subst hs
    refine ⟨b, off, fun _ => ⟨rfl, hb, fun k u hu => ⟨h.2.1 u (List.mem_of_getElem? hu), ?_⟩⟩⟩
    have := hc _ _ (hx k u hu)
    unfold Addr.add at this
    split at this
    · rename_i h0; rw [h0, Nat.add_zero]; exact this
    · exact this
section
variable {H : Type} {enc : TypeId × Value → H} {w : World} {base : Nat} {spare : Nat → Bool} {held : Bool}
theorem open_u64s {fuel : Nat} {A : Option Addr} {len cap : Nat} {y : DataW H × List MemPlace} (h : DataW.trod enc Try.prog w base spare held fuel 54 [.slice A len cap] = some y) : ∃ us, IsU w w.heap.size A len us ∧ len ≤ cap := by
  rcases open_slice Try.underlying54 h with ⟨h0, _⟩ | ⟨a, len', cap', m, n', D, Pl, hcs, hb, hl, hm, hmm, hx, hi⟩
  · simp at h0
    obtain ⟨rfl, rfl, rfl⟩ := h0
    exact ⟨[], ⟨Reads.none_, by simp, by omega⟩, Nat.le_refl _⟩
  · simp at hcs
    obtain ⟨rfl, rfl, rfl⟩ := hcs
    have hle : len ≤ m := by rw [hmm]; split <;> omega
    have hc1 : Try.prog.cellsOf 22 = 1 := by kernel_rfl
    obtain ⟨us, hbl, hbs⟩ := list_of (P := fun i u => w.cell? (a.add i) = some (u64v u) ∧ u < 18446744073709551616) len (fun i hil => by
      obtain ⟨cs', h1, h2⟩ := hi i (by omega)
      rw [hc1, Nat.mul_one] at h1
      obtain ⟨z, rfl, _, hw⟩ := DataW.trod_int (k := .u64) Try.underlying22 h2
      obtain ⟨_, _, hat⟩ := World.cells?_some h1
      obtain ⟨s, rfl, hs⟩ := nat_of_u64 hw
      have := hat 0 (by omega)
      rw [add_of_add, Nat.add_zero] at this
      exact ⟨s, by rw [this]; rfl, hs⟩)
    refine ⟨us, ⟨⟨by simp [hbl], fun h0 => ⟨a, rfl, ?_, fun j u hu => ?_⟩⟩, fun b hb' => ?_, by unfold maxLen at hm; omega⟩, hl⟩
    · have h2 := (hbs 0 _ (List.getElem?_eq_getElem (by omega))).1
      have := World.block_lt_of_cell? w _ h2
      rwa [block_of_add] at this
    · rw [List.getElem?_map] at hu
      obtain ⟨b, hb1, rfl⟩ := Option.map_eq_some_iff.1 hu
      exact (hbs j b hb1).1
    · obtain ⟨i, hi1, rfl⟩ := List.mem_iff_getElem.1 hb'
      exact (hbs i _ (List.getElem?_eq_getElem hi1)).2
end
end Go.Proofs.Ytfpofaniicegaaa

/- The walk of mapped: is an address within a leaf translated as the leaf says? -/
set_option linter.unusedVariables false
set_option linter.unusedSimpArgs false
namespace Go.Proofs.Ytfpofaniicegaaa
open Go.RowKit
open S64
namespace Bu
/-- three faults and a leaf lie in cells -/
structure Lain (g : Nat) (Z R : Nat → Prop) (M : PM) (w0 wr : World) (c7 c12 c14 c16 : Nat) (l : Lv) (f1 f2 f3 : Nat × Nat) : Prop where
  m : ∃ s ld, MZ Z R wr g (cM M s ld)
  c : ChgP Z w0 wr
  r7 : Row wr c7 72 [.int .u64 (l.v : Nat), .int .u64 (l.p : Nat), .int .i64 (l.n : Nat), .bool l.b, .bool l.w, .bool l.x]
  r12 : Row wr c12 48 [.int .i64 (f1.1 : Nat), .int .u64 (f1.2 : Nat)]
  r14 : Row wr c14 48 [.int .i64 (f2.1 : Nat), .int .u64 (f2.2 : Nat)]
  r16 : Row wr c16 48 [.int .i64 (f3.1 : Nat), .int .u64 (f3.2 : Nat)]
set_option maxRecDepth 100000 in
set_option maxHeartbeats 4000000 in
theorem mapped_any (g : Nat) {Z R : Nat → Prop} {w : World} {M : PM} {s ld : Int} (root a : Nat) (l : Lv) (hm : MZ Z R w g (cM M s ld)) (hr : root ≤ TOP) (ha : a ≤ TOP) (hla : l.v ≤ a) (hno : l.no = 0 ∨ l.no = 42)
    (hs : ∀ access, 1 ≤ access ∧ access ≤ 3 → trI M root a access = l.say a access) :
    Calls Try.prog 27 #[.pointer (some ⟨g, 0, none⟩), .int .u64 (root : Nat), lvV l, .int .i64 (l.no : Nat), .int .u64 (a : Nat)] w fun e w' => e = .returned (.bool true) ∧ ∃ s ld, MZ Z R w' g (cM M s ld) ∧ ChgP Z w w' := by
  have HM := Lib.hid hm; have HR := Lib.hid hr; have HA := Lib.hid ha; have HS := Lib.hid hs; have HLA := Lib.hid hla; have HNO := Lib.hid hno
  have HT : Hid (∀ (access : Int) (wx : World) (s ld : Int), MZ Z R wx g (cM M s ld) → Calls Try.prog 20 #[.iface 41 (.pointer (some ⟨g, 0, none⟩)), .int .u64 (root : Nat), .int .u64 (a : Nat), .int .i64 access] wx fun e w' => e = .returned (.tuple #[.int .u64 ((trI M root a access).1 : Nat), .agg #[.int .i64 ((trI M root a access).2 : Nat), .int .u64 ((if (trI M root a access).2 = 0 then 0 else a : Nat) : Nat)]]) ∧ ∃ s ld, MZ Z R w' g (cM M s ld) ∧ ChgP Z wx w') := Lib.hid (fun access wx s ld h => wtr_k g root a access h HR.out HA.out)
  obtain ⟨T1, hT1⟩ : ∃ T, T = trI M root a 1 := ⟨_, rfl⟩
  obtain ⟨T2, hT2⟩ : ∃ T, T = trI M root a 2 := ⟨_, rfl⟩
  obtain ⟨T3, hT3⟩ : ∃ T, T = trI M root a 3 := ⟨_, rfl⟩
  have H1 := HT.out 1; have H2 := HT.out 2; have H3 := HT.out 3
  rw [← hT1] at H1
  rw [← hT2] at H2
  rw [← hT3] at H3
  have hB1 : T1.1 < 8589934592 := by rw [hT1]; exact trI_lt.1
  have hS1 : T1 = l.say a 1 := by rw [hT1]; exact hs 1 (by decide)
  have hS2 : T2 = l.say a 2 := by rw [hT2]; exact hs 2 (by decide)
  have hS3 : T3 = l.say a 3 := by rw [hT3]; exact hs 3 (by decide)
  have HS1 := Lib.hid (And.intro hB1 (And.intro hS1 (And.intro hS2 hS3)))
  obtain ⟨P1, N1⟩ := T1
  obtain ⟨P2, N2⟩ := T2
  obtain ⟨P3, N3⟩ := T3
  simp only at H1 H2 H3
  obtain ⟨D1, hD1⟩ : ∃ D, D = (if N1 = 0 then 0 else a : Nat) := ⟨_, rfl⟩
  obtain ⟨D2, hD2⟩ : ∃ D, D = (if N2 = 0 then 0 else a : Nat) := ⟨_, rfl⟩
  obtain ⟨D3, hD3⟩ : ∃ D, D = (if N3 = 0 then 0 else a : Nat) := ⟨_, rfl⟩
  rw [← hD1] at H1
  rw [← hD2] at H2
  rw [← hD3] at H3
  have K1 := Lib.hid H1; have K2 := Lib.hid H2; have K3 := Lib.hid H3
  have HD := Lib.hid (And.intro hD1 (And.intro hD2 hD3))
  clear H1 H2 H3 HT hT1 hT2 hT3 hB1 hS1 hS2 hS3 hD1 hD2 hD3 hm hr ha hs hla hno
  unfold lvV
  go_enter Try.func27, Try.ntmps27
  go_upto_region 1 with fail
  have hr7 := Row.new w 72 [.int .u64 (l.v : Nat), .int .u64 (l.p : Nat), .int .i64 (l.n : Nat), .bool l.b, .bool l.w, .bool l.x]
  have hb1 : Below w.heap.size w (w.alloc (.cells #[.int .u64 (l.v : Nat), .int .u64 (l.p : Nat), .int .i64 (l.n : Nat), .bool l.b, .bool l.w, .bool l.x] 72)) := (Below.refl _ _).alloc (Nat.le_refl _) _
  have HNZ : Hid (¬ Z w.heap.size) := Lib.hid (fun h => Nat.lt_irrefl _ (HM.out.z _ h))
  have HM1 := Lib.hid (HM.out.below hb1)
  have HC1 : Hid (ChgP Z w (w.alloc (.cells #[.int .u64 (l.v : Nat), .int .u64 (l.p : Nat), .int .i64 (l.n : Nat), .bool l.b, .bool l.w, .bool l.x] 72))) := Lib.hid (ChgP.of_below hb1)
  obtain ⟨c7, hc7⟩ : ∃ c, c = w.heap.size := ⟨_, rfl⟩
  generalize w.alloc (.cells #[.int .u64 (l.v : Nat), .int .u64 (l.p : Nat), .int .i64 (l.n : Nat), .bool l.b, .bool l.w, .bool l.x] 72) = w1 at *
  rw [← hc7] at hr7 HNZ ⊢
  have H7 := Lib.hid hr7
  clear hr7 hb1 hc7 HM
  go_upto_region 2 with (go_at_call 20; refine (K1.out w1 _ _ HM1.out).mono ?_; rintro e w2 ⟨rfl, s2, ld2, hm2, hc2⟩; have HM2 := Lib.hid hm2; have HC2 := Lib.hid hc2; clear hm2 hc2)
  have hr12 := Row.new w2 48 [.int .i64 (N1 : Nat), .int .u64 (D1 : Nat)]
  have hb3 : Below w2.heap.size w2 (w2.alloc (.cells #[.int .i64 (N1 : Nat), .int .u64 (D1 : Nat)] 48)) := (Below.refl _ _).alloc (Nat.le_refl _) _
  have HN12 : Hid (¬ Z w2.heap.size) := Lib.hid (fun h => Nat.lt_irrefl _ (HM2.out.z _ h))
  have HM3 := Lib.hid (HM2.out.below hb3)
  have HC3 : Hid (ChgP Z w (w2.alloc (.cells #[.int .i64 (N1 : Nat), .int .u64 (D1 : Nat)] 48))) := Lib.hid ((HC1.out.trans HC2.out (fun x hx => .inl hx)).alloc _)
  have H7n := Lib.hid ((HC2.out.row H7.out HNZ.out).below hb3 (HC2.out.row H7.out HNZ.out).lt)
  obtain ⟨c12, hc12⟩ : ∃ c, c = w2.heap.size := ⟨_, rfl⟩
  generalize w2.alloc (.cells #[.int .i64 (N1 : Nat), .int .u64 (D1 : Nat)] 48) = w3 at *
  rw [← hc12] at hr12 HN12 ⊢
  clear H7
  have H12 := Lib.hid hr12
  have H7 := Lib.hid H7n.out
  clear H7n
  clear hr12 hb3 hc12 HM2 HC2 HM1 HC1
  go_upto_region 3 with (go_at_call 20; refine (K2.out w3 _ _ HM3.out).mono ?_; rintro e w4 ⟨rfl, s4, ld4, hm4, hc4⟩; have HM4 := Lib.hid hm4; have HC4 := Lib.hid hc4; clear hm4 hc4)
  have hr14 := Row.new w4 48 [.int .i64 (N2 : Nat), .int .u64 (D2 : Nat)]
  have hb5 : Below w4.heap.size w4 (w4.alloc (.cells #[.int .i64 (N2 : Nat), .int .u64 (D2 : Nat)] 48)) := (Below.refl _ _).alloc (Nat.le_refl _) _
  have HN14 : Hid (¬ Z w4.heap.size) := Lib.hid (fun h => Nat.lt_irrefl _ (HM4.out.z _ h))
  have HM5 := Lib.hid (HM4.out.below hb5)
  have HC5 : Hid (ChgP Z w (w4.alloc (.cells #[.int .i64 (N2 : Nat), .int .u64 (D2 : Nat)] 48))) := Lib.hid ((HC3.out.trans HC4.out (fun x hx => .inl hx)).alloc _)
  have H7n := Lib.hid ((HC4.out.row H7.out HNZ.out).below hb5 (HC4.out.row H7.out HNZ.out).lt)
  have H12n := Lib.hid ((HC4.out.row H12.out HN12.out).below hb5 (HC4.out.row H12.out HN12.out).lt)
  obtain ⟨c14, hc14⟩ : ∃ c, c = w4.heap.size := ⟨_, rfl⟩
  generalize w4.alloc (.cells #[.int .i64 (N2 : Nat), .int .u64 (D2 : Nat)] 48) = w5 at *
  rw [← hc14] at hr14 HN14 ⊢
  clear H7 H12
  have H14 := Lib.hid hr14
  have H7 := Lib.hid H7n.out
  clear H7n
  have H12 := Lib.hid H12n.out
  clear H12n
  clear hr14 hb5 hc14 HM4 HC4 HM3 HC3
  go_upto_region 4 with (go_at_call 20; refine (K3.out w5 _ _ HM5.out).mono ?_; rintro e w6 ⟨rfl, s6, ld6, hm6, hc6⟩; have HM6 := Lib.hid hm6; have HC6 := Lib.hid hc6; clear hm6 hc6)
  have hr16 := Row.new w6 48 [.int .i64 (N3 : Nat), .int .u64 (D3 : Nat)]
  have hb7 : Below w6.heap.size w6 (w6.alloc (.cells #[.int .i64 (N3 : Nat), .int .u64 (D3 : Nat)] 48)) := (Below.refl _ _).alloc (Nat.le_refl _) _
  have HN16 : Hid (¬ Z w6.heap.size) := Lib.hid (fun h => Nat.lt_irrefl _ (HM6.out.z _ h))
  have HM7 := Lib.hid (HM6.out.below hb7)
  have HC7 : Hid (ChgP Z w (w6.alloc (.cells #[.int .i64 (N3 : Nat), .int .u64 (D3 : Nat)] 48))) := Lib.hid ((HC5.out.trans HC6.out (fun x hx => .inl hx)).alloc _)
  have H7n := Lib.hid ((HC6.out.row H7.out HNZ.out).below hb7 (HC6.out.row H7.out HNZ.out).lt)
  have H12n := Lib.hid ((HC6.out.row H12.out HN12.out).below hb7 (HC6.out.row H12.out HN12.out).lt)
  have H14n := Lib.hid ((HC6.out.row H14.out HN14.out).below hb7 (HC6.out.row H14.out HN14.out).lt)
  obtain ⟨c16, hc16⟩ : ∃ c, c = w6.heap.size := ⟨_, rfl⟩
  generalize w6.alloc (.cells #[.int .i64 (N3 : Nat), .int .u64 (D3 : Nat)] 48) = w7 at *
  rw [← hc16] at hr16 HN16 ⊢
  clear H7 H12 H14
  have H16 := Lib.hid hr16
  have H7 := Lib.hid H7n.out
  clear H7n
  have H12 := Lib.hid H12n.out
  clear H12n
  have H14 := Lib.hid H14n.out
  clear H14n
  clear hr16 hb7 hc16 HM6 HC6 HM5 HC5
  have HL : Hid (Lain g Z R M w w7 c7 c12 c14 c16 l (N1, D1) (N2, D2) (N3, D3)) := Lib.hid ⟨⟨_, _, HM7.out⟩, HC7.out, H7.out, H12.out, H14.out, H16.out⟩
  clear HM7 HC7 H7 H12 H14 H16 HNZ HN12 HN14 HN16 K1 K2 K3
  have r7 := HL.out.r7
  have r12 := HL.out.r12
  have r14 := HL.out.r14
  have r16 := HL.out.r16
  have t0 := r7.cell 0
  have t1 := r7.cell 1
  have t4 := r7.cell 4
  have t5 := r7.cell 5
  have tl := r7.lt
  have x0 := r12.cell 0
  have x1 := r12.cell 1
  have xl := r12.lt
  have y0 := r14.cell 0
  have y1 := r14.cell 1
  have yl := r14.lt
  have z0 := r16.cell 0
  have z1 := r16.cell 1
  have zl := r16.lt
  simp only [List.getElem?_cons_zero, List.getElem?_cons_succ] at t0 t1 t4 t5 x0 x1 y0 y1 z0 z1
  clear r7 r12 r14 r16
  obtain ⟨hB1, hS1, hS2, hS3⟩ := HS1.out
  obtain ⟨hD1, hD2, hD3⟩ := HD.out
  rcases HNO.out with hno | hno
  · have q1 : (P1, N1) = (l.p + (a - l.v), 0) := by rw [hS1]; unfold Lv.say; rw [if_neg (by omega), if_neg (fun h => absurd h.1 (by decide)), if_neg (fun h => absurd h.1 (by decide))]
    have q2 : (P2, N2) = if l.w = false then (0, 43) else (l.p + (a - l.v), 0) := by
      rw [hS2]; unfold Lv.say; rw [if_neg (by omega)]
      cases l.w
      · rw [if_pos ⟨rfl, rfl⟩, if_pos rfl]
      · rw [if_neg (fun h => absurd h.2 (by decide)), if_neg (fun h => absurd h.1 (by decide)), if_neg (by decide)]
    have q3 : (P3, N3) = if l.x = false then (0, 44) else (l.p + (a - l.v), 0) := by
      rw [hS3]; unfold Lv.say; rw [if_neg (by omega), if_neg (fun h => absurd h.1 (by decide))]
      cases l.x
      · rw [if_pos ⟨rfl, rfl⟩, if_pos rfl]
      · rw [if_neg (fun h => absurd h.2 (by decide)), if_neg (by decide)]
    obtain ⟨dv, hdv⟩ : ∃ dv, dv = a - l.v := ⟨_, rfl⟩
    rw [← hdv] at q1 q2 q3
    obtain ⟨pw, hpw⟩ : ∃ pw, pw = l.p + dv := ⟨_, rfl⟩
    rw [← hpw] at q1 q2 q3
    simp only [Prod.mk.injEq] at q1
    obtain ⟨q1, q1'⟩ := q1
    have hpB : pw < 8589934592 := by rw [← q1]; exact hB1
    have e1 : (a : Int) - (l.v : Int) = (dv : Int) := by have := HLA.out; omega
    have e2 : (l.p : Int) + (dv : Int) = (pw : Int) := by omega
    have hdB : dv < 8589934592 := by omega
    clear hS1 hS2 hS3 hB1 hdv hpw
    rw [q1'] at hD1
    rw [if_pos rfl] at hD1
    subst q1 q1' hD1
    obtain ⟨bw, hbw⟩ : ∃ bw, bw = l.w := ⟨_, rfl⟩
    obtain ⟨bx, hbx⟩ : ∃ bx, bx = l.x := ⟨_, rfl⟩
    rw [← hbw] at t4 q2
    rw [← hbx] at t5 q3
    have HBW := Lib.hid (And.intro hbw hbx)
    clear hbw hbx
    rw [hno]
    clear hno
    cases bw
    all_goals cases bx
    all_goals
      simp only [if_true, if_false, Bool.true_eq_false, Prod.mk.injEq] at q2 q3
      obtain ⟨q2, q2'⟩ := q2
      obtain ⟨q3, q3'⟩ := q3
      subst q2 q2' q3 q3'
      first | rw [if_pos rfl] at hD2 | rw [if_neg (by decide)] at hD2
      first | rw [if_pos rfl] at hD3 | rw [if_neg (by decide)] at hD3
      rw [hD2] at y1
      rw [hD3] at z1
      clear hD2 hD3
      go_wp2_with fail
      go_ret
      obtain ⟨s9, ld9, hm9⟩ := HL.out.m
      first | exact ⟨rfl, ⟨s9, ld9, hm9⟩, HL.out.c⟩ | exact ⟨rfl, s9, ld9, hm9, HL.out.c⟩
  · have q1 : (P1, N1) = (0, 42) := by rw [hS1]; unfold Lv.say; rw [if_pos (by omega), hno]
    have q2 : (P2, N2) = (0, 42) := by rw [hS2]; unfold Lv.say; rw [if_pos (by omega), hno]
    have q3 : (P3, N3) = (0, 42) := by rw [hS3]; unfold Lv.say; rw [if_pos (by omega), hno]
    simp only [Prod.mk.injEq] at q1 q2 q3
    obtain ⟨q1, q1'⟩ := q1
    obtain ⟨q2, q2'⟩ := q2
    obtain ⟨q3, q3'⟩ := q3
    clear hS1 hS2 hS3 hB1
    subst q1 q1' q2 q2' q3 q3'
    rw [if_neg (by decide)] at hD1 hD2 hD3
    subst hD1 hD2 hD3
    rw [hno]
    clear hno t0 t1 t4 t5 tl
    go_wp2_with fail
    go_ret
    obtain ⟨s9, ld9, hm9⟩ := HL.out.m
    exact ⟨rfl, s9, ld9, hm9.below ((Below.refl _ _).alloc (Nat.le_refl _) _), HL.out.c.alloc _⟩
end Bu
end Go.Proofs.Ytfpofaniicegaaa
