/- WalkLeaves: the given statement, from the walk: whatever the input, the law returns true and each argument reads as it read before. No conditions. -/
import Derived.Test.YtfpofaniicegaaaRows
import Derived.Test.YtfpofaniicegaaaJWalkLeaves37
import Derived.Test.YtfpofaniicegaaaJWalkLeaves35
import Derived.Test.YtfpofaniicegaaaJWalkLeaves30
import Derived.WalkKit
import Derived.ProofKit
import Derived.OpenShut
import Derived.ShutString
import Derived.ChangeOld
import Derived.Below
import Derived.Lib.SmallJoins
import Derived.SizedLaws
import Derived.Deep.Slices
set_option linter.unusedVariables false
set_option linter.unusedSimpArgs false
namespace Go.Proofs.Ytfpofaniicegaaa.walkLeaves
open Go.ChangeShapes Go.WideShapes Go.ChangeAt Go.RowKit Go.Joins Go.Deep
open Go.ChangeMaps (open_string shut_string)

theorem own : ownKnob Try.prog.godebug = none := by kernel_rfl
theorem laidOut : laidOutB Try.prog = true := by kernel_rfl
theorem nat_of_u64' {a : Int} (h : (Lit.int .u64 a).wf = true) : ∃ s : Nat, a = s ∧ s ≤ 18446744073709551615 := by
  have := bounds_u64 h
  exact ⟨a.toNat, by omega, by omega⟩
set_option maxRecDepth 100000 in
theorem lifted (os : Os) (started : os.Started) (H : Type) (enc : TypeId × Value → H) :
    ReturnsInHanded {} Try.checked os 6 .any (Rows.walkLeavesSpec.pre6 enc Try.prog Try.f6 Rows.walkLeavesRow.domain false) (Rows.walkLeavesSpec.post enc Try.prog Try.f6 false true false false) := by
  refine returnsInHanded_of_change (C := Try.checked) own started (by kernel_rfl) Try.func6
    (ChangeSpec.witness6 (enc := enc) (C := Try.checked) false ⟨#[], #[.agg #[.slice none 0 0, .slice none 0 0], .slice none 0 0, .int .u64 0, .slice none 0 0], []⟩ 8 (by kernel_rfl) (by kernel_rfl) (by kernel_rfl) (by kernel_rfl)) ?_
  intro W base args ds gs before hval0 hW hcnd _
  have hval : ∀ (j : Nat) t v, Try.f6.params[j]? = some t → args[j]? = some v → Value.okWide Try.prog W .any base t v := hval0
  have hW' := hW
  obtain ⟨p, q, hA0, hV, rfl, hfz, hnd⟩ := hW
  have hA : DataW.TrodAll enc Try.prog W 0 (fun _ => true) true Try.f6.params.toList args.toList ds p := hA0
  rw [Try.params6] at hA hval
  obtain ⟨v0, vs0, d0, ds0, p0, q0, hargs, rfl, rfl, h0, r0⟩ := trodAll_cons hA
  obtain ⟨v1, vs1, d1, ds1, p1, q1, rfl, rfl, rfl, h1, r1⟩ := trodAll_cons r0
  obtain ⟨v2, vs2, d2, ds2, p2, q2, rfl, rfl, rfl, h2, r2⟩ := trodAll_cons r1
  obtain ⟨v3, vs3, d3, ds3, p3, q3, rfl, rfl, rfl, h3, r3⟩ := trodAll_cons r2
  obtain ⟨rfl, rfl, rfl⟩ := trodAll_nil r3
  obtain rfl : args = #[v0, v1, v2, v3] := by cases args; simp_all
  obtain ⟨rfl, rfl⟩ := trodVars_none hV
  have k0 := h0
  have lt0 : ∀ x ∈ p0, x.block < W.heap.size := by obtain ⟨m, hm⟩ := k0; exact DataW.trod_lt m _ _ _ hm
  obtain ⟨ar0, lr0, cr0, ad0, ld0, cd0, rr0, rd0, rfl, hr0, hd0, ht0⟩ := open_bus (hval 0 37 v0 rfl rfl) h0
  have k1 := h1
  have lt1 : ∀ x ∈ p1, x.block < W.heap.size := by obtain ⟨m, hm⟩ := k1; exact DataW.trod_lt m _ _ _ hm
  obtain ⟨aw1, lw1, cw1, rfl⟩ := okWide_slice Try.underlying38 (hval 1 38 v1 rfl rfl)
  obtain ⟨sw1, hw1, htw1⟩ : ∃ s, S64.IsS W W.heap.size aw1 lw1 s ∧ ∀ x ∈ s, x.1 ≤ S64.TOP ∧ x.2 ≤ S64.TOP := by
    obtain ⟨fuel, hf⟩ := h1
    obtain ⟨A', l', c', s, hv, h1, h2⟩ := open_words hf
    injection hv with e1 e2 e3
    subst e1 e2 e3
    exact ⟨s, h1, h2⟩
  obtain ⟨a2, rfl, rfl, rfl, w2⟩ := open_int Try.underlying22 (hval 2 22 v2 rfl rfl) h2
  have k3 := h3
  have lt3 : ∀ x ∈ p3, x.block < W.heap.size := by obtain ⟨m, hm⟩ := k3; exact DataW.trod_lt m _ _ _ hm
  obtain ⟨aq3, lq3, cq3, rfl⟩ := okWide_slice Try.underlying54 (hval 3 54 v3 rfl rfl)
  obtain ⟨us3, hq3⟩ : ∃ us, IsU W W.heap.size aq3 lq3 us := by
    obtain ⟨fuel, hf⟩ := h3
    obtain ⟨us, h1, _⟩ := open_u64s hf
    exact ⟨us, h1⟩
  clear hA0 hval0
  obtain ⟨root, rfl, hroot⟩ := nat_of_u64' w2
  refine (Bu.wleaves_walk ar0 ad0 aw1 aq3 lr0 ld0 lw1 lq3 cr0 cd0 cw1 cq3 rr0 rd0 sw1 us3 root W hr0 hd0 hw1 ht0 htw1 hroot hq3).mono fun e W' ⟨he, bel⟩ => ?_
  subst he
  exact ⟨_, rfl, _, _, _, [], _, [], hW', trodAll_mk1 (shut_bool Try.underlying4 _), (trodAll_cons_mk (Below.trod laidOut (by kernel_rfl) (of_decide_eq_true (by kernel_rfl)) k0 bel lt0) (trodAll_cons_mk (Below.trod laidOut (by kernel_rfl) (of_decide_eq_true (by kernel_rfl)) k1 bel lt1) (trodAll_cons_mk (shut_int Try.underlying22 w2) (trodAll_cons_mk (Below.trod laidOut (by kernel_rfl) (of_decide_eq_true (by kernel_rfl)) k3 bel lt3) trodAll_mk0)))), rfl, bel.frame _, fun h => by cases h⟩

theorem over : Rows.walkLeavesRow.holds Try.pinned (OpenSpec.ofChange Rows.walkLeavesSpec) :=
  OpenClaim.holds_of_wide 6 Try.f6 rfl rfl rfl rfl rfl rfl rfl ⟨rfl, rfl, rfl, rfl, rfl⟩ rfl rfl rfl rfl rfl (by kernel_rfl) Try.func6 (by kernel_rfl)
    (of_decide_eq_true (by kernel_rfl)) (by unfold Func.isWrapper; first | (rw [if_pos (by decide +kernel)]; kernel_rfl) | (rw [if_neg (by decide +kernel)]; exact ⟨rfl, rfl⟩))
    (fun os started H enc _ => lifted os started H enc)

theorem proved : Rows.WalkLeavesSaid := over
#print axioms proved
end Go.Proofs.Ytfpofaniicegaaa.walkLeaves
