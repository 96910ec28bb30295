/- Texts of this claim, one behind the other: WnB. -/
import Derived.Test.YtfpofaniicegaaaJWalkNames24
import Derived.Test.YtfpofaniicegaaaJWalkNames21
import Derived.Deep.Cut
import Derived.Deep.DeepCutAuto
/- The walk of WalkNames. -/
set_option linter.unusedVariables false
set_option linter.unusedSimpArgs false
namespace Go.Proofs.Ytfpofaniicegaaa
open Go.RowKit
open S64
open Bu
attribute [local go_sem] Oper.semAt_some
/-- rows of faults, and the result's cell -/
structure FR (w0 : World) (fs : List (Nat × List Value)) (w : World) : Prop where
  b : Below w0.heap.size w0 w
  r0 : Row w w0.heap.size 4 [.bool false]
  f : ∀ p ∈ fs, Row w p.1 48 p.2 ∧ w0.heap.size < p.1
theorem FR.chg {w0 w w' : World} {fs : List (Nat × List Value)} {Y : Nat → Prop} (h : FR w0 fs w) (hc : ChgP Y w w') (hY : ∀ k, Y k → w0.heap.size < k ∧ ∀ p ∈ fs, p.1 ≠ k) : FR w0 fs w' :=
  ⟨h.b.trans (hc.below h.b.size (fun k hk => Nat.le_of_lt (hY k hk).1)), hc.row h.r0 (fun hk => Nat.lt_irrefl _ (hY _ hk).1), fun p hp => ⟨hc.row (h.f p hp).1 (fun hk => (hY _ hk).2 p hp rfl), (h.f p hp).2⟩⟩
theorem FR.below {w0 w w' : World} {fs : List (Nat × List Value)} (h : FR w0 fs w) (hb : Below w.heap.size w w') : FR w0 fs w' := h.chg (Y := fun _ => False) (ChgP.of_below hb) (fun _ h => h.elim)
theorem FR.row {w0 w : World} {fs : List (Nat × List Value)} (h : FR w0 fs w) (c : List Value) : FR w0 (fs ++ [(w.heap.size, c)]) (w.alloc (.cells c.toArray 48)) := by
  have h2 := h.below ((Below.refl _ _).alloc (Nat.le_refl _) (.cells c.toArray 48))
  refine ⟨h2.b, h2.r0, fun p hp => ?_⟩
  rcases List.mem_append.1 hp with hp | hp
  · exact h2.f p hp
  · simp at hp; subst hp
    exact ⟨Row.new w _ c, h.r0.lt⟩
theorem FR.at_ {w0 w : World} {fs : List (Nat × List Value)} {p : Nat × List Value} (h : FR w0 fs w) (hp : p ∈ fs) : Row w p.1 48 p.2 := (h.f p hp).1
theorem FR.set {w0 w : World} {pre post : List (Nat × List Value)} {p : Nat} {x y : Value} (h : FR w0 (pre ++ (p, [x, y]) :: post) w) (hn : ∀ q ∈ pre ++ post, q.1 ≠ p) (a b : Value) : FR w0 (pre ++ (p, [a, b]) :: post) ((w.setCell ⟨p, 0, none⟩ a).setCell ⟨p, 1, none⟩ b) := by
  have hp := h.f (p, [x, y]) (by simp)
  have hc : ChgP (fun k => k = p) w ((w.setCell ⟨p, 0, none⟩ a).setCell ⟨p, 1, none⟩ b) := ((ChgP.refl (fun k => k = p) w).set_ (p := ⟨p, 0, none⟩) (.inl rfl) _).set_ (p := ⟨p, 1, none⟩) (.inl rfl) _
  have h1 : FR w0 (pre ++ post) w := ⟨h.b, h.r0, fun q hq => h.f q (by rcases List.mem_append.1 hq with hq | hq <;> simp [hq])⟩
  have h2 := h1.chg hc (fun k hk => by rw [show k = p from hk]; exact ⟨hp.2, hn⟩)
  refine ⟨h2.b, h2.r0, fun q hq => ?_⟩
  rcases List.mem_append.1 hq with hq | hq
  · exact h2.f q (by simp [hq])
  · rcases List.mem_cons.1 hq with rfl | hq
    · exact ⟨(hp.1.set_ 0 a).set_ 1 b, hp.2⟩
    · exact h2.f q (by simp [hq])
/-- with a machine beside -/
structure WN (w0 : World) (g : Nat) (Z R : Nat → Prop) (M : PM) (fs : List (Nat × List Value)) (w : World) : Prop where
  m : MZ Z R w g M
  r : FR w0 fs w
  z : ∀ k, Z k ∨ R k → w0.heap.size < k ∧ ∀ p ∈ fs, p.1 ≠ k
theorem WN.ask {w0 w w' : World} {g : Nat} {Z Z' R : Nat → Prop} {M M' : PM} {fs : List (Nat × List Value)} (h : WN w0 g Z R M fs w) (hm : MZ Z' R w' g M') (hc : ChgP Z w w') (hz : ∀ k, Z' k → Z k ∨ w.heap.size ≤ k) : WN w0 g Z' R M' fs w' := by
  refine ⟨hm, h.r.chg hc (fun k hk => h.z k (.inl hk)), fun k hk => ?_⟩
  rcases hk with hk | hk
  · rcases hz k hk with hk | hk
    · exact h.z k (.inl hk)
    · exact ⟨by have := h.r.r0.lt; omega, fun p hp e => by have := (h.r.f p hp).1.lt; omega⟩
  · exact h.z k (.inr hk)
theorem WN.row {w0 w : World} {g : Nat} {Z R : Nat → Prop} {M : PM} {fs : List (Nat × List Value)} (h : WN w0 g Z R M fs w) (c : List Value) : WN w0 g Z R M (fs ++ [(w.heap.size, c)]) (w.alloc (.cells c.toArray 48)) := by
  refine ⟨h.m.below ((Below.refl _ _).alloc (Nat.le_refl _) _), h.r.row c, fun k hk => ⟨(h.z k hk).1, fun p hp => ?_⟩⟩
  rcases List.mem_append.1 hp with hp | hp
  · exact (h.z k hk).2 p hp
  · simp at hp; subst hp
    have : k < w.heap.size := by
      rcases hk with hk | hk
      · exact (smach_i g).z h.m k hk
      · exact (smach_i g).r h.m k hk
    intro e
    simp at e
    omega
/-- the machine asked: a walk -/
theorem WN.below {w0 w w' : World} {g : Nat} {Z R : Nat → Prop} {M : PM} {fs : List (Nat × List Value)} (h : WN w0 g Z R M fs w) (hb : Below w.heap.size w w') : WN w0 g Z R M fs w' :=
  h.ask (h.m.below hb) (ChgP.of_below hb) (fun k hk => .inl hk)
theorem WN.set {w0 w : World} {g : Nat} {Z R : Nat → Prop} {M : PM} {pre post : List (Nat × List Value)} {p : Nat} {x y : Value} (h : WN w0 g Z R M (pre ++ (p, [x, y]) :: post) w) (hn : ∀ q ∈ pre ++ post, q.1 ≠ p) (a b : Value) : WN w0 g Z R M (pre ++ (p, [a, b]) :: post) ((w.setCell ⟨p, 0, none⟩ a).setCell ⟨p, 1, none⟩ b) := by
  have hc : ChgP (fun k => k = p) w ((w.setCell ⟨p, 0, none⟩ a).setCell ⟨p, 1, none⟩ b) := ((ChgP.refl (fun k => k = p) w).set_ (p := ⟨p, 0, none⟩) (.inl rfl) _).set_ (p := ⟨p, 1, none⟩) (.inl rfl) _
  refine ⟨h.m.chg hc (fun k hk hy => (h.z k hk).2 (p, [x, y]) (by simp) (show p = k from Eq.symm hy)), h.r.set hn a b, fun k hk => ⟨(h.z k hk).1, fun q hq => ?_⟩⟩
  rcases List.mem_append.1 hq with hq | hq
  · exact (h.z k hk).2 q (by simp [hq])
  · rcases List.mem_cons.1 hq with rfl | hq
    · exact (h.z k hk).2 (p, [x, y]) (by simp)
    · exact (h.z k hk).2 q (by simp [hq])
theorem WN.far {w0 W W' : World} {g S : Nat} {Z R T : Nat → Prop} {M : PM} {fs : List (Nat × List Value)} (h : WN w0 g Z R M fs W) (hc : ChgP T W W') (hT : ∀ k, T k → S ≤ k) (hS : w0.heap.size < S) (hf : ∀ p ∈ fs, p.1 < S) (hz : ∀ k, Z k ∨ R k → k < S) : WN w0 g Z R M fs W' :=
  ⟨h.m.chg hc (fun k hk hy => by have := hT k hy; have := hz k hk; omega), h.r.chg hc (fun k hk => ⟨by have := hT k hk; omega, fun p hp e => by have := hT k hk; have := hf p hp; omega⟩), h.z⟩
theorem neq_l0 (ww : World) : (binOp .neq 72 (.agg #[.int .u64 12288, .int .u64 20480, .int .i64 1, .bool false, .bool true, .bool false]) (.agg #[.int .u64 12288, .int .u64 20480, .int .i64 1, .bool false, .bool true, .bool false])).run Try.prog ww = .ok (.bool false) ww := by kernel_rfl
def wnA (lo : Nat) (a : Act) (x : Lv) (a' : Act) (W : World) : Prop := ∃ Bx, lo ≤ Bx ∧ Row W Bx 72 [.int .u64 (x.v : Nat), .int .u64 (x.p : Nat), .int .i64 (x.n : Nat), .bool x.b, .bool x.w, .bool x.x] ∧ a' = { tmps := (((a.tmps.setIfInBounds 100 (lvV x)).setIfInBounds 101 (.int .i64 (x.no : Nat))).setIfInBounds 14 (.pointer (some ⟨Bx, 0, none⟩))).setIfInBounds 15 (.int .i64 (x.no : Nat)), defers := [] }
theorem wnA_ab {lo : Nat} {a : Act} {x : Lv} {a' : Act} {T : Nat → Prop} (h3 : ∀ k, lo ≤ k → ¬ T k) : AbC T (fun (_ : Unit) W => wnA lo a x a' W) := by
  rintro _ W W' ⟨Bx, h1, h2, h⟩ hc
  exact ⟨Bx, h1, hc.row h2 (h3 _ h1), h⟩
theorem wn_tr {g : Nat} {Z R : Nat → Prop} {wx : World} {M : PM} (h : MZ Z R wx g M) (virt : Nat) (access : Int) {p no : Nat} (hr : trI M 4096 virt access = (p, no)) (hn : no ≠ 42) (hv : virt ≤ TOP) :
    Calls Try.prog 20 #[.iface 41 (.pointer (some ⟨g, 0, none⟩)), .int .u64 4096, .int .u64 (virt : Nat), .int .i64 access] wx fun e w' => e = .returned (.tuple #[.int .u64 (p : Nat), flt no virt]) ∧ MZ Z R w' g M ∧ ChgP Z wx w' := by
  refine (translateT_any (smach_i g) (ent_mach g) Z R wx M 4096 virt access h trivial (by decide) hv).mono ?_
  rintro e w' ⟨he, hq⟩
  rw [hr] at he hq
  exact ⟨he, hq.still hn⟩
theorem wn_ld1 {g : Nat} {Z R : Nat → Prop} {wx : World} (h : MZ Z R wx g fM) : Calls Try.prog 17 #[.iface 41 (.pointer (some ⟨g, 0, none⟩)), .int .u64 4096, .int .u64 16382, .int .i64 4] wx fun e w' => e = .returned (.tuple #[.int .u64 0, .agg #[.int .i64 41, .int .u64 16384]]) ∧ MZ Z R w' g n1M ∧ ChgP Z wx w' := by
  have hh := wload_mach g (translateT_any (smach_i g) (ent_mach g)) (Z := Z) (R := R) (w := wx) (M := fM) 4096 16382 4 h trivial trivial (by decide) (by decide)
  rw [wn_l1] at hh
  refine hh.mono fun e w' ht => ?_
  obtain ⟨he, s, _, h2, h3, h4⟩ := ht
  have hs : s = 0 := h2 ⟨by decide, by decide⟩
  subst hs
  exact ⟨he, h3, h4⟩
theorem wn_st {g : Nat} {Z R : Nat → Prop} {wx : World} (h : MZ Z R wx g n1M) : Calls Try.prog 21 #[.iface 41 (.pointer (some ⟨g, 0, none⟩)), .int .u64 4096, .int .u64 16383, .int .i64 1, .int .u64 511] wx fun e w' => e = .returned (.agg #[.int .i64 0, .int .u64 0]) ∧ ∃ Z', MZ Z' R w' g n2M ∧ ChgP Z wx w' ∧ ∀ k, Z' k → Z k ∨ wx.heap.size ≤ k := by
  have hh := wstore_mach g 4096 16383 511 1 (accZ n1M 4096 16383 2 1).1 (accZ n1M 4096 16383 2 1).2 (fun wy hy => reach_z g (translateT_any (smach_i g) (ent_mach g)) 4096 16383 1 2 hy trivial (by decide) (by decide)) (st1_mach g) (Z := Z) (R := R) (w := wx) h (by decide) trivial trivial accZ_len accZ_on
  rw [wn_s] at hh
  refine hh.mono fun e w' ht => ?_
  obtain ⟨he, s, Z', _, h2, h3, h4, h5⟩ := ht
  have hs : s = 0 := h2 ⟨by decide, by decide⟩
  subst hs
  exact ⟨he, Z', h3, h4, h5⟩
theorem wn_ld2 {g : Nat} {Z R : Nat → Prop} {wx : World} (h : MZ Z R wx g n2M) : Calls Try.prog 17 #[.iface 41 (.pointer (some ⟨g, 0, none⟩)), .int .u64 4096, .int .u64 16380, .int .i64 4] wx fun e w' => e = .returned (.tuple #[.int .u64 4278190080, .agg #[.int .i64 0, .int .u64 0]]) ∧ MZ Z R w' g n3M ∧ ChgP Z wx w' := by
  have hh := wload_mach g (translateT_any (smach_i g) (ent_mach g)) (Z := Z) (R := R) (w := wx) (M := n2M) 4096 16380 4 h trivial trivial (by decide) (by decide)
  rw [wn_l2] at hh
  refine hh.mono fun e w' ht => ?_
  obtain ⟨he, s, _, h2, h3, h4⟩ := ht
  have hs : s = 0 := h2 ⟨by decide, by decide⟩
  subst hs
  simp only [if_true] at he
  rw [wn_v] at he
  exact ⟨he, h3, h4⟩
theorem eql_fnw (w : World) (a b c : Value) : (binOp .eql 69 (.func (.func 40) #[] #[a, b, c]) .nilFunc).run Try.prog w = .ok (.bool false) w := by kernel_rfl
set_option maxRecDepth 100000 in
set_option maxHeartbeats 4000000 in
theorem walknames_walk (w : World) : Calls Try.prog 7 #[] w fun e w' => e = .returned (.bool true) ∧ Below w.heap.size w w' := by
  refine (callsIn_wide (n := 3)).1 ?_
  refine callsIn_of_wp_marks Try.func7 rfl trivial ?_ rfl
  simp only [Try.ntmps7, List.size_toArray, List.length_cons, List.length_nil, Nat.reduceAdd, Nat.reduceSub, Array.replicate_succ, Array.replicate_zero, List.push_toArray, List.append_toArray, List.nil_append, List.cons_append]
  gi_upto_region 3 with fail
  have hrow := Row.new w 4 [.bool false]
  have hb1 : Below w.heap.size w (w.alloc (.cells #[.bool false] 4)) := (Below.refl _ _).alloc (Nat.le_refl _) _
  generalize w.alloc (.cells #[.bool false] 4) = w1 at *
  have HF1 : Hid (FR w [] w1) := Lib.hid ⟨hb1, hrow, fun p hp => by cases hp⟩
  clear hrow hb1
  gi_wp2_with fail
  refine ⟨trivial, (callsIn_wide.2 (few_any w1)).mono ?_⟩
  rintro e w2 ⟨g, Z, R, rfl, hm, hz, hb⟩
  have H0 : Hid (WN w g Z R fM [] w2) := Lib.hid ⟨hm, HF1.out.below hb, fun k hk => ⟨by have := HF1.out.r0.lt; have := hz k hk; omega, fun p hp => by cases hp⟩⟩
  clear hm hz hb HF1
  gi_upto_region 6 with fail
  gi_wp2_with fail
  refine ⟨trivial, (callsIn_wide.2 (wn_tr H0.out.m 12304 1 wn_t1 (by decide) (by decide))).mono ?_⟩
  rintro e v1 ⟨rfl, hm, hc⟩
  rw [show flt 0 12304 = .agg #[.int .i64 0, .int .u64 0] from rfl]
  have hk := H0.out.ask hm hc (fun k hk => .inl hk)
  clear hm hc  H0
  gi_upto_region 7 with fail
  have hk2 := hk.row [.int .i64 0, .int .u64 0]
  have hlt : ∀ p ∈ ([] : List (Nat × List Value)), p.1 < v1.heap.size := fun p hp => (hk.r.f p hp).1.lt
  obtain ⟨p1, hp1⟩ : ∃ p, p = v1.heap.size := ⟨_, rfl⟩
  generalize v1.alloc (.cells #[.int .i64 0, .int .u64 0] 48) = a1 at *
  rw [← hp1] at hk2 hlt ⊢
  have H1 : Hid (WN w g Z R fM [(p1, [.int .i64 0, .int .u64 0])] a1) := Lib.hid hk2
  clear hk hk2 hlt hp1
  gi_wp2_with fail
  refine ⟨trivial, (callsIn_wide.2 (wn_tr H1.out.m 12304 3 wn_t2 (by decide) (by decide))).mono ?_⟩
  rintro e v2 ⟨rfl, hm, hc⟩
  rw [show flt 44 12304 = .agg #[.int .i64 44, .int .u64 12304] from rfl]
  have hk := H1.out.ask hm hc (fun k hk => .inl hk)
  clear hm hc  H1
  gi_upto_region 8 with fail
  have hk2 := hk.row [.int .i64 44, .int .u64 12304]
  have hlt : ∀ p ∈ ([(p1, [.int .i64 0, .int .u64 0])] : List (Nat × List Value)), p.1 < v2.heap.size := fun p hp => (hk.r.f p hp).1.lt
  obtain ⟨p2, hp2⟩ : ∃ p, p = v2.heap.size := ⟨_, rfl⟩
  generalize v2.alloc (.cells #[.int .i64 44, .int .u64 12304] 48) = a2 at *
  rw [← hp2] at hk2 hlt ⊢
  have hq2 : p1 < p2 ∧ True := ⟨hlt (p1, [.int .i64 0, .int .u64 0]) (by simp), trivial⟩
  have H2 : Hid (WN w g Z R fM [(p1, [.int .i64 0, .int .u64 0]), (p2, [.int .i64 44, .int .u64 12304])] a2) := Lib.hid hk2
  clear hk hk2 hlt hp2
  gi_wp2_with fail
  refine ⟨trivial, (callsIn_wide.2 (wn_ld1 H2.out.m)).mono ?_⟩
  rintro e v3 ⟨rfl, hm, hc⟩
  have hk := H2.out.ask hm hc (fun k hk => .inl hk)
  clear hm hc  H2
  gi_upto_region 9 with fail
  have hk2 := hk.row [.int .i64 41, .int .u64 16384]
  have hlt : ∀ p ∈ ([(p1, [.int .i64 0, .int .u64 0]), (p2, [.int .i64 44, .int .u64 12304])] : List (Nat × List Value)), p.1 < v3.heap.size := fun p hp => (hk.r.f p hp).1.lt
  obtain ⟨p3, hp3⟩ : ∃ p, p = v3.heap.size := ⟨_, rfl⟩
  generalize v3.alloc (.cells #[.int .i64 41, .int .u64 16384] 48) = a3 at *
  rw [← hp3] at hk2 hlt ⊢
  have hq3 : p1 < p3 ∧ p2 < p3 ∧ True := ⟨hlt (p1, [.int .i64 0, .int .u64 0]) (by simp), hlt (p2, [.int .i64 44, .int .u64 12304]) (by simp), trivial⟩
  have H3 : Hid (WN w g Z R n1M [(p1, [.int .i64 0, .int .u64 0]), (p2, [.int .i64 44, .int .u64 12304]), (p3, [.int .i64 41, .int .u64 16384])] a3) := Lib.hid hk2
  clear hk hk2 hlt hp3
  gi_wp2_with fail
  refine ⟨trivial, (callsIn_wide.2 (wn_st H3.out.m)).mono ?_⟩
  rintro e v4 ⟨rfl, Z2, hm, hc, hz⟩
  have hk := H3.out.ask hm hc hz
  clear hm hc hz H3
  gi_upto_region 10 with fail
  have hk2 := hk.row [.int .i64 0, .int .u64 0]
  have hlt : ∀ p ∈ ([(p1, [.int .i64 0, .int .u64 0]), (p2, [.int .i64 44, .int .u64 12304]), (p3, [.int .i64 41, .int .u64 16384])] : List (Nat × List Value)), p.1 < v4.heap.size := fun p hp => (hk.r.f p hp).1.lt
  obtain ⟨p4, hp4⟩ : ∃ p, p = v4.heap.size := ⟨_, rfl⟩
  generalize v4.alloc (.cells #[.int .i64 0, .int .u64 0] 48) = a4 at *
  rw [← hp4] at hk2 hlt ⊢
  have hq4 : p1 < p4 ∧ p2 < p4 ∧ p3 < p4 ∧ True := ⟨hlt (p1, [.int .i64 0, .int .u64 0]) (by simp), hlt (p2, [.int .i64 44, .int .u64 12304]) (by simp), hlt (p3, [.int .i64 41, .int .u64 16384]) (by simp), trivial⟩
  have H4 : Hid (WN w g Z2 R n2M [(p1, [.int .i64 0, .int .u64 0]), (p2, [.int .i64 44, .int .u64 12304]), (p3, [.int .i64 41, .int .u64 16384]), (p4, [.int .i64 0, .int .u64 0])] a4) := Lib.hid hk2
  clear hk hk2 hlt hp4
  gi_wp2_with fail
  refine ⟨trivial, (callsIn_wide.2 (wn_ld2 H4.out.m)).mono ?_⟩
  rintro e v5 ⟨rfl, hm, hc⟩
  have hk := H4.out.ask hm hc (fun k hk => .inl hk)
  clear hm hc  H4
  gi_upto_region 11 with fail
  have hk2 := hk.row [.int .i64 0, .int .u64 0]
  have hlt : ∀ p ∈ ([(p1, [.int .i64 0, .int .u64 0]), (p2, [.int .i64 44, .int .u64 12304]), (p3, [.int .i64 41, .int .u64 16384]), (p4, [.int .i64 0, .int .u64 0])] : List (Nat × List Value)), p.1 < v5.heap.size := fun p hp => (hk.r.f p hp).1.lt
  obtain ⟨p5, hp5⟩ : ∃ p, p = v5.heap.size := ⟨_, rfl⟩
  generalize v5.alloc (.cells #[.int .i64 0, .int .u64 0] 48) = a5 at *
  rw [← hp5] at hk2 hlt ⊢
  have hq5 : p1 < p5 ∧ p2 < p5 ∧ p3 < p5 ∧ p4 < p5 ∧ True := ⟨hlt (p1, [.int .i64 0, .int .u64 0]) (by simp), hlt (p2, [.int .i64 44, .int .u64 12304]) (by simp), hlt (p3, [.int .i64 41, .int .u64 16384]) (by simp), hlt (p4, [.int .i64 0, .int .u64 0]) (by simp), trivial⟩
  have H5 : Hid (WN w g Z2 R n3M [(p1, [.int .i64 0, .int .u64 0]), (p2, [.int .i64 44, .int .u64 12304]), (p3, [.int .i64 41, .int .u64 16384]), (p4, [.int .i64 0, .int .u64 0]), (p5, [.int .i64 0, .int .u64 0])] a5) := Lib.hid hk2
  clear hk hk2 hlt hp5
  have r1 : Row a5 p1 48 [.int .i64 0, .int .u64 0] := H5.out.r.at_ (p := (p1, [.int .i64 0, .int .u64 0])) (by simp)
  have r2 : Row a5 p2 48 [.int .i64 44, .int .u64 12304] := H5.out.r.at_ (p := (p2, [.int .i64 44, .int .u64 12304])) (by simp)
  have r3 : Row a5 p3 48 [.int .i64 41, .int .u64 16384] := H5.out.r.at_ (p := (p3, [.int .i64 41, .int .u64 16384])) (by simp)
  have r4 : Row a5 p4 48 [.int .i64 0, .int .u64 0] := H5.out.r.at_ (p := (p4, [.int .i64 0, .int .u64 0])) (by simp)
  have r5 : Row a5 p5 48 [.int .i64 0, .int .u64 0] := H5.out.r.at_ (p := (p5, [.int .i64 0, .int .u64 0])) (by simp)
  have x1 := r1.cell 0
  have y1 := r1.cell 1
  have l1 := r1.lt
  have x2 := r2.cell 0
  have y2 := r2.cell 1
  have l2 := r2.lt
  have x3 := r3.cell 0
  have y3 := r3.cell 1
  have l3 := r3.lt
  have x4 := r4.cell 0
  have y4 := r4.cell 1
  have l4 := r4.lt
  have x5 := r5.cell 0
  have y5 := r5.cell 1
  have l5 := r5.lt
  simp only [List.getElem?_cons_zero, List.getElem?_cons_succ] at x1 x2 x3 x4 x5 y1 y2 y3 y4 y5
  clear r1 r2 r3 r4 r5
  gi_upto_region 13 with fail
  clear x1 x2 x3 x4 x5 y1 y2 y3 y4 y5 l1 l2 l3 l4 l5
  gi_wp2_with fail
  refine ⟨trivial, (callsIn_wide.2 (translateN_any 4096 5 1 a5 (by decide))).mono ?_⟩
  rintro e b1 ⟨rfl, hb⟩
  have hk := H5.out.below hb
  clear hb
  have rr := hk.r.at_ (p := (p1, [.int .i64 0, .int .u64 0])) (by simp)
  have x0 := rr.cell 0
  have x1 := rr.cell 1
  have z0 := rr.frozen 0
  have z1 := rr.frozen 1
  have xl := rr.lt
  simp only [List.getElem?_cons_zero, List.getElem?_cons_succ] at x0 x1
  clear rr
  gi_upto_region 14 with fail
  have hk2 := hk.set (pre := []) (post := [(p2, [.int .i64 44, .int .u64 12304]), (p3, [.int .i64 41, .int .u64 16384]), (p4, [.int .i64 0, .int .u64 0]), (p5, [.int .i64 0, .int .u64 0])]) (p := p1) (fun q hq => by simp at hq; rcases hq with rfl | rfl | rfl | rfl <;> simp <;> omega) (.int .i64 1) (.int .u64 5)
  clear x0 x1 z0 z1 xl
  generalize (b1.setCell ⟨p1, 0, none⟩ (.int .i64 1)).setCell ⟨p1, 1, none⟩ (.int .u64 5) = c1 at *
  have K1 : Hid (WN w g Z2 R n3M [(p1, [.int .i64 1, .int .u64 5]), (p2, [.int .i64 44, .int .u64 12304]), (p3, [.int .i64 41, .int .u64 16384]), (p4, [.int .i64 0, .int .u64 0]), (p5, [.int .i64 0, .int .u64 0])] c1) := Lib.hid hk2
  clear hk hk2
  gi_wp2_with fail
  refine ⟨trivial, (callsIn_wide.2 (loadN_any 4096 6 9 c1)).mono ?_⟩
  rintro e b2 ⟨rfl, hb⟩
  have hk := K1.out.below hb
  clear hb
  have rr := hk.r.at_ (p := (p2, [.int .i64 44, .int .u64 12304])) (by simp)
  have x0 := rr.cell 0
  have x1 := rr.cell 1
  have z0 := rr.frozen 0
  have z1 := rr.frozen 1
  have xl := rr.lt
  simp only [List.getElem?_cons_zero, List.getElem?_cons_succ] at x0 x1
  clear rr
  gi_upto_region 15 with fail
  have hk2 := hk.set (pre := [(p1, [.int .i64 1, .int .u64 5])]) (post := [(p3, [.int .i64 41, .int .u64 16384]), (p4, [.int .i64 0, .int .u64 0]), (p5, [.int .i64 0, .int .u64 0])]) (p := p2) (fun q hq => by simp at hq; rcases hq with rfl | rfl | rfl | rfl <;> simp <;> omega) (.int .i64 1) (.int .u64 6)
  clear x0 x1 z0 z1 xl
  generalize (b2.setCell ⟨p2, 0, none⟩ (.int .i64 1)).setCell ⟨p2, 1, none⟩ (.int .u64 6) = c2 at *
  have K2 : Hid (WN w g Z2 R n3M [(p1, [.int .i64 1, .int .u64 5]), (p2, [.int .i64 1, .int .u64 6]), (p3, [.int .i64 41, .int .u64 16384]), (p4, [.int .i64 0, .int .u64 0]), (p5, [.int .i64 0, .int .u64 0])] c2) := Lib.hid hk2
  clear hk hk2
  gi_wp2_with fail
  refine ⟨trivial, (callsIn_wide.2 (storeN_any 0 7 0 1 c2)).mono ?_⟩
  rintro e b3 ⟨rfl, hb⟩
  have hk := K2.out.below hb
  clear hb
  have rr := hk.r.at_ (p := (p3, [.int .i64 41, .int .u64 16384])) (by simp)
  have x0 := rr.cell 0
  have x1 := rr.cell 1
  have z0 := rr.frozen 0
  have z1 := rr.frozen 1
  have xl := rr.lt
  simp only [List.getElem?_cons_zero, List.getElem?_cons_succ] at x0 x1
  clear rr
  gi_upto_region 16 with fail
  have hk2 := hk.set (pre := [(p1, [.int .i64 1, .int .u64 5]), (p2, [.int .i64 1, .int .u64 6])]) (post := [(p4, [.int .i64 0, .int .u64 0]), (p5, [.int .i64 0, .int .u64 0])]) (p := p3) (fun q hq => by simp at hq; rcases hq with rfl | rfl | rfl | rfl <;> simp <;> omega) (.int .i64 1) (.int .u64 7)
  clear x0 x1 z0 z1 xl
  generalize (b3.setCell ⟨p3, 0, none⟩ (.int .i64 1)).setCell ⟨p3, 1, none⟩ (.int .u64 7) = c3 at *
  have K3 : Hid (WN w g Z2 R n3M [(p1, [.int .i64 1, .int .u64 5]), (p2, [.int .i64 1, .int .u64 6]), (p3, [.int .i64 1, .int .u64 7]), (p4, [.int .i64 0, .int .u64 0]), (p5, [.int .i64 0, .int .u64 0])] c3) := Lib.hid hk2
  clear hk hk2
  gi_wp2_with fail
  refine ⟨trivial, (callsIn_wide.2 (leavesN_any 4096 9 c3)).mono ?_⟩
  rintro e d1 ⟨rfl, rfl⟩
  obtain ⟨hsz1, hbb1, hr1, hr2, hr3⟩ := lvW_rows c3 .nilIface 4096 9
  have hef1 := fun ww => eql_fnw ww (.pointer (some ⟨c3.heap.size + 2, 0, none⟩)) (.pointer (some ⟨c3.heap.size, 0, none⟩)) (.pointer (some ⟨c3.heap.size + 1, 0, none⟩))
  unfold lvF pmb
  obtain ⟨q1, hq1⟩ : ∃ q, q = c3.heap.size := ⟨_, rfl⟩
  have hk := K3.out.below hbb1
  have hzq : ∀ k, Z2 k ∨ R k → k < q1 := fun k hk => by rw [hq1]; exact hk.elim ((smach_i g).z K3.out.m k) ((smach_i g).r K3.out.m k)
  have HZQ := Lib.hid hzq
  clear hzq
  have hq5 : p5 < q1 := by rw [hq1]; exact (K3.out.r.at_ (p := (p5, [.int .i64 0, .int .u64 0])) (by simp)).lt
  generalize lvW c3 .nilIface 4096 9 = d1 at *
  rw [← hq1] at hsz1 hr1 hr2 hr3 hef1 ⊢
  have K4 := Lib.hid hk; have HS1 := Lib.hid hsz1; have HR1 := Lib.hid (And.intro hr1 (And.intro hr2 hr3))
  clear hk hsz1 hbb1 hr1 hr2 hr3 hq1
  gi_wp2_with fail
  refine ⟨trivial, (callsIn_wide.2 (leaves_any 41 (.pointer (some ⟨g, 0, none⟩)) 4096 3 d1)).mono ?_⟩
  rintro e d2 ⟨rfl, rfl⟩
  obtain ⟨hsz2, hbb2, hr4, hr5, hr6⟩ := lvW_rows d1 (.iface 41 (.pointer (some ⟨g, 0, none⟩))) 4096 3
  have hef2 := fun ww => eql_fnw ww (.pointer (some ⟨d1.heap.size + 2, 0, none⟩)) (.pointer (some ⟨d1.heap.size, 0, none⟩)) (.pointer (some ⟨d1.heap.size + 1, 0, none⟩))
  unfold lvF pmb
  obtain ⟨q2, hq2⟩ : ∃ q, q = d1.heap.size := ⟨_, rfl⟩
  have hk := K4.out.below hbb2
  have HQ12 : Hid (q2 = q1 + 3) := Lib.hid (by rw [hq2]; exact HS1.out)
  have hr1' := HR1.out.1.below hbb2 HR1.out.1.lt
  have hr2' := HR1.out.2.1.below hbb2 HR1.out.2.1.lt
  have hr3' := HR1.out.2.2.below hbb2 HR1.out.2.2.lt
  generalize lvW d1 (.iface 41 (.pointer (some ⟨g, 0, none⟩))) 4096 3 = d2 at *
  rw [← hq2] at hsz2 hr4 hr5 hr6 hef2 ⊢
  have K5 := Lib.hid hk; have HS2 := Lib.hid hsz2; have HR2 := Lib.hid (And.intro hr4 (And.intro hr5 hr6)); have HR1' := Lib.hid (And.intro hr1' (And.intro hr2' hr3'))
  clear hk hsz2 hbb2 hr4 hr5 hr6 hq2 hr1' hr2' hr3' HR1 HS1 K4
  have hx1 := hef1 d2
  have hx2 := hef2 d2
  clear hef1 hef2
  gi_wp2_with fail
  clear hx1 hx2
  have hfs : ∀ p ∈ ([(p1, [.int .i64 1, .int .u64 5]), (p2, [.int .i64 1, .int .u64 6]), (p3, [.int .i64 1, .int .u64 7]), (p4, [.int .i64 0, .int .u64 0]), (p5, [.int .i64 0, .int .u64 0])] : List (Nat × List Value)), p.1 < d2.heap.size := fun p hp => (K5.out.r.f p hp).1.lt
  have hzs : ∀ k, Z2 k ∨ R k → k < d2.heap.size := fun k hk => hk.elim ((smach_i g).z K5.out.m k) ((smach_i g).r K5.out.m k)
  have hq2s : q2 + 3 = d2.heap.size := HS2.out.symm
  have hwS : w.heap.size < d2.heap.size := K5.out.r.r0.lt
  refine wpIn_rangeFunc_C (F := Fence.wide) (n := 3) (ps := #[97, 98]) (gf := 40) (lb := #[pmb (q1 + 2), pmb q1, pmb (q1 + 1)]) rfl (by decide) ?hg1 trivial (enters_of Try.func40 (by kernel_rfl) rfl)
    (leavesN_seq lvEnc (fun _ => False) (fun _ => False) q1 (q1 + 1) (q1 + 2) 4096 9 _ d2 HR1'.out.1 HR1'.out.2.1 HR1'.out.2.2) (Below.refl _ _) (fun k h => h.elim) (fun k h => h.elim) (fun _ => rfl) (fun _ _ _ _ => trivial)
    (fun _ W => WN w g Z2 R n3M [(p1, [.int .i64 1, .int .u64 5]), (p2, [.int .i64 1, .int .u64 6]), (p3, [.int .i64 1, .int .u64 7]), (p4, [.int .i64 0, .int .u64 0]), (p5, [.int .i64 0, .int .u64 0])] W ∧ Row W q2 88 [.iface 41 (.pointer (some ⟨g, 0, none⟩))] ∧ Row W (q2 + 1) 22 [.int .u64 ((4096 : Nat) : Nat)] ∧ Row W (q2 + 2) 3 [.int .i64 3]) (fun _ _ _ => False)
    (fun pre A B' hs hc => by
      have hT : ∀ k, upTo (fun _ => False) d2.heap.size (0 + 2) k → d2.heap.size ≤ k := fun k hk => by
        rcases hk with hk | hk
        · exact hk.elim
        · exact hk.1
      exact ⟨hs.1.far hc hT hwS hfs hzs, hc.row hs.2.1 (fun h => by have := hT _ h; omega), hc.row hs.2.2.1 (fun h => by have := hT _ h; omega), hc.row hs.2.2.2 (fun h => by have := hT _ h; omega)⟩)
    (fun _ _ _ _ hs _ => hs) ⟨K5.out, HR2.out⟩ (fun _ _ _ _ => True) (fun _ _ _ _ _ _ _ => trivial) ?assign1 ?body1 ?done1 ?stop1
  case hg1 => rfl
  case assign1 => intro l pre x W K _ _ hpx; simp at hpx
  case body1 => intro l pre x a' W _ _ _ hpx; simp at hpx
  case stop1 => intro c pre W _ h _ _; exact h.elim
  case done1 =>
    rintro xs W rfl ⟨hWN, hrm, hrr, hrb⟩ _ hK1
    obtain ⟨D1, hD1⟩ : ∃ D, D = d2.heap.size := ⟨_, rfl⟩
    rw [← hD1] at hK1 ⊢
    have HD1 := Lib.hid hD1; have HK1 := Lib.hid hK1
    have HWN := Lib.hid hWN; have HRM := Lib.hid (And.intro hrm (And.intro hrr hrb))
    have HQS := Lib.hid hq2s
    clear hfs hzs hwS hD1 hK1 hWN hrm hrr hrb hq2s K5 HR1' HR2 HS2
    gi_upto_region 23 with fail
    have hrt := Row.new W 3 [.int .i64 0]
    have hbe : Below W.heap.size W (W.alloc (.cells #[.int .i64 0] 3)) := (Below.refl _ _).alloc (Nat.le_refl _) _
    obtain ⟨t1, ht1⟩ : ∃ t, t = W.heap.size := ⟨_, rfl⟩
    have hsze : (W.alloc (.cells #[.int .i64 0] 3)).heap.size = t1 + 1 := by rw [ht1]; simp
    have hKe : (W.alloc (.cells #[.int .i64 0] 3)).heap[D1]? = some (.deferred (some [])) := (hbe.block D1 (Array.getElem?_eq_some_iff.1 HK1.out).1).trans HK1.out
    have hDt : D1 < t1 := by rw [ht1]; exact (Array.getElem?_eq_some_iff.1 HK1.out).1
    have hWN := HWN.out.below hbe
    have hzt : ∀ k, Z2 k ∨ R k → k < t1 := fun k hk => by rw [ht1]; exact hk.elim ((smach_i g).z HWN.out.m k) ((smach_i g).r HWN.out.m k)
    have hft : ∀ p ∈ ([(p1, [.int .i64 1, .int .u64 5]), (p2, [.int .i64 1, .int .u64 6]), (p3, [.int .i64 1, .int .u64 7]), (p4, [.int .i64 0, .int .u64 0]), (p5, [.int .i64 0, .int .u64 0])] : List (Nat × List Value)), p.1 < t1 := fun p hp => by rw [ht1]; exact (HWN.out.r.f p hp).1.lt
    have hqt : q2 + 3 ≤ t1 := by have := HQS.out; have := HD1.out; omega
    have hrm := HRM.out.1.below hbe HRM.out.1.lt
    have hrr := HRM.out.2.1.below hbe HRM.out.2.1.lt
    have hrb := HRM.out.2.2.below hbe HRM.out.2.2.lt
    generalize W.alloc (.cells #[.int .i64 0] 3) = e1 at *
    rw [← ht1] at hrt ⊢
    have HRT := Lib.hid hrt; have HKE := Lib.hid hKe; have HWE := Lib.hid hWN; have HRE := Lib.hid (And.intro hrm (And.intro hrr hrb)); have HSE := Lib.hid hsze
    have HZT := Lib.hid hzt; have HFT := Lib.hid hft
    clear hrt hbe hsze hKe hWN hrm hrr hrb ht1 HWN HRM HK1 hzt hft
    gi_wp2_with fail
    have hm3 : lvM 4096 = 3 := rfl
    have hse := HSE.out
    have hnT : ∀ k, k < t1 + 1 → ¬ Z2 k → ¬ upTo Z2 e1.heap.size (lvM 4096 + 2) k := fun k hk hz h => by
      rcases h with h | h
      · exact hz h
      · omega
    have hlo : ∀ k, e1.heap.size + (lvM 4096 + 2) ≤ k → ¬ upTo Z2 e1.heap.size (lvM 4096 + 2) k := fun k hk h => by
      rcases h with h | h
      · have := HZT.out k (.inl h); omega
      · omega
    refine wpIn_rangeFunc_C (F := Fence.wide) (n := 3) (ps := #[100, 101]) (gf := 40) (lb := #[pmb (q2 + 2), pmb q2, pmb (q2 + 1)]) rfl (by decide) ?hg2 trivial (enters_of Try.func40 (by kernel_rfl) rfl)
      (leaves1_seq (smach_i g) (ent_mach g) Z2 R (fun k => Z2 k ∨ R k ∨ k = q2) n3M q2 (q2 + 1) (q2 + 2) 4096 3 _ e1 (by decide) (by decide) (by decide) (fun k hk => hk) (fun h => by have := HZQ.out q2 (.inl h); have := HQ12.out; omega) (fun k hk => by
        rcases hk with h | h | h
        · have := HZT.out k (.inl h); omega
        · have := HZT.out k (.inr h); omega
        · omega) ⟨n3M.strays, HWE.out.m⟩ HRE.out.1 HRE.out.2.1 HRE.out.2.2) (Below.refl _ _)
      (fun k hk => by have := HZT.out k (.inl hk); omega) (fun k hk => by
        rcases hk with h | h | h
        · have := HZT.out k (.inl h); omega
        · have := HZT.out k (.inr h); omega
        · omega) (fun _ => rfl)
      (fun U U' ⟨s, hs⟩ hc => ⟨s, (smach_i g).chg hs hc (fun k hk h => by have := HZT.out k hk; omega)⟩)
      (fun pre U => FR w [(p1, [.int .i64 1, .int .u64 5]), (p2, [.int .i64 1, .int .u64 6]), (p3, [.int .i64 1, .int .u64 7]), (p4, [.int .i64 0, .int .u64 0]), (p5, [.int .i64 0, .int .u64 0])] U ∧ Row U t1 3 [.int .i64 (pre.length : Nat)] ∧ U.heap[D1]? = some (.deferred (some []))) (fun _ _ _ => False)
      (fun pre A B' hs hc => by
        refine ⟨hs.1.chg hc (fun k hk => ?_), hc.row hs.2.1 (hnT t1 (by omega) (fun h => by have := HZT.out t1 (.inl h); omega)), ?_⟩
        · rcases hk with hk | hk
          · exact HWE.out.z k (.inl hk)
          · exact ⟨by have := HWE.out.r.r0.lt; omega, fun p hp e => by have := HFT.out p hp; omega⟩
        · rw [hc.block D1 (Array.getElem?_eq_some_iff.1 hs.2.2).1 (hnT D1 (by omega) (fun h => by have := HZQ.out D1 (.inl h); have := HQ12.out; have := HQS.out; have := HD1.out; omega))]
          exact hs.2.2)
      (fun _ _ _ _ hs _ => hs) ⟨HWE.out.r, HRT.out, HKE.out⟩ (wnA (e1.heap.size + (lvM 4096 + 2))) (fun x a' => wnA_ab hlo) ?assign2 ?body2 ?done2 ?stop2
    case hg2 => rfl
    case stop2 => intro c pre W _ h _ _; exact h.elim
    case assign2 =>
      intro l pre x W K hsz hi hpx hK
      obtain ⟨xv, xp, xn, xb, xw, xx, xno⟩ := x
      unfold lvEnc lvV
      have HK := Lib.hid hK
      have HI := Lib.hid hi
      clear hK hi hpx
      gi_wp2_with fail
      have hchg : ∀ Y : Nat → Prop, ChgP Y W (W.alloc (.cells #[.int .u64 (xv : Nat), .int .u64 (xp : Nat), .int .i64 (xn : Nat), .bool xb, .bool xw, .bool xx] 72)) := fun Y => (ChgP.refl Y W).alloc _
      refine HK.out _ _ (hchg _) ?_ ⟨W.heap.size, by omega, Row.new W 72 _, rfl⟩
      refine ⟨HI.out.1.chg (hchg (fun _ => False)) (fun _ h => h.elim), (hchg (fun _ => False)).row HI.out.2.1 (fun h => h), ?_⟩
      rw [(hchg (fun _ => False)).block D1 (Array.getElem?_eq_some_iff.1 HI.out.2.2).1 (fun h => h)]
      exact HI.out.2.2
    case body2 =>
      rintro l pre x a' W hsz ⟨hfr, hrt, hkd⟩ ⟨Bx, hBx, hxr, rfl⟩ hpx
      rw [wn_lv] at hpx
      have hpre : pre = [] ∧ x = ⟨12288, 20480, 1, false, true, false, 0⟩ := by
        have h1 := hpx.length_le
        rw [List.length_append] at h1
        simp only [List.length_cons, List.length_nil] at h1
        have h2 : pre = [] := List.eq_nil_of_length_eq_zero (by omega)
        subst h2
        simp at hpx
        exact ⟨rfl, hpx⟩
      obtain ⟨rfl, rfl⟩ := hpre
      unfold lvV
      simp only [List.setIfInBounds_toArray, List.set_cons_succ, List.set_cons_zero]
      have x0 := hxr.cell 0
      have x1 := hxr.cell 1
      have x2 := hxr.cell 2
      have x3 := hxr.cell 3
      have x4 := hxr.cell 4
      have x5 := hxr.cell 5
      have xl := hxr.lt
      have y0 := hrt.cell 0
      have yf := hrt.frozen 0
      have yl := hrt.lt
      simp only [List.getElem?_cons_zero, List.getElem?_cons_succ, List.length_nil] at x0 x1 x2 x3 x4 x5 y0
      have hnq := neq_l0
      have HH := Lib.hid (And.intro hfr (And.intro hrt hkd))
      clear hfr hrt hkd hxr hpx
      gi_wp2_with fail
      have hc1 : ChgP (fun k => k = t1) W (W.setCell ⟨t1, 0, none⟩ (.int .i64 1)) := ChgP.set_ (Z := fun k => k = t1) (ChgP.refl _ W) (p := ⟨t1, 0, none⟩) (.inl rfl) _
      refine ⟨hc1.mono (fun k hk => .inl (fun h => ?_)), HH.out.1.chg hc1 (fun k hk => ?_), HH.out.2.1.set_ 0 (.int .i64 1), ?_⟩
      · have hk : k = t1 := hk
        rcases h with (h | h | h) | h
        · have := HZT.out k (.inl h); omega
        · have := HZT.out k (.inr h); omega
        · omega
        · omega
      · have hk : k = t1 := hk
        exact ⟨by have := HWE.out.r.r0.lt; have := HFT.out (p1, [.int .i64 1, .int .u64 5]) (by simp); have := (HWE.out.r.f (p1, [.int .i64 1, .int .u64 5]) (by simp)).2; simp only at *; omega, fun p hp e => by have := HFT.out p hp; omega⟩
      · rw [hc1.block D1 (Array.getElem?_eq_some_iff.1 HH.out.2.2).1 (fun h => by have h : D1 = t1 := h; omega)]
        exact HH.out.2.2
    case done2 =>
      rintro xs W rfl ⟨hfr, hrt, hkd⟩ _ hK2
      rw [wn_lv] at hrt
      obtain ⟨D2, hD2⟩ : ∃ D, D = e1.heap.size := ⟨_, rfl⟩
      rw [← hD2] at hK2 ⊢
      have hD2t : D2 = t1 + 1 := by rw [hD2]; exact hse
      have r1 : Row W p1 48 [.int .i64 1, .int .u64 5] := hfr.at_ (p := (p1, [.int .i64 1, .int .u64 5])) (by simp)
      have r2 : Row W p2 48 [.int .i64 1, .int .u64 6] := hfr.at_ (p := (p2, [.int .i64 1, .int .u64 6])) (by simp)
      have r3 : Row W p3 48 [.int .i64 1, .int .u64 7] := hfr.at_ (p := (p3, [.int .i64 1, .int .u64 7])) (by simp)
      have x1 := r1.cell 0
      have y1 := r1.cell 1
      have l1 := r1.lt
      have x2 := r2.cell 0
      have y2 := r2.cell 1
      have l2 := r2.lt
      have x3 := r3.cell 0
      have y3 := r3.cell 1
      have l3 := r3.lt
      have x0 := hrt.cell 0
      have l0 := hrt.lt
      have z0 := hfr.r0.cell 0
      have zf := hfr.r0.frozen 0
      have zl := hfr.r0.lt
      simp only [List.getElem?_cons_zero, List.getElem?_cons_succ, List.length_cons, List.length_nil, Nat.zero_add] at x0 x1 x2 x3 y1 y2 y3 z0
      have HH := Lib.hid (And.intro hfr (And.intro hkd hK2))
      have HDD : Hid (D2 = t1 + 1 ∧ w.heap.size < D1) := Lib.hid ⟨hD2t, by have := (HWE.out.r.f (p1, [.int .i64 1, .int .u64 5]) (by simp)).2; have := HD1.out; have := HQS.out; have := HQ12.out; simp only at *; omega⟩
      clear hfr hrt hkd hK2 hD2 hD2t r1 r2 r3 hnT hlo hse
      gi_wp2_with fail
      have hcz : ChgP (fun k => k = w.heap.size) W (W.setCell ⟨w.heap.size, 0, none⟩ (.bool true)) := ChgP.set_ (Z := fun k => k = w.heap.size) (ChgP.refl _ W) (p := ⟨w.heap.size, 0, none⟩) (.inl rfl) _
      have hKz : (W.setCell ⟨w.heap.size, 0, none⟩ (.bool true)).heap[D2]? = some (.deferred (some [])) := by
        rw [hcz.block D2 (Array.getElem?_eq_some_iff.1 HH.out.2.2).1 (fun h => by have h : D2 = w.heap.size := h; have := HDD.out; omega)]
        exact HH.out.2.2
      have hKy : (W.setCell ⟨w.heap.size, 0, none⟩ (.bool true)).heap[D1]? = some (.deferred (some [])) := by
        rw [hcz.block D1 (Array.getElem?_eq_some_iff.1 HH.out.2.1).1 (fun h => by have h : D1 = w.heap.size := h; have := HDD.out; omega)]
        exact HH.out.2.1
      have hrz := HH.out.1.r0.set_ 0 (.bool true)
      have hbz := HH.out.1.b.setCell (p := ⟨w.heap.size, 0, none⟩) (Nat.le_refl _) (.bool true)
      simp only [List.set_cons_zero] at hrz
      generalize W.setCell ⟨w.heap.size, 0, none⟩ (.bool true) = wz at *
      have hcy : ChgP (fun k => k = D2) wz (wz.putObj D2 (.deferred none)) := chgP_put wz D2 _ rfl
      have hKx : (wz.putObj D2 (.deferred none)).heap[D1]? = some (.deferred (some [])) := by
        rw [hcy.block D1 (Array.getElem?_eq_some_iff.1 hKy).1 (fun h => by have h : D1 = D2 := h; have := HDD.out; omega)]
        exact hKy
      have hry := hcy.row hrz (fun h => by have h : w.heap.size = D2 := h; have := HDD.out; omega)
      have hby : Below w.heap.size w (wz.putObj D2 (.deferred none)) := hbz.trans (hcy.below hbz.size (fun k hk => by have hk : k = D2 := hk; have := HDD.out; omega))
      refine ⟨by simp, .inl ⟨_, _, rfl, run_takeDeferred hKz, ?_⟩⟩
      generalize wz.putObj D2 (.deferred none) = wy at *
      have hcx : ChgP (fun k => k = D1) wy (wy.putObj D1 (.deferred none)) := chgP_put wy D1 _ rfl
      have hc5 := (hcx.row hry (fun h => by have h : w.heap.size = D1 := h; have := HDD.out; omega)).cell 0
      have hbx : Below w.heap.size w (wy.putObj D1 (.deferred none)) := hby.trans (hcx.below hby.size (fun k hk => by have hk : k = D1 := hk; have := HDD.out; omega))
      simp only [List.getElem?_cons_zero] at hc5
      refine ⟨by simp, .inl ⟨_, _, rfl, run_takeDeferred hKx, ?_⟩⟩
      generalize wy.putObj D1 (.deferred none) = wx at *
      refine ⟨.bool true, ?_, rfl, hbx⟩
      simp [results, Try.results7, go_sem, hc5]
end Go.Proofs.Ytfpofaniicegaaa
