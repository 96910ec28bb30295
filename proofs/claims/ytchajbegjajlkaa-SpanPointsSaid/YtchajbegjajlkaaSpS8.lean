/- The walk of Size. -/
import Derived.Test.YtchajbegjajlkaaSpR8
import Derived.Sort.BigQuietIn
import Derived.Shelf.RegionOpen
set_option linter.unusedVariables false
set_option linter.unusedSimpArgs false
namespace Go.Proofs.Ytchajbegjajlkaa
open Go.RowKit
open Bu
attribute [local go_sem] Oper.semAt_some
namespace S8
/-- how many points there are -/
def szN (s : Sp.S) : Nat := (s.map fun x => x.2 - x.1 + 1).sum
/-- .. as 64 bits hold it -/
def szW (s : Sp.S) : Nat := szN s % 18446744073709551616
theorem szN_snoc (l : Sp.S) (x : Nat × Nat) : szN (l ++ [x]) = szN l + (x.2 - x.1 + 1) := by simp [szN]
theorem szW_snoc (l : Sp.S) (x : Nat × Nat) : szW (l ++ [x]) = (szW l + (x.2 - x.1 + 1) % 18446744073709551616) % 18446744073709551616 := by
  unfold szW
  rw [szN_snoc, ← Nat.add_mod]
theorem szW_lt (l : Sp.S) : szW l < 18446744073709551616 := Nat.mod_lt _ (by decide)
/-- what a loop over the spans is handed -/
def spA (lo p v : Nat) (a : Act) (x : Nat × Nat) (a' : Act) (W : World) : Prop := ∃ Bx, lo ≤ Bx ∧ Row W Bx 48 [.int .u8 (x.1 : Nat), .int .u8 (x.2 : Nat)] ∧ a' = { tmps := (a.tmps.setIfInBounds p (.agg #[.int .u8 (x.1 : Nat), .int .u8 (x.2 : Nat)])).setIfInBounds v (.pointer (some ⟨Bx, 0, none⟩)), defers := [] }
theorem spA_ab {lo p v : Nat} {a : Act} {x : Nat × Nat} {a' : Act} {T : Nat → Prop} (h3 : ∀ k, lo ≤ k → ¬ T k) : AbC T (fun (_ : Unit) W => spA lo p v a x a' W) := by
  rintro _ W W' ⟨Bx, h1, h2, h⟩ hc
  exact ⟨Bx, h1, hc.row h2 (h3 _ h1), h⟩
def sizeI (A : Option Addr) (n c : Nat) (w : World) (pre : Sp.S) (W : World) : Prop := Row W w.heap.size 43 [.slice A n c] ∧ Row W (w.heap.size + 1) 28 [.int .u64 (szW pre : Nat)] ∧ Below w.heap.size w W
theorem sizeI_ab {A : Option Addr} {n c : Nat} {w : World} {T : Nat → Prop} (h : ∀ k, k ≤ w.heap.size + 1 → ¬ T k) : AbC T (sizeI A n c w) := by
  rintro pre W W' ⟨h1, h2, h3⟩ hc
  exact ⟨hc.row h1 (h _ (by omega)), hc.row h2 (h _ (by omega)), h3.trans (hc.below h3.size (fun k hk => by
    by_cases hh : k ≤ w.heap.size + 1
    · exact absurd hk (h k hh)
    · omega))⟩
set_option maxRecDepth 100000 in
set_option maxHeartbeats 2000000 in
theorem size_any (A : Option Addr) (n c : Nat) (s : Sp.S) (w : World) (hs : IsSet w A n c s) :
    Calls Try.prog 41 #[setV A n c] w fun e w' => e = .returned (.tuple #[.int .u64 (szW s : Nat), .bool (decide (0 < szW s) || decide (n = 0))]) ∧ Below w.heap.size w w' := by
  have HS := Lib.hid hs.1
  have HN := Lib.hid hs.2.2.2.1
  have hn63 := hs.1.2.2
  clear hs
  have hdd : ∀ k : Nat, (Fence.wide.depth.isSome = true → 1 ≤ k) := fun k h => by cases h
  refine (callsIn_wide (n := 3)).1 ?_
  refine callsIn_of_wp_marks Try.func41 rfl trivial ?_ rfl
  simp only [Try.ntmps41, List.size_toArray, List.length_cons, List.length_nil, Nat.reduceAdd, Nat.reduceSub, Array.replicate_succ, Array.replicate_zero, List.push_toArray, List.append_toArray, List.nil_append, List.cons_append]
  unfold setV
  gi_upto_region 2 with fail
  have r0 : Row ((w.alloc (.cells #[.slice A n c] 43)).alloc (.cells #[.int .u64 0] 28)) w.heap.size 43 [.slice A n c] := (Row.new w _ [.slice A n c]).alloc _
  have r1 : Row ((w.alloc (.cells #[.slice A n c] 43)).alloc (.cells #[.int .u64 0] 28)) (w.heap.size + 1) 28 [.int .u64 0] := by
    have h := Row.new (w.alloc (.cells #[.slice A n c] 43)) 28 [.int .u64 0]
    rw [show (w.alloc (.cells #[.slice A n c] 43)).heap.size = w.heap.size + 1 by simp] at h
    exact h
  have hb0 : Below w.heap.size w ((w.alloc (.cells #[.slice A n c] 43)).alloc (.cells #[.int .u64 0] 28)) := ((Below.refl _ _).alloc (Nat.le_refl _) _).alloc (by simp) _
  have hs1 : ((w.alloc (.cells #[.slice A n c] 43)).alloc (.cells #[.int .u64 0] 28)).heap.size = w.heap.size + 2 := by simp
  generalize (w.alloc (.cells #[.slice A n c] 43)).alloc (.cells #[.int .u64 0] 28) = w1 at *
  have HI1 : Hid (sizeI A n c w [] w1) := Lib.hid ⟨r0, r1, hb0⟩
  have c0 := r0.cell 0
  have l0 := r0.lt
  simp only [List.getElem?_cons_zero] at c0
  have HS1 := Lib.hid hs1
  clear r0 r1 hb0 hs1
  gi_wp2_with fail
  refine ⟨trivial, (callsIn_wide.2 (all_any A n c w1)).mono ?_⟩
  rintro e w2 ⟨rfl, hw2⟩
  have hr2 : Row w2 w1.heap.size 43 [.slice A n c] := by rw [hw2]; exact Row.new w1 _ [.slice A n c]
  have hb2 : Below w1.heap.size w1 w2 := by rw [hw2]; exact (Below.refl _ _).alloc (Nat.le_refl _) _
  have hs2 : w2.heap.size = w.heap.size + 3 := by rw [hw2]; simp [HS1.out]
  rw [HS1.out] at hr2 ⊢
  have HI2 : Hid (sizeI A n c w [] w2) := Lib.hid (sizeI_ab (T := fun _ => False) (fun _ _ h => h) _ _ _ HI1.out (ChgP.of_below hb2))
  have hL2 : Lst w2 (fun k => k < w.heap.size ∨ k = w.heap.size + 2) A n s := ⟨(HS.out.below HI2.out.2.2).more HI2.out.2.2.size, fun ad e h0 => .inl (IsS.lt HS.out h0 ad e)⟩
  clear hw2 hb2 c0 l0
  unfold allF
  gi_wp2_with fail
  refine wpIn_rangeFunc_C (F := Fence.wide) (n := 3) (ps := #[8]) (gf := 56) (lb := #[.pointer (some ⟨w.heap.size + 2, 0, none⟩)]) rfl (by decide) ?hg trivial (enters_of Try.func56 (by kernel_rfl) rfl)
    (all_seq A (w.heap.size + 2) n c s (fun k => k < w.heap.size ∨ k = w.heap.size + 2) _ w2 hr2 hL2 (.inr rfl) (fun k hk => by omega)) (Below.refl _ _)
    (fun k hk => hk.elim) (fun k hk => by omega) (fun _ => rfl) (fun _ _ _ _ => trivial)
    (sizeI A n c w) (fun _ _ _ => False)
    (sizeI_ab (fun k hk h => by
      rcases h with h | h
      · exact h
      · omega))
    (fun _ _ _ _ hs _ => hs)
    HI2.out
    (spA (w2.heap.size + 2) 8 5) (fun x a' => spA_ab (fun k hk h => by
      rcases h with h | h
      · exact h
      · omega)) ?assign ?body ?done ?stop
  case hg => rfl
  case assign =>
    intro l pre x W K hsz hi hpx hK
    obtain ⟨x0, x1⟩ := x
    unfold spE
    have HK := Lib.hid hK
    have HI := Lib.hid hi
    clear hK hi hpx
    simp only
    gi_wp2_with fail
    have hchg : ∀ Y : Nat → Prop, ChgP Y W (W.alloc (.cells #[.int .u8 (x0 : Nat), .int .u8 (x1 : Nat)] 48)) := fun Y => (ChgP.refl Y W).alloc _
    refine HK.out _ _ (hchg _) ?_ ⟨W.heap.size, by omega, Row.new W 48 _, rfl⟩
    exact sizeI_ab (T := fun _ => False) (fun _ _ h => h) _ _ _ HI.out (hchg _)
  case body =>
    rintro l pre ⟨x0, x1⟩ a' W hsz hi ⟨Bx, hBx, hxr, rfl⟩ hpx
    have hxo := HN.out.ok _ (hpx.subset (by simp) : (x0, x1) ∈ s)
    unfold TOP at hxo
    simp only at hxo
    have hsn := szW_snoc pre (x0, x1)
    obtain ⟨d, hd⟩ : ∃ d, d = x1 - x0 := ⟨_, rfl⟩
    obtain ⟨q, hq⟩ : ∃ q, q = (d + 1) % 18446744073709551616 := ⟨_, rfl⟩
    obtain ⟨m, hm⟩ : ∃ m, m = szW pre := ⟨_, rfl⟩
    obtain ⟨m', hm'⟩ : ∃ m', m' = (m + q) % 18446744073709551616 := ⟨_, rfl⟩
    have e1 : (x1 : Int) - (x0 : Int) = (d : Int) := by omega
    have hd1 : d ≤ 255 := by omega
    have e2 : IntKind.u64.wrap (d : Int) = (d : Int) := by rw [IntKind.wrap_u64]; omega
    have e3 : IntKind.u64.wrap ((d : Int) + 1) = (q : Int) := by rw [IntKind.wrap_u64]; omega
    have e4 : IntKind.u64.wrap ((m : Int) + (q : Int)) = (m' : Int) := by rw [IntKind.wrap_u64]; omega
    have HSN : Hid (szW (pre ++ [(x0, x1)]) = m') := Lib.hid (by rw [hsn, hm', hq, hd, hm])
    obtain ⟨i1, i2, i3⟩ := hi
    rw [← hm] at i2
    have z0 := hxr.cell 0
    have z1 := hxr.cell 1
    have zl := hxr.lt
    have y0 := i2.cell 0
    have yf := i2.frozen 0
    have yl := i2.lt
    simp only [List.getElem?_cons_zero, List.getElem?_cons_succ] at z0 z1 y0
    have HW : Hid (KpC (upTo (fun k => k < w.heap.size ∨ k = w.heap.size + 2) w2.heap.size (0 + 2)) W (W.setCell ⟨w.heap.size + 1, 0, none⟩ (.int .u64 (m' : Nat))) ∧ sizeI A n c w (pre ++ [(x0, x1)]) (W.setCell ⟨w.heap.size + 1, 0, none⟩ (.int .u64 (m' : Nat)))) := Lib.hid (by
      refine ⟨ChgP.set_ (ChgP.refl _ W) (p := ⟨w.heap.size + 1, 0, none⟩) (.inl (fun h => by
        rcases h with (h | h) | h
        · have h : w.heap.size + 1 < w.heap.size := h; omega
        · have h : w.heap.size + 1 = w.heap.size + 2 := h; omega
        · have h : w2.heap.size ≤ w.heap.size + 1 := h.1; omega)) _, i1.far (p := ⟨w.heap.size + 1, 0, none⟩) (show w.heap.size ≠ w.heap.size + 1 by omega) _, ?_, i3.setCell (p := ⟨w.heap.size + 1, 0, none⟩) (show w.heap.size ≤ w.heap.size + 1 by omega) _⟩
      rw [HSN.out]
      exact i2.set_ 0 _)
    have hm64 : m ≤ 18446744073709551615 := by have := szW_lt pre; omega
    have hq64 : q ≤ 18446744073709551615 := by omega
    have HD := Lib.hid hd; have HQ := Lib.hid hq; have HM := Lib.hid hm; have HM' := Lib.hid hm'
    clear hsn hd hq hm hm' i1 i2 i3 hxr hpx hL2 hr2
    simp only [List.setIfInBounds_toArray, List.set_cons_succ, List.set_cons_zero]
    gi_wp2_with fail
    exact HW.out
  case done =>
    rintro xs W rfl ⟨i1, i2, i3⟩ _ hK
    have c0 := i1.cell 0
    have cl := i1.lt
    have y0 := i2.cell 0
    have yl := i2.lt
    simp only [List.getElem?_cons_zero] at c0 y0
    obtain ⟨m, hm⟩ : ∃ m, m = szW xs := ⟨_, rfl⟩
    rw [← hm] at y0
    have HM := Lib.hid hm
    have HB := Lib.hid i3
    have HK := Lib.hid hK
    obtain ⟨D, hD⟩ : ∃ D, D = w2.heap.size := ⟨_, rfl⟩
    rw [← hD] at HK ⊢
    have HD : Hid (w.heap.size ≤ D) := Lib.hid (by omega)
    clear hm i1 i2 i3 hK hD hL2 hr2 hs2 HI1 HI2
    by_cases h0 : 0 < m
    · have g0 : decide (0 < m) = true := decide_eq_true h0
      have HG := Lib.hid g0
      clear h0
      gi_upto_region 5 with fail
      gi_big_quiet_th (fail)
      gi_wp2_with fail
      refine ⟨by simp, .inl ⟨_, _, rfl, run_takeDeferred (w := W.drewN nq) HK.out, ?_⟩⟩
      have hcy : ChgP (fun k => k = D) (W.drewN nq) ((W.drewN nq).putObj D (.deferred none)) := chgP_put _ D _ rfl
      refine ⟨.tuple #[.int .u64 (m : Nat), .bool true], by simp [results, Try.results41, go_sem], ?_, (below_drewN HB.out nq).trans (hcy.below HB.out.size (fun k hk => by rw [show k = D from hk]; exact HD.out))⟩
      rw [← HM.out, HG.out]; rfl
    · have g0 : decide (0 < m) = false := decide_eq_false h0
      have HG := Lib.hid g0
      clear h0
      gi_upto_region 5 with fail
      gi_big_quiet_th (fail)
      gi_wp2_with fail
      refine ⟨by simp, .inl ⟨_, _, rfl, run_takeDeferred (w := W.drewN nq) HK.out, ?_⟩⟩
      have hcy : ChgP (fun k => k = D) (W.drewN nq) ((W.drewN nq).putObj D (.deferred none)) := chgP_put _ D _ rfl
      have e9 : ((n : Int) == 0) = decide (n = 0) := by by_cases h : n = 0 <;> simp [h]
      refine ⟨.tuple #[.int .u64 (m : Nat), .bool (decide (n = 0))], by simp [results, Try.results41, go_sem, e9], ?_, (below_drewN HB.out nq).trans (hcy.below HB.out.size (fun k hk => by rw [show k = D from hk]; exact HD.out))⟩
      rw [← HM.out, HG.out]; rfl
  case stop =>
    intro c pre W _ h _ _
    exact h.elim
end S8
end Go.Proofs.Ytchajbegjajlkaa
