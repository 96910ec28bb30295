/- The walks of word.Up, Fit. -/
import Derived.Test.YtchajbegjajlkaaSpS8
set_option linter.unusedVariables false
set_option linter.unusedSimpArgs false
namespace Go.Proofs.Ytchajbegjajlkaa
open Go.RowKit
open Bu
attribute [local go_sem] Oper.semAt_some
namespace S8
theorem ret_np (k : IntKind) {a b : Nat} {c : Bool} (h : a = b) : Ending.returned (.tuple #[.int k (a : Int), .bool c]) = .returned (.tuple #[.int k (b : Int), .bool c]) := by rw [h]
def nadd (a b : Nat) : Nat × Bool := if a + b < 256 then (a + b, true) else (0, false)
/-- the least multiple that is not less -/
def nup (n al : Nat) : Nat × Bool := if al = 0 then (0, false) else if n % al = 0 then (n, true) else nadd (n - n % al) al
theorem nup_le {n al : Nat} (h : n ≤ TOP) : (nup n al).1 ≤ TOP := by
  unfold nup nadd
  unfold TOP at h ⊢
  split
  · exact Nat.zero_le _
  · split
    · exact h
    · split
      · simp only; omega
      · exact Nat.zero_le _
theorem wrapU (n : Nat) : IntKind.u8.wrap (n : Int) = ((n % 256 : Nat) : Int) := by simp [IntKind.wrap, IntKind.bits, IntKind.signed]
set_option maxHeartbeats 400000 in
theorem wadd_any (a b : Nat) (w : World) (ha : a < 256) (hb : b < 256) (p : Nat × Bool) (hp : nadd a b = p) :
    Calls Try.prog 57 #[.int .u8 (a : Nat), .int .u8 (b : Nat)] w fun e w' => e = .returned (.tuple #[.int .u8 (p.1 : Nat), .bool p.2]) ∧ w = w' := by
  unfold nadd at hp
  obtain ⟨c, hc⟩ : ∃ c, c = (a + b) % 256 := ⟨_, rfl⟩
  have e1 : IntKind.u8.wrap ((a : Int) + (b : Int)) = (c : Int) := by rw [(Int.natCast_add a b).symm, wrapU, hc]
  split at hp
  · rename_i h
    subst hp
    have hc1 : c = a + b := by rw [hc]; exact Nat.mod_eq_of_lt h
    have hac : a ≤ c := by omega
    have HC := Lib.hid hc1
    clear hc hc1 ha hb h
    go_enter Try.func57, Try.ntmps57
    go_wp2
    go_ret2
    exact ⟨ret_np _ HC.out, rfl⟩
  · rename_i h
    subst hp
    have hc1 : c + 256 = a + b := by rw [hc]; omega
    have hac : c < a := by omega
    clear hc hc1 ha hb h
    go_enter Try.func57, Try.ntmps57
    go_wp2
    go_ret2
    exact ⟨rfl, rfl⟩
set_option maxHeartbeats 400000 in
theorem up_any (n al : Nat) (w : World) (hn : n < 256) (hal : al < 256) (p : Nat × Bool) (hp : nup n al = p) :
    Calls Try.prog 37 #[.int .u8 (n : Nat), .int .u8 (al : Nat)] w fun e w' => e = .returned (.tuple #[.int .u8 (p.1 : Nat), .bool p.2]) ∧ w = w' := by
  unfold nup at hp
  split at hp
  · rename_i h
    subst hp
    subst h
    go_enter Try.func37, Try.ntmps37
    go_wp2_with fail
    go_ret2
    exact ⟨rfl, rfl⟩
  · rename_i h
    have hal1 : 1 ≤ al := by omega
    have e0 : ((al : Int) == 0) = false := beq_eq_false_iff_ne.2 (by omega)
    obtain ⟨r, hr⟩ : ∃ r, r = n % al := ⟨_, rfl⟩
    have hrl : r < al := by rw [hr]; exact Nat.mod_lt _ (by omega)
    have hrn : r ≤ n := by rw [hr]; exact Nat.mod_le _ _
    have e1 : (n : Int) % (al : Int) = (r : Int) := by rw [hr]; exact (Int.natCast_emod n al).symm
    rw [← hr] at hp
    clear h hr
    split at hp
    · rename_i h
      subst hp
      have e2 : ((r : Int) == 0) = true := beq_iff_eq.2 (by omega)
      clear h
      go_enter Try.func37, Try.ntmps37
      go_wp2_with fail
      go_ret2
      exact ⟨rfl, rfl⟩
    · rename_i h
      have e2 : ((r : Int) == 0) = false := beq_eq_false_iff_ne.2 (by omega)
      have e3 : (n : Int) - (r : Int) = ((n - r : Nat) : Int) := by omega
      obtain ⟨m, hm⟩ : ∃ m, m = n - r := ⟨_, rfl⟩
      rw [← hm] at e3 hp
      have hml : m < 256 := by omega
      have HP := Lib.hid hp
      clear hp h hm
      go_enter Try.func37, Try.ntmps37
      go_wp2_with fail
      refine (wadd_any m al w hml hal p HP.out).mono ?_
      rintro e w' ⟨rfl, rfl⟩
      go_wp2_with fail
      go_ret2
      exact ⟨rfl, rfl⟩
/-- does a span hold a multiple with so many points behind it? -/
def fit1 (sz al : Nat) (x : Nat × Nat) : Bool := (nup x.1 al).2 && decide ((nup x.1 al).1 ≤ x.2) && decide (sz - 1 ≤ x.2 - (nup x.1 al).1)
def fitS (s : Sp.S) (sz al : Nat) : Nat × Bool := if sz = 0 then (0, false) else match s.find? (fit1 sz al) with
  | some x => ((nup x.1 al).1, true)
  | none => (0, false)
theorem fitS_none {s : Sp.S} {sz al : Nat} (h : ∀ x ∈ s, fit1 sz al x = false) : fitS s sz al = (0, false) := by
  unfold fitS
  split
  · rfl
  · rw [List.find?_eq_none.2 (fun x hx => by rw [h x hx]; decide)]
theorem fitS_some {s pre : Sp.S} {x : Nat × Nat} {sz al : Nat} (h0 : sz ≠ 0) (hp : pre ++ [x] <+: s) (h : ∀ y ∈ pre, fit1 sz al y = false) (hx : fit1 sz al x = true) : fitS s sz al = ((nup x.1 al).1, true) := by
  unfold fitS
  rw [if_neg h0]
  obtain ⟨r, rfl⟩ := hp
  rw [List.find?_append, List.find?_append, List.find?_eq_none.2 (fun y hy => by rw [h y hy]; decide)]
  simp [hx]
/-- the cells of Fit -/
structure FitR (A : Option Addr) (n c sz al : Nat) (w : World) (v : Nat) (b : Bool) (W : World) : Prop where
  r0 : Row W w.heap.size 43 [.slice A n c]
  r1 : Row W (w.heap.size + 1) 5 [.int .u8 (sz : Nat)]
  r2 : Row W (w.heap.size + 1 + 1) 5 [.int .u8 (al : Nat)]
  r3 : Row W (w.heap.size + 1 + 1 + 1) 5 [.int .u8 (v : Nat)]
  r4 : Row W (w.heap.size + 1 + 1 + 1 + 1) 4 [.bool b]
  bel : Below w.heap.size w W
theorem FitR.chg {A : Option Addr} {n c sz al : Nat} {w : World} {v : Nat} {b : Bool} {W W' : World} (h : FitR A n c sz al w v b W) {T : Nat → Prop} (hc : ChgP T W W') (hT : ∀ k, k ≤ w.heap.size + 1 + 1 + 1 + 1 → ¬ T k) : FitR A n c sz al w v b W' :=
  ⟨hc.row h.r0 (hT _ (by omega)), hc.row h.r1 (hT _ (by omega)), hc.row h.r2 (hT _ (by omega)), hc.row h.r3 (hT _ (by omega)), hc.row h.r4 (hT _ (by omega)), h.bel.trans (hc.below h.bel.size (fun k hk => by
    by_cases hh : k ≤ w.heap.size + 1 + 1 + 1 + 1
    · exact absurd hk (hT k hh)
    · omega))⟩
theorem FitR.set3 {A : Option Addr} {n c sz al : Nat} {w : World} {v : Nat} {b : Bool} {W : World} (h : FitR A n c sz al w v b W) (v' : Nat) (b' : Bool) : FitR A n c sz al w v' b' ((W.setCell ⟨w.heap.size + 1 + 1 + 1, 0, none⟩ (.int .u8 (v' : Nat))).setCell ⟨w.heap.size + 1 + 1 + 1 + 1, 0, none⟩ (.bool b')) := by
  have f : ∀ {g : Nat} {t : TypeId} {cs : List Value}, Row W g t cs → g ≠ w.heap.size + 1 + 1 + 1 → g ≠ w.heap.size + 1 + 1 + 1 + 1 → Row ((W.setCell ⟨w.heap.size + 1 + 1 + 1, 0, none⟩ (.int .u8 (v' : Nat))).setCell ⟨w.heap.size + 1 + 1 + 1 + 1, 0, none⟩ (.bool b')) g t cs := fun hr h1 h2 => (hr.far (p := ⟨w.heap.size + 1 + 1 + 1, 0, none⟩) h1 _).far (p := ⟨w.heap.size + 1 + 1 + 1 + 1, 0, none⟩) h2 _
  exact ⟨f h.r0 (by omega) (by omega), f h.r1 (by omega) (by omega), f h.r2 (by omega) (by omega), (h.r3.set_ 0 _).far (p := ⟨w.heap.size + 1 + 1 + 1 + 1, 0, none⟩) (show w.heap.size + 1 + 1 + 1 ≠ w.heap.size + 1 + 1 + 1 + 1 by omega) _, (h.r4.far (p := ⟨w.heap.size + 1 + 1 + 1, 0, none⟩) (show w.heap.size + 1 + 1 + 1 + 1 ≠ w.heap.size + 1 + 1 + 1 by omega) _).set_ 0 _, (h.bel.setCell (p := ⟨w.heap.size + 1 + 1 + 1, 0, none⟩) (show w.heap.size ≤ w.heap.size + 1 + 1 + 1 by omega) _).setCell (p := ⟨w.heap.size + 1 + 1 + 1 + 1, 0, none⟩) (show w.heap.size ≤ w.heap.size + 1 + 1 + 1 + 1 by omega) _⟩
def fitI (A : Option Addr) (n c sz al : Nat) (w : World) (pre : Sp.S) (W : World) : Prop := FitR A n c sz al w 0 false W ∧ ∀ x ∈ pre, fit1 sz al x = false
def fitX (A : Option Addr) (n c sz al : Nat) (w : World) (cd : Code) (pre : Sp.S) (W : World) : Prop := cd = .ret ∧ ∃ pre' x, pre = pre' ++ [x] ∧ FitR A n c sz al w (nup x.1 al).1 true W ∧ (∀ y ∈ pre', fit1 sz al y = false) ∧ fit1 sz al x = true
set_option maxRecDepth 100000 in
set_option maxHeartbeats 4000000 in
theorem fit_any (A : Option Addr) (n c sz al : Nat) (s : Sp.S) (w : World) (hs : IsSet w A n c s) (hsz : sz ≤ TOP) (hal : al ≤ TOP) :
    Calls Try.prog 18 #[setV A n c, .int .u8 (sz : Nat), .int .u8 (al : Nat)] w fun e w' => e = .returned (.tuple #[.int .u8 ((fitS s sz al).1 : Nat), .bool (fitS s sz al).2]) ∧ Below w.heap.size w w' := by
  have HS := Lib.hid hs.1
  have HN := Lib.hid hs.2.2.2.1
  have hn63 := hs.1.2.2
  unfold TOP at hsz hal
  have HZA := Lib.hid (And.intro hsz hal)
  obtain ⟨F, hF⟩ : ∃ F, F = fitS s sz al := ⟨_, rfl⟩
  have HFS := Lib.hid hF
  rw [← hF]
  obtain ⟨F0, F1⟩ := F
  simp only
  clear hs hF
  have hdd : ∀ k : Nat, (Fence.wide.depth.isSome = true → 1 ≤ k) := fun k h => by cases h
  refine (callsIn_wide (n := 3)).1 ?_
  refine callsIn_of_wp_marks Try.func18 rfl trivial ?_ rfl
  simp only [Try.ntmps18, List.size_toArray, List.length_cons, List.length_nil, Nat.reduceAdd, Nat.reduceSub, Array.replicate_succ, Array.replicate_zero, List.push_toArray, List.append_toArray, List.nil_append, List.cons_append]
  unfold setV
  gi_upto_region 1 with fail
  obtain ⟨w1, hw1⟩ : ∃ w1, w1 = ((((w.alloc (.cells #[.slice A n c] 43)).alloc (.cells #[.int .u8 (sz : Nat)] 5)).alloc (.cells #[.int .u8 (al : Nat)] 5)).alloc (.cells #[.int .u8 0] 5)).alloc (.cells #[.bool false] 4) := ⟨_, rfl⟩
  have hfr : FitR A n c sz al w 0 false w1 ∧ w1.heap.size = w.heap.size + 5 := by
    obtain ⟨wa, hwa⟩ : ∃ wa, wa = w.alloc (.cells #[.slice A n c] 43) := ⟨_, rfl⟩
    obtain ⟨wb, hwb⟩ : ∃ wb, wb = wa.alloc (.cells #[.int .u8 (sz : Nat)] 5) := ⟨_, rfl⟩
    obtain ⟨wc, hwc⟩ : ∃ wc, wc = wb.alloc (.cells #[.int .u8 (al : Nat)] 5) := ⟨_, rfl⟩
    obtain ⟨wd, hwd⟩ : ∃ wd, wd = wc.alloc (.cells #[.int .u8 0] 5) := ⟨_, rfl⟩
    rw [← hwa, ← hwb, ← hwc, ← hwd] at hw1
    have sa : wa.heap.size = w.heap.size + 1 := by rw [hwa]; simp
    have sb : wb.heap.size = w.heap.size + 1 + 1 := by rw [hwb]; simp [sa]
    have sc : wc.heap.size = w.heap.size + 1 + 1 + 1 := by rw [hwc]; simp [sb]
    have sd : wd.heap.size = w.heap.size + 1 + 1 + 1 + 1 := by rw [hwd]; simp [sc]
    have ra : Row wa w.heap.size 43 [.slice A n c] := by rw [hwa]; exact Row.new w _ [.slice A n c]
    have rb : Row wb (w.heap.size + 1) 5 [.int .u8 (sz : Nat)] := by rw [hwb, ← sa]; exact Row.new wa _ [.int .u8 (sz : Nat)]
    have rc : Row wc (w.heap.size + 1 + 1) 5 [.int .u8 (al : Nat)] := by rw [hwc, ← sb]; exact Row.new wb _ [.int .u8 (al : Nat)]
    have rd : Row wd (w.heap.size + 1 + 1 + 1) 5 [.int .u8 (0 : Nat)] := by rw [hwd, ← sc]; exact Row.new wc _ [.int .u8 (0 : Nat)]
    have re : Row w1 (w.heap.size + 1 + 1 + 1 + 1) 4 [.bool false] := by rw [hw1, ← sd]; exact Row.new wd _ [.bool false]
    refine ⟨⟨?_, ?_, ?_, ?_, re, ?_⟩, by rw [hw1]; simp [sd]⟩
    · rw [hw1, hwd, hwc, hwb]; exact (((ra.alloc _).alloc _).alloc _).alloc _
    · rw [hw1, hwd, hwc]; exact ((rb.alloc _).alloc _).alloc _
    · rw [hw1, hwd]; exact (rc.alloc _).alloc _
    · rw [hw1]; exact rd.alloc _
    · have b0 := ((Below.refl w.heap.size w).alloc (Nat.le_refl _) (.cells #[.slice A n c] 43))
      rw [← hwa] at b0
      have b1 := b0.alloc (by omega) (.cells #[.int .u8 (sz : Nat)] 5)
      rw [← hwb] at b1
      have b2 := b1.alloc (by omega) (.cells #[.int .u8 (al : Nat)] 5)
      rw [← hwc] at b2
      have b3 := b2.alloc (by omega) (.cells #[.int .u8 0] 5)
      rw [← hwd] at b3
      have b4 := b3.alloc (by omega) (.cells #[.bool false] 4)
      rw [← hw1] at b4
      exact b4
  rw [← hw1]
  obtain ⟨hfr1, hsz1⟩ := hfr
  have HF1 := Lib.hid hfr1
  have HS1 := Lib.hid hsz1
  have c1 := hfr1.r1.cell 0
  have l1 := hfr1.r1.lt
  simp only [List.getElem?_cons_zero] at c1
  clear hw1 hfr1 hsz1
  by_cases h0 : sz = 0
  · subst h0
    have HE : Hid (F0 = 0 ∧ F1 = false) := Lib.hid (by
      have h := HFS.out
      unfold fitS at h
      rw [if_pos rfl] at h
      injection h with h1 h2
      exact ⟨h1, h2⟩)
    have HZ := Lib.hid (HF1.out.set3 0 false)
    have f3 := HF1.out.r3.frozen 0
    have f4 := HF1.out.r4.frozen 0
    have l3 := HF1.out.r3.lt
    have l4 := HF1.out.r4.lt
    have c3 := HF1.out.r3.cell 0
    have c4 := HF1.out.r4.cell 0
    simp only [List.getElem?_cons_zero] at c3 c4
    gi_wp2_with fail
    have p3 := HZ.out.r3.cell 0
    have p4 := HZ.out.r4.cell 0
    simp only [List.getElem?_cons_zero] at p3 p4
    have HBZ := Lib.hid HZ.out.bel
    clear HZ
    generalize (w1.setCell ⟨w.heap.size + 1 + 1 + 1, 0, none⟩ (.int .u8 0)).setCell ⟨w.heap.size + 1 + 1 + 1 + 1, 0, none⟩ (.bool false) = wz at *
    refine ⟨.tuple #[.int .u8 (0 : Nat), .bool false], ?_, by rw [HE.out.1, HE.out.2], HBZ.out⟩
    simp [results, Try.results18, go_sem, p3, p4]
  have g0 : ((sz : Int) == 0) = false := by simp; omega
  have HSZ : Hid (sz ≠ 0) := Lib.hid h0
  have hsz1 : 1 ≤ sz := by omega
  have c0 := HF1.out.r0.cell 0
  have l0 := HF1.out.r0.lt
  simp only [List.getElem?_cons_zero] at c0
  clear h0
  gi_wp2_with fail
  refine ⟨trivial, (callsIn_wide.2 (all_any A n c w1)).mono ?_⟩
  rintro e w2 ⟨rfl, hw2⟩
  have hr2 : Row w2 w1.heap.size 43 [.slice A n c] := by rw [hw2]; exact Row.new w1 _ [.slice A n c]
  have hb2 : Below w1.heap.size w1 w2 := by rw [hw2]; exact (Below.refl _ _).alloc (Nat.le_refl _) _
  have hs2 : w2.heap.size = w.heap.size + 6 := by rw [hw2]; simp [HS1.out]
  rw [HS1.out] at hr2 ⊢
  have HF2 : Hid (FitR A n c sz al w 0 false w2) := Lib.hid (HF1.out.chg (T := fun _ => False) (ChgP.of_below hb2) (fun _ _ h => h))
  have hL2 : Lst w2 (fun k => k < w.heap.size ∨ k = w.heap.size + 5) A n s := ⟨(HS.out.below HF2.out.bel).more HF2.out.bel.size, fun ad e h0 => .inl (IsS.lt HS.out h0 ad e)⟩
  clear hw2 hb2 c0 l0 c1 l1
  unfold allF
  gi_wp2_with fail
  refine wpIn_rangeFunc_C (F := Fence.wide) (n := 3) (ps := #[15]) (gf := 56) (lb := #[.pointer (some ⟨w.heap.size + 5, 0, none⟩)]) rfl (by decide) ?hg trivial (enters_of Try.func56 (by kernel_rfl) rfl)
    (all_seq A (w.heap.size + 5) n c s (fun k => k < w.heap.size ∨ k = w.heap.size + 5) _ w2 hr2 hL2 (.inr rfl) (fun k hk => by omega)) (Below.refl _ _)
    (fun k hk => hk.elim) (fun k hk => by omega) (fun _ => rfl) (fun _ _ _ _ => trivial)
    (fitI A n c sz al w) (fitX A n c sz al w)
    (fun pre W W' h hc => ⟨h.1.chg hc (fun k hk h => by
      rcases h with h | h
      · exact h
      · omega), h.2⟩)
    (fun cd pre W W' h hc => by
      obtain ⟨h1, pre', x, h2, h3, h4⟩ := h
      exact ⟨h1, pre', x, h2, h3.chg hc (fun k hk h => by
        rcases h with h | h
        · exact h
        · omega), h4⟩)
    ⟨HF2.out, fun x hx => by cases hx⟩
    (spA (w2.heap.size + 2) 15 8) (fun x a' => spA_ab (fun k hk h => by
      rcases h with h | h
      · exact h
      · omega)) ?assign ?body ?done ?stop
  case hg => rfl
  case assign =>
    intro l pre x W K hsz hi hpx hK
    obtain ⟨x0, x1⟩ := x
    unfold spE
    have HK := Lib.hid hK
    have HI := Lib.hid hi
    clear hK hi hpx
    simp only
    gi_wp2_with fail
    have hchg : ∀ Y : Nat → Prop, ChgP Y W (W.alloc (.cells #[.int .u8 (x0 : Nat), .int .u8 (x1 : Nat)] 48)) := fun Y => (ChgP.refl Y W).alloc _
    refine HK.out _ _ (hchg _) ?_ ⟨W.heap.size, by omega, Row.new W 48 _, rfl⟩
    exact ⟨HI.out.1.chg (T := fun _ => False) (hchg _) (fun _ _ h => h), HI.out.2⟩
  case body =>
    rintro l pre ⟨x0, x1⟩ a' W hszW hi ⟨Bx, hBx, hxr, rfl⟩ hpx
    have hxo := HN.out.ok _ (hpx.subset (by simp) : (x0, x1) ∈ s)
    have hple := nup_le (n := x0) (al := al) (Nat.le_trans hxo.1 hxo.2)
    unfold TOP at hxo hple
    simp only at hxo
    have hf1 : fit1 sz al (x0, x1) = ((nup x0 al).2 && decide ((nup x0 al).1 ≤ x1) && decide (sz - 1 ≤ x1 - (nup x0 al).1)) := rfl
    have HUP := Lib.hid (up_any x0 al W (by omega) (by omega) _ rfl)
    obtain ⟨U, hU⟩ : ∃ U, U = nup x0 al := ⟨_, rfl⟩
    rw [← hU] at hf1 HUP hple
    obtain ⟨p, ok⟩ := U
    simp only at hf1 HUP hple
    have HPX : Hid ((nup x0 al).1 = p) := Lib.hid (by rw [← hU])
    have HF := Lib.hid hf1
    have HI := Lib.hid hi
    have z0 := hxr.cell 0
    have z1 := hxr.cell 1
    have zl := hxr.lt
    have y1 := hi.1.r1.cell 0
    have y1l := hi.1.r1.lt
    have y2 := hi.1.r2.cell 0
    have y2l := hi.1.r2.lt
    simp only [List.getElem?_cons_zero, List.getElem?_cons_succ] at z0 z1 y1 y2
    have HKT : Hid (∀ v' b', KpC (upTo (fun k => k < w.heap.size ∨ k = w.heap.size + 5) w2.heap.size (0 + 2)) W ((W.setCell ⟨w.heap.size + 1 + 1 + 1, 0, none⟩ v').setCell ⟨w.heap.size + 1 + 1 + 1 + 1, 0, none⟩ b')) := Lib.hid (fun v' b' => by
      refine ChgP.set_ (ChgP.set_ (ChgP.refl _ W) (p := ⟨w.heap.size + 1 + 1 + 1, 0, none⟩) (.inl (fun h => ?_)) _) (p := ⟨w.heap.size + 1 + 1 + 1 + 1, 0, none⟩) (.inl (fun h => ?_)) _
      · rcases h with (h | h) | h
        · have h : w.heap.size + 1 + 1 + 1 < w.heap.size := h; omega
        · have h : w.heap.size + 1 + 1 + 1 = w.heap.size + 5 := h; omega
        · have h : w2.heap.size ≤ w.heap.size + 1 + 1 + 1 := h.1; omega
      · rcases h with (h | h) | h
        · have h : w.heap.size + 1 + 1 + 1 + 1 < w.heap.size := h; omega
        · have h : w.heap.size + 1 + 1 + 1 + 1 = w.heap.size + 5 := h; omega
        · have h : w2.heap.size ≤ w.heap.size + 1 + 1 + 1 + 1 := h.1; omega)
    have HNX : Hid (fit1 sz al (x0, x1) = false → KpC (upTo (fun k => k < w.heap.size ∨ k = w.heap.size + 5) w2.heap.size (0 + 2)) W W ∧ fitI A n c sz al w (pre ++ [(x0, x1)]) W) := Lib.hid (fun h => ⟨ChgP.refl _ _, HI.out.1, fun y hy => by
      rcases List.mem_append.1 hy with hy | hy
      · exact HI.out.2 y hy
      · rw [List.mem_singleton.1 hy]; exact h⟩)
    have f3 := hi.1.r3.frozen 0
    have f4 := hi.1.r4.frozen 0
    have l3 := hi.1.r3.lt
    have l4 := hi.1.r4.lt
    have d3 := hi.1.r3.cell 0
    have d4 := hi.1.r4.cell 0
    simp only [List.getElem?_cons_zero] at d3 d4
    clear hf1 hU hxr hi hpx hL2 hr2 hs2
    simp only [List.setIfInBounds_toArray, List.set_cons_succ, List.set_cons_zero]
    cases ok with
    | false =>
      have HN1 := Lib.hid (HNX.out (by rw [HF.out]; rfl))
      gi_wp2_with (refine ⟨trivial, ?_⟩; gi_at_call 37; refine (CallsIn.inRound l (callsIn_wide.2 HUP.out)).mono ?_; rintro e w' ⟨rfl, rfl⟩)
      exact HN1.out
    | true =>
      by_cases q1 : p ≤ x1
      · have g1 : decide (p ≤ x1) = true := decide_eq_true q1
        have HG1 := Lib.hid g1
        obtain ⟨d, hd⟩ : ∃ d, d = x1 - p := ⟨_, rfl⟩
        obtain ⟨k, hk⟩ : ∃ k, k = sz - 1 := ⟨_, rfl⟩
        have e1 : (x1 : Int) - (p : Int) = (d : Int) := by omega
        have e2 : (sz : Int) - 1 = (k : Int) := by omega
        have hd1 : d ≤ 255 := by omega
        have hk1 : k ≤ 255 := by omega
        rw [← hd, ← hk] at HF
        clear q1 hd hk
        by_cases q2 : k ≤ d
        · have g2 : decide (k ≤ d) = true := decide_eq_true q2
          have HT : Hid (fit1 sz al (x0, x1) = true) := Lib.hid (by rw [HF.out, HG1.out, g2]; rfl)
          have HS3 := Lib.hid (HI.out.1.set3 p true)
          have HK3 := Lib.hid (HKT.out (.int .u8 (p : Nat)) (.bool true))
          clear q2
          gi_wp2_with (refine ⟨trivial, ?_⟩; gi_at_call 37; refine (CallsIn.inRound l (callsIn_wide.2 HUP.out)).mono ?_; rintro e w' ⟨rfl, rfl⟩)
          exact ⟨HK3.out, rfl, pre, (x0, x1), rfl, by show FitR _ _ _ _ _ _ (nup x0 al).1 true _; rw [HPX.out]; exact HS3.out, HI.out.2, HT.out⟩
        · have g2 : decide (k ≤ d) = false := decide_eq_false q2
          have HN1 := Lib.hid (HNX.out (by rw [HF.out, HG1.out, g2]; rfl))
          clear q2
          gi_wp2_with (refine ⟨trivial, ?_⟩; gi_at_call 37; refine (CallsIn.inRound l (callsIn_wide.2 HUP.out)).mono ?_; rintro e w' ⟨rfl, rfl⟩)
          exact HN1.out
      · have g1 : decide (p ≤ x1) = false := decide_eq_false q1
        have HN1 := Lib.hid (HNX.out (by rw [HF.out, g1]; rfl))
        clear q1
        gi_wp2_with (refine ⟨trivial, ?_⟩; gi_at_call 37; refine (CallsIn.inRound l (callsIn_wide.2 HUP.out)).mono ?_; rintro e w' ⟨rfl, rfl⟩)
        exact HN1.out
  case done =>
    rintro xs W rfl ⟨hfr, hno⟩ _ hK
    have HE : Hid (F0 = 0 ∧ F1 = false) := Lib.hid (by
      have h := HFS.out
      rw [fitS_none hno] at h
      injection h with h1 h2
      exact ⟨h1, h2⟩)
    have HZ := Lib.hid (hfr.set3 0 false)
    have f3 := hfr.r3.frozen 0
    have f4 := hfr.r4.frozen 0
    have l3 := hfr.r3.lt
    have l4 := hfr.r4.lt
    have c3 := hfr.r3.cell 0
    have c4 := hfr.r4.cell 0
    simp only [List.getElem?_cons_zero] at c3 c4
    have HKZ : Hid (((W.setCell ⟨w.heap.size + 1 + 1 + 1, 0, none⟩ (.int .u8 (0 : Nat))).setCell ⟨w.heap.size + 1 + 1 + 1 + 1, 0, none⟩ (.bool false)).heap[w2.heap.size]? = some (.deferred (some []))) := Lib.hid (by
      rw [Below.heap_setCell _ _ _ _ (by show w2.heap.size ≠ w.heap.size + 1 + 1 + 1 + 1; omega), Below.heap_setCell _ _ _ _ (by show w2.heap.size ≠ w.heap.size + 1 + 1 + 1; omega)]
      exact hK)
    have HDW : Hid (w.heap.size + 1 + 1 + 1 + 1 < w2.heap.size) := Lib.hid (by omega)
    obtain ⟨D, hD⟩ : ∃ D, D = w2.heap.size := ⟨_, rfl⟩
    rw [← hD] at HKZ HDW ⊢
    clear hno hK hD hL2 hr2 hs2 HF1 HF2 hfr
    gi_wp2_with fail
    generalize (W.setCell ⟨w.heap.size + 1 + 1 + 1, 0, none⟩ (.int .u8 (0 : Nat))).setCell ⟨w.heap.size + 1 + 1 + 1 + 1, 0, none⟩ (.bool false) = wz at *
    have hcy : ChgP (fun k => k = D) wz (wz.putObj D (.deferred none)) := chgP_put wz D _ rfl
    have HY := HZ.out.chg hcy (fun k hk e => by have e : k = D := e; have := HDW.out; omega)
    have p3 := HY.r3.cell 0
    have p4 := HY.r4.cell 0
    simp only [List.getElem?_cons_zero] at p3 p4
    refine ⟨by simp, .inl ⟨_, _, rfl, run_takeDeferred HKZ.out, ?_⟩⟩
    have HBZ := Lib.hid HY.bel
    generalize wz.putObj D (.deferred none) = wy at *
    refine ⟨.tuple #[.int .u8 (0 : Nat), .bool false], ?_, by rw [HE.out.1, HE.out.2], HBZ.out⟩
    simp [results, Try.results18, go_sem, p3, p4]
  case stop =>
    rintro c pre W hpre ⟨rfl, pre', ⟨x0, x1⟩, rfl, hfr, hno, hfx⟩ _ hK
    have HE : Hid (F0 = (nup x0 al).1 ∧ F1 = true) := Lib.hid (by
      have h := HFS.out
      rw [fitS_some HSZ.out hpre hno hfx] at h
      injection h with h1 h2
      exact ⟨h1, h2⟩)
    have HFR := Lib.hid hfr
    have HDW : Hid (w.heap.size + 1 + 1 + 1 + 1 < w2.heap.size) := Lib.hid (by omega)
    obtain ⟨D, hD⟩ : ∃ D, D = w2.heap.size := ⟨_, rfl⟩
    rw [← hD] at hK HDW ⊢
    have HK := Lib.hid hK
    clear hno hfx hK hD hL2 hr2 hs2 HF1 HF2 hfr hpre
    gi_wp2_with fail
    have hcy : ChgP (fun k => k = D) W (W.putObj D (.deferred none)) := chgP_put W D _ rfl
    have HY := HFR.out.chg hcy (fun k hk e => by have e : k = D := e; have := HDW.out; omega)
    have p3 := HY.r3.cell 0
    have p4 := HY.r4.cell 0
    simp only [List.getElem?_cons_zero] at p3 p4
    refine ⟨by simp, .inl ⟨_, _, rfl, run_takeDeferred HK.out, ?_⟩⟩
    have HBZ := Lib.hid HY.bel
    generalize W.putObj D (.deferred none) = wy at *
    refine ⟨.tuple #[.int .u8 ((nup x0 al).1 : Nat), .bool true], ?_, by rw [HE.out.1, HE.out.2], HBZ.out⟩
    simp [results, Try.results18, go_sem, p3, p4]
end S8
end Go.Proofs.Ytchajbegjajlkaa
