/- The walk of the law SpanNames. -/
import Derived.Test.YtchajbegjajlkaaGreatSpN
import Derived.BigQuiet
import Derived.Shelf.RegionOpen
set_option linter.unusedVariables false
set_option linter.unusedSimpArgs false
namespace Go.Proofs.YtchajbegjajlkaaGreat
open Go.RowKit
open Bu
attribute [local go_sem] Oper.semAt_some
/-- the cells of the first part -/
structure N1 (w wr : World) : Prop where
  r0 : Row wr w.heap.size 4 [.bool false]
  r1 : Row wr (w.heap.size + 1) 42 [.slice none 0 0]
  bel : Below w.heap.size w wr
theorem N1.below {w wr wx : World} (h : N1 w wr) (hb : Below wr.heap.size wr wx) : N1 w wx := ⟨h.r0.below hb h.r0.lt, h.r1.below hb h.r1.lt, h.bel.trans (hb.mono h.bel.size)⟩
theorem N1.cell {w wr : World} (h : N1 w wr) : wr.cell? ⟨w.heap.size + 1, 0, none⟩ = some (.slice none 0 0) ∧ w.heap.size + 1 < wr.heap.size := ⟨h.r1.cell 0, h.r1.lt⟩
theorem N1.chg {w wr wx : World} (h : N1 w wr) {T : Nat → Prop} (hc : ChgP T wr wx) (hT : ∀ k, k ≤ w.heap.size + 1 → ¬ T k) : N1 w wx := ⟨hc.row h.r0 (hT _ (by omega)), hc.row h.r1 (hT _ (by omega)), h.bel.trans (hc.below h.bel.size (fun k hk => by
  by_cases hh : k ≤ w.heap.size + 1
  · exact absurd hk (hT k hh)
  · omega))⟩
def nI (c11 : Nat) (w : World) (pre : Sp.S) (W : World) : Prop := N1 w W ∧ Row W c11 3 [.int .i64 (pre.length : Nat)]
set_option maxRecDepth 100000 in
set_option maxHeartbeats 8000000 in
theorem spannames_walk (w : World) : Calls Tryz.prog 4 #[] w fun e w' => e = .returned (.bool true) ∧ Below w.heap.size w w' := by
  refine (callsIn_wide (n := 3)).1 ?_
  refine callsIn_of_wp_marks Tryz.func4 rfl trivial ?_ rfl
  simp only [Tryz.ntmps4, List.size_toArray, List.length_cons, List.length_nil, Nat.reduceAdd, Nat.reduceSub, Array.replicate_succ, Array.replicate_zero, List.push_toArray, List.append_toArray, List.nil_append, List.cons_append]
  refine wpIn_wide.2 ?_
  go_upto_region 2 with fail
  have hN1 : N1 w ((w.alloc (.cells #[.bool false] 4)).alloc (.cells #[.slice none 0 0] 42)) := by
    refine ⟨(Row.new w _ [.bool false]).alloc _, ?_, ((Below.refl _ _).alloc (Nat.le_refl _) _).alloc (by simp) _⟩
    have h := Row.new (w.alloc (.cells #[.bool false] 4)) 42 [.slice none 0 0]
    rw [show (w.alloc (.cells #[.bool false] 4)).heap.size = w.heap.size + 1 by simp] at h
    exact h
  generalize (w.alloc (.cells #[.bool false] 4)).alloc (.cells #[.slice none 0 0] 42) = w1 at *
  have H1 := Lib.hid hN1
  obtain ⟨q1, l1⟩ := hN1.cell
  clear hN1
  go_wp2_with fail
  refine (n_sz16 w1).mono ?_
  rintro e w2 ⟨rfl, hb⟩
  have H2 := Lib.hid (H1.out.below hb)
  clear hb q1 l1 H1
  obtain ⟨q1, l1⟩ := H2.out.cell
  go_wp2_with fail
  refine (n_lg16 w2).mono ?_
  rintro e w3 ⟨rfl, hb⟩
  have H3 := Lib.hid (H2.out.below hb)
  clear hb q1 l1 H2
  go_upto_region 4 with fail
  have hb : Below w3.heap.size w3 (w3.alloc (.cells #[.int .u16 0, .int .u16 0] 46)) := (Below.refl _ _).alloc (Nat.le_refl _) _
  have H4 := Lib.hid (H3.out.below hb)
  generalize w3.alloc (.cells #[.int .u16 0, .int .u16 0] 46) = w4 at *
  clear hb H3
  obtain ⟨q1, l1⟩ := H4.out.cell
  go_wp2_with fail
  refine (n_ft16 w4).mono ?_
  rintro e w5 ⟨rfl, hb⟩
  have H5 := Lib.hid (H4.out.below hb)
  clear hb q1 l1 H4
  obtain ⟨q1, l1⟩ := H5.out.cell
  go_wp2_with fail
  refine (n_hs16 w5).mono ?_
  rintro e w6 ⟨rfl, hb⟩
  have H6 := Lib.hid (H5.out.below hb)
  clear hb q1 l1 H5
  obtain ⟨q1, l1⟩ := H6.out.cell
  go_wp2_with fail
  refine (n_cv16 w6).mono ?_
  rintro e w7 ⟨rfl, hb⟩
  have H7 := Lib.hid (H6.out.below hb)
  clear hb q1 l1 H6
  obtain ⟨q1, l1⟩ := H7.out.cell
  go_wp2_with fail
  refine (n_tc16 w7).mono ?_
  rintro e w8 ⟨rfl, hb⟩
  have H8 := Lib.hid (H7.out.below hb)
  clear hb q1 l1 H7
  obtain ⟨q1, l1⟩ := H8.out.cell
  go_wp2_with fail
  refine (n_sp16 w8).mono ?_
  rintro e w9 ⟨A9, c9, rfl, hb⟩
  have H9 := Lib.hid (H8.out.below hb)
  clear hb q1 l1 H8
  -- the whole of a type
  go_wp2_with fail
  have hb : Below w9.heap.size w9 (w9.alloc (.cells #[.int .u64 0, .int .u64 18446744073709551615] 59)) := (Below.refl _ _).alloc (Nat.le_refl _) _
  have hr := Row.new w9 59 [.int .u64 0, .int .u64 18446744073709551615]
  refine (n_of64 w9.heap.size _ hr).mono ?_
  have H10 := Lib.hid (H9.out.below hb)
  generalize w9.alloc (.cells #[.int .u64 0, .int .u64 18446744073709551615] 59) = w10 at *
  rintro e w11 ⟨A1, c1, rfl, ho, hb1⟩
  have H11 := Lib.hid (H10.out.below hb1)
  have HO := Lib.hid ho
  clear hb hr ho hb1 H9 H10
  go_upto_region 8 with fail
  have hb : Below w11.heap.size w11 (w11.alloc (.cells #[.slice A1 1 c1] 56)) := (Below.refl _ _).alloc (Nat.le_refl _) _
  have hr8 := Row.new w11 56 [.slice A1 1 c1]
  have H12 := Lib.hid (H11.out.below hb)
  have HS12 : Hid (S64.IsSet (w11.alloc (.cells #[.slice A1 1 c1] 56)) A1 1 c1 [(0, 18446744073709551615)]) := Lib.hid ((HO.out.isSet nrm_all (by decide)).below hb)
  obtain ⟨c8, hc8⟩ : ∃ c8, c8 = w11.heap.size := ⟨_, rfl⟩
  generalize w11.alloc (.cells #[.slice A1 1 c1] 56) = w12 at *
  rw [← hc8] at hr8 ⊢
  have HR8 := Lib.hid hr8
  clear hb hr8 hc8 H11 HO
  have q8 := HR8.out.cell 0
  have l8 := HR8.out.lt
  simp only [List.getElem?_cons_zero] at q8
  go_wp2_with fail
  refine (n_sz64 A1 c1 w12 HS12.out).mono ?_
  rintro e w13 ⟨rfl, hb⟩
  have H13 := Lib.hid (H12.out.below hb)
  have HR13 := Lib.hid (HR8.out.below hb HR8.out.lt)
  have HS13 := Lib.hid (HS12.out.below hb)
  clear hb q8 l8 H12 HR8 HS12
  have q8 := HR13.out.cell 0
  have l8 := HR13.out.lt
  simp only [List.getElem?_cons_zero] at q8
  go_wp2_with fail
  refine (n_ft64 A1 c1 w13 HS13.out).mono ?_
  rintro e w14 ⟨rfl, hb⟩
  have H14 := Lib.hid (H13.out.below hb)
  have HR14 := Lib.hid (HR13.out.below hb HR13.out.lt)
  have HS14 := Lib.hid (HS13.out.below hb)
  clear hb q8 l8 H13 HR13 HS13
  have q8 := HR14.out.cell 0
  have l8 := HR14.out.lt
  simp only [List.getElem?_cons_zero] at q8
  go_wp2_with fail
  refine (n_hs64 A1 c1 w14 HS14.out).mono ?_
  rintro e w15 ⟨rfl, hb⟩
  have H15 := Lib.hid (H14.out.below hb)
  have HR15 := Lib.hid (HR14.out.below hb HR14.out.lt)
  have HS15 := Lib.hid (HS14.out.below hb)
  clear hb q8 l8 H14 HR14 HS14
  have q8 := HR15.out.cell 0
  have l8 := HR15.out.lt
  simp only [List.getElem?_cons_zero] at q8
  go_wp2_with fail
  refine (S64.all_any A1 1 c1 w15).mono ?_
  rintro e w16 ⟨rfl, hw16⟩
  have hb : Below w15.heap.size w15 w16 := by rw [hw16]; exact (Below.refl _ _).alloc (Nat.le_refl _) _
  have hra : Row w16 w15.heap.size 56 [.slice A1 1 c1] := by rw [hw16]; exact Row.new w15 _ [.slice A1 1 c1]
  have H16 := Lib.hid (H15.out.below hb)
  have HS16 := Lib.hid (HS15.out.below hb)
  obtain ⟨g, hg⟩ : ∃ g, g = w15.heap.size := ⟨_, rfl⟩
  rw [← hg] at hra ⊢
  have HRA := Lib.hid hra
  have HGA : Hid (∀ ad, A1 = some ad → ad.block < g) := Lib.hid (fun ad e => by
    have := S64.IsS.lt HS15.out.1 (by omega) ad e
    omega)
  clear hb hw16 hra hg q8 l8 H15 HR15 HS15
  unfold S64.allF
  have hef : ∀ wx : World, (binOp .eql 63 (.func (.func 90) #[] #[.pointer (some ⟨g, 0, none⟩)]) .nilFunc).run Tryz.prog wx = .ok (.bool false) wx := fun wx => by kernel_rfl
  go_upto_region 16 with fail
  have hb : Below w16.heap.size w16 (w16.alloc (.cells #[.int .i64 0] 3)) := (Below.refl _ _).alloc (Nat.le_refl _) _
  have hr11 := Row.new w16 3 [.int .i64 0]
  have H17 := Lib.hid (H16.out.below hb)
  have HS17 := Lib.hid (HS16.out.below hb)
  have HRA17 := Lib.hid (HRA.out.below hb HRA.out.lt)
  obtain ⟨c11, hc11⟩ : ∃ c, c = w16.heap.size := ⟨_, rfl⟩
  have HC11 : Hid (g < c11 ∧ w.heap.size + 1 < c11) := Lib.hid ⟨by rw [hc11]; exact HRA.out.lt, by rw [hc11]; exact H16.out.r1.lt⟩
  generalize w16.alloc (.cells #[.int .i64 0] 3) = w17 at *
  rw [← hc11] at hr11 ⊢
  have HR11 := Lib.hid hr11
  clear hb hr11 hc11 H16 HS16 HRA hef
  go_wp2_with fail
  refine wp_mid (fun W => N1 w W ∧ Row W c11 3 [.int .i64 1] ∧ W.heap[w17.heap.size]? = some (.deferred (some []))) { target := .collected w17.heap.size, args := #[] } ?walk0 ?rest0
  case walk0 =>
    have hgl := HRA17.out.lt
    have h11l := HR11.out.lt
    have hc11 := HC11.out
    have hga := HGA.out
    refine (wpIn_wide (n := 3)).1 ?_
    refine wpIn_rangeFunc_C (F := Fence.wide) (n := 3) (ps := #[101]) (gf := 90) (lb := #[.pointer (some ⟨g, 0, none⟩)]) rfl (by decide) ?hg trivial (enters_of Tryz.func90 (by kernel_rfl) rfl)
      (S64.all_seq A1 g 1 c1 [(0, 18446744073709551615)] (fun k => k = g ∨ ∃ ad, A1 = some ad ∧ k = ad.block) _ w17 HRA17.out ⟨HS17.out.1, fun ad e _ => .inr ⟨ad, e, rfl⟩⟩ (.inl rfl) (fun k hk => by
        rcases hk with hk | ⟨ad, e, hk⟩
        · omega
        · have := hga ad e; omega)) (Below.refl _ _)
      (fun k hk => hk.elim) (fun k hk => by
        rcases hk with hk | ⟨ad, e, hk⟩
        · omega
        · have := hga ad e; omega) (fun _ => rfl) (fun _ _ _ _ => trivial)
      (nI c11 w) (fun _ _ _ => False)
      (fun pre W W' h hc => ⟨h.1.chg hc (fun k hk h => by
        rcases h with h | h
        · exact h
        · omega), hc.row h.2 (fun h => by
        rcases h with h | h
        · exact h
        · omega)⟩)
      (fun _ _ _ _ hs _ => hs)
      ⟨H17.out, HR11.out⟩
      (S64.spA (w17.heap.size + 2) 101 12) (fun x a' => S64.spA_ab (fun k hk h => by
        rcases h with h | h
        · exact h
        · omega)) ?assign ?body ?done ?stop
    case hg => rfl
    case assign =>
      intro l pre x W K hsz hi hpx hK
      obtain ⟨x0, x1⟩ := x
      unfold S64.spE
      have HK := Lib.hid hK
      have HI := Lib.hid hi
      clear hK hi hpx
      simp only
      gi_wp2_with fail
      have hchg : ∀ Y : Nat → Prop, ChgP Y W (W.alloc (.cells #[.int .u64 (x0 : Nat), .int .u64 (x1 : Nat)] 59)) := fun Y => (ChgP.refl Y W).alloc _
      refine HK.out _ _ (hchg _) ?_ ⟨W.heap.size, by omega, Row.new W 59 _, rfl⟩
      exact ⟨HI.out.1.chg (T := fun _ => False) (hchg _) (fun _ _ h => h), (hchg (fun _ => False)).row HI.out.2 (fun h => h)⟩
    case body =>
      rintro l pre ⟨x0, x1⟩ a' W hszW hi ⟨Bx, hBx, hxr, rfl⟩ hpx
      have hx : (x0, x1) = (0, 18446744073709551615) := List.mem_singleton.1 (hpx.subset (by simp))
      have hpl : pre.length = 0 := by have := hpx.length_le; rw [List.length_append] at this; simp only [List.length_cons, List.length_nil] at this; omega
      injection hx with e0 e1
      subst e0 e1
      have hpn : pre = [] := List.eq_nil_of_length_eq_zero hpl
      subst hpn
      have z0 := hxr.cell 0
      have z1 := hxr.cell 1
      have zl := hxr.lt
      have y0 := hi.2.cell 0
      have yf := hi.2.frozen 0
      have yl := hi.2.lt
      simp only [List.getElem?_cons_zero, List.getElem?_cons_succ, List.length_nil] at z0 z1 y0
      have HN : Hid (KpC (upTo (fun k => k = g ∨ ∃ ad, A1 = some ad ∧ k = ad.block) w17.heap.size (0 + 2)) W (W.setCell ⟨c11, 0, none⟩ (.int .i64 1)) ∧ nI c11 w ([] ++ [(0, 18446744073709551615)]) (W.setCell ⟨c11, 0, none⟩ (.int .i64 1))) := Lib.hid (by
        have hcc : ChgP (fun k => k = c11) W (W.setCell ⟨c11, 0, none⟩ (.int .i64 1)) := ChgP.set_ (Z := fun k => k = c11) (ChgP.refl _ W) (p := ⟨c11, 0, none⟩) (.inl rfl) _
        refine ⟨hcc.mono (fun k hk => .inl (fun h => ?_)), hi.1.chg hcc (fun k hk e => by have e : k = c11 := e; omega), hi.2.set_ 0 _⟩
        have hk : k = c11 := hk
        rcases h with (h | ⟨ad, e, h⟩) | h
        · omega
        · have := hga ad e; omega
        · omega)
      clear hxr hi hpx hpl
      simp only [List.setIfInBounds_toArray, List.set_cons_succ, List.set_cons_zero]
      gi_wp2_with fail
      exact HN.out
    case done =>
      rintro xs W rfl ⟨h1, h2⟩ _ hK
      exact ⟨rfl, rfl, h1, h2, hK⟩
    case stop =>
      intro c pre W _ h _ _
      exact h.elim
  case rest0 =>
  rintro W18 ⟨hn18, hr18, hk18⟩
  have H18 := Lib.hid hn18; have HK18 := Lib.hid hk18
  have y0 := hr18.cell 0
  have yl := hr18.lt
  simp only [List.getElem?_cons_zero] at y0
  obtain ⟨D, hD⟩ : ∃ D, D = w17.heap.size := ⟨_, rfl⟩
  rw [← hD] at HK18 ⊢
  have HDW : Hid (w.heap.size + 1 < D) := Lib.hid (by rw [hD]; exact H17.out.r1.lt)
  clear hn18 hr18 hk18 hD H17 HS17 HRA17 HR11 HC11 HGA
  go_upto_region 23 with fail
  clear y0 yl
  have hb : Below W18.heap.size W18 (W18.alloc (.cells #[.int .u8 10, .int .u8 20] 32)) := (Below.refl _ _).alloc (Nat.le_refl _) _
  have hr := Row.new W18 32 [.int .u8 10, .int .u8 20]
  have H19 := Lib.hid (H18.out.below hb)
  have HK19 : Hid ((W18.alloc (.cells #[.int .u8 10, .int .u8 20] 32)).heap[D]? = some (.deferred (some []))) := Lib.hid ((hb.block D (Array.getElem?_eq_some_iff.1 HK18.out).1).trans HK18.out)
  have HR := Lib.hid hr
  clear hr
  go_upto_region 24 with (go_at_call 9; refine (n_ofb W18.heap.size _ HR.out).mono ?_; rintro e w20 ⟨A2, c2, rfl, ho, hb1⟩; have HO := Lib.hid ho; have HB1 := Lib.hid hb1; clear ho hb1)
  have hK20 : w20.heap[D]? = some (.deferred (some [])) := (HB1.out.block D (Array.getElem?_eq_some_iff.1 HK19.out).1).trans HK19.out
  have hb2 : Below w20.heap.size w20 (w20.alloc (.cells #[.slice A2 1 c2] 27)) := (Below.refl _ _).alloc (Nat.le_refl _) _
  have hr13 := Row.new w20 27 [.slice A2 1 c2]
  have H21 := Lib.hid ((H19.out.below HB1.out).below hb2)
  have HS21 : Hid (S8.IsSet (w20.alloc (.cells #[.slice A2 1 c2] 27)) A2 1 c2 [(10, 20)]) := Lib.hid ((HO.out.isSet nrm_few (by decide)).below hb2)
  have HK21 := Lib.hid ((hb2.block D (Array.getElem?_eq_some_iff.1 hK20).1).trans hK20)
  obtain ⟨c13, hc13⟩ : ∃ c, c = w20.heap.size := ⟨_, rfl⟩
  have HC13 : Hid (w.heap.size + 1 < c13) := Lib.hid (by rw [hc13]; exact (H19.out.below HB1.out).r1.lt)
  generalize w20.alloc (.cells #[.slice A2 1 c2] 27) = w21 at *
  rw [← hc13] at hr13 ⊢
  have HR13 := Lib.hid hr13
  clear hb hb2 hr13 hc13 hK20 H19 HK19 HB1 HO HR H18 HK18
  have q8 := HR13.out.cell 0
  have l8 := HR13.out.lt
  simp only [List.getElem?_cons_zero] at q8
  go_wp2_with fail
  refine (n_ft8a A2 c2 w21 HS21.out).mono ?_
  rintro e w22 ⟨rfl, hb⟩
  have H22 := Lib.hid (H21.out.below hb)
  have HR22 := Lib.hid (HR13.out.below hb HR13.out.lt)
  have HS22 := Lib.hid (HS21.out.below hb)
  have HK22 := Lib.hid ((hb.block D (Array.getElem?_eq_some_iff.1 HK21.out).1).trans HK21.out)
  clear hb q8 l8 H21 HR13 HS21 HK21
  have q8 := HR22.out.cell 0
  have l8 := HR22.out.lt
  simp only [List.getElem?_cons_zero] at q8
  go_wp2_with fail
  refine (n_ft8b A2 c2 w22 HS22.out).mono ?_
  rintro e w23 ⟨rfl, hb⟩
  have H23 := Lib.hid (H22.out.below hb)
  have HR23 := Lib.hid (HR22.out.below hb HR22.out.lt)
  have HS23 := Lib.hid (HS22.out.below hb)
  have HK23 := Lib.hid ((hb.block D (Array.getElem?_eq_some_iff.1 HK22.out).1).trans HK22.out)
  clear hb q8 l8 H22 HR22 HS22 HK22
  have q8 := HR23.out.cell 0
  have l8 := HR23.out.lt
  obtain ⟨q1, l1⟩ := H23.out.cell
  have f0 := H23.out.r0.frozen 0
  have z0 := H23.out.r0.cell 0
  have z0l := H23.out.r0.lt
  simp only [List.getElem?_cons_zero] at q8 z0
  -- what holds in every world behind
  have HFR : Hid (∀ wx, Below w23.heap.size w23 wx → (wx.cell? ⟨w.heap.size + 1, 0, none⟩ = some (.slice none 0 0) ∧ wx.cell? ⟨c13, 0, none⟩ = some (.slice A2 1 c2)) ∧ S8.IsSet wx A2 1 c2 [(10, 20)] ∧ wx.cell? ⟨w.heap.size, 0, none⟩ = some (.bool false) ∧ wx.frozen? ⟨w.heap.size, 0, none⟩ = false ∧ w.heap.size < wx.heap.size) := Lib.hid (fun wx hb => by
    have h := H23.out.below hb
    have hr := HR23.out.below hb HR23.out.lt
    exact ⟨⟨h.r1.cell 0, hr.cell 0⟩, HS23.out.below hb, h.r0.cell 0, h.r0.frozen 0, h.r0.lt⟩)
  have HST : Hid (∀ wx, Below w23.heap.size w23 wx → ((wx.setCell ⟨w.heap.size, 0, none⟩ (.bool true)).cell? ⟨w.heap.size + 1, 0, none⟩ = some (.slice none 0 0) ∧ (wx.setCell ⟨w.heap.size, 0, none⟩ (.bool true)).cell? ⟨c13, 0, none⟩ = some (.slice A2 1 c2))) := Lib.hid (fun wx hb => by
    have h := (H23.out.below hb).r1.far (p := ⟨w.heap.size, 0, none⟩) (show w.heap.size + 1 ≠ w.heap.size by omega) (.bool true)
    have hr := (HR23.out.below hb HR23.out.lt).far (p := ⟨w.heap.size, 0, none⟩) (show c13 ≠ w.heap.size by have := HC13.out; omega) (.bool true)
    exact ⟨h.cell 0, hr.cell 0⟩)
  have HEN : Hid (∀ wx, Below w23.heap.size w23 wx → (wx.setCell ⟨w.heap.size, 0, none⟩ (.bool true)).heap[D]? = some (.deferred (some [])) ∧ Row (wx.setCell ⟨w.heap.size, 0, none⟩ (.bool true)) w.heap.size 4 [.bool true] ∧ Below w.heap.size w (wx.setCell ⟨w.heap.size, 0, none⟩ (.bool true))) := Lib.hid (fun wx hb => by
    have h := H23.out.below hb
    have hk := (hb.block D (Array.getElem?_eq_some_iff.1 HK23.out).1).trans HK23.out
    have hcz : ChgP (fun k => k = w.heap.size) wx (wx.setCell ⟨w.heap.size, 0, none⟩ (.bool true)) := ChgP.set_ (Z := fun k => k = w.heap.size) (ChgP.refl _ wx) (p := ⟨w.heap.size, 0, none⟩) (.inl rfl) _
    exact ⟨by rw [hcz.block _ (Array.getElem?_eq_some_iff.1 hk).1 (fun e => by have e : D = w.heap.size := e; have := HDW.out; omega)]; exact hk, h.r0.set_ 0 _, h.bel.setCell (p := ⟨w.heap.size, 0, none⟩) (Nat.le_refl _) _⟩)
  have HBD : Hid (Below w23.heap.size w23 w23.drew) := Lib.hid (Below.refl _ _).drew
  go_upto_region 26 with fail
  go_region_held3 (fun w' => w'.cell? ⟨w.heap.size + 1, 0, none⟩ = some (.slice none 0 0) ∧ w'.cell? ⟨c13, 0, none⟩ = some (.slice A2 1 c2))
    (first | exact (HFR.out _ HBD.out).1 | exact (HFR.out _ HBA.out).1 | exact (HFR.out _ HBB.out).1 | exact (HFR.out _ HBC.out).1 | exact (HFR.out _ HBE.out).1 | exact HST.out _ HBE.out | fail)
    (first
      | (rw [if_pos (by kernel_rfl)]; go_simp; go_at_call 29; refine (n_of16 _).mono ?_; rintro e wa ⟨rfl, hb⟩; have HBA : Hid (Below w23.heap.size w23 wa) := Lib.hid (HBD.out.trans (hb.mono HBD.out.size)); clear hb; try go_wp2_with fail)
      | (rw [if_pos (by kernel_rfl)]; go_simp; go_at_call 28; refine (n_sm16 _).mono ?_; rintro e wb ⟨rfl, hb⟩; have HBB : Hid (Below w23.heap.size w23 wb) := Lib.hid (HBA.out.trans (hb.mono HBA.out.size)); clear hb; try go_wp2_with fail)
      | (rw [if_pos (by kernel_rfl)]; go_simp; go_at_call 9; refine (n_of8 _).mono ?_; rintro e wd ⟨rfl, hb⟩; have HBC : Hid (Below w23.heap.size w23 wd) := Lib.hid (HBB.out.trans (hb.mono HBB.out.size)); clear hb; try go_wp2_with fail)
      | (rw [if_pos (by kernel_rfl)]; go_simp; go_at_call 8; refine (n_sm8 A2 c2 _ (HFR.out _ HBC.out).2.1).mono ?_; rintro e we ⟨rfl, hb⟩; have HBE : Hid (Below w23.heap.size w23 we) := Lib.hid (HBC.out.trans (hb.mono HBC.out.size)); obtain ⟨_, _, x0, x1, x2⟩ := HFR.out _ HBE.out; clear hb; try go_wp2_with fail)
      | fail)
  all_goals
    obtain ⟨hk, hr, hbz⟩ := HEN.out _ HBE.out
    have HK := Lib.hid hk; have HRZ := Lib.hid hr; have HBZ := Lib.hid hbz
    clear hk hr hbz x0 x1 x2
    go_wp2_with fail
    generalize we.setCell ⟨w.heap.size, 0, none⟩ (.bool true) = wz at *
    refine ⟨by simp, .inl ⟨_, _, rfl, run_takeDeferred HK.out, ?_⟩⟩
    have hcy : ChgP (fun k => k = D) wz (wz.putObj D (.deferred none)) := chgP_put wz D _ rfl
    have hc5 := (hcy.row HRZ.out (fun h => by have h : w.heap.size = D := h; have := HDW.out; omega)).cell 0
    have hby : Below w.heap.size w (wz.putObj D (.deferred none)) := HBZ.out.trans (hcy.below HBZ.out.size (fun k hk => by have hk : k = D := hk; have := HDW.out; omega))
    simp only [List.getElem?_cons_zero] at hc5
    generalize wz.putObj D (.deferred none) = wy at *
    refine ⟨.bool true, ?_, rfl, hby⟩
    simp [results, Tryz.results4, go_sem, hc5]
end Go.Proofs.YtchajbegjajlkaaGreat
