/- Texts of this claim, one behind the other: PrX. -/
import Derived.Test.YtblfagmoilhdnaaJPagesTold30
/- The walk of the document's Build. -/
set_option linter.unusedVariables false
set_option linter.unusedSimpArgs false
namespace Go.Proofs.Ytblfagmoilhdnaa
open Go.RowKit
theorem or_page {base k : Nat} (h4 : base % 4096 = 0) : (base + k * 4096) ||| 1 = base + k * 4096 + 1 := Pg.or_add (by omega) (by decide)
/-- the flags of a page, laid one by one -/
theorem or_flags {P f : Nat} (h : P % 4096 = 0) (hf : f < 8) (b : Bool) : (if b then (P ||| f) ||| 8 else P ||| f) = P + (f + if b then 8 else 0) := by
  cases b
  · simp only [Bool.false_eq_true, if_false, Nat.add_zero]
    exact Pg.or_add h (by omega)
  · simp only [if_true]
    rw [Nat.or_assoc, show f ||| 8 = f + 8 by (have : f = 0 ∨ f = 1 ∨ f = 2 ∨ f = 3 ∨ f = 4 ∨ f = 5 ∨ f = 6 ∨ f = 7 := by omega); rcases this with h | h | h | h | h | h | h | h <;> subst h <;> decide]
    exact Pg.or_add h (by omega)
theorem Pg.pages_all (r : Pg.Lf) : r.pages.take r.cnt = r.pages := List.take_of_length_le (by rw [Pg.pages_len]; exact Nat.le_refl _)
theorem Pg.pages_take {r : Pg.Lf} {t : Nat} (h : t < r.cnt) : r.pages.take (t + 1) = r.pages.take t ++ [r.page t] := by
  have hl : t < r.pages.length := by rw [Pg.pages_len]; exact h
  rw [List.take_succ_eq_append_getElem hl]
  simp [Pg.Lf.pages]
theorem tab_one (V : List Value) (hv : V.length = 512) (wx : World) : (Instr.buildSlice 42 1 #[(0, .agg V.toArray)]).run Try.prog wx = .ok (.slice (some ⟨wx.heap.size, 0, none⟩) 1 1) (wx.alloc (.cells V.toArray 24)) := by
  obtain ⟨i0, hi0, hz1, hz2, hz3⟩ := info_parts infoTabA
  refine run_buildSlice wx _ 24 1 _ _ i0 _ Try.underlying42 hi0 hz1 (by rw [hz2]; decide) (by rw [hz2]; decide) ?_
  rw [hz2]
  have h := Go.Great.fill_whole (s := 512) (by decide) [.agg V.toArray] ((Array.range (1 * 512)).map ((Value.agg (zeros 512).toArray).cells[· % (Value.agg (zeros 512).toArray).cells.size]!)) (by
    intro v h
    rw [List.mem_singleton.1 h]
    show V.toArray.size = 512
    simpa using hv) (by simp)
  simp only [List.zipIdx_cons, List.zipIdx_nil, List.map_cons, List.map_nil, List.flatMap_cons, List.flatMap_nil, List.append_nil] at h
  exact h
/-- the measure of the pages of a row -/
def mesU (U NP : Nat) (v : Value) : Nat := NP + U - (intOf v).toNat
theorem mesU_lt {U NP J : Nat} (hu : 0 < U) (h : J < NP) : mesU U NP (.int .u64 ((J : Int) + (U : Int))) < mesU U NP (.int .u64 (J : Int)) := by
  have e1 : (intOf (.int .u64 ((J : Int) + (U : Int)))).toNat = J + U := by
    show ((J : Int) + (U : Int)).toNat = _
    omega
  have e2 : (intOf (.int .u64 (J : Int))).toNat = J := by
    show ((J : Int)).toNat = _
    omega
  unfold mesU
  rw [e1, e2]
  omega
theorem mesU_lt' {U NP J : Nat} (hu : 0 < U) (h : J < NP) : mesU U NP (.int .u64 ((J + U : Nat) : Int)) < mesU U NP (.int .u64 (J : Int)) := by
  rw [Int.natCast_add]
  exact mesU_lt hu h
set_option maxRecDepth 100000 in
set_option maxHeartbeats 4000000 in
theorem rbuild_ok (A : Option Addr) (n c base : Nat) (rows : List Pg.Lf) (w : World) (hr : IsL w w.heap.size A n rows) (hb4 : base % 4096 = 0) (hrt : Pg.right 0 rows = 0) (hcap : (Pg.refT rows).length ≤ 1024) (hfit : base + (Pg.refT rows).length * 4096 ≤ 4294967296) (hlo : base < 4294967296) :
    Calls Try.prog 34 #[.slice A n c, .int .u64 (base : Nat)] w fun e w' => ∃ A' c' all, e = .returned (.tuple #[.slice A' (Pg.refT rows).length c', .int .i64 0]) ∧ Pg.Rep base (Pg.refT rows) (Pg.pagesOf rows) all ∧ all.length = (Pg.refT rows).length ∧ (w'.ownsRow w.heap.size 24 512 (.slice A' all.length c') all.length (tcells all) ∧ (∀ a ∈ all, a.length = 512) ∧ Below w.heap.size w w') := by
  have hch := (Pg.right_pages rows 0 hrt).1
  have hL := (Pg.refT_len hrt base).2 hcap
  have hwt := Pg.wanted_of hch
  rw [← hL] at hwt
  have hC : Pg.refC rows = ((Pg.refT rows).length, 0) := by unfold Pg.refC; rw [if_neg (by simp [hrt]), if_neg (by omega)]
  have HRC : Hid (Calls Try.prog 44 #[.slice A n c] w fun e w' => e = .returned (.tuple #[.int .i64 ((Pg.refT rows).length : Nat), .int .i64 0]) ∧ Below w.heap.size w w') := Lib.hid (by
    have h := rcount_any A n c rows w hr
    rw [hC] at h
    exact h)
  have HTB : Hid (∀ w1 : World, Below w.heap.size w w1 → Calls Try.prog 59 #[.slice A n c] w1 fun e w' => ∃ A' c' ln, e = .returned (.slice A' ln c') ∧ TS w1 w' A' ln c' (Pg.refT rows)) := Lib.hid fun w1 hb => tables_any A n c rows w1 ((hr.below hb).more hb.size) hrt
  obtain ⟨b, off, HF⟩ := hr.form
  have HLN := Lib.hid hr.2.2.1
  have HIN := Lib.hid hr.2.1
  have hn := hr.2.2.2
  have HOK := Lib.hid (Pg.right_all hrt)
  have HRT := Lib.hid hrt
  have HCH := Lib.hid hch
  have HWT := Lib.hid hwt
  have hpos : 0 < (Pg.refT rows).length := (List.getElem?_eq_some_iff.1 hwt.good.root).1
  obtain ⟨L, hLd⟩ : ∃ L, L = Pg.refT rows := ⟨_, rfl⟩
  rw [← hLd] at HRC HTB HWT hcap hfit hpos ⊢
  obtain ⟨ln, hln⟩ : ∃ ln, ln = L.length := ⟨_, rfl⟩
  rw [← hln] at HRC hcap hfit hpos ⊢
  have HLD := Lib.hid hLd
  have HLL := Lib.hid hln
  have HR := Lib.hid hr
  clear hr hrt hch hL hwt hC hLd hln
  have e1 : IntKind.u64.wrap (ln : Int) = (ln : Int) := by rw [IntKind.wrap_u64]; omega
  have e2 : IntKind.u64.wrap ((4294967296 : Int) - (base : Int)) = ((4294967296 - base : Nat) : Int) := by rw [IntKind.wrap_u64]; omega
  have g1 : (base : Int) % 4096 = 0 := by omega
  have g2 : (base : Int).tmod 4096 = 0 := by rw [Int.tmod_eq_emod_of_nonneg (by omega)]; omega
  have g3 : decide ((4294967296 : Int) ≤ (base : Int)) = false := decide_eq_false (by omega)
  have g4 : ((4294967296 - base : Nat) : Int) / 4096 = (((4294967296 - base) / 4096 : Nat) : Int) := by omega
  obtain ⟨Z, hZ⟩ : ∃ Z, Z = (4294967296 - base) / 4096 := ⟨_, rfl⟩
  rw [← hZ] at g4
  have hZl : ln ≤ Z := by omega
  have g5 : decide (Z < ln) = false := decide_eq_false (by omega)
  have g6 : IntKind.u64.wrap (Z : Int) = (Z : Int) := by rw [IntKind.wrap_u64]; omega
  clear hZ
  go_enter Try.func34, Try.ntmps34
  go_wp2_with fail
  refine HRC.out.mono ?_
  rintro e w1 ⟨rfl, hb1⟩
  have HB1 := Lib.hid hb1
  clear hb1 HRC
  go_wp2_with fail
  refine (HTB.out w1 HB1.out).mono ?_
  rintro e w2 ⟨A2, c2, ln2, rfl, hts⟩
  obtain rfl : ln = ln2 := by rw [HLL.out]; exact hts.2.1.symm
  have HRS : Hid (RS w w2 A2 ln c2 L (List.replicate L.length Pg.zero512)) := Lib.hid (by
    have h := RS.of_ts hts
    exact ⟨own_mono h.1 HB1.out.size, h.2.1, h.2.2.1, h.2.2.2.1, HB1.out.trans (h.2.2.2.2.mono HB1.out.size)⟩)
  obtain ⟨g, rfl, hg1, hg2, hg3, hg4⟩ := HRS.out.form hpos
  have HGW := Lib.hid hg1
  clear hts HB1 HTB e1 e2 g1 g2 g3 g4 g5 g6 hZl hg1 hg2
  go_wp2_with fail
  go_loopw [9] (fun i wr => ∃ (k : Nat) (all : List (List Nat)), 1 ≤ k ∧ k ≤ ln ∧ i = .int .i64 k ∧ Hid (RS w wr (some ⟨g, 0, none⟩) ln c2 L all ∧ Pg.Ptrs base L k all)) (fun i _ => ln - (intOf i).toNat)
  case atStart => exact ⟨1, _, by omega, by omega, rfl, Lib.hid ⟨HRS.out, Pg.Ptrs.init HWT.out.good⟩⟩
  case round =>
    clear HRS
    obtain ⟨k, all, hk1, hk, rfl, HT⟩ := hrel
    by_cases hkn : k < ln
    · obtain ⟨s, hs⟩ : ∃ s, L[k]? = some s := ⟨_, List.getElem?_eq_getElem (by have := HLL.out; omega)⟩
      obtain ⟨c0, c1⟩ := HT.out.1.lab hs
      have hgl : g < wr.heap.size := by obtain ⟨g', hA, _, h, _⟩ := HT.out.1.form hpos; injection hA with hA; injection hA with hA; subst hA; exact h
      have h12 : s.1 = 1 ∧ s.2 < 512 ∨ s.1 = 2 ∧ (1, s.2 / 512) ∈ L := by
        rcases HWT.out.up s (List.mem_of_getElem? hs) with h | h | h
        · exact .inl h
        · exact .inr h
        · subst h
          have := Pg.nodup_at HWT.out.good.nd hs HWT.out.good.root
          omega
      have hkk : (k : Int) < (ln : Int) := by omega
      have hk0 : (0 : Int) ≤ (k : Int) := by omega
      obtain ⟨AT, hAT⟩ : ∃ AT, AT = base + k * 4096 := ⟨_, rfl⟩
      have e1 : IntKind.u64.wrap (k : Int) = (k : Int) := by rw [IntKind.wrap_u64]; omega
      have e2 : IntKind.u64.wrap ((k : Int) * 4096) = (k : Int) * 4096 := by rw [IntKind.wrap_u64]; omega
      have e3 : IntKind.u64.wrap ((base : Int) + (k : Int) * 4096) = (AT : Int) := by rw [IntKind.wrap_u64]; omega
      have e3' : (base : Int) + (k : Int) * 4096 = (AT : Int) := by omega
      have e4 : bits .or .u64 (AT : Int) 1 = ((AT + 1 : Nat) : Int) := by
        have h := u64_or_nat AT 1 (by omega) (by decide)
        rw [hAT, or_page hb4, ← hAT] at h
        exact h
      have HPT : Hid (AT + 1 = Pg.ptr base k) := Lib.hid (by rw [hAT, ← or_page hb4, Pg.ptr_of hb4 (by omega)])
      have HS := Lib.hid hs; have HAT := Lib.hid hAT
      obtain ⟨S1, S2⟩ := s
      simp only at h12
      clear hs hAT
      rcases h12 with ⟨h1, h2⟩ | ⟨h1, h2⟩
      · subst h1
        obtain ⟨V, hV⟩ : ∃ V, V = vOf (1, S2) := ⟨_, rfl⟩
        rw [← hV] at c1
        have hV2 : V = S2 * 1073741824 := hV
        have d1 : (V : Int) / 1073741824 = (S2 : Int) := by omega
        have d2 : (V : Int).tdiv 1073741824 = (S2 : Int) := by rw [Int.tdiv_eq_ediv_of_nonneg (by omega)]; exact d1
        have hS0 : (0 : Int) ≤ (S2 : Int) := by omega
        have d7 : IntKind.u64.wrap (S2 : Int) = (S2 : Int) := by rw [IntKind.wrap_u64]; omega
        have hl0 : (0 : Int) < (ln : Int) := by omega
        have hS5 : (S2 : Int) < 512 := by omega
        obtain ⟨⟨u0, o1⟩, o2⟩ := HT.out.1.old (i := 0) (e := S2) (by omega) h2
        rw [show 0 * 514 + 2 + S2 = 2 + S2 by omega] at o1 o2
        have KEEP : Hid (∀ (w' : World) (v : Value), w'.cell? ⟨g, k * 514 + 1, none⟩ = some (.int .u64 (V : Nat)) → (w'.setCell ⟨g, 2 + S2, none⟩ v).cell? ⟨g, k * 514 + 1, none⟩ = some (.int .u64 (V : Nat))) := Lib.hid fun w' v h => (World.cell?_setCell_other _ _ _ _ (by intro h; injection h; omega)).trans h
        clear hV hV2
        go_wp2_with fail
        go_region_held3 (fun w' => w'.cell? ⟨g, k * 514 + 1, none⟩ = some (.int .u64 (V : Nat)))
          (first | exact c1 | exact d9 | exact KEEP.out _ _ (by assumption))
          (first | (go_at_call 60; refine (reach1_any _).mono ?_; rintro en w' ⟨rfl, hbm⟩; have d9 : w'.cell? ⟨g, k * 514 + 1, none⟩ = some (.int .u64 (V : Nat)) := (hbm.cell (p := ⟨g, k * 514 + 1, none⟩) hgl).trans c1; have o3 := (hbm.cell (p := ⟨g, 2 + S2, none⟩) hgl).trans o1; have o4 := (hbm.frozen (p := ⟨g, 2 + S2, none⟩) hgl).trans o2; have hls := hbm.size; have HBM := Lib.hid hbm; clear hbm))
        all_goals
          go_wp2_with fail
          go_roundw
          case measure => simp [intOf]; omega
          case rel =>
            have hbm := ((Below.refl wr.heap.size wr).drew).trans HBM.out
            have h := (HT.out.1.below hbm).store (i := 0) (e := S2) (by omega) h2 (AT + 1)
            rw [show 0 * 514 + 2 + S2 = 2 + S2 by omega] at h
            have h3 := HT.out.2.next HWT.out.good HS.out (.inl ⟨rfl, h2⟩)
            rw [← HPT.out] at h3
            have hp : Pg.par L (1, S2) = 0 := rfl
            rw [hp, show (1, S2).2 % 512 = S2 from Nat.mod_eq_of_lt h2] at h3
            exact ⟨k + 1, _, by omega, by omega, by go_num, Lib.hid ⟨h, h3⟩⟩
      · subst h1
        obtain ⟨V, hV⟩ : ∃ V, V = vOf (2, S2) := ⟨_, rfl⟩
        rw [← hV] at c1
        have hV2 : V = S2 * 2097152 := hV
        have hup := List.idxOf_lt_length_iff.2 h2
        have hS2 : S2 < 262144 := by
          rcases HWT.out.up _ h2 with h | h | h
          · have := h.2; simp only at this; omega
          · exact absurd h.1 (by simp)
          · injection h with h; cases h
        have HFI : Hid (∀ wx, HasR wx (some ⟨g, 0, none⟩) L → Calls Try.prog 61 #[.slice (some ⟨g, 0, none⟩) ln c2, .int .i64 1, .int .u64 (V / 1073741824 * 1073741824 : Nat)] wx fun e w' => e = .returned (.int .i64 (L.idxOf (1, S2 / 512) : Nat)) ∧ w' = wx) := Lib.hid fun wx hx => by
          have h := find_any (some ⟨g, 0, none⟩) ln c2 L (1, S2 / 512) wx hx HLL.out (by omega) h2
          rw [show vOf (1, S2 / 512) = V / 1073741824 * 1073741824 by rw [hV2]; show S2 / 512 * 1073741824 = _; omega] at h
          exact h
        have HPAR : Hid (Pg.par L (2, S2) = L.idxOf (1, S2 / 512)) := Lib.hid rfl
        obtain ⟨V1, hV1⟩ : ∃ V1, V1 = V / 1073741824 * 1073741824 := ⟨_, rfl⟩
        have d1 : bits .andNot .u64 (V : Int) 1073741823 = (V1 : Int) := by rw [hV1]; exact andn_b1 V (by omega)
        have d2 : IntKind.u64.wrap 1073741823 = 1073741823 := by decide
        have d3 : (V : Int) / 2097152 = (S2 : Int) := by omega
        have d4 : (V : Int).tdiv 2097152 = (S2 : Int) := by rw [Int.tdiv_eq_ediv_of_nonneg (by omega)]; exact d3
        rw [← hV1] at HFI
        obtain ⟨E5, hE5⟩ : ∃ E5, E5 = S2 % 512 := ⟨_, rfl⟩
        have d5 : (S2 : Int) % 512 = (E5 : Int) := by omega
        have d7 : IntKind.u64.wrap (S2 : Int) = (S2 : Int) := by rw [IntKind.wrap_u64]; omega
        have d8 : IntKind.u64.wrap (E5 : Int) = (E5 : Int) := by rw [IntKind.wrap_u64]; omega
        have d6 : (S2 : Int).tmod 512 = (E5 : Int) := by rw [Int.tmod_eq_emod_of_nonneg (by omega)]; exact d5
        have hE0 : (0 : Int) ≤ (E5 : Int) := by omega
        have hE1 : (E5 : Int) < 512 := by omega
        have hE2 : E5 < 512 := by omega
        obtain ⟨UP, hUP⟩ : ∃ UP, UP = L.idxOf (1, S2 / 512) := ⟨_, rfl⟩
        rw [← hUP] at HFI HPAR hup
        rw [← HLL.out] at hup
        have hup0 : (0 : Int) ≤ (UP : Int) := by omega
        have hup1 : (UP : Int) < (ln : Int) := by omega
        have HH2 := Lib.hid h2
        have HE5 := Lib.hid hE5
        have HV := Lib.hid hV
        clear hV hV2 hV1 hE5 hUP h2
        have HHR := Lib.hid HT.out.1.has
        go_upto_region 15 with fail
        go_cut [11] (fun x wx => x = .int .i64 (UP : Nat) ∧ Hid (Below wr.heap.size wr wx))
        case first =>
          go_region_held3 (fun w' => w'.cell? ⟨g, k * 514 + 1, none⟩ = some (.int .u64 (V : Nat)))
            (first | exact c1 | exact d9)
            (first | (go_at_call 60; refine (reach1_any _).mono ?_; rintro en w' ⟨rfl, hbm⟩; have d9 : w'.cell? ⟨g, k * 514 + 1, none⟩ = some (.int .u64 (V : Nat)) := (hbm.cell (p := ⟨g, k * 514 + 1, none⟩) hgl).trans c1; have HBM : Hid (Below wr.heap.size wr w') := Lib.hid (((Below.refl wr.heap.size wr).drew).trans hbm); clear hbm) | (go_at_call 61; refine (HFI.out _ (HHR.out.below HBM.out)).mono ?_; rintro e wb ⟨rfl, rfl⟩))
          all_goals
            go_wp2_with fail
            go_meet
            case rel => exact ⟨rfl, HBM⟩
        case rest =>
          obtain ⟨rfl, HBC⟩ := hcut
          have HTC := Lib.hid (HT.out.1.below HBC.out)
          obtain ⟨c0', c1'⟩ := HTC.out.lab HS.out
          rw [← HV.out] at c1'
          obtain ⟨⟨u0, o1⟩, o2⟩ := HTC.out.old (i := UP) (e := E5) (by omega) hE2
          have hgc : g < wc.heap.size := Nat.lt_of_lt_of_le hgl HBC.out.size
          have KEEP : Hid (∀ (w' : World) (v : Value), w'.cell? ⟨g, k * 514 + 1, none⟩ = some (.int .u64 (V : Nat)) → (w'.setCell ⟨g, UP * 514 + 2 + E5, none⟩ v).cell? ⟨g, k * 514 + 1, none⟩ = some (.int .u64 (V : Nat))) := Lib.hid fun w' v h => (World.cell?_setCell_other _ _ _ _ (by intro h; injection h; omega)).trans h
          clear c0 c1 c0' HFI HHR d1 d2 hgl
          go_wp2_with fail
          go_region_held3 (fun w' => w'.cell? ⟨g, k * 514 + 1, none⟩ = some (.int .u64 (V : Nat)))
            (first | exact c1' | exact d9 | exact KEEP.out _ _ (by assumption))
            (first | (go_at_call 60; refine (reach2_any _).mono ?_; rintro en w' ⟨rfl, hbm⟩; have d9 : w'.cell? ⟨g, k * 514 + 1, none⟩ = some (.int .u64 (V : Nat)) := (hbm.cell (p := ⟨g, k * 514 + 1, none⟩) hgc).trans c1'; have o3 := (hbm.cell (p := ⟨g, UP * 514 + 2 + E5, none⟩) hgc).trans o1; have o4 := (hbm.frozen (p := ⟨g, UP * 514 + 2 + E5, none⟩) hgc).trans o2; have hls := hbm.size; have HBM := Lib.hid hbm; clear hbm))
          all_goals
            go_wp2_with fail
            go_roundw
            case measure => simp [intOf]; omega
            case rel =>
              have hbm := ((Below.refl wc.heap.size wc).drew).trans HBM.out
              have h := (HTC.out.below hbm).store (i := UP) (e := E5) (by omega) hE2 (AT + 1)
              have h3 := HT.out.2.next HWT.out.good HS.out (.inr ⟨rfl, HH2.out⟩)
              rw [← HPT.out, HPAR.out, show (2, S2).2 % 512 = E5 from HE5.out.symm] at h3
              exact ⟨k + 1, _, by omega, by omega, by go_num, Lib.hid ⟨h, h3⟩⟩
    · have HT0 : Hid (RS w wr (some ⟨g, 0, none⟩) ln c2 L all ∧ Pg.Rep base L [] all) := Lib.hid ⟨HT.out.1, by
        have h := HT.out.2
        rw [show k = L.length by have := HLL.out; omega] at h
        exact h.rep⟩
      clear HT
      go_wp2_with fail
      go_loopw [12] (fun i wx => ∃ (k : Nat) (all : List (List Nat)), k ≤ n ∧ i = .int .i64 k ∧ Hid (RS w wx (some ⟨g, 0, none⟩) ln c2 L all ∧ Pg.Rep base L (Pg.pagesOf (rows.take k)) all)) (fun i _ => n - (intOf i).toNat)
      case atStart => exact ⟨0, all, by omega, rfl, Lib.hid ⟨HT0.out.1, by have h := HT0.out.2; simpa [Pg.pagesOf] using h⟩⟩
      case round =>
        clear HT0 hkn hk hk1
        obtain ⟨k, all, hk, rfl, HT⟩ := hrel
        by_cases hkn : k < n
        · obtain ⟨hA, hbB, hc⟩ := HF.out (by omega)
          subst hA
          obtain ⟨r, hrk⟩ : ∃ r, rows[k]? = some r := ⟨_, List.getElem?_eq_getElem (by have := HLN.out; omega)⟩
          have hIn := HIN.out r (List.mem_of_getElem? hrk)
          have hOk := HOK.out r (List.mem_of_getElem? hrk)
          have htk : rows.take (k + 1) = rows.take k ++ [r] := by rw [List.take_add_one, hrk]; rfl
          have hpg : Pg.pagesOf (rows.take (k + 1)) = Pg.pagesOf (rows.take k) ++ r.pages := by rw [htk]; unfold Pg.pagesOf; rw [List.flatMap_append, List.flatMap_cons, List.flatMap_nil, List.append_nil]
          have hpr : ∀ q ∈ r.pages, q ∈ Pg.pagesOf rows := fun q hq => List.mem_flatMap.2 ⟨r, List.mem_of_getElem? hrk, hq⟩
          have hpx : ∀ j, j < r.cnt → Pg.Chain (Pg.pagesOf (rows.take k) ++ r.pages.take j ++ [r.page j]) := by
            intro j hj
            have h := HCH.out
            have he : Pg.pagesOf rows = (Pg.pagesOf (rows.take k) ++ r.pages.take j ++ [r.page j]) ++ (r.pages.drop (j + 1) ++ Pg.pagesOf (rows.drop (k + 1))) := by
              conv => lhs; rw [← List.take_append_drop k rows]
              rw [Pg.pagesOf_append, Pg.pagesOf_drop hrk]
              conv => lhs; rw [← List.take_append_drop j r.pages, Pg.pages_drop hj]
              simp only [List.append_assoc, List.cons_append, List.nil_append]
            rw [he] at h
            exact ⟨(List.pairwise_append.1 h.1).1, fun q hq => h.2 q (List.mem_append.2 (.inl hq))⟩
          have HBL := HT.out.1.2.2.2.2
          have c0 := (HBL.cell (p := ⟨b, off + k * 6, none⟩) hbB).trans (hc k r hrk 0 _ rfl)
          have c1 := (HBL.cell (p := ⟨b, off + k * 6 + 1, none⟩) hbB).trans (hc k r hrk 1 _ rfl)
          have c2' := (HBL.cell (p := ⟨b, off + k * 6 + 2, none⟩) hbB).trans (hc k r hrk 2 _ rfl)
          have c3 := (HBL.cell (p := ⟨b, off + k * 6 + 3, none⟩) hbB).trans (hc k r hrk 3 _ rfl)
          have c4 := (HBL.cell (p := ⟨b, off + k * 6 + 4, none⟩) hbB).trans (hc k r hrk 4 _ rfl)
          have c5 := (HBL.cell (p := ⟨b, off + k * 6 + 5, none⟩) hbB).trans (hc k r hrk 5 _ rfl)
          have hn1 := hOk.n1
          obtain ⟨v, p, m, bg, wt, ex⟩ := r
          simp only at hn1
          obtain ⟨N, rfl⟩ : ∃ N : Nat, m = N := ⟨m.toNat, by omega⟩
          have hvl : v + N * 4096 ≤ 549755813888 := by have := hOk.vl; simpa using this
          have hpl : p + N * 4096 ≤ 4294967296 := by have := hOk.pl; simpa using this
          have hkk : (k : Int) < (n : Int) := by omega
          have hk0 : (0 : Int) ≤ (k : Int) := by omega
          have HPG := Lib.hid hpg; have HPR := Lib.hid hpr; have HPX := Lib.hid hpx; have HOK1 := Lib.hid hOk
          have hrow := Row.new wr 47 (lcells ⟨v, p, N, bg, wt, ex⟩)
          have hba : Below wr.heap.size wr (wr.alloc (.cells (lcells ⟨v, p, N, bg, wt, ex⟩).toArray 47)) := (Below.refl _ _).alloc (Nat.le_refl _) _
          unfold lcells at hrow hba
          simp only [] at hrow hba
          clear hrk hIn hOk htk hpg hpr hpx hc HBL hn1
          go_upto_region 21 with fail
          obtain ⟨w3, hw3⟩ : ∃ w3, w3 = wr.alloc (.cells #[.int .u64 (v : Nat), .int .u64 (p : Nat), .int .i64 (N : Nat), .bool bg, .bool wt, .bool ex] 47) := ⟨_, rfl⟩
          obtain ⟨gx, hgx⟩ : ∃ gx, gx = wr.heap.size := ⟨_, rfl⟩
          rw [← hw3] at hrow hba ⊢
          rw [← hgx] at hrow ⊢
          have HRS3 : Hid (RS w w3 (some ⟨g, 0, none⟩) ln c2 L all ∧ Pg.Rep base L (Pg.pagesOf (rows.take k)) all) := Lib.hid ⟨HT.out.1.below hba, HT.out.2⟩
          have HROW := Lib.hid hrow
          have d4 := hrow.cell 4
          have d5 := hrow.cell 5
          simp only [List.getElem?_cons_zero, List.getElem?_cons_succ] at d4 d5
          have hgx3 := hrow.lt
          clear hrow hba hw3 hgx c0 c1 c2' c3 c4 c5 HT
          obtain ⟨F1, hF1⟩ : ∃ F1 : Nat, F1 = 1 + (if wt then 2 else 0) := ⟨_, rfl⟩
          obtain ⟨F2, hF2⟩ : ∃ F2 : Nat, F2 = F1 + (if ex then 4 else 0) := ⟨_, rfl⟩
          have hF1l : F1 ≤ 3 := by rw [hF1]; cases wt <;> decide
          have hF2l : F2 ≤ 7 := by rw [hF2]; cases ex <;> simp <;> omega
          have HF1 := Lib.hid hF1; have HF2 := Lib.hid hF2
          clear hF1 hF2
          go_upto_if 108 with fail
          go_cut [14] (fun x wx => x = .int .u64 (F1 : Nat) ∧ wx = w3)
          case first =>
            cases wt with
            | true =>
              obtain rfl : F1 = 3 := HF1.out
              go_wp2_with fail
              go_meet
              case rel => exact ⟨rfl, rfl⟩
            | false =>
              obtain rfl : F1 = 1 := HF1.out
              go_wp2_with fail
              go_meet
              case rel => exact ⟨rfl, rfl⟩
          case rest =>
          obtain ⟨rfl, hwx⟩ := hcut
          rw [hwx]
          clear hwx
          go_upto_if 112 with fail
          go_cut [14] (fun x wx => x = .int .u64 (F2 : Nat) ∧ wx = w3)
          case first =>
            cases ex with
            | true =>
              obtain rfl : F2 = F1 + 4 := HF2.out
              go_wp2_with fail
              go_meet
              case rel => exact ⟨by go_num, rfl⟩
            | false =>
              obtain rfl : F2 = F1 := HF2.out
              go_wp2_with fail
              go_meet
              case rel => exact ⟨rfl, rfl⟩
          case rest =>
          obtain ⟨rfl, hwx⟩ := hcut
          rw [hwx]
          clear hwx d4 d5
          obtain ⟨U, hU⟩ : ∃ U, U = Pg.Lf.u ⟨v, p, N, bg, wt, ex⟩ := ⟨_, rfl⟩
          obtain ⟨C, hC⟩ : ∃ C, C = Pg.Lf.cnt ⟨v, p, N, bg, wt, ex⟩ := ⟨_, rfl⟩
          obtain ⟨NP, hNP⟩ : ∃ NP, NP = N * 4096 := ⟨_, rfl⟩
          have hCU : C * U = NP := by rw [hC, hU, hNP]; exact HOK1.out.cnt_u
          have hU0 : 0 < U := by rw [hU]; rcases Pg.Lf.u_or ⟨v, p, N, bg, wt, ex⟩ with h | h <;> rw [h] <;> omega
          have hUl : U ≤ 2097152 := by rw [hU]; rcases Pg.Lf.u_or ⟨v, p, N, bg, wt, ex⟩ with h | h <;> rw [h] <;> omega
          rw [← hNP] at hvl hpl
          have e1 : IntKind.u64.wrap (N : Int) = (N : Int) := by rw [IntKind.wrap_u64]; omega
          have e2 : IntKind.u64.wrap ((N : Int) * 4096) = (NP : Int) := by rw [IntKind.wrap_u64]; omega
          have e2' : (N : Int) * 4096 = (NP : Int) := by omega
          have HU := Lib.hid hU; have HC := Lib.hid hC; have HNP := Lib.hid hNP; have HCU := Lib.hid hCU
          clear hU hC hNP hCU
          go_wp2_with fail
          go_loopw [15] (fun x wx => ∃ (j J : Nat) (all : List (List Nat)), j ≤ C ∧ J ≤ NP ∧ x = .int .u64 (J : Nat) ∧ Hid (J = j * U) ∧ Hid (RS w wx (some ⟨g, 0, none⟩) ln c2 L all ∧ Pg.Rep base L (Pg.pagesOf (rows.take k) ++ (Pg.Lf.pages ⟨v, p, N, bg, wt, ex⟩).take j) all ∧ Row wx gx 47 [.int .u64 (v : Nat), .int .u64 (p : Nat), .int .i64 (N : Nat), .bool bg, .bool wt, .bool ex])) (fun x _ => mesU U NP x)
          case atStart => exact ⟨0, 0, all, by omega, by omega, rfl, Lib.hid (by simp), Lib.hid ⟨HRS3.out.1, by rw [List.take_zero, List.append_nil]; exact HRS3.out.2, HROW.out⟩⟩
          case round =>
            clear HRS3 HROW hgx3
            obtain ⟨j, J, all, hj, hJN, rfl, HJ, HT⟩ := hrel
            have hgx3 := HT.out.2.2.lt
            have d0 := HT.out.2.2.cell 0
            have d1 := HT.out.2.2.cell 1
            have d2 := HT.out.2.2.cell 2
            have d3 := HT.out.2.2.cell 3
            have d4 := HT.out.2.2.cell 4
            have d5 := HT.out.2.2.cell 5
            simp only [List.getElem?_cons_zero, List.getElem?_cons_succ] at d0 d1 d2 d3 d4 d5
            by_cases hlt : J < NP
            · have hjC : j < C := by
                rcases Nat.lt_or_ge j C with h | h
                · exact h
                · have h1 := HJ.out; have h2 := HCU.out
                  have : j = C := by omega
                  subst this
                  omega
              have hJU : J + U ≤ NP := by
                have h1 := HJ.out; have h2 := HCU.out
                have : (j + 1) * U ≤ C * U := Nat.mul_le_mul_right _ hjC
                rw [Nat.succ_mul] at this
                omega
              obtain ⟨V, hV⟩ : ∃ V, V = v + J := ⟨_, rfl⟩
              obtain ⟨P, hP⟩ : ∃ P, P = p + J := ⟨_, rfl⟩
              have hjc : j < Pg.Lf.cnt ⟨v, p, N, bg, wt, ex⟩ := by rw [← HC.out]; exact hjC
              have hq : Pg.Lf.page ⟨v, p, N, bg, wt, ex⟩ j = ⟨V, P, bg, wt, ex⟩ := by
                rw [hV, hP, HJ.out, HU.out]; rfl
              have hqm : (⟨V, P, bg, wt, ex⟩ : Pg.Pge) ∈ Pg.pagesOf rows := HPR.out _ (by rw [← hq]; exact List.mem_map.2 ⟨j, List.mem_range.2 hjc, rfl⟩)
              have hqc : Pg.Chain (Pg.pagesOf (rows.take k) ++ (Pg.Lf.pages ⟨v, p, N, bg, wt, ex⟩).take j ++ [⟨V, P, bg, wt, ex⟩]) := by rw [← hq]; exact HPX.out j hjc
              have hqt : Pg.pagesOf (rows.take k) ++ (Pg.Lf.pages ⟨v, p, N, bg, wt, ex⟩).take (j + 1) = Pg.pagesOf (rows.take k) ++ (Pg.Lf.pages ⟨v, p, N, bg, wt, ex⟩).take j ++ [⟨V, P, bg, wt, ex⟩] := by rw [Pg.pages_take hjc, hq, List.append_assoc]
              have hP4 : P % 4096 = 0 := by
                have h := (HCH.out.2 _ hqm).pa
                rcases Pg.Pge.u_or ⟨V, P, bg, wt, ex⟩ with ⟨h1, _⟩ | ⟨h1, _⟩ <;> rw [h1] at h <;> simp only at h <;> omega
              have hV2 : V < 549755813888 := by omega
              have hP2 : P < 4294967296 := by omega
              have f1 : decide (J < NP) = true := decide_eq_true hlt
              have e3 : IntKind.u64.wrap ((v : Int) + (J : Int)) = (V : Int) := by rw [IntKind.wrap_u64]; omega
              have e3' : (v : Int) + (J : Int) = (V : Int) := by omega
              have e4 : IntKind.u64.wrap ((p : Int) + (J : Int)) = (P : Int) := by rw [IntKind.wrap_u64]; omega
              have e4' : (p : Int) + (J : Int) = (P : Int) := by omega
              have e4w : IntKind.u64.wrap (P : Int) = (P : Int) := by rw [IntKind.wrap_u64]; omega
              have e3w : IntKind.u64.wrap (V : Int) = (V : Int) := by rw [IntKind.wrap_u64]; omega
              have e5 : IntKind.u64.wrap ((J : Int) + (U : Int)) = (J : Int) + (U : Int) := by rw [IntKind.wrap_u64]; omega
              have HLT := Lib.hid hlt; have HQC := Lib.hid hqc; have HQT := Lib.hid hqt; have HQM := Lib.hid hqm
              clear hlt hqc hqt hq hV hP
              cases bg with
              | true =>
                have hmem : (1, V / 1073741824) ∈ L := (HWT.out.big _ hqm rfl).1
                have hup := List.idxOf_lt_length_iff.2 hmem
                rw [← HLL.out] at hup
                obtain ⟨V1, hV1⟩ : ∃ V1, V1 = V / 1073741824 * 1073741824 := ⟨_, rfl⟩
                have HFI : Hid (∀ wx, HasR wx (some ⟨g, 0, none⟩) L → Calls Try.prog 61 #[.slice (some ⟨g, 0, none⟩) ln c2, .int .i64 1, .int .u64 (V1 : Nat)] wx fun e w' => e = .returned (.int .i64 (L.idxOf (1, V / 1073741824) : Nat)) ∧ w' = wx) := Lib.hid fun wx hx => by
                  have h := find_any (some ⟨g, 0, none⟩) ln c2 L (1, V / 1073741824) wx hx HLL.out (by omega) hmem
                  rw [show vOf (1, V / 1073741824) = V1 from hV1.symm] at h
                  exact h
                have m1 : bits .andNot .u64 (V : Int) 1073741823 = (V1 : Int) := by rw [hV1]; exact andn_b1 V (by omega)
                have m2 : IntKind.u64.wrap 1073741823 = 1073741823 := by decide
                obtain ⟨M, hM⟩ : ∃ M, M = V / 2097152 := ⟨_, rfl⟩
                have m3 : (V : Int) / 2097152 = (M : Int) := by omega
                have m4 : (V : Int).tdiv 2097152 = (M : Int) := by rw [Int.tdiv_eq_ediv_of_nonneg (by omega)]; exact m3
                obtain ⟨E5, hE5⟩ : ∃ E5, E5 = M % 512 := ⟨_, rfl⟩
                have m5 : (M : Int) % 512 = (E5 : Int) := by omega
                have m6 : (M : Int).tmod 512 = (E5 : Int) := by rw [Int.tmod_eq_emod_of_nonneg (by omega)]; exact m5
                have m7 : IntKind.u64.wrap (M : Int) = (M : Int) := by rw [IntKind.wrap_u64]; omega
                have m8 : IntKind.u64.wrap (E5 : Int) = (E5 : Int) := by rw [IntKind.wrap_u64]; omega
                have hE0 : (0 : Int) ≤ (E5 : Int) := by omega
                have hE1 : (E5 : Int) < 512 := by omega
                have hE2 : E5 < 512 := by omega
                obtain ⟨UP, hUP⟩ : ∃ UP, UP = L.idxOf (1, V / 1073741824) := ⟨_, rfl⟩
                rw [← hUP] at HFI hup
                have hup0 : (0 : Int) ≤ (UP : Int) := by omega
                have hup1 : (UP : Int) < (ln : Int) := by omega
                obtain ⟨X1, hX1⟩ : ∃ X1, X1 = P ||| F2 := ⟨_, rfl⟩
                have n1 : bits .or .u64 (P : Int) (F2 : Int) = (X1 : Int) := by rw [hX1]; exact u64_or_nat P F2 (by omega) (by omega)
                have hX1l : X1 < 18446744073709551616 := by rw [hX1, Pg.or_add hP4 (by omega)]; omega
                obtain ⟨X, hX⟩ : ∃ X, X = X1 ||| 8 := ⟨_, rfl⟩
                have n2 : bits .or .u64 (X1 : Int) 8 = (X : Int) := by rw [hX]; exact u64_or_nat X1 8 hX1l (by decide)
                have HXN : Hid (X = Pg.Pge.num ⟨V, P, true, wt, ex⟩) := Lib.hid (by
                  have h := or_flags hP4 (show F2 < 8 by omega) true
                  simp only [if_true] at h
                  rw [hX, hX1, h, HF2.out, HF1.out]
                  unfold Pg.Pge.num
                  simp only [if_true])
                have HPE : Hid (Pg.pOf L ⟨V, P, true, wt, ex⟩ = UP ∧ Pg.eOf ⟨V, P, true, wt, ex⟩ = E5) := Lib.hid ⟨hUP.symm, by rw [hE5, hM]; rfl⟩
                obtain ⟨⟨u0, o1⟩, o2⟩ := HT.out.1.old (i := UP) (e := E5) (by omega) hE2
                have hgl : g < wr.heap.size := by obtain ⟨g', hA, _, h, _⟩ := HT.out.1.form hpos; injection hA with hA; injection hA with hA; subst hA; exact h
                have hne : g ≠ gx := by
                  obtain ⟨cur, hblk⟩ := own_blk' HT.out.1.1 g rfl
                  exact fun h => absurd rfl (Blk.ne_ (cs := cur) (cs' := (#[.int .u64 (v : Nat), .int .u64 (p : Nat), .int .i64 (N : Nat), .bool true, .bool wt, .bool ex] : Array Value)) (h ▸ hblk) HT.out.2.2 (by decide))
                have KEEP : Hid (∀ (w' : World) (v' : Value), w'.cell? ⟨gx, 1, none⟩ = some (.int .u64 (p : Nat)) → (w'.setCell ⟨g, UP * 514 + 2 + E5, none⟩ v').cell? ⟨gx, 1, none⟩ = some (.int .u64 (p : Nat))) := Lib.hid fun w' v' h => (World.cell?_setCell_other _ _ _ _ (by intro h; injection h; omega)).trans h
                have HHR := Lib.hid HT.out.1.has
                have HE2 := Lib.hid hE2
                have HNE := Lib.hid hne
                clear hmem hV1 hM hE5 hUP hX1 hX1l hX hE2 hne
                go_wp2_with fail
                go_region_held3 (fun w' => w'.cell? ⟨gx, 1, none⟩ = some (.int .u64 (p : Nat)))
                  (first | exact d1 | exact d9 | exact KEEP.out _ _ (by assumption))
                  (first | (go_at_call 60; refine (reach1_any _).mono ?_; rintro en w' ⟨rfl, hbm⟩; have d9 : w'.cell? ⟨gx, 1, none⟩ = some (.int .u64 (p : Nat)) := (hbm.cell (p := ⟨gx, 1, none⟩) hgx3).trans d1; have o3 := (hbm.cell (p := ⟨g, UP * 514 + 2 + E5, none⟩) hgl).trans o1; have o4 := (hbm.frozen (p := ⟨g, UP * 514 + 2 + E5, none⟩) hgl).trans o2; have hls := hbm.size; have HBM : Hid (Below wr.heap.size wr w') := Lib.hid (((Below.refl wr.heap.size wr).drew).trans hbm); clear hbm) | (go_at_call 61; refine (HFI.out _ (HHR.out.below HBM.out)).mono ?_; rintro e wb ⟨rfl, rfl⟩))
                all_goals
                  have hst := (HT.out.1.below HBM.out).store (i := UP) (e := E5) (by omega) HE2.out X
                  have hrp := Pg.Rep.lay HT.out.2.1 HWT.out HQM.out HQC.out
                  rw [HPE.out.1, HPE.out.2, ← HXN.out, ← HQT.out] at hrp
                  have hro : Row (wb.setCell ⟨g, UP * 514 + 2 + E5, none⟩ (.int .u64 (X : Nat))) gx 47 [.int .u64 (v : Nat), .int .u64 (p : Nat), .int .i64 (N : Nat), .bool true, .bool wt, .bool ex] := (HT.out.2.2.below (HBM.out) HT.out.2.2.lt).far (p := ⟨g, UP * 514 + 2 + E5, none⟩) (fun h => HNE.out h.symm) _
                  have k0 := hro.cell 0
                  have k1 := hro.cell 1
                  have k2 := hro.cell 2
                  have k3 := hro.cell 3
                  have k4 := hro.cell 4
                  have k5 := hro.cell 5
                  simp only [List.getElem?_cons_zero, List.getElem?_cons_succ] at k0 k1 k2 k3 k4 k5
                  have HST := Lib.hid hst; have HRP := Lib.hid hrp; have HRO := Lib.hid hro
                  clear hst hrp hro HBM HT
                  go_wp2_with (go_at_call 49; refine (runit_any ⟨v, p, N, true, wt, ex⟩ _).mono ?_; rintro e w5 ⟨rfl, hb5⟩; rw [← HU.out]; have HB5 := Lib.hid hb5; clear hb5)
                  go_roundw
                  case measure => first | exact mesU_lt hU0 HLT.out | exact mesU_lt' hU0 HLT.out
                  case rel => exact ⟨j + 1, J + U, _, hjC, hJU, by go_num, Lib.hid (by rw [HJ.out, Nat.succ_mul]), Lib.hid ⟨HST.out.below HB5.out, HRP.out, HRO.out.below HB5.out HRO.out.lt⟩⟩
              | false =>
                have hmem : (2, V / 2097152) ∈ L := HWT.out.small _ hqm rfl
                have hup := List.idxOf_lt_length_iff.2 hmem
                rw [← HLL.out] at hup
                obtain ⟨V1, hV1⟩ : ∃ V1, V1 = V / 2097152 * 2097152 := ⟨_, rfl⟩
                have HFI : Hid (∀ wx, HasR wx (some ⟨g, 0, none⟩) L → Calls Try.prog 61 #[.slice (some ⟨g, 0, none⟩) ln c2, .int .i64 2, .int .u64 (V1 : Nat)] wx fun e w' => e = .returned (.int .i64 (L.idxOf (2, V / 2097152) : Nat)) ∧ w' = wx) := Lib.hid fun wx hx => by
                  have h := find_any (some ⟨g, 0, none⟩) ln c2 L (2, V / 2097152) wx hx HLL.out (by omega) hmem
                  rw [show vOf (2, V / 2097152) = V1 from hV1.symm] at h
                  exact h
                have m1 : bits .andNot .u64 (V : Int) 2097151 = (V1 : Int) := by rw [hV1]; exact andn_b2 V (by omega)
                have m2 : IntKind.u64.wrap 2097151 = 2097151 := by decide
                obtain ⟨M, hM⟩ : ∃ M, M = V / 4096 := ⟨_, rfl⟩
                have m3 : (V : Int) / 4096 = (M : Int) := by omega
                have m4 : (V : Int).tdiv 4096 = (M : Int) := by rw [Int.tdiv_eq_ediv_of_nonneg (by omega)]; exact m3
                obtain ⟨E5, hE5⟩ : ∃ E5, E5 = M % 512 := ⟨_, rfl⟩
                have m5 : (M : Int) % 512 = (E5 : Int) := by omega
                have m6 : (M : Int).tmod 512 = (E5 : Int) := by rw [Int.tmod_eq_emod_of_nonneg (by omega)]; exact m5
                have m7 : IntKind.u64.wrap (M : Int) = (M : Int) := by rw [IntKind.wrap_u64]; omega
                have m8 : IntKind.u64.wrap (E5 : Int) = (E5 : Int) := by rw [IntKind.wrap_u64]; omega
                have hE0 : (0 : Int) ≤ (E5 : Int) := by omega
                have hE1 : (E5 : Int) < 512 := by omega
                have hE2 : E5 < 512 := by omega
                obtain ⟨UP, hUP⟩ : ∃ UP, UP = L.idxOf (2, V / 2097152) := ⟨_, rfl⟩
                rw [← hUP] at HFI hup
                have hup0 : (0 : Int) ≤ (UP : Int) := by omega
                have hup1 : (UP : Int) < (ln : Int) := by omega
                obtain ⟨X1, hX1⟩ : ∃ X1, X1 = P ||| F2 := ⟨_, rfl⟩
                have n1 : bits .or .u64 (P : Int) (F2 : Int) = (X1 : Int) := by rw [hX1]; exact u64_or_nat P F2 (by omega) (by omega)
                have hX1l : X1 < 18446744073709551616 := by rw [hX1, Pg.or_add hP4 (by omega)]; omega
                obtain ⟨X, hX⟩ : ∃ X, X = X1 := ⟨_, rfl⟩
                have HXN : Hid (X = Pg.Pge.num ⟨V, P, false, wt, ex⟩) := Lib.hid (by
                  rw [hX, hX1, Pg.or_add hP4 (by omega), HF2.out, HF1.out]
                  unfold Pg.Pge.num
                  simp only [Bool.false_eq_true, if_false, Nat.add_zero])
                rw [← hX] at n1
                have HPE : Hid (Pg.pOf L ⟨V, P, false, wt, ex⟩ = UP ∧ Pg.eOf ⟨V, P, false, wt, ex⟩ = E5) := Lib.hid ⟨hUP.symm, by rw [hE5, hM]; rfl⟩
                obtain ⟨⟨u0, o1⟩, o2⟩ := HT.out.1.old (i := UP) (e := E5) (by omega) hE2
                have hgl : g < wr.heap.size := by obtain ⟨g', hA, _, h, _⟩ := HT.out.1.form hpos; injection hA with hA; injection hA with hA; subst hA; exact h
                have hne : g ≠ gx := by
                  obtain ⟨cur, hblk⟩ := own_blk' HT.out.1.1 g rfl
                  exact fun h => absurd rfl (Blk.ne_ (cs := cur) (cs' := (#[.int .u64 (v : Nat), .int .u64 (p : Nat), .int .i64 (N : Nat), .bool false, .bool wt, .bool ex] : Array Value)) (h ▸ hblk) HT.out.2.2 (by decide))
                have KEEP : Hid (∀ (w' : World) (v' : Value), w'.cell? ⟨gx, 1, none⟩ = some (.int .u64 (p : Nat)) → (w'.setCell ⟨g, UP * 514 + 2 + E5, none⟩ v').cell? ⟨gx, 1, none⟩ = some (.int .u64 (p : Nat))) := Lib.hid fun w' v' h => (World.cell?_setCell_other _ _ _ _ (by intro h; injection h; omega)).trans h
                have HHR := Lib.hid HT.out.1.has
                have HE2 := Lib.hid hE2
                have HNE := Lib.hid hne
                clear hmem hV1 hM hE5 hUP hX1 hX1l hX hE2 hne
                go_wp2_with fail
                go_region_held3 (fun w' => w'.cell? ⟨gx, 1, none⟩ = some (.int .u64 (p : Nat)))
                  (first | exact d1 | exact d9 | exact KEEP.out _ _ (by assumption))
                  (first | (go_at_call 60; refine (reach2_any _).mono ?_; rintro en w' ⟨rfl, hbm⟩; have d9 : w'.cell? ⟨gx, 1, none⟩ = some (.int .u64 (p : Nat)) := (hbm.cell (p := ⟨gx, 1, none⟩) hgx3).trans d1; have o3 := (hbm.cell (p := ⟨g, UP * 514 + 2 + E5, none⟩) hgl).trans o1; have o4 := (hbm.frozen (p := ⟨g, UP * 514 + 2 + E5, none⟩) hgl).trans o2; have hls := hbm.size; have HBM : Hid (Below wr.heap.size wr w') := Lib.hid (((Below.refl wr.heap.size wr).drew).trans hbm); clear hbm) | (go_at_call 61; refine (HFI.out _ (HHR.out.below HBM.out)).mono ?_; rintro e wb ⟨rfl, rfl⟩))
                all_goals
                  have hst := (HT.out.1.below HBM.out).store (i := UP) (e := E5) (by omega) HE2.out X
                  have hrp := Pg.Rep.lay HT.out.2.1 HWT.out HQM.out HQC.out
                  rw [HPE.out.1, HPE.out.2, ← HXN.out, ← HQT.out] at hrp
                  have hro : Row (wb.setCell ⟨g, UP * 514 + 2 + E5, none⟩ (.int .u64 (X : Nat))) gx 47 [.int .u64 (v : Nat), .int .u64 (p : Nat), .int .i64 (N : Nat), .bool false, .bool wt, .bool ex] := (HT.out.2.2.below (HBM.out) HT.out.2.2.lt).far (p := ⟨g, UP * 514 + 2 + E5, none⟩) (fun h => HNE.out h.symm) _
                  have k0 := hro.cell 0
                  have k1 := hro.cell 1
                  have k2 := hro.cell 2
                  have k3 := hro.cell 3
                  have k4 := hro.cell 4
                  have k5 := hro.cell 5
                  simp only [List.getElem?_cons_zero, List.getElem?_cons_succ] at k0 k1 k2 k3 k4 k5
                  have HST := Lib.hid hst; have HRP := Lib.hid hrp; have HRO := Lib.hid hro
                  clear hst hrp hro HBM HT
                  go_wp2_with (go_at_call 49; refine (runit_any ⟨v, p, N, false, wt, ex⟩ _).mono ?_; rintro e w5 ⟨rfl, hb5⟩; rw [← HU.out]; have HB5 := Lib.hid hb5; clear hb5)
                  go_roundw
                  case measure => first | exact mesU_lt hU0 HLT.out | exact mesU_lt' hU0 HLT.out
                  case rel => exact ⟨j + 1, J + U, _, hjC, hJU, by go_num, Lib.hid (by rw [HJ.out, Nat.succ_mul]), Lib.hid ⟨HST.out.below HB5.out, HRP.out, HRO.out.below HB5.out HRO.out.lt⟩⟩
            · have HK : Hid (j = C) := Lib.hid (by
                have h1 := HJ.out; have h2 := HCU.out
                rcases Nat.lt_or_ge j C with h | h
                · have : (j + 1) * U ≤ C * U := Nat.mul_le_mul_right _ h
                  rw [Nat.succ_mul] at this
                  omega
                · omega)
              have f1 : decide (J < NP) = false := decide_eq_false hlt
              go_wp2_with fail
              go_roundw
              case measure => simp [intOf]; omega
              case rel =>
                refine ⟨k + 1, all, by omega, by go_num, Lib.hid ⟨HT.out.1, ?_⟩⟩
                have h := HT.out.2.1
                rw [HK.out, HC.out, Pg.pages_all, ← HPG.out] at h
                exact h
        · have HT0 : Hid (RS w wr (some ⟨g, 0, none⟩) ln c2 L all ∧ Pg.Rep base L (Pg.pagesOf rows) all) := Lib.hid ⟨HT.out.1, by
            have h := HT.out.2
            rw [List.take_of_length_le (by have := HLN.out; omega)] at h
            exact h⟩
          have hlall : all.length = ln := by have h := HT.out.1; rw [h.2.2.1]; exact h.2.1.symm
          have HLA := Lib.hid hlall
          have HB0 : Hid (Below w.heap.size w wr) := Lib.hid HT.out.1.2.2.2.2
          clear HT hlall
          obtain ⟨i0, hi0, hz1, hz2, hz3⟩ := info_parts infoTabA
          have hbt := tab_one
          obtain ⟨Z5, hZ5⟩ : ∃ Z5, Z5 = zeros 512 := ⟨_, rfl⟩
          rw [← hZ5] at hz1
          have hz5 : Z5.toArray.size = 512 := by rw [hZ5]; simp [zeros]
          have HZ5 := Lib.hid hz5
          clear hZ5 hz5
          have hinf : (Try.prog.info? 23).map (·.size) = some 512 := by kernel_rfl
          have HI := Lib.hid hi0; have HZ1 := Lib.hid hz1; have HZ2 := Lib.hid hz2; have HZ3 := Lib.hid hz3; have HBT := Lib.hid hbt; have HINF := Lib.hid hinf
          clear hi0 hz1 hz2 hz3 hbt hinf
          go_wp2_with fail
          go_loopw [18, 17] (fun i o wx => ∃ (k : Nat) (A3 : Option Addr) (c3 : Nat), k ≤ ln ∧ i = .int .i64 k ∧ o = .slice A3 k c3 ∧ Hid (wx.ownsRow w.heap.size 24 512 (.slice A3 k c3) k (tcells (all.take k)) ∧ RS w wx (some ⟨g, 0, none⟩) ln c2 L all)) (fun i _ _ => ln - (intOf i).toNat)
          case atStart => exact ⟨0, none, 0, by omega, rfl, rfl, Lib.hid ⟨by rw [List.take_zero]; exact own_nil _ _ _ _, HT0.out.1⟩⟩
          case round =>
            have HRP := Lib.hid HT0.out.2
            clear HT0 hkn hk HB0
            obtain ⟨k, A3, c3, hk, rfl, rfl, HT⟩ := hrel
            by_cases hkn : k < ln
            · have hkk : (k : Int) < (ln : Int) := by omega
              have hk0 : (0 : Int) ≤ (k : Int) := by omega
              obtain ⟨V, hV⟩ : ∃ V, V = (all.getD k []).map u64v := ⟨_, rfl⟩
              have hvl : V.length = 512 := by
                rw [hV, List.length_map]
                refine HT.out.2.2.2.2.1 _ ?_
                rw [List.getD_eq_getElem?_getD, List.getElem?_eq_getElem (show k < all.length by rw [HLA.out]; exact hkn)]
                exact List.getElem_mem _
              have hra : wr.rangeAt g (k * 514 + 2) V := by rw [hV]; exact HT.out.2.row hkn
              have hv1 : ∀ u ∈ V, u.oneCell' = true := by
                intro u hu
                rw [hV] at hu
                obtain ⟨x, _, rfl⟩ := List.mem_map.1 hu
                rfl
              have htk : tcells (all.take (k + 1)) = tcells (all.take k) ++ V := by
                have hka : k < all.length := by rw [HLA.out]; exact hkn
                rw [List.take_succ_eq_append_getElem hka]
                unfold tcells
                rw [List.flatMap_append, List.flatMap_cons, List.flatMap_nil, List.append_nil, hV, List.getD_eq_getElem?_getD, List.getElem?_eq_getElem hka]
                rfl
              have HVL := Lib.hid hvl; have HRA := Lib.hid hra; have HV1 := Lib.hid hv1; have HTK := Lib.hid htk
              clear hvl hra hv1 htk hV
              have HRD : Hid (∀ wx : World, Reads (wx.alloc (.cells V.toArray 24)) (wx.alloc (.cells V.toArray 24)).heap.size 512 (some ⟨wx.heap.size, 0, none⟩) 1 V) := Lib.hid (by
                intro wx
                have h := (Row.new wx 24 V)
                refine ⟨by rw [HVL.out], fun _ => ⟨_, rfl, h.lt, fun j u hu => ?_⟩⟩
                rw [Addr.add_mid, Nat.zero_add, h.cell, hu])
              have hws : w.heap.size ≤ wr.heap.size := HT.out.2.2.2.2.2.size
              go_wp2_with (first | (refine wpList_load_midw (by rfl) _ _ rfl _ _ (by rfl) V (.array 512 22) HRA.out Try.underlying23 rfl (by rw [HINF.out, HVL.out]) ?_) | (refine wpList_built (V := .agg V.toArray) (by rfl) 42 (.tmp 181) rfl (by rfl) (HBT.out V HVL.out _) ?_) | (at_builtin; refine wpList_append_sl _ (by rfl) (.tmp 176) (.tmp 182) 42 rfl w.heap.size 24 i0 _ 512 4096 Try.underlying42 HI.out HZ1.out HZ2.out HZ3.out HZ5.out (by omega) (.slice A3 k c3) k (tcells (all.take k)) rfl (HT.out.1.alloc _) _ (some ⟨wr.heap.size, 0, none⟩) 1 1 V rfl (HRD.out _) HV1.out (by unfold maxLen; omega) (by omega) (by simp; omega) ?_; intro A1 c1' w4 hown1 hrd1 hg1 hat1; have HOWN1 := Lib.hid hown1; have HG1 := Lib.hid hg1; clear hown1 hrd1 hg1 hat1))
              go_roundw
              case measure => simp [intOf]; omega
              case rel =>
                refine ⟨k + 1, A1, c1', by omega, by go_num, by go_num, Lib.hid ⟨by rw [HTK.out]; exact HOWN1.out, ?_⟩⟩
                have h1 := HT.out.2.below ((Below.refl wr.heap.size wr).alloc (Nat.le_refl _) (.cells V.toArray 24))
                have hne : ∀ x, (Value.slice A3 k c3).ownBlock = some x → x ≠ g := by
                  intro x hx he
                  subst he
                  obtain ⟨cu1, hb1⟩ := own_blk' HT.out.1 x hx
                  obtain ⟨cu2, hb2⟩ := own_blk' HT.out.2.1 x rfl
                  exact absurd rfl (Blk.ne_ hb1 hb2 (by decide))
                refine ⟨?_, h1.2.1, h1.2.2.1, h1.2.2.2.1, h1.2.2.2.2.grown HG1.out (by simp; omega) (fun x hx => (HT.out.1.lt x hx).1)⟩
                exact h1.1.kept HG1.out (.inr fun he => hne g he.symm rfl)
            · have HK : Hid (k = ln) := Lib.hid (by omega)
              have f1 : decide (k < ln) = false := decide_eq_false hkn
              have HOUT : Hid (wr.ownsRow w.heap.size 24 512 (.slice A3 k c3) ln (tcells all)) := Lib.hid (by
                have h := HT.out.1
                rw [HK.out, List.take_of_length_le (by rw [HLA.out]; exact Nat.le_refl _)] at h
                rw [HK.out]
                exact h)
              have HR9 := Lib.hid HT.out.2
              clear HT
              go_wp2_with fail
              go_ret2
              refine ⟨A3, c3, all, by rw [HK.out]; rfl, HRP.out, HLA.out, ?_, HR9.out.2.2.2.1, HR9.out.2.2.2.2⟩
              have h := HOUT.out
              rw [HK.out] at h
              rw [HLA.out]
              exact h
end Go.Proofs.Ytblfagmoilhdnaa
