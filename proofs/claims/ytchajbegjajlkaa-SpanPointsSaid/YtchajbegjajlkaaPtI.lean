/- The walk of the law SpanPoints. -/
import Derived.Test.YtchajbegjajlkaaPtH
set_option linter.unusedVariables false
set_option linter.unusedSimpArgs false
namespace Go.Proofs.Ytchajbegjajlkaa
open Go.RowKit
open S8
set_option maxRecDepth 100000 in
theorem pwithin_any (n : Int) (k : Nat) (w : World) (hn : -9223372036854775808 ≤ n ∧ n ≤ 9223372036854775807) (hk : k ≤ 4611686018427387903) :
    Calls Try.prog 9 #[.int .i64 n, .int .i64 0, .int .i64 k] w fun e w' => (∃ x : Nat, e = .returned (.int .i64 x) ∧ x ≤ k) ∧ w = w' := by
  obtain ⟨r, hr⟩ : ∃ r, r = n.tmod ((k : Int) + 1) := ⟨_, rfl⟩
  have hlo : -((k : Int) + 1) < r := by rw [hr]; exact Int.lt_tmod_of_pos n (by omega)
  have hhi : r < (k : Int) + 1 := by rw [hr]; exact Int.tmod_lt_of_pos n (by omega)
  have hr2 := hr.symm
  have h0 : (((k : Int) + 1) == 0) = false := by simp; omega
  clear hr
  by_cases h : r < 0
  · go_enter Try.func9, Try.ntmps9
    go_wp2_with fail
    go_ret
    exact ⟨⟨(r + (k : Int) + 1).toNat, by simp; omega, by omega⟩, rfl⟩
  · go_enter Try.func9, Try.ntmps9
    go_wp2_with fail
    go_ret
    exact ⟨⟨r.toNat, by simp; omega, by omega⟩, rfl⟩
theorem own_new1 (w : World) (B : Nat) (e : TypeId) (size : Nat) (cs : List Value) (hl : cs.length = size) (hB : B ≤ w.heap.size) : (w.alloc (.cells cs.toArray e)).ownsRow B e size (.slice (some ⟨w.heap.size, 0, none⟩) 1 1) 1 cs := by
  refine ⟨by omega, .inr ⟨w.heap.size, 1, cs.toArray, rfl, hB, heap_alloc_new w _, Nat.le_refl _, by unfold maxLen; omega, by simp [hl], ?_⟩⟩
  rw [List.take_of_length_le (by simp [hl])]
theorem mk_unmark {s out : Sp.S} {a b : Nat} (h : Sp.Mk TOP (fun x y => x && !y) s (S8.one a b) out) : ptV (fun i => Sp.has out i) = ptV (markF (fun i => Sp.has s i) a b false) :=
  ptV_congr fun i hi => by
    rw [h.pts i (by unfold TOP; omega), has_one]
    unfold markF
    by_cases hh : a ≤ i ∧ i ≤ b
    · rw [if_pos hh, decide_eq_true hh]; simp
    · rw [if_neg hh, decide_eq_false hh]; simp
theorem PtC.congr {w wr wx : World} {o : SOp} {s : Sp.S} {f g : Nat → Bool} (h : PtC w wr wx o s f) (e : ptV f = ptV g) : PtC w wr wx o s g := ⟨h.r7, h.r10, h.nrm, by rw [← e]; exact h.r11, h.bel, h.siz⟩
/-- the law's first set stays empty -/
def PtZ (w wx : World) : Prop := Row wx w.heap.size 43 [.slice none 0 0] ∧ Below w.heap.size w wx
theorem PtZ.below {w wx wy : World} (h : PtZ w wx) (hb : Below wx.heap.size wx wy) : PtZ w wy := ⟨h.1.below hb h.1.lt, h.2.trans (hb.mono h.2.size)⟩
/-- the first of the sets, made -/
def PtN (w wx : World) (g : Nat) (e : PtEl) : Prop := PtZ w wx ∧ wx.ownsRow w.heap.size 43 1 (.slice (some ⟨g, 0, none⟩) 1 1) 1 [e.v] ∧ OwnS wx w.heap.size e.A e.n e.c e.s ∧ Sp.Nrm TOP e.s ∧ ptV (markF (fun _ => false) 3 9 true) = e.p
theorem PtN.below {w wx wy : World} {g : Nat} {e : PtEl} (h : PtN w wx g e) (hb : Below wx.heap.size wx wy) : PtN w wy g e :=
  ⟨h.1.below hb, owns_chgr (S := []) h.2.1 (Chg.of_below hb) (fun _ _ h => by cases h), ⟨owns_chgr (S := []) h.2.2.1.1 (Chg.of_below hb) (fun _ _ h => by cases h), h.2.2.1.2⟩, h.2.2.2⟩
set_option maxRecDepth 100000 in
set_option maxHeartbeats 16000000 in
theorem spanpoints_walk (A : Option Addr) (n c : Nat) (os : List SOp) (w : World) (ho : IsSO w A n os) :
    Calls Try.prog 5 #[.slice A n c] w fun e w' => e = .returned (.bool true) ∧ Below w.heap.size w w' := by
  obtain ⟨hz, hsz⟩ := zero_of_info infoPt
  have HSZ := Lib.hid hsz
  have HO := Lib.hid ho
  have hn63 := ho.2.1
  obtain ⟨Z, hZ⟩ : ∃ Z, Z = ptV (fun _ => false) := ⟨_, rfl⟩
  rw [← hZ] at hz
  have HZ := Lib.hid hZ
  have HZL : Hid (Z.length = 256) := Lib.hid (by rw [hZ, ptV_len])
  have r0 := Row.new w 43 [.slice none 0 0]
  have hb0 : Below w.heap.size w (w.alloc (.cells #[.slice none 0 0] 43)) := (Below.refl _ _).alloc (Nat.le_refl _) _
  have HP0 : Hid (PtZ w (w.alloc (.cells #[.slice none 0 0] 43))) := Lib.hid ⟨r0, hb0⟩
  clear ho hZ hsz r0 hb0
  go_enter Try.func5, Try.ntmps5
  go_upto_region 2 with fail
  generalize w.alloc (.cells #[.slice none 0 0] 43) = w1 at *
  have HPR : Hid (∀ wx : World, Calls Try.prog 16 #[.int .u64 3, .int .u64 9] wx fun e w' => e = .returned (.agg #[.int .u8 3, .int .u8 9]) ∧ Below wx.heap.size wx w') := Lib.hid (fun wx => pair_any 3 9 wx (by decide) (by decide))
  have HWI : Hid (∀ wx : World, PtZ w wx → Calls Try.prog 15 #[.agg #[.slice none 0 0], .agg #[.int .u8 3, .int .u8 9]] wx fun e w' => ∃ A' n' c' out, e = .returned (.agg #[.slice A' n' c']) ∧ Sp.Mk TOP (fun x y => x || y) [] (S8.one 3 9) out ∧ PtZ w w' ∧ OwnS w' w.heap.size A' n' c' out) := Lib.hid (fun wx hI => by
    refine (with_any none 0 0 3 9 [] wx (IsSet.nil wx) (by decide) (by decide) (by omega)).mono fun e w' hh => ?_
    obtain ⟨A', n', c', out, he, ho, hmk, hb'⟩ := hh
    exact ⟨A', n', c', out, he, hmk, hI.below hb', own_monor ho.1 hI.2.size, ho.2⟩)
  go_cut [4] (fun x wx => ∃ g e, x = .slice (some ⟨g, 0, none⟩) 1 1 ∧ Hid (PtN w wx g e))
  case first =>
    as_aux_lemma =>
    have q0 := HP0.out.1.cell 0
    have q1 := HP0.out.1.lt
    go_region_law (first
      | (go_simp; go_at_call 16; refine (HPR.out _).mono ?_; rintro e w2 ⟨rfl, hb2⟩; have HI2 : Hid (PtZ w w2) := Lib.hid ((HP0.out.below (Below.refl _ _).drew).below hb2); have p1 := HI2.out.1.cell 0; have p2 := HI2.out.1.lt; clear hb2)
      | (go_simp; go_at_call 15; refine (HWI.out _ HI2.out).mono ?_; rintro e w3 ⟨A3, n3, c3, out, rfl, hmk, hi3, hi4⟩; have HS := Lib.hid (And.intro hmk (And.intro hi3 hi4)); clear hmk hi3 hi4))
    all_goals
      go_wp2_with fail
      go_meet
      case rel =>
        obtain ⟨hmk, hi3, hi4⟩ := HS.out
        refine ⟨w3.heap.size, ⟨A3, n3, c3, out⟩, rfl, Lib.hid ⟨hi3.below ((Below.refl _ _).alloc (Nat.le_refl _) _), own_new1 w3 _ _ 1 [.slice A3 n3 c3] rfl hi3.2.size, ⟨owns_chgr (S := []) hi4.1 (Chg.of_below ((Below.refl _ _).alloc (Nat.le_refl _) _)) (fun _ _ h => by cases h), hi4.2⟩, hmk.nrm, ?_⟩⟩
        exact (mk_mark hmk).symm
  case rest =>
  obtain ⟨g1, e1, rfl, HN1⟩ := hcut
  have hc3 := mark_any (fun _ => false) 3 9 true wc (by decide) (by decide)
  rw [← HZ.out] at hc3
  have HC3 := Lib.hid hc3
  clear hc3 HP0
  go_wp2_with fail
  refine HC3.out.mono ?_
  rintro e w3 ⟨rfl, hb3⟩
  have HN3 := Lib.hid (HN1.out.below hb3)
  obtain ⟨V, hV⟩ : ∃ V, V = ptV (markF (fun _ => false) 3 9 true) := ⟨_, rfl⟩
  have hV' : V = ptV (markF (fun _ => false) (3 % 256) (9 % 256) true) := hV
  rw [← hV']
  have HV := Lib.hid hV
  have HVL : Hid (V.length = 256) := Lib.hid (by rw [hV, ptV_len])
  clear hb3 hV hV' HC3 HN1
  go_upto_region 4 with (refine wpList_bs_pt rfl (.tmp 17) rfl V rfl HVL.out ?_)
  have hN4 := HN3.out.below ((Below.refl _ _).alloc (Nat.le_refl _) (.cells V.toArray 45))
  have hS4 : PtS w (w3.alloc (.cells V.toArray 45)) (some ⟨g1, 0, none⟩) 1 1 [e1] (some ⟨w3.heap.size, 0, none⟩) 1 1 [e1] := by
    refine ⟨hN4.2.1, ?_, fun x hx => ?_, hN4.1.2, rfl, rfl⟩
    · have hVe : ([e1].map PtEl.p).flatten = V := by rw [HV.out, hN4.2.2.2.2]; simp
      rw [hVe]
      exact own_new1 w3 _ _ 256 V HVL.out HN3.out.1.2.size
    · rw [List.mem_singleton.1 hx]
      exact ⟨hN4.2.2.1, hN4.2.2.2.1⟩
  have HN4 := Lib.hid hN4; have HS4 := Lib.hid hS4
  obtain ⟨g2, hg2⟩ : ∃ g2, g2 = w3.heap.size := ⟨_, rfl⟩
  generalize w3.alloc (.cells V.toArray 45) = w4 at *
  rw [← hg2] at HS4 ⊢
  clear hN4 hS4 HN3 hg2
  have HQ : Hid (∀ wx, PtS w wx (some ⟨g1, 0, none⟩) 1 1 [e1] (some ⟨g2, 0, none⟩) 1 1 [e1] ∧ PtZ w wx → wx.cell? ⟨g1, 0, none⟩ = some (.slice e1.A e1.n e1.c) ∧ wx.rangeAt g2 0 V ∧ wx.cell? ⟨w.heap.size, 0, none⟩ = some (.slice none 0 0)) := Lib.hid (fun wx h => by
    obtain ⟨h1, h2, _, _⟩ := h.1.get (k := 0) (e := e1) rfl
    refine ⟨h1, ?_, h.2.1.cell 0⟩
    rw [Nat.zero_mul] at h2
    rw [HV.out, HN4.out.2.2.2.2]
    exact h2)
  have HTO : Hid (∀ wx, PtS w wx (some ⟨g1, 0, none⟩) 1 1 [e1] (some ⟨g2, 0, none⟩) 1 1 [e1] ∧ PtZ w wx → Calls Try.prog 22 #[.agg #[.slice e1.A e1.n e1.c], .agg V.toArray] wx fun e w' => e = .returned (.bool true) ∧ PtS w w' (some ⟨g1, 0, none⟩) 1 1 [e1] (some ⟨g2, 0, none⟩) 1 1 [e1] ∧ PtZ w w') := Lib.hid (fun wx h => by
    obtain ⟨_, _, h3, _⟩ := h.1.get (k := 0) (e := e1) rfl
    rw [HV.out]
    refine (told_any e1.A e1.n e1.c e1.s (markF (fun _ => false) 3 9 true) wx h3 HN4.out.2.2.2.2).mono fun e w' hh => ?_
    exact ⟨hh.1, h.1.below hh.2, h.2.below hh.2⟩)
  have HTZ : Hid (∀ wx, PtS w wx (some ⟨g1, 0, none⟩) 1 1 [e1] (some ⟨g2, 0, none⟩) 1 1 [e1] ∧ PtZ w wx → Calls Try.prog 22 #[.agg #[.slice none 0 0], .agg Z.toArray] wx fun e w' => e = .returned (.bool true) ∧ PtS w w' (some ⟨g1, 0, none⟩) 1 1 [e1] (some ⟨g2, 0, none⟩) 1 1 [e1] ∧ PtZ w w') := Lib.hid (fun wx h => by
    rw [HZ.out]
    refine (told_any none 0 0 [] (fun _ => false) wx (IsSet.nil wx) rfl).mono fun e w' hh => ?_
    exact ⟨hh.1, h.1.below hh.2, h.2.below hh.2⟩)
  have HSD : Hid (PtS w w4.drew (some ⟨g1, 0, none⟩) 1 1 [e1] (some ⟨g2, 0, none⟩) 1 1 [e1] ∧ PtZ w w4.drew) := Lib.hid ⟨HS4.out.below (Below.refl _ _).drew, HN4.out.1.below (Below.refl _ _).drew⟩
  have hu : Try.prog.underlying 45 = some (.array 256 4) := Try.underlying45
  have hvs : (Try.prog.info? 45).map (·.size) = some V.length := by rw [HVL.out]; exact HSZ.out
  go_cut [32] (fun x wx => x = .bool false ∧ Hid (PtS w wx (some ⟨g1, 0, none⟩) 1 1 [e1] (some ⟨g2, 0, none⟩) 1 1 [e1]))
  case first =>
    as_aux_lemma =>
    go_region_held3 (fun w' => w'.cell? ⟨g1, 0, none⟩ = some (.slice e1.A e1.n e1.c) ∧ w'.rangeAt g2 0 V ∧ w'.cell? ⟨w.heap.size, 0, none⟩ = some (.slice none 0 0))
      (first | exact HQ.out _ HSB.out | exact HQ.out _ HSA.out | exact HQ.out _ HSD.out | fail)
      (first
        | (have hq := HSA; clear hq; go_at_call 22; refine (HTZ.out _ HSA.out).mono ?_; rintro e wb ⟨rfl, htb⟩; have HSB := Lib.hid htb; clear htb)
        | (go_at_call 22; refine (HTO.out _ HSD.out).mono ?_; rintro e wa ⟨rfl, hta⟩; have HSA := Lib.hid hta; clear hta)
        | fail)
    all_goals
      go_wp2_with fail
      go_meet
      case rel => exact ⟨rfl, Lib.hid HSB.out.1⟩
  case rest =>
  obtain ⟨rfl, HS5⟩ := hcut
  clear HQ HTO HTZ HSD HN4 HV HVL hvs
  have hCo : (Try.prog.info? 64).isSome = true := by kernel_rfl
  go_wp2_with fail
  go_loopw [4, 5, 6] (fun x y z wr => ∃ (i m : Nat) (A1 A2 : Option Addr) (c1 c2 : Nat) (L : List PtEl), i ≤ 60 ∧ m = i + 1 ∧ x = .slice A1 m c1 ∧ y = .slice A2 m c2 ∧ z = .int .i64 (i : Nat) ∧ Hid (PtS w wr A1 m c1 L A2 m c2 L)) (fun _ _ z _ => 60 - (intOf z).toNat)
  case atStart => exact ⟨0, 1, _, _, 1, 1, [e1], by omega, rfl, rfl, rfl, rfl, HS5⟩
  case round =>
  as_aux_lemma =>
  clear HS5
  obtain ⟨i, m, A1, A2, c1, c2, L, hi, hm, rfl, rfl, rfl, HS⟩ := hrel
  obtain ⟨B, hB⟩ : ∃ B, B = decide (i < n ∧ i < 60) := ⟨_, rfl⟩
  have HBB := Lib.hid hB
  have HM := Lib.hid hm
  clear hm
  go_upto_region 7 with fail
  go_cut [40] (fun x wx => x = .bool B ∧ wr = wx)
  case first =>
    by_cases h1 : i < n
    · have f1 : decide (i < n) = true := decide_eq_true h1
      by_cases h2 : i < 60
      · have f2 : decide ((i : Int) < 60) = true := decide_eq_true (by omega)
        have HBT : Hid (B = true) := Lib.hid (by rw [HBB.out]; exact decide_eq_true ⟨h1, h2⟩)
        clear hB h1 h2
        go_wp2_with fail
        go_meet
        case rel => exact ⟨by rw [HBT.out], rfl⟩
      · have f2 : decide ((i : Int) < 60) = false := decide_eq_false (by omega)
        have HBT : Hid (B = false) := Lib.hid (by rw [HBB.out]; exact decide_eq_false (fun h => h2 h.2))
        clear hB h1 h2
        go_wp2_with fail
        go_meet
        case rel => exact ⟨by rw [HBT.out], rfl⟩
    · have f1 : decide (i < n) = false := decide_eq_false h1
      have HBT : Hid (B = false) := Lib.hid (by rw [HBB.out]; exact decide_eq_false (fun h => h1 h.1))
      clear hB h1
      go_wp2_with fail
      go_meet
      case rel => exact ⟨by rw [HBT.out], rfl⟩
  case rest =>
  obtain ⟨rfl, rfl⟩ := hcut
  cases B with
  | false =>
    clear hB
    go_wp2_with fail
    go_ret
    exact ⟨rfl, HS.out.bel⟩
  | true =>
    obtain ⟨h1, h2⟩ := of_decide_eq_true hB.symm
    have H60 := Lib.hid h2
    clear hB
    obtain ⟨bo, oo, rfl, hbo, hoc⟩ := HO.out.2.2.2 (by omega)
    obtain ⟨o, ho⟩ : ∃ o, os[i]? = some o := ⟨_, List.getElem?_eq_getElem (by have := HO.out.1; omega)⟩
    have hok := HO.out.2.2.1 o (List.mem_of_getElem? ho)
    have hcc := hoc i o ho
    have hbel := HS.out.bel
    have k0 := (hbel.cell (p := ⟨bo, oo + i * 6 + 0, none⟩) hbo).trans (hcc 0 _ rfl)
    have k1 := (hbel.cell (p := ⟨bo, oo + i * 6 + 1, none⟩) hbo).trans (hcc 1 _ rfl)
    have k2 := (hbel.cell (p := ⟨bo, oo + i * 6 + 2, none⟩) hbo).trans (hcc 2 _ rfl)
    have k3 := (hbel.cell (p := ⟨bo, oo + i * 6 + 3, none⟩) hbo).trans (hcc 3 _ rfl)
    have k4 := (hbel.cell (p := ⟨bo, oo + i * 6 + 4, none⟩) hbo).trans (hcc 4 _ rfl)
    have k5 := (hbel.cell (p := ⟨bo, oo + i * 6 + 5, none⟩) hbo).trans (hcc 5 _ rfl)
    rw [Nat.add_zero] at k0
    have kl : bo < wr.heap.size := Nat.lt_of_lt_of_le hbo hbel.size
    have i0 : (0 : Int) ≤ (i : Int) := by omega
    have i9 : (i : Int) < (n : Int) := by omega
    have HOK := Lib.hid hok
    obtain ⟨g1, g2, rfl, rfl, l1, l2⟩ := HS.out.form (by have := HM.out; omega) (by have := HM.out; omega)
    clear h1 h2 hoc ho hcc hok hbel hbo
    obtain ⟨okd, oa, ob, ox, oy, ola, oln, olc, ols⟩ := o
    simp only at k0 k1 k2 k3 k4 k5
    go_upto_region 10 with fail
    have hb7 : Below wr.heap.size wr (wr.alloc (.cells #[.int .i64 okd, .int .i64 oa, .int .i64 ob, .int .u64 (ox : Nat), .int .u64 (oy : Nat), .slice ola oln olc] 64)) := (Below.refl _ _).alloc (Nat.le_refl _) _
    have hr7 := Row.new wr 64 [.int .i64 okd, .int .i64 oa, .int .i64 ob, .int .u64 (ox : Nat), .int .u64 (oy : Nat), .slice ola oln olc]
    have hz7 : (wr.alloc (.cells #[.int .i64 okd, .int .i64 oa, .int .i64 ob, .int .u64 (ox : Nat), .int .u64 (oy : Nat), .slice ola oln olc] 64)).heap.size = wr.heap.size + 1 := by simp
    generalize wr.alloc (.cells #[.int .i64 okd, .int .i64 oa, .int .i64 ob, .int .u64 (ox : Nat), .int .u64 (oy : Nat), .slice ola oln olc] 64) = w7 at *
    have HR7 := Lib.hid hr7; have HB7 := Lib.hid hb7; have HZ7 := Lib.hid hz7
    have q0 := hr7.cell 0
    have q1 := hr7.cell 1
    have q2 := hr7.cell 2
    have q3 := hr7.cell 3
    have q4 := hr7.cell 4
    have ql := hr7.lt
    clear k0 k1 k2 k3 k4 k5 kl i0 i9 hr7 hb7 hz7
    have em : (m : Int) - 1 = (i : Int) := by have := HM.out; omega
    have emw : IntKind.i64.wrap ((m : Int) - 1) = (i : Int) := by rw [IntKind.wrap_i64]; have := HM.out; omega
    go_upto_region 11 with (go_at_call 9; refine (pwithin_any oa i _ HOK.out.2.1 (by omega)).mono ?_; rintro e w' ⟨⟨a, rfl, ha⟩, rfl⟩)
    go_upto_region 12 with (go_at_call 9; refine (pwithin_any ob i _ HOK.out.2.2.1 (by omega)).mono ?_; rintro e w' ⟨⟨b, rfl, hb⟩, rfl⟩)
    obtain ⟨ea, hea⟩ : ∃ e, L[a]? = some e := ⟨_, List.getElem?_eq_getElem (by have := HS.out.l1; have := HM.out; omega)⟩
    obtain ⟨eb, heb⟩ : ∃ e, L[b]? = some e := ⟨_, List.getElem?_eq_getElem (by have := HS.out.l1; have := HM.out; omega)⟩
    have HEA := Lib.hid hea; have HEB := Lib.hid heb
    have a0 : (0 : Int) ≤ (a : Int) := by omega
    have a9 : (a : Int) < (m : Int) := by have := HM.out; omega
    have b0 : (0 : Int) ≤ (b : Int) := by omega
    have b9 : (b : Int) < (m : Int) := by have := HM.out; omega
    have HS7 := Lib.hid (HS.out.below HB7.out)
    have s0 := (HS7.out.get hea).1
    have sl : g1 < w7.heap.size := by have := HZ7.out; omega
    have sl2 : g2 < w7.heap.size := by have := HZ7.out; omega
    clear hea heb em emw ha hb
    go_upto_region 13 with fail
    have hb8 : Below wr.heap.size wr (w7.alloc (.cells #[.slice ea.A ea.n ea.c] 43)) := HB7.out.alloc (by have := HZ7.out; omega) _
    have hr8 := Row.new w7 43 [.slice ea.A ea.n ea.c]
    have hr78 := HR7.out.alloc (.cells #[.slice ea.A ea.n ea.c] 43)
    have hz8 : (w7.alloc (.cells #[.slice ea.A ea.n ea.c] 43)).heap.size = wr.heap.size + 2 := by simp [HZ7.out]
    generalize w7.alloc (.cells #[.slice ea.A ea.n ea.c] 43) = w8 at *
    rw [HZ7.out] at hr8 ⊢
    have HR8 := Lib.hid hr8; have HR78 := Lib.hid hr78; have HB8 := Lib.hid hb8; have HZ8 := Lib.hid hz8
    clear hb8 hr8 hr78 hz8 s0 q0 q1 q2 q3 q4 ql sl sl2
    have HS8 := Lib.hid (HS.out.below HB8.out)
    obtain ⟨V, hV⟩ : ∃ V, V = ea.p := ⟨_, rfl⟩
    have HV := Lib.hid hV
    have HVL : Hid (V.length = 256) := Lib.hid (by rw [hV]; exact ptV_len _)
    have hra := (HS8.out.get HEA.out).2.1
    rw [← hV] at hra
    have HRA := Lib.hid hra
    have hr9 := Row.new w8 45 Z
    have hst := pt_storeCells (P := Try.prog) (ty := 45) hr9 (V := V) (by rw [HVL.out]; exact HSZ.out) (by rw [HVL.out, HZL.out]) (by rw [hV]; exact ptV_one _)
    have hw9 := World.setRow_alloc_new w8 Z.toArray V.toArray 45
    have hvl : V.length = 256 := HVL.out
    have hzl : Z.length = 256 := HZL.out
    have sl2 : g2 < w8.heap.size := by have := HZ8.out; omega
    clear hV hra hr9
    go_upto_region 14 with (refine wpList_load_mid rfl _ _ rfl _ _ (by rfl) V (.array 256 4) HRA.out Try.underlying45 rfl (by rw [HSZ.out, HVL.out]) ?_)
    have hb9 : Below wr.heap.size wr (w8.alloc (.cells V.toArray 45)) := HB8.out.alloc (by have := HZ8.out; omega) _
    have hr9 := Row.new w8 45 V
    have hr79 := HR78.out.alloc (.cells V.toArray 45)
    have hr89 := HR8.out.alloc (.cells V.toArray 45)
    rw [HZ8.out] at hr9 ⊢
    have hC9 : PtC w wr (w8.alloc (.cells V.toArray 45)) ⟨okd, oa, ob, ox, oy, ola, oln, olc, ols⟩ ea.s (fun i => Sp.has ea.s i) := by
      have hmm := (HS.out.below hb9).ok ea (List.mem_of_getElem? HEA.out)
      exact ⟨hr79, ⟨ea.A, ea.n, ea.c, hr89, hmm.1⟩, hmm.2, by rw [show ptV (fun i => Sp.has ea.s i) = V from HV.out.symm]; exact hr9, hb9, HS.out.bel.size⟩
    have HC9 := Lib.hid hC9
    generalize w8.alloc (.cells V.toArray 45) = w9 at *
    clear hb9 hr9 hr79 hr89 hC9 hst hw9 hvl hzl sl2 HR78 HR8 HB8 HZ8 HS8 HRA HV HVL HR7 HB7 HZ7 HS7
    have HCF : Hid (∀ wx s f, PtC w wr wx ⟨okd, oa, ob, ox, oy, ola, oln, olc, ols⟩ s f → wx.cell? ⟨wr.heap.size, 0, none⟩ = some (.int .i64 okd) ∧ wx.cell? ⟨wr.heap.size, 3, none⟩ = some (.int .u64 (ox : Nat)) ∧ wx.cell? ⟨wr.heap.size, 4, none⟩ = some (.int .u64 (oy : Nat)) ∧ wr.heap.size < wx.heap.size) := Lib.hid (fun wx s f h => ⟨h.r7.cell 0, h.r7.cell 3, h.r7.cell 4, h.r7.lt⟩)
    obtain ⟨q0, q3, q4, ql⟩ := HCF.out _ _ _ HC9.out
    go_cut [68] (fun x wx => x = .int .i64 okd ∧ wx = w9)
    case first =>
      go_wp2_with fail
      go_meet
      case rel => exact ⟨rfl, rfl⟩
    case rest =>
    obtain ⟨rfl, rfl⟩ := hcut
    apply_assumption
    go_cut [] (fun wx => Hid (∃ s, PtC w wr wx ⟨okd, oa, ob, ox, oy, ola, oln, olc, ols⟩ s (fun i => Sp.has s i)))
    case first =>
      obtain ⟨V0, hV0⟩ : ∃ V, V = ptV (fun i => Sp.has ea.s i) := ⟨_, rfl⟩
      obtain ⟨U0, hU0⟩ : ∃ V, V = ptV (fun i => Sp.has eb.s i) := ⟨_, rfl⟩
      have HVL0 : Hid (V0.length = 256) := Lib.hid (by rw [hV0, ptV_len])
      have HUL0 : Hid (U0.length = 256) := Lib.hid (by rw [hU0, ptV_len])
      by_cases hk2 : okd = 2
      · subst hk2
        as_aux_lemma =>
        obtain ⟨x, hx⟩ : ∃ x, x = cutN ox := ⟨_, rfl⟩
        obtain ⟨y, hy⟩ : ∃ y, y = cutN oy := ⟨_, rfl⟩
        have hx8 : x ≤ 255 := by rw [hx]; exact cutN_le ox
        have hy8 : y ≤ 255 := by rw [hy]; exact cutN_le oy
        have HXY := Lib.hid (And.intro hx hy)
        have HPR : Hid (∀ wx : World, Calls Try.prog 16 #[.int .u64 (ox : Nat), .int .u64 (oy : Nat)] wx fun e w' => e = .returned (.agg #[.int .u8 (x : Nat), .int .u8 (y : Nat)]) ∧ Below wx.heap.size wx w') := Lib.hid (fun wx => by rw [hx, hy]; exact pair_any ox oy wx HOK.out.2.2.2.1 HOK.out.2.2.2.2.1)
        have H88 := Lib.hid (And.intro hx8 hy8)
        have HF : Hid (ptV (fun i => Sp.has ea.s i) = V0) := Lib.hid hV0.symm
        clear hx hy hx8 hy8 hV0 hU0
        obtain ⟨A0, n0, c0, z1, z2, z3, z4, z5, z6⟩ := HC9.out.facts
        have HZ1 := Lib.hid z1
        have zl : wr.heap.size + 1 < wc.heap.size := by omega
        clear z4 z5 z6
        have HWI : Hid (∀ (wx : World) (s : Sp.S) (f : Nat → Bool) (A : Option Addr) (n c : Nat), PtC w wr wx ⟨2, oa, ob, ox, oy, ola, oln, olc, ols⟩ s f → wx.cell? ⟨wr.heap.size + 1, 0, none⟩ = some (.slice A n c) → Calls Try.prog 15 #[.agg #[.slice A n c], .agg #[.int .u8 (x : Nat), .int .u8 (y : Nat)]] wx fun e w' => ∃ A' n' c' out, e = .returned (.agg #[.slice A' n' c']) ∧ Sp.Mk TOP (fun x y => x || y) s (S8.one x y) out ∧ PtC w wr w' ⟨2, oa, ob, ox, oy, ola, oln, olc, ols⟩ s f ∧ PtC w wr (w'.setCell ⟨wr.heap.size + 1, 0, none⟩ (.slice A' n' c')) ⟨2, oa, ob, ox, oy, ola, oln, olc, ols⟩ out f) := Lib.hid (fun wx s f A n c hI hc => by
          obtain ⟨A0, n0, c0, f1, f2, f3, f4, f5, f6⟩ := hI.facts
          rw [f1] at hc
          injection hc with hc
          injection hc with e1 e2 e3
          subst e1 e2 e3
          refine (with_any A0 n0 c0 x y s wx f4 H88.out.1 H88.out.2 (by omega)).mono fun e w' hh => ?_
          obtain ⟨A', n', c', out, he, ho, hmk, hb'⟩ := hh
          exact ⟨A', n', c', out, he, hmk, hI.below hb', (hI.below hb').set_ ho (Nat.le_trans hI.siz hI.bel.size) hmk.nrm⟩)
        have HMK : Hid (∀ (wx : World) (s : Sp.S), PtC w wr wx ⟨2, oa, ob, ox, oy, ola, oln, olc, ols⟩ s (fun i => Sp.has ea.s i) → Calls Try.prog 17 #[.agg V0.toArray, .int .u64 (ox : Nat), .int .u64 (oy : Nat), .bool true] wx fun e w' => e = .returned (.agg (ptV (markF (fun i => Sp.has ea.s i) x y true)).toArray) ∧ PtC w wr w' ⟨2, oa, ob, ox, oy, ola, oln, olc, ols⟩ s (fun i => Sp.has ea.s i) ∧ PtC w wr (w'.setRow (wr.heap.size + 2) (ptV (markF (fun i => Sp.has ea.s i) x y true)).toArray) ⟨2, oa, ob, ox, oy, ola, oln, olc, ols⟩ s (markF (fun i => Sp.has ea.s i) x y true) ∧ (storeCells ⟨wr.heap.size + 2, 0, none⟩ (ptV (markF (fun i => Sp.has ea.s i) x y true)) 0).run Try.prog w' = .ok () (w'.setRow (wr.heap.size + 2) (ptV (markF (fun i => Sp.has ea.s i) x y true)).toArray)) := Lib.hid (fun wx s hI => by
          rw [← HF.out]
          have hm := mark_any (fun i => Sp.has ea.s i) ox oy true wx HOK.out.2.2.2.1 HOK.out.2.2.2.2.1
          rw [show ox % 256 = x from HXY.out.1.symm, show oy % 256 = y from HXY.out.2.symm] at hm
          refine hm.mono fun e w' hh => ?_
          obtain ⟨he, hb⟩ := hh
          exact ⟨he, hI.below hb, (hI.below hb).row, pt_storeCells (P := Try.prog) (ty := 45) (hI.below hb).r11 (by rw [ptV_len]; exact HSZ.out) (by rw [ptV_len, ptV_len]) (ptV_one _)⟩)
        go_upto_region 16 with fail
        go_cut [] (fun wx => Hid (∃ s', PtC w wr wx ⟨2, oa, ob, ox, oy, ola, oln, olc, ols⟩ s' (fun i => Sp.has ea.s i) ∧ ptV (markF (fun i => Sp.has ea.s i) x y true) = ptV (fun i => Sp.has s' i)))
        case first =>
          have HCG : Hid (∀ wx s f, PtC w wr wx ⟨2, oa, ob, ox, oy, ola, oln, olc, ols⟩ s f → wx.cell? ⟨wr.heap.size, 3, none⟩ = some (.int .u64 (ox : Nat)) ∧ wx.cell? ⟨wr.heap.size, 4, none⟩ = some (.int .u64 (oy : Nat))) := Lib.hid (fun wx s f h => ⟨h.r7.cell 3, h.r7.cell 4⟩)
          have HID : Hid (PtC w wr wc.drew ⟨2, oa, ob, ox, oy, ola, oln, olc, ols⟩ ea.s (fun i => Sp.has ea.s i)) := Lib.hid (HC9.out.below (Below.refl _ _).drew)
          refine wp_region_held_drew (S := (fun w' => w'.cell? ⟨wr.heap.size, 3, none⟩ = some (.int .u64 (ox : Nat)) ∧ w'.cell? ⟨wr.heap.size, 4, none⟩ = some (.int .u64 (oy : Nat)))) (by kernel_rfl) (HCG.out _ _ _ HID.out) (fun hHeld => ?g200)
          refine wpAnyH_take (i := 1) (v := ?gv21) rfl (by kernel_rfl) (by kernel_rfl) (by kernel_rfl) (fun _ _ _ h => h) (Or.inl ⟨by kernel_rfl, ?gy21⟩) (by assumption) ?gr21
          case gy21 =>
            intro w' hSw
            try dsimp only at hSw
            go_simp
            try with_reducible rfl
          try simp only [Act.put, List.getElem_toArray, List.getElem_cons_succ, List.getElem_cons_zero, List.setIfInBounds_toArray, List.set_cons_zero, List.set_cons_succ]
          refine wpAnyH_take (i := 2) (v := ?gv22) rfl (by kernel_rfl) (by kernel_rfl) (by kernel_rfl) (fun _ _ _ h => h) (Or.inl ⟨by kernel_rfl, ?gy22⟩) (by assumption) ?gr22
          case gy22 =>
            intro w' hSw
            try dsimp only at hSw
            go_simp
            try with_reducible rfl
          try simp only [Act.put, List.getElem_toArray, List.getElem_cons_succ, List.getElem_cons_zero, List.setIfInBounds_toArray, List.set_cons_zero, List.set_cons_succ]
          refine wpAnyH_take (i := 3) (v := ?gv23) rfl (by kernel_rfl) (by kernel_rfl) (by kernel_rfl) (fun _ _ _ h => h) (Or.inl ⟨by kernel_rfl, ?gy23⟩) (by assumption) ?gr23
          case gy23 =>
            intro w' hSw
            try dsimp only at hSw
            go_simp
            try with_reducible rfl
          try simp only [Act.put, List.getElem_toArray, List.getElem_cons_succ, List.getElem_cons_zero, List.setIfInBounds_toArray, List.set_cons_zero, List.set_cons_succ]
          refine wpAnyH_take (i := 4) (v := ?gv24) rfl (by kernel_rfl) (by kernel_rfl) (by kernel_rfl) (fun _ _ _ h => h) (Or.inl ⟨by kernel_rfl, ?gy24⟩) (by assumption) ?gr24
          case gy24 =>
            intro w' hSw
            try dsimp only at hSw
            go_simp
            try with_reducible rfl
          try simp only [Act.put, List.getElem_toArray, List.getElem_cons_succ, List.getElem_cons_zero, List.setIfInBounds_toArray, List.set_cons_zero, List.set_cons_succ]
          refine wpAnyH_ready (rs := [0, 5]) (by kernel_rfl) (by simp) ?g52
          refine AllReadyH.cons rfl (fun K hK => ?ga2) (AllReadyH.cons rfl (fun K hK => ?gb2) AllReadyH.nil)
          case ga2 =>
            rw [if_pos (by kernel_rfl)]
            go_simp
            refine hK.out _ _ (HCG.out _ _ _ HID.out) (fun hHeld2 => ?ga20c)
            clear hK
            try simp only [Act.put, List.getElem_toArray, List.getElem_cons_succ, List.getElem_cons_zero, List.setIfInBounds_toArray, List.set_cons_zero, List.set_cons_succ]
            refine wpAnyH_ready (rs := [5]) (by kernel_rfl) (by simp) ?ga25
            refine AllReadyH.cons rfl (fun K hK => ?ga25b) AllReadyH.nil
            rw [if_pos (by kernel_rfl)]
            go_simp
            go_at_call 16
            refine (HPR.out _).mono ?_
            rintro e w2 ⟨rfl, hb2⟩
            have HI2 : Hid (PtC w wr w2 ⟨2, oa, ob, ox, oy, ola, oln, olc, ols⟩ ea.s (fun i => Sp.has ea.s i)) := Lib.hid (HID.out.below hb2)
            have HC2 : Hid (w2.cell? ⟨wr.heap.size + 1, 0, none⟩ = some (.slice A0 n0 c0)) := Lib.hid ((hb2.cell (p := ⟨wr.heap.size + 1, 0, none⟩) zl).trans HZ1.out)
            have p1 := HC2.out
            have p2 := HI2.out.facts.choose_spec.choose_spec.choose_spec.2.2.1
            obtain ⟨p3, p4, p5, p6⟩ := HCF.out _ _ _ HI2.out
            clear hb2
            refine hK.out _ _ (HCG.out _ _ _ HI2.out) (fun hHeld2 => ?ga25c)
            clear hK
            try simp only [Act.put, List.getElem_toArray, List.getElem_cons_succ, List.getElem_cons_zero, List.setIfInBounds_toArray, List.set_cons_zero, List.set_cons_succ]
            refine wpAnyH_ready (rs := [6]) (by kernel_rfl) (by simp) ?ga26
            refine AllReadyH.cons rfl (fun K hK => ?ga26b) AllReadyH.nil
            rw [if_pos (by kernel_rfl)]
            go_simp
            go_at_call 15
            refine (HWI.out _ _ _ _ _ _ HI2.out HC2.out).mono ?_
            rintro e w3 ⟨A3, n3, c3, out, rfl, hmk, hi3, hi4⟩
            obtain ⟨A9, n9, c9, y0, y1, y2, y3, y4, y5⟩ := hi3.facts
            have HST := Lib.hid (And.intro hmk hi4)
            have HI3 := Lib.hid hi3
            clear hmk hi3 hi4 y3 y4 y5
            refine hK.out _ _ (HCG.out _ _ _ HI3.out) (fun hHeld2 => ?ga26c)
            clear hK
            try simp only [Act.put, List.getElem_toArray, List.getElem_cons_succ, List.getElem_cons_zero, List.setIfInBounds_toArray, List.set_cons_zero, List.set_cons_succ]
            refine wpAnyH_ready (rs := [7]) (by kernel_rfl) (by simp) ?ga27
            refine AllReadyH.cons rfl (fun K hK => ?ga27b) AllReadyH.nil
            rw [if_pos (by kernel_rfl)]
            go_simp
            refine hK.out _ _ (HCG.out _ _ _ HST.out.2) (fun hHeld2 => ?ga27c)
            clear hK
            try simp only [Act.put, List.getElem_toArray, List.getElem_cons_succ, List.getElem_cons_zero, List.setIfInBounds_toArray, List.set_cons_zero, List.set_cons_succ]
            refine wpAnyH_done (by kernel_rfl) ?_ _
            go_wp2_with fail
            go_meet
            case rel =>
              obtain ⟨hmk, hi4⟩ := HST.out
              exact Lib.hid ⟨out, hi4, (mk_mark hmk).symm⟩
          case gb2 =>
            rw [if_pos (by kernel_rfl)]
            go_simp
            go_at_call 16
            refine (HPR.out _).mono ?_
            rintro e w2 ⟨rfl, hb2⟩
            have HI2 : Hid (PtC w wr w2 ⟨2, oa, ob, ox, oy, ola, oln, olc, ols⟩ ea.s (fun i => Sp.has ea.s i)) := Lib.hid (HID.out.below hb2)
            have HC2 : Hid (w2.cell? ⟨wr.heap.size + 1, 0, none⟩ = some (.slice A0 n0 c0)) := Lib.hid ((hb2.cell (p := ⟨wr.heap.size + 1, 0, none⟩) zl).trans HZ1.out)
            have p1 := HC2.out
            have p2 := HI2.out.facts.choose_spec.choose_spec.choose_spec.2.2.1
            obtain ⟨p3, p4, p5, p6⟩ := HCF.out _ _ _ HI2.out
            clear hb2
            refine hK.out _ _ (HCG.out _ _ _ HI2.out) (fun hHeld2 => ?gb25c)
            clear hK
            try simp only [Act.put, List.getElem_toArray, List.getElem_cons_succ, List.getElem_cons_zero, List.setIfInBounds_toArray, List.set_cons_zero, List.set_cons_succ]
            refine wpAnyH_ready (rs := [0]) (by kernel_rfl) (by simp) ?gb20
            refine AllReadyH.cons rfl (fun K hK => ?gb20b) AllReadyH.nil
            rw [if_pos (by kernel_rfl)]
            go_simp
            refine hK.out _ _ (HCG.out _ _ _ HI2.out) (fun hHeld2 => ?gb20c)
            clear hK
            try simp only [Act.put, List.getElem_toArray, List.getElem_cons_succ, List.getElem_cons_zero, List.setIfInBounds_toArray, List.set_cons_zero, List.set_cons_succ]
            refine wpAnyH_ready (rs := [6]) (by kernel_rfl) (by simp) ?gb26
            refine AllReadyH.cons rfl (fun K hK => ?gb26b) AllReadyH.nil
            rw [if_pos (by kernel_rfl)]
            go_simp
            go_at_call 15
            refine (HWI.out _ _ _ _ _ _ HI2.out HC2.out).mono ?_
            rintro e w3 ⟨A3, n3, c3, out, rfl, hmk, hi3, hi4⟩
            obtain ⟨A9, n9, c9, y0, y1, y2, y3, y4, y5⟩ := hi3.facts
            have HST := Lib.hid (And.intro hmk hi4)
            have HI3 := Lib.hid hi3
            clear hmk hi3 hi4 y3 y4 y5
            refine hK.out _ _ (HCG.out _ _ _ HI3.out) (fun hHeld2 => ?gb26c)
            clear hK
            try simp only [Act.put, List.getElem_toArray, List.getElem_cons_succ, List.getElem_cons_zero, List.setIfInBounds_toArray, List.set_cons_zero, List.set_cons_succ]
            refine wpAnyH_ready (rs := [7]) (by kernel_rfl) (by simp) ?gb27
            refine AllReadyH.cons rfl (fun K hK => ?gb27b) AllReadyH.nil
            rw [if_pos (by kernel_rfl)]
            go_simp
            refine hK.out _ _ (HCG.out _ _ _ HST.out.2) (fun hHeld2 => ?gb27c)
            clear hK
            try simp only [Act.put, List.getElem_toArray, List.getElem_cons_succ, List.getElem_cons_zero, List.setIfInBounds_toArray, List.set_cons_zero, List.set_cons_succ]
            refine wpAnyH_done (by kernel_rfl) ?_ _
            go_wp2_with fail
            go_meet
            case rel =>
              obtain ⟨hmk, hi4⟩ := HST.out
              exact Lib.hid ⟨out, hi4, (mk_mark hmk).symm⟩
        case rest =>
        obtain ⟨s2, hi2, hp2⟩ := hcut.out
        have HI2 := Lib.hid hi2; have HP2 := Lib.hid hp2
        obtain ⟨p3, p4, p5, p6⟩ := HCF.out _ _ _ hi2
        have HM4 := Lib.hid (HMK.out _ _ hi2)
        clear hcut hi2 hp2 z1 z2 z3 zl q0 q3 q4 ql
        go_wp2_with (refine wpList_load_mid rfl _ _ rfl _ _ (by rfl) V0 (.array 256 4) (by rw [← HF.out]; exact pt_range HI2.out.r11) Try.underlying45 rfl (by rw [HSZ.out, HVL0.out]) ?_)
        refine HM4.out.mono ?_
        rintro e w5 ⟨rfl, hi5, hi6, hst⟩
        have l8 := hi5.r11.lt
        obtain ⟨V5, hV5⟩ : ∃ V5, V5 = ptV (markF (fun i => Sp.has ea.s i) x y true) := ⟨_, rfl⟩
        have HP6 : Hid (V5 = ptV (fun i => Sp.has s2 i)) := Lib.hid (by rw [hV5]; exact HP2.out)
        have HI6 : Hid (PtC w wr (w5.setRow (wr.heap.size + 2) V5.toArray) ⟨2, oa, ob, ox, oy, ola, oln, olc, ols⟩ s2 (fun i => Sp.has s2 i)) := Lib.hid (by rw [hV5]; exact hi6.congr HP2.out)
        rw [← hV5] at hst ⊢
        have hvl : V5.length = 256 := by rw [hV5, ptV_len]
        clear hi5 hi6 hV5 HM4 p3 p4 p5 p6
        go_wp2_with fail
        go_meet
        case rel => exact Lib.hid ⟨s2, HI6.out⟩
      have fk2 : (okd == 2) = false := by simpa using hk2
      clear hk2
      by_cases hk3 : okd = 3
      · subst hk3
        as_aux_lemma =>
        obtain ⟨x, hx⟩ : ∃ x, x = cutN ox := ⟨_, rfl⟩
        obtain ⟨y, hy⟩ : ∃ y, y = cutN oy := ⟨_, rfl⟩
        have hx8 : x ≤ 255 := by rw [hx]; exact cutN_le ox
        have hy8 : y ≤ 255 := by rw [hy]; exact cutN_le oy
        have HXY := Lib.hid (And.intro hx hy)
        have HPR : Hid (∀ wx : World, Calls Try.prog 16 #[.int .u64 (ox : Nat), .int .u64 (oy : Nat)] wx fun e w' => e = .returned (.agg #[.int .u8 (x : Nat), .int .u8 (y : Nat)]) ∧ Below wx.heap.size wx w') := Lib.hid (fun wx => by rw [hx, hy]; exact pair_any ox oy wx HOK.out.2.2.2.1 HOK.out.2.2.2.2.1)
        have H88 := Lib.hid (And.intro hx8 hy8)
        have HF : Hid (ptV (fun i => Sp.has ea.s i) = V0) := Lib.hid hV0.symm
        clear hx hy hx8 hy8 hV0 hU0
        obtain ⟨A0, n0, c0, z1, z2, z3, z4, z5, z6⟩ := HC9.out.facts
        have HZ1 := Lib.hid z1
        have zl : wr.heap.size + 1 < wc.heap.size := by omega
        clear z4 z5 z6
        have HWI : Hid (∀ (wx : World) (s : Sp.S) (f : Nat → Bool) (A : Option Addr) (n c : Nat), PtC w wr wx ⟨3, oa, ob, ox, oy, ola, oln, olc, ols⟩ s f → wx.cell? ⟨wr.heap.size + 1, 0, none⟩ = some (.slice A n c) → Calls Try.prog 23 #[.agg #[.slice A n c], .agg #[.int .u8 (x : Nat), .int .u8 (y : Nat)]] wx fun e w' => ∃ A' n' c' out, e = .returned (.agg #[.slice A' n' c']) ∧ Sp.Mk TOP (fun x y => x && !y) s (S8.one x y) out ∧ PtC w wr w' ⟨3, oa, ob, ox, oy, ola, oln, olc, ols⟩ s f ∧ PtC w wr (w'.setCell ⟨wr.heap.size + 1, 0, none⟩ (.slice A' n' c')) ⟨3, oa, ob, ox, oy, ola, oln, olc, ols⟩ out f) := Lib.hid (fun wx s f A n c hI hc => by
          obtain ⟨A0, n0, c0, f1, f2, f3, f4, f5, f6⟩ := hI.facts
          rw [f1] at hc
          injection hc with hc
          injection hc with e1 e2 e3
          subst e1 e2 e3
          refine (without_any A0 n0 c0 x y s wx f4 H88.out.1 H88.out.2 (by omega)).mono fun e w' hh => ?_
          obtain ⟨A', n', c', out, he, ho, hmk, hb'⟩ := hh
          exact ⟨A', n', c', out, he, hmk, hI.below hb', (hI.below hb').set_ ho (Nat.le_trans hI.siz hI.bel.size) hmk.nrm⟩)
        have HMK : Hid (∀ (wx : World) (s : Sp.S), PtC w wr wx ⟨3, oa, ob, ox, oy, ola, oln, olc, ols⟩ s (fun i => Sp.has ea.s i) → Calls Try.prog 17 #[.agg V0.toArray, .int .u64 (ox : Nat), .int .u64 (oy : Nat), .bool false] wx fun e w' => e = .returned (.agg (ptV (markF (fun i => Sp.has ea.s i) x y false)).toArray) ∧ PtC w wr w' ⟨3, oa, ob, ox, oy, ola, oln, olc, ols⟩ s (fun i => Sp.has ea.s i) ∧ PtC w wr (w'.setRow (wr.heap.size + 2) (ptV (markF (fun i => Sp.has ea.s i) x y false)).toArray) ⟨3, oa, ob, ox, oy, ola, oln, olc, ols⟩ s (markF (fun i => Sp.has ea.s i) x y false) ∧ (storeCells ⟨wr.heap.size + 2, 0, none⟩ (ptV (markF (fun i => Sp.has ea.s i) x y false)) 0).run Try.prog w' = .ok () (w'.setRow (wr.heap.size + 2) (ptV (markF (fun i => Sp.has ea.s i) x y false)).toArray)) := Lib.hid (fun wx s hI => by
          rw [← HF.out]
          have hm := mark_any (fun i => Sp.has ea.s i) ox oy false wx HOK.out.2.2.2.1 HOK.out.2.2.2.2.1
          rw [show ox % 256 = x from HXY.out.1.symm, show oy % 256 = y from HXY.out.2.symm] at hm
          refine hm.mono fun e w' hh => ?_
          obtain ⟨he, hb⟩ := hh
          exact ⟨he, hI.below hb, (hI.below hb).row, pt_storeCells (P := Try.prog) (ty := 45) (hI.below hb).r11 (by rw [ptV_len]; exact HSZ.out) (by rw [ptV_len, ptV_len]) (ptV_one _)⟩)
        go_upto_region 19 with fail
        go_cut [] (fun wx => Hid (∃ s', PtC w wr wx ⟨3, oa, ob, ox, oy, ola, oln, olc, ols⟩ s' (fun i => Sp.has ea.s i) ∧ ptV (markF (fun i => Sp.has ea.s i) x y false) = ptV (fun i => Sp.has s' i)))
        case first =>
          have HCG : Hid (∀ wx s f, PtC w wr wx ⟨3, oa, ob, ox, oy, ola, oln, olc, ols⟩ s f → wx.cell? ⟨wr.heap.size, 3, none⟩ = some (.int .u64 (ox : Nat)) ∧ wx.cell? ⟨wr.heap.size, 4, none⟩ = some (.int .u64 (oy : Nat))) := Lib.hid (fun wx s f h => ⟨h.r7.cell 3, h.r7.cell 4⟩)
          have HID : Hid (PtC w wr wc.drew ⟨3, oa, ob, ox, oy, ola, oln, olc, ols⟩ ea.s (fun i => Sp.has ea.s i)) := Lib.hid (HC9.out.below (Below.refl _ _).drew)
          refine wp_region_held_drew (S := (fun w' => w'.cell? ⟨wr.heap.size, 3, none⟩ = some (.int .u64 (ox : Nat)) ∧ w'.cell? ⟨wr.heap.size, 4, none⟩ = some (.int .u64 (oy : Nat)))) (by kernel_rfl) (HCG.out _ _ _ HID.out) (fun hHeld => ?g300)
          refine wpAnyH_take (i := 1) (v := ?gv31) rfl (by kernel_rfl) (by kernel_rfl) (by kernel_rfl) (fun _ _ _ h => h) (Or.inl ⟨by kernel_rfl, ?gy31⟩) (by assumption) ?gr31
          case gy31 =>
            intro w' hSw
            try dsimp only at hSw
            go_simp
            try with_reducible rfl
          try simp only [Act.put, List.getElem_toArray, List.getElem_cons_succ, List.getElem_cons_zero, List.setIfInBounds_toArray, List.set_cons_zero, List.set_cons_succ]
          refine wpAnyH_take (i := 2) (v := ?gv32) rfl (by kernel_rfl) (by kernel_rfl) (by kernel_rfl) (fun _ _ _ h => h) (Or.inl ⟨by kernel_rfl, ?gy32⟩) (by assumption) ?gr32
          case gy32 =>
            intro w' hSw
            try dsimp only at hSw
            go_simp
            try with_reducible rfl
          try simp only [Act.put, List.getElem_toArray, List.getElem_cons_succ, List.getElem_cons_zero, List.setIfInBounds_toArray, List.set_cons_zero, List.set_cons_succ]
          refine wpAnyH_take (i := 3) (v := ?gv33) rfl (by kernel_rfl) (by kernel_rfl) (by kernel_rfl) (fun _ _ _ h => h) (Or.inl ⟨by kernel_rfl, ?gy33⟩) (by assumption) ?gr33
          case gy33 =>
            intro w' hSw
            try dsimp only at hSw
            go_simp
            try with_reducible rfl
          try simp only [Act.put, List.getElem_toArray, List.getElem_cons_succ, List.getElem_cons_zero, List.setIfInBounds_toArray, List.set_cons_zero, List.set_cons_succ]
          refine wpAnyH_take (i := 4) (v := ?gv34) rfl (by kernel_rfl) (by kernel_rfl) (by kernel_rfl) (fun _ _ _ h => h) (Or.inl ⟨by kernel_rfl, ?gy34⟩) (by assumption) ?gr34
          case gy34 =>
            intro w' hSw
            try dsimp only at hSw
            go_simp
            try with_reducible rfl
          try simp only [Act.put, List.getElem_toArray, List.getElem_cons_succ, List.getElem_cons_zero, List.setIfInBounds_toArray, List.set_cons_zero, List.set_cons_succ]
          refine wpAnyH_ready (rs := [0, 5]) (by kernel_rfl) (by simp) ?g53
          refine AllReadyH.cons rfl (fun K hK => ?ga3) (AllReadyH.cons rfl (fun K hK => ?gb3) AllReadyH.nil)
          case ga3 =>
            rw [if_pos (by kernel_rfl)]
            go_simp
            refine hK.out _ _ (HCG.out _ _ _ HID.out) (fun hHeld2 => ?ga30c)
            clear hK
            try simp only [Act.put, List.getElem_toArray, List.getElem_cons_succ, List.getElem_cons_zero, List.setIfInBounds_toArray, List.set_cons_zero, List.set_cons_succ]
            refine wpAnyH_ready (rs := [5]) (by kernel_rfl) (by simp) ?ga35
            refine AllReadyH.cons rfl (fun K hK => ?ga35b) AllReadyH.nil
            rw [if_pos (by kernel_rfl)]
            go_simp
            go_at_call 16
            refine (HPR.out _).mono ?_
            rintro e w2 ⟨rfl, hb2⟩
            have HI2 : Hid (PtC w wr w2 ⟨3, oa, ob, ox, oy, ola, oln, olc, ols⟩ ea.s (fun i => Sp.has ea.s i)) := Lib.hid (HID.out.below hb2)
            have HC2 : Hid (w2.cell? ⟨wr.heap.size + 1, 0, none⟩ = some (.slice A0 n0 c0)) := Lib.hid ((hb2.cell (p := ⟨wr.heap.size + 1, 0, none⟩) zl).trans HZ1.out)
            have p1 := HC2.out
            have p2 := HI2.out.facts.choose_spec.choose_spec.choose_spec.2.2.1
            obtain ⟨p3, p4, p5, p6⟩ := HCF.out _ _ _ HI2.out
            clear hb2
            refine hK.out _ _ (HCG.out _ _ _ HI2.out) (fun hHeld2 => ?ga35c)
            clear hK
            try simp only [Act.put, List.getElem_toArray, List.getElem_cons_succ, List.getElem_cons_zero, List.setIfInBounds_toArray, List.set_cons_zero, List.set_cons_succ]
            refine wpAnyH_ready (rs := [6]) (by kernel_rfl) (by simp) ?ga36
            refine AllReadyH.cons rfl (fun K hK => ?ga36b) AllReadyH.nil
            rw [if_pos (by kernel_rfl)]
            go_simp
            go_at_call 23
            refine (HWI.out _ _ _ _ _ _ HI2.out HC2.out).mono ?_
            rintro e w3 ⟨A3, n3, c3, out, rfl, hmk, hi3, hi4⟩
            obtain ⟨A9, n9, c9, y0, y1, y2, y3, y4, y5⟩ := hi3.facts
            have HST := Lib.hid (And.intro hmk hi4)
            have HI3 := Lib.hid hi3
            clear hmk hi3 hi4 y3 y4 y5
            refine hK.out _ _ (HCG.out _ _ _ HI3.out) (fun hHeld2 => ?ga36c)
            clear hK
            try simp only [Act.put, List.getElem_toArray, List.getElem_cons_succ, List.getElem_cons_zero, List.setIfInBounds_toArray, List.set_cons_zero, List.set_cons_succ]
            refine wpAnyH_ready (rs := [7]) (by kernel_rfl) (by simp) ?ga37
            refine AllReadyH.cons rfl (fun K hK => ?ga37b) AllReadyH.nil
            rw [if_pos (by kernel_rfl)]
            go_simp
            refine hK.out _ _ (HCG.out _ _ _ HST.out.2) (fun hHeld2 => ?ga37c)
            clear hK
            try simp only [Act.put, List.getElem_toArray, List.getElem_cons_succ, List.getElem_cons_zero, List.setIfInBounds_toArray, List.set_cons_zero, List.set_cons_succ]
            refine wpAnyH_done (by kernel_rfl) ?_ _
            go_wp2_with fail
            go_meet
            case rel =>
              obtain ⟨hmk, hi4⟩ := HST.out
              exact Lib.hid ⟨out, hi4, (mk_unmark hmk).symm⟩
          case gb3 =>
            rw [if_pos (by kernel_rfl)]
            go_simp
            go_at_call 16
            refine (HPR.out _).mono ?_
            rintro e w2 ⟨rfl, hb2⟩
            have HI2 : Hid (PtC w wr w2 ⟨3, oa, ob, ox, oy, ola, oln, olc, ols⟩ ea.s (fun i => Sp.has ea.s i)) := Lib.hid (HID.out.below hb2)
            have HC2 : Hid (w2.cell? ⟨wr.heap.size + 1, 0, none⟩ = some (.slice A0 n0 c0)) := Lib.hid ((hb2.cell (p := ⟨wr.heap.size + 1, 0, none⟩) zl).trans HZ1.out)
            have p1 := HC2.out
            have p2 := HI2.out.facts.choose_spec.choose_spec.choose_spec.2.2.1
            obtain ⟨p3, p4, p5, p6⟩ := HCF.out _ _ _ HI2.out
            clear hb2
            refine hK.out _ _ (HCG.out _ _ _ HI2.out) (fun hHeld2 => ?gb35c)
            clear hK
            try simp only [Act.put, List.getElem_toArray, List.getElem_cons_succ, List.getElem_cons_zero, List.setIfInBounds_toArray, List.set_cons_zero, List.set_cons_succ]
            refine wpAnyH_ready (rs := [0]) (by kernel_rfl) (by simp) ?gb30
            refine AllReadyH.cons rfl (fun K hK => ?gb30b) AllReadyH.nil
            rw [if_pos (by kernel_rfl)]
            go_simp
            refine hK.out _ _ (HCG.out _ _ _ HI2.out) (fun hHeld2 => ?gb30c)
            clear hK
            try simp only [Act.put, List.getElem_toArray, List.getElem_cons_succ, List.getElem_cons_zero, List.setIfInBounds_toArray, List.set_cons_zero, List.set_cons_succ]
            refine wpAnyH_ready (rs := [6]) (by kernel_rfl) (by simp) ?gb36
            refine AllReadyH.cons rfl (fun K hK => ?gb36b) AllReadyH.nil
            rw [if_pos (by kernel_rfl)]
            go_simp
            go_at_call 23
            refine (HWI.out _ _ _ _ _ _ HI2.out HC2.out).mono ?_
            rintro e w3 ⟨A3, n3, c3, out, rfl, hmk, hi3, hi4⟩
            obtain ⟨A9, n9, c9, y0, y1, y2, y3, y4, y5⟩ := hi3.facts
            have HST := Lib.hid (And.intro hmk hi4)
            have HI3 := Lib.hid hi3
            clear hmk hi3 hi4 y3 y4 y5
            refine hK.out _ _ (HCG.out _ _ _ HI3.out) (fun hHeld2 => ?gb36c)
            clear hK
            try simp only [Act.put, List.getElem_toArray, List.getElem_cons_succ, List.getElem_cons_zero, List.setIfInBounds_toArray, List.set_cons_zero, List.set_cons_succ]
            refine wpAnyH_ready (rs := [7]) (by kernel_rfl) (by simp) ?gb37
            refine AllReadyH.cons rfl (fun K hK => ?gb37b) AllReadyH.nil
            rw [if_pos (by kernel_rfl)]
            go_simp
            refine hK.out _ _ (HCG.out _ _ _ HST.out.2) (fun hHeld2 => ?gb37c)
            clear hK
            try simp only [Act.put, List.getElem_toArray, List.getElem_cons_succ, List.getElem_cons_zero, List.setIfInBounds_toArray, List.set_cons_zero, List.set_cons_succ]
            refine wpAnyH_done (by kernel_rfl) ?_ _
            go_wp2_with fail
            go_meet
            case rel =>
              obtain ⟨hmk, hi4⟩ := HST.out
              exact Lib.hid ⟨out, hi4, (mk_unmark hmk).symm⟩
        case rest =>
        obtain ⟨s2, hi2, hp2⟩ := hcut.out
        have HI2 := Lib.hid hi2; have HP2 := Lib.hid hp2
        obtain ⟨p3, p4, p5, p6⟩ := HCF.out _ _ _ hi2
        have HM4 := Lib.hid (HMK.out _ _ hi2)
        clear hcut hi2 hp2 z1 z2 z3 zl q0 q3 q4 ql
        go_wp2_with (refine wpList_load_mid rfl _ _ rfl _ _ (by rfl) V0 (.array 256 4) (by rw [← HF.out]; exact pt_range HI2.out.r11) Try.underlying45 rfl (by rw [HSZ.out, HVL0.out]) ?_)
        refine HM4.out.mono ?_
        rintro e w5 ⟨rfl, hi5, hi6, hst⟩
        have l8 := hi5.r11.lt
        obtain ⟨V5, hV5⟩ : ∃ V5, V5 = ptV (markF (fun i => Sp.has ea.s i) x y false) := ⟨_, rfl⟩
        have HP6 : Hid (V5 = ptV (fun i => Sp.has s2 i)) := Lib.hid (by rw [hV5]; exact HP2.out)
        have HI6 : Hid (PtC w wr (w5.setRow (wr.heap.size + 2) V5.toArray) ⟨3, oa, ob, ox, oy, ola, oln, olc, ols⟩ s2 (fun i => Sp.has s2 i)) := Lib.hid (by rw [hV5]; exact hi6.congr HP2.out)
        rw [← hV5] at hst ⊢
        have hvl : V5.length = 256 := by rw [hV5, ptV_len]
        clear hi5 hi6 hV5 HM4 p3 p4 p5 p6
        go_wp2_with fail
        go_meet
        case rel => exact Lib.hid ⟨s2, HI6.out⟩
      have fk3 : (okd == 3) = false := by simpa using hk3
      clear hk3
      by_cases hk4 : okd = 4
      · subst hk4
        as_aux_lemma =>
        have HOI : Hid (∀ (wx : World) (s : Sp.S) (f : Nat → Bool) (A : Option Addr) (n c : Nat), PtC w wr wx ⟨4, oa, ob, ox, oy, ola, oln, olc, ols⟩ s f → wx.cell? ⟨wr.heap.size + 1, 0, none⟩ = some (.slice A n c) → Calls Try.prog 24 #[.agg #[.slice A n c], .agg #[.slice eb.A eb.n eb.c]] wx fun e w' => ∃ A' n' c' out, e = .returned (.agg #[.slice A' n' c']) ∧ Sp.Mk TOP (fun x y => x || y) s eb.s out ∧ PtC w wr w' ⟨4, oa, ob, ox, oy, ola, oln, olc, ols⟩ s f ∧ PtC w wr (w'.setCell ⟨wr.heap.size + 1, 0, none⟩ (.slice A' n' c')) ⟨4, oa, ob, ox, oy, ola, oln, olc, ols⟩ out f) := Lib.hid (fun wx s f A n c hI hc => by
          obtain ⟨A0, n0, c0, f1, f2, f3, f4, f5, f6⟩ := hI.facts
          rw [f1] at hc
          injection hc with hc
          injection hc with e1 e2 e3
          subst e1 e2 e3
          obtain ⟨_, _, t4, t5⟩ := (HS.out.below hI.bel).get HEB.out
          refine (or_any A0 eb.A n0 c0 eb.n eb.c s eb.s wx f4 t4 (by omega)).mono fun e w' hh => ?_
          obtain ⟨A', n', c', out, he, ho, hmk, hb'⟩ := hh
          exact ⟨A', n', c', out, he, hmk, hI.below hb', (hI.below hb').set_ ho (Nat.le_trans hI.siz hI.bel.size) hmk.nrm⟩)
        have HMD : Hid (∀ (wx : World) (s : Sp.S), PtC w wr wx ⟨4, oa, ob, ox, oy, ola, oln, olc, ols⟩ s (fun i => Sp.has ea.s i) → Calls Try.prog 25 #[.int .i64 4, .agg V0.toArray, .agg U0.toArray] wx fun e w' => e = .returned (.agg (ptV (madeF 4 (fun i => Sp.has ea.s i) (fun i => Sp.has eb.s i))).toArray) ∧ PtC w wr w' ⟨4, oa, ob, ox, oy, ola, oln, olc, ols⟩ s (fun i => Sp.has ea.s i) ∧ PtC w wr (w'.setRow (wr.heap.size + 2) (ptV (madeF 4 (fun i => Sp.has ea.s i) (fun i => Sp.has eb.s i))).toArray) ⟨4, oa, ob, ox, oy, ola, oln, olc, ols⟩ s (madeF 4 (fun i => Sp.has ea.s i) (fun i => Sp.has eb.s i)) ∧ (storeCells ⟨wr.heap.size + 2, 0, none⟩ (ptV (madeF 4 (fun i => Sp.has ea.s i) (fun i => Sp.has eb.s i))) 0).run Try.prog w' = .ok () (w'.setRow (wr.heap.size + 2) (ptV (madeF 4 (fun i => Sp.has ea.s i) (fun i => Sp.has eb.s i))).toArray)) := Lib.hid (fun wx s hI => by
          rw [hV0, hU0]
          refine (made4_any (fun i => Sp.has ea.s i) (fun i => Sp.has eb.s i) wx).mono fun e w' hh => ?_
          obtain ⟨he, hb⟩ := hh
          exact ⟨he, hI.below hb, (hI.below hb).row, pt_storeCells (P := Try.prog) (ty := 45) (hI.below hb).r11 (by rw [ptV_len]; exact HSZ.out) (by rw [ptV_len, ptV_len]) (ptV_one _)⟩)
        have HV0 := Lib.hid hV0; have HU0 := Lib.hid hU0
        obtain ⟨A0, n0, c0, z1, z2, z3, z4, z5, z6⟩ := HC9.out.facts
        have HZ1 := Lib.hid z1
        have y0 : (wc.drew).cell? ⟨g1, b, none⟩ = some (.slice eb.A eb.n eb.c) := ((HS.out.below HC9.out.bel).get HEB.out).1
        have zl : wr.heap.size + 1 < wc.heap.size := by omega
        have yl : g1 < wc.heap.size := Nat.lt_of_lt_of_le l1 HC9.out.bel.size
        clear z4 z5 z6 hV0 hU0
        go_upto_region 22 with fail
        go_cut [] (fun wx => Hid (∃ s', PtC w wr wx ⟨4, oa, ob, ox, oy, ola, oln, olc, ols⟩ s' (fun i => Sp.has ea.s i) ∧ Sp.Mk TOP (fun x y => x || y) ea.s eb.s s'))
        case first =>
          refine wp_region_still_tail 5 (by kernel_rfl) (by kernel_rfl) ?_
          simp only [List.take_succ_cons, List.take_zero, List.drop_succ_cons, List.drop_zero]
          have y1 : (wc.drew).cell? ⟨wr.heap.size + 1, 0, none⟩ = some (.slice A0 n0 c0) := z1
          still_step
          repeat still_step
          try refine wpStill_nil ?_
          change wpList _ _ _ _ _ wc.drew
          go_wp2_with fail
          refine (HOI.out _ _ _ _ _ _ (HC9.out.below (Below.refl _ _).drew) y1).mono ?_
          rintro e w3 ⟨A3, n3, c3, out, rfl, hmk, hi3, hi4⟩
          obtain ⟨A9, n9, c9, x0, x1, x2, x3, x4, x5⟩ := hi3.facts
          have HST := Lib.hid (And.intro hmk hi4)
          clear hmk hi3 hi4 x3 x4 x5 y0 y1 z1 z2 z3
          go_wp2_with fail
          go_meet
          case rel =>
            obtain ⟨hmk, hi4⟩ := HST.out
            exact Lib.hid ⟨out, hi4, hmk⟩
        case rest =>
        obtain ⟨s2, hi2, hp2⟩ := hcut.out
        have HI2 := Lib.hid hi2; have HP2 := Lib.hid hp2
        have HM4 := Lib.hid (HMD.out _ _ (hi2.below (Below.refl _ _).drew))
        have HRB : Hid ((wc.drew).rangeAt g2 (b * 256) U0) := Lib.hid (by rw [HU0.out]; exact ((HS.out.below hi2.bel).get HEB.out).2.1)
        have HRV : Hid ((wc.drew).rangeAt (wr.heap.size + 2) 0 V0) := Lib.hid (by rw [HV0.out]; exact pt_range hi2.r11)
        have yl2 : g2 < wc.heap.size := Nat.lt_of_lt_of_le l2 hi2.bel.size
        clear hcut hi2 hp2 z1 z2 z3 zl q0 q3 q4 ql y0 yl
        go_upto_region 23 with fail
        refine wp_region_still_tail 5 (by kernel_rfl) (by kernel_rfl) ?_
        simp only [List.take_succ_cons, List.take_zero, List.drop_succ_cons, List.drop_zero]
        refine wpStill_load_mid rfl _ _ rfl _ _ (by rfl) V0 (.array 256 4) HRV.out Try.underlying45 rfl (by rw [HSZ.out, HVL0.out]) ?_
        simp only [Act.put, List.setIfInBounds_toArray, List.set_cons_zero, List.set_cons_succ]
        still_step
        still_step
        still_step
        refine wpStill_load_mid rfl _ _ rfl _ _ (by rfl) U0 (.array 256 4) HRB.out Try.underlying45 rfl (by rw [HSZ.out, HUL0.out]) ?_
        simp only [Act.put, List.setIfInBounds_toArray, List.set_cons_zero, List.set_cons_succ]
        try refine wpStill_nil ?_
        change wpList _ _ _ _ _ wc.drew
        go_wp2_with fail
        refine HM4.out.mono ?_
        rintro e w5 ⟨rfl, hi5, hi6, hst⟩
        have l8 := hi5.r11.lt
        have hpe : ptV (madeF 4 (fun i => Sp.has ea.s i) (fun i => Sp.has eb.s i)) = ptV (fun i => Sp.has s2 i) := ptV_congr fun i hi => (HP2.out.pts i (by unfold TOP; omega)).symm
        obtain ⟨V5, hV5⟩ : ∃ V5, V5 = ptV (madeF 4 (fun i => Sp.has ea.s i) (fun i => Sp.has eb.s i)) := ⟨_, rfl⟩
        have HI6 : Hid (PtC w wr (w5.setRow (wr.heap.size + 2) V5.toArray) ⟨4, oa, ob, ox, oy, ola, oln, olc, ols⟩ s2 (fun i => Sp.has s2 i)) := Lib.hid (by rw [hV5]; exact hi6.congr hpe)
        rw [← hV5] at hst ⊢
        have hvl : V5.length = 256 := by rw [hV5, ptV_len]
        clear hi5 hi6 hV5 HM4 hpe yl2
        go_wp2_with fail
        go_meet
        case rel => exact Lib.hid ⟨s2, HI6.out⟩
      have fk4 : (okd == 4) = false := by simpa using hk4
      clear hk4
      by_cases hk5 : okd = 5
      · subst hk5
        as_aux_lemma =>
        have HOI : Hid (∀ (wx : World) (s : Sp.S) (f : Nat → Bool) (A : Option Addr) (n c : Nat), PtC w wr wx ⟨5, oa, ob, ox, oy, ola, oln, olc, ols⟩ s f → wx.cell? ⟨wr.heap.size + 1, 0, none⟩ = some (.slice A n c) → Calls Try.prog 26 #[.agg #[.slice A n c], .agg #[.slice eb.A eb.n eb.c]] wx fun e w' => ∃ A' n' c' out, e = .returned (.agg #[.slice A' n' c']) ∧ Sp.Mk TOP (fun x y => x && y) s eb.s out ∧ PtC w wr w' ⟨5, oa, ob, ox, oy, ola, oln, olc, ols⟩ s f ∧ PtC w wr (w'.setCell ⟨wr.heap.size + 1, 0, none⟩ (.slice A' n' c')) ⟨5, oa, ob, ox, oy, ola, oln, olc, ols⟩ out f) := Lib.hid (fun wx s f A n c hI hc => by
          obtain ⟨A0, n0, c0, f1, f2, f3, f4, f5, f6⟩ := hI.facts
          rw [f1] at hc
          injection hc with hc
          injection hc with e1 e2 e3
          subst e1 e2 e3
          obtain ⟨_, _, t4, t5⟩ := (HS.out.below hI.bel).get HEB.out
          refine (meet_any A0 eb.A n0 c0 eb.n eb.c s eb.s wx f4 t4 (by omega)).mono fun e w' hh => ?_
          obtain ⟨A', n', c', out, he, ho, hmk, hb'⟩ := hh
          exact ⟨A', n', c', out, he, hmk, hI.below hb', (hI.below hb').set_ ho (Nat.le_trans hI.siz hI.bel.size) hmk.nrm⟩)
        have HMD : Hid (∀ (wx : World) (s : Sp.S), PtC w wr wx ⟨5, oa, ob, ox, oy, ola, oln, olc, ols⟩ s (fun i => Sp.has ea.s i) → Calls Try.prog 25 #[.int .i64 5, .agg V0.toArray, .agg U0.toArray] wx fun e w' => e = .returned (.agg (ptV (madeF 5 (fun i => Sp.has ea.s i) (fun i => Sp.has eb.s i))).toArray) ∧ PtC w wr w' ⟨5, oa, ob, ox, oy, ola, oln, olc, ols⟩ s (fun i => Sp.has ea.s i) ∧ PtC w wr (w'.setRow (wr.heap.size + 2) (ptV (madeF 5 (fun i => Sp.has ea.s i) (fun i => Sp.has eb.s i))).toArray) ⟨5, oa, ob, ox, oy, ola, oln, olc, ols⟩ s (madeF 5 (fun i => Sp.has ea.s i) (fun i => Sp.has eb.s i)) ∧ (storeCells ⟨wr.heap.size + 2, 0, none⟩ (ptV (madeF 5 (fun i => Sp.has ea.s i) (fun i => Sp.has eb.s i))) 0).run Try.prog w' = .ok () (w'.setRow (wr.heap.size + 2) (ptV (madeF 5 (fun i => Sp.has ea.s i) (fun i => Sp.has eb.s i))).toArray)) := Lib.hid (fun wx s hI => by
          rw [hV0, hU0]
          refine (made5_any (fun i => Sp.has ea.s i) (fun i => Sp.has eb.s i) wx).mono fun e w' hh => ?_
          obtain ⟨he, hb⟩ := hh
          exact ⟨he, hI.below hb, (hI.below hb).row, pt_storeCells (P := Try.prog) (ty := 45) (hI.below hb).r11 (by rw [ptV_len]; exact HSZ.out) (by rw [ptV_len, ptV_len]) (ptV_one _)⟩)
        have HV0 := Lib.hid hV0; have HU0 := Lib.hid hU0
        obtain ⟨A0, n0, c0, z1, z2, z3, z4, z5, z6⟩ := HC9.out.facts
        have HZ1 := Lib.hid z1
        have y0 : (wc.drew).cell? ⟨g1, b, none⟩ = some (.slice eb.A eb.n eb.c) := ((HS.out.below HC9.out.bel).get HEB.out).1
        have zl : wr.heap.size + 1 < wc.heap.size := by omega
        have yl : g1 < wc.heap.size := Nat.lt_of_lt_of_le l1 HC9.out.bel.size
        clear z4 z5 z6 hV0 hU0
        go_upto_region 25 with fail
        go_cut [] (fun wx => Hid (∃ s', PtC w wr wx ⟨5, oa, ob, ox, oy, ola, oln, olc, ols⟩ s' (fun i => Sp.has ea.s i) ∧ Sp.Mk TOP (fun x y => x && y) ea.s eb.s s'))
        case first =>
          refine wp_region_still_tail 5 (by kernel_rfl) (by kernel_rfl) ?_
          simp only [List.take_succ_cons, List.take_zero, List.drop_succ_cons, List.drop_zero]
          have y1 : (wc.drew).cell? ⟨wr.heap.size + 1, 0, none⟩ = some (.slice A0 n0 c0) := z1
          still_step
          repeat still_step
          try refine wpStill_nil ?_
          change wpList _ _ _ _ _ wc.drew
          go_wp2_with fail
          refine (HOI.out _ _ _ _ _ _ (HC9.out.below (Below.refl _ _).drew) y1).mono ?_
          rintro e w3 ⟨A3, n3, c3, out, rfl, hmk, hi3, hi4⟩
          obtain ⟨A9, n9, c9, x0, x1, x2, x3, x4, x5⟩ := hi3.facts
          have HST := Lib.hid (And.intro hmk hi4)
          clear hmk hi3 hi4 x3 x4 x5 y0 y1 z1 z2 z3
          go_wp2_with fail
          go_meet
          case rel =>
            obtain ⟨hmk, hi4⟩ := HST.out
            exact Lib.hid ⟨out, hi4, hmk⟩
        case rest =>
        obtain ⟨s2, hi2, hp2⟩ := hcut.out
        have HI2 := Lib.hid hi2; have HP2 := Lib.hid hp2
        have HM4 := Lib.hid (HMD.out _ _ (hi2.below (Below.refl _ _).drew))
        have HRB : Hid ((wc.drew).rangeAt g2 (b * 256) U0) := Lib.hid (by rw [HU0.out]; exact ((HS.out.below hi2.bel).get HEB.out).2.1)
        have HRV : Hid ((wc.drew).rangeAt (wr.heap.size + 2) 0 V0) := Lib.hid (by rw [HV0.out]; exact pt_range hi2.r11)
        have yl2 : g2 < wc.heap.size := Nat.lt_of_lt_of_le l2 hi2.bel.size
        clear hcut hi2 hp2 z1 z2 z3 zl q0 q3 q4 ql y0 yl
        go_upto_region 26 with fail
        refine wp_region_still_tail 5 (by kernel_rfl) (by kernel_rfl) ?_
        simp only [List.take_succ_cons, List.take_zero, List.drop_succ_cons, List.drop_zero]
        refine wpStill_load_mid rfl _ _ rfl _ _ (by rfl) V0 (.array 256 4) HRV.out Try.underlying45 rfl (by rw [HSZ.out, HVL0.out]) ?_
        simp only [Act.put, List.setIfInBounds_toArray, List.set_cons_zero, List.set_cons_succ]
        still_step
        still_step
        still_step
        refine wpStill_load_mid rfl _ _ rfl _ _ (by rfl) U0 (.array 256 4) HRB.out Try.underlying45 rfl (by rw [HSZ.out, HUL0.out]) ?_
        simp only [Act.put, List.setIfInBounds_toArray, List.set_cons_zero, List.set_cons_succ]
        try refine wpStill_nil ?_
        change wpList _ _ _ _ _ wc.drew
        go_wp2_with fail
        refine HM4.out.mono ?_
        rintro e w5 ⟨rfl, hi5, hi6, hst⟩
        have l8 := hi5.r11.lt
        have hpe : ptV (madeF 5 (fun i => Sp.has ea.s i) (fun i => Sp.has eb.s i)) = ptV (fun i => Sp.has s2 i) := ptV_congr fun i hi => (HP2.out.pts i (by unfold TOP; omega)).symm
        obtain ⟨V5, hV5⟩ : ∃ V5, V5 = ptV (madeF 5 (fun i => Sp.has ea.s i) (fun i => Sp.has eb.s i)) := ⟨_, rfl⟩
        have HI6 : Hid (PtC w wr (w5.setRow (wr.heap.size + 2) V5.toArray) ⟨5, oa, ob, ox, oy, ola, oln, olc, ols⟩ s2 (fun i => Sp.has s2 i)) := Lib.hid (by rw [hV5]; exact hi6.congr hpe)
        rw [← hV5] at hst ⊢
        have hvl : V5.length = 256 := by rw [hV5, ptV_len]
        clear hi5 hi6 hV5 HM4 hpe yl2
        go_wp2_with fail
        go_meet
        case rel => exact Lib.hid ⟨s2, HI6.out⟩
      have fk5 : (okd == 5) = false := by simpa using hk5
      clear hk5
      by_cases hk6 : okd = 6
      · subst hk6
        as_aux_lemma =>
        have HOI : Hid (∀ (wx : World) (s : Sp.S) (f : Nat → Bool) (A : Option Addr) (n c : Nat), PtC w wr wx ⟨6, oa, ob, ox, oy, ola, oln, olc, ols⟩ s f → wx.cell? ⟨wr.heap.size + 1, 0, none⟩ = some (.slice A n c) → Calls Try.prog 27 #[.agg #[.slice A n c], .agg #[.slice eb.A eb.n eb.c]] wx fun e w' => ∃ A' n' c' out, e = .returned (.agg #[.slice A' n' c']) ∧ Sp.Mk TOP (fun x y => x && !y) s eb.s out ∧ PtC w wr w' ⟨6, oa, ob, ox, oy, ola, oln, olc, ols⟩ s f ∧ PtC w wr (w'.setCell ⟨wr.heap.size + 1, 0, none⟩ (.slice A' n' c')) ⟨6, oa, ob, ox, oy, ola, oln, olc, ols⟩ out f) := Lib.hid (fun wx s f A n c hI hc => by
          obtain ⟨A0, n0, c0, f1, f2, f3, f4, f5, f6⟩ := hI.facts
          rw [f1] at hc
          injection hc with hc
          injection hc with e1 e2 e3
          subst e1 e2 e3
          obtain ⟨_, _, t4, t5⟩ := (HS.out.below hI.bel).get HEB.out
          refine (less_any A0 eb.A n0 c0 eb.n eb.c s eb.s wx f4 t4 (by omega)).mono fun e w' hh => ?_
          obtain ⟨A', n', c', out, he, ho, hmk, hb'⟩ := hh
          exact ⟨A', n', c', out, he, hmk, hI.below hb', (hI.below hb').set_ ho (Nat.le_trans hI.siz hI.bel.size) hmk.nrm⟩)
        have HMD : Hid (∀ (wx : World) (s : Sp.S), PtC w wr wx ⟨6, oa, ob, ox, oy, ola, oln, olc, ols⟩ s (fun i => Sp.has ea.s i) → Calls Try.prog 25 #[.int .i64 6, .agg V0.toArray, .agg U0.toArray] wx fun e w' => e = .returned (.agg (ptV (madeF 6 (fun i => Sp.has ea.s i) (fun i => Sp.has eb.s i))).toArray) ∧ PtC w wr w' ⟨6, oa, ob, ox, oy, ola, oln, olc, ols⟩ s (fun i => Sp.has ea.s i) ∧ PtC w wr (w'.setRow (wr.heap.size + 2) (ptV (madeF 6 (fun i => Sp.has ea.s i) (fun i => Sp.has eb.s i))).toArray) ⟨6, oa, ob, ox, oy, ola, oln, olc, ols⟩ s (madeF 6 (fun i => Sp.has ea.s i) (fun i => Sp.has eb.s i)) ∧ (storeCells ⟨wr.heap.size + 2, 0, none⟩ (ptV (madeF 6 (fun i => Sp.has ea.s i) (fun i => Sp.has eb.s i))) 0).run Try.prog w' = .ok () (w'.setRow (wr.heap.size + 2) (ptV (madeF 6 (fun i => Sp.has ea.s i) (fun i => Sp.has eb.s i))).toArray)) := Lib.hid (fun wx s hI => by
          rw [hV0, hU0]
          refine (made6_any (fun i => Sp.has ea.s i) (fun i => Sp.has eb.s i) wx).mono fun e w' hh => ?_
          obtain ⟨he, hb⟩ := hh
          exact ⟨he, hI.below hb, (hI.below hb).row, pt_storeCells (P := Try.prog) (ty := 45) (hI.below hb).r11 (by rw [ptV_len]; exact HSZ.out) (by rw [ptV_len, ptV_len]) (ptV_one _)⟩)
        have HV0 := Lib.hid hV0; have HU0 := Lib.hid hU0
        obtain ⟨A0, n0, c0, z1, z2, z3, z4, z5, z6⟩ := HC9.out.facts
        have HZ1 := Lib.hid z1
        have y0 : (wc.drew).cell? ⟨g1, b, none⟩ = some (.slice eb.A eb.n eb.c) := ((HS.out.below HC9.out.bel).get HEB.out).1
        have zl : wr.heap.size + 1 < wc.heap.size := by omega
        have yl : g1 < wc.heap.size := Nat.lt_of_lt_of_le l1 HC9.out.bel.size
        clear z4 z5 z6 hV0 hU0
        go_upto_region 28 with fail
        go_cut [] (fun wx => Hid (∃ s', PtC w wr wx ⟨6, oa, ob, ox, oy, ola, oln, olc, ols⟩ s' (fun i => Sp.has ea.s i) ∧ Sp.Mk TOP (fun x y => x && !y) ea.s eb.s s'))
        case first =>
          refine wp_region_still_tail 5 (by kernel_rfl) (by kernel_rfl) ?_
          simp only [List.take_succ_cons, List.take_zero, List.drop_succ_cons, List.drop_zero]
          have y1 : (wc.drew).cell? ⟨wr.heap.size + 1, 0, none⟩ = some (.slice A0 n0 c0) := z1
          still_step
          repeat still_step
          try refine wpStill_nil ?_
          change wpList _ _ _ _ _ wc.drew
          go_wp2_with fail
          refine (HOI.out _ _ _ _ _ _ (HC9.out.below (Below.refl _ _).drew) y1).mono ?_
          rintro e w3 ⟨A3, n3, c3, out, rfl, hmk, hi3, hi4⟩
          obtain ⟨A9, n9, c9, x0, x1, x2, x3, x4, x5⟩ := hi3.facts
          have HST := Lib.hid (And.intro hmk hi4)
          clear hmk hi3 hi4 x3 x4 x5 y0 y1 z1 z2 z3
          go_wp2_with fail
          go_meet
          case rel =>
            obtain ⟨hmk, hi4⟩ := HST.out
            exact Lib.hid ⟨out, hi4, hmk⟩
        case rest =>
        obtain ⟨s2, hi2, hp2⟩ := hcut.out
        have HI2 := Lib.hid hi2; have HP2 := Lib.hid hp2
        have HM4 := Lib.hid (HMD.out _ _ (hi2.below (Below.refl _ _).drew))
        have HRB : Hid ((wc.drew).rangeAt g2 (b * 256) U0) := Lib.hid (by rw [HU0.out]; exact ((HS.out.below hi2.bel).get HEB.out).2.1)
        have HRV : Hid ((wc.drew).rangeAt (wr.heap.size + 2) 0 V0) := Lib.hid (by rw [HV0.out]; exact pt_range hi2.r11)
        have yl2 : g2 < wc.heap.size := Nat.lt_of_lt_of_le l2 hi2.bel.size
        clear hcut hi2 hp2 z1 z2 z3 zl q0 q3 q4 ql y0 yl
        go_upto_region 29 with fail
        refine wp_region_still_tail 5 (by kernel_rfl) (by kernel_rfl) ?_
        simp only [List.take_succ_cons, List.take_zero, List.drop_succ_cons, List.drop_zero]
        refine wpStill_load_mid rfl _ _ rfl _ _ (by rfl) V0 (.array 256 4) HRV.out Try.underlying45 rfl (by rw [HSZ.out, HVL0.out]) ?_
        simp only [Act.put, List.setIfInBounds_toArray, List.set_cons_zero, List.set_cons_succ]
        still_step
        still_step
        still_step
        refine wpStill_load_mid rfl _ _ rfl _ _ (by rfl) U0 (.array 256 4) HRB.out Try.underlying45 rfl (by rw [HSZ.out, HUL0.out]) ?_
        simp only [Act.put, List.setIfInBounds_toArray, List.set_cons_zero, List.set_cons_succ]
        try refine wpStill_nil ?_
        change wpList _ _ _ _ _ wc.drew
        go_wp2_with fail
        refine HM4.out.mono ?_
        rintro e w5 ⟨rfl, hi5, hi6, hst⟩
        have l8 := hi5.r11.lt
        have hpe : ptV (madeF 6 (fun i => Sp.has ea.s i) (fun i => Sp.has eb.s i)) = ptV (fun i => Sp.has s2 i) := ptV_congr fun i hi => (HP2.out.pts i (by unfold TOP; omega)).symm
        obtain ⟨V5, hV5⟩ : ∃ V5, V5 = ptV (madeF 6 (fun i => Sp.has ea.s i) (fun i => Sp.has eb.s i)) := ⟨_, rfl⟩
        have HI6 : Hid (PtC w wr (w5.setRow (wr.heap.size + 2) V5.toArray) ⟨6, oa, ob, ox, oy, ola, oln, olc, ols⟩ s2 (fun i => Sp.has s2 i)) := Lib.hid (by rw [hV5]; exact hi6.congr hpe)
        rw [← hV5] at hst ⊢
        have hvl : V5.length = 256 := by rw [hV5, ptV_len]
        clear hi5 hi6 hV5 HM4 hpe yl2
        go_wp2_with fail
        go_meet
        case rel => exact Lib.hid ⟨s2, HI6.out⟩
      have fk6 : (okd == 6) = false := by simpa using hk6
      clear hk6
      clear hV0 hU0
      go_wp2_with fail
      go_meet
      case rel => exact Lib.hid ⟨_, HC9.out⟩
    case rest =>
    as_aux_lemma =>
    obtain ⟨s3, hC3⟩ := hcut.out
    have HC3' := Lib.hid hC3
    have HN3' := Lib.hid hC3.nrm
    obtain ⟨V, hV⟩ : ∃ V, V = ptV (fun i => Sp.has s3 i) := ⟨_, rfl⟩
    obtain ⟨U, hU⟩ : ∃ V, V = ptV (fun i => Sp.has eb.s i) := ⟨_, rfl⟩
    have hVL : V.length = 256 := by rw [hV, ptV_len]
    have hUL : U.length = 256 := by rw [hU, ptV_len]
    obtain ⟨A3, n3, c3, z1, z2, z3, z4, z5, z6⟩ := hC3.facts
    obtain ⟨T, hT⟩ : ∃ T, T = decide (s3 = eb.s) := ⟨_, rfl⟩
    have hTT : (T != T) = false := by simp
    have heq : ∀ wx : World, (binOp .eql 45 (.agg V.toArray) (.agg U.toArray)).run Try.prog wx = .ok (.bool T) wx := fun wx => by
      rw [hV, hU, run_eql_pt, hT, same_pt hC3.nrm (((HS.out.ok eb (List.mem_of_getElem? HEB.out))).2)]
    have HGD : Hid (∀ wy, Below wc.heap.size wc wy → wy.cell? ⟨wr.heap.size + 1, 0, none⟩ = some (.slice A3 n3 c3) ∧ wy.rangeAt (wr.heap.size + 2) 0 V ∧ wy.cell? ⟨g1, b, none⟩ = some (.slice eb.A eb.n eb.c) ∧ wy.rangeAt g2 (b * 256) U) := Lib.hid (fun wy hb => by
      have h1 := (hC3.below hb).r11
      obtain ⟨t1, t2, _, _⟩ := ((HS.out.below hC3.bel).below hb).get HEB.out
      refine ⟨(hb.cell (p := ⟨wr.heap.size + 1, 0, none⟩) (show wr.heap.size + 1 < wc.heap.size by omega)).trans z1, by rw [hV]; exact pt_range h1, t1, by rw [hU]; exact t2⟩)
    have HTO : Hid (∀ wy, Below wc.heap.size wc wy → Calls Try.prog 22 #[.agg #[.slice A3 n3 c3], .agg V.toArray] wy fun e w' => e = .returned (.bool true) ∧ Below wc.heap.size wc w') := Lib.hid (fun wy hb => by
      rw [hV]
      refine (told_any A3 n3 c3 s3 (fun i => Sp.has s3 i) wy (z4.below hb) rfl).mono fun e w' hh => ?_
      exact ⟨hh.1, hb.trans (hh.2.mono hb.size)⟩)
    have HSM : Hid (∀ wy, Below wc.heap.size wc wy → Calls Try.prog 28 #[.agg #[.slice A3 n3 c3], .agg #[.slice eb.A eb.n eb.c]] wy fun e w' => e = .returned (.bool T) ∧ Below wc.heap.size wc w') := Lib.hid (fun wy hb => by
      obtain ⟨_, _, t3, _⟩ := ((HS.out.below hC3.bel).below hb).get HEB.out
      refine (ssame_any A3 eb.A n3 eb.n c3 eb.c s3 eb.s wy (z4.below hb) t3).mono fun e w' hh => ?_
      exact ⟨by rw [hh.1, hT], hb.trans (hh.2.mono hb.size)⟩)
    have HBD : Hid (Below wc.heap.size wc wc.drew) := Lib.hid (Below.refl _ _).drew
    have hvs : (Try.prog.info? 45).map (·.size) = some V.length := by rw [hVL]; exact HSZ.out
    have hus : (Try.prog.info? 45).map (·.size) = some U.length := by rw [hUL]; exact HSZ.out
    have HVE := Lib.hid hV
    have HZ6 := Lib.hid z6
    have HVL2 := Lib.hid hVL
    clear hcut hC3 hV hU hVL hUL z1 z2 z3 z4 z5 z6 hT q0 q3 q4 ql
    go_upto_region 30 with fail
    go_cut [159] (fun x wx => x = .bool false ∧ Hid (Below wc.heap.size wc wx))
    case first =>
      as_aux_lemma =>
      refine wp_region_held_drew (S := (fun w' => w'.cell? ⟨wr.heap.size + 1, 0, none⟩ = some (.slice A3 n3 c3) ∧ w'.rangeAt (wr.heap.size + 2) 0 V ∧ w'.cell? ⟨g1, b, none⟩ = some (.slice eb.A eb.n eb.c) ∧ w'.rangeAt g2 (b * 256) U)) (by kernel_rfl) (HGD.out _ HBD.out) (fun hHeld => ?r00)
      refine wpAnyH_take (i := 0) (v := ?v0) rfl (by kernel_rfl) (by kernel_rfl) (by kernel_rfl) (fun _ _ _ h => h) (Or.inl ⟨by kernel_rfl, ?y0⟩) (by assumption) ?r0
      case y0 =>
        intro w' hSw
        try dsimp only at hSw
        go_simp
        try with_reducible rfl
      try simp only [Act.put, List.getElem_toArray, List.getElem_cons_succ, List.getElem_cons_zero, List.setIfInBounds_toArray, List.set_cons_zero, List.set_cons_succ]
      refine wpAnyH_take (i := 1) (v := _) rfl (by kernel_rfl) (by kernel_rfl) (by kernel_rfl) (fun _ _ _ h => h) (yieldsIf_load_mid (by kernel_rfl) _ _ rfl _ _ rfl V _ (fun w' hSw => hSw.2.1) hu rfl hvs) (by assumption) ?r1
      try simp only [Act.put, List.getElem_toArray, List.getElem_cons_succ, List.getElem_cons_zero, List.setIfInBounds_toArray, List.set_cons_zero, List.set_cons_succ]
      refine wpAnyH_ready (rs := [2]) (by kernel_rfl) (by simp) ?r2
      refine AllReadyH.cons rfl (fun K hK => ?r2b) AllReadyH.nil
      rw [if_pos (by kernel_rfl)]
      go_simp
      go_at_call 22
      refine (HTO.out _ HBD.out).mono ?_
      rintro e wa ⟨rfl, hba⟩
      have HBA := Lib.hid hba
      clear hba hHeld
      refine hK.out _ _ (HGD.out _ HBA.out) (fun hHeld2 => ?r2c)
      clear hK
      try simp only [Act.put, List.getElem_toArray, List.getElem_cons_succ, List.getElem_cons_zero, List.setIfInBounds_toArray, List.set_cons_zero, List.set_cons_succ]
      refine wpAnyH_take (i := 3) (v := ?v3) rfl (by kernel_rfl) (by kernel_rfl) (by kernel_rfl) (fun _ _ _ h => h) (Or.inl ⟨by kernel_rfl, ?y3⟩) (by assumption) ?r3
      case y3 =>
        intro w' hSw
        try dsimp only at hSw
        go_simp
        try with_reducible rfl
      try simp only [Act.put, List.getElem_toArray, List.getElem_cons_succ, List.getElem_cons_zero, List.setIfInBounds_toArray, List.set_cons_zero, List.set_cons_succ]
      refine wpAnyH_take (i := 4) (v := ?v4) rfl (by kernel_rfl) (by kernel_rfl) (by kernel_rfl) (fun _ _ _ h => h) (Or.inl ⟨by kernel_rfl, ?y4⟩) (by assumption) ?r4
      case y4 =>
        intro w' hSw
        try dsimp only at hSw
        go_simp
        try with_reducible rfl
      try simp only [Act.put, List.getElem_toArray, List.getElem_cons_succ, List.getElem_cons_zero, List.setIfInBounds_toArray, List.set_cons_zero, List.set_cons_succ]
      refine wpAnyH_take (i := 5) (v := ?v5) rfl (by kernel_rfl) (by kernel_rfl) (by kernel_rfl) (fun _ _ _ h => h) (Or.inl ⟨by kernel_rfl, ?y5⟩) (by assumption) ?r5
      case y5 =>
        intro w' hSw
        try dsimp only at hSw
        go_simp
        try with_reducible rfl
      try simp only [Act.put, List.getElem_toArray, List.getElem_cons_succ, List.getElem_cons_zero, List.setIfInBounds_toArray, List.set_cons_zero, List.set_cons_succ]
      refine wpAnyH_take (i := 6) (v := ?v6) rfl (by kernel_rfl) (by kernel_rfl) (by kernel_rfl) (fun _ _ _ h => h) (Or.inl ⟨by kernel_rfl, ?y6⟩) (by assumption) ?r6
      case y6 =>
        intro w' hSw
        try dsimp only at hSw
        go_simp
        try with_reducible rfl
      try simp only [Act.put, List.getElem_toArray, List.getElem_cons_succ, List.getElem_cons_zero, List.setIfInBounds_toArray, List.set_cons_zero, List.set_cons_succ]
      refine wpAnyH_take (i := 7) (v := ?v7) rfl (by kernel_rfl) (by kernel_rfl) (by kernel_rfl) (fun _ _ _ h => h) (Or.inl ⟨by kernel_rfl, ?y7⟩) (by assumption) ?r7
      case y7 =>
        intro w' hSw
        try dsimp only at hSw
        go_simp
        try with_reducible rfl
      try simp only [Act.put, List.getElem_toArray, List.getElem_cons_succ, List.getElem_cons_zero, List.setIfInBounds_toArray, List.set_cons_zero, List.set_cons_succ]
      refine wpAnyH_take (i := 8) (v := ?v8) rfl (by kernel_rfl) (by kernel_rfl) (by kernel_rfl) (fun _ _ _ h => h) (Or.inl ⟨by kernel_rfl, ?y8⟩) (by assumption) ?r8
      case y8 =>
        intro w' hSw
        try dsimp only at hSw
        go_simp
        try with_reducible rfl
      try simp only [Act.put, List.getElem_toArray, List.getElem_cons_succ, List.getElem_cons_zero, List.setIfInBounds_toArray, List.set_cons_zero, List.set_cons_succ]
      refine wpAnyH_take (i := 9) (v := ?v9) rfl (by kernel_rfl) (by kernel_rfl) (by kernel_rfl) (fun _ _ _ h => h) (Or.inl ⟨by kernel_rfl, ?y9⟩) (by assumption) ?r9
      case y9 =>
        intro w' hSw
        try dsimp only at hSw
        go_simp
        try with_reducible rfl
      try simp only [Act.put, List.getElem_toArray, List.getElem_cons_succ, List.getElem_cons_zero, List.setIfInBounds_toArray, List.set_cons_zero, List.set_cons_succ]
      refine wpAnyH_take (i := 11) (v := _) rfl (by kernel_rfl) (by kernel_rfl) (by kernel_rfl) (fun _ _ _ h => h) (yieldsIf_load_mid (by kernel_rfl) _ _ rfl _ _ rfl V _ (fun w' hSw => hSw.2.1) hu rfl hvs) (by assumption) ?r11
      try simp only [Act.put, List.getElem_toArray, List.getElem_cons_succ, List.getElem_cons_zero, List.setIfInBounds_toArray, List.set_cons_zero, List.set_cons_succ]
      refine wpAnyH_take (i := 12) (v := ?v12) rfl (by kernel_rfl) (by kernel_rfl) (by kernel_rfl) (fun _ _ _ h => h) (Or.inl ⟨by kernel_rfl, ?y12⟩) (by assumption) ?r12
      case y12 =>
        intro w' hSw
        try dsimp only at hSw
        go_simp
        try with_reducible rfl
      try simp only [Act.put, List.getElem_toArray, List.getElem_cons_succ, List.getElem_cons_zero, List.setIfInBounds_toArray, List.set_cons_zero, List.set_cons_succ]
      refine wpAnyH_take (i := 13) (v := ?v13) rfl (by kernel_rfl) (by kernel_rfl) (by kernel_rfl) (fun _ _ _ h => h) (Or.inl ⟨by kernel_rfl, ?y13⟩) (by assumption) ?r13
      case y13 =>
        intro w' hSw
        try dsimp only at hSw
        go_simp
        try with_reducible rfl
      try simp only [Act.put, List.getElem_toArray, List.getElem_cons_succ, List.getElem_cons_zero, List.setIfInBounds_toArray, List.set_cons_zero, List.set_cons_succ]
      refine wpAnyH_take (i := 14) (v := ?v14) rfl (by kernel_rfl) (by kernel_rfl) (by kernel_rfl) (fun _ _ _ h => h) (Or.inl ⟨by kernel_rfl, ?y14⟩) (by assumption) ?r14
      case y14 =>
        intro w' hSw
        try dsimp only at hSw
        go_simp
        try with_reducible rfl
      try simp only [Act.put, List.getElem_toArray, List.getElem_cons_succ, List.getElem_cons_zero, List.setIfInBounds_toArray, List.set_cons_zero, List.set_cons_succ]
      refine wpAnyH_take (i := 15) (v := _) rfl (by kernel_rfl) (by kernel_rfl) (by kernel_rfl) (fun _ _ _ h => h) (yieldsIf_load_mid (by kernel_rfl) _ _ rfl _ _ rfl U _ (fun w' hSw => hSw.2.2.2) hu rfl hus) (by assumption) ?r15
      try simp only [Act.put, List.getElem_toArray, List.getElem_cons_succ, List.getElem_cons_zero, List.setIfInBounds_toArray, List.set_cons_zero, List.set_cons_succ]
      refine wpAnyH_take (i := 16) (v := ?v16) rfl (by kernel_rfl) (by kernel_rfl) (by kernel_rfl) (fun _ _ _ h => h) (Or.inl ⟨by kernel_rfl, ?y16⟩) (by assumption) ?r16
      case y16 =>
        intro w' hSw
        try dsimp only at hSw
        go_simp
        try with_reducible rfl
      try simp only [Act.put, List.getElem_toArray, List.getElem_cons_succ, List.getElem_cons_zero, List.setIfInBounds_toArray, List.set_cons_zero, List.set_cons_succ]
      refine wpAnyH_ready (rs := [10]) (by kernel_rfl) (by simp) ?r10
      refine AllReadyH.cons rfl (fun K hK => ?r10b) AllReadyH.nil
      rw [if_pos (by kernel_rfl)]
      go_simp
      go_at_call 28
      refine (HSM.out _ HBA.out).mono ?_
      rintro e we ⟨rfl, hbe⟩
      have HBE := Lib.hid hbe
      clear hbe
      refine hK.out _ _ (HGD.out _ HBE.out) (fun hHeld2 => ?r10c)
      clear hK
      try simp only [Act.put, List.getElem_toArray, List.getElem_cons_succ, List.getElem_cons_zero, List.setIfInBounds_toArray, List.set_cons_zero, List.set_cons_succ]
      refine wpAnyH_take (i := 17) (v := ?v17) rfl (by kernel_rfl) (by kernel_rfl) (by kernel_rfl) (fun _ _ _ h => h) (Or.inl ⟨by kernel_rfl, ?y17⟩) (by assumption) ?r17
      case y17 =>
        intro w' hSw
        try dsimp only at hSw
        go_simp
        try with_reducible rfl
      try simp only [Act.put, List.getElem_toArray, List.getElem_cons_succ, List.getElem_cons_zero, List.setIfInBounds_toArray, List.set_cons_zero, List.set_cons_succ]
      refine wpAnyH_take (i := 18) (v := ?v18) rfl (by kernel_rfl) (by kernel_rfl) (by kernel_rfl) (fun _ _ _ h => h) (Or.inl ⟨by kernel_rfl, ?y18⟩) (by assumption) ?r18
      case y18 =>
        intro w' hSw
        try dsimp only at hSw
        go_simp
        try with_reducible rfl
      try simp only [Act.put, List.getElem_toArray, List.getElem_cons_succ, List.getElem_cons_zero, List.setIfInBounds_toArray, List.set_cons_zero, List.set_cons_succ]
      refine wpAnyH_done (by kernel_rfl) ?_ _
      go_wp2_with fail
      go_meet
      case rel => exact ⟨rfl, HBE⟩
    case rest =>
    as_aux_lemma =>
    obtain ⟨rfl, HB5⟩ := hcut
    have HS5 := Lib.hid (HS.out.below (HC3'.out.bel.trans (HB5.out.mono HC3'.out.bel.size)))
    have HC5 := Lib.hid (HC3'.out.below HB5.out)
    obtain ⟨A4, n4, c4, z1, z2, z3, z4, z5, z6⟩ := HC5.out.facts
    obtain ⟨i0, hi0, hj1, hj2⟩ : ∃ i0, Try.prog.info? 43 = some i0 ∧ i0.zero = some (.agg #[.slice none 0 0]) ∧ i0.size = 1 ∧ i0.bytes = 24 := by
      cases h : Try.prog.info? 43 with
      | none => have : (Try.prog.info? 43).isSome = true := by kernel_rfl
                rw [h] at this; cases this
      | some i0 =>
        have e : (Try.prog.info? 43).map (fun i => (i.zero, i.size, i.bytes)) = some (some (.agg #[.slice none 0 0]), 1, 24) := by kernel_rfl
        rw [h] at e
        simp only [Option.map_some, Option.some.injEq, Prod.mk.injEq] at e
        exact ⟨i0, rfl, e.1, e.2.1, e.2.2⟩
    obtain ⟨ip, hip, hp1, hp2, hp3⟩ : ∃ ip, Try.prog.info? 45 = some ip ∧ ip.zero = some (.agg Z.toArray) ∧ ip.size = 256 ∧ ip.bytes = 256 := by
      cases h : Try.prog.info? 45 with
      | none => have : (Try.prog.info? 45).isSome = true := by kernel_rfl
                rw [h] at this; cases this
      | some i0 =>
        have e := infoPt
        have e2 : (Try.prog.info? 45).map (fun i => i.bytes) = some 256 := by kernel_rfl
        rw [h] at e e2
        simp only [Option.map_some, Option.some.injEq, Prod.mk.injEq] at e e2
        exact ⟨i0, rfl, by rw [HZ.out]; exact e.1, e.2, e2⟩
    have HI0 := Lib.hid hi0; have HJ := Lib.hid (And.intro hj1 hj2); have HIP := Lib.hid hip; have HP := Lib.hid (And.intro hp1 (And.intro hp2 hp3))
    have HE4 : Hid (OwnS wc w.heap.size A4 n4 c4 s3) := Lib.hid z6
    have m60 : m ≤ 60 := by have := HM.out; have := H60.out; omega
    obtain ⟨N5, hN5⟩ : ∃ N5, N5 = wc.heap.size := ⟨_, rfl⟩
    have hal : Below wc.heap.size wc (wc.alloc (.cells #[.slice A4 n4 c4] 43)) := (Below.refl _ _).alloc (Nat.le_refl _) _
    have HRD : Hid (Reads (wc.alloc (.cells #[.slice A4 n4 c4] 43)) (wc.heap.size + 1) 1 (some ⟨wc.heap.size, 0, none⟩) 1 [.slice A4 n4 c4]) := Lib.hid (by
      have h := Reads.of_own (own_new1 wc 0 43 1 [.slice A4 n4 c4] rfl (Nat.zero_le _))
      simpa using h)
    have HS6 := Lib.hid (HS5.out.below hal)
    have HC6 := Lib.hid (HC5.out.below hal)
    have HB6 := Lib.hid hal
    clear hi0 hj1 hj2 hip hp1 hp2 hp3 hN5 hal z2 z4 z5 z6
    have zl : wr.heap.size + 1 < wc.heap.size := by omega
    clear z3
    go_upto_region 32 with fail
    go_upto_region 33 with (at_builtin; refine wpList_append_sl _ (by rfl) (.tmp 160) (.tmp 162) 60 rfl w.heap.size 43 i0 _ 1 24 Try.underlying60 HI0.out HJ.out.1 HJ.out.2.1 HJ.out.2.2 rfl (by omega) (.slice (some ⟨g1, 0, none⟩) m c1) m (L.map PtEl.v) rfl HS6.out.o1 _ (some ⟨wc.heap.size, 0, none⟩) 1 1 [.slice A4 n4 c4] rfl HRD.out (by simp [Value.oneCell']) (by unfold maxLen; omega) (by omega) (by simp; have := HS5.out.bel.size; omega) ?_; intro A7 c7 w7 hown hrd hgr hat; have HOWN := Lib.hid hown; have HGR := Lib.hid hgr; clear hown hrd hgr hat)
    have HS7 := Lib.hid (HS6.out.grow1 ⟨A4, n4, c4, s3⟩ ⟨⟨owns_chgr (S := []) HE4.out.1 (Chg.of_below HB6.out) (fun _ _ h => by cases h), HE4.out.2⟩, HN3'.out⟩ HOWN.out HGR.out)
    have HR7 := Lib.hid (HS6.out.row1 HC6.out.r11 HGR.out)
    rw [show ptV (fun i => Sp.has s3 i) = V from HVE.out.symm] at HR7
    have HA8 : Hid (Below w7.heap.size w7 (w7.alloc (.cells V.toArray 45))) := Lib.hid ((Below.refl _ _).alloc (Nat.le_refl _) _)
    have HRD8 : Hid (Reads (w7.alloc (.cells V.toArray 45)) (w7.heap.size + 1) 256 (some ⟨w7.heap.size, 0, none⟩) 1 V) := Lib.hid (by
      have h := Reads.of_own (own_new1 w7 0 45 256 V HVL2.out (Nat.zero_le _))
      simpa using h)
    have HS8 := Lib.hid (HS7.out.below HA8.out)
    have HV1 : Hid (∀ u ∈ V, u.oneCell' = true) := Lib.hid (by rw [HVE.out]; exact ptV_one _)
    clear HS6 HC6 HOWN HGR HRD z1 zl
    go_wp2_with (first
      | (refine wpList_load_mid rfl _ _ rfl _ _ (by rfl) V (.array 256 4) (pt_range HR7.out) Try.underlying45 rfl (by rw [HSZ.out, HVL2.out]) ?_)
      | (refine wpList_bs_pt rfl (.tmp 165) rfl V rfl HVL2.out ?_)
      | (at_builtin; refine wpList_append_sl _ (by rfl) (.tmp 164) (.tmp 166) 61 rfl w.heap.size 45 ip _ 256 256 Try.underlying61 HIP.out HP.out.1 HP.out.2.1 HP.out.2.2 (by show Z.toArray.size = 256; simpa using HZL.out) (by omega) (.slice (some ⟨g2, 0, none⟩) m c2) m (L.map PtEl.p).flatten rfl HS8.out.o2 _ (some ⟨w7.heap.size, 0, none⟩) 1 1 V rfl HRD8.out HV1.out (by unfold maxLen; omega) (by omega) (by have := HS8.out.bel.size; omega) ?_; intro A9 c9 w9 hown hrd hgr hat; have HOWN9 := Lib.hid hown; have HGR9 := Lib.hid hgr; clear hown hrd hgr hat))
    go_roundw
    case rel =>
      have h9 := HS8.out.grow2 ⟨A4, n4, c4, s3⟩ (A' := A9) (c' := c9) (by
        have e : PtEl.p ⟨A4, n4, c4, s3⟩ = V := HVE.out.symm
        rw [e]; exact HOWN9.out) HGR9.out
      exact ⟨i + 1, m + 1, A7, A9, c7, c9, L ++ [⟨A4, n4, c4, s3⟩], by have := H60.out; omega, by have := HM.out; omega, by go_num, by go_num, by go_num, Lib.hid h9⟩
    case measure => have := H60.out; simp [intOf]; try omega
end Go.Proofs.Ytchajbegjajlkaa
