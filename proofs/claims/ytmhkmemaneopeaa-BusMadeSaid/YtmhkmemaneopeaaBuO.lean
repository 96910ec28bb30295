/- The document's machine: access, Where, right. -/
import Derived.Test.YtmhkmemaneopeaaBuJ
set_option linter.unusedVariables false
set_option linter.unusedSimpArgs false
namespace Go.Proofs.Ytmhkmemaneopeaa
open Go.RowKit
open S64
namespace Bu
theorem RMA.drew {w : World} {B g : Nat} {M : PM} {A1 A2 Ap : Option Addr} {n1 n2 c1 c2 np cp : Nat} {pgs : List (Nat × Nat)} (h : RMA w B g M A1 A2 Ap n1 n2 c1 c2 np cp pgs) : RMA w.drew B g M A1 A2 Ap n1 n2 c1 c2 np cp pgs := h.below (Below.refl _ _).drew
theorem RMA.count {w : World} {B g : Nat} {M : PM} {A1 A2 Ap : Option Addr} {n1 n2 c1 c2 np cp : Nat} {pgs : List (Nat × Nat)} (h : RMA w B g M A1 A2 Ap n1 n2 c1 c2 np cp pgs) (i : Nat) (v : Value) (M' : PM) (e1 : M'.rams = M.rams) (e2 : M'.devs = M.devs) (e3 : M'.mem = M.mem)
    (hv : [.slice A1 n1 c1, .slice A2 n2 c2, .slice Ap np cp, .int .i64 (M.loads : Nat), .int .i64 (M.stores : Nat), .int .i64 (M.strays : Nat)].set i v = [.slice A1 n1 c1, .slice A2 n2 c2, .slice Ap np cp, .int .i64 (M'.loads : Nat), .int .i64 (M'.stores : Nat), .int .i64 (M'.strays : Nat)]) :
    RMA (w.setCell ⟨g, i, none⟩ v) B g M' A1 A2 Ap n1 n2 c1 c2 np cp pgs := by
  have hrow := h.row.set_ i v
  rw [hv] at hrow
  exact ⟨hrow, h.gB, by rw [e1]; exact ⟨h.rams.1.setCell (p := ⟨g, i, none⟩) h.gB v, h.rams.2⟩, by rw [e2]; exact ⟨h.devs.1.setCell (p := ⟨g, i, none⟩) h.gB v, h.devs.2⟩, by rw [e1, e2]; exact h.ok, own_setr h.own h.row (by decide) i v, h.plen, fun x hx => ⟨(h.bytes x hx).1, by rw [e3]; exact (h.bytes x hx).2.far (p := ⟨g, i, none⟩) (Row.ne_t (h.bytes x hx).2 h.row (by decide)) v⟩, h.nums, h.blks, by rw [e3]; exact h.out, by rw [e3]; exact h.byte⟩
theorem RMA.far {w : World} {B g : Nat} {M : PM} {A1 A2 Ap : Option Addr} {n1 n2 c1 c2 np cp : Nat} {pgs : List (Nat × Nat)} (h : RMA w B g M A1 A2 Ap n1 n2 c1 c2 np cp pgs) {f : Nat} {cs : List Value} (hr : Row w f 46 cs) (hB : B ≤ f) (i : Nat) (v : Value) :
    RMA (w.setCell ⟨f, i, none⟩ v) B g M A1 A2 Ap n1 n2 c1 c2 np cp pgs :=
  ⟨h.row.far (p := ⟨f, i, none⟩) (Row.ne_t h.row hr (by decide)) v, h.gB, ⟨h.rams.1.setCell (p := ⟨f, i, none⟩) hB v, h.rams.2⟩, ⟨h.devs.1.setCell (p := ⟨f, i, none⟩) hB v, h.devs.2⟩, h.ok, own_setr h.own hr (by decide) i v, h.plen, fun x hx => ⟨(h.bytes x hx).1, (h.bytes x hx).2.far (p := ⟨f, i, none⟩) (Row.ne_t (h.bytes x hx).2 hr (by decide)) v⟩, h.nums, h.blks, h.out, h.byte⟩
set_option maxRecDepth 100000 in
set_option maxHeartbeats 2000000 in
theorem refaccess_any {w : World} {B g : Nat} {M : PM} {A1 A2 Ap : Option Addr} {n1 n2 c1 c2 np cp : Nat} {pgs : List (Nat × Nat)} (h : RMA w B g M A1 A2 Ap n1 n2 c1 c2 np cp pgs) (at_ n : Nat) (ha : at_ ≤ TOP) (hn : n ≤ 9223372036854775807) (hs : M.strays < 9223372036854775807) {F : Option Nat} (hF : OffIs (M.rams ++ M.devs) at_ n F) :
    Calls Try.prog 59 #[.pointer (some ⟨g, 0, none⟩), .int .u64 (at_ : Nat), .int .i64 (n : Nat)] w fun e w' => e = .returned (faultV F) ∧ RMA w' B g (stray M F) A1 A2 Ap n1 n2 c1 c2 np cp pgs ∧ ChgP (fun k => k = g) w w' := by
  have H := Lib.hid h
  have HA := Lib.hid ha; have HN := Lib.hid hn; have HF := Lib.hid hF; have HS := Lib.hid hs
  have hgB : B ≤ w.heap.size := Nat.le_of_lt (Nat.lt_of_le_of_lt h.gB h.row.lt)
  have HGB := Lib.hid hgB
  clear h ha hn hF hs hgB
  go_enter Try.func59, Try.ntmps59
  go_upto_region 1 with fail
  have r0 : Row (w.alloc (.cells #[.int .i64 0, .int .u64 0] 46)) w.heap.size 46 [.int .i64 0, .int .u64 0] := Row.new w _ [.int .i64 0, .int .u64 0]
  have hb0 : Below w.heap.size w (w.alloc (.cells #[.int .i64 0, .int .u64 0] 46)) := (Below.refl _ _).alloc (Nat.le_refl _) _
  obtain ⟨c, hc⟩ : ∃ c, c = w.heap.size := ⟨_, rfl⟩
  generalize w.alloc (.cells #[.int .i64 0, .int .u64 0] 46) = w1 at *
  rw [← hc] at r0 ⊢
  have HC := Lib.hid hc
  have HR0 := Lib.hid r0
  have HB0 := Lib.hid hb0
  have HM1 := Lib.hid (H.out.below hb0)
  clear hc r0 hb0
  go_wp2_with fail
  refine (refoff_any HM1.out at_ n HA.out HN.out HF.out).mono ?_
  rintro e w2 ⟨rfl, h2⟩
  have HM2 := Lib.hid (HM1.out.below h2)
  have HR2 := Lib.hid (HR0.out.below h2 HR0.out.lt)
  have HB2 := Lib.hid (HB0.out.trans (h2.mono HB0.out.size))
  clear h2 HM1 HR0 HB0
  cases F with
  | none =>
    have z0 := HR2.out.cell 0
    have z1 := HR2.out.cell 1
    have zf0 := HR2.out.frozen 0
    have zf1 := HR2.out.frozen 1
    have lz := HR2.out.lt
    simp only [List.getElem?_cons_zero, List.getElem?_cons_succ] at z0 z1
    unfold offV
    simp only [Option.getD_none, Option.isSome_none]
    have hr5 := (HR2.out.set_ 0 (.int .i64 0)).set_ 1 (.int .u64 0)
    have y0 := hr5.cell 0
    have y1 := hr5.cell 1
    simp only [List.set_cons_zero, List.set_cons_succ, List.getElem?_cons_zero, List.getElem?_cons_succ] at y0 y1
    have HY0 := Lib.hid y0; have HY1 := Lib.hid y1
    have HM5 : Hid (RMA ((w2.setCell ⟨c, 0, none⟩ (.int .i64 0)).setCell ⟨c, 1, none⟩ (.int .u64 0)) B g M A1 A2 Ap n1 n2 c1 c2 np cp pgs) := Lib.hid ((HM2.out.far HR2.out (by rw [HC.out]; exact HGB.out) 0 _).far (HR2.out.set_ 0 _) (by rw [HC.out]; exact HGB.out) 1 _)
    have HC5 : Hid (ChgP (fun k => k = g) w ((w2.setCell ⟨c, 0, none⟩ (.int .i64 0)).setCell ⟨c, 1, none⟩ (.int .u64 0))) := Lib.hid (((ChgP.of_below HB2.out).set_ (p := ⟨c, 0, none⟩) (.inr (Nat.le_of_eq HC.out.symm)) _).set_ (p := ⟨c, 1, none⟩) (.inr (Nat.le_of_eq HC.out.symm)) _)
    clear hr5 y0 y1
    go_wp2_with fail
    refine bodyPost_ret (v := .agg #[.int .i64 0, .int .u64 0]) (by simp [results, Try.results59, go_sem, HY0.out, HY1.out]) rfl ⟨rfl, HM5.out, HC5.out⟩
  | some q =>
    have hst : M.strays < 9223372036854775807 := HS.out
    unfold offV
    simp only [Option.getD_some, Option.isSome_some]
    have p5 := HM2.out.row.cell 5
    have pf := HM2.out.row.frozen 5
    have lg := HM2.out.row.lt
    simp only [List.getElem?_cons_zero, List.getElem?_cons_succ] at p5
    go_upto_region 4 with fail
    have hm3 : RMA (w2.setCell ⟨g, 5, none⟩ (.int .i64 ((M.strays : Int) + 1))) B g { M with strays := M.strays + 1 } A1 A2 Ap n1 n2 c1 c2 np cp pgs := HM2.out.count 5 _ _ rfl rfl rfl (by simp)
    have hr3 : Row (w2.setCell ⟨g, 5, none⟩ (.int .i64 ((M.strays : Int) + 1))) c 46 [.int .i64 0, .int .u64 0] := HR2.out.far (p := ⟨g, 5, none⟩) (Row.ne_t HR2.out HM2.out.row (by decide)) _
    have hc3 : ChgP (fun k => k = g) w (w2.setCell ⟨g, 5, none⟩ (.int .i64 ((M.strays : Int) + 1))) := (ChgP.of_below (Z := fun k => k = g) HB2.out).set_ (p := ⟨g, 5, none⟩) (.inl rfl) _
    clear p5 pf lg hst
    generalize w2.setCell ⟨g, 5, none⟩ (.int .i64 ((M.strays : Int) + 1)) = w3 at *
    have HM3 := Lib.hid hm3; have HR3 := Lib.hid hr3; have HC3 := Lib.hid hc3
    have z0 := hr3.cell 0
    have z1 := hr3.cell 1
    have zf0 := hr3.frozen 0
    have zf1 := hr3.frozen 1
    have lz := hr3.lt
    simp only [List.getElem?_cons_zero, List.getElem?_cons_succ] at z0 z1
    have hr5 := (hr3.set_ 0 (.int .i64 30)).set_ 1 (.int .u64 (q : Nat))
    have y0 := hr5.cell 0
    have y1 := hr5.cell 1
    simp only [List.set_cons_zero, List.set_cons_succ, List.getElem?_cons_zero, List.getElem?_cons_succ] at y0 y1
    have HY0 := Lib.hid y0; have HY1 := Lib.hid y1
    have HM5 : Hid (RMA ((w3.setCell ⟨c, 0, none⟩ (.int .i64 30)).setCell ⟨c, 1, none⟩ (.int .u64 (q : Nat))) B g { M with strays := M.strays + 1 } A1 A2 Ap n1 n2 c1 c2 np cp pgs) := Lib.hid ((HM3.out.far HR3.out (by rw [HC.out]; exact HGB.out) 0 _).far (HR3.out.set_ 0 _) (by rw [HC.out]; exact HGB.out) 1 _)
    have HC5 : Hid (ChgP (fun k => k = g) w ((w3.setCell ⟨c, 0, none⟩ (.int .i64 30)).setCell ⟨c, 1, none⟩ (.int .u64 (q : Nat)))) := Lib.hid ((HC3.out.set_ (p := ⟨c, 0, none⟩) (.inr (Nat.le_of_eq HC.out.symm)) _).set_ (p := ⟨c, 1, none⟩) (.inr (Nat.le_of_eq HC.out.symm)) _)
    clear hr5 hm3 hr3 hc3 y0 y1
    go_wp2_with fail
    refine bodyPost_ret (v := .agg #[.int .i64 30, .int .u64 (q : Nat)]) (by simp [results, Try.results59, go_sem, HY0.out, HY1.out]) rfl ⟨rfl, HM5.out, HC5.out⟩
theorem refright_any (z : Int) (w : World) : Calls Try.prog 58 #[.int .i64 z] w fun e w' => e = .returned (.bool (wideB z)) ∧ w = w' := by
  have H1 := Lib.hid (show wideB z = (z == 1 || z == 2 || z == 4 || z == 8) from rfl)
  obtain ⟨b, hb⟩ : ∃ b, b = wideB z := ⟨_, rfl⟩
  rw [← hb] at H1 ⊢
  clear hb
  cases h1 : (z == 1) with
  | true =>
    go_enter Try.func58, Try.ntmps58
    go_wp2_with fail
    go_ret
    exact ⟨by rw [H1.out, h1]; rfl, rfl⟩
  | false =>
  cases h2 : (z == 2) with
  | true =>
    go_enter Try.func58, Try.ntmps58
    go_wp2_with fail
    go_ret
    exact ⟨by rw [H1.out, h1, h2]; rfl, rfl⟩
  | false =>
  cases h3 : (z == 4) with
  | true =>
    go_enter Try.func58, Try.ntmps58
    go_wp2_with fail
    go_ret
    exact ⟨by rw [H1.out, h1, h2, h3]; rfl, rfl⟩
  | false =>
  cases h4 : (z == 8) with
  | true =>
    go_enter Try.func58, Try.ntmps58
    go_wp2_with fail
    go_ret
    exact ⟨by rw [H1.out, h1, h2, h3, h4]; rfl, rfl⟩
  | false =>
    go_enter Try.func58, Try.ntmps58
    go_wp2_with fail
    go_ret
    exact ⟨by rw [H1.out, h1, h2, h3, h4]; rfl, rfl⟩
theorem where_found {M : PM} {at_ i : Nat} {r : Nat × Nat} (hi : (M.rams ++ M.devs)[i]? = some r) (hr : inR at_ r = true) (hb : ∀ (j : Nat) (x : Nat × Nat), j < i → (M.rams ++ M.devs)[j]? = some x → inR at_ x = false) :
    spotF M at_ 3 = if i < M.rams.length then some (1, i, at_ - r.1) else some (2, i - M.rams.length, at_ - r.1) := by
  have h0 : spotF M at_ 3 = spotF M at_ (3 - 1) := spotF_next (k := 0) (by omega) (fun j x h => by simp [lst3] at h)
  rw [h0]
  split
  · rename_i hl
    rw [List.getElem?_append_left hl] at hi
    exact spotF_found (k := 1) (by omega) hi hr (fun j x hj hx => hb j x hj (by rw [List.getElem?_append_left (by omega)]; exact hx))
  · rename_i hl
    have h1 : spotF M at_ (3 - 1) = spotF M at_ (3 - 2) := spotF_next (k := 1) (by omega) (fun j x h => by
      have hj : j < M.rams.length := (List.getElem?_eq_some_iff.1 h).1
      exact hb j x (by omega) (by rw [List.getElem?_append_left hj]; exact h))
    rw [h1]
    rw [List.getElem?_append_right (by omega)] at hi
    exact spotF_found (k := 2) (by omega) hi hr (fun j x hj hx => hb (M.rams.length + j) x (by omega) (by rw [List.getElem?_append_right (by omega), show M.rams.length + j - M.rams.length = j by omega]; exact hx))
theorem where_none {M : PM} {at_ : Nat} (hb : ∀ (j : Nat) (x : Nat × Nat), (M.rams ++ M.devs)[j]? = some x → inR at_ x = false) : spotF M at_ 3 = none := by
  have h0 : spotF M at_ 3 = spotF M at_ (3 - 1) := spotF_next (k := 0) (by omega) (fun j x h => by simp [lst3] at h)
  have h1 : spotF M at_ (3 - 1) = spotF M at_ (3 - 2) := spotF_next (k := 1) (by omega) (fun j x h => by
    have hj : j < M.rams.length := (List.getElem?_eq_some_iff.1 h).1
    exact hb j x (by rw [List.getElem?_append_left hj]; exact h))
  have h2 : spotF M at_ (3 - 2) = spotF M at_ (3 - 3) := spotF_next (k := 2) (by omega) (fun j x h => by
    exact hb (M.rams.length + j) x (by rw [List.getElem?_append_right (by omega), show M.rams.length + j - M.rams.length = j by omega]; exact h))
  rw [h0, h1, h2]; rfl
set_option maxRecDepth 100000 in
set_option maxHeartbeats 4000000 in
theorem refwhere_any {w : World} {B g : Nat} {M : PM} {A1 A2 Ap : Option Addr} {n1 n2 c1 c2 np cp : Nat} {pgs : List (Nat × Nat)} (h : RMA w B g M A1 A2 Ap n1 n2 c1 c2 np cp pgs) (at_ : Nat) (ha : at_ ≤ TOP) :
    Calls Try.prog 14 #[.pointer (some ⟨g, 0, none⟩), .int .u64 (at_ : Nat)] w (WhereSaid w (spotF M at_ 3)) := by
  have hn1 : n1 ≤ 8 := by have := h.ok.r8; have := h.rams.2.1; omega
  have hn2 : n2 ≤ 32 := by have := h.ok.d32; have := h.devs.2.1; omega
  have H := Lib.hid h
  have hat64 : at_ ≤ 18446744073709551615 := ha
  clear h ha
  go_enter Try.func14, Try.ntmps14
  go_upto_region 1 with fail
  have r0 : Row (w.alloc (.cells #[.int .i64 0, .int .i64 0, .int .u64 0] 37)) w.heap.size 37 [.int .i64 0, .int .i64 0, .int .u64 0] := Row.new w _ [.int .i64 0, .int .i64 0, .int .u64 0]
  have hb0 : Below w.heap.size w (w.alloc (.cells #[.int .i64 0, .int .i64 0, .int .u64 0] 37)) := (Below.refl _ _).alloc (Nat.le_refl _) _
  obtain ⟨c, hc⟩ : ∃ c, c = w.heap.size := ⟨_, rfl⟩
  generalize w.alloc (.cells #[.int .i64 0, .int .i64 0, .int .u64 0] 37) = w1 at *
  rw [← hc] at r0 ⊢
  have HC : Hid (w.heap.size ≤ c) := Lib.hid (Nat.le_of_eq hc.symm)
  have HR0 := Lib.hid r0
  have HB0 := Lib.hid hb0
  have HM1 := Lib.hid (H.out.below hb0)
  clear hc r0 hb0 H
  have p0 := HM1.out.row.cell 0
  have p1 := HM1.out.row.cell 1
  have lp := HM1.out.row.lt
  simp only [List.getElem?_cons_zero, List.getElem?_cons_succ] at p0 p1
  go_wp2_with fail
  refine (refall_any A1 A2 n1 n2 c1 c2 M.rams M.devs w1 HM1.out.more1 HM1.out.more2 (by omega) (by omega)).mono ?_
  rintro e w2 ⟨AL, cl, rfl, h3, h4⟩
  obtain ⟨N, hN⟩ : ∃ N, N = n1 + n2 := ⟨_, rfl⟩
  rw [← hN] at h3 ⊢
  have hN40 : N ≤ 40 := by omega
  have HL := Lib.hid h3
  have HM2 := Lib.hid (HM1.out.below h4)
  have HR2 := Lib.hid (HR0.out.below h4 HR0.out.lt)
  have HB2 := Lib.hid (HB0.out.trans (h4.mono HB0.out.size))
  clear h3 h4 hN p0 p1 lp HM1 HR0 HB0
  go_wp2_with fail
  go_loopw [7] (fun i wr => ∃ j : Nat, j ≤ N ∧ i = .int .i64 (j : Nat) ∧ Hid (∀ (x : Nat) (r : Nat × Nat), x < j → (M.rams ++ M.devs)[x]? = some r → inR at_ r = false) ∧ Hid (Below w2.heap.size w2 wr)) (fun i _ => N - (intOf i).toNat)
  case atStart => exact ⟨0, by omega, rfl, Lib.hid (fun x r h => absurd h (by omega)), Lib.hid (Below.refl _ _)⟩
  case round =>
  obtain ⟨j, hj, rfl, HNO, HB⟩ := hrel
  have HBW : Hid (Below w.heap.size w wr) := Lib.hid (HB2.out.trans (HB.out.mono HB2.out.size))
  have HRW := Lib.hid (HR2.out.below HB.out HR2.out.lt)
  by_cases hjN : j < N
  · obtain ⟨bl, ol, hf⟩ := HL.out.form
    obtain ⟨rfl, hbB, _⟩ := hf.out (by omega)
    clear hf
    obtain ⟨⟨b, t⟩, hx⟩ : ∃ x, (M.rams ++ M.devs)[j]? = some x := ⟨_, List.getElem?_eq_getElem (by rw [HL.out.2.1]; exact hjN)⟩
    obtain ⟨x0, x1⟩ := IsS.at_ (IsS.below HL.out HB.out) j _ hx
    have hgd := HM2.out.ok.good _ (List.mem_of_getElem? hx)
    have hbt : b + t ≤ 4294967296 := hgd.2
    have lbl : bl < wr.heap.size := Nat.lt_of_lt_of_le hbB HB.out.size
    have HX := Lib.hid hx
    have HMW := Lib.hid (HM2.out.below HB.out)
    simp only at x0 x1
    clear hx hgd
    by_cases q : b ≤ at_ ∧ at_ < b + t
    · have f1 : (b : Int) ≤ (at_ : Int) := by omega
      have f2 : (at_ : Int) - (b : Int) < (t : Int) := by omega
      have f3 : (0 : Int) ≤ (at_ : Int) - (b : Int) := by omega
      obtain ⟨o, ho⟩ : ∃ o, o = at_ - b := ⟨_, rfl⟩
      have e1 : (at_ : Int) - (b : Int) = (o : Int) := by omega
      have p0 := HMW.out.row.cell 0
      have lp := HMW.out.row.lt
      have z0 := HRW.out.cell 0
      have z1 := HRW.out.cell 1
      have z2 := HRW.out.cell 2
      have zf0 := HRW.out.frozen 0
      have zf1 := HRW.out.frozen 1
      have zf2 := HRW.out.frozen 2
      have lz := HRW.out.lt
      simp only [List.getElem?_cons_zero, List.getElem?_cons_succ] at p0 z0 z1 z2
      have HSP := Lib.hid (where_found HX.out (decide_eq_true q) HNO.out)
      have HLR : Hid (M.rams.length = n1) := Lib.hid HMW.out.rams.2.1
      by_cases hjn : j < n1
      · have f4 : (j : Int) < (n1 : Int) := by omega
        have HSE : Hid (spotF M at_ 3 = some (1, j, o)) := Lib.hid (by rw [HSP.out, if_pos (by rw [HLR.out]; exact hjn), ho])
        clear ho q
        have hr5 : ∀ m, Row ((((wr.drewN m).setCell ⟨c, 0, none⟩ (.int .i64 1)).setCell ⟨c, 1, none⟩ (.int .i64 (j : Nat))).setCell ⟨c, 2, none⟩ (.int .u64 (o : Nat))) c 37 [.int .i64 1, .int .i64 (j : Nat), .int .u64 (o : Nat)] := fun m => (((HRW.out.drewN m).set_ 0 (.int .i64 1)).set_ 1 (.int .i64 (j : Nat))).set_ 2 (.int .u64 (o : Nat))
        have HY0 := Lib.hid (fun m => (hr5 m).cell 0)
        have HY1 := Lib.hid (fun m => (hr5 m).cell 1)
        have HY2 := Lib.hid (fun m => (hr5 m).cell 2)
        simp only [List.getElem?_cons_zero, List.getElem?_cons_succ] at HY0 HY1 HY2
        have HB5 : Hid (∀ m, Below w.heap.size w ((((wr.drewN m).setCell ⟨c, 0, none⟩ (.int .i64 1)).setCell ⟨c, 1, none⟩ (.int .i64 (j : Nat))).setCell ⟨c, 2, none⟩ (.int .u64 (o : Nat)))) := Lib.hid (fun m => (((below_drewN HBW.out m).setCell (p := ⟨c, 0, none⟩) HC.out _).setCell (p := ⟨c, 1, none⟩) HC.out _).setCell (p := ⟨c, 2, none⟩) HC.out _)
        clear hr5
        go_wp2_with fail
        go_quiet (fail)
        go_wp2_with fail
        refine bodyPost_ret (v := .tuple #[.agg #[.int .i64 1, .int .i64 (j : Nat), .int .u64 (o : Nat)], .bool true]) (by simp [results, Try.results14, go_sem, HY0.out, HY1.out, HY2.out]) rfl ⟨by rw [HSE.out]; rfl, HB5.out _⟩
      · have f4 : ¬ (j : Int) < (n1 : Int) := by omega
        obtain ⟨jj, hjj⟩ : ∃ jj, jj = j - n1 := ⟨_, rfl⟩
        have e2 : (j : Int) - (n1 : Int) = (jj : Int) := by omega
        have HSE : Hid (spotF M at_ 3 = some (2, jj, o)) := Lib.hid (by rw [HSP.out, if_neg (by rw [HLR.out]; exact hjn), ho, hjj, HLR.out])
        clear ho q hjj
        go_wp2_with fail
        go_quiet (fail)
        go_upto_region 8 with fail
        have k0 : (wr.drewN nq).cell? ⟨g, 0, none⟩ = some (.slice A1 n1 c1) := p0
        have k1 : (wr.drewN nq).cell? ⟨bl, ol + j * 2, none⟩ = some (.int .u64 (b : Nat)) := x0
        have kl : bl < (wr.drewN nq).heap.size := lbl
        have kg : g < (wr.drewN nq).heap.size := lp
        have hrw := HRW.out.drewN nq
        have hbw := below_drewN HBW.out nq
        clear p0 x0 x1 z0 z1 z2 zf0 zf1 zf2 lz lp lbl
        generalize wr.drewN nq = wd at *
        have z0 := hrw.cell 0
        have z1 := hrw.cell 1
        have z2 := hrw.cell 2
        have zf0 := hrw.frozen 0
        have zf1 := hrw.frozen 1
        have zf2 := hrw.frozen 2
        have lz := hrw.lt
        simp only [List.getElem?_cons_zero, List.getElem?_cons_succ] at z0 z1 z2
        have HY0 := Lib.hid ((hrw.set_ 0 (.int .i64 2)).cell 0)
        have HY1 := Lib.hid (((hrw.set_ 0 (.int .i64 2)).set_ 1 (.int .i64 (jj : Nat))).cell 1)
        have HY2 := Lib.hid ((((hrw.set_ 0 (.int .i64 2)).set_ 1 (.int .i64 (jj : Nat))).set_ 2 (.int .u64 (o : Nat))).cell 2)
        simp only [List.set_cons_zero, List.set_cons_succ, List.getElem?_cons_zero, List.getElem?_cons_succ] at HY0 HY1 HY2
        have HB5 : Hid (Below w.heap.size w (((wd.drew.setCell ⟨c, 0, none⟩ (.int .i64 2)).setCell ⟨c, 1, none⟩ (.int .i64 (jj : Nat))).setCell ⟨c, 2, none⟩ (.int .u64 (o : Nat)))) := Lib.hid (((hbw.drew.setCell (p := ⟨c, 0, none⟩) HC.out _).setCell (p := ⟨c, 1, none⟩) HC.out _).setCell (p := ⟨c, 2, none⟩) HC.out _)
        clear hrw hbw
        go_still_tail 16, (by kernel_rfl)
        change wpList _ _ _ _ _ wd.drew
        go_wp2_with fail
        refine bodyPost_ret (v := .tuple #[.agg #[.int .i64 2, .int .i64 (jj : Nat), .int .u64 (o : Nat)], .bool true]) (by simp [results, Try.results14, go_sem, HY0.out, HY1.out, HY2.out]) rfl ⟨by rw [HSE.out]; rfl, HB5.out⟩
    · have HNO' : Hid (∀ (x : Nat) (r : Nat × Nat), x < j + 1 → (M.rams ++ M.devs)[x]? = some r → inR at_ r = false) := Lib.hid (fun x r hx hr => by
        rcases Nat.lt_or_ge x j with h1 | h1
        · exact HNO.out x r h1 hr
        · obtain rfl : x = j := by omega
          have e : some r = some (b, t) := hr.symm.trans HX.out
          injection e with e
          subst e
          exact decide_eq_false q)
      by_cases q1 : b ≤ at_
      · have f1 : (b : Int) ≤ (at_ : Int) := by omega
        have f2 : ¬ (at_ : Int) - (b : Int) < (t : Int) := by omega
        have f3 : (0 : Int) ≤ (at_ : Int) - (b : Int) := by omega
        clear q
        go_wp2_with fail
        go_quiet (fail)
        go_wp2_with fail
        go_roundw
        case rel => exact ⟨j + 1, by omega, by go_num, HNO', Lib.hid (below_drewN HB.out _)⟩
        case measure => simp [intOf]; omega
      · have f1 : ¬ (b : Int) ≤ (at_ : Int) := by omega
        clear q
        go_wp2_with fail
        go_quiet (fail)
        go_wp2_with fail
        go_roundw
        case rel => exact ⟨j + 1, by omega, by go_num, HNO', Lib.hid (below_drewN HB.out _)⟩
        case measure => simp [intOf]; omega
  · have e : j = N := by omega
    subst e
    have HSE : Hid (spotF M at_ 3 = none) := Lib.hid (where_none (fun x r hr => HNO.out x r (by have := (List.getElem?_eq_some_iff.1 hr).1; have := HL.out.2.1; omega) hr))
    have z0 := HRW.out.cell 0
    have z1 := HRW.out.cell 1
    have z2 := HRW.out.cell 2
    have zf0 := HRW.out.frozen 0
    have zf1 := HRW.out.frozen 1
    have zf2 := HRW.out.frozen 2
    have lz := HRW.out.lt
    simp only [List.getElem?_cons_zero, List.getElem?_cons_succ] at z0 z1 z2
    have hr5 := ((HRW.out.set_ 0 (.int .i64 0)).set_ 1 (.int .i64 0)).set_ 2 (.int .u64 0)
    have y0 := hr5.cell 0
    have y1 := hr5.cell 1
    have y2 := hr5.cell 2
    simp only [List.set_cons_zero, List.set_cons_succ, List.getElem?_cons_zero, List.getElem?_cons_succ] at y0 y1 y2
    have HY0 := Lib.hid y0; have HY1 := Lib.hid y1; have HY2 := Lib.hid y2
    have HB5 : Hid (Below w.heap.size w (((wr.setCell ⟨c, 0, none⟩ (.int .i64 0)).setCell ⟨c, 1, none⟩ (.int .i64 0)).setCell ⟨c, 2, none⟩ (.int .u64 0))) := Lib.hid (((HBW.out.setCell (p := ⟨c, 0, none⟩) HC.out _).setCell (p := ⟨c, 1, none⟩) HC.out _).setCell (p := ⟨c, 2, none⟩) HC.out _)
    clear hr5 y0 y1 y2
    go_wp2_with fail
    refine bodyPost_ret (v := .tuple #[.agg #[.int .i64 0, .int .i64 0, .int .u64 0], .bool false]) (by simp [results, Try.results14, go_sem, HY0.out, HY1.out, HY2.out]) rfl ⟨by rw [HSE.out]; rfl, HB5.out⟩
end Bu
end Go.Proofs.Ytmhkmemaneopeaa
