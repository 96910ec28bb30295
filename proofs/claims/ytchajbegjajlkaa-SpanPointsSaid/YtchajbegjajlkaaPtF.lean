/- The walks of the law's fewest, told. -/
import Derived.Test.YtchajbegjajlkaaPtE
set_option linter.unusedVariables false
set_option linter.unusedSimpArgs false
namespace Go.Proofs.Ytchajbegjajlkaa
open Go.RowKit
open S8
theorem has_take (s : Sp.S) (i : Nat) (x : Nat × Nat) (h : s[i]? = some x) (j : Nat) : Sp.has (s.take (i + 1)) j = (Sp.has (s.take i) j || decide (x.1 ≤ j ∧ j ≤ x.2)) := by
  rw [List.take_add_one, h, Option.toList_some, Sp.has_app, Sp.has_cons, Sp.has_nil, Bool.or_false]
theorem nrm_next {M : Nat} {s : Sp.S} (hn : Sp.Nrm M s) {i : Nat} {x y : Nat × Nat} (hy : s[i]? = some y) (hx : s[i + 1]? = some x) : y.2 + 1 < x.1 := by
  have h := List.pairwise_iff_getElem.1 hn.up
  obtain ⟨h1, e1⟩ := List.getElem?_eq_some_iff.1 hy
  obtain ⟨h2, e2⟩ := List.getElem?_eq_some_iff.1 hx
  have := h i (i + 1) h1 h2 (by omega)
  rw [e1, e2] at this
  exact this
set_option maxRecDepth 100000 in
set_option maxHeartbeats 4000000 in
theorem fewest_any (A : Option Addr) (n c : Nat) (s : Sp.S) (f : Nat → Bool) (w : World) (hs : IsS w w.heap.size A n s) (hn : Sp.Nrm TOP s) :
    Calls Try.prog 42 #[.slice A n c, .agg (ptV f).toArray] w fun e w' => e = .returned (.bool (ptEq (fun i => Sp.has s i) f)) ∧ Below w.heap.size w w' := by
  have HS := Lib.hid hs; have HN := Lib.hid hn
  have hn63 := hs.2.2
  have HL := Lib.hid hs.2.1
  obtain ⟨hz, hsz⟩ := zero_of_info infoPt
  have HSZ := Lib.hid hsz
  obtain ⟨V, hV⟩ : ∃ V, V = ptV f := ⟨_, rfl⟩
  obtain ⟨Z, hZ⟩ : ∃ Z, Z = ptV (fun _ => false) := ⟨_, rfl⟩
  rw [← hZ] at hz
  have HEQ := Lib.hid (fun wx : World => run_eql_pt wx (fun i => Sp.has s i) f)
  obtain ⟨T, hT⟩ : ∃ T, T = ptEq (fun i => Sp.has s i) f := ⟨_, rfl⟩
  rw [← hT, ← hV] at HEQ
  rw [← hT, ← hV]
  obtain ⟨w0, hw0⟩ : ∃ w0, w0 = (w.alloc (.cells V.toArray 45)).alloc (.cells Z.toArray 45) := ⟨_, rfl⟩
  have hr1 : Row w0 w.heap.size 45 V := by rw [hw0]; exact (Row.new w 45 V).alloc _
  have hr2 : Row w0 (w.heap.size + 1) 45 (ptV (fun j => Sp.has (s.take 0) j)) := by
    have h := Row.new (w.alloc (.cells V.toArray 45)) 45 Z
    rw [show (w.alloc (.cells V.toArray 45)).heap.size = w.heap.size + 1 by simp] at h
    rw [hw0, show ptV (fun j => Sp.has (s.take 0) j) = Z by rw [hZ]; rfl]; exact h
  have hbel : Below w.heap.size w w0 := by rw [hw0]; exact ((Below.refl w.heap.size w).alloc (Nat.le_refl _) _).alloc (by simp) _
  have HR1 := Lib.hid hr1; have HR2 := Lib.hid hr2; have HB := Lib.hid hbel
  have HVL : Hid (V.length = 256) := Lib.hid (by rw [hV, ptV_len])
  clear hs hn hV hZ hT hr1 hr2 hbel hsz
  go_enter Try.func42, Try.ntmps42
  go_upto_region 2 with fail
  rw [← hw0]
  clear hw0 hz
  go_wp2_with fail
  go_loopw [6] (fun z wr => ∃ i : Nat, i ≤ n ∧ z = .int .i64 (i : Nat) ∧ Hid (Row wr w.heap.size 45 V) ∧ Hid (Row wr (w.heap.size + 1) 45 (ptV (fun j => Sp.has (s.take i) j))) ∧ Hid (Below w.heap.size w wr)) (fun z _ => n - (intOf z).toNat)
  case atStart => exact ⟨0, by omega, rfl, HR1, HR2, HB⟩
  case round =>
  clear HR1 HR2 HB
  obtain ⟨i, hi, rfl, HR1, HR2, HB⟩ := hrel
  by_cases hin : i < n
  · have f1 : decide (i < n) = true := decide_eq_true hin
    obtain ⟨b, o, x0, x1, rfl, hbl, hx, y0w, y1w⟩ := HS.out.cells hin
    have hxo := HN.out.ok _ (List.mem_of_getElem? hx)
    unfold TOP at hxo
    simp only at hxo
    have HX := Lib.hid hx
    have i0 : (0 : Int) ≤ (i : Int) := by omega
    have i1 : (i : Int) < (n : Int) := by omega
    have g1 : decide (x1 < x0) = false := decide_eq_false (by omega)
    have HCL : Hid (∀ wx, Below w.heap.size w wx → wx.cell? ⟨b, o + i * 2, none⟩ = some (.int .u8 (x0 : Nat)) ∧ wx.cell? ⟨b, o + i * 2 + 1, none⟩ = some (.int .u8 (x1 : Nat)) ∧ b < wx.heap.size) := Lib.hid (fun wx hb => ⟨(hb.cell (p := ⟨b, o + i * 2, none⟩) hbl).trans y0w, (hb.cell (p := ⟨b, o + i * 2 + 1, none⟩) hbl).trans y1w, Nat.lt_of_lt_of_le hbl hb.size⟩)
    obtain ⟨y0, y1, bl⟩ := HCL.out _ HB.out
    go_upto_region 5 with fail
    go_cut [45] (fun x wx => x = .bool false ∧ ∃ m, wx = wr.drewN m)
    case first =>
      by_cases hi0 : i = 0
      · have g2 : decide ((0 : Int) < (i : Int)) = false := decide_eq_false (by omega)
        have g2n : decide (0 < i) = false := decide_eq_false (by omega)
        clear hi0 y0w y1w hbl
        go_quiet (fail)
        go_wp2_with fail
        go_meet
        case rel => exact ⟨rfl, _, rfl⟩
      · obtain ⟨k, hk⟩ : ∃ k, i = k + 1 := ⟨i - 1, by omega⟩
        obtain ⟨b', o', z0, z1, e, hbl', hz', v0w, v1w⟩ := HS.out.cells (i := k) (by omega)
        injection e with e
        injection e with e1 e2 e3
        subst e1 e2
        have v0 := (HB.out.cell (p := ⟨b, o + k * 2, none⟩) hbl').trans v0w
        have v1 := (HB.out.cell (p := ⟨b, o + k * 2 + 1, none⟩) hbl').trans v1w
        have hnx : z1 + 1 < x0 := by rw [hk] at hx; exact nrm_next HN.out hz' hx
        have k0 : (0 : Int) ≤ (k : Int) := by omega
        have k1 : (k : Int) < (n : Int) := by omega
        have ek : (i : Int) - 1 = (k : Int) := by omega
        have ekw : IntKind.i64.wrap ((i : Int) - 1) = (k : Int) := by rw [IntKind.wrap_i64]; omega
        have ekn : IntKind.i64.wrap (k : Int) = (k : Int) := by rw [IntKind.wrap_i64]; omega
        have g2 : decide ((0 : Int) < (i : Int)) = true := decide_eq_true (by omega)
        have g2n : decide (0 < i) = true := decide_eq_true (by omega)
        have hz1 : z1 ≤ 255 := by omega
        have ez : IntKind.i64.wrap ((z1 : Int) + 1) = (z1 : Int) + 1 := by rw [IntKind.wrap_i64]; omega
        have g3 : decide ((x0 : Int) ≤ (z1 : Int) + 1) = false := decide_eq_false (by omega)
        clear hnx hz' hx hk hi0 v0w v1w y0w y1w hbl hbl'
        go_quiet (fail)
        go_wp2_with fail
        go_meet
        case rel => exact ⟨rfl, _, rfl⟩
    case rest =>
    obtain ⟨rfl, m, rfl⟩ := hcut
    have HB2 := Lib.hid (below_drewN HB.out m)
    have HR12 := Lib.hid (HR1.out.drewN m)
    have HR22 : Hid (Row (wr.drewN m) (w.heap.size + 1) 45 (ptV (fun j => Sp.has (s.take i) j || decide (x0 ≤ j ∧ j < x0)))) := Lib.hid (by
      rw [show ptV (fun j => Sp.has (s.take i) j || decide (x0 ≤ j ∧ j < x0)) = ptV (fun j => Sp.has (s.take i) j) from ptV_congr (fun j _ => by rw [decide_eq_false (by omega), Bool.or_false])]
      exact HR2.out.drewN m)
    clear y0 y1 bl y0w y1w hbl hx
    generalize wr.drewN m = w2 at *
    obtain ⟨y0, y1, bl⟩ := HCL.out _ HB2.out
    clear HR1 HR2 HB g1
    go_wp2_with fail
    go_loopw [7] (fun z wx => ∃ p : Nat, x0 ≤ p ∧ p ≤ x1 + 1 ∧ z = .int .i64 (p : Nat) ∧ Hid (Row wx w.heap.size 45 V) ∧ Hid (Row wx (w.heap.size + 1) 45 (ptV (fun j => Sp.has (s.take i) j || decide (x0 ≤ j ∧ j < p)))) ∧ Hid (Below w.heap.size w wx)) (fun z _ => 256 - (intOf z).toNat)
    case atStart => exact ⟨x0, Nat.le_refl _, by omega, rfl, HR12, HR22, HB2⟩
    case round =>
    clear HR12 HR22 HB2 y0 y1 bl
    obtain ⟨p, hp0, hp1, rfl, HR1, HR2, HB⟩ := hrel
    obtain ⟨y0, y1, bl⟩ := HCL.out _ HB.out
    by_cases hp : p ≤ x1
    · have f2 : decide (p ≤ x1) = true := decide_eq_true hp
      have hp8 : p < 256 := by omega
      have p0 : (0 : Int) ≤ (p : Int) := by omega
      have p9 : (p : Int) < 256 := by omega
      have c0 := HR2.out.cell p
      rw [ptV_get _ hp8] at c0
      have ff := HR2.out.frozen p
      have fl := HR2.out.lt
      have HS2 : Hid (Row (wr.setCell ⟨w.heap.size + 1, p, none⟩ (.bool true)) (w.heap.size + 1) 45 (ptV (fun j => Sp.has (s.take i) j || decide (x0 ≤ j ∧ j < p + 1)))) := Lib.hid (by
        have h := HR2.out.set_ p (.bool true)
        rw [ptV_set _ (fun j => Sp.has (s.take i) j || decide (x0 ≤ j ∧ j < p + 1)) hp8 (fun j => by
          by_cases e : j = p
          · subst e; rw [if_pos rfl, decide_eq_true ⟨hp0, by omega⟩, Bool.or_true]
          · rw [if_neg e]
            congr 1
            exact decide_eq_decide.2 (by omega))] at h
        exact h)
      have HS1 : Hid (Row (wr.setCell ⟨w.heap.size + 1, p, none⟩ (.bool true)) w.heap.size 45 V) := Lib.hid (HR1.out.far (p := ⟨w.heap.size + 1, p, none⟩) (show w.heap.size ≠ w.heap.size + 1 by omega) _)
      have HS3 : Hid (Below w.heap.size w (wr.setCell ⟨w.heap.size + 1, p, none⟩ (.bool true))) := Lib.hid (HB.out.setCell (p := ⟨w.heap.size + 1, p, none⟩) (show w.heap.size ≤ w.heap.size + 1 by omega) _)
      go_wp2_with fail
      go_roundw
      case rel => exact ⟨p + 1, by omega, by omega, by go_num, HS1, HS2, HS3⟩
      case measure => simp [intOf]; omega
    · have f2 : decide (p ≤ x1) = false := decide_eq_false hp
      have HN2 : Hid (Row wr (w.heap.size + 1) 45 (ptV (fun j => Sp.has (s.take (i + 1)) j))) := Lib.hid (by
        rw [show ptV (fun j => Sp.has (s.take (i + 1)) j) = ptV (fun j => Sp.has (s.take i) j || decide (x0 ≤ j ∧ j < p)) from ptV_congr (fun j _ => by
          rw [has_take s i _ HX.out]
          congr 1
          exact decide_eq_decide.2 (by simp only; omega))]
        exact HR2.out)
      go_wp2_with fail
      go_roundw
      case rel => exact ⟨i + 1, by omega, by go_num, HR1, HN2, HB⟩
      case measure => simp [intOf]; omega
  · have f1 : decide (i < n) = false := decide_eq_false hin
    have HE : Hid (Row wr (w.heap.size + 1) 45 (ptV (fun j => Sp.has s j))) := Lib.hid (by
      have h := HR2.out
      rw [List.take_of_length_le (by have := HL.out; omega)] at h
      exact h)
    obtain ⟨U, hU⟩ : ∃ U, U = ptV (fun j => Sp.has s j) := ⟨_, rfl⟩
    rw [← hU] at HE HEQ
    have HUL : Hid (U.length = 256) := Lib.hid (by rw [hU, ptV_len])
    have heq := HEQ.out
    clear hU HR2
    go_upto_region 11 with fail
    go_wp2_with (first
      | (refine wpList_load_mid rfl _ _ rfl _ _ (by rfl) U (.array 256 4) (pt_range HE.out) Try.underlying45 rfl (by rw [HSZ.out, HUL.out]) ?_)
      | (refine wpList_load_mid rfl _ _ rfl _ _ (by rfl) V (.array 256 4) (pt_range HR1.out) Try.underlying45 rfl (by rw [HSZ.out, HVL.out]) ?_))
    go_ret
    exact ⟨rfl, HB.out⟩
end Go.Proofs.Ytchajbegjajlkaa
