/- Texts of this claim, one behind the other: RtD. -/
import Derived.Test.YtfpofaniicegaaaGreatJWalkForeign35
/- The walk of the document's Store (through its tables). -/
set_option linter.unusedVariables false
set_option linter.unusedSimpArgs false
namespace Go.Proofs.YtfpofaniicegaaaGreat
open Go.RowKit
open S64
namespace Bu
theorem rst1 {Z : Nat → Prop} {w : World} {B g : Nat} {M : PM} (h : DM Z w B g M) (a v : Nat) (ha : a ≤ TOP) (hv : v ≤ TOP) (ho : onM M a = true) :
    Calls Tryz.prog 8 #[.pointer (some ⟨g, 0, none⟩), .int .u64 (a : Nat), .int .i64 1, .int .u64 (v : Nat)] w fun e w' => e = .returned (.agg #[.int .i64 0, .int .u64 0]) ∧ LaidD Z w B g (st1 M a v) w' := by
  have hF := offF_is (show Lim M from h.lim) (n := 1) ha
  have hn : offF M a 1 = none := by rw [offF_one, if_pos ho]
  rw [hn] at hF
  refine (rstore_m (n := 1) h (by omega) hv trivial ha trivial hF).mono fun e w' hh => ⟨?_, ?_⟩
  · rw [hh.1]; rfl
  · rw [← laid1_st1]; exact hh.2
/-- while the document's Store goes -/
structure RS (Z : Nat → Prop) (B g : Nat) (M : PM) (w : World) (A : Option Addr) (c n c12 : Nat) (L : List Nat) (F0 F1 v i : Nat) (wr : World) : Prop where
  dm : ∃ Z', DM Z' wr B g (stN M (fun j => L.getD j 0) v i) ∧ ∀ k, Z' k → Z k ∨ (w.heap.size < k ∧ k ≠ c12 ∧ (0 < n → A ≠ some ⟨k, 0, none⟩))
  ch : ChgP Z w wr
  rf : Row wr w.heap.size 33 [.int .i64 0, .int .u64 0]
  rg : Row wr c12 33 [.int .i64 (F0 : Nat), .int .u64 (F1 : Nat)]
  cw : w.heap.size < c12
  ow : wr.ownsRow (w.heap.size + 1) 31 1 (.slice A n c) n (L.map u64v)
theorem RS.at_ {Z : Nat → Prop} {B g : Nat} {M : PM} {w : World} {A : Option Addr} {c n c12 : Nat} {L : List Nat} {F0 F1 v i : Nat} {wr : World} (h : RS Z B g M w A c n c12 L F0 F1 v i wr) (hi : 0 < n) : ∃ gb, A = some ⟨gb, 0, none⟩ := by
  rcases h.ow.2 with ⟨_, hn⟩ | ⟨g', cap', cur', hv', _⟩
  · omega
  · injection hv' with e1
    exact ⟨g', e1⟩
theorem RS.cell {Z : Nat → Prop} {B g : Nat} {M : PM} {w : World} {gb c n c12 : Nat} {L : List Nat} {F0 F1 v i : Nat} {wr : World} (h : RS Z B g M w (some ⟨gb, 0, none⟩) c n c12 L F0 F1 v i wr) {k a : Nat} (hk : k < n) (ha : L[k]? = some a) : wr.cell? ⟨gb, k, none⟩ = some (.int .u64 (a : Nat)) ∧ gb < wr.heap.size := by
  refine ⟨?_, (World.ownsRow.lt h.ow gb rfl).2⟩
  rw [World.ownsRow.cellAt h.ow k (by omega), List.getElem?_map, ha]; rfl
theorem RS.stored {Z Z1 : Nat → Prop} {B g : Nat} {M : PM} {w : World} {gb c n c12 : Nat} {L : List Nat} {F0 F1 v i a : Nat} {wr wx : World} (h : RS Z B g M w (some ⟨gb, 0, none⟩) c n c12 L F0 F1 v i wr) (hz : ∀ k, Z k → k < w.heap.size) (hn : 0 < n)
    (hz1 : ∀ k, Z1 k → Z k ∨ (w.heap.size < k ∧ k ≠ c12 ∧ (0 < n → some (⟨gb, 0, none⟩ : Addr) ≠ some ⟨k, 0, none⟩))) (ha : L[i]? = some a) (h2 : LaidD Z1 wr B g (st1 (stN M (fun j => L.getD j 0) v i) a (byteOf v i)) wx) : RS Z B g M w (some ⟨gb, 0, none⟩) c n c12 L F0 F1 v (i + 1) wx := by
  obtain ⟨Z2, h3, h4, h5⟩ := h2
  have hgb := World.ownsRow.lt h.ow gb rfl
  have hng : ¬ Z1 gb := fun hk => by
    rcases hz1 _ hk with h6 | h6
    · have := hz _ h6; omega
    · exact h6.2.2 hn rfl
  refine ⟨⟨Z2, ?_, fun k hk => ?_⟩, h.ch.trans h4 (fun k hk => ?_), h4.row h.rf (fun hk => ?_), h4.row h.rg (fun hk => ?_), h.cw, owns_chgP h.ow h4 (fun k hk h1 => ?_)⟩
  · have e : L.getD i 0 = a := by rw [List.getD_eq_getElem?_getD, ha]; rfl
    show DM Z2 wx B g (st1 (stN M (fun j => L.getD j 0) v i) (L.getD i 0) (byteOf v i))
    rw [e]; exact h3
  · rcases h5 k hk with h6 | h6
    · exact hz1 k h6
    · exact .inr ⟨by have := h.rf.lt; omega, by have := h.rg.lt; omega, fun _ e => by injection e with e; injection e with e; omega⟩
  · rcases hz1 k hk with h6 | h6
    · exact .inl h6
    · exact .inr (by omega)
  · rcases hz1 _ hk with h6 | h6
    · have := hz _ h6; omega
    · omega
  · rcases hz1 _ hk with h6 | h6
    · have := hz _ h6; have := h.cw; omega
    · exact h6.2.1 rfl
  · have e : gb = k := by simpa [Value.ownBlock] using hk
    subst e
    exact hng h1
/-- how Store ends -/
theorem RS.fin {Z : Nat → Prop} {B g : Nat} {M : PM} {w : World} {A : Option Addr} {c n c12 : Nat} {L : List Nat} {F0 F1 v i : Nat} {wr : World} (h : RS Z B g M w A c n c12 L F0 F1 v i wr) (hz : ∀ k, Z k → k < w.heap.size) (hB : B ≤ w.heap.size) (no vi : Nat) {W : World}
    (hW : W = ((wr.setCell ⟨w.heap.size, 0, none⟩ (.int .i64 (no : Nat))).setCell ⟨w.heap.size, 1, none⟩ (.int .u64 (vi : Nat)))) :
    LaidD Z w B g (stN M (fun j => L.getD j 0) v i) W ∧ W.cell? ⟨w.heap.size, 0, none⟩ = some (.int .i64 (no : Nat)) ∧ W.cell? ⟨w.heap.size, 1, none⟩ = some (.int .u64 (vi : Nat)) := by
  subst hW
  have hc : ChgP (fun k => k = w.heap.size) wr ((wr.setCell ⟨w.heap.size, 0, none⟩ (.int .i64 (no : Nat))).setCell ⟨w.heap.size, 1, none⟩ (.int .u64 (vi : Nat))) := (ChgP.set_ (Z := fun k => k = w.heap.size) (ChgP.refl _ wr) (p := ⟨w.heap.size, 0, none⟩) (.inl rfl) _).set_ (p := ⟨w.heap.size, 1, none⟩) (.inl rfl) _
  have q := (h.rf.set_ 0 (.int .i64 (no : Nat))).set_ 1 (.int .u64 (vi : Nat))
  obtain ⟨Z', h1, h2⟩ := h.dm
  refine ⟨⟨Z', h1.chg hc (fun k hk e => ?_), h.ch.trans hc (fun k hk => .inr (by have h : k = w.heap.size := hk; omega)), fun k hk => ?_⟩, q.cell 0, q.cell 1⟩
  · have e : k = w.heap.size := e
    rcases hk with hk | hk
    · rcases h2 k hk with h6 | h6
      · have := hz k h6; omega
      · omega
    · omega
  · rcases h2 k hk with h6 | h6
    · exact .inl h6
    · exact .inr (by omega)
/-- what the document's Store answers -/
def RstS (Z : Nat → Prop) (B g : Nat) (M : PM) (w : World) (r : List Nat × (Nat × Nat)) (v : Nat) (e : Ending) (w' : World) : Prop :=
  e = .returned (flt r.2.1 r.2.2) ∧ LaidD Z w B g (stN M (fun j => r.1.getD j 0) v (if r.2.1 = 0 then r.1.length else 0)) w'
set_option maxRecDepth 100000 in
set_option maxHeartbeats 4000000 in
theorem rstore4_z {Z : Nat → Prop} {w : World} {B g : Nat} {M : PM} (h : DM Z w B g M) (root virt value : Nat) (z : Int) (hr : root ≤ 18446744073709551615) (hv : virt ≤ 18446744073709551615) (hvv : value ≤ 18446744073709551615) :
    Calls Tryz.prog 26 #[.pointer (some ⟨g, 0, none⟩), .int .u64 (root : Nat), .int .u64 (virt : Nat), .int .i64 z, .int .u64 (value : Nat)] w (RstS Z B g M w (accZ M root virt 2 z) value) := by
  have HM := Lib.hid h
  have HZ : Hid (∀ k, Z k → k < w.heap.size) := Lib.hid (fun k hk => (h.lt k hk).2)
  have HBL : Hid (B ≤ w.heap.size) := Lib.hid (by
    obtain ⟨_, _, _, _, _, _, _, _, _, _, hd⟩ := h
    exact Nat.le_trans hd.m.gB (Nat.le_of_lt hd.m.row.lt))
  have HL8 := Lib.hid (@accZ_len M root virt 2 z)
  have HON := Lib.hid (@accZ_on M root virt 2 z)
  obtain ⟨r, hrr⟩ : ∃ r, r = accZ M root virt 2 z := ⟨_, rfl⟩
  have HBC : Hid (∀ wx, DM Z wx B g M → Calls Tryz.prog 42 #[.pointer (some ⟨g, 0, none⟩), .int .u64 (root : Nat), .int .u64 (virt : Nat), .int .i64 z, .int .i64 2] wx (RbS Z B g M wx r)) := Lib.hid (fun wx hd => by rw [hrr]; exact rbytes_z hd root virt z 2 hr hv)
  rw [← hrr] at HL8 HON ⊢
  clear hrr h
  obtain ⟨at_, F0, F1⟩ := r
  obtain ⟨L, hL⟩ : ∃ L, L = if F0 = 0 then at_ else [] := ⟨_, rfl⟩
  have HLB : Hid (L.length ≤ 8 ∧ ∀ a ∈ L, onM M a = true ∧ a ≤ TOP) := Lib.hid (by
    by_cases h0 : F0 = 0
    · rw [hL, if_pos h0]; exact ⟨HL8.out, HON.out h0⟩
    · rw [hL, if_neg h0]; exact ⟨by simp, by simp⟩)
  have HLD : Hid (stN M (fun j => at_.getD j 0) value (if F0 = 0 then at_.length else 0) = stN M (fun j => L.getD j 0) value L.length) := Lib.hid (by
    by_cases h0 : F0 = 0
    · rw [hL, if_pos h0, if_pos h0]
    · rw [hL, if_neg h0, if_neg h0]; rfl)
  have HLN : Hid ((if F0 = 0 then at_.length else 0) = L.length) := Lib.hid (by
    by_cases h0 : F0 = 0
    · rw [hL, if_pos h0, if_pos h0]
    · rw [hL, if_neg h0, if_neg h0]; rfl)
  have HLE := Lib.hid hL
  clear HL8 HON hL
  obtain ⟨D1, hD1⟩ : ∃ D, D = (if F0 = 0 then 0 else F1 : Nat) := ⟨_, rfl⟩
  have HFL : Hid (flt F0 F1 = .agg #[.int .i64 (F0 : Nat), .int .u64 (D1 : Nat)]) := Lib.hid (by rw [flt_agg, hD1])
  clear hD1
  go_enter Tryz.func26, Tryz.ntmps26
  go_upto_region 1 with fail
  have hr9 := Row.new w 33 [.int .i64 0, .int .u64 0]
  have hm1 := HM.out.below (w' := w.alloc (.cells #[.int .i64 0, .int .u64 0] 33)) ((Below.refl _ _).alloc (Nat.le_refl _) _)
  have hc1 : ChgP Z w (w.alloc (.cells #[.int .i64 0, .int .u64 0] 33)) := (ChgP.refl _ w).alloc _
  have hs1 : (w.alloc (.cells #[.int .i64 0, .int .u64 0] 33)).heap.size = w.heap.size + 1 := by simp
  generalize w.alloc (.cells #[.int .i64 0, .int .u64 0] 33) = w1 at *
  have H1 := Lib.hid (And.intro hr9 (And.intro hc1 hs1))
  have HM1 := Lib.hid hm1
  clear hr9 hm1 hc1 hs1 HM
  go_upto_region 2 with (go_at_call 42; refine (HBC.out _ HM1.out).mono ?_; rintro e wt ⟨⟨A, n, c, rfl, hn, how⟩, hdt, hct⟩; simp only at hn how ⊢; rw [HFL.out]; have HT := Lib.hid (And.intro hn (And.intro how (And.intro hdt hct))); clear hn how hdt hct)
  obtain ⟨c12, hc12⟩ : ∃ c, c = wt.heap.size := ⟨_, rfl⟩
  have HRL : Hid (RS Z B g M w A c n c12 L F0 D1 value 0 (wt.alloc (.cells #[.int .i64 (F0 : Nat), .int .u64 (D1 : Nat)] 33)) ∧ n = L.length) := Lib.hid (by
    obtain ⟨hn, how, hdt, hct⟩ := HT.out
    obtain ⟨h1, h2, h3⟩ := H1.out
    have hb : Below wt.heap.size wt (wt.alloc (.cells #[.int .i64 (F0 : Nat), .int .u64 (D1 : Nat)] 33)) := (Below.refl _ _).alloc (Nat.le_refl _) _
    rw [h3, ← HLE.out] at how
    have hrt := hct.row h1 (fun hk => by have := HZ.out _ hk; omega)
    refine ⟨⟨⟨Z, hdt.below hb, fun k hk => .inl hk⟩, (h2.trans hct (fun k hk => .inl hk)).alloc _, hrt.below hb hrt.lt, by rw [hc12]; exact Row.new wt _ _, by rw [hc12]; exact hrt.lt, how.alloc _⟩, by rw [hn, HLN.out]⟩)
  generalize wt.alloc (.cells #[.int .i64 (F0 : Nat), .int .u64 (D1 : Nat)] 33) = wu at *
  rw [← hc12]
  clear HT H1 hc12 HBC HM1
  obtain ⟨hRL, hnL⟩ := HRL.out
  have HNL := Lib.hid hnL
  have HR0 := Lib.hid hRL
  have hn8 : n ≤ 8 := by rw [hnL]; exact HLB.out.1
  clear hRL hnL HRL
  go_wp2_with fail
  go_loopw [13] (fun y wr => ∃ i : Nat, i ≤ n ∧ y = .int .i64 (i : Nat) ∧ Hid (RS Z B g M w A c n c12 L F0 D1 value i wr)) (fun y _ => n - (intOf y).toNat)
  case atStart => exact ⟨0, by omega, rfl, HR0⟩
  case round =>
  clear HR0
  obtain ⟨i, hi, rfl, HR⟩ := hrel
  by_cases hin : i < n
  · obtain ⟨gb, rfl⟩ := HR.out.at_ (by omega)
    obtain ⟨a, ha⟩ : ∃ a, L[i]? = some a := ⟨_, List.getElem?_eq_getElem (by have := HNL.out; omega)⟩
    obtain ⟨x0, xl⟩ := HR.out.cell hin ha
    obtain ⟨ho, hat⟩ := HLB.out.2 a (List.mem_of_getElem? ha)
    obtain ⟨xv, hxv⟩ : ∃ xv, xv = value / 2 ^ (8 * i) := ⟨_, rfl⟩
    obtain ⟨y8, hy8⟩ : ∃ y, y = xv % 256 := ⟨_, rfl⟩
    have hby : byteOf value i = y8 := by rw [hy8, hxv]; rfl
    have hxvB : xv ≤ 18446744073709551615 := by rw [hxv]; exact Nat.le_trans (Nat.div_le_self _ _) hvv
    have HST : Hid (Calls Tryz.prog 8 #[.pointer (some ⟨g, 0, none⟩), .int .u64 (a : Nat), .int .i64 1, .int .u64 (y8 : Nat)] wr fun e w' => e = .returned (.agg #[.int .i64 0, .int .u64 0]) ∧ RS Z B g M w (some ⟨gb, 0, none⟩) c n c12 L F0 D1 value (i + 1) w') := Lib.hid (by
      obtain ⟨Z1, h1, h2⟩ := HR.out.dm
      have hm := stN_meta M (fun j => L.getD j 0) value i
      have ho' : onM (stN M (fun j => L.getD j 0) value i) a = true := by unfold onM; rw [hm.1, hm.2.1]; exact ho
      exact (rst1 h1 a y8 hat (by unfold TOP; omega) ho').mono (fun e w' ⟨h3, h4⟩ => ⟨h3, HR.out.stored HZ.out (by omega) h2 ha (by rw [hby]; exact h4)⟩))
    have ew1 : (value : Int) / 2 ^ (8 * i) = (xv : Int) := by rw [hxv]; norm_cast
    have ew2 : IntKind.u64.wrap (xv : Int) = (xv : Int) := by rw [IntKind.wrap_u64]; omega
    have ew3 : (xv : Int) % 256 = (y8 : Int) := by omega
    have e3 : IntKind.i64.wrap (8 * (i : Int)) = 8 * (i : Int) := by rw [IntKind.wrap_i64]; omega
    clear hxv hy8 hby hxvB ha ho hat
    go_wp2_with fail
    refine HST.out.mono ?_
    rintro e wt ⟨rfl, ht⟩
    have HT := Lib.hid ht
    clear ht HST x0 xl
    go_wp2_with fail
    go_roundw
    case rel => exact ⟨i + 1, by omega, by go_num, HT⟩
    case measure => simp [intOf]; omega
  · have ei : i = n := by omega
    subst ei
    have y0 := HR.out.rf.frozen 0
    have y1 := HR.out.rf.frozen 1
    have yl := HR.out.rf.lt
    have y2 := HR.out.rf.cell 0
    have y3 := HR.out.rf.cell 1
    have x0 := HR.out.rg.cell 0
    have x1 := HR.out.rg.cell 1
    have xl := HR.out.rg.lt
    simp only [List.getElem?_cons_zero, List.getElem?_cons_succ] at y2 y3 x0 x1
    go_wp2_with fail
    generalize hW : ((wr.setCell ⟨w.heap.size, 0, none⟩ (.int .i64 (F0 : Nat))).setCell ⟨w.heap.size, 1, none⟩ (.int .u64 (D1 : Nat))) = W
    obtain ⟨q1, q3, q4⟩ := HR.out.fin HZ.out HBL.out F0 D1 hW.symm
    exact bodyPost_ret (v := .agg #[.int .i64 (F0 : Nat), .int .u64 (D1 : Nat)]) (by simp [results, Tryz.results26, go_sem, q3, q4]) rfl ⟨by simp only; rw [HFL.out], by simp only; rw [HLD.out, ← HNL.out]; exact q1⟩
end Bu
end Go.Proofs.YtfpofaniicegaaaGreat
