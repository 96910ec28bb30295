/- Texts of this claim, one behind the other: TpD. -/
import Derived.Test.YtfpofaniicegaaaGreatJWalkForeign41
import Derived.Test.YtfpofaniicegaaaGreatJWalkForeign38
import Derived.Sort.CutIn
import Derived.LoopN
import Derived.Deep.Cut
import Derived.Deep.CutBlock
import Derived.Deep.DeepCutAuto
import Derived.BigQuiet
set_option linter.unusedVariables false
set_option linter.unusedSimpArgs false
namespace Go.Proofs.YtfpofaniicegaaaGreat
open Go.RowKit
open S64
namespace Bu
attribute [local go_sem] Oper.semAt_some
/-- what a round over leaves keeps; all of its cells lie below hi -/
structure LIT (B gv g : Nat) (Z Zv : Nat → Prop) (M : PM) (s : Int) (w : World) (root : Nat) (most : Int) (mb hi c6 c8 c11 c12 : Nat) (A : Option Addr) (n c : Nat) (L : List Lv) (Ds : List Nat) (r i : Nat) (W : World) : Prop where
  v : DM Zv W B gv (sM M s)
  ch : ChgP (fun k => Z k ∨ Zv k) w W
  r6 : Row W c6 4 [.bool false]
  r8 : Row W c8 109 [.slice A n c]
  r11 : Row W c11 3 [.int .i64 (r : Nat)]
  r12 : Row W c12 3 [.int .i64 (i : Nat)]
  rm : Row W mb 69 [.iface 39 (.agg #[.pointer (some ⟨g, 0, none⟩)])]
  rr : Row W (mb + 1) 31 [.int .u64 (root : Nat)]
  rb : Row W (mb + 2) 3 [.int .i64 most]
  ow : W.ownsRow w.heap.size 118 7 (.slice A n c) n (tall L)
  len : n = L.length
  oh : ∀ k, (Value.slice A n c).ownBlock = some k → k < hi
  cs : (w.heap.size ≤ c6 ∧ w.heap.size ≤ c8 ∧ w.heap.size ≤ c11 ∧ w.heap.size ≤ c12 ∧ w.heap.size ≤ mb) ∧ c6 < hi ∧ c8 < hi ∧ c11 < hi ∧ c12 < hi ∧ mb + 2 < hi
  df : c6 ≠ c12 ∧ c8 ≠ c12 ∧ c11 ≠ c12 ∧ mb ≠ c12 ∧ mb + 1 ≠ c12 ∧ mb + 2 ≠ c12
  dk : ∀ D ∈ Ds, W.heap[D]? = some (.deferred (some [])) ∧ w.heap.size ≤ D ∧ D < hi ∧ D ≠ c12
/-- where all lies -/
structure LFT (B : Nat) (Z R Zv : Nat → Prop) (w : World) : Prop where
  zl : ∀ k, Z k → B ≤ k
  zs : ∀ k, Z k ∨ R k → k < w.heap.size
  dis : ∀ k, Z k → ¬ Zv k
  zv : ∀ k, Zv k → k < w.heap.size
  bw : B ≤ w.heap.size
theorem LIT.chg {B gv g : Nat} {Z R Zv : Nat → Prop} {M : PM} {s : Int} {w : World} {root : Nat} {most : Int} {mb hi c6 c8 c11 c12 : Nat} {A : Option Addr} {n c : Nat} {L : List Lv} {Ds : List Nat} {r i : Nat} {W W' : World} {Y : Nat → Prop} (h : LIT B gv g Z Zv M s w root most mb hi c6 c8 c11 c12 A n c L Ds r i W) (hf : LFT B Z R Zv w)
    (hc : ChgP Y W W') (hY : ∀ k, Y k → Z k ∨ hi ≤ k) : LIT B gv g Z Zv M s w root most mb hi c6 c8 c11 c12 A n c L Ds r i W' := by
  obtain ⟨⟨a1, a2, a3, a4, a5⟩, b1, b2, b3, b4, b5⟩ := h.cs
  have hno : ∀ k, w.heap.size ≤ k → k < hi → ¬ Y k := fun k h1 h2 hy => by
    rcases hY k hy with h3 | h3
    · have := hf.zs k (.inl h3); omega
    · omega
  refine ⟨h.v.chg hc (fun k hk hy => ?_), h.ch.trans hc (fun k hk => ?_), hc.row h.r6 (hno _ a1 b1), hc.row h.r8 (hno _ a2 b2), hc.row h.r11 (hno _ a3 b3), hc.row h.r12 (hno _ a4 b4), hc.row h.rm (hno _ a5 (by omega)), hc.row h.rr (hno _ (by omega) (by omega)), hc.row h.rb (hno _ (by omega) b5),
    owns_chgP h.ow hc (fun k hk => hno k (World.ownsRow.lt h.ow k hk).1 (h.oh k hk)), h.len, h.oh, h.cs, h.df, fun D hD => ?_⟩
  · rcases hY k hy with h3 | h3
    · rcases hk with hk | hk
      · exact hf.dis k h3 hk
      · have := hf.zl k h3; omega
    · rcases hk with hk | hk
      · have := hf.zv k hk; omega
      · have := hf.bw; omega
  · rcases hY k hk with h3 | h3
    · exact .inl (.inl h3)
    · exact .inr (by omega)
  · obtain ⟨e1, e2, e3, e4⟩ := h.dk D hD
    exact ⟨by rw [hc.block D (Array.getElem?_eq_some_iff.1 e1).1 (hno D e2 e3)]; exact e1, e2, e3, e4⟩
theorem LIT.set12 {B gv g : Nat} {Z R Zv : Nat → Prop} {M : PM} {s : Int} {w : World} {root : Nat} {most : Int} {mb hi c6 c8 c11 c12 : Nat} {A : Option Addr} {n c : Nat} {L : List Lv} {Ds : List Nat} {r i : Nat} {W : World} (h : LIT B gv g Z Zv M s w root most mb hi c6 c8 c11 c12 A n c L Ds r i W) (hf : LFT B Z R Zv w) (how : ∀ k, (Value.slice A n c).ownBlock = some k → k ≠ c12) (j : Nat) :
    LIT B gv g Z Zv M s w root most mb hi c6 c8 c11 c12 A n c L Ds r j (W.setCell ⟨c12, 0, none⟩ (.int .i64 (j : Nat))) := by
  have hc : ChgP (fun k => k = c12) W (W.setCell ⟨c12, 0, none⟩ (.int .i64 (j : Nat))) := ChgP.set_ (Z := fun k => k = c12) (ChgP.refl _ W) (p := ⟨c12, 0, none⟩) (.inl rfl) _
  obtain ⟨⟨a1, a2, a3, a4, a5⟩, b1, b2, b3, b4, b5⟩ := h.cs
  obtain ⟨d1, d2, d3, d4, d5, d6⟩ := h.df
  refine ⟨h.v.chg hc (fun k hk hy => ?_), h.ch.trans hc (fun k hk => .inr (by have hk : k = c12 := hk; omega)), hc.row h.r6 d1, hc.row h.r8 d2, hc.row h.r11 d3, h.r12.set_ 0 _, hc.row h.rm d4, hc.row h.rr d5, hc.row h.rb d6, owns_chgP h.ow hc (fun k hk => how k hk), h.len, h.oh, h.cs, h.df, fun D hD => ?_⟩
  · have hy : k = c12 := hy
    rcases hk with hk | hk
    · have := hf.zv k hk; omega
    · have := hf.bw; omega
  · obtain ⟨e1, e2, e3, e4⟩ := h.dk D hD
    exact ⟨by rw [hc.block D (Array.getElem?_eq_some_iff.1 e1).1 e4]; exact e1, e2, e3, e4⟩
theorem LIT.own12 {B gv g : Nat} {Z Zv : Nat → Prop} {M : PM} {s : Int} {w : World} {root : Nat} {most : Int} {mb hi c6 c8 c11 c12 : Nat} {A : Option Addr} {n c : Nat} {L : List Lv} {Ds : List Nat} {r i : Nat} {W : World} (h : LIT B gv g Z Zv M s w root most mb hi c6 c8 c11 c12 A n c L Ds r i W) : ∀ k, (Value.slice A n c).ownBlock = some k → k ≠ c12 := by
  intro k hk e
  rcases h.ow.2 with ⟨hv, _⟩ | ⟨g', cap, cur, hv, _, hh, _⟩
  · rw [hv] at hk; simp [Value.ownBlock] at hk
  · rw [hv] at hk
    have e1 : g' = k := by simpa [Value.ownBlock] using hk
    rw [e1, e] at hh
    have h2 : W.heap[c12]? = some (.cells #[.int .i64 (i : Nat)] 3) := h.r12
    rw [h2] at hh
    injection hh with hh
    injection hh with _ hh
    exact absurd hh (by decide)
/-- new cells for the numbers -/
theorem LIT.fresh {B gv g : Nat} {Z R Zv : Nat → Prop} {M : PM} {s : Int} {w : World} {root : Nat} {most : Int} {mb hi c6 c8 c11 c12 : Nat} {A : Option Addr} {n c : Nat} {L : List Lv} {Ds : List Nat} {r i : Nat} {W W' : World} (h : LIT B gv g Z Zv M s w root most mb hi c6 c8 c11 c12 A n c L Ds r i W) (hf : LFT B Z R Zv w)
    (hb : Below W.heap.size W W') (hh : hi ≤ W.heap.size) {c11' c12' r' i' : Nat} {Ds' : List Nat} (h11 : Row W' c11' 3 [.int .i64 (r' : Nat)]) (h12 : Row W' c12' 3 [.int .i64 (i' : Nat)]) (k11 : w.heap.size ≤ c11') (k12 : W.heap.size ≤ c12') (k : c11' ≠ c12') (hd : ∀ D ∈ Ds', W.heap[D]? = some (.deferred (some [])) ∧ w.heap.size ≤ D) : LIT B gv g Z Zv M s w root most mb W'.heap.size c6 c8 c11' c12' A n c L Ds' r' i' W' := by
  have q := h.chg hf (ChgP.of_below (Z := fun _ => False) hb) (fun k hk => hk.elim)
  have hs := hb.size
  obtain ⟨⟨a1, a2, a3, a4, a5⟩, b1, b2, b3, b4, b5⟩ := h.cs
  refine ⟨q.v, q.ch, q.r6, q.r8, h11, h12, q.rm, q.rr, q.rb, q.ow, q.len, fun k hk => by have := h.oh k hk; omega, ⟨⟨a1, a2, k11, by omega, a5⟩, by omega, by omega, h11.lt, h12.lt, by omega⟩, ⟨by omega, by omega, k, by omega, by omega, by omega⟩, fun D hD => ?_⟩
  obtain ⟨e1, e2⟩ := hd D hD
  have hl := (Array.getElem?_eq_some_iff.1 e1).1
  exact ⟨by rw [hb.block D hl]; exact e1, e2, by omega, by omega⟩
/-- what the loop over leaves keeps -/
def lfIT (B gv g : Nat) (Z Zv : Nat → Prop) (M : PM) (s : Int) (w : World) (root : Nat) (most : Int) (mb hi c6 c8 c11 c12 : Nat) (A : Option Addr) (n c : Nat) (L : List Lv) (Ds : List Nat) (r : Nat) (pre : List Lv) (W : World) : Prop :=
  LIT B gv g Z Zv M s w root most mb hi c6 c8 c11 c12 A n c L Ds r pre.length W ∧ (r = 0 → pre.length ≤ n / 2)
def lfXT (B gv g : Nat) (Z Zv : Nat → Prop) (M : PM) (s : Int) (w : World) (root : Nat) (most : Int) (mb hi c6 c8 c11 c12 : Nat) (A : Option Addr) (n c : Nat) (L : List Lv) (Ds : List Nat) (r : Nat) (cd : Code) (pre : List Lv) (W : World) : Prop :=
  cd = .exit 2 ∧ LIT B gv g Z Zv M s w root most mb hi c6 c8 c11 c12 A n c L Ds r pre.length W ∧ r = 0 ∧ pre.length = n / 2 + 1
/-- behind the loop over leaves -/
def lfMT (B gv g : Nat) (Z R Zv : Nat → Prop) (M : PM) (s : Int) (w : World) (root : Nat) (most : Int) (mb hi c6 c8 c11 c12 : Nat) (A : Option Addr) (n c : Nat) (L : List Lv) (Ds : List Nat) (r D : Nat) (W : World) : Prop :=
  ∃ i : Nat, (i = n ∨ (r = 0 ∧ i = n / 2 + 1)) ∧ LIT B gv g Z Zv M s w root most mb hi c6 c8 c11 c12 A n c L Ds r i W ∧ (∃ s1, STape B g Z R W (sM M s1)) ∧ W.heap[D]? = some (.deferred (some [])) ∧ hi ≤ W.heap.size
set_option maxRecDepth 100000 in
set_option maxHeartbeats 8000000 in
theorem leaves_mT {B g gv : Nat} {Z R Zv : Nat → Prop} {w : World} {M : PM} {s : Int} (h : TwoT B Z R Zv w g gv M (sM M s)) (kd nn : Int) (root virt value : Nat) (hr : root ≤ 18446744073709551615) (hnn : -9223372036854775808 ≤ nn ∧ nn ≤ 9223372036854775807) :
    Calls Tryz.prog 27 #[.iface 39 (.agg #[.pointer (some ⟨g, 0, none⟩)]), .pointer (some ⟨gv, 0, none⟩), opV kd nn root virt value] w (StST B g gv Z Zv M w) := by
  have HT := Lib.hid h
  have HLF : Hid (LFT B Z R Zv w) := Lib.hid ⟨fun k hk => h.zl k hk, fun k hk => hk.elim ((stape_i B g).z h.m k) ((stape_i B g).r h.m k), fun k hk => h.dis k hk, fun k hk => (h.v.lt k hk).2, by
    obtain ⟨_, _, _, _, _, _, _, _, _, _, hd⟩ := h.v
    exact Nat.le_trans hd.m.gB (Nat.le_of_lt hd.m.row.lt)⟩
  clear h
  unfold opV
  have hdd : ∀ k : Nat, (Fence.wide.depth.isSome = true → 1 ≤ k) := fun k h => by cases h
  refine (callsIn_wide (n := 3)).1 ?_
  refine callsIn_of_wp_marks Tryz.func27 rfl trivial ?_ rfl
  simp only [Tryz.ntmps27, List.size_toArray, List.length_cons, List.length_nil, Nat.reduceAdd, Nat.reduceSub, Array.replicate_succ, Array.replicate_zero, List.push_toArray, List.append_toArray, List.nil_append, List.cons_append]
  refine wpIn_wide.2 ?_
  go_upto_region 1 with fail
  have hb1 : Below w.heap.size w ((w.alloc (.cells #[.int .i64 kd, .int .u64 (root : Nat), .int .u64 (virt : Nat), .int .u64 (value : Nat), .int .i64 nn] 41)).alloc (.cells #[.bool false] 4)) := ((Below.refl _ _).alloc (Nat.le_refl _) _).alloc (by simp) _
  have ro := (Row.new w 41 [.int .i64 kd, .int .u64 (root : Nat), .int .u64 (virt : Nat), .int .u64 (value : Nat), .int .i64 nn]).alloc (.cells #[.bool false] 4)
  have r6 := Row.new (w.alloc (.cells #[.int .i64 kd, .int .u64 (root : Nat), .int .u64 (virt : Nat), .int .u64 (value : Nat), .int .i64 nn] 41)) 4 [.bool false]
  rw [show (w.alloc (.cells #[.int .i64 kd, .int .u64 (root : Nat), .int .u64 (virt : Nat), .int .u64 (value : Nat), .int .i64 nn] 41)).heap.size = w.heap.size + 1 by simp] at r6
  have HT1 := Lib.hid (HT.out.below hb1)
  generalize (w.alloc (.cells #[.int .i64 kd, .int .u64 (root : Nat), .int .u64 (virt : Nat), .int .u64 (value : Nat), .int .i64 nn] 41)).alloc (.cells #[.bool false] 4) = w1 at *
  have HB1 := Lib.hid hb1; have HO1 := Lib.hid ro; have H6 := Lib.hid r6
  have o1 := ro.cell 1
  have o4 := ro.cell 4
  have ol := ro.lt
  simp only [List.getElem?_cons_zero, List.getElem?_cons_succ] at o1 o4
  clear hb1 ro r6
  go_wp2_with fail
  refine (within2000 nn _ hnn).mono ?_
  rintro e w' ⟨⟨most, rfl, hm1, hm2⟩, rfl⟩
  have HRL : Hid (Calls Tryz.prog 46 #[.pointer (some ⟨gv, 0, none⟩), .int .u64 (root : Nat), .int .i64 most] w1 fun e w' => ∃ A c bb, e = .returned (.tuple #[.slice A (lvs M root most).length c, .bool bb]) ∧ w'.ownsRow w1.heap.size 118 7 (.slice A (lvs M root most).length c) (lvs M root most).length (tall (lvs M root most)) ∧ DM Zv w' B gv (sM M s) ∧ ChgP Zv w1 w') := Lib.hid ((rleaves_any HT1.out.v root most hr (by omega)).mono fun e w' ⟨A, c, h1, h2, h3, h4⟩ => by
    rw [lvs_sM] at h1 h2
    exact ⟨A, c, _, h1, h2, h3, h4⟩)
  have HLV : Hid ((lvs M root most).length ≤ 3000) := Lib.hid (by
    unfold lvs
    split
    · simp
    · split
      · simp
      · have := lvT_len (M := M) 3 0 root 0 most.toNat (by omega)
        omega)
  obtain ⟨L, hL⟩ : ∃ L, L = lvs M root most := ⟨_, rfl⟩
  rw [← hL] at HRL HLV
  obtain ⟨n, hn⟩ : ∃ n, n = L.length := ⟨_, rfl⟩
  rw [← hn] at HRL HLV
  have HL := Lib.hid hL; have HN := Lib.hid hn
  have hn3 : n ≤ 3000 := HLV.out
  clear hL hn HLV
  go_wp2_with fail
  refine HRL.out.mono ?_
  rintro e w2 ⟨A, c, bb, rfl, how, hd2, hc2⟩
  have HT2 := Lib.hid (HT1.out.right hd2 hc2 (fun k hk => .inl hk))
  have HC2 : Hid (ChgP (fun k => Z k ∨ Zv k) w w2) := Lib.hid ((ChgP.of_below (Z := fun k => Z k ∨ Zv k) HB1.out).trans hc2 (fun k hk => .inl (.inr hk)))
  have hzw : ∀ k, Zv k → k < w.heap.size := HLF.out.zv
  have HO2 := Lib.hid (hc2.row HO1.out (fun hk => by have := hzw _ hk; omega))
  have H62 := Lib.hid (hc2.row H6.out (fun hk => by have := hzw _ hk; omega))
  have HOW := Lib.hid how
  have HS1 : Hid (w.heap.size + 2 ≤ w1.heap.size) := Lib.hid H6.out.lt
  clear how hd2 hc2 hzw o1 o4 ol HT1 HO1 H6 HRL
  have o1 := HO2.out.cell 1
  have ol := HO2.out.lt
  simp only [List.getElem?_cons_zero, List.getElem?_cons_succ] at o1
  go_upto_region 3 with fail
  obtain ⟨c8, hc8⟩ : ∃ c8, c8 = w2.heap.size := ⟨_, rfl⟩
  have hb3 : Below w2.heap.size w2 (w2.alloc (.cells #[.slice A n c] 109)) := (Below.refl _ _).alloc (Nat.le_refl _) _
  have HT3 := Lib.hid (HT2.out.below hb3)
  have HC3 : Hid (ChgP (fun k => Z k ∨ Zv k) w (w2.alloc (.cells #[.slice A n c] 109))) := Lib.hid (HC2.out.alloc _)
  have HO3 := Lib.hid (HO2.out.below hb3 HO2.out.lt)
  have H63 := Lib.hid (H62.out.below hb3 H62.out.lt)
  have HOW3 := Lib.hid (HOW.out.alloc (.cells #[.slice A n c] 109))
  have HOL : Hid (∀ k, (Value.slice A n c).ownBlock = some k → k < c8) := Lib.hid (fun k hk => by rw [hc8]; exact (World.ownsRow.lt HOW.out k hk).2)
  have r8 := Row.new w2 109 [.slice A n c]
  have h8w : w.heap.size + 2 ≤ c8 := by rw [hc8]; exact Nat.le_trans H62.out.lt (Nat.le_refl _)
  generalize w2.alloc (.cells #[.slice A n c] 109) = w3 at *
  rw [← hc8] at r8 ⊢
  have H8 := Lib.hid r8
  have H8W := Lib.hid h8w
  clear r8 h8w hc8 hb3 HT2 HC2 HO2 H62 HOW o1 ol
  have o1 := HO3.out.cell 1
  have ol := HO3.out.lt
  simp only [List.getElem?_cons_zero, List.getElem?_cons_succ] at o1
  go_wp2_with fail
  refine (leaves_any 39 (.agg #[.pointer (some ⟨g, 0, none⟩)]) root most w3).mono ?_
  rintro e w4 ⟨rfl, rfl⟩
  obtain ⟨hsz4, hb4, hr1, hr2, hr3⟩ := lvW_rows w3 (.iface 39 (.agg #[.pointer (some ⟨g, 0, none⟩)])) root most
  obtain ⟨mb, hmb⟩ : ∃ mb, mb = w3.heap.size := ⟨_, rfl⟩
  have hef := eql_fn (lvW w3 (.iface 39 (.agg #[.pointer (some ⟨g, 0, none⟩)])) root most) (.pointer (some ⟨mb + 2, 0, none⟩)) (.pointer (some ⟨mb, 0, none⟩)) (.pointer (some ⟨mb + 1, 0, none⟩))
  unfold lvF pmb
  have HT4 := Lib.hid (HT3.out.below hb4)
  have HC4 : Hid (ChgP (fun k => Z k ∨ Zv k) w (lvW w3 (.iface 39 (.agg #[.pointer (some ⟨g, 0, none⟩)])) root most)) := Lib.hid (HC3.out.trans (ChgP.of_below (Z := fun _ => False) hb4) (fun k hk => hk.elim))
  have H64 := Lib.hid (H63.out.below hb4 H63.out.lt)
  have H84 := Lib.hid (H8.out.below hb4 H8.out.lt)
  have HOW4 := Lib.hid (owns_chgP HOW3.out (ChgP.of_below (Z := fun _ => False) hb4) (fun k hk h => h))
  have h8m : c8 < mb := by rw [hmb]; exact H8.out.lt
  generalize lvW w3 (.iface 39 (.agg #[.pointer (some ⟨g, 0, none⟩)])) root most = w4 at *
  rw [← hmb] at hr1 hr2 hr3 hsz4 ⊢
  have HRM := Lib.hid (And.intro hr1 (And.intro hr2 (And.intro hr3 (And.intro h8m hsz4))))
  clear hr1 hr2 hr3 hb4 h8m hmb hsz4 HT3 HC3 HO3 H63 H8 HOW3 o1 ol
  go_upto_region 6 with fail
  clear hef
  go_wp2_with fail
  have HMZ : Hid (∃ s1, STape B g Z R w4 (sM M s1)) := Lib.hid ⟨M.strays, HT4.out.m⟩
  obtain ⟨c11, hc11⟩ : ∃ c, c = w4.heap.size := ⟨_, rfl⟩
  have hb5 : Below w4.heap.size w4 (w4.alloc (.cells #[.int .i64 0] 3)) := (Below.refl _ _).alloc (Nat.le_refl _) _
  have r11 := Row.new w4 3 [.int .i64 0]
  have HI0 : Hid (∀ W', Below (w4.alloc (.cells #[.int .i64 0] 3)).heap.size (w4.alloc (.cells #[.int .i64 0] 3)) W' → ∀ c12, (w4.alloc (.cells #[.int .i64 0] 3)).heap.size ≤ c12 → Row W' c12 3 [.int .i64 0] → LIT B gv g Z Zv M s w root most mb W'.heap.size (w.heap.size + 1) c8 c11 c12 A n c L [] 0 0 W') := Lib.hid (fun W' hb c12 h12 hr12 => by
    obtain ⟨q1, q2, q3, q4, q5⟩ := HRM.out
    have hbb : Below w4.heap.size w4 W' := hb5.trans (hb.mono hb5.size)
    have s5 : (w4.alloc (.cells #[.int .i64 0] 3)).heap.size = w4.heap.size + 1 := by simp
    have hw8 := H8W.out
    have hs1 := HS1.out
    have hsz := hbb.size
    have hl12 := hr12.lt
    refine ⟨HT4.out.v.below hbb, HC4.out.trans (ChgP.of_below (Z := fun _ => False) hbb) (fun k hk => hk.elim), H64.out.below hbb H64.out.lt, H84.out.below hbb H84.out.lt, ?_, hr12, q1.below hbb q1.lt, q2.below hbb q2.lt, q3.below hbb q3.lt, ?_, HN.out, fun k hk => ?_, ?_, ?_, fun D hD => by cases hD⟩
    · rw [hc11]; exact r11.below hb r11.lt
    · exact World.ownsRow.mono (owns_chgP HOW4.out (ChgP.of_below (Z := fun _ => False) hbb) (fun k hk h => h)) (by omega)
    · have := HOL.out k hk; omega
    · rw [hc11]; omega
    · rw [hc11]; omega)
  have HMZ5 : Hid (∃ s1, STape B g Z R (w4.alloc (.cells #[.int .i64 0] 3)) (sM M s1)) := Lib.hid (by obtain ⟨s1, h⟩ := HMZ.out; exact ⟨s1, (stape_i B g).below h hb5⟩)
  have H11 : Hid (Row (w4.alloc (.cells #[.int .i64 0] 3)) c11 3 [.int .i64 0]) := Lib.hid (by rw [hc11]; exact r11)
  generalize w4.alloc (.cells #[.int .i64 0] 3) = w5 at *
  rw [← hc11]
  clear r11 hb5 hc11 HMZ HT4 HC4 H64 H84 HOW4 HRM HOL H8W HS1
  have k0 := H11.out.cell 0
  have kl := H11.out.lt
  simp only [List.getElem?_cons_zero] at k0
  refine wp_loop_rounds 3 ?_
  rw [rounds_succ]
  go_upto_block 2 with fail
  obtain ⟨c12, hc12⟩ : ∃ c, c = w5.heap.size := ⟨_, rfl⟩
  have hb6 : Below w5.heap.size w5 (w5.alloc (.cells #[.int .i64 0] 3)) := (Below.refl _ _).alloc (Nat.le_refl _) _
  have HI6 : Hid (LIT B gv g Z Zv M s w root most mb (w5.alloc (.cells #[.int .i64 0] 3)).heap.size (w.heap.size + 1) c8 c11 c12 A n c L [] 0 0 (w5.alloc (.cells #[.int .i64 0] 3))) := Lib.hid (HI0.out _ hb6 c12 (by rw [hc12]; exact Nat.le_refl _) (by rw [hc12]; exact Row.new w5 _ _))
  have HMZ6 : Hid (∃ s1, STape B g Z R (w5.alloc (.cells #[.int .i64 0] 3)) (sM M s1)) := Lib.hid (by obtain ⟨s1, h⟩ := HMZ5.out; exact ⟨s1, (stape_i B g).below h hb6⟩)
  generalize w5.alloc (.cells #[.int .i64 0] 3) = w6 at *
  rw [← hc12]
  clear HI0 HMZ5 H11 k0 kl hb6 hc12
  refine wp_mid (lfMT B gv g Z R Zv M s w root most mb w6.heap.size (w.heap.size + 1) c8 c11 c12 A n c L [] 0 w6.heap.size) { target := .collected w6.heap.size, args := #[] } ?walk0 ?rest0
  case walk0 =>
    go_wp2_with fail
    have hzl : ∀ k, Z k ∨ R k → k < w.heap.size := fun k hk => HLF.out.zs k hk
    obtain ⟨⟨ha1, ha2, ha3, ha4, ha5⟩, hb1, hb2, hb3, hb4, hb5⟩ := HI6.out.cs
    have hlo : ∀ k, w6.heap.size + (lvM root + 2) ≤ k → ¬ upTo Z w6.heap.size (lvM root + 2) k := fun k hk h => by
      rcases h with h | h
      · have := hzl k (.inl h); omega
      · omega
    have hT : ∀ k, upTo Z w6.heap.size (lvM root + 2) k → Z k ∨ w6.heap.size ≤ k := fun k h => h.imp id (fun h => h.1)
    refine (wpIn_wide (n := 3)).1 ?_
    refine wpIn_rangeFunc_C (F := Fence.wide) (n := 3) (ps := #[38, 39]) (gf := 64) (lb := #[pmb (mb + 2), pmb mb, pmb (mb + 1)]) rfl (by decide) ?hg trivial (enters_of Tryz.func64 (by kernel_rfl) rfl)
      (leaves1_seq (stape_i B g) (ent_tape B g) Z R (fun k => Z k ∨ R k ∨ k = mb) M mb (mb + 1) (mb + 2) root most _ w6 (by omega) (by omega) (by omega) (fun k hk => hk) (fun h => by have := hzl _ (.inl h); omega) (fun k hk => by
        rcases hk with h | h | h
        · have := hzl k (.inl h); omega
        · have := hzl k (.inr h); omega
        · omega) HMZ6.out HI6.out.rm HI6.out.rr HI6.out.rb) (Below.refl _ _)
      (fun k hk => by have := hzl k (.inl hk); omega) (fun k hk => by
        rcases hk with h | h | h
        · have := hzl k (.inl h); omega
        · have := hzl k (.inr h); omega
        · omega) (fun _ => rfl)
      (fun U U' ⟨s, hs⟩ hc => ⟨s, (stape_i B g).chg hs hc (fun k hk h => by have := hzl k hk; omega)⟩)
      (lfIT B gv g Z Zv M s w root most mb w6.heap.size (w.heap.size + 1) c8 c11 c12 A n c L [] 0) (lfXT B gv g Z Zv M s w root most mb w6.heap.size (w.heap.size + 1) c8 c11 c12 A n c L [] 0)
      (fun pre U U' hs hc => ⟨hs.1.chg HLF.out hc hT, hs.2⟩)
      (fun cd pre U U' hs hc => ⟨hs.1, hs.2.1.chg HLF.out hc hT, hs.2.2⟩)
      ⟨HI6.out, fun _ => Nat.zero_le _⟩
      (lfA (w6.heap.size + (lvM root + 2))) (fun x a' => lfA_ab hlo) ?assign ?body ?done ?stop
    case hg => rfl
    case assign =>
      intro l pre x W K hsz hi hpx hK
      obtain ⟨xv, xp, xn, xb, xw, xx, xno⟩ := x
      unfold lvEnc lvV
      have HK := Lib.hid hK
      have HI := Lib.hid hi
      clear hK hi hpx
      gi_wp2_with fail
      have hchg : ∀ Y : Nat → Prop, ChgP Y W (W.alloc (.cells #[.int .u64 (xv : Nat), .int .u64 (xp : Nat), .int .i64 (xn : Nat), .bool xb, .bool xw, .bool xx] 116)) := fun Y => (ChgP.refl Y W).alloc _
      exact HK.out _ _ (hchg _) ⟨HI.out.1.chg HLF.out (hchg (fun _ => False)) (fun _ h => h.elim), HI.out.2⟩ ⟨W.heap.size, by omega, Row.new W 116 _, rfl⟩
    case body =>
      rintro l pre x a' W hsz ⟨hI, hhf⟩ ⟨Bx, hBx, hxr, rfl⟩ hpx
      have hnq := neqL x
      have hpl : pre.length < n ∧ L[pre.length]? = some x := by
        rw [HN.out, HL.out]
        obtain ⟨t, ht⟩ := hpx
        rw [← ht]
        refine ⟨by simp, ?_⟩
        rw [List.append_assoc, List.getElem?_append_right (Nat.le_refl _), Nat.sub_self]; rfl
      obtain ⟨hpn, hpx2⟩ := hpl
      obtain ⟨i, hi⟩ : ∃ i, i = pre.length := ⟨_, rfl⟩
      rw [← hi] at hI hhf hpn hpx2
      obtain ⟨gb, rfl⟩ : ∃ gb, A = some ⟨gb, 0, none⟩ := by
        rcases hI.ow.2 with ⟨_, hn⟩ | ⟨g', cap', cur', hv', _⟩
        · omega
        · injection hv' with e1
          exact ⟨g', e1⟩
      have hx7 : ∀ j u, j < 7 → (tcell x)[j]? = some u → W.cell? ⟨gb, i * 7 + j, none⟩ = some u := fun j u hj hu => by
        rw [World.ownsRow.cellAt hI.ow (i * 7 + j) (by omega)]
        exact (tall_at L i j x hpx2 hj).trans hu
      have t0 := hx7 0 _ (by omega) rfl
      have t1 := hx7 1 _ (by omega) rfl
      have t2 := hx7 2 _ (by omega) rfl
      have t3 := hx7 3 _ (by omega) rfl
      have t4 := hx7 4 _ (by omega) rfl
      have t5 := hx7 5 _ (by omega) rfl
      have t6 := hx7 6 _ (by omega) rfl
      have tl := (World.ownsRow.lt hI.ow gb rfl).2
      have x0 := hxr.cell 0
      have x1 := hxr.cell 1
      have x2 := hxr.cell 2
      have x3 := hxr.cell 3
      have x4 := hxr.cell 4
      have x5 := hxr.cell 5
      have xl := hxr.lt
      have e12 := hI.r12.cell 0
      have e8 := hI.r8.cell 0
      simp only [lvC, List.getElem?_cons_zero, List.getElem?_cons_succ, Nat.add_zero] at x0 x1 x2 x3 x4 x5 e12 e8 t0
      have i1 : (0 : Int) ≤ (i : Int) := by omega
      have i2 : (i : Int) < (n : Int) := by omega
      have i3 : ¬ (n : Int) ≤ (i : Int) := by omega
      have i4 : decide (n ≤ i) = false := by simp; omega
      have HH := Lib.hid (And.intro hI hhf)
      have HXI := Lib.hid hi
      have HKQ : Hid (¬ upTo (fun k => Z k ∨ R k ∨ k = mb) w6.heap.size (lvM root + 2) c12) := Lib.hid (fun h => by
        have hd := hI.df
        rcases h with (h | h | h) | h
        · have := hzl c12 (.inl h); omega
        · have := hzl c12 (.inr h); omega
        · omega
        · omega)
      clear hI hhf hxr hi hx7 hpx hpx2 hzl hlo hT ha1 ha2 ha3 ha4 ha5 hb1 hb2 hb3 hb4 hb5
      unfold lvV at *
      simp only [List.setIfInBounds_toArray, List.set_cons_succ, List.set_cons_zero]
      gi_wp2_with fail
      refine wpIn_region_quietR rfl (by kernel_rfl) (by kernel_rfl) ?_
      repeat (gi_big_quiet_step (fail))
      refine wpQuietIn_nil ?_
      intro _ hw'
      obtain ⟨nq, rfl⟩ := hw'
      have HWD : Hid (LIT B gv g Z Zv M s w root most mb w6.heap.size (w.heap.size + 1) c8 c11 c12 (some ⟨gb, 0, none⟩) n c L [] 0 i (W.drewN nq)) := Lib.hid (HH.out.1.chg HLF.out ((ChgP.refl (fun _ => False) W).drewN nq) (fun k hk => hk.elim))
      have HKP : Hid (KpC (upTo (fun k => Z k ∨ R k ∨ k = mb) w6.heap.size (lvM root + 2)) W ((W.drewN nq).setCell ⟨c12, 0, none⟩ (.int .i64 ((i + 1 : Nat) : Nat)))) := Lib.hid (ChgP.set_ ((ChgP.refl _ W).drewN nq) (p := ⟨c12, 0, none⟩) (.inl HKQ.out) _)
      have HS := Lib.hid (HWD.out.set12 HLF.out HWD.out.own12 (i + 1))
      clear t0 t1 t2 t3 t4 t5 t6 tl x0 x1 x2 x3 x4 x5 xl e12 e8 i1 i3 i4 hnq
      have e12 := HWD.out.r12.cell 0
      have f12 := HWD.out.r12.frozen 0
      have l12 := HWD.out.r12.lt
      simp only [List.getElem?_cons_zero] at e12
      clear HWD
      gi_upto_region 16 with fail
      rw [show ((i : Int) + 1) = ((i + 1 : Nat) : Int) by omega]
      generalize (W.drewN nq).setCell ⟨c12, 0, none⟩ (.int .i64 ((i + 1 : Nat) : Nat)) = W2 at *
      clear e12 f12 l12
      have e12 := HS.out.r12.cell 0
      have l12 := HS.out.r12.lt
      have e8 := HS.out.r8.cell 0
      have l8 := HS.out.r8.lt
      have e11 := HS.out.r11.cell 0
      have l11 := HS.out.r11.lt
      simp only [List.getElem?_cons_zero] at e12 e8 e11
      obtain ⟨nh, hnh⟩ : ∃ nh, nh = n / 2 := ⟨_, rfl⟩
      have eh : (n : Int) / 2 = (nh : Int) := by omega
      have eh2 : (n : Int).tdiv 2 = (nh : Int) := by rw [Int.tdiv_eq_ediv_of_nonneg (by omega)]; exact eh
      have HNH := Lib.hid hnh
      clear hnh
      by_cases hbk : i + 1 ≤ nh
      · have j1 : ¬ (nh : Int) < (i : Int) + 1 := by omega
        have j2 : decide (nh < i + 1) = false := by simp; omega
        have HF := Lib.hid (And.intro HKP.out (show lfIT B gv g Z Zv M s w root most mb w6.heap.size (w.heap.size + 1) c8 c11 c12 (some ⟨gb, 0, none⟩) n c L [] 0 (pre ++ [x]) W2 from ⟨by rw [List.length_append, ← HXI.out]; exact HS.out, fun _ => by rw [List.length_append, ← HXI.out, ← HNH.out]; exact hbk⟩))
        clear hbk
        gi_wp2_with fail
        exact HF.out
      · have j1 : (nh : Int) < (i : Int) + 1 := by omega
        have HF := Lib.hid (And.intro HKP.out (show lfXT B gv g Z Zv M s w root most mb w6.heap.size (w.heap.size + 1) c8 c11 c12 (some ⟨gb, 0, none⟩) n c L [] 0 (.exit 2) (pre ++ [x]) W2 from ⟨rfl, by rw [List.length_append, ← HXI.out]; exact HS.out, rfl, by have h : i ≤ n / 2 := (by first | exact HH.out.2 rfl | exact HH.out.2 trivial); rw [List.length_append, ← HXI.out, ← HNH.out]; rw [← HNH.out] at h; simp; omega⟩))
        clear hbk
        gi_wp2_with fail
        exact HF.out
    case done =>
      rintro xs W rfl ⟨hI, _⟩ hE hK
      refine ⟨rfl, rfl, _, .inl ?_, hI, hE, hK, by have := (Array.getElem?_eq_some_iff.1 hK).1; omega⟩
      rw [← HL.out, HN.out]
    case stop =>
      rintro cd pre W _ ⟨rfl, hI, hr0, hl⟩ hE hK
      refine wpIn_wide.2 ?_
      go_wp2_with fail
      exact ⟨_, .inr ⟨rfl, hl⟩, hI, hE, hK, by have := (Array.getElem?_eq_some_iff.1 hK).1; omega⟩
  case rest0 =>
  rintro W ⟨i, hi, hI, hE, hK, hsz⟩
  have HI := Lib.hid hI; have HE := Lib.hid hE; have HK0 := Lib.hid hK; have HSZ := Lib.hid hsz
  have e12 := hI.r12.cell 0
  have l12 := hI.r12.lt
  have e8 := hI.r8.cell 0
  have l8 := hI.r8.lt
  have e11 := hI.r11.cell 0
  have l11 := hI.r11.lt
  simp only [List.getElem?_cons_zero] at e12 e8 e11
  obtain ⟨nh, hnh⟩ : ∃ nh, nh = n / 2 := ⟨_, rfl⟩
  have eh : (n : Int) / 2 = (nh : Int) := by omega
  have eh2 : (n : Int).tdiv 2 = (nh : Int) := by rw [Int.tdiv_eq_ediv_of_nonneg (by omega)]; exact eh
  have HCD : Hid ((¬ (i : Int) < (n : Int)) ∨ ((i : Int) < (n : Int) ∧ ¬ (i : Int) ≤ (nh : Int))) := Lib.hid (by omega)
  clear hI hE hK hi hnh hsz
  go_upto_region 17 with fail
  go_cut [87] from 73 to 87 (fun x wx => x = .bool false ∧ W = wx)
  case first =>
    rcases HCD.out with h | ⟨h, h2⟩
    all_goals
      go_wp2_with fail
      go_meet
      case rel => exact ⟨rfl, rfl⟩
  case rest =>
  obtain ⟨rfl, rfl⟩ := hcut
  clear eh eh2 HCD e12 l12 e8 l8
  go_wp2_with fail
  obtain ⟨d11, hd11⟩ : ∃ c, c = W.heap.size := ⟨_, rfl⟩
  have hbW : Below W.heap.size W (W.alloc (.cells #[.int .i64 1] 3)) := (Below.refl _ _).alloc (Nat.le_refl _) _
  have r11 := Row.new W 3 [.int .i64 1]
  obtain ⟨D0, hD0⟩ : ∃ D, D = w6.heap.size := ⟨_, rfl⟩
  have HI0 : Hid (∀ W', Below (W.alloc (.cells #[.int .i64 1] 3)).heap.size (W.alloc (.cells #[.int .i64 1] 3)) W' → ∀ c12, (W.alloc (.cells #[.int .i64 1] 3)).heap.size ≤ c12 → Row W' c12 3 [.int .i64 0] → LIT B gv g Z Zv M s w root most mb W'.heap.size (w.heap.size + 1) c8 d11 c12 A n c L [D0] 1 0 W') := Lib.hid (fun W' hb c12' h12 hr12 => by
    have hbb := hbW.trans (hb.mono hbW.size)
    have hl := r11.lt
    have hcs := HI.out.cs
    have hsz := HSZ.out
    rw [hd11, hD0]
    refine HI.out.fresh HLF.out hbb HSZ.out (r11.below hb r11.lt) hr12 (by omega) (by omega) (by omega) (fun D hD => ?_)
    simp only [List.mem_cons, List.not_mem_nil, or_false] at hD
    subst hD
    exact ⟨HK0.out, by omega⟩)
  have HMZ5 : Hid (∃ s1, STape B g Z R (W.alloc (.cells #[.int .i64 1] 3)) (sM M s1)) := Lib.hid (by obtain ⟨s1, h⟩ := HE.out; exact ⟨s1, (stape_i B g).below h hbW⟩)
  have H11 : Hid (Row (W.alloc (.cells #[.int .i64 1] 3)) d11 3 [.int .i64 1]) := Lib.hid (by rw [hd11]; exact r11)
  generalize W.alloc (.cells #[.int .i64 1] 3) = w5 at *
  rw [← hd11, ← hD0]
  clear r11 hbW hd11 hD0 HE HI HK0 HSZ e11 l11 HMZ6 HI6
  have k0 := H11.out.cell 0
  have kl := H11.out.lt
  simp only [List.getElem?_cons_zero] at k0
  rw [rounds_succ]
  go_upto_block 2 with fail
  obtain ⟨c12, hc12⟩ : ∃ c, c = w5.heap.size := ⟨_, rfl⟩
  have hb6 : Below w5.heap.size w5 (w5.alloc (.cells #[.int .i64 0] 3)) := (Below.refl _ _).alloc (Nat.le_refl _) _
  have HI6 : Hid (LIT B gv g Z Zv M s w root most mb (w5.alloc (.cells #[.int .i64 0] 3)).heap.size (w.heap.size + 1) c8 d11 c12 A n c L [D0] 1 0 (w5.alloc (.cells #[.int .i64 0] 3))) := Lib.hid (HI0.out _ hb6 c12 (by rw [hc12]; exact Nat.le_refl _) (by rw [hc12]; exact Row.new w5 _ _))
  have HMZ6 : Hid (∃ s1, STape B g Z R (w5.alloc (.cells #[.int .i64 0] 3)) (sM M s1)) := Lib.hid (by obtain ⟨s1, h⟩ := HMZ5.out; exact ⟨s1, (stape_i B g).below h hb6⟩)
  generalize w5.alloc (.cells #[.int .i64 0] 3) = w6 at *
  rw [← hc12]
  clear HI0 HMZ5 H11 k0 kl hb6 hc12
  refine wp_mid (lfMT B gv g Z R Zv M s w root most mb w6.heap.size (w.heap.size + 1) c8 d11 c12 A n c L [D0] 1 w6.heap.size) { target := .collected w6.heap.size, args := #[] } ?walk1 ?rest1
  case walk1 =>
    go_wp2_with fail
    have hzl : ∀ k, Z k ∨ R k → k < w.heap.size := fun k hk => HLF.out.zs k hk
    obtain ⟨⟨ha1, ha2, ha3, ha4, ha5⟩, hb1, hb2, hb3, hb4, hb5⟩ := HI6.out.cs
    have hlo : ∀ k, w6.heap.size + (lvM root + 2) ≤ k → ¬ upTo Z w6.heap.size (lvM root + 2) k := fun k hk h => by
      rcases h with h | h
      · have := hzl k (.inl h); omega
      · omega
    have hT : ∀ k, upTo Z w6.heap.size (lvM root + 2) k → Z k ∨ w6.heap.size ≤ k := fun k h => h.imp id (fun h => h.1)
    refine (wpIn_wide (n := 3)).1 ?_
    refine wpIn_rangeFunc_C (F := Fence.wide) (n := 3) (ps := #[38, 39]) (gf := 64) (lb := #[pmb (mb + 2), pmb mb, pmb (mb + 1)]) rfl (by decide) ?hg trivial (enters_of Tryz.func64 (by kernel_rfl) rfl)
      (leaves1_seq (stape_i B g) (ent_tape B g) Z R (fun k => Z k ∨ R k ∨ k = mb) M mb (mb + 1) (mb + 2) root most _ w6 (by omega) (by omega) (by omega) (fun k hk => hk) (fun h => by have := hzl _ (.inl h); omega) (fun k hk => by
        rcases hk with h | h | h
        · have := hzl k (.inl h); omega
        · have := hzl k (.inr h); omega
        · omega) HMZ6.out HI6.out.rm HI6.out.rr HI6.out.rb) (Below.refl _ _)
      (fun k hk => by have := hzl k (.inl hk); omega) (fun k hk => by
        rcases hk with h | h | h
        · have := hzl k (.inl h); omega
        · have := hzl k (.inr h); omega
        · omega) (fun _ => rfl)
      (fun U U' ⟨s, hs⟩ hc => ⟨s, (stape_i B g).chg hs hc (fun k hk h => by have := hzl k hk; omega)⟩)
      (lfIT B gv g Z Zv M s w root most mb w6.heap.size (w.heap.size + 1) c8 d11 c12 A n c L [D0] 1) (lfXT B gv g Z Zv M s w root most mb w6.heap.size (w.heap.size + 1) c8 d11 c12 A n c L [D0] 1)
      (fun pre U U' hs hc => ⟨hs.1.chg HLF.out hc hT, hs.2⟩)
      (fun cd pre U U' hs hc => ⟨hs.1, hs.2.1.chg HLF.out hc hT, hs.2.2⟩)
      ⟨HI6.out, fun _ => Nat.zero_le _⟩
      (lfA (w6.heap.size + (lvM root + 2))) (fun x a' => lfA_ab hlo) ?assign ?body ?done ?stop
    case hg => rfl
    case assign =>
      intro l pre x W K hsz hi hpx hK
      obtain ⟨xv, xp, xn, xb, xw, xx, xno⟩ := x
      unfold lvEnc lvV
      have HK := Lib.hid hK
      have HI := Lib.hid hi
      clear hK hi hpx
      gi_wp2_with fail
      have hchg : ∀ Y : Nat → Prop, ChgP Y W (W.alloc (.cells #[.int .u64 (xv : Nat), .int .u64 (xp : Nat), .int .i64 (xn : Nat), .bool xb, .bool xw, .bool xx] 116)) := fun Y => (ChgP.refl Y W).alloc _
      exact HK.out _ _ (hchg _) ⟨HI.out.1.chg HLF.out (hchg (fun _ => False)) (fun _ h => h.elim), HI.out.2⟩ ⟨W.heap.size, by omega, Row.new W 116 _, rfl⟩
    case body =>
      rintro l pre x a' W hsz ⟨hI, hhf⟩ ⟨Bx, hBx, hxr, rfl⟩ hpx
      have hnq := neqL x
      have hpl : pre.length < n ∧ L[pre.length]? = some x := by
        rw [HN.out, HL.out]
        obtain ⟨t, ht⟩ := hpx
        rw [← ht]
        refine ⟨by simp, ?_⟩
        rw [List.append_assoc, List.getElem?_append_right (Nat.le_refl _), Nat.sub_self]; rfl
      obtain ⟨hpn, hpx2⟩ := hpl
      obtain ⟨i, hi⟩ : ∃ i, i = pre.length := ⟨_, rfl⟩
      rw [← hi] at hI hhf hpn hpx2
      obtain ⟨gb, rfl⟩ : ∃ gb, A = some ⟨gb, 0, none⟩ := by
        rcases hI.ow.2 with ⟨_, hn⟩ | ⟨g', cap', cur', hv', _⟩
        · omega
        · injection hv' with e1
          exact ⟨g', e1⟩
      have hx7 : ∀ j u, j < 7 → (tcell x)[j]? = some u → W.cell? ⟨gb, i * 7 + j, none⟩ = some u := fun j u hj hu => by
        rw [World.ownsRow.cellAt hI.ow (i * 7 + j) (by omega)]
        exact (tall_at L i j x hpx2 hj).trans hu
      have t0 := hx7 0 _ (by omega) rfl
      have t1 := hx7 1 _ (by omega) rfl
      have t2 := hx7 2 _ (by omega) rfl
      have t3 := hx7 3 _ (by omega) rfl
      have t4 := hx7 4 _ (by omega) rfl
      have t5 := hx7 5 _ (by omega) rfl
      have t6 := hx7 6 _ (by omega) rfl
      have tl := (World.ownsRow.lt hI.ow gb rfl).2
      have x0 := hxr.cell 0
      have x1 := hxr.cell 1
      have x2 := hxr.cell 2
      have x3 := hxr.cell 3
      have x4 := hxr.cell 4
      have x5 := hxr.cell 5
      have xl := hxr.lt
      have e12 := hI.r12.cell 0
      have e8 := hI.r8.cell 0
      simp only [lvC, List.getElem?_cons_zero, List.getElem?_cons_succ, Nat.add_zero] at x0 x1 x2 x3 x4 x5 e12 e8 t0
      have i1 : (0 : Int) ≤ (i : Int) := by omega
      have i2 : (i : Int) < (n : Int) := by omega
      have i3 : ¬ (n : Int) ≤ (i : Int) := by omega
      have i4 : decide (n ≤ i) = false := by simp; omega
      have HH := Lib.hid (And.intro hI hhf)
      have HXI := Lib.hid hi
      have HKQ : Hid (¬ upTo (fun k => Z k ∨ R k ∨ k = mb) w6.heap.size (lvM root + 2) c12) := Lib.hid (fun h => by
        have hd := hI.df
        rcases h with (h | h | h) | h
        · have := hzl c12 (.inl h); omega
        · have := hzl c12 (.inr h); omega
        · omega
        · omega)
      clear hI hhf hxr hi hx7 hpx hpx2 hzl hlo hT ha1 ha2 ha3 ha4 ha5 hb1 hb2 hb3 hb4 hb5
      unfold lvV at *
      simp only [List.setIfInBounds_toArray, List.set_cons_succ, List.set_cons_zero]
      gi_wp2_with fail
      refine wpIn_region_quietR rfl (by kernel_rfl) (by kernel_rfl) ?_
      repeat (gi_big_quiet_step (fail))
      refine wpQuietIn_nil ?_
      intro _ hw'
      obtain ⟨nq, rfl⟩ := hw'
      have HWD : Hid (LIT B gv g Z Zv M s w root most mb w6.heap.size (w.heap.size + 1) c8 d11 c12 (some ⟨gb, 0, none⟩) n c L [D0] 1 i (W.drewN nq)) := Lib.hid (HH.out.1.chg HLF.out ((ChgP.refl (fun _ => False) W).drewN nq) (fun k hk => hk.elim))
      have HKP : Hid (KpC (upTo (fun k => Z k ∨ R k ∨ k = mb) w6.heap.size (lvM root + 2)) W ((W.drewN nq).setCell ⟨c12, 0, none⟩ (.int .i64 ((i + 1 : Nat) : Nat)))) := Lib.hid (ChgP.set_ ((ChgP.refl _ W).drewN nq) (p := ⟨c12, 0, none⟩) (.inl HKQ.out) _)
      have HS := Lib.hid (HWD.out.set12 HLF.out HWD.out.own12 (i + 1))
      clear t0 t1 t2 t3 t4 t5 t6 tl x0 x1 x2 x3 x4 x5 xl e12 e8 i1 i3 i4 hnq
      have e12 := HWD.out.r12.cell 0
      have f12 := HWD.out.r12.frozen 0
      have l12 := HWD.out.r12.lt
      simp only [List.getElem?_cons_zero] at e12
      clear HWD
      gi_upto_region 16 with fail
      rw [show ((i : Int) + 1) = ((i + 1 : Nat) : Int) by omega]
      generalize (W.drewN nq).setCell ⟨c12, 0, none⟩ (.int .i64 ((i + 1 : Nat) : Nat)) = W2 at *
      clear e12 f12 l12
      have e12 := HS.out.r12.cell 0
      have l12 := HS.out.r12.lt
      have e8 := HS.out.r8.cell 0
      have l8 := HS.out.r8.lt
      have e11 := HS.out.r11.cell 0
      have l11 := HS.out.r11.lt
      simp only [List.getElem?_cons_zero] at e12 e8 e11
      obtain ⟨nh, hnh⟩ : ∃ nh, nh = n / 2 := ⟨_, rfl⟩
      have eh : (n : Int) / 2 = (nh : Int) := by omega
      have eh2 : (n : Int).tdiv 2 = (nh : Int) := by rw [Int.tdiv_eq_ediv_of_nonneg (by omega)]; exact eh
      have HNH := Lib.hid hnh
      clear hnh
      have HF := Lib.hid (And.intro HKP.out (show lfIT B gv g Z Zv M s w root most mb w6.heap.size (w.heap.size + 1) c8 d11 c12 (some ⟨gb, 0, none⟩) n c L [D0] 1 (pre ++ [x]) W2 from ⟨by rw [List.length_append, ← HXI.out]; exact HS.out, fun h => absurd h (by decide)⟩))
      gi_wp2_with fail
      exact HF.out
    case done =>
      rintro xs W rfl ⟨hI, _⟩ hE hK
      refine ⟨rfl, rfl, _, .inl ?_, hI, hE, hK, by have := (Array.getElem?_eq_some_iff.1 hK).1; omega⟩
      rw [← HL.out, HN.out]
    case stop =>
      rintro cd pre W _ ⟨_, _, hr0, _⟩ _ _
      exact absurd hr0 (by decide)
  case rest1 =>
  rintro W ⟨i, hi, hI, hE, hK, hsz⟩
  have HI := Lib.hid hI; have HE := Lib.hid hE; have HK1 := Lib.hid hK; have HSZ := Lib.hid hsz
  have e12 := hI.r12.cell 0
  have l12 := hI.r12.lt
  have e8 := hI.r8.cell 0
  have l8 := hI.r8.lt
  have e11 := hI.r11.cell 0
  have l11 := hI.r11.lt
  simp only [List.getElem?_cons_zero] at e12 e8 e11
  obtain ⟨nh, hnh⟩ : ∃ nh, nh = n / 2 := ⟨_, rfl⟩
  have eh : (n : Int) / 2 = (nh : Int) := by omega
  have eh2 : (n : Int).tdiv 2 = (nh : Int) := by rw [Int.tdiv_eq_ediv_of_nonneg (by omega)]; exact eh
  have HCD : Hid (¬ (i : Int) < (n : Int)) := Lib.hid (by omega)
  clear hI hE hK hi hnh hsz
  go_upto_region 17 with fail
  go_cut [87] from 73 to 87 (fun x wx => x = .bool false ∧ W = wx)
  case first =>
    have h := HCD.out
    go_wp2_with fail
    go_meet
    case rel => exact ⟨rfl, rfl⟩
  case rest =>
  obtain ⟨rfl, rfl⟩ := hcut
  clear eh eh2 HCD e12 l12 e8 l8
  go_wp2_with fail
  have hb9 : Below W.heap.size W (W.alloc (.cells #[.int .i64 2] 3)) := (Below.refl _ _).alloc (Nat.le_refl _) _
  have r11 := Row.new W 3 [.int .i64 2]
  have h69 := HI.out.r6.below hb9 HI.out.r6.lt
  have HC9 : Hid (ChgP (fun k => w.heap.size ≤ k) W (W.alloc (.cells #[.int .i64 2] 3))) := Lib.hid (ChgP.of_below hb9)
  obtain ⟨e11, hd11⟩ : ∃ c, c = W.heap.size := ⟨_, rfl⟩
  have HKB : Hid ((W.alloc (.cells #[.int .i64 2] 3)).heap[w6.heap.size]? = some (.deferred (some [])) ∧ (W.alloc (.cells #[.int .i64 2] 3)).heap[D0]? = some (.deferred (some [])) ∧ w.heap.size ≤ D0 ∧ D0 < w6.heap.size ∧ w.heap.size + 1 ≠ D0 ∧ w.heap.size + 1 < w6.heap.size) := Lib.hid (by
    obtain ⟨q1, q2, q3, q4⟩ := HI.out.dk D0 (by simp)
    have hcs := HI.out.cs
    refine ⟨?_, ?_, q2, q3, fun e => ?_, hcs.2.1⟩
    · rw [hb9.block _ (Array.getElem?_eq_some_iff.1 HK1.out).1]; exact HK1.out
    · rw [hb9.block _ (Array.getElem?_eq_some_iff.1 q1).1]; exact q1
    · have h6 : W.heap[w.heap.size + 1]? = some (.cells #[.bool false] 4) := HI.out.r6
      rw [e, q1] at h6
      cases h6)
  generalize W.alloc (.cells #[.int .i64 2] 3) = w9 at *
  rw [← hd11] at r11 ⊢
  have k0 := r11.cell 0
  have kl := r11.lt
  have z0 := h69.cell 0
  have z1 := h69.frozen 0
  have zl := h69.lt
  simp only [List.getElem?_cons_zero] at k0 z0
  have H69 := Lib.hid h69
  clear r11 hb9 hd11 h69
  rw [rounds_succ]
  go_wp2_with fail
  have HY : Hid (Row (w9.setCell ⟨w.heap.size + 1, 0, none⟩ (.bool true)) (w.heap.size + 1) 4 [.bool true]) := Lib.hid (H69.out.set_ 0 (.bool true))
  have hcz : ChgP (fun k => k = w.heap.size + 1) w9 (w9.setCell ⟨w.heap.size + 1, 0, none⟩ (.bool true)) := ChgP.set_ (Z := fun k => k = w.heap.size + 1) (ChgP.refl _ w9) (p := ⟨w.heap.size + 1, 0, none⟩) (.inl rfl) _
  obtain ⟨q1, q2, q3, q4, q5, q6⟩ := HKB.out
  have HKZ : Hid ((w9.setCell ⟨w.heap.size + 1, 0, none⟩ (.bool true)).heap[w6.heap.size]? = some (.deferred (some [])) ∧ (w9.setCell ⟨w.heap.size + 1, 0, none⟩ (.bool true)).heap[D0]? = some (.deferred (some []))) := Lib.hid ⟨by
    rw [hcz.block _ (Array.getElem?_eq_some_iff.1 q1).1 (fun h => by have h : w6.heap.size = w.heap.size + 1 := h; omega)]; exact q1, by
    rw [hcz.block _ (Array.getElem?_eq_some_iff.1 q2).1 (fun h => by have h : D0 = w.heap.size + 1 := h; omega)]; exact q2⟩
  have HCZ : Hid (ChgP (fun k => w.heap.size ≤ k) W (w9.setCell ⟨w.heap.size + 1, 0, none⟩ (.bool true))) := Lib.hid (HC9.out.trans hcz (fun k hk => .inl (by have hk : k = w.heap.size + 1 := hk; omega)))
  clear hcz
  generalize w9.setCell ⟨w.heap.size + 1, 0, none⟩ (.bool true) = wz at *
  have hcy : ChgP (fun k => k = w6.heap.size) wz (wz.putObj w6.heap.size (.deferred none)) := chgP_put wz _ _ rfl
  have hKy : (wz.putObj w6.heap.size (.deferred none)).heap[D0]? = some (.deferred (some [])) := by
    rw [hcy.block _ (Array.getElem?_eq_some_iff.1 HKZ.out.2).1 (fun h => by have h : D0 = w6.heap.size := h; omega)]; exact HKZ.out.2
  have hry := hcy.row HY.out (fun h => by have h : w.heap.size + 1 = w6.heap.size := h; omega)
  have HCY : Hid (ChgP (fun k => w.heap.size ≤ k) W (wz.putObj w6.heap.size (.deferred none))) := Lib.hid (HCZ.out.trans hcy (fun k hk => .inl (by have hk : k = w6.heap.size := hk; omega)))
  refine ⟨by simp, .inl ⟨_, _, rfl, run_takeDeferred HKZ.out.1, ?_⟩⟩
  generalize wz.putObj w6.heap.size (.deferred none) = wy at *
  have hcx : ChgP (fun k => k = D0) wy (wy.putObj D0 (.deferred none)) := chgP_put wy D0 _ rfl
  have hc5 := (hcx.row hry (fun h => by have h : w.heap.size + 1 = D0 := h; omega)).cell 0
  have HCX : Hid (ChgP (fun k => w.heap.size ≤ k) W (wy.putObj D0 (.deferred none))) := Lib.hid (HCY.out.trans hcx (fun k hk => .inl (by have hk : k = D0 := hk; omega)))
  simp only [List.getElem?_cons_zero] at hc5
  refine ⟨by simp, .inl ⟨_, _, rfl, run_takeDeferred hKy, ?_⟩⟩
  generalize wy.putObj D0 (.deferred none) = wx at *
  have HF : StST B g gv Z Zv M w (.returned (.bool true)) wx := by
    obtain ⟨s1, hs1⟩ := HE.out
    have hf := HLF.out
    refine ⟨rfl, Z, R, Zv, sM M s1, s, ⟨(stape_i B g).chg hs1 HCX.out (fun k hk hy => by have := hf.zs k hk; omega), HI.out.v.chg HCX.out (fun k hk hy => ?_), HT.out.zl, HT.out.dis, HT.out.rb⟩, HI.out.ch.trans HCX.out (fun k hk => .inr hk), fun k hk => .inl hk, fun k hk => .inl hk, rfl, rfl, fun h => h⟩
    rcases hk with hk | hk
    · have := hf.zv k hk; omega
    · have := hf.bw; omega
  refine ⟨.bool true, ?_, HF⟩
  simp [results, Tryz.results27, go_sem, hc5]
end Bu
end Go.Proofs.YtfpofaniicegaaaGreat
