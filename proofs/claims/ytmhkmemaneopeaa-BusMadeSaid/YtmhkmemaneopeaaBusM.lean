/- The walks of handed and made. -/
import Derived.Test.YtmhkmemaneopeaaRoR
import Derived.Test.YtmhkmemaneopeaaBuZ
set_option linter.unusedVariables false
set_option linter.unusedSimpArgs false
namespace Go.Proofs.Ytmhkmemaneopeaa
open Go.RowKit
open S64
namespace Bu
theorem neqS (s : Sp.S) : ∀ b ∈ s.map scell, BR.Neq b := by
  intro b hb w
  obtain ⟨x, _, rfl⟩ := List.mem_map.1 hb
  exact neqR w x.1 x.2
/-- a marked copy of a list -/
def marked (s : Sp.S) (k : Nat) : List Value := (BR.fillR (s.map scell) (scell (k, 0)) 80).flatten
theorem marked_len (s : Sp.S) (k : Nat) : (marked s k).length = 2 * (s.length + 80) := by
  unfold marked
  rw [flat_len (s := 2) _ (BR.fillR_all (scell_len s) rfl 80), BR.fillR_len _ _ (Nat.le_refl _), List.length_map]
theorem roomS (A : Option Addr) (n c k : Nat) (s : Sp.S) (w : World) (h : IsS w w.heap.size A n s) (hn : n ≤ 4294967296) :
    Calls Try.prog 53 #[.slice A n c, .agg #[.int .u64 (k : Nat), .int .u64 0]] w fun e w' => e = .returned (.slice (some ⟨w.heap.size + 1, 0, none⟩) (n + 80) (n + 80)) ∧ Row w' (w.heap.size + 1) 31 (marked s k) ∧ Below w.heap.size w w' :=
  BR.roomR_any A n c (s.map scell) (scell (k, 0)) w h.1 (scell_len s) (scell_one s) rfl (by intro v hv; simp [scell] at hv; rcases hv with rfl | rfl <;> rfl) (by rw [List.length_map]; exact h.2.1) hn ⟨k, 0, rfl⟩
theorem intactS (A : Option Addr) (n c g k : Nat) (s : Sp.S) (w : World) (h : IsS w w.heap.size A n s) (hr : Row w g 31 (marked s k)) (hn : n ≤ 4294967296) :
    Calls Try.prog 34 #[.slice (some ⟨g, 0, none⟩) (n + 80) (n + 80), .slice A n c, .agg #[.int .u64 (k : Nat), .int .u64 0]] w fun e w' => e = .returned (.bool true) ∧ Below w.heap.size w w' :=
  BR.intactR_yes A n c g (s.map scell) (scell (k, 0)) w h.1 hr (scell_len s) (neqS s) rfl (fun w => neqR w k 0) (by rw [List.length_map]; exact h.2.1) hn
/-- what handed tells -/
def HandSaid (w : World) (n1 n2 : Nat) (s1 s2 : Sp.S) (e : Ending) (w' : World) : Prop :=
  ∃ gx gy, e = .returned (.tuple #[.agg #[.slice (some ⟨gx, 0, none⟩) n1 (n1 + 80), .slice (some ⟨gy, 0, none⟩) n2 (n2 + 80)], .slice (some ⟨gx, 0, none⟩) (n1 + 80) (n1 + 80), .slice (some ⟨gy, 0, none⟩) (n2 + 80) (n2 + 80)]) ∧ w.heap.size ≤ gx ∧ gx < gy ∧ Row w' gx 31 (marked s1 5) ∧ Row w' gy 31 (marked s2 6) ∧ Below w.heap.size w w'
set_option maxRecDepth 100000 in
set_option maxHeartbeats 2000000 in
theorem handed_any (A1 A2 : Option Addr) (n1 n2 c1 c2 : Nat) (s1 s2 : Sp.S) (w : World) (h1 : IsS w w.heap.size A1 n1 s1) (h2 : IsS w w.heap.size A2 n2 s2) (b1 : n1 ≤ 4294967296) (b2 : n2 ≤ 4294967296) :
    Calls Try.prog 33 #[.agg #[.slice A1 n1 c1, .slice A2 n2 c2]] w (HandSaid w n1 n2 s1 s2) := by
  have H1 := Lib.hid h1; have H2 := Lib.hid h2
  clear h1 h2
  go_enter Try.func33, Try.ntmps33
  go_upto_region 1 with fail
  have r0 : Row ((w.alloc (.cells #[.slice A1 n1 c1, .slice A2 n2 c2] 24)).alloc (.cells #[.slice none 0 0, .slice none 0 0] 24)) w.heap.size 24 [.slice A1 n1 c1, .slice A2 n2 c2] := (Row.new w _ [.slice A1 n1 c1, .slice A2 n2 c2]).alloc _
  have r1 : Row ((w.alloc (.cells #[.slice A1 n1 c1, .slice A2 n2 c2] 24)).alloc (.cells #[.slice none 0 0, .slice none 0 0] 24)) (w.heap.size + 1) 24 [.slice none 0 0, .slice none 0 0] := by
    have h := Row.new (w.alloc (.cells #[.slice A1 n1 c1, .slice A2 n2 c2] 24)) 24 [.slice none 0 0, .slice none 0 0]
    rw [sz_alloc] at h
    exact h
  have hb0 : Below w.heap.size w ((w.alloc (.cells #[.slice A1 n1 c1, .slice A2 n2 c2] 24)).alloc (.cells #[.slice none 0 0, .slice none 0 0] 24)) := ((Below.refl _ _).alloc (Nat.le_refl _) _).alloc (by simp) _
  generalize (w.alloc (.cells #[.slice A1 n1 c1, .slice A2 n2 c2] 24)).alloc (.cells #[.slice none 0 0, .slice none 0 0] 24) = w1 at *
  have HR0 := Lib.hid r0; have HR1 := Lib.hid r1; have HB0 := Lib.hid hb0
  have p0 := r0.cell 0
  have lp := r0.lt
  simp only [List.getElem?_cons_zero, List.getElem?_cons_succ] at p0
  clear r0 r1 hb0
  go_wp2_with fail
  refine (roomS A1 n1 c1 5 s1 w1 ((H1.out.below HB0.out).more HB0.out.size) b1).mono ?_
  rintro e w2 ⟨rfl, h3, h4⟩
  obtain ⟨gx, hgx⟩ : ∃ gx, gx = w1.heap.size + 1 := ⟨_, rfl⟩
  rw [← hgx] at h3 ⊢
  have HX := Lib.hid h3
  have HGX : Hid (w.heap.size ≤ gx) := Lib.hid (by have := HB0.out.size; omega)
  have HR02 := Lib.hid (HR0.out.below h4 HR0.out.lt)
  have HR12 := Lib.hid (HR1.out.below h4 HR1.out.lt)
  have HB2 := Lib.hid (HB0.out.trans (h4.mono HB0.out.size))
  clear h3 h4 hgx p0 lp HR0 HR1 HB0
  have p1 := HR02.out.cell 1
  have lp := HR02.out.lt
  simp only [List.getElem?_cons_zero, List.getElem?_cons_succ] at p1
  go_wp2_with fail
  refine (roomS A2 n2 c2 6 s2 w2 ((H2.out.below HB2.out).more HB2.out.size) b2).mono ?_
  rintro e w3 ⟨rfl, h3, h4⟩
  obtain ⟨gy, hgy⟩ : ∃ gy, gy = w2.heap.size + 1 := ⟨_, rfl⟩
  rw [← hgy] at h3 ⊢
  have HY := Lib.hid h3
  have HXY : Hid (gx < gy) := Lib.hid (by have := HX.out.lt; omega)
  have HX3 := Lib.hid (HX.out.below h4 HX.out.lt)
  have HR03 := Lib.hid (HR02.out.below h4 HR02.out.lt)
  have HR13 := Lib.hid (HR12.out.below h4 HR12.out.lt)
  have HB3 := Lib.hid (HB2.out.trans (h4.mono HB2.out.size))
  clear h3 h4 hgy p1 lp HR02 HR12 HB2 HX
  have p0 := HR03.out.cell 0
  have p1 := HR03.out.cell 1
  have lp := HR03.out.lt
  have q0 := HR13.out.cell 0
  have q1 := HR13.out.cell 1
  have qf0 := HR13.out.frozen 0
  have qf1 := HR13.out.frozen 1
  have lq := HR13.out.lt
  simp only [List.getElem?_cons_zero, List.getElem?_cons_succ] at p0 p1 q0 q1
  have k1 : (n1 : Int) ≤ (n1 : Int) + 80 := by omega
  have k2 : (n2 : Int) ≤ (n2 : Int) + 80 := by omega
  go_upto_region 3 with fail
  have HY0 := Lib.hid ((HR13.out.set_ 0 (.slice (some ⟨gx, 0, none⟩) n1 (n1 + 80))).cell 0)
  have HY1 := Lib.hid (((HR13.out.set_ 0 (.slice (some ⟨gx, 0, none⟩) n1 (n1 + 80))).set_ 1 (.slice (some ⟨gy, 0, none⟩) n2 (n2 + 80))).cell 1)
  simp only [List.set_cons_zero, List.set_cons_succ, List.getElem?_cons_zero, List.getElem?_cons_succ] at HY0 HY1
  have HX5 : Hid (Row ((w3.drew.setCell ⟨w.heap.size + 1, 0, none⟩ (.slice (some ⟨gx, 0, none⟩) n1 (n1 + 80))).setCell ⟨w.heap.size + 1, 1, none⟩ (.slice (some ⟨gy, 0, none⟩) n2 (n2 + 80))) gx 31 (marked s1 5)) := Lib.hid ((HX3.out.drew.far (p := ⟨w.heap.size + 1, 0, none⟩) (Row.ne_t HX3.out HR13.out (by decide)) _).far (p := ⟨w.heap.size + 1, 1, none⟩) (Row.ne_t HX3.out HR13.out (by decide)) _)
  have HY5 : Hid (Row ((w3.drew.setCell ⟨w.heap.size + 1, 0, none⟩ (.slice (some ⟨gx, 0, none⟩) n1 (n1 + 80))).setCell ⟨w.heap.size + 1, 1, none⟩ (.slice (some ⟨gy, 0, none⟩) n2 (n2 + 80))) gy 31 (marked s2 6)) := Lib.hid ((HY.out.drew.far (p := ⟨w.heap.size + 1, 0, none⟩) (Row.ne_t HY.out HR13.out (by decide)) _).far (p := ⟨w.heap.size + 1, 1, none⟩) (Row.ne_t HY.out HR13.out (by decide)) _)
  have HB5 : Hid (Below w.heap.size w ((w3.drew.setCell ⟨w.heap.size + 1, 0, none⟩ (.slice (some ⟨gx, 0, none⟩) n1 (n1 + 80))).setCell ⟨w.heap.size + 1, 1, none⟩ (.slice (some ⟨gy, 0, none⟩) n2 (n2 + 80)))) := Lib.hid ((HB3.out.drew.setCell (p := ⟨w.heap.size + 1, 0, none⟩) (Nat.le_succ _) _).setCell (p := ⟨w.heap.size + 1, 1, none⟩) (Nat.le_succ _) _)
  have hr5 := (HR03.out.drew.far (p := ⟨w.heap.size + 1, 0, none⟩) (by simp) (.slice (some ⟨gx, 0, none⟩) n1 (n1 + 80))).far (p := ⟨w.heap.size + 1, 1, none⟩) (by simp) (.slice (some ⟨gy, 0, none⟩) n2 (n2 + 80))
  have KS : Hid (((w3.drew.setCell ⟨w.heap.size + 1, 0, none⟩ (.slice (some ⟨gx, 0, none⟩) n1 (n1 + 80))).setCell ⟨w.heap.size + 1, 1, none⟩ (.slice (some ⟨gy, 0, none⟩) n2 (n2 + 80))).cell? ⟨w.heap.size, 0, none⟩ = some (.slice A1 n1 c1) ∧ ((w3.drew.setCell ⟨w.heap.size + 1, 0, none⟩ (.slice (some ⟨gx, 0, none⟩) n1 (n1 + 80))).setCell ⟨w.heap.size + 1, 1, none⟩ (.slice (some ⟨gy, 0, none⟩) n2 (n2 + 80))).cell? ⟨w.heap.size, 1, none⟩ = some (.slice A2 n2 c2)) := Lib.hid ⟨hr5.cell 0, hr5.cell 1⟩
  clear hr5
  go_region_held3 (fun w' => w'.cell? ⟨w.heap.size, 0, none⟩ = some (.slice A1 n1 c1) ∧ w'.cell? ⟨w.heap.size, 1, none⟩ = some (.slice A2 n2 c2))
    (first | exact ⟨p0, p1⟩ | exact KS.out)
    (first | fail)
  all_goals
    go_wp2_with fail
    refine bodyPost_ret (v := .tuple #[.agg #[.slice (some ⟨gx, 0, none⟩) n1 (n1 + 80), .slice (some ⟨gy, 0, none⟩) n2 (n2 + 80)], .slice (some ⟨gx, 0, none⟩) (n1 + 80) (n1 + 80), .slice (some ⟨gy, 0, none⟩) (n2 + 80) (n2 + 80)]) (by simp [results, Try.results33, go_sem, HY0.out, HY1.out]) rfl ⟨gx, gy, rfl, HGX.out, HXY.out, HX5.out, HY5.out, HB5.out⟩
/-- the lists are written over -/
structure OV (gx gy L1 L2 : Nat) (w wr : World) : Prop where
  x : ∃ cs, Row wr gx 31 cs ∧ cs.length = L1 * 2
  y : ∃ cs, Row wr gy 31 cs ∧ cs.length = L2 * 2
  c : ChgP (fun k => k = gx ∨ k = gy) w wr
theorem OV.setx {gx gy L1 L2 : Nat} {w wr : World} (h : OV gx gy L1 L2 w wr) (hn : gx < gy) (i : Nat) (v : Value) : OV gx gy L1 L2 w (wr.setCell ⟨gx, i, none⟩ v) := by
  obtain ⟨⟨cs, h1, h2⟩, ⟨ds, h3, h4⟩, h5⟩ := h
  exact ⟨⟨_, h1.set_ i v, by rw [List.length_set]; exact h2⟩, ⟨ds, h3.far (p := ⟨gx, i, none⟩) (by simp; omega) v, h4⟩, h5.set_ (p := ⟨gx, i, none⟩) (.inl (.inl rfl)) v⟩
theorem OV.sety {gx gy L1 L2 : Nat} {w wr : World} (h : OV gx gy L1 L2 w wr) (hn : gx < gy) (i : Nat) (v : Value) : OV gx gy L1 L2 w (wr.setCell ⟨gy, i, none⟩ v) := by
  obtain ⟨⟨cs, h1, h2⟩, ⟨ds, h3, h4⟩, h5⟩ := h
  exact ⟨⟨cs, h1.far (p := ⟨gy, i, none⟩) (by simp; omega) v, h2⟩, ⟨_, h3.set_ i v, by rw [List.length_set]; exact h4⟩, h5.set_ (p := ⟨gy, i, none⟩) (.inl (.inr rfl)) v⟩
theorem marked_isS {w : World} {g n k : Nat} {s : Sp.S} (h : Row w g 31 (marked s k)) (hl : s.length = n) (hn : n ≤ 4294967296) : IsS w w.heap.size (some ⟨g, 0, none⟩) n s :=
  ⟨BR.fillR_reads h (scell_len s) (by rw [List.length_map]; exact hl) h.lt, hl, by omega⟩
/-- what made tells -/
def MadeSaid (w : World) (rams devs : Sp.S) (e : Ending) (w' : World) : Prop :=
  Below w.heap.size w w' ∧ ((newE rams devs ≠ 0 ∧ e = .returned (.tuple #[.pointer none, .bool true])) ∨
    (newE rams devs = 0 ∧ ∃ g Z R, e = .returned (.tuple #[.pointer (some ⟨g, 0, none⟩), .bool true]) ∧ MZ Z R w' g ⟨rams, devs, fun _ => 0, 0, 0, 0⟩ ∧ ∀ k, Z k ∨ R k → w.heap.size ≤ k))
/-- what New told, whichever it was -/
structure PVI (w w3 : World) (gx gy : Nat) (rams devs : Sp.S) (PV : Value) (PB : Bool) (w4 : World) : Prop where
  pb : PB = decide (newE rams devs = 0)
  pos : newE rams devs = 0 → ∃ g : Nat, PV = .pointer (some ⟨g, 0, none⟩)
  neg : newE rams devs ≠ 0 → PV = .pointer none
  fin : ∀ wx, ChgP (fun k => k = gx ∨ k = gy) w4 wx → Below w.heap.size w wx → MadeSaid w rams devs (.returned (.tuple #[PV, .bool true])) wx
theorem pvi_of {w w3 w4 : World} {gx gy : Nat} {rams devs : Sp.S} {e : Ending} (h : NewSaid w3 rams devs e w4) (hx : gx < w3.heap.size) (hy : gy < w3.heap.size) (hw : w.heap.size ≤ w3.heap.size) :
    ∃ PV PB, e = .returned (.tuple #[PV, .int .i64 (newE rams devs : Nat)]) ∧ PVI w w3 gx gy rams devs PV PB w4 := by
  by_cases h0 : newE rams devs = 0
  · obtain ⟨hb, g, Z, R, he, hm, hzr⟩ := h.mz h0
    refine ⟨.pointer (some ⟨g, 0, none⟩), true, by rw [he, h0]; rfl, (decide_eq_true h0).symm, fun _ => ⟨g, rfl⟩, fun h => absurd h0 h, fun wx hc hbw => ⟨hbw, .inr ⟨h0, g, Z, R, rfl, hm.chg hc (fun k hk hq => ?_), fun k hk => Nat.le_trans hw (hzr k hk)⟩⟩⟩
    have := hzr k hk
    rcases hq with rfl | rfl <;> omega
  · obtain ⟨hb, h1 | ⟨h1, _⟩⟩ := h
    · exact ⟨.pointer none, false, h1.2, (decide_eq_false h0).symm, fun h => absurd h h0, fun _ => rfl, fun wx hc hbw => ⟨hbw, .inl ⟨h0, rfl⟩⟩⟩
    · exact absurd h1 h0
set_option maxRecDepth 100000 in
set_option maxHeartbeats 4000000 in
theorem made_any (A1 A2 : Option Addr) (n1 n2 c1 c2 : Nat) (rams devs : Sp.S) (w : World) (h1 : IsS w w.heap.size A1 n1 rams) (h2 : IsS w w.heap.size A2 n2 devs) (ht : ∀ x ∈ rams ++ devs, x.1 ≤ TOP ∧ x.2 ≤ TOP) (b1 : n1 ≤ 4294967296) (b2 : n2 ≤ 4294967296) :
    Calls Try.prog 9 #[.agg #[.slice A1 n1 c1, .slice A2 n2 c2]] w (MadeSaid w rams devs) := by
  have H1 := Lib.hid h1; have H2 := Lib.hid h2; have HT := Lib.hid ht
  clear h1 h2 ht
  go_enter Try.func9, Try.ntmps9
  go_upto_region 1 with fail
  have r0 : Row (w.alloc (.cells #[.slice A1 n1 c1, .slice A2 n2 c2] 24)) w.heap.size 24 [.slice A1 n1 c1, .slice A2 n2 c2] := Row.new w _ [.slice A1 n1 c1, .slice A2 n2 c2]
  have hb0 : Below w.heap.size w (w.alloc (.cells #[.slice A1 n1 c1, .slice A2 n2 c2] 24)) := (Below.refl _ _).alloc (Nat.le_refl _) _
  obtain ⟨c0, hc0⟩ : ∃ c0, c0 = w.heap.size := ⟨_, rfl⟩
  generalize w.alloc (.cells #[.slice A1 n1 c1, .slice A2 n2 c2] 24) = w1 at *
  rw [← hc0] at r0 ⊢
  clear hc0
  have HR0 := Lib.hid r0; have HB0 := Lib.hid hb0
  have p0 := r0.cell 0
  have p1 := r0.cell 1
  have lp := r0.lt
  simp only [List.getElem?_cons_zero, List.getElem?_cons_succ] at p0 p1
  clear r0 hb0
  go_wp2_with fail
  refine (handed_any A1 A2 n1 n2 c1 c2 rams devs w1 ((H1.out.below HB0.out).more HB0.out.size) ((H2.out.below HB0.out).more HB0.out.size) b1 b2).mono ?_
  rintro e w2 ⟨gx, gy, rfl, hgx, hxy, hrx, hry, hb2⟩
  have HXY := Lib.hid hxy
  have HGX : Hid (w.heap.size ≤ gx ∧ c0 < gx) := Lib.hid ⟨Nat.le_trans HB0.out.size hgx, Nat.lt_of_lt_of_le HR0.out.lt hgx⟩
  have HX2 := Lib.hid hrx; have HY2 := Lib.hid hry
  have HR2 := Lib.hid (HR0.out.below hb2 HR0.out.lt)
  have HB2 := Lib.hid (HB0.out.trans (hb2.mono HB0.out.size))
  clear hgx hxy hrx hry hb2 p0 p1 lp HR0 HB0
  go_upto_region 2 with fail
  have hrc : Row (w2.alloc (.cells #[.slice (some ⟨gx, 0, none⟩) n1 (n1 + 80), .slice (some ⟨gy, 0, none⟩) n2 (n2 + 80)] 24)) w2.heap.size 24 [.slice (some ⟨gx, 0, none⟩) n1 (n1 + 80), .slice (some ⟨gy, 0, none⟩) n2 (n2 + 80)] := Row.new w2 _ [.slice (some ⟨gx, 0, none⟩) n1 (n1 + 80), .slice (some ⟨gy, 0, none⟩) n2 (n2 + 80)]
  have hb23 : Below w2.heap.size w2 (w2.alloc (.cells #[.slice (some ⟨gx, 0, none⟩) n1 (n1 + 80), .slice (some ⟨gy, 0, none⟩) n2 (n2 + 80)] 24)) := (Below.refl _ _).alloc (Nat.le_refl _) _
  obtain ⟨c4, hc4⟩ : ∃ c4, c4 = w2.heap.size := ⟨_, rfl⟩
  generalize w2.alloc (.cells #[.slice (some ⟨gx, 0, none⟩) n1 (n1 + 80), .slice (some ⟨gy, 0, none⟩) n2 (n2 + 80)] 24) = w3 at *
  rw [← hc4] at hrc ⊢
  clear hc4
  have HX3 := Lib.hid (HX2.out.below hb23 HX2.out.lt)
  have HY3 := Lib.hid (HY2.out.below hb23 HY2.out.lt)
  have HR3 := Lib.hid (HR2.out.below hb23 HR2.out.lt)
  have HB3 := Lib.hid (HB2.out.trans (hb23.mono HB2.out.size))
  have q0 := hrc.cell 0
  have q1 := hrc.cell 1
  have lq := hrc.lt
  simp only [List.getElem?_cons_zero, List.getElem?_cons_succ] at q0 q1
  clear hrc hb23 HX2 HY2 HR2 HB2
  go_wp2_with fail
  refine (new_any (some ⟨gx, 0, none⟩) (some ⟨gy, 0, none⟩) n1 n2 (n1 + 80) (n2 + 80) rams devs w3 (marked_isS HX3.out H1.out.2.1 b1) (marked_isS HY3.out H2.out.2.1 b2) (fun x hx => HT.out x (List.mem_append_left _ hx)) (fun x hx => HT.out x (List.mem_append_right _ hx))).mono ?_
  intro e w4 hns
  have hb34 := hns.1
  obtain ⟨PV, PB, rfl, hpv⟩ := pvi_of (w := w) (gx := gx) (gy := gy) hns HX3.out.lt HY3.out.lt HB3.out.size
  have HPV := Lib.hid hpv
  have HX4 := Lib.hid (HX3.out.below hb34 HX3.out.lt)
  have HY4 := Lib.hid (HY3.out.below hb34 HY3.out.lt)
  have HR4 := Lib.hid (HR3.out.below hb34 HR3.out.lt)
  have HB4 := Lib.hid (HB3.out.trans (hb34.mono HB3.out.size))
  clear hpv hns hb34 q0 q1 lq HX3 HY3 HR3 HB3
  obtain ⟨E, hE⟩ : ∃ E, E = newE rams devs := ⟨_, rfl⟩
  rw [← hE]
  have HE := Lib.hid hE
  clear hE
  have p0 := HR4.out.cell 0
  have p1 := HR4.out.cell 1
  have lp := HR4.out.lt
  simp only [List.getElem?_cons_zero, List.getElem?_cons_succ] at p0 p1
  go_wp2_with fail
  refine (intactS A1 n1 c1 gx 5 rams w4 ((H1.out.below HB4.out).more HB4.out.size) HX4.out b1).mono ?_
  rintro e w5 ⟨rfl, hb5⟩
  have HB5 := Lib.hid hb5
  have HR5 := Lib.hid (HR4.out.below hb5 HR4.out.lt)
  clear hb5 p0 p1 lp
  have p1 := HR5.out.cell 1
  have lp := HR5.out.lt
  simp only [List.getElem?_cons_zero, List.getElem?_cons_succ] at p1
  go_wp2_with fail
  refine (intactS A2 n2 c2 gy 6 devs w5 ((H2.out.below (HB4.out.trans (HB5.out.mono HB4.out.size))).more (HB4.out.trans (HB5.out.mono HB4.out.size)).size) (HY4.out.below HB5.out HY4.out.lt) b2).mono ?_
  rintro e w6 ⟨rfl, hb6⟩
  have HB6 := Lib.hid (HB5.out.trans (hb6.mono HB5.out.size))
  have HO : Hid (OV gx gy (n1 + 80) (n2 + 80) w4 w6) := Lib.hid ⟨⟨_, HX4.out.below HB6.out HX4.out.lt, by rw [marked_len, H1.out.2.1]; omega⟩, ⟨_, HY4.out.below HB6.out HY4.out.lt, by rw [marked_len, H2.out.2.1]; omega⟩, ChgP.of_below HB6.out⟩
  clear hb6 p1 lp HB5 HR5 HB6 HX4 HY4
  go_wp2_with fail
  go_loopw [10] (fun i wr => ∃ j : Nat, j ≤ n1 + 80 ∧ i = .int .i64 (j : Nat) ∧ Hid (OV gx gy (n1 + 80) (n2 + 80) w4 wr)) (fun i _ => n1 + 80 - (intOf i).toNat)
  case atStart => exact ⟨0, by omega, rfl, HO⟩
  case round =>
  clear HO
  obtain ⟨j, hj, rfl, HO⟩ := hrel
  by_cases hjn : j < n1 + 80
  · obtain ⟨cs, hr, hl⟩ := HO.out.x
    have hji : (j : Int) < (n1 : Int) + 80 := by omega
    obtain ⟨u0, hu0⟩ : ∃ u, cs[j * 2]? = some u := ⟨_, List.getElem?_eq_getElem (by omega)⟩
    obtain ⟨u1, hu1⟩ : ∃ u, cs[j * 2 + 1]? = some u := ⟨_, List.getElem?_eq_getElem (by omega)⟩
    have t0 := (hr.cell (j * 2)).trans hu0
    have t1 := (hr.cell (j * 2 + 1)).trans hu1
    have f0 := hr.frozen (j * 2)
    have f1 := hr.frozen (j * 2 + 1)
    have lr := hr.lt
    have HN := Lib.hid (HO.out.setx HXY.out (j * 2) (.int .u64 0) |>.setx HXY.out (j * 2 + 1) (.int .u64 4096))
    clear hr hl hu0 hu1
    go_wp2_with fail
    go_roundw
    case rel => exact ⟨j + 1, by omega, by go_num, HN⟩
    case measure => simp [intOf]; omega
  have hj2 : ¬ (j : Int) < (n1 : Int) + 80 := by omega
  clear hj hjn
  go_wp2_with fail
  go_loopw [11] (fun i wr => ∃ j : Nat, j ≤ n2 + 80 ∧ i = .int .i64 (j : Nat) ∧ Hid (OV gx gy (n1 + 80) (n2 + 80) w4 wr)) (fun i _ => n2 + 80 - (intOf i).toNat)
  case atStart => exact ⟨0, by omega, rfl, HO⟩
  case round =>
  clear HO
  obtain ⟨j, hj, rfl, HO⟩ := hrel
  by_cases hjn : j < n2 + 80
  · obtain ⟨cs, hr, hl⟩ := HO.out.y
    have hji : (j : Int) < (n2 : Int) + 80 := by omega
    obtain ⟨u0, hu0⟩ : ∃ u, cs[j * 2]? = some u := ⟨_, List.getElem?_eq_getElem (by omega)⟩
    obtain ⟨u1, hu1⟩ : ∃ u, cs[j * 2 + 1]? = some u := ⟨_, List.getElem?_eq_getElem (by omega)⟩
    have t0 := (hr.cell (j * 2)).trans hu0
    have t1 := (hr.cell (j * 2 + 1)).trans hu1
    have f0 := hr.frozen (j * 2)
    have f1 := hr.frozen (j * 2 + 1)
    have lr := hr.lt
    have HN := Lib.hid (HO.out.sety HXY.out (j * 2) (.int .u64 0) |>.sety HXY.out (j * 2 + 1) (.int .u64 4096))
    clear hr hl hu0 hu1
    go_wp2_with fail
    go_roundw
    case rel => exact ⟨j + 1, by omega, by go_num, HN⟩
    case measure => simp [intOf]; omega
  have hj3 : ¬ (j : Int) < (n2 : Int) + 80 := by omega
  clear hj hjn
  have HBW : Hid (Below w.heap.size w wr) := Lib.hid (HB4.out.trans (HO.out.c.below HB4.out.size (fun x hx => by
    have h1 := HGX.out.1
    have h2 := HXY.out
    rcases hx with rfl | rfl <;> omega)))
  have HRW := Lib.hid (HO.out.c.row HR4.out (fun hx => by
    have h1 := HGX.out.2
    have h2 := HXY.out
    rcases hx with h | h <;> omega))
  have p0 := HRW.out.cell 0
  have p1 := HRW.out.cell 1
  have lp := HRW.out.lt
  simp only [List.getElem?_cons_zero, List.getElem?_cons_succ] at p0 p1
  go_wp2_with fail
  refine (refuses_any A1 A2 n1 n2 c1 c2 rams devs wr ((H1.out.below HBW.out).more HBW.out.size) ((H2.out.below HBW.out).more HBW.out.size) HT.out).mono ?_
  rintro e w9 ⟨rfl, hb9⟩
  have HF := Lib.hid (HPV.out.fin w9 (HO.out.c.trans (ChgP.of_below (Z := fun _ => False) hb9) (fun x hx => hx.elim)) (HBW.out.trans (hb9.mono HBW.out.size)))
  rw [← HE.out]
  clear hb9 p0 p1 lp
  have hee : ((E : Int) == (E : Int)) = true := by simp
  by_cases hE0 : E = 0
  · have f : ((E : Int) == 0) = true := by simp [hE0]
    obtain ⟨gm, rfl⟩ := HPV.out.pos (by rw [← HE.out]; exact hE0)
    clear hE0
    go_wp2_with fail
    refine bodyPost_ret (v := .tuple #[.pointer (some ⟨gm, 0, none⟩), .bool true]) (by simp [results, Try.results9, go_sem]) rfl HF.out
  · have f : ((E : Int) == 0) = false := by simp; omega
    obtain rfl := HPV.out.neg (by rw [← HE.out]; exact hE0)
    clear hE0
    go_wp2_with fail
    refine bodyPost_ret (v := .tuple #[.pointer none, .bool true]) (by simp [results, Try.results9, go_sem]) rfl HF.out
end Bu
end Go.Proofs.Ytmhkmemaneopeaa
