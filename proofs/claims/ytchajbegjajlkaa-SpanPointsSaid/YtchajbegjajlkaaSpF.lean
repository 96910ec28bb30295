/- The walk of the law SpanFits. -/
import Derived.Test.YtchajbegjajlkaaPoP
import Derived.Test.YtchajbegjajlkaaIsU
import Derived.Deep.RegionHeld3
import Derived.StillTailTactics
import Derived.Deep.Cut
import Derived.Deep.DeepCutAuto
set_option linter.unusedVariables false
set_option linter.unusedSimpArgs false
namespace Go.Proofs.Ytchajbegjajlkaa
open Go.RowKit
open S8
theorem u8_len {s : Sp.S} (hn : Sp.Nrm 255 s) : s.length ≤ 128 := by
  have h : ∀ (s : Sp.S) (b : Nat), Sp.Nrm 255 s → (∀ x ∈ s, b ≤ x.1) → b ≤ 257 → 2 * s.length ≤ 257 - b := by
    intro s
    induction s with
    | nil => intro b _ _ _; simp
    | cons x r ih =>
      intro b hn hb hb8
      obtain ⟨h1, h2, h3⟩ := hn.head
      have h4 := hb x (by simp)
      have h5 := ih (x.2 + 2) hn.tail (fun y hy => by have := h3 y hy; omega) (by omega)
      rw [List.length_cons]
      omega
  have := h s 0 hn (fun _ _ => Nat.zero_le _) (by omega)
  omega
theorem OwnS.set8 {w : World} {B n c : Nat} {A : Option Addr} {s : Sp.S} (h : OwnS w B A n c s) (hn : Sp.Nrm TOP s) : IsSet w A n c s := h.isSet hn (by have := u8_len hn; have := h.2; omega)
theorem chg_setRow (w : World) (g : Nat) (V : Array Value) : Chg [g] w (w.setRow g V) := by
  refine ⟨rfl, rfl, rfl, ?_, fun k hk hn => ?_⟩
  · simp [World.setRow]
  · have hne : ¬ g = k := fun e => hn (by simp [e])
    simp [World.setRow, Array.getElem?_modify, hne]
theorem wpStill_load_mid {P : Program} {ops : Array Oper} {w : World} {Q : Act → Prop} {a : Act} {o : Oper} {rest : List Oper} (hgd : o.guard = none) (ty : TypeId) (x : Operand) (ho : o.op = .load ty x)
    (b off : Nat) (hx : a.eval x = .pointer (some ⟨b, off, none⟩)) (cs : List Value) (d : TypeDesc) (hc : w.rangeAt b off cs)
    (hu : P.underlying ty = some d) (hd : d.isRow = true) (hi : (P.info? ty).map (·.size) = some cs.length)
    (h : wpStill P ops w Q rest (a.put o.dst (.agg cs.toArray))) : wpStill P ops w Q (o :: rest) a := by
  unfold wpStill
  rw [if_pos (by simp [Region.wanted, hgd])]
  unfold Oper.still execOp
  simp only [ho, hx, Instr.loadAt, Instr.sureAddr, Sem.run_bind, Sem.run_pure, Result.andThen_ok, run_loadVar_mid w b off ty cs d hc hu hd hi]
  simp only [Oper.stillUpon]
  exact ⟨trivial, h⟩
theorem has_one (a b i : Nat) : Sp.has (S8.one a b) i = decide (a ≤ i ∧ i ≤ b) := by
  unfold S8.one
  split
  · rw [Sp.has_nil, decide_eq_false (by omega)]
  · rw [Sp.has_cons, Sp.has_nil, Bool.or_false]
theorem mk_mark {s out : Sp.S} {a b : Nat} (h : Sp.Mk TOP (fun x y => x || y) s (S8.one a b) out) : ptV (fun i => Sp.has out i) = ptV (markF (fun i => Sp.has s i) a b true) :=
  ptV_congr fun i hi => by
    rw [h.pts i (by unfold TOP; omega), has_one]
    unfold markF
    by_cases hh : a ≤ i ∧ i ≤ b
    · rw [if_pos hh, decide_eq_true hh, Bool.or_true]
    · rw [if_neg hh, decide_eq_false hh, Bool.or_false]
theorem made_some {s out : Sp.S} {a b : Nat} (h : Sp.Mk TOP (fun x y => x || y) s (S8.one a b) out) (hs : (s ≠ [] ∧ Sp.Nrm TOP s) ∨ (a ≤ b ∧ a ≤ 255)) : out ≠ [] := by
  rintro rfl
  rcases hs with ⟨hs, hn⟩ | ⟨h1, h2⟩
  · cases s with
    | nil => exact hs rfl
    | cons x r =>
      have hx := hn.ok x (by simp)
      have := h.pts x.1 (by omega)
      rw [Sp.has_nil, Sp.has_cons, decide_eq_true ⟨Nat.le_refl _, hx.1⟩] at this
      cases this
  · have := h.pts a h2
    rw [Sp.has_nil, has_one, decide_eq_true ⟨Nat.le_refl _, h1⟩, Bool.or_true] at this
    cases this
/-- the cells of the law: the set, and what is to be in it -/
def SFI (w : World) (f : Nat → Bool) (s : Sp.S) (wr : World) : Prop := ∃ (A : Option Addr) (n c : Nat), Row wr w.heap.size 43 [.slice A n c] ∧ OwnS wr w.heap.size A n c s ∧ Sp.Nrm TOP s ∧ Row wr (w.heap.size + 1) 45 (ptV f) ∧ Below w.heap.size w wr
theorem SFI.below {w wr wx : World} {f : Nat → Bool} {s : Sp.S} (h : SFI w f s wr) (hb : Below wr.heap.size wr wx) : SFI w f s wx := by
  obtain ⟨A, n, c, h1, h2, h3, h4, h5⟩ := h
  exact ⟨A, n, c, h1.below hb h1.lt, ⟨owns_chgr (S := []) h2.1 (Chg.of_below hb) (fun _ _ h => by cases h), h2.2⟩, h3, h4.below hb h4.lt, h5.trans (hb.mono h5.size)⟩
theorem SFI.drewN {w wr : World} {f : Nat → Bool} {s : Sp.S} (h : SFI w f s wr) (m : Nat) : SFI w f s (wr.drewN m) := h.below (below_drewN (Below.refl _ _) m)
theorem SFI.set_ {w wr : World} {f : Nat → Bool} {s out : Sp.S} (h : SFI w f s wr) {B n c : Nat} {A : Option Addr} (ho : OwnS wr B A n c out) (hB : w.heap.size ≤ B) (hn : Sp.Nrm TOP out) : SFI w f out (wr.setCell ⟨w.heap.size, 0, none⟩ (.slice A n c)) := by
  obtain ⟨A0, n0, c0, h1, h2, h3, h4, h5⟩ := h
  exact ⟨A, n, c, h1.set_ 0 _, ⟨own_setr (own_monor ho.1 hB) h1 (by decide) 0 _, ho.2⟩, hn, h4.far (p := ⟨w.heap.size, 0, none⟩) (show w.heap.size + 1 ≠ w.heap.size by omega) _, h5.setCell (p := ⟨w.heap.size, 0, none⟩) (Nat.le_refl _) _⟩
theorem SFI.row {w wr : World} {f g : Nat → Bool} {s : Sp.S} (h : SFI w f s wr) : SFI w g s (wr.setRow (w.heap.size + 1) (ptV g).toArray) := by
  obtain ⟨A, n, c, h1, h2, h3, h4, h5⟩ := h
  have hc := chg_setRow wr (w.heap.size + 1) (ptV g).toArray
  refine ⟨A, n, c, hc.row h1 (by simp), ⟨owns_chgr h2.1 hc (fun k hk hm => ?_), h2.2⟩, h3, setRow_sets h4 _, below_setRow h5 (Nat.le_succ _) _⟩
  rw [List.mem_singleton.1 hm] at hk
  exact own_blk_ne h2.1 (cs := _) h4 (by decide) hk
theorem SFI.facts {w wr : World} {f : Nat → Bool} {s : Sp.S} (h : SFI w f s wr) : ∃ (A : Option Addr) (n c : Nat), wr.cell? ⟨w.heap.size, 0, none⟩ = some (.slice A n c) ∧ wr.frozen? ⟨w.heap.size, 0, none⟩ = false ∧ w.heap.size < wr.heap.size ∧ IsSet wr A n c s ∧ n ≤ 128 ∧ s.length = n := by
  obtain ⟨A, n, c, h1, h2, h3, h4, h5⟩ := h
  exact ⟨A, n, c, h1.cell 0, h1.frozen 0, h1.lt, OwnS.set8 h2 h3, by rw [← h2.2]; exact u8_len h3, h2.2⟩
theorem SFI.pt {w wr : World} {f : Nat → Bool} {s : Sp.S} (h : SFI w f s wr) : Row wr (w.heap.size + 1) 45 (ptV f) := by
  obtain ⟨A, n, c, h1, h2, h3, h4, h5⟩ := h
  exact h4
theorem SFI.bel {w wr : World} {f : Nat → Bool} {s : Sp.S} (h : SFI w f s wr) : Below w.heap.size w wr := by
  obtain ⟨A, n, c, h1, h2, h3, h4, h5⟩ := h
  exact h5
/-- the set holds what it is to hold, something among it -/
def Agr0 (f : Nat → Bool) (s : Sp.S) : Prop := ptV f = ptV (fun i => Sp.has s i) ∧ s ≠ []
theorem ptV_inj {f g : Nat → Bool} (h : ptV f = ptV g) : ∀ i, i < 256 → f i = g i := fun i hi => by
  have h1 := congrArg (fun l => l[i]?) h
  simp only [ptV_get _ hi, Option.some.injEq, Value.bool.injEq] at h1
  exact h1
theorem markF_congr {f g : Nat → Bool} (h : ptV f = ptV g) (a b : Nat) (on : Bool) : ptV (markF f a b on) = ptV (markF g a b on) :=
  ptV_congr fun i hi => by
    unfold markF
    rw [ptV_inj h i hi]
set_option maxRecDepth 100000 in
set_option maxHeartbeats 8000000 in
theorem spanfits_walk (A : Option Addr) (n c sz al : Nat) (l : List Nat) (w : World) (hl : IsU w w.heap.size A n l) (hs : sz ≤ 18446744073709551615) (ha : al ≤ 18446744073709551615) :
    Calls Try.prog 4 #[.slice A n c, .int .u64 (sz : Nat), .int .u64 (al : Nat)] w fun e w' => e = .returned (.bool true) ∧ Below w.heap.size w w' := by
  obtain ⟨hz, hsz⟩ := zero_of_info infoPt
  have HSZ := Lib.hid hsz
  have HL := Lib.hid hl
  have hn63 := hl.2.2.1
  obtain ⟨Z, hZ⟩ : ∃ Z, Z = ptV (fun _ => false) := ⟨_, rfl⟩
  rw [← hZ] at hz
  have hZl : Z.length = 256 := by rw [hZ, ptV_len]
  have hZ1 : ∀ v ∈ Z, v.oneCell' = true := by rw [hZ]; exact ptV_one _
  have hr1 := (Row.new w 43 [.slice none 0 0]).alloc (.cells Z.toArray 45)
  have hr2 := Row.new (w.alloc (.cells #[.slice none 0 0] 43)) 45 Z
  rw [show (w.alloc (.cells #[.slice none 0 0] 43)).heap.size = w.heap.size + 1 by simp] at hr2
  have hst := pt_storeCells (P := Try.prog) (ty := 45) hr2 (by rw [hZl]; exact hsz) rfl hZ1
  have hw1 := World.setRow_alloc_new (w.alloc (.cells #[.slice none 0 0] 43)) Z.toArray Z.toArray 45
  rw [show (w.alloc (.cells #[.slice none 0 0] 43)).heap.size = w.heap.size + 1 by simp] at hw1
  have hb1 : Below w.heap.size w ((w.alloc (.cells #[.slice none 0 0] 43)).alloc (.cells Z.toArray 45)) := ((Below.refl _ _).alloc (Nat.le_refl _) _).alloc (by simp) _
  have HI1 : Hid (SFI w (fun _ => false) [] ((w.alloc (.cells #[.slice none 0 0] 43)).alloc (.cells Z.toArray 45))) := Lib.hid ⟨none, 0, 0, hr1, ⟨World.ownsRow_nil _ _ _ _, rfl⟩, Sp.Nrm.nil _, by rw [← hZ]; exact hr2, hb1⟩
  have HHL := Lib.hid hs; have HHA := Lib.hid ha
  clear hl hZ hZ1 hr1 hr2 hb1 hsz
  go_enter Try.func4, Try.ntmps4
  go_upto_region 3 with fail
  try rw [hw1]
  clear hst hw1 hz hZl
  generalize (w.alloc (.cells #[.slice none 0 0] 43)).alloc (.cells Z.toArray 45) = w1 at *
  have HPR : Hid (∀ wx : World, Calls Try.prog 16 #[.int .u64 10, .int .u64 20] wx fun e w' => e = .returned (.agg #[.int .u8 10, .int .u8 20]) ∧ Below wx.heap.size wx w') := Lib.hid (fun wx => pair_any 10 20 wx (by decide) (by decide))
  -- a call of With and the store of what it tells
  have HWI : Hid (∀ (wx : World) (f : Nat → Bool) (s : Sp.S) (A : Option Addr) (n c a b : Nat), SFI w f s wx → wx.cell? ⟨w.heap.size, 0, none⟩ = some (.slice A n c) → a ≤ 255 → b ≤ 255 → Calls Try.prog 15 #[.agg #[.slice A n c], .agg #[.int .u8 (a : Nat), .int .u8 (b : Nat)]] wx fun e w' => ∃ A' n' c' out, e = .returned (.agg #[.slice A' n' c']) ∧ Sp.Mk TOP (fun x y => x || y) s (S8.one a b) out ∧ SFI w f s w' ∧ SFI w f out (w'.setCell ⟨w.heap.size, 0, none⟩ (.slice A' n' c'))) := Lib.hid (fun wx f s A n c a b hI hc ha hb => by
    obtain ⟨A0, n0, c0, f1, f2, f3, f4, f5, f6⟩ := hI.facts
    rw [f1] at hc
    injection hc with hc
    injection hc with e1 e2 e3
    subst e1 e2 e3
    refine (with_any A0 n0 c0 a b s wx f4 ha hb (by omega)).mono fun e w' hh => ?_
    obtain ⟨A', n', c', out, he, ho, hmk, hb'⟩ := hh
    exact ⟨A', n', c', out, he, hmk, hI.below hb', (hI.below hb').set_ ho hI.bel.size hmk.nrm⟩)
  go_cut [] (fun wx => Hid (∃ s, SFI w (fun _ => false) s wx ∧ ptV (markF (fun _ => false) 10 20 true) = ptV (fun i => Sp.has s i) ∧ s ≠ []))
  case first =>
    obtain ⟨A0, n0, c0, f1, f2, f3, f4, f5, f6⟩ := HI1.out.facts
    have HW1 := Lib.hid (And.intro HI1.out f1)
    clear f4 f6
    go_region_law (first
      | (go_simp; go_at_call 16; refine (HPR.out _).mono ?_; rintro e w2 ⟨rfl, hb2⟩; have HI2 : Hid (SFI w (fun _ => false) [] w2) := Lib.hid ((HW1.out.1.drewN 1).below hb2); have HC2 : Hid (w2.cell? ⟨w.heap.size, 0, none⟩ = some (.slice A0 n0 c0)) := Lib.hid ((hb2.cell (p := ⟨w.heap.size, 0, none⟩) f3).trans f1); have q1 := HC2.out; have q2 := HI2.out.facts.choose_spec.choose_spec.choose_spec.2.2.1; clear hb2)
      | (go_simp; go_at_call 15; refine (HWI.out _ _ _ _ _ _ 10 20 HI2.out HC2.out (by decide) (by decide)).mono ?_; rintro e w3 ⟨A3, n3, c3, out, rfl, hmk, hi3, hi4⟩; obtain ⟨A9, n9, c9, z0, z1, z2, z3, z4⟩ := hi3.facts; have HS := Lib.hid (And.intro hmk hi4); clear hmk hi3 hi4 z3 z4))
    all_goals
      go_wp2_with fail
      go_meet
      case rel =>
        obtain ⟨hmk, hi4⟩ := HS.out
        refine Lib.hid ⟨out, hi4, ?_, made_some hmk (.inr (by decide))⟩
        rw [mk_mark hmk]
        rfl
  case rest =>
  obtain ⟨s1, hi1, hp1, hn1⟩ := hcut.out
  have HP1 := Lib.hid (And.intro hp1 hn1); have HI3 := Lib.hid hi1
  clear hcut HI1 hi1 hp1 hn1
  -- mark, and the store of what it tells
  have HMK : Hid (∀ (wx : World) (f : Nat → Bool) (s : Sp.S) (x y : Nat), SFI w f s wx → x ≤ 18446744073709551615 → y ≤ 18446744073709551615 → Calls Try.prog 17 #[.agg (ptV f).toArray, .int .u64 (x : Nat), .int .u64 (y : Nat), .bool true] wx fun e w' => e = .returned (.agg (ptV (markF f (x % 256) (y % 256) true)).toArray) ∧ SFI w f s w' ∧ SFI w (markF f (x % 256) (y % 256) true) s (w'.setRow (w.heap.size + 1) (ptV (markF f (x % 256) (y % 256) true)).toArray) ∧ (storeCells ⟨w.heap.size + 1, 0, none⟩ (ptV (markF f (x % 256) (y % 256) true)) 0).run Try.prog w' = .ok () (w'.setRow (w.heap.size + 1) (ptV (markF f (x % 256) (y % 256) true)).toArray)) := Lib.hid (fun wx f s x y hI hx hy => by
    refine (mark_any f x y true wx hx hy).mono fun e w' hh => ?_
    obtain ⟨he, hb⟩ := hh
    exact ⟨he, hI.below hb, (hI.below hb).row, pt_storeCells (P := Try.prog) (ty := 45) (hI.below hb).pt (by rw [ptV_len]; exact HSZ.out) (by rw [ptV_len, ptV_len]) (ptV_one _)⟩)
  go_upto_region 4 with fail
  go_cut [] (fun wx => Hid (∃ f s, SFI w f s wx ∧ ptV f = ptV (fun i => Sp.has s i) ∧ s ≠ []))
  case first =>
    obtain ⟨V, hV⟩ : ∃ V, V = ptV (fun _ => false) := ⟨_, rfl⟩
    have HV := Lib.hid hV
    have hc4 := HMK.out wc (fun _ => false) s1 10 20 HI3.out (by decide) (by decide)
    rw [← hV] at hc4
    have HC4 := Lib.hid hc4
    clear hV hc4
    go_wp2_with (refine wpList_load_mid rfl _ _ rfl _ _ (by rfl) V (.array 256 4) (by rw [HV.out]; exact pt_range HI3.out.pt) Try.underlying45 rfl (by rw [HSZ.out, HV.out, ptV_len]) ?_)
    refine HC4.out.mono ?_
    rintro e w5 ⟨rfl, hi5, hi6, hst⟩
    have HI6 := Lib.hid hi6
    have l8 := hi5.pt.lt
    have HP6 : Hid (ptV (markF (fun _ => false) (10 % 256) (20 % 256) true) = ptV (fun i => Sp.has s1 i)) := Lib.hid HP1.out.1
    obtain ⟨V5, hV5⟩ : ∃ V5, V5 = ptV (markF (fun _ => false) (10 % 256) (20 % 256) true) := ⟨_, rfl⟩
    rw [← hV5] at hst HI6 ⊢
    have HV5 := Lib.hid hV5
    have hvl : V5.length = 256 := by rw [hV5, ptV_len]
    clear hi5 hi6 hV5 HC4
    go_wp2_with fail
    go_meet
    case rel => exact Lib.hid ⟨_, s1, HI6.out, HP6.out, HP1.out.2⟩
  case rest =>
  have HI7 := Lib.hid hcut.out
  clear hcut HI3 HP1 hs ha
  go_wp2_with fail
  go_loopw [9] (fun x wr => ∃ i : Nat, i ≤ 41 ∧ x = .int .i64 (i : Nat) ∧ Hid (∃ f s, SFI w f s wr ∧ ptV f = ptV (fun i => Sp.has s i) ∧ s ≠ [])) (fun x _ => 42 - (intOf x).toNat)
  case atStart => exact ⟨0, by omega, rfl, HI7⟩
  case round =>
  clear HI7
  obtain ⟨i, hi, rfl, HI⟩ := hrel
  obtain ⟨j, hj⟩ : ∃ j, j = i + 1 := ⟨_, rfl⟩
  have e1 : (i : Int) + 1 = (j : Int) := by omega
  have e1w : IntKind.i64.wrap ((i : Int) + 1) = (j : Int) := by rw [IntKind.wrap_i64]; omega
  have e1n : j < 9223372036854775808 → IntKind.i64.wrap (j : Int) = (j : Int) := fun _ => by rw [IntKind.wrap_i64]; omega
  have e1m := e1n (by omega)
  clear e1n
  have HJ := Lib.hid hj
  obtain ⟨B, hB⟩ : ∃ B, B = decide (j < n ∧ i < 40) := ⟨_, rfl⟩
  have HBB := Lib.hid hB
  go_upto_region 6 with fail
  go_cut [32] (fun x wx => x = .bool B ∧ wr = wx)
  case first =>
    by_cases h1 : j < n
    · have f1 : decide (j < n) = true := decide_eq_true h1
      by_cases h2 : i < 40
      · have f2 : decide ((i : Int) < 40) = true := decide_eq_true (by omega)
        have HBT : Hid (B = true) := Lib.hid (by rw [HBB.out]; exact decide_eq_true ⟨h1, h2⟩)
        clear hB h1 h2 hj
        go_wp2_with fail
        go_meet
        case rel => exact ⟨by rw [HBT.out], rfl⟩
      · have f2 : decide ((i : Int) < 40) = false := decide_eq_false (by omega)
        have HBT : Hid (B = false) := Lib.hid (by rw [HBB.out]; exact decide_eq_false (fun h => h2 h.2))
        clear hB h1 h2 hj
        go_wp2_with fail
        go_meet
        case rel => exact ⟨by rw [HBT.out], rfl⟩
    · have f1 : decide (j < n) = false := decide_eq_false h1
      have HBT : Hid (B = false) := Lib.hid (by rw [HBB.out]; exact decide_eq_false (fun h => h1 h.1))
      clear hB h1 hj
      go_wp2_with fail
      go_meet
      case rel => exact ⟨by rw [HBT.out], rfl⟩
  case rest =>
  obtain ⟨rfl, rfl⟩ := hcut
  cases B with
  | true =>
    obtain ⟨h1, h2⟩ := of_decide_eq_true hB.symm
    have H40 := Lib.hid h2
    clear hB
    obtain ⟨f, s, hI, hag, hne⟩ := HI.out
    obtain ⟨bl, ol, rfl, hbl, hlc⟩ := HL.out.cells (by omega)
    obtain ⟨x, _, hx64, x0⟩ := hlc i (by omega)
    obtain ⟨y, _, hy64, y0⟩ := hlc j h1
    have hbel := hI.bel
    have HXY : Hid (∀ wx, Below w.heap.size w wx → wx.cell? ⟨bl, ol + i, none⟩ = some (.int .u64 (x : Nat)) ∧ wx.cell? ⟨bl, ol + j, none⟩ = some (.int .u64 (y : Nat)) ∧ bl < wx.heap.size) := Lib.hid (fun wx hb => ⟨(hb.cell (p := ⟨bl, ol + i, none⟩) hbl).trans x0, (hb.cell (p := ⟨bl, ol + j, none⟩) hbl).trans y0, Nat.lt_of_lt_of_le hbl hb.size⟩)
    obtain ⟨x1, y1, lbl⟩ := HXY.out _ hbel
    have i1 : (0 : Int) ≤ (i : Int) := by omega
    have i2 : (i : Int) < (n : Int) := by omega
    have j1 : (0 : Int) ≤ (j : Int) := by omega
    have j2 : (j : Int) < (n : Int) := by omega
    obtain ⟨A0, n0, c0, q1, q2, q3, q4, q5, q6⟩ := hI.facts
    obtain ⟨a, ha⟩ : ∃ a, a = cutN x := ⟨_, rfl⟩
    obtain ⟨b, hb⟩ : ∃ b, b = cutN y := ⟨_, rfl⟩
    have ha8 : a ≤ 255 := by rw [ha]; exact cutN_le x
    have hb8 : b ≤ 255 := by rw [hb]; exact cutN_le y
    have HP2 : Hid (∀ wx : World, Calls Try.prog 16 #[.int .u64 (x : Nat), .int .u64 (y : Nat)] wx fun e w' => e = .returned (.agg #[.int .u8 (a : Nat), .int .u8 (b : Nat)]) ∧ Below wx.heap.size wx w') := Lib.hid (fun wx => by rw [ha, hb]; exact pair_any x y wx hx64 hy64)
    have HII := Lib.hid hI; have HAG := Lib.hid (And.intro hag hne); have HAB := Lib.hid (And.intro ha hb)
    have HQ1 := Lib.hid q1
    have H88 := Lib.hid (And.intro ha8 hb8)
    have HX64 := Lib.hid (And.intro hx64 hy64)
    clear h1 h2 hI hag hne hlc x0 y0 hbel q4 q5 q6 ha hb hj HI
    go_upto_region 8 with fail
    go_cut [] (fun wx => Hid (∃ s', SFI w f s' wx ∧ ptV (markF f a b true) = ptV (fun i => Sp.has s' i) ∧ s' ≠ []))
    case first =>
      go_region_law (first
        | (go_simp; go_at_call 16; refine (HP2.out _).mono ?_; rintro e w2 ⟨rfl, hb2⟩; have HI2 : Hid (SFI w f s w2) := Lib.hid ((HII.out.drewN 1).below hb2); have HC2 : Hid (w2.cell? ⟨w.heap.size, 0, none⟩ = some (.slice A0 n0 c0)) := Lib.hid ((hb2.cell (p := ⟨w.heap.size, 0, none⟩) q3).trans HQ1.out); have p1 := HC2.out; have p2 := HI2.out.facts.choose_spec.choose_spec.choose_spec.2.2.1; clear hb2)
        | (go_simp; go_at_call 15; refine (HWI.out _ _ _ _ _ _ a b HI2.out HC2.out H88.out.1 H88.out.2).mono ?_; rintro e w3 ⟨A3, n3, c3, out, rfl, hmk, hi3, hi4⟩; obtain ⟨A9, n9, c9, z0, z1, z2, z3, z4⟩ := hi3.facts; have HS := Lib.hid (And.intro hmk hi4); clear hmk hi3 hi4 z3 z4))
      all_goals
        go_wp2_with fail
        go_meet
        case rel =>
          obtain ⟨hmk, hi4⟩ := HS.out
          refine Lib.hid ⟨out, hi4, ?_, made_some hmk (.inl ⟨HAG.out.2, ?_⟩)⟩
          · rw [mk_mark hmk]; exact markF_congr HAG.out.1 a b true
          · obtain ⟨_, _, _, _, _, h, _⟩ := HII.out; exact h
    case rest =>
    obtain ⟨s2, hi2, hp2, hn2⟩ := hcut.out
    have HI2 := Lib.hid hi2; have HP2' := Lib.hid (And.intro hp2 hn2)
    obtain ⟨x3, y3, lbl3⟩ := HXY.out _ hi2.bel
    clear hcut hi2 hp2 hn2 x1 y1 lbl q1 q2 q3 HP2 HQ1
    go_upto_region 9 with fail
    obtain ⟨V, hV⟩ : ∃ V, V = ptV f := ⟨_, rfl⟩
    have HV := Lib.hid hV
    have hc4 := HMK.out wc.drew f s2 x y (HI2.out.drewN 1) HX64.out.1 HX64.out.2
    rw [← hV] at hc4
    rw [show x % 256 = a from HAB.out.1.symm, show y % 256 = b from HAB.out.2.symm] at hc4
    have HC4 := Lib.hid hc4
    clear hV hc4
    refine wp_region_still_tail 10 (by kernel_rfl) (by kernel_rfl) ?_
    simp only [List.take_succ_cons, List.take_zero, List.drop_succ_cons, List.drop_zero]
    refine wpStill_load_mid rfl _ _ rfl _ _ (by rfl) V (.array 256 4) (by rw [HV.out]; exact (HI2.out.drewN 1).pt |> pt_range) Try.underlying45 rfl (by rw [HSZ.out, HV.out, ptV_len]) ?_
    simp only [Act.put, List.setIfInBounds_toArray, List.set_cons_zero, List.set_cons_succ]
    still_step
    repeat still_step
    try refine wpStill_nil ?_
    change wpList _ _ _ _ _ wc.drew
    go_wp2_with fail
    refine HC4.out.mono ?_
    rintro e w5 ⟨rfl, hi5, hi6, hst⟩
    have HI6 := Lib.hid hi6
    have l8 := hi5.pt.lt
    obtain ⟨V5, hV5⟩ : ∃ V5, V5 = ptV (markF f a b true) := ⟨_, rfl⟩
    have HP6 : Hid (V5 = ptV (fun i => Sp.has s2 i)) := Lib.hid (by rw [hV5]; exact HP2'.out.1)
    rw [← hV5] at hst HI6 ⊢
    have HV5 := Lib.hid hV5
    have hvl : V5.length = 256 := by rw [hV5, ptV_len]
    clear hi5 hi6 hV5 HC4
    have HN : Hid (∃ f s, SFI w f s (w5.setRow (w.heap.size + 1) V5.toArray) ∧ ptV f = ptV (fun i => Sp.has s i) ∧ s ≠ []) := Lib.hid ⟨_, s2, HI6.out, by rw [← HV5.out]; exact HP6.out, HP2'.out.2⟩
    clear x3 y3 lbl3
    go_wp2_with fail
    go_roundw
    case rel => exact ⟨i + 2, by have := H40.out; omega, by go_num, HN⟩
    case measure => have := H40.out; simp [intOf]; omega
  | false =>
    obtain ⟨f, s, hI, hag, hne⟩ := HI.out
    have HII := Lib.hid hI; have HAG := Lib.hid (And.intro hag hne)
    clear hj hB hI hag hne HI e1 e1w e1m
    obtain ⟨A0, n0, c0, q1, q2, q3, q4, q5, q6⟩ := HII.out.facts
    have HQ4 := Lib.hid q4
    obtain ⟨a, ha⟩ : ∃ a, a = sz % 256 := ⟨_, rfl⟩
    obtain ⟨b, hb⟩ : ∃ b, b = al % 256 := ⟨_, rfl⟩
    have g1 : IntKind.u8.wrap (sz : Int) = (a : Int) := by rw [IntKind.wrap_u8, ha]; omega
    have g2 : IntKind.u8.wrap (al : Int) = (b : Int) := by rw [IntKind.wrap_u8, hb]; omega
    have ha8 : a ≤ 255 := by omega
    have hb8 : b ≤ 255 := by omega
    have HFT := Lib.hid (fit_any A0 n0 c0 a b s wr q4 ha8 hb8)
    unfold setV at HFT
    obtain ⟨R, hR⟩ : ∃ R, R = fitS s a b := ⟨_, rfl⟩
    rw [← hR] at HFT
    have HRR := Lib.hid hR
    obtain ⟨R0, R1⟩ := R
    simp only at HFT
    clear ha hb hR q4 q6
    go_wp2_with fail
    refine HFT.out.mono ?_
    rintro e w2 ⟨rfl, hb2⟩
    have HI2 := Lib.hid (HII.out.below hb2)
    clear hb2 HFT q1 q2 q3
    go_upto_region 11 with fail
    obtain ⟨V, hV⟩ : ∃ V, V = ptV f := ⟨_, rfl⟩
    have HV := Lib.hid hV
    have hfl := fitl_any (fun i => Sp.has s i) a b w2 ha8 hb8
    rw [← HAG.out.1, ← hV] at hfl
    have HFL := Lib.hid hfl
    clear hV hfl
    go_wp2_with (refine wpList_load_mid rfl _ _ rfl _ _ (by rfl) V (.array 256 4) (by rw [HV.out]; exact pt_range HI2.out.pt) Try.underlying45 rfl (by rw [HSZ.out, HV.out, ptV_len]) ?_)
    refine HFL.out.mono ?_
    rintro e w4 ⟨R', hRL, rfl, hb4⟩
    have hRe : (R0, R1) = R' := by rw [HRR.out]; exact fit_eq (by obtain ⟨_, _, _, _, _, h, _⟩ := HII.out; exact h) hRL
    subst hRe
    have hR8 : R0 ≤ 255 := by
      by_cases h0 : a = 0 ∨ b = 0
      · have := hRL.1 h0; injection this with h1 h2; omega
      · rcases hRL.2 (fun h => h0 (.inl h)) (fun h => h0 (.inr h)) with ⟨h, _⟩ | ⟨p, h, hp, _⟩
        · injection h with h1 h2; omega
        · injection h with h1 h2; omega
    have hqR : (R1 != R1) = false := by simp
    have HI4 := Lib.hid (HI2.out.below hb4)
    clear hRL hb4 HFL HI2
    simp only
    obtain ⟨A1, n1, c1, q1, q2, q3, q4, q5, q6⟩ := HI4.out.facts
    have HLG := Lib.hid (largest_any A1 n1 c1 s w4 q4)
    unfold setV at HLG
    obtain ⟨M, hM⟩ : ∃ M, M = larg s := ⟨_, rfl⟩
    rw [← hM] at HLG
    have HMM := Lib.hid hM
    have hML : M.1 ≤ M.2 ∧ M.2 ≤ 255 := by rw [hM]; exact larg_le q4.2.2.2.1
    obtain ⟨l0, l1⟩ := M
    simp only at HLG hML
    have hn1 : 0 < n1 := by
      rw [← q6]
      exact List.length_pos_iff.2 HAG.out.2
    have hdn : decide (0 < n1) = true := decide_eq_true hn1
    rw [hdn] at HLG
    have HSL := Lib.hid q6
    have HNR := Lib.hid q4.2.2.2.1
    clear hM q4 q6 hdn
    go_upto_region 14 with fail
    go_upto_region 15 with (go_at_call 20; refine HLG.out.mono ?_; rintro e w5 ⟨rfl, hb5⟩; have HB5 := Lib.hid hb5; clear hb5)
    have hb6 : Below w5.heap.size w5 (w5.alloc (.cells #[.int .u8 (l0 : Nat), .int .u8 (l1 : Nat)] 48)) := (Below.refl _ _).alloc (Nat.le_refl _) _
    have hr6 := Row.new w5 48 [.int .u8 (l0 : Nat), .int .u8 (l1 : Nat)]
    have HI6 := Lib.hid ((HI4.out.below HB5.out).below hb6)
    obtain ⟨g6, hg6⟩ : ∃ g6, g6 = w5.heap.size := ⟨_, rfl⟩
    generalize w5.alloc (.cells #[.int .u8 (l0 : Nat), .int .u8 (l1 : Nat)] 48) = w6 at *
    rw [← hg6] at hr6 ⊢
    have HR6 := Lib.hid hr6
    clear hb6 hr6 hg6 q1 q2 q3 HLG HI4 HB5
    obtain ⟨A2, n2, c2, q1, q2, q3, q4, q5', q6'⟩ := HI6.out.facts
    have HSP := Lib.hid (spans_any A2 n2 c2 s w6 q4)
    unfold setV at HSP
    have hn12 : n2 = n1 := by rw [← q6', HSL.out]
    subst hn12
    clear q4 q6' q5'
    go_wp2_with fail
    refine HSP.out.mono ?_
    rintro e w7 ⟨⟨A7, c7, rfl, ho7, hcc⟩, hb7⟩
    have HR7 := Lib.hid (HR6.out.below hb7 HR6.out.lt)
    have HB7 := Lib.hid ((HI6.out.below hb7).bel)
    have HIS7 : Hid (IsS w7 w7.heap.size A7 n2 s) := Lib.hid (OwnS.set8 ho7 HNR.out).1
    clear ho7 hcc hb7 q1 q2 q3 HSP HI6 HR6
    have hn63' := HIS7.out.2.2
    have HLF := Lib.hid (larg_first s s.length (Nat.le_refl _))
    rw [List.take_length, ← HMM.out] at HLF
    simp only at HLF
    obtain ⟨L, hL⟩ : ∃ L, L = l1 - l0 := ⟨_, rfl⟩
    have hL8 : L ≤ 255 := by omega
    have eL : (l1 : Int) - (l0 : Int) = (L : Int) := by omega
    have HLL := Lib.hid hL
    clear hL
    go_wp2_with fail
    go_loopw [16, 17] (fun z v wr => ∃ (i : Nat) (fb : Bool), i ≤ n2 ∧ v = .int .i64 (i : Nat) ∧ z = .bool fb ∧ Hid (fb = true ↔ ∃ j, j < i ∧ s[j]? = some (l0, l1)) ∧ ∃ m, wr = w7.drewN m) (fun _ v _ => n2 - (intOf v).toNat)
    case atStart => exact ⟨0, false, by omega, rfl, rfl, Lib.hid ⟨(fun h => by cases h), fun ⟨j, hj, _⟩ => by omega⟩, 0, rfl⟩
    case round =>
    obtain ⟨i, fb, hin, rfl, rfl, HFB, m, rfl⟩ := hrel
    by_cases hi2 : i < n2
    · obtain ⟨bs, os, x0, x1, rfl, hbs, hx, y0, y1⟩ := HIS7.out.cells hi2
      have hxo := HNR.out.ok _ (List.mem_of_getElem? hx)
      have hxd := HLF.out.1 _ (List.mem_of_getElem? hx)
      have hxf := HLF.out.2 i (x0, x1) (by rw [HSL.out]; exact hi2) hx
      have y0' : (w7.drewN m).cell? ⟨bs, os + i * 2, none⟩ = some (.int .u8 (x0 : Nat)) := y0
      have y1' : (w7.drewN m).cell? ⟨bs, os + i * 2 + 1, none⟩ = some (.int .u8 (x1 : Nat)) := y1
      have z0 : (w7.drewN m).cell? ⟨g6, 0, none⟩ = some (.int .u8 (l0 : Nat)) := HR7.out.cell 0
      have z1 : (w7.drewN m).cell? ⟨g6, 1, none⟩ = some (.int .u8 (l1 : Nat)) := HR7.out.cell 1
      have zl : g6 < (w7.drewN m).heap.size := HR7.out.lt
      have hbw : bs < (w7.drewN m).heap.size := hbs
      simp only at hxo hxd hxf
      obtain ⟨d, hd⟩ : ∃ d, d = x1 - x0 := ⟨_, rfl⟩
      rw [← hd] at hxd hxf
      rw [← HLL.out] at hxd hxf
      have ed : (x1 : Int) - (x0 : Int) = (d : Int) := by omega
      have hd8 : d ≤ 255 := by omega
      have i0 : (0 : Int) ≤ (i : Int) := by omega
      have i1 : (i : Int) < (n2 : Int) := by omega
      have fgt : decide (L < d) = false := decide_eq_false (by omega)
      have HXF := Lib.hid hxf; have HX := Lib.hid hx
      have HXO := Lib.hid hxo
      obtain ⟨wm, hwm⟩ : ∃ wm, wm = w7.drewN m := ⟨_, rfl⟩
      have HWM := Lib.hid hwm
      rw [← hwm] at y0' y1' z0 z1 zl hbw ⊢
      clear hx hxd hxf hd hxo y0 y1 hbs hwm
      cases fb with
      | true =>
        have HN : Hid (true = true ↔ ∃ j, j < i + 1 ∧ s[j]? = some (l0, l1)) := Lib.hid ⟨fun _ => by obtain ⟨j, h1, h2⟩ := HFB.out.1 rfl; exact ⟨j, by omega, h2⟩, fun _ => rfl⟩
        go_upto_region 20 with fail
        go_quiet (fail)
        go_upto_region 21 with fail
        go_quiet (fail)
        go_upto_region 23 with fail
        go_quiet (fail)
        go_wp2_with fail
        go_roundw
        case rel => exact ⟨i + 1, true, by omega, by go_num, by trivial, HN, by rw [HWM.out]; first | exact ⟨_, World.drewN_drewN _ _ _⟩ | (simp only [World.drewN_drewN]; exact ⟨_, rfl⟩)⟩
        case measure => simp [intOf]; omega
      | false =>
        by_cases hxe : x0 = l0 ∧ x1 = l1
        · obtain ⟨rfl, rfl⟩ := hxe
          have HN : Hid (true = true ↔ ∃ j, j < i + 1 ∧ s[j]? = some (x0, x1)) := Lib.hid ⟨fun _ => ⟨i, by omega, HX.out⟩, fun _ => rfl⟩
          go_upto_region 20 with fail
          go_quiet (fail)
          go_upto_region 21 with fail
          go_quiet (fail)
          go_upto_region 23 with fail
          go_quiet (fail)
          go_wp2_with fail
          go_roundw
          case rel => exact ⟨i + 1, true, by omega, by go_num, by trivial, HN, by rw [HWM.out]; first | exact ⟨_, World.drewN_drewN _ _ _⟩ | (simp only [World.drewN_drewN]; exact ⟨_, rfl⟩)⟩
          case measure => simp [intOf]; omega
        · have HN : Hid (false = true ↔ ∃ j, j < i + 1 ∧ s[j]? = some (l0, l1)) := Lib.hid ⟨(fun h => by cases h), fun ⟨j, h1, h2⟩ => by
            by_cases e : j = i
            · subst e; rw [HX.out] at h2; injection h2 with h2; injection h2 with h3 h4; exact absurd ⟨h3, h4⟩ hxe
            · exact HFB.out.2 ⟨j, by omega, h2⟩⟩
          have hdL : d ≠ L := fun e => by
            obtain ⟨j, h1, h2⟩ := HXF.out e
            by_cases ej : j = i
            · subst ej; rw [HX.out] at h2; injection h2 with h2; injection h2 with h3 h4; exact hxe ⟨h3, h4⟩
            · have := HFB.out.2 ⟨j, by omega, h2⟩; cases this
          have feq : ((d : Int) == (L : Int)) = false := by simp; omega
          have hq : ∀ wx : World, (binOp .eql 48 (.agg #[.int .u8 (x0 : Nat), .int .u8 (x1 : Nat)]) (.agg #[.int .u8 (l0 : Nat), .int .u8 (l1 : Nat)])).run Try.prog wx = .ok (.bool false) wx := fun wx => by
            by_cases h1 : x0 = l0
            · have h2 : ¬ x1 = l1 := fun h2 => hxe ⟨h1, h2⟩
              go_simp
              omega
            · go_simp
              omega
          clear hdL hxe
          go_upto_region 20 with fail
          go_quiet (fail)
          go_upto_region 21 with fail
          go_quiet (fail)
          go_upto_region 23 with fail
          go_quiet (fail)
          go_wp2_with fail
          go_roundw
          case rel => exact ⟨i + 1, false, by omega, by go_num, by trivial, HN, by rw [HWM.out]; first | exact ⟨_, World.drewN_drewN _ _ _⟩ | (simp only [World.drewN_drewN]; exact ⟨_, rfl⟩)⟩
          case measure => simp [intOf]; omega
    · have hfb : fb = true := HFB.out.2 (by
        have hm := larg_mem (s := s) HAG.out.2
        rw [← HMM.out] at hm
        obtain ⟨j, hj⟩ := List.getElem?_of_mem hm
        exact ⟨j, by have := (List.getElem?_eq_some_iff.1 hj).1; have := HSL.out; omega, hj⟩)
      subst hfb
      go_wp2_with fail
      go_ret
      exact ⟨rfl, below_drewN HB7.out m⟩
end Go.Proofs.Ytchajbegjajlkaa
