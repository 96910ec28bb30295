/- Texts of this claim, one behind the other: PwB, PwC, PwD, PwE. -/
import Derived.Test.YtblfagmoilhdnaaJPagesTold32
import Derived.Test.YtblfagmoilhdnaaJPagesTold24
import Derived.Test.YtblfagmoilhdnaaJPagesTold15
import Derived.Test.YtblfagmoilhdnaaJPagesTold20
import Derived.Deep.RegionHeld3
import Derived.Deep.RegionLaw
import Derived.StillTailTactics
/- Plain law: what the tables of rows answer is what the rows say. -/
set_option linter.unusedVariables false
set_option linter.unusedSimpArgs false
namespace Go.Proofs.Ytblfagmoilhdnaa
namespace Pg
open Bu
def Lf.has (r : Lf) (virt : Nat) : Bool := decide (r.v ≤ virt ∧ virt - r.v < r.n.toNat * 4096)
/-- the row that has an address -/
def atR (rows : List Lf) (virt : Nat) : Option Lf := rows.find? (·.has virt)
/-- what rows say of an address -/
def sayV (rows : List Lf) (virt : Nat) (access : Int) : Nat × Nat :=
  if 549755813888 ≤ virt then (0, 40) else match atR rows virt with
  | none => (0, 41)
  | some r => if access = 2 ∧ r.w = false then (0, 43) else if access = 3 ∧ r.x = false then (0, 44) else (r.p + (virt - r.v), 0)
theorem right_ok : ∀ (rows : List Lf) (bh : Nat), right bh rows = 0 → ∀ r ∈ rows, r.Ok := by
  intro rows
  induction rows with
  | nil => intro bh _ r hr; cases hr
  | cons x xs ih =>
    intro bh h r hr
    obtain ⟨h1, _, h3⟩ := right_cons h
    rcases List.mem_cons.1 hr with rfl | hr
    · exact h1
    · exact ih _ h3 r hr
theorem mem_pagesOf {rows : List Lf} {q : Pge} : q ∈ pagesOf rows ↔ ∃ r ∈ rows, ∃ i, i < r.cnt ∧ q = r.page i := by
  unfold pagesOf
  rw [List.mem_flatMap]
  constructor
  · rintro ⟨r, hr, hq⟩
    exact ⟨r, hr, mem_pages hq⟩
  · rintro ⟨r, hr, i, hi, rfl⟩
    exact ⟨r, hr, List.mem_map.2 ⟨i, List.mem_range.2 hi, rfl⟩⟩
theorem says_plain {M : PM} {rows : List Lf} {base : Nat} (h : (ans rows base).2 = 0) (hl : LiesM M base (ans rows base).1) {virt : Nat} {access : Int} (ha : 1 ≤ access ∧ access ≤ 3) : trI M base virt access = sayV rows virt access := by
  obtain ⟨h0, hc, s, _, hk, hs⟩ := ans_known h
  rw [hs] at hl
  unfold sayV
  by_cases hv : 549755813888 ≤ virt
  · rw [if_pos hv]
    unfold trI
    rw [if_neg (by omega), if_pos hv]
  rw [if_neg hv]
  have hok := right_ok rows 0 h0
  cases hf : atR rows virt with
  | none =>
    have hn := List.find?_eq_none.1 hf
    rw [walk_pages hk.rep hc hl (by omega) ha none ?_]
    · rfl
    · intro q hq hcq
      obtain ⟨r, hr, i, hi, rfl⟩ := mem_pagesOf.1 hq
      have h1 := hn r hr
      have h2 := pages_span (hok r hr) (List.mem_map.2 ⟨i, List.mem_range.2 hi, rfl⟩)
      unfold covers at hcq
      apply h1
      unfold Lf.has
      rw [decide_eq_true_eq]
      omega
  | some r =>
    have hr := List.mem_of_find?_eq_some hf
    have h1 := List.find?_some hf
    unfold Lf.has at h1
    rw [decide_eq_true_eq] at h1
    have hro := hok r hr
    have hcu := hro.cnt_u
    have hup : 0 < r.u := by rcases r.u_or with h | h <;> omega
    obtain ⟨i, hi⟩ : ∃ i, i = (virt - r.v) / r.u := ⟨_, rfl⟩
    have hic : i < r.cnt := by
      rw [hi, Nat.div_lt_iff_lt_mul hup, hcu]
      exact h1.2
    have hlo : i * r.u ≤ virt - r.v := by rw [hi]; exact Nat.div_mul_le_self _ _
    have hhi : virt - r.v < i * r.u + r.u := by
      have := Nat.lt_div_mul_add (a := virt - r.v) hup
      rw [hi]; exact this
    have hq : r.page i ∈ pagesOf rows := mem_pagesOf.2 ⟨r, hr, i, hic, rfl⟩
    rw [walk_pages hk.rep hc hl (by omega) ha (some (r.page i)) ⟨hq, by
      unfold covers
      rw [Lf.page_u]
      show r.v + i * r.u ≤ virt ∧ virt < r.v + i * r.u + r.u
      omega⟩]
    unfold askQ
    show (if access = 2 ∧ r.w = false then _ else if access = 3 ∧ r.x = false then _ else (r.p + i * r.u + (virt - (r.v + i * r.u)), 0)) = _
    rw [show r.p + i * r.u + (virt - (r.v + i * r.u)) = r.p + (virt - r.v) by omega]
end Pg
end Go.Proofs.Ytblfagmoilhdnaa

/- Plain law: a machine in whose memory tables are laid, word by word. -/
set_option linter.unusedVariables false
set_option linter.unusedSimpArgs false
namespace Go.Proofs.Ytblfagmoilhdnaa
namespace Pg
open Bu
theorem unle_bytes' (v : Nat) : ∀ (k j : Nat), Wd.unle ((List.range k).map fun i => Bu.byteOf v (j + i)) = v / 2 ^ (8 * j) % 256 ^ k
  | 0, j => by simp [Wd.unle, Nat.mod_one]
  | k + 1, j => by
    rw [List.range_succ_eq_map, List.map_cons, List.map_map, Wd.unle]
    have e : ((fun i => Bu.byteOf v (j + i)) ∘ Nat.succ) = fun i => Bu.byteOf v ((j + 1) + i) := by
      funext i
      show Bu.byteOf v (j + (i + 1)) = Bu.byteOf v (j + 1 + i)
      rw [Nat.add_assoc, Nat.add_comm 1 i]
    rw [e, unle_bytes' v k (j + 1)]
    unfold Bu.byteOf
    rw [show 8 * (j + 1) = 8 * j + 8 by omega, Nat.pow_add, ← Nat.div_div_eq_div_mul, Nat.add_zero, show (2 : Nat) ^ 8 = 256 from rfl, Nat.pow_succ, Nat.mul_comm (256 ^ k) 256, Nat.mod_mul]
/-- the q-th word of tables -/
def wd (all : List (List Nat)) (q : Nat) : Nat := cell all (q / 512) (q % 512)
/-- k words of tables are laid -/
def tbMem (M : PM) (base : Nat) (all : List (List Nat)) : Nat → PM
  | 0 => M
  | k + 1 => if wd all k = 0 then tbMem M base all k else laidM (tbMem M base all k) (base + 8 * k) 8 (Bu.byteOf (wd all k)) 1 none
theorem tbMem_bus (M : PM) (base : Nat) (all : List (List Nat)) : ∀ k, (tbMem M base all k).rams = M.rams ∧ (tbMem M base all k).devs = M.devs
  | 0 => ⟨rfl, rfl⟩
  | k + 1 => by
    obtain ⟨h1, h2⟩ := tbMem_bus M base all k
    unfold tbMem
    split
    · exact ⟨h1, h2⟩
    · exact ⟨h1, h2⟩
theorem tbMem_mem (M : PM) (base : Nat) (all : List (List Nat)) (h0 : M.mem = fun _ => 0) : ∀ k p, (tbMem M base all k).mem p = if base ≤ p ∧ p < base + 8 * k then Bu.byteOf (wd all ((p - base) / 8)) ((p - base) % 8) else 0
  | 0, p => by
    rw [if_neg (by omega)]
    unfold tbMem
    rw [h0]
  | k + 1, p => by
    have ih := tbMem_mem M base all h0 k p
    unfold tbMem
    split
    · rename_i hz
      rw [ih]
      by_cases h1 : base ≤ p ∧ p < base + 8 * k
      · rw [if_pos h1, if_pos (by omega)]
      · rw [if_neg h1]
        by_cases h2 : base ≤ p ∧ p < base + 8 * (k + 1)
        · rw [if_pos h2, show (p - base) / 8 = k by omega, hz]
          unfold Bu.byteOf
          simp
        · rw [if_neg h2]
    · show layM (tbMem M base all k).mem (base + 8 * k) 8 (Bu.byteOf (wd all k)) p = _
      unfold layM
      by_cases h1 : base + 8 * k ≤ p ∧ p < base + 8 * k + 8
      · rw [if_pos h1, if_pos (by omega), show (p - base) / 8 = k by omega, show (p - base) % 8 = p - (base + 8 * k) by omega]
      · rw [if_neg h1, ih]
        by_cases h2 : base ≤ p ∧ p < base + 8 * k
        · rw [if_pos h2, if_pos (by omega)]
        · rw [if_neg h2, if_neg (by omega)]
def ramM (base n : Nat) : PM := ⟨[(base, n * 4096)], [], fun _ => 0, 0, 0, 0⟩
theorem onM_tab (base n : Nat) (all : List (List Nat)) (k p : Nat) : onM (tbMem (ramM base n) base all k) p = decide (base ≤ p ∧ p < base + n * 4096) := by
  unfold onM
  obtain ⟨h1, h2⟩ := tbMem_bus (ramM base n) base all k
  rw [h1, h2]
  simp [ramM, on]
theorem lim_tab {base n : Nat} (h : base + n * 4096 ≤ 4294967296) {all : List (List Nat)} {k : Nat} : Lim (tbMem (ramM base n) base all k) := by
  intro p hp
  rw [onM_tab] at hp
  have := of_decide_eq_true hp
  omega
theorem lies_tab {base : Nat} {all : List (List Nat)} (hal : base % 4096 = 0) (hhi : base + all.length * 4096 ≤ 4294967296) (hlt : ∀ i e, cell all i e < 18446744073709551616) : LiesM (tbMem (ramM base all.length) base all (512 * all.length)) base all := by
  refine ⟨hal, hhi, fun p h1 h2 => ?_, fun i e hi he => ?_⟩
  · rw [onM_tab]
    exact decide_eq_true ⟨h1, h2⟩
  · unfold numB
    have e1 : ((List.range 8).map fun k => (tbMem (ramM base all.length) base all (512 * all.length)).mem (base + i * 4096 + 8 * e + k)) = (List.range 8).map fun k => Bu.byteOf (cell all i e) (0 + k) := by
      apply List.map_congr_left
      intro k hk
      have hk := List.mem_range.1 hk
      rw [tbMem_mem _ _ _ rfl, if_pos (by omega), show (base + i * 4096 + 8 * e + k - base) / 8 = 512 * i + e by omega, show (base + i * 4096 + 8 * e + k - base) % 8 = k by omega, Nat.zero_add]
      unfold wd
      rw [show (512 * i + e) / 512 = i by omega, show (512 * i + e) % 512 = e by omega]
    rw [e1, unle_bytes', Nat.mul_zero, Nat.pow_zero, Nat.div_one]
    exact Nat.mod_eq_of_lt (hlt i e)
theorem newE_ram {base n : Nat} (hal : base % 4096 = 0) (hn : 1 ≤ n) (hm : n ≤ 1024) (hhi : base + n * 4096 ≤ 4294967296) : newE [(base, n * 4096)] [] = 0 := by
  have h1 : chk S64.TOP [] (base, n * 4096) = 0 := by
    unfold chk S64.TOP M32
    simp only
    rw [if_neg (by omega), if_neg (by omega), if_neg (by omega)]
    rfl
  unfold newE
  rw [if_neg (by simp), if_neg (by simp [chks, h1]), if_neg (by simp [chks]), if_neg (by simp [total]; omega)]
theorem offF_tab {base n : Nat} {all : List (List Nat)} {k q : Nat} (hq : q < 512 * n) : offF (tbMem (ramM base n) base all k) (base + 8 * q) 8 = none := by
  unfold offF
  rw [List.find?_eq_none]
  intro p hp
  obtain ⟨i, hi, rfl⟩ := List.mem_map.1 hp
  have hi := List.mem_range.1 hi
  rw [onM_tab]
  simp
  omega
end Pg
end Go.Proofs.Ytblfagmoilhdnaa

/- The walk of the law's laid: a machine in whose memory the tables lie. -/
set_option linter.unusedVariables false
set_option linter.unusedSimpArgs false
namespace Go.Proofs.Ytblfagmoilhdnaa
open Go.RowKit
open S64
open Bu
/-- a machine with tables in its memory; what it holds is new from B on -/
def LaidT (B g base : Nat) (l : List (List Nat)) (w : World) : Prop := ∃ Z R M, MZ Z R w g M ∧ Pg.LiesM M base l ∧ ∀ k, Z k ∨ R k → B ≤ k
theorem LaidT.chg {B g base : Nat} {l : List (List Nat)} {w w' : World} {Y : Nat → Prop} (h : LaidT B g base l w) (hc : ChgP Y w w') (hY : ∀ k, Y k → k < B) : LaidT B g base l w' := by
  obtain ⟨Z, R, M, h1, h2, h3⟩ := h
  exact ⟨Z, R, M, h1.chg hc (fun k hk hy => by have := h3 k hk; have := hY k hy; omega), h2, h3⟩
theorem LaidT.below {B g base : Nat} {l : List (List Nat)} {w w' : World} (h : LaidT B g base l w) (hb : Below w.heap.size w w') : LaidT B g base l w' := h.chg (Y := fun _ => False) (ChgP.of_below hb) (fun _ h => h.elim)
set_option maxRecDepth 100000 in
set_option maxHeartbeats 1000000 in
theorem laid_any (A : Option Addr) (n c base : Nat) (l : List (List Nat)) (w : World) (hl : HasT w A l) (hn : n = l.length) (hb : base % 4096 = 0) (h1 : 1 ≤ n) (hm : n ≤ 1024) (hfit : base + n * 4096 ≤ 4294967296) :
    Calls Try.prog 32 #[.slice A n c, .int .u64 (base : Nat)] w fun e w' => ∃ g, e = .returned (.pointer (some ⟨g, 0, none⟩)) ∧ LaidT w.heap.size g base l w' ∧ Below w.heap.size w w' := by
  have hlt : ∀ i e, Pg.cell l i e < 18446744073709551616 := by
    intro i e
    by_cases hi : i < l.length
    · by_cases he : e < 512
      · exact (hl.cell_at hi he).choose_spec.2.2.2
      · have hm' : l.getD i [] ∈ l := by simp [List.getD_eq_getElem?_getD, hi]
        have := (hl.1 _ hm').1
        unfold Pg.cell
        rw [List.getD_eq_getElem?_getD (l := l.getD i []), List.getElem?_eq_none (by omega)]
        decide
    · unfold Pg.cell
      rw [List.getD_eq_getElem?_getD (l := l), List.getElem?_eq_none (by omega)]
      simp
  obtain ⟨g0, rfl, hg0, _⟩ := hl.cell_at (t := 0) (e := 0) (by omega) (by omega)
  have HT := Lib.hid hl; have HN := Lib.hid hn; have HLT := Lib.hid hlt; have HG0 := Lib.hid hg0
  have HBAS := Lib.hid hb
  obtain ⟨s, hs⟩ : ∃ s, s = n * 4096 := ⟨_, rfl⟩
  have HSN := Lib.hid hs
  have ew1 : IntKind.u64.wrap (n : Int) = (n : Int) := by rw [IntKind.wrap_u64]; omega
  have ew2 : IntKind.u64.wrap ((n : Int) * 4096) = (s : Int) := by rw [IntKind.wrap_u64]; omega
  have ew3 : (n : Int) * 4096 % 18446744073709551616 = (s : Int) := by omega
  have ew4 : (n : Int) * 4096 = (s : Int) := by omega
  have HE0 : Hid (newE [(base, s)] [] = 0) := Lib.hid (by rw [hs]; exact Pg.newE_ram hb h1 hm hfit)
  have HNW : Hid (∀ (wx : World) (a : Nat), Row wx a 106 [.int .u64 (base : Nat), .int .u64 (s : Nat)] → Calls Try.prog 55 #[.agg #[.slice (some ⟨a, 0, none⟩) 1 1, .slice none 0 0]] wx (NewSaid wx [(base, s)] [])) := Lib.hid (fun wx a ha =>
    new_any _ _ 1 0 1 0 [(base, s)] [] wx (isS_row (s := [(base, s)]) ha rfl (by omega)) IsS.none_ (by intro x hx; rw [List.mem_singleton.1 hx]; unfold TOP; omega) (by intro x hx; cases hx))
  clear hl hn hlt hg0 hb hs
  go_enter Try.func32, Try.ntmps32
  go_wp2_with fail
  have hr1 := Row.new w 106 [.int .u64 (base : Nat), .int .u64 (s : Nat)]
  have hb1 : Below w.heap.size w (w.alloc (.cells #[.int .u64 (base : Nat), .int .u64 (s : Nat)] 106)) := (Below.refl _ _).alloc (Nat.le_refl _) _
  generalize w.alloc (.cells #[.int .u64 (base : Nat), .int .u64 (s : Nat)] 106) = w1 at *
  refine (HNW.out w1 w.heap.size hr1).mono ?_
  intro e w2 hn
  obtain ⟨hb2, g, Z, R, rfl, hm2, hzr⟩ := hn.mz HE0.out
  have HB2 := Lib.hid (hb1.trans (hb2.mono hb1.size))
  have HM2 : Hid (MZ Z R w2 g (Pg.tbMem (Pg.ramM base n) base l 0)) := Lib.hid (by rw [HSN.out] at hm2; exact hm2)
  have HZR : Hid (∀ k, Z k ∨ R k → w.heap.size ≤ k) := Lib.hid (fun k hk => Nat.le_trans hb1.size (hzr k hk))
  clear hn hb2 hb1 hr1 hm2 hzr HNW
  go_wp2_with fail
  go_loopw [7] (fun x wr => ∃ i : Nat, i ≤ n ∧ x = .int .i64 (i : Nat) ∧ Hid (∃ Z, MZ Z R wr g (Pg.tbMem (Pg.ramM base n) base l (512 * i)) ∧ ∀ k, Z k ∨ R k → w.heap.size ≤ k) ∧ Hid (Below w.heap.size w wr)) (fun x _ => n - (intOf x).toNat)
  case atStart => exact ⟨0, by omega, rfl, Lib.hid ⟨Z, HM2.out, HZR.out⟩, HB2⟩
  case round =>
  clear HM2 HB2 HZR
  obtain ⟨i, hi, rfl, HMI, HBI⟩ := hrel
  by_cases hin : i < n
  · go_wp2_with fail
    go_loopw [8] (fun x wr => ∃ j : Nat, j ≤ 512 ∧ x = .int .i64 (j : Nat) ∧ Hid (∃ Z, MZ Z R wr g (Pg.tbMem (Pg.ramM base n) base l (512 * i + j)) ∧ ∀ k, Z k ∨ R k → w.heap.size ≤ k) ∧ Hid (Below w.heap.size w wr)) (fun x _ => 512 - (intOf x).toNat)
    case atStart => exact ⟨0, by omega, rfl, HMI, HBI⟩
    case round =>
    clear HMI HBI
    obtain ⟨j, hj, rfl, HMJ, HBJ⟩ := hrel
    by_cases hjn : j < 512
    · obtain ⟨Z1, hm1, hz1⟩ := HMJ.out
      obtain ⟨_, hga, _, hcell, hx64⟩ := HT.out.cell_at (t := i) (e := j) (by rw [← HN.out]; exact hin) hjn
      cases hga
      obtain ⟨X, hX⟩ : ∃ X, X = Pg.cell l i j := ⟨_, rfl⟩
      rw [← hX] at hcell hx64
      have hcr := (HBJ.out.cell (p := ⟨g0, i * 512 + j, none⟩) HG0.out).trans hcell
      have hgr : g0 < wr.heap.size := Nat.lt_of_lt_of_le HG0.out HBJ.out.size
      have HWD : Hid (Pg.wd l (512 * i + j) = X) := Lib.hid (by
        unfold Pg.wd
        rw [show (512 * i + j) / 512 = i by omega, show (512 * i + j) % 512 = j by omega, hX])
      have HM1 := Lib.hid hm1; have HZ1 := Lib.hid hz1
      clear hm1 hz1 HMJ hX hcell
      by_cases hX0 : X = 0
      · subst hX0
        have HMK : Hid (∃ Z, MZ Z R wr g (Pg.tbMem (Pg.ramM base n) base l (512 * i + (j + 1))) ∧ ∀ k, Z k ∨ R k → w.heap.size ≤ k) := Lib.hid ⟨Z1, by
          rw [show 512 * i + (j + 1) = (512 * i + j) + 1 by omega, Pg.tbMem, if_pos HWD.out]
          exact HM1.out, HZ1.out⟩
        clear HM1 HZ1 HWD
        go_wp2_with fail
        go_roundw
        case rel => exact ⟨j + 1, by omega, by go_num, HMK, HBJ⟩
        case measure => simp [intOf]; omega
      · have f0 : ((X : Int) != 0) = true := by simp; omega
        have f1 : ¬ (X : Int) = 0 := by omega
        obtain ⟨a, ha⟩ : ∃ a, a = base + 8 * (512 * i + j) := ⟨_, rfl⟩
        have HA := Lib.hid ha
        have e1 : IntKind.u64.wrap (i : Int) = (i : Int) := by rw [IntKind.wrap_u64]; omega
        have e2 : IntKind.u64.wrap (j : Int) = (j : Int) := by rw [IntKind.wrap_u64]; omega
        have e3 : IntKind.u64.wrap ((i : Int) * 4096) = (i : Int) * 4096 := by rw [IntKind.wrap_u64]; omega
        have e4 : IntKind.u64.wrap (8 * (j : Int)) = 8 * (j : Int) := by rw [IntKind.wrap_u64]; omega
        have e5 : IntKind.u64.wrap ((base : Int) + (i : Int) * 4096) = (base : Int) + (i : Int) * 4096 := by rw [IntKind.wrap_u64]; omega
        have e6 : IntKind.u64.wrap ((base : Int) + (i : Int) * 4096 + 8 * (j : Int)) = (a : Int) := by rw [IntKind.wrap_u64]; omega
        have e7 : (base : Int) + (i : Int) * 4096 + 8 * (j : Int) = (a : Int) := by omega
        have hST := store_m (n := 8) (at_ := a) (v := X) (F := none) HM1.out (by omega) (by unfold TOP; omega) trivial (by unfold TOP; omega) trivial (by
          have h := offF_is (M := Pg.tbMem (Pg.ramM base n) base l (512 * i + j)) (a := a) (n := 8) (Pg.lim_tab hfit) (by unfold TOP; omega)
          rw [HA.out, Pg.offF_tab (by omega)] at h
          rw [HA.out]
          exact h)
        unfold faultV at hST
        have HST := Lib.hid hST
        clear hST ha
        go_wp2_with fail
        refine HST.out.mono ?_
        rintro e w3 ⟨rfl, Z3, hm3, hc3, hz3⟩
        have HMK : Hid (∃ Z, MZ Z R w3 g (Pg.tbMem (Pg.ramM base n) base l (512 * i + (j + 1))) ∧ ∀ k, Z k ∨ R k → w.heap.size ≤ k) := Lib.hid ⟨Z3, by
          rw [show 512 * i + (j + 1) = (512 * i + j) + 1 by omega, Pg.tbMem, if_neg (by rw [HWD.out]; exact hX0), HWD.out, ← HA.out]
          exact hm3, fun k hk => by
            rcases hk with hk | hk
            · rcases hz3 k hk with h | h
              · exact HZ1.out k (.inl h)
              · exact Nat.le_trans HBJ.out.size h
            · exact HZ1.out k (.inr hk)⟩
        have HBK : Hid (Below w.heap.size w w3) := Lib.hid (HBJ.out.trans (hc3.below HBJ.out.size (fun k hk => HZ1.out k (.inl hk))))
        clear hm3 hc3 hz3 HST HM1 HZ1 HWD hcr
        go_wp2_with fail
        go_roundw
        case rel => exact ⟨j + 1, by omega, by go_num, HMK, HBK⟩
        case measure => simp [intOf]; omega
    · have ej : j = 512 := by omega
      subst ej
      have HMK : Hid (∃ Z, MZ Z R wr g (Pg.tbMem (Pg.ramM base n) base l (512 * (i + 1))) ∧ ∀ k, Z k ∨ R k → w.heap.size ≤ k) := Lib.hid HMJ.out
      go_wp2_with fail
      go_roundw
      case rel => exact ⟨i + 1, by omega, by go_num, HMK, HBJ⟩
      case measure => simp [intOf]; omega
  · have ei : i = n := by omega
    subst ei
    go_wp2_with fail
    go_ret
    obtain ⟨Z9, hm9, hz9⟩ := HMI.out
    refine ⟨g, rfl, ⟨Z9, R, _, hm9, ?_, hz9⟩, HBI.out⟩
    rw [HN.out]
    exact Pg.lies_tab HBAS.out (by rw [← HN.out]; exact hfit) HLT.out
end Go.Proofs.Ytblfagmoilhdnaa

/- The walk of the document's At. -/
set_option linter.unusedVariables false
set_option linter.unusedSimpArgs false
namespace Go.Proofs.Ytblfagmoilhdnaa
open Go.RowKit
namespace Pg
def zlf : Lf := ⟨0, 0, 0, false, false, false⟩
/-- what At answers -/
def atV (rows : List Lf) (virt : Nat) : Value := match atR rows virt with
  | none => .tuple #[.int .u64 0, lfV zlf, .bool false]
  | some r => .tuple #[.int .u64 ((r.p + (virt - r.v) : Nat) : Nat), lfV r, .bool true]
theorem atR_at {rows : List Lf} {virt k : Nat} {r : Lf} (hr : rows[k]? = some r) (hn : ∀ x ∈ rows.take k, x.has virt = false) (hh : r.has virt = true) : atR rows virt = some r := by
  unfold atR
  obtain ⟨hl, he⟩ := List.getElem?_eq_some_iff.1 hr
  rw [← List.take_append_drop k rows, List.find?_append, List.find?_eq_none.2 (fun x hx => by simp [hn x hx]), List.drop_eq_getElem_cons hl, he, List.find?_cons, hh]
  rfl
theorem atR_none {rows : List Lf} {virt : Nat} (hn : ∀ x ∈ rows, x.has virt = false) : atR rows virt = none := by
  unfold atR
  exact List.find?_eq_none.2 (fun x hx => by simp [hn x hx])
end Pg
theorem row6 {w : World} {g : Nat} {t : TypeId} {a0 a1 a2 a3 a4 a5 : Value} (h : Row w g t [a0, a1, a2, a3, a4, a5]) (b0 b1 b2 b3 b4 b5 : Value) : Row ((((((w.setCell ⟨g, 0, none⟩ b0).setCell ⟨g, 1, none⟩ b1).setCell ⟨g, 2, none⟩ b2).setCell ⟨g, 3, none⟩ b3).setCell ⟨g, 4, none⟩ b4).setCell ⟨g, 5, none⟩ b5) g t [b0, b1, b2, b3, b4, b5] := (((((h.set_ 0 b0).set_ 1 b1).set_ 2 b2).set_ 3 b3).set_ 4 b4).set_ 5 b5
theorem below6 {B g : Nat} {w0 w : World} (h : Below B w0 w) (hg : B ≤ g) (b0 b1 b2 b3 b4 b5 : Value) : Below B w0 ((((((w.setCell ⟨g, 0, none⟩ b0).setCell ⟨g, 1, none⟩ b1).setCell ⟨g, 2, none⟩ b2).setCell ⟨g, 3, none⟩ b3).setCell ⟨g, 4, none⟩ b4).setCell ⟨g, 5, none⟩ b5) := (((((h.setCell hg b0).setCell hg b1).setCell hg b2).setCell hg b3).setCell hg b4).setCell hg b5
set_option maxRecDepth 100000 in
set_option maxHeartbeats 1000000 in
theorem at_any (A : Option Addr) (n c virt : Nat) (rows : List Pg.Lf) (w : World) (hr : IsL w w.heap.size A n rows) (hok : ∀ r ∈ rows, r.Ok) (hv : virt < 18446744073709551616) :
    Calls Try.prog 57 #[.slice A n c, .int .u64 (virt : Nat)] w fun e w' => e = .returned (Pg.atV rows virt) ∧ Below w.heap.size w w' := by
  obtain ⟨b, off, HF⟩ := hr.form
  have HL := Lib.hid hr.2.2.1
  have HOK := Lib.hid hok
  have hn := hr.2.2.2
  have HVL := Lib.hid hv
  clear hr hok hv
  go_enter Try.func57, Try.ntmps57
  go_wp2_with fail
  have hrow := Row.new w 47 [.int .u64 0, .int .u64 0, .int .i64 0, .bool false, .bool false, .bool false]
  have hb1 : Below w.heap.size w (w.alloc (.cells #[.int .u64 0, .int .u64 0, .int .i64 0, .bool false, .bool false, .bool false] 47)) := (Below.refl _ _).alloc (Nat.le_refl _) _
  obtain ⟨g, hg⟩ : ∃ g, g = w.heap.size := ⟨_, rfl⟩
  generalize w.alloc (.cells #[.int .u64 0, .int .u64 0, .int .i64 0, .bool false, .bool false, .bool false] 47) = w1 at *
  rw [← hg] at hrow ⊢
  have HG := Lib.hid hg
  have HRW : Hid (Row w1 g 47 [.int .u64 0, .int .u64 0, .int .i64 0, .bool false, .bool false, .bool false] ∧ Below w.heap.size w w1) := Lib.hid ⟨hrow, hb1⟩
  clear hrow hb1 hg
  go_loopw [7] (fun i wr => ∃ k : Nat, k ≤ n ∧ i = .int .i64 (k : Nat) ∧ Hid (∀ x ∈ rows.take k, x.has virt = false) ∧ Hid (Row wr g 47 [.int .u64 0, .int .u64 0, .int .i64 0, .bool false, .bool false, .bool false] ∧ Below w.heap.size w wr)) (fun i _ => n - (intOf i).toNat)
  case atStart => exact ⟨0, by omega, rfl, Lib.hid (by intro x hx; simp at hx), HRW⟩
  case round =>
    clear HRW
    obtain ⟨k, hk, rfl, HNO, HR⟩ := hrel
    have hrow := HR.out.1
    have HB := Lib.hid HR.out.2
    have d0 := hrow.cell 0
    have d1 := hrow.cell 1
    have d2 := hrow.cell 2
    have d3 := hrow.cell 3
    have d4 := hrow.cell 4
    have d5 := hrow.cell 5
    have dl := hrow.lt
    have fz0 := hrow.frozen 0
    have fz1 := hrow.frozen 1
    have fz2 := hrow.frozen 2
    have fz3 := hrow.frozen 3
    have fz4 := hrow.frozen 4
    have fz5 := hrow.frozen 5
    simp at d0 d1 d2 d3 d4 d5
    by_cases hkn : k < n
    · obtain ⟨hA, hbB, hc⟩ := HF.out (by omega)
      subst hA
      obtain ⟨r, hrk⟩ : ∃ r, rows[k]? = some r := ⟨_, List.getElem?_eq_getElem (by have := HL.out; omega)⟩
      have hro := HOK.out r (List.mem_of_getElem? hrk)
      have HRK := Lib.hid hrk
      have hbg : b ≠ g := by rw [HG.out]; omega
      have hbl : b < wr.heap.size := Nat.lt_of_lt_of_le hbB HB.out.size
      have c0 := (HB.out.cell (p := ⟨b, off + k * 6, none⟩) hbB).trans (hc k r hrk 0 _ rfl)
      have c1 := (HB.out.cell (p := ⟨b, off + k * 6 + 1, none⟩) hbB).trans (hc k r hrk 1 _ rfl)
      have c2 := (HB.out.cell (p := ⟨b, off + k * 6 + 2, none⟩) hbB).trans (hc k r hrk 2 _ rfl)
      have c3 := (HB.out.cell (p := ⟨b, off + k * 6 + 3, none⟩) hbB).trans (hc k r hrk 3 _ rfl)
      have c4 := (HB.out.cell (p := ⟨b, off + k * 6 + 4, none⟩) hbB).trans (hc k r hrk 4 _ rfl)
      have c5 := (HB.out.cell (p := ⟨b, off + k * 6 + 5, none⟩) hbB).trans (hc k r hrk 5 _ rfl)
      have e1 := hro.n1; have e2 := hro.vl; have e3 := hro.pl
      obtain ⟨m, hm⟩ : ∃ m : Nat, r.n = (m : Int) := ⟨r.n.toNat, by omega⟩
      rw [hm] at c2 e1 e2 e3
      simp only [Int.toNat_natCast] at e2 e3
      have HHAS : Hid (r.has virt = decide (r.v ≤ virt ∧ virt - r.v < m * 4096)) := Lib.hid (by unfold Pg.Lf.has; rw [hm]; simp)
      have HM := Lib.hid hm
      obtain ⟨v, hv0⟩ : ∃ v, v = r.v := ⟨_, rfl⟩
      obtain ⟨p, hp0⟩ : ∃ p, p = r.p := ⟨_, rfl⟩
      have HV0 := Lib.hid hv0; have HP0 := Lib.hid hp0
      rw [← hv0] at c0 e2 HHAS
      rw [← hp0] at c1 e3
      obtain ⟨s, hs⟩ : ∃ s, s = m * 4096 := ⟨_, rfl⟩
      rw [← hs] at e2 e3 HHAS
      have ew1 : IntKind.u64.wrap (m : Int) = (m : Int) := by rw [IntKind.wrap_u64]; omega
      have ew2 : IntKind.u64.wrap ((m : Int) * 4096) = (s : Int) := by rw [IntKind.wrap_u64]; omega
      have ew3 : (m : Int) * 4096 = (s : Int) := by omega
      have ew4 : IntKind.u64.wrap (s : Int) = (s : Int) := by rw [IntKind.wrap_u64]; omega
      have HE2 := Lib.hid e2; have HE3 := Lib.hid e3
      clear hc hrk hro hm hv0 hp0 e1 e2 e3 hs
      obtain ⟨bb, hbb⟩ : ∃ x, x = r.b := ⟨_, rfl⟩
      obtain ⟨bw, hbw⟩ : ∃ x, x = r.w := ⟨_, rfl⟩
      obtain ⟨bx, hbx⟩ : ∃ x, x = r.x := ⟨_, rfl⟩
      have HB0 := Lib.hid hbb; have HB1 := Lib.hid hbw; have HB2 := Lib.hid hbx
      rw [← hbb] at c3
      rw [← hbw] at c4
      rw [← hbx] at c5
      clear hbb hbw hbx
      by_cases q1 : v ≤ virt
      · have f1 : (v : Int) ≤ (virt : Int) := by omega
        have ewd : IntKind.u64.wrap ((virt : Int) - (v : Int)) = (virt : Int) - (v : Int) := by have := HVL.out; rw [IntKind.wrap_u64]; omega
        by_cases q2 : virt - v < s
        · have f2 : (virt : Int) - (v : Int) < (s : Int) := by omega
          have f0 : (0 : Int) ≤ (virt : Int) - (v : Int) := by omega
          obtain ⟨o, ho⟩ : ∃ o, o = p + (virt - v) := ⟨_, rfl⟩
          have ewo : IntKind.u64.wrap ((p : Int) + ((virt : Int) - (v : Int))) = (o : Int) := by have := HE3.out; rw [IntKind.wrap_u64]; omega
          have ewq : IntKind.u64.wrap (o : Int) = (o : Int) := by have := HE3.out; rw [IntKind.wrap_u64]; omega
          have ewp : (p : Int) + ((virt : Int) - (v : Int)) = (o : Int) := by omega
          have HAT : Hid (Pg.atV rows virt = .tuple #[.int .u64 (o : Nat), .agg #[.int .u64 (v : Nat), .int .u64 (p : Nat), .int .i64 (m : Nat), .bool bb, .bool bw, .bool bx], .bool true]) := Lib.hid (by
            unfold Pg.atV
            rw [Pg.atR_at HRK.out HNO.out (by rw [HHAS.out, decide_eq_true_eq]; exact ⟨q1, q2⟩), ho]
            unfold lfV
            simp only [HM.out, HV0.out, HP0.out, HB0.out, HB1.out, HB2.out])
          clear ho q1 q2
          go_upto_region 4 with fail
          go_quiet (fail)
          go_upto_region 5 with fail
          go_region_law fail
          all_goals
            go_wp2_with fail
            have HR6 := row6 (HR.out.1.below (below_drewN (Below.refl _ _) (nq + 1)) HR.out.1.lt) (.int .u64 (v : Nat)) (.int .u64 (p : Nat)) (.int .i64 (m : Nat)) (.bool bb) (.bool bw) (.bool bx)
            have HB6 := below6 (below_drewN HR.out.2 (nq + 1)) (Nat.le_of_eq HG.out.symm) (.int .u64 (v : Nat)) (.int .u64 (p : Nat)) (.int .i64 (m : Nat)) (.bool bb) (.bool bw) (.bool bx)
            generalize ((((((wr.drewN (nq + 1)).setCell ⟨g, 0, none⟩ (.int .u64 (v : Nat))).setCell ⟨g, 1, none⟩ (.int .u64 (p : Nat))).setCell ⟨g, 2, none⟩ (.int .i64 (m : Nat))).setCell ⟨g, 3, none⟩ (.bool bb)).setCell ⟨g, 4, none⟩ (.bool bw)).setCell ⟨g, 5, none⟩ (.bool bx) = wz at *
            have z0 := HR6.cell 0
            have z1 := HR6.cell 1
            have z2 := HR6.cell 2
            have z3 := HR6.cell 3
            have z4 := HR6.cell 4
            have z5 := HR6.cell 5
            simp only [List.getElem?_cons_zero, List.getElem?_cons_succ] at z0 z1 z2 z3 z4 z5
            refine bodyPost_ret (v := .tuple #[.int .u64 (o : Nat), .agg #[.int .u64 (v : Nat), .int .u64 (p : Nat), .int .i64 (m : Nat), .bool bb, .bool bw, .bool bx], .bool true]) ?_ rfl ?_
            · simp [results, Try.results57, go_sem, z0, z1, z2, z3, z4, z5]
            · exact ⟨by rw [HAT.out], HB6⟩
        · have f2 : ¬ (virt : Int) - (v : Int) < (s : Int) := by omega
          have f0 : (0 : Int) ≤ (virt : Int) - (v : Int) := by omega
          have HNO2 : Hid (∀ x ∈ rows.take (k + 1), x.has virt = false) := Lib.hid (fun x hx => by
            rw [List.take_add_one, HRK.out] at hx
            rcases List.mem_append.1 hx with hx | hx
            · exact HNO.out x hx
            · simp at hx
              rw [hx, HHAS.out, decide_eq_false_iff_not]
              intro h; exact q2 h.2)
          clear q1 q2
          go_upto_region 4 with fail
          go_quiet (fail)
          go_wp2_with fail
          go_roundw
          case rel => exact ⟨k + 1, by omega, by go_num, HNO2, Lib.hid ⟨HR.out.1.below (below_drewN (Below.refl _ _) _) HR.out.1.lt, below_drewN HR.out.2 _⟩⟩
          case measure => simp [intOf]; omega
      · have f1 : ¬ (v : Int) ≤ (virt : Int) := by omega
        have HNO2 : Hid (∀ x ∈ rows.take (k + 1), x.has virt = false) := Lib.hid (fun x hx => by
          rw [List.take_add_one, HRK.out] at hx
          rcases List.mem_append.1 hx with hx | hx
          · exact HNO.out x hx
          · simp at hx
            rw [hx, HHAS.out, decide_eq_false_iff_not]
            intro h; exact q1 h.1)
        clear q1
        go_upto_region 4 with fail
        go_quiet (fail)
        go_wp2_with fail
        go_roundw
        case rel => exact ⟨k + 1, by omega, by go_num, HNO2, Lib.hid ⟨HR.out.1.below (below_drewN (Below.refl _ _) _) HR.out.1.lt, below_drewN HR.out.2 _⟩⟩
        case measure => simp [intOf]; omega
    · have ek : k = n := by omega
      subst ek
      have HAN : Hid (Pg.atV rows virt = .tuple #[.int .u64 0, lfV Pg.zlf, .bool false]) := Lib.hid (by
        unfold Pg.atV
        rw [Pg.atR_none (fun x hx => HNO.out x (by rw [List.take_of_length_le (by rw [HL.out]; omega)]; exact hx))])
      go_wp2_with fail
      have HR6 := row6 HR.out.1 (.int .u64 0) (.int .u64 0) (.int .i64 0) (.bool false) (.bool false) (.bool false)
      have HB6 := below6 HR.out.2 (Nat.le_of_eq HG.out.symm) (.int .u64 0) (.int .u64 0) (.int .i64 0) (.bool false) (.bool false) (.bool false)
      generalize (((((wr.setCell ⟨g, 0, none⟩ (.int .u64 0)).setCell ⟨g, 1, none⟩ (.int .u64 0)).setCell ⟨g, 2, none⟩ (.int .i64 0)).setCell ⟨g, 3, none⟩ (.bool false)).setCell ⟨g, 4, none⟩ (.bool false)).setCell ⟨g, 5, none⟩ (.bool false) = wz at *
      have z0 := HR6.cell 0
      have z1 := HR6.cell 1
      have z2 := HR6.cell 2
      have z3 := HR6.cell 3
      have z4 := HR6.cell 4
      have z5 := HR6.cell 5
      simp only [List.getElem?_cons_zero, List.getElem?_cons_succ] at z0 z1 z2 z3 z4 z5
      show bodyPost _ _ _ .ret _ _
      refine bodyPost_ret (v := .tuple #[.int .u64 0, .agg #[.int .u64 0, .int .u64 0, .int .i64 0, .bool false, .bool false, .bool false], .bool false]) ?_ rfl ?_
      · simp [results, Try.results57, go_sem, z0, z1, z2, z3, z4, z5]
      · exact ⟨by rw [HAN.out]; rfl, HB6⟩
end Go.Proofs.Ytblfagmoilhdnaa
