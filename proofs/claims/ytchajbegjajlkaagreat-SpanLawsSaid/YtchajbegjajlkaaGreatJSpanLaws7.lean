/- Texts of this claim, one behind the other: SpY64, SpZ64, SpV64, SpQ64, SpU64, SpWT. -/
import Derived.Test.YtchajbegjajlkaaGreatJSpanLaws6
import Derived.Deep.RegionHeld3
import Derived.Test.YtchajbegjajlkaaGreatJSpanLaws1
import Derived.Deep.Cut
import Derived.Deep.DeepCutAuto
import Derived.Deep.LoopGhost
/- The walks of sets: Or, Less, Meet; Of and With at one span; find, Next, Touches. -/
set_option linter.unusedVariables false
set_option linter.unusedSimpArgs false
namespace Go.Proofs.YtchajbegjajlkaaGreat
open Go.RowKit
namespace S64
set_option maxRecDepth 100000 in
set_option maxHeartbeats 1000000 in
theorem len64_0 (w : World) : Calls Tryz.prog 134 #[.int .u64 0] w fun e w' => (∃ k, e = .returned (.int .i64 k)) ∧ w = w' := by
  go_enter Tryz.func134, Tryz.ntmps134
  go_wp2
  all_goals
    go_ret
    exact ⟨⟨_, rfl⟩, rfl⟩
set_option maxRecDepth 100000 in
set_option maxHeartbeats 1000000 in
theorem len64_1 (w : World) : Calls Tryz.prog 134 #[.int .u64 1] w fun e w' => (∃ k, e = .returned (.int .i64 k)) ∧ w = w' := by
  go_enter Tryz.func134, Tryz.ntmps134
  go_wp2
  all_goals
    go_ret
    exact ⟨⟨_, rfl⟩, rfl⟩
set_option maxRecDepth 100000 in
set_option maxHeartbeats 1000000 in
theorem ins_small (A : Option Addr) (k c : Nat) (w : World) (hk : k ≤ 1) : Calls Tryz.prog 243 #[.slice A k c, .int .i64 0, .int .i64 (k : Nat), .func (.func 88) #[] #[]] w fun e w' => e = .returned (.tuple #[]) ∧ w = w' := by
  go_enter Tryz.func243, Tryz.ntmps243
  go_wp2_with fail
  go_loopw [8] (fun i wr => i = .int .i64 1 ∧ wr = w) (fun _ _ => 0)
  case atStart => exact ⟨rfl, rfl⟩
  case round =>
    obtain ⟨rfl, rfl⟩ := hrel
    have f1 : decide ((1 : Int) < (k : Int)) = false := decide_eq_false (by omega)
    have f2 : decide (1 < k) = false := decide_eq_false (by omega)
    go_wp2_with fail
    go_end0
    exact ⟨rfl, rfl⟩
set_option maxRecDepth 100000 in
set_option maxHeartbeats 1000000 in
theorem pdq_small (A : Option Addr) (k c : Nat) (l : Int) (w : World) (hk : k ≤ 1) : Calls Tryz.prog 167 #[.slice A k c, .int .i64 0, .int .i64 (k : Nat), .int .i64 l, .func (.func 88) #[] #[]] w fun e w' => e = .returned (.tuple #[]) ∧ w = w' := by
  go_enter Tryz.func167, Tryz.ntmps167
  go_wp2_with fail
  go_loopw [1, 2] (fun a b wr => a = .int .i64 0 ∧ b = .int .i64 (k : Nat) ∧ wr = w) (fun _ _ _ => 0)
  case atStart => exact ⟨rfl, rfl, rfl⟩
  case round =>
    obtain ⟨rfl, rfl, rfl⟩ := hrel
    have f1 : decide ((k : Int) ≤ 12) = true := decide_eq_true (by omega)
    have f2 : decide (k ≤ 12) = true := decide_eq_true (by omega)
    go_wp2_with (go_at_call 243; refine (ins_small A k c _ hk).mono ?_; rintro e w' ⟨rfl, rfl⟩)
    refine bodyPost_ret (results_none rfl _ _ _) rfl ⟨rfl, rfl⟩
set_option maxRecDepth 100000 in
set_option maxHeartbeats 1000000 in
theorem sort_small (A : Option Addr) (k c : Nat) (w : World) (hk : k ≤ 1) : Calls Tryz.prog 87 #[.slice A k c, .func (.func 88) #[] #[]] w fun e w' => e = .returned (.tuple #[]) ∧ w = w' := by
  have HL : Hid (∀ wx : World, Calls Tryz.prog 134 #[.int .u64 (k : Nat)] wx fun e w' => (∃ k, e = .returned (.int .i64 k)) ∧ wx = w') := Lib.hid fun wx => by
    rcases Nat.lt_or_ge k 1 with h | h
    · obtain rfl : k = 0 := by omega
      exact len64_0 wx
    · obtain rfl : k = 1 := by omega
      exact len64_1 wx
  have e1 : IntKind.u64.wrap (k : Int) = (k : Int) := by rw [IntKind.wrap_u64]; omega
  go_enter Tryz.func87, Tryz.ntmps87
  go_wp2_with (first | (go_at_call 134; refine (HL.out _).mono ?_; rintro e w' ⟨⟨l, rfl⟩, rfl⟩) | (go_at_call 167; refine (pdq_small A k c _ _ hk).mono ?_; rintro e w' ⟨rfl, rfl⟩))
  go_end0
  exact ⟨rfl, rfl⟩
/-- the set of one span -/
def one (a b : Nat) : Sp.S := if b < a then [] else [(a, b)]
theorem one_of {a b : Nat} (hb : b ≤ TOP) : Sp.Of TOP [(a, b)] (one a b) := by
  unfold one
  split
  · exact Sp.of_none (by omega)
  · exact Sp.of_one (by omega) hb
set_option maxRecDepth 100000 in
set_option maxHeartbeats 2000000 in
theorem of_one (g c a b : Nat) (w : World) (hr : Row w g 59 (scell (a, b))) (ha : a ≤ TOP) (hb : b ≤ TOP) :
    Calls Tryz.prog 22 #[.slice (some ⟨g, 0, none⟩) 1 c] w fun e w' => ∃ Ao co, e = .returned (.agg #[.slice Ao (one a b).length co]) ∧ OwnS w' w.heap.size Ao (one a b).length co (one a b) ∧ Below w.heap.size w w' := by
  obtain ⟨i0, hi0, hz1, hz2, hz3⟩ := info_parts infoSp
  have HI := Lib.hid hi0; have HZ1 := Lib.hid hz1; have HZ2 := Lib.hid hz2; have HZ3 := Lib.hid hz3
  have HR := Lib.hid hr
  clear hi0 hz1 hz2 hz3 hr
  unfold TOP at ha hb
  have c0 := HR.out.cell 0
  have k1 := HR.out.cell 1
  have hgl := HR.out.lt
  simp only [scell, List.getElem?_cons_zero, List.getElem?_cons_succ] at c0 k1
  go_enter Tryz.func22, Tryz.ntmps22
  go_wp2_with fail
  have HB0 : Hid (Below w.heap.size w (w.alloc (.cells #[.slice none 0 0] 56))) := Lib.hid ((Below.refl _ _).alloc (Nat.le_refl _) _)
  have HR0 : Hid (Row (w.alloc (.cells #[.slice none 0 0] 56)) w.heap.size 56 [.slice none 0 0]) := Lib.hid (Row.new w _ [.slice none 0 0])
  go_loopg [3, 12] 2 (fun q l i wr => ∃ (k : Nat) (A1 : Option Addr) (c1 n1 : Nat), k ≤ 1 ∧ k + q = 2 ∧ i = .int .i64 (k : Nat) ∧ l = .slice A1 n1 c1 ∧ Hid (OwnS wr w.heap.size A1 n1 c1 (if k = 0 then [] else one a b) ∧ Below w.heap.size w wr ∧ Row wr w.heap.size 56 [.slice none 0 0]))
  case atStart => exact ⟨0, none, 0, 0, by omega, rfl, rfl, rfl, Lib.hid ⟨⟨World.ownsRow_nil _ _ _ _, rfl⟩, HB0.out, HR0.out⟩⟩
  case round =>
    clear HB0 HR0
    obtain ⟨k, A1, c1, n1, hk, hkq, rfl, rfl, HW⟩ := hrel
    have hsz := HW.out.2.1.size
    rcases Nat.lt_or_ge k 1 with h0 | h0
    · obtain rfl : k = 0 := by omega
      have d0 : wr.cell? ⟨g, 0, none⟩ = some (.int .u64 (a : Nat)) := (HW.out.2.1.cell (p := ⟨g, 0, none⟩) hgl).trans c0
      have d1 : wr.cell? ⟨g, 1, none⟩ = some (.int .u64 (b : Nat)) := (HW.out.2.1.cell (p := ⟨g, 1, none⟩) hgl).trans k1
      have hown0 := HW.out.1
      rw [if_pos rfl] at hown0
      obtain rfl : n1 = 0 := hown0.2.symm
      have HOWN0 := Lib.hid hown0
      have HKQ := Lib.hid hkq
      clear hown0 hkq
      go_upto_region 5 with fail
      have hrx := Row.new wr 59 (scell (a, b))
      have hbx : Below wr.heap.size wr (wr.alloc (.cells (scell (a, b)).toArray 59)) := (Below.refl _ _).alloc (Nat.le_refl _) _
      unfold scell at hrx hbx
      simp only [] at hrx hbx
      obtain ⟨gx, hgx⟩ : ∃ gx, gx = wr.heap.size := ⟨_, rfl⟩
      obtain ⟨w5, hw5⟩ : ∃ w5, w5 = wr.alloc (.cells #[.int .u64 (a : Nat), .int .u64 (b : Nat)] 59) := ⟨_, rfl⟩
      rw [← hw5] at hrx hbx ⊢
      rw [← hgx] at hrx ⊢
      have x0 := hrx.cell 0
      have x1 := hrx.cell 1
      simp only [List.getElem?_cons_zero, List.getElem?_cons_succ] at x0 x1
      have hxl := hrx.lt
      have HBX := Lib.hid hbx
      clear hrx hbx hgx hw5 d0 d1
      by_cases hab : b < a
      · have f1 : decide (b < a) = true := decide_eq_true hab
        have HON : Hid (one a b = []) := Lib.hid (by unfold one; rw [if_pos hab])
        clear hab
        go_wp2_with (go_at_call 86; refine (none_any a b _).mono ?_; rintro e w' ⟨rfl, hb'⟩; have HBN := Lib.hid hb'; clear hb')
        have hba : Below wr.heap.size wr w' := HBX.out.trans (HBN.out.mono HBX.out.size)
        go_roundg 1
        case measure => have := HKQ.out; omega
        case rel => exact ⟨1, A1, c1, 0, by omega, rfl, by go_num, rfl, Lib.hid ⟨by rw [HON.out]; exact ⟨owns_chgr HOWN0.out.1 (Chg.of_below (S := []) hba) (by simp), rfl⟩, HW.out.2.1.trans (hba.mono hsz), HW.out.2.2.below hba HW.out.2.2.lt⟩⟩
      · have f1 : decide (b < a) = false := decide_eq_false hab
        have HON : Hid (one a b = [(a, b)]) := Lib.hid (by unfold one; rw [if_neg hab])
        clear hab
        go_upto_region 6 with (go_at_call 86; refine (none_any a b _).mono ?_; rintro e w' ⟨rfl, hb'⟩; have HBN := Lib.hid hb'; have y0 := (hb'.cell (p := ⟨gx, 0, none⟩) hxl).trans x0; have y1 := (hb'.cell (p := ⟨gx, 1, none⟩) hxl).trans x1; clear hb')
        have hba : Below wr.heap.size wr w' := HBX.out.trans (HBN.out.mono HBX.out.size)
        have HBA := Lib.hid hba
        have HOWN1 : Hid (w'.ownsRow w.heap.size 59 2 (.slice A1 0 c1) 0 (([] : Sp.S).map scell).flatten) := Lib.hid (owns_chgr HOWN0.out.1 (Chg.of_below (S := []) hba) (by simp))
        have HRD : Hid (Reads (w'.alloc (.cells (scell (a, b)).toArray 59)) (w'.alloc (.cells (scell (a, b)).toArray 59)).heap.size 2 (some ⟨w'.heap.size, 0, none⟩) 1 (scell (a, b))) := Lib.hid (new_reads w' (a, b))
        unfold scell at HRD
        simp only [] at HRD
        have hws : w.heap.size ≤ w'.heap.size := Nat.le_trans hsz hba.size
        clear hba x0 x1
        go_wp2_with (at_builtin; refine wpList_append_sl _ (by rfl) (.tmp 19) (.tmp 21) 54 rfl w.heap.size 59 i0 _ 2 16 Tryz.underlying54 HI.out HZ1.out HZ2.out HZ3.out rfl (by omega) (.slice A1 0 c1) 0 (([] : Sp.S).map scell).flatten rfl (HOWN1.out.alloc _) _ (some ⟨w'.heap.size, 0, none⟩) 1 1 [.int .u64 (a : Nat), .int .u64 (b : Nat)] rfl HRD.out (by simp [Value.oneCell']) (by unfold maxLen; omega) (by omega) (by simp; omega) ?_; intro A2 c2 wz hown hrd hgr hat; have HOWN := Lib.hid hown; have HGR := Lib.hid hgr; clear hown hrd hgr hat)
        go_roundg 1
        case measure => have := HKQ.out; omega
        case rel =>
          have hb1 : Below w.heap.size w wz := ((HW.out.2.1.trans (HBA.out.mono hsz)).alloc hws _).grown HGR.out (by simp; omega) (fun k hk => (HOWN1.out.lt k hk).1)
          have hrr := HW.out.2.2.below HBA.out HW.out.2.2.lt
          have hgw : w.heap.size ≠ gx ∨ True := .inr trivial
          have hre : Row wz w.heap.size 56 [.slice none 0 0] := by
            refine (chg_app HGR.out).row hrr (fun hm => ?_)
            obtain ⟨cur, hb⟩ := own_blkr HOWN1.out w.heap.size (by simpa using hm)
            exact absurd rfl (Blk.ne_ (cs' := cur) hrr hb (by decide))
          exact ⟨1, A2, c2, 1, by omega, rfl, by go_num, rfl, Lib.hid ⟨by rw [if_neg (by omega), HON.out]; exact ⟨HOWN.out, rfl⟩, hb1, hre⟩⟩
    · obtain rfl : k = 1 := by omega
      have hown0 := HW.out.1
      rw [if_neg (by omega)] at hown0
      have HOWN0 := Lib.hid hown0
      have hnl : n1 ≤ 1 := by rw [← hown0.2]; unfold one; split <;> simp
      clear hown0 hkq c0 k1
      go_wp2_with (go_at_call 87; refine (sort_small _ _ _ _ hnl).mono ?_; rintro e w' ⟨rfl, rfl⟩)
      go_wp2_with fail
      go_loopg [6, 28] 2 (fun q o i wx => ∃ (j : Nat) (A3 : Option Addr) (c3 : Nat), j ≤ n1 ∧ j + q = 2 ∧ i = .int .i64 (j : Nat) ∧ o = .slice A3 j c3 ∧ (j = 0 → A3 = none ∧ c3 = 0) ∧ Hid (OwnS wx w.heap.size A3 j c3 ((one a b).take j) ∧ IsS wx wx.heap.size A1 n1 (one a b) ∧ Below w.heap.size w wx ∧ Row wx w.heap.size 56 [.slice none 0 0]))
      case atStart => exact ⟨0, none, 0, by omega, rfl, rfl, rfl, fun _ => ⟨rfl, rfl⟩, Lib.hid ⟨⟨World.ownsRow_nil _ _ _ _, rfl⟩, ⟨Reads.of_own HOWN0.out.1, HOWN0.out.2, by omega⟩, HW.out.2.1, HW.out.2.2⟩⟩
      case round =>
        clear HW HOWN0 hsz
        obtain ⟨j, A3, c3, hj, hjq, rfl, rfl, hnn, HW⟩ := hrel
        have hsz := HW.out.2.2.1.size
        have HJQ := Lib.hid hjq
        clear hjq
        by_cases hjn : j < n1
        · obtain rfl : j = 0 := by omega
          obtain rfl : n1 = 1 := by omega
          obtain ⟨rfl, rfl⟩ := hnn rfl
          clear hnn
          obtain ⟨x, hx⟩ : ∃ x, one a b = [x] := by
            have := HW.out.2.1.2.1
            match h : one a b, this with
            | [x], _ => exact ⟨x, rfl⟩
          obtain ⟨bl, ol, hf⟩ := HW.out.2.1.form
          obtain ⟨hA, hbl, hcell⟩ := hf.out (by omega)
          subst hA
          have q0 := (hcell 0 x (by rw [hx]; rfl)).1
          have q1 := (hcell 0 x (by rw [hx]; rfl)).2
          rw [Nat.zero_mul, Nat.add_zero] at q0 q1
          have HX := Lib.hid hx
          obtain ⟨xa, xb⟩ := x
          simp only at q0 q1
          clear hx hf hcell hjn
          go_upto_region 14 with fail
          have hrx := Row.new wr 59 (scell (xa, xb))
          have hbx : Below wr.heap.size wr (wr.alloc (.cells (scell (xa, xb)).toArray 59)) := (Below.refl _ _).alloc (Nat.le_refl _) _
          unfold scell at hrx hbx
          simp only [] at hrx hbx
          obtain ⟨gx, hgx⟩ : ∃ gx, gx = wr.heap.size := ⟨_, rfl⟩
          obtain ⟨w5, hw5⟩ : ∃ w5, w5 = wr.alloc (.cells #[.int .u64 (xa : Nat), .int .u64 (xb : Nat)] 59) := ⟨_, rfl⟩
          rw [← hw5] at hrx hbx ⊢
          rw [← hgx] at hrx ⊢
          have x0 := hrx.cell 0
          have x1 := hrx.cell 1
          simp only [List.getElem?_cons_zero, List.getElem?_cons_succ] at x0 x1
          have hxl := hrx.lt
          have HBX := Lib.hid hbx
          have HIS : Hid (IsS w5 w5.heap.size (some ⟨bl, ol, none⟩) 1 (one a b)) := Lib.hid ((HW.out.2.1.below hbx).more hbx.size)
          have HOW : Hid (w5.ownsRow w.heap.size 59 2 (.slice none 0 0) 0 (([] : Sp.S).map scell).flatten) := Lib.hid (owns_chgr HW.out.1.1 (Chg.of_below (S := []) hbx) (by simp))
          have HBW : Hid (Below w.heap.size w w5) := Lib.hid (HW.out.2.2.1.trans (hbx.mono hsz))
          have HRW : Hid (Row w5 w.heap.size 56 [.slice none 0 0]) := Lib.hid (HW.out.2.2.2.below hbx HW.out.2.2.2.lt)
          have hws : w.heap.size ≤ w5.heap.size := HBW.out.size
          clear hrx hbx hgx hw5 q0 q1 HW
          go_quiet (fail)
          have hd := below_drewN (Below.refl w5.heap.size w5) nq
          have y0 : (w5.drewN nq).cell? ⟨gx, 0, none⟩ = some (.int .u64 (xa : Nat)) := x0
          have y1 : (w5.drewN nq).cell? ⟨gx, 1, none⟩ = some (.int .u64 (xb : Nat)) := x1
          have HIS6 : Hid (IsS (w5.drewN nq) (w5.drewN nq).heap.size (some ⟨bl, ol, none⟩) 1 (one a b)) := Lib.hid ((HIS.out.below hd).more hd.size)
          have HOW6 : Hid ((w5.drewN nq).ownsRow w.heap.size 59 2 (.slice none 0 0) 0 (([] : Sp.S).map scell).flatten) := Lib.hid (owns_chgr HOW.out (Chg.of_below (S := []) hd) (by simp))
          have HBW6 : Hid (Below w.heap.size w (w5.drewN nq)) := Lib.hid (HBW.out.trans (hd.mono hws))
          have HRW6 : Hid (Row (w5.drewN nq) w.heap.size 56 [.slice none 0 0]) := Lib.hid (HRW.out.below hd HRW.out.lt)
          have hws6 : w.heap.size ≤ (w5.drewN nq).heap.size := HBW6.out.size
          clear hd x0 x1 HIS HOW HBW HRW hws HBX hxl
          generalize w5.drewN nq = w6 at *
          have HRD : Hid (Reads (w6.alloc (.cells (scell (xa, xb)).toArray 59)) (w6.alloc (.cells (scell (xa, xb)).toArray 59)).heap.size 2 (some ⟨w6.heap.size, 0, none⟩) 1 (scell (xa, xb))) := Lib.hid (new_reads w6 (xa, xb))
          unfold scell at HRD
          simp only [] at HRD
          go_wp2_with (at_builtin; refine wpList_append_sl _ (by rfl) (.tmp 73) (.tmp 75) 54 rfl w.heap.size 59 i0 _ 2 16 Tryz.underlying54 HI.out HZ1.out HZ2.out HZ3.out rfl (by omega) (.slice none 0 0) 0 (([] : Sp.S).map scell).flatten rfl (HOW6.out.alloc _) _ (some ⟨w6.heap.size, 0, none⟩) 1 1 [.int .u64 (xa : Nat), .int .u64 (xb : Nat)] rfl HRD.out (by simp [Value.oneCell']) (by unfold maxLen; omega) (by omega) (by simp; omega) ?_; intro A2 c2 wz hown hrd hgr hat; have HOWN := Lib.hid hown; have HGR := Lib.hid hgr; clear hown hrd hgr hat)
          go_roundg 1
          case measure => have := HJQ.out; omega
          case rel =>
            have hb1 : Below w.heap.size w wz := (HBW6.out.alloc hws6 _).grown HGR.out (by simp; omega) (fun k hk => (HOW6.out.lt k hk).1)
            have hre : Row wz w.heap.size 56 [.slice none 0 0] := by
              refine (chg_app HGR.out).row HRW6.out (fun hm => ?_)
              obtain ⟨cur, hb⟩ := own_blkr HOW6.out w.heap.size (by simpa using hm)
              exact absurd rfl (Blk.ne_ (cs' := cur) HRW6.out hb (by decide))
            have hil : IsS wz wz.heap.size (some ⟨bl, ol, none⟩) 1 (one a b) := by
              have h := HIS6.out
              refine ⟨⟨h.1.1, fun _ => ?_⟩, h.2⟩
              obtain ⟨ad, e, hB, hc⟩ := h.1.2 (by omega)
              have hz := HGR.out.size
              have hne : some ad.block ≠ (Value.slice none 0 0).ownBlock := by
                intro he
                simp [Value.ownBlock] at he
              refine ⟨ad, e, Nat.lt_of_lt_of_le hB (Nat.le_trans (by simp) hz), fun k u hu => ?_⟩
              rw [← hc k u hu]
              have h2 := (HGR.out.block ad.block (by simp; omega) hne).trans (Below.heap_alloc w6 _ ad.block hB)
              unfold World.cell?
              rw [block_of_add, h2]
            exact ⟨1, A2, c2, by omega, rfl, by go_num, rfl, fun h => absurd h (by omega), Lib.hid ⟨⟨by rw [HX.out]; exact HOWN.out, by rw [HX.out]; rfl⟩, hil, hb1, hre⟩⟩
        · have hjn2 : j = n1 := by omega
          have HO9 : Hid (OwnS wr w.heap.size A3 (one a b).length c3 (one a b)) := Lib.hid (by
            have h := HW.out.1
            have h2 := HW.out.2.1.2.1
            rw [hjn2, List.take_of_length_le (by omega), ← h2] at h
            exact h)
          have HJN : Hid (j = (one a b).length) := Lib.hid (by rw [hjn2, HW.out.2.1.2.1])
          have r2 := HW.out.2.2.2
          have z0 := r2.cell 0
          have fz := r2.frozen 0
          have hl2 := r2.lt
          simp only [List.getElem?_cons_zero] at z0
          have HR3 : Hid (Row (wr.setCell ⟨w.heap.size, 0, none⟩ (.slice A3 j c3)) w.heap.size 56 [.slice A3 j c3]) := Lib.hid (r2.set_ 0 _)
          have HOS : Hid (OwnS (wr.setCell ⟨w.heap.size, 0, none⟩ (.slice A3 j c3)) w.heap.size A3 (one a b).length c3 (one a b) ∧ Below w.heap.size w (wr.setCell ⟨w.heap.size, 0, none⟩ (.slice A3 j c3))) := Lib.hid ⟨⟨own_setr HO9.out.1 r2 (by decide) 0 _, HO9.out.2⟩, HW.out.2.2.1.setCell (p := ⟨w.heap.size, 0, none⟩) (Nat.le_refl _) _⟩
          have z2 := HR3.out.cell 0
          simp only [List.getElem?_cons_zero] at z2
          have f9 : decide (j < n1) = false := decide_eq_false hjn
          clear r2 hjn2 hnn
          go_wp2_with fail
          refine bodyPost_ret (v := .agg #[.slice A3 j c3]) (by simp [results, Tryz.results22, go_sem, z2]) rfl ⟨A3, c3, by rw [HJN.out], HOS.out.1, HOS.out.2⟩
end S64
end Go.Proofs.YtchajbegjajlkaaGreat

/- The walks of a set's questions: find, Next, Touches; and of With and Less. -/
set_option linter.unusedVariables false
set_option linter.unusedSimpArgs false
namespace Go.Proofs.YtchajbegjajlkaaGreat
open Go.RowKit
namespace S64
/-- a set by value -/
def setV (A : Option Addr) (n c : Nat) : Value := .agg #[.slice A n c]
/-- a set, read -/
def IsSet (w : World) (A : Option Addr) (n c : Nat) (s : Sp.S) : Prop := IsS w w.heap.size A n s ∧ n ≤ c ∧ c ≤ 9223372036854775807 ∧ Sp.Nrm TOP s ∧ n ≤ 2199023255552
theorem IsSet.below {w w' : World} {A : Option Addr} {n c : Nat} {s : Sp.S} (h : IsSet w A n c s) (hb : Below w.heap.size w w') : IsSet w' A n c s := ⟨(h.1.below hb).more hb.size, h.2⟩
theorem IsSet.nil (w : World) : IsSet w none 0 0 [] := ⟨IsS.none_, by omega, by omega, Sp.Nrm.nil _, by omega⟩
theorem OwnS.isSet {w : World} {B n c : Nat} {A : Option Addr} {s : Sp.S} (h : OwnS w B A n c s) (hn : Sp.Nrm TOP s) (hl : n ≤ 2199023255552) : IsSet w A n c s := by
  have hc : n ≤ c ∧ c ≤ 9223372036854775807 := by
    rcases h.1.2 with ⟨h1, h2⟩ | ⟨g, cap, cur, h1, _, _, h3, h4, _⟩
    · injection h1 with _ _ h1; omega
    · injection h1 with _ _ h1; unfold maxLen at h4; omega
  exact ⟨⟨Reads.of_own h.1, h.2, by omega⟩, hc.1, hc.2, hn, hl⟩
/-- what a set's making leaves -/
def Made (w : World) (f : Bool → Bool → Bool) (s t : Sp.S) (e : Ending) (w' : World) : Prop := ∃ A n c out, e = .returned (setV A n c) ∧ OwnS w' w.heap.size A n c out ∧ Sp.Mk TOP f s t out ∧ Below w.heap.size w w'
set_option maxRecDepth 100000 in
set_option maxHeartbeats 1000000 in
theorem or_any (A A' : Option Addr) (n c n' c' : Nat) (s t : Sp.S) (w : World) (hs : IsSet w A n c s) (ht : IsSet w A' n' c' t) (hsm : n + n' ≤ 2199023255552) :
    Calls Tryz.prog 57 #[setV A n c, setV A' n' c'] w (Made w (fun a b => a || b) s t) := by
  unfold setV
  have HM : Hid (∀ wx, Below w.heap.size w wx → Calls Tryz.prog 146 #[.agg #[.slice A n c], .agg #[.slice A' n' c'], .func (.func 147) #[] #[]] wx fun e w' => ∃ Ao no co out, e = .returned (.agg #[.slice Ao no co]) ∧ OwnS w' wx.heap.size Ao no co out ∧ Sp.Mk TOP (fun a b => a || b) s t out ∧ Below wx.heap.size wx w') := Lib.hid fun wx hb =>
    make_or _ A A' n c n' c' s t wx or_keeps ((hs.1.below hb).more hb.size) ((ht.1.below hb).more hb.size) hs.2.1 hs.2.2.1 ht.2.1 ht.2.2.1 hs.2.2.2.1 ht.2.2.2.1 hsm
  clear hs ht
  go_enter Tryz.func57, Tryz.ntmps57
  go_upto_region 1 with fail
  have hb3 : Below w.heap.size w (((w.alloc (.cells #[.slice A n c] 56)).alloc (.cells #[.slice A' n' c'] 56)).alloc (.cells #[.slice none 0 0] 56)) := (((Below.refl _ _).alloc (Nat.le_refl _) _).alloc (by simp) _).alloc (by simp; omega) _
  have r2 : Row (((w.alloc (.cells #[.slice A n c] 56)).alloc (.cells #[.slice A' n' c'] 56)).alloc (.cells #[.slice none 0 0] 56)) (w.heap.size + 1 + 1) 56 [.slice none 0 0] := by
    have h := Row.new ((w.alloc (.cells #[.slice A n c] 56)).alloc (.cells #[.slice A' n' c'] 56)) 56 [.slice none 0 0]
    rw [show ((w.alloc (.cells #[.slice A n c] 56)).alloc (.cells #[.slice A' n' c'] 56)).heap.size = w.heap.size + 1 + 1 by simp] at h
    exact h
  have HB3 := Lib.hid hb3; have HR2 := Lib.hid r2
  clear hb3 r2
  go_wp2_with fail
  refine (HM.out _ HB3.out).mono ?_
  rintro e w4 ⟨Ao, no, co, out, rfl, hown, hmk, hb4⟩
  have hr4 := HR2.out.below hb4 HR2.out.lt
  have z0 := hr4.cell 0
  have z1 := hr4.frozen 0
  have zl := hr4.lt
  simp only [List.getElem?_cons_zero] at z0
  have HR4 : Hid (Row (w4.setCell ⟨w.heap.size + 1 + 1, 0, none⟩ (.slice Ao no co)) (w.heap.size + 1 + 1) 56 [.slice Ao no co]) := Lib.hid (hr4.set_ 0 _)
  have z2 := HR4.out.cell 0
  simp only [List.getElem?_cons_zero] at z2
  have HO : Hid (OwnS (w4.setCell ⟨w.heap.size + 1 + 1, 0, none⟩ (.slice Ao no co)) w.heap.size Ao no co out) := Lib.hid ⟨own_setr (own_monor hown.1 HB3.out.size) hr4 (by decide) 0 _, hown.2⟩
  have HBB : Hid (Below w.heap.size w (w4.setCell ⟨w.heap.size + 1 + 1, 0, none⟩ (.slice Ao no co))) := Lib.hid ((HB3.out.trans (hb4.mono HB3.out.size)).setCell (p := ⟨w.heap.size + 1 + 1, 0, none⟩) (Nat.le_trans (Nat.le_succ _) (Nat.le_succ _)) _)
  have HMK := Lib.hid hmk
  clear hown hmk hb4 hr4 HM HB3 HR2
  go_wp2_with fail
  refine bodyPost_ret (v := .agg #[.slice Ao no co]) (by simp [results, Tryz.results57, go_sem, z2]) rfl ⟨Ao, no, co, out, rfl, HO.out, HMK.out, HBB.out⟩
set_option maxRecDepth 100000 in
set_option maxHeartbeats 1000000 in
theorem less_any (A A' : Option Addr) (n c n' c' : Nat) (s t : Sp.S) (w : World) (hs : IsSet w A n c s) (ht : IsSet w A' n' c' t) (hsm : n + n' ≤ 2199023255552) :
    Calls Tryz.prog 60 #[setV A n c, setV A' n' c'] w (Made w (fun a b => a && !b) s t) := by
  unfold setV
  have HM : Hid (∀ wx, Below w.heap.size w wx → Calls Tryz.prog 146 #[.agg #[.slice A n c], .agg #[.slice A' n' c'], .func (.func 150) #[] #[]] wx fun e w' => ∃ Ao no co out, e = .returned (.agg #[.slice Ao no co]) ∧ OwnS w' wx.heap.size Ao no co out ∧ Sp.Mk TOP (fun a b => a && !b) s t out ∧ Below wx.heap.size wx w') := Lib.hid fun wx hb =>
    make_less _ A A' n c n' c' s t wx less_keeps ((hs.1.below hb).more hb.size) ((ht.1.below hb).more hb.size) hs.2.1 hs.2.2.1 ht.2.1 ht.2.2.1 hs.2.2.2.1 ht.2.2.2.1 hsm
  clear hs ht
  go_enter Tryz.func60, Tryz.ntmps60
  go_upto_region 1 with fail
  have hb3 : Below w.heap.size w (((w.alloc (.cells #[.slice A n c] 56)).alloc (.cells #[.slice A' n' c'] 56)).alloc (.cells #[.slice none 0 0] 56)) := (((Below.refl _ _).alloc (Nat.le_refl _) _).alloc (by simp) _).alloc (by simp; omega) _
  have r2 : Row (((w.alloc (.cells #[.slice A n c] 56)).alloc (.cells #[.slice A' n' c'] 56)).alloc (.cells #[.slice none 0 0] 56)) (w.heap.size + 1 + 1) 56 [.slice none 0 0] := by
    have h := Row.new ((w.alloc (.cells #[.slice A n c] 56)).alloc (.cells #[.slice A' n' c'] 56)) 56 [.slice none 0 0]
    rw [show ((w.alloc (.cells #[.slice A n c] 56)).alloc (.cells #[.slice A' n' c'] 56)).heap.size = w.heap.size + 1 + 1 by simp] at h
    exact h
  have HB3 := Lib.hid hb3; have HR2 := Lib.hid r2
  clear hb3 r2
  go_wp2_with fail
  refine (HM.out _ HB3.out).mono ?_
  rintro e w4 ⟨Ao, no, co, out, rfl, hown, hmk, hb4⟩
  have hr4 := HR2.out.below hb4 HR2.out.lt
  have z0 := hr4.cell 0
  have z1 := hr4.frozen 0
  have zl := hr4.lt
  simp only [List.getElem?_cons_zero] at z0
  have HR4 : Hid (Row (w4.setCell ⟨w.heap.size + 1 + 1, 0, none⟩ (.slice Ao no co)) (w.heap.size + 1 + 1) 56 [.slice Ao no co]) := Lib.hid (hr4.set_ 0 _)
  have z2 := HR4.out.cell 0
  simp only [List.getElem?_cons_zero] at z2
  have HO : Hid (OwnS (w4.setCell ⟨w.heap.size + 1 + 1, 0, none⟩ (.slice Ao no co)) w.heap.size Ao no co out) := Lib.hid ⟨own_setr (own_monor hown.1 HB3.out.size) hr4 (by decide) 0 _, hown.2⟩
  have HBB : Hid (Below w.heap.size w (w4.setCell ⟨w.heap.size + 1 + 1, 0, none⟩ (.slice Ao no co))) := Lib.hid ((HB3.out.trans (hb4.mono HB3.out.size)).setCell (p := ⟨w.heap.size + 1 + 1, 0, none⟩) (Nat.le_trans (Nat.le_succ _) (Nat.le_succ _)) _)
  have HMK := Lib.hid hmk
  clear hown hmk hb4 hr4 HM HB3 HR2
  go_wp2_with fail
  refine bodyPost_ret (v := .agg #[.slice Ao no co]) (by simp [results, Tryz.results60, go_sem, z2]) rfl ⟨Ao, no, co, out, rfl, HO.out, HMK.out, HBB.out⟩
set_option maxRecDepth 100000 in
set_option maxHeartbeats 1000000 in
theorem meet_any (A A' : Option Addr) (n c n' c' : Nat) (s t : Sp.S) (w : World) (hs : IsSet w A n c s) (ht : IsSet w A' n' c' t) (hsm : n + n' ≤ 2199023255552) :
    Calls Tryz.prog 59 #[setV A n c, setV A' n' c'] w (Made w (fun a b => a && b) s t) := by
  unfold setV
  have HM : Hid (∀ wx, Below w.heap.size w wx → Calls Tryz.prog 146 #[.agg #[.slice A n c], .agg #[.slice A' n' c'], .func (.func 149) #[] #[]] wx fun e w' => ∃ Ao no co out, e = .returned (.agg #[.slice Ao no co]) ∧ OwnS w' wx.heap.size Ao no co out ∧ Sp.Mk TOP (fun a b => a && b) s t out ∧ Below wx.heap.size wx w') := Lib.hid fun wx hb =>
    make_meet _ A A' n c n' c' s t wx meet_keeps ((hs.1.below hb).more hb.size) ((ht.1.below hb).more hb.size) hs.2.1 hs.2.2.1 ht.2.1 ht.2.2.1 hs.2.2.2.1 ht.2.2.2.1 hsm
  clear hs ht
  go_enter Tryz.func59, Tryz.ntmps59
  go_upto_region 1 with fail
  have hb3 : Below w.heap.size w (((w.alloc (.cells #[.slice A n c] 56)).alloc (.cells #[.slice A' n' c'] 56)).alloc (.cells #[.slice none 0 0] 56)) := (((Below.refl _ _).alloc (Nat.le_refl _) _).alloc (by simp) _).alloc (by simp; omega) _
  have r2 : Row (((w.alloc (.cells #[.slice A n c] 56)).alloc (.cells #[.slice A' n' c'] 56)).alloc (.cells #[.slice none 0 0] 56)) (w.heap.size + 1 + 1) 56 [.slice none 0 0] := by
    have h := Row.new ((w.alloc (.cells #[.slice A n c] 56)).alloc (.cells #[.slice A' n' c'] 56)) 56 [.slice none 0 0]
    rw [show ((w.alloc (.cells #[.slice A n c] 56)).alloc (.cells #[.slice A' n' c'] 56)).heap.size = w.heap.size + 1 + 1 by simp] at h
    exact h
  have HB3 := Lib.hid hb3; have HR2 := Lib.hid r2
  clear hb3 r2
  go_wp2_with fail
  refine (HM.out _ HB3.out).mono ?_
  rintro e w4 ⟨Ao, no, co, out, rfl, hown, hmk, hb4⟩
  have hr4 := HR2.out.below hb4 HR2.out.lt
  have z0 := hr4.cell 0
  have z1 := hr4.frozen 0
  have zl := hr4.lt
  simp only [List.getElem?_cons_zero] at z0
  have HR4 : Hid (Row (w4.setCell ⟨w.heap.size + 1 + 1, 0, none⟩ (.slice Ao no co)) (w.heap.size + 1 + 1) 56 [.slice Ao no co]) := Lib.hid (hr4.set_ 0 _)
  have z2 := HR4.out.cell 0
  simp only [List.getElem?_cons_zero] at z2
  have HO : Hid (OwnS (w4.setCell ⟨w.heap.size + 1 + 1, 0, none⟩ (.slice Ao no co)) w.heap.size Ao no co out) := Lib.hid ⟨own_setr (own_monor hown.1 HB3.out.size) hr4 (by decide) 0 _, hown.2⟩
  have HBB : Hid (Below w.heap.size w (w4.setCell ⟨w.heap.size + 1 + 1, 0, none⟩ (.slice Ao no co))) := Lib.hid ((HB3.out.trans (hb4.mono HB3.out.size)).setCell (p := ⟨w.heap.size + 1 + 1, 0, none⟩) (Nat.le_trans (Nat.le_succ _) (Nat.le_succ _)) _)
  have HMK := Lib.hid hmk
  clear hown hmk hb4 hr4 HM HB3 HR2
  go_wp2_with fail
  refine bodyPost_ret (v := .agg #[.slice Ao no co]) (by simp [results, Tryz.results59, go_sem, z2]) rfl ⟨Ao, no, co, out, rfl, HO.out, HMK.out, HBB.out⟩
theorem from_drop {s : Sp.S} {p i : Nat} (h1 : ∀ j x, j < i → s[j]? = some x → x.2 < p) (h2 : ∀ x, s[i]? = some x → ¬ x.2 < p) : Sp.from_ s p = s.drop i := by
  induction s generalizing i with
  | nil => simp [Sp.from_]
  | cons x r ih =>
    cases i with
    | zero => rw [from_cons_ge (h2 x rfl)]; rfl
    | succ i =>
      rw [from_cons_lt (h1 0 x (by omega) rfl), List.drop_succ_cons]
      exact ih (fun j y hj hy => h1 (j + 1) y (by omega) hy) (fun y hy => h2 y hy)
theorem nrm_rise {s : Sp.S} (hn : Sp.Nrm TOP s) {i j : Nat} {x y : Nat × Nat} (hi : s[i]? = some x) (hj : s[j]? = some y) (h : i ≤ j) : x.2 ≤ y.2 := by
  rcases Nat.eq_or_lt_of_le h with e | h
  · subst e; rw [hi] at hj; injection hj with hj; rw [hj]; exact Nat.le_refl _
  · obtain ⟨h1, e1⟩ := List.getElem?_eq_some_iff.1 hi
    obtain ⟨h2, e2⟩ := List.getElem?_eq_some_iff.1 hj
    have := List.pairwise_iff_getElem.1 hn.up i j h1 h2 h
    rw [e1, e2] at this
    have := (hn.ok y (by rw [← e2]; exact List.getElem_mem _)).1
    omega
set_option maxRecDepth 100000 in
set_option maxHeartbeats 1000000 in
theorem find_any (A : Option Addr) (n c p : Nat) (s : Sp.S) (w : World) (hs : IsSet w A n c s) (hp : p ≤ TOP) :
    Calls Tryz.prog 153 #[setV A n c, .int .u64 (p : Nat)] w fun e w' => ∃ i : Nat, e = .returned (.int .i64 (i : Nat)) ∧ i ≤ n ∧ Sp.from_ s p = s.drop i ∧ Below w.heap.size w w' := by
  unfold setV
  obtain ⟨b, o, HF⟩ := hs.1.form
  have HL := Lib.hid hs.1.2.1
  have hn63 := hs.1.2.2
  have HN := Lib.hid hs.2.2.2.1
  have hn41 := hs.2.2.2.2
  clear hs
  go_enter Tryz.func153, Tryz.ntmps153
  go_upto_region 1 with fail
  have r0 : Row (w.alloc (.cells #[.slice A n c] 56)) w.heap.size 56 [.slice A n c] := Row.new w _ [.slice A n c]
  have hb0 : Below w.heap.size w (w.alloc (.cells #[.slice A n c] 56)) := (Below.refl _ _).alloc (Nat.le_refl _) _
  generalize w.alloc (.cells #[.slice A n c] 56) = w1 at *
  have c0 := r0.cell 0
  have hl0 := r0.lt
  simp only [List.getElem?_cons_zero] at c0
  go_quiet (fail)
  have HR : Hid (Row (w1.drewN nq) w.heap.size 56 [.slice A n c]) := Lib.hid (r0.drewN nq)
  have HB : Hid (Below w.heap.size w (w1.drewN nq)) := Lib.hid (below_drewN hb0 nq)
  clear r0 hb0 c0 hl0
  generalize w1.drewN nq = w2 at *
  have c0 := HR.out.cell 0
  have hl0 := HR.out.lt
  simp only [List.getElem?_cons_zero] at c0
  go_wp2_with fail
  go_loopw [5, 6] (fun x y wr => ∃ i j : Nat, i ≤ j ∧ j ≤ n ∧ x = .int .i64 (i : Nat) ∧ y = .int .i64 (j : Nat) ∧ wr = w2 ∧ Hid ((∀ k z, k < i → s[k]? = some z → z.2 < p) ∧ ∀ k z, j ≤ k → s[k]? = some z → ¬ z.2 < p)) (fun x y _ => (intOf y - intOf x).toNat)
  case atStart => exact ⟨0, n, by omega, by omega, rfl, rfl, rfl, Lib.hid ⟨by omega, fun k z hk hz => by have := (List.getElem?_eq_some_iff.1 hz).1; have := HL.out; omega⟩⟩
  case round =>
    obtain ⟨i, j, hij, hjn, rfl, rfl, rfl, HI⟩ := hrel
    by_cases hlt : i < j
    · obtain ⟨k, hk⟩ : ∃ k, k = (i + j) / 2 := ⟨_, rfl⟩
      have hk1 : i ≤ k := by omega
      have hk2 : k < j := by omega
      obtain ⟨x, hx⟩ : ∃ x, s[k]? = some x := ⟨_, List.getElem?_eq_getElem (by have := HL.out; omega)⟩
      obtain ⟨rfl, hbl, hcell⟩ := HF.out (by omega)
      have x1 := (HB.out.cell (p := ⟨b, o + k * 2 + 1, none⟩) hbl).trans (hcell k x hx).2
      have e1 : IntKind.i64.wrap ((i : Int) + (j : Int)) = (i : Int) + (j : Int) := by rw [IntKind.wrap_i64]; omega
      have e2 : ((i : Int) + (j : Int)) / 2 = (k : Int) := by omega
      have e3 : ((i : Int) + (j : Int)).tdiv 2 = (k : Int) := by rw [Int.tdiv_eq_ediv_of_nonneg (by omega)]; exact e2
      have hk0 : (0 : Int) ≤ (k : Int) := by omega
      have hkn : (k : Int) < (n : Int) := by omega
      have f1 : decide (i < j) = true := decide_eq_true hlt
      have HX := Lib.hid hx
      obtain ⟨xa, xb⟩ := x
      simp only at x1
      have HK := Lib.hid (And.intro hk1 hk2)
      clear hx hcell hk hlt
      by_cases hxp : xb < p
      · have f2 : decide (xb < p) = true := decide_eq_true hxp
        have HXP := Lib.hid hxp
        clear hxp
        go_wp2_with fail
        go_roundw
        case rel => exact ⟨k + 1, j, by have := HK.out; omega, hjn, by go_num, rfl, by trivial, Lib.hid ⟨fun q z hq hz => by
          rcases Nat.lt_or_ge q k with h | h
          · exact Nat.lt_of_le_of_lt (nrm_rise HN.out hz HX.out (Nat.le_of_lt h)) HXP.out
          · obtain rfl : q = k := by omega
            rw [HX.out] at hz; injection hz with hz; rw [← hz]; exact HXP.out, HI.out.2⟩⟩
        case measure => have := HK.out; simp [intOf]; omega
      · have f2 : decide (xb < p) = false := decide_eq_false hxp
        have HXP := Lib.hid hxp
        clear hxp
        go_wp2_with fail
        go_roundw
        case rel => exact ⟨i, k, HK.out.1, by have := HK.out; omega, rfl, by go_num, by trivial, Lib.hid ⟨HI.out.1, fun q z hq hz => by
          exact fun hc => HXP.out (Nat.lt_of_le_of_lt (nrm_rise HN.out HX.out hz hq) hc)⟩⟩
        case measure => have := HK.out; simp [intOf]; omega
    · have f1 : decide (i < j) = false := decide_eq_false hlt
      have HIJ : Hid (i = j) := Lib.hid (by omega)
      go_wp2_with fail
      go_ret
      exact ⟨i, rfl, by omega, from_drop HI.out.1 (fun z hz => HI.out.2 i z (by have := HIJ.out; omega) hz), HB.out⟩
set_option maxRecDepth 100000 in
set_option maxHeartbeats 1000000 in
theorem next_any (A : Option Addr) (n c p : Nat) (s : Sp.S) (w : World) (hs : IsSet w A n c s) (hp : p ≤ TOP) :
    Calls Tryz.prog 152 #[setV A n c, .int .u64 (p : Nat)] w fun e w' => e = .returned (.tuple #[.int .u64 ((Sp.next s p).1 : Nat), .bool (Sp.next s p).2]) ∧ Below w.heap.size w w' := by
  have HFI : Hid (∀ wx, Below w.heap.size w wx → Calls Tryz.prog 153 #[.agg #[.slice A n c], .int .u64 (p : Nat)] wx fun e w' => ∃ i : Nat, e = .returned (.int .i64 (i : Nat)) ∧ i ≤ n ∧ Sp.from_ s p = s.drop i ∧ Below wx.heap.size wx w') := Lib.hid fun wx hb => find_any A n c p s wx (hs.below hb) hp
  unfold setV
  obtain ⟨b, o, HF⟩ := hs.1.form
  have HL := Lib.hid hs.1.2.1
  have hn63 := hs.1.2.2
  obtain ⟨R, hR⟩ : ∃ R, R = Sp.next s p := ⟨_, rfl⟩
  have HNX : Hid (R = match Sp.from_ s p with | [] => (0, false) | x :: _ => (max p x.1, true)) := Lib.hid hR
  rw [← hR]
  obtain ⟨R1, R2⟩ := R
  clear hs hR
  unfold TOP at hp
  go_enter Tryz.func152, Tryz.ntmps152
  go_upto_region 1 with fail
  have r0 : Row (w.alloc (.cells #[.slice A n c] 56)) w.heap.size 56 [.slice A n c] := Row.new w _ [.slice A n c]
  have hb0 : Below w.heap.size w (w.alloc (.cells #[.slice A n c] 56)) := (Below.refl _ _).alloc (Nat.le_refl _) _
  generalize w.alloc (.cells #[.slice A n c] 56) = w1 at *
  have c0 := r0.cell 0
  have hl0 := r0.lt
  simp only [List.getElem?_cons_zero] at c0
  have HB0 := Lib.hid hb0; have HR0 := Lib.hid r0
  clear hb0 r0
  go_wp2_with fail
  refine (HFI.out w1 HB0.out).mono ?_
  rintro e w2 ⟨i, rfl, hi, hfr, hb2⟩
  have d0 : w2.cell? ⟨w.heap.size, 0, none⟩ = some (.slice A n c) := (hb2.cell (p := ⟨w.heap.size, 0, none⟩) hl0).trans c0
  have hl2 := Nat.lt_of_lt_of_le hl0 hb2.size
  have HB2 : Hid (Below w.heap.size w w2) := Lib.hid (HB0.out.trans (hb2.mono HB0.out.size))
  have HFR := Lib.hid hfr
  clear hb2 hfr c0 hl0 HFI HB0 HR0
  by_cases hin : i = n
  · have f1 : ((i : Int) == (n : Int)) = true := by simp; omega
    have HRR : Hid (R1 = 0 ∧ R2 = false) := Lib.hid (by
      have h := HNX.out
      rw [HFR.out, List.drop_of_length_le (by have := HL.out; omega)] at h
      injection h with h1 h2
      exact ⟨h1, h2⟩)
    clear hin
    go_wp2_with fail
    go_ret2
    exact ⟨by rw [HRR.out.1, HRR.out.2]; rfl, HB2.out⟩
  · have f1 : ((i : Int) == (n : Int)) = false := by simp; omega
    obtain ⟨x, hx⟩ : ∃ x, s[i]? = some x := ⟨_, List.getElem?_eq_getElem (by have := HL.out; omega)⟩
    obtain ⟨rfl, hbl, hcell⟩ := HF.out (by omega)
    have x0 := (HB2.out.cell (p := ⟨b, o + i * 2, none⟩) hbl).trans (hcell i x hx).1
    have HRR : Hid (R1 = max p x.1 ∧ R2 = true) := Lib.hid (by
      have h := HNX.out
      have hd : s.drop i = x :: s.drop (i + 1) := by
        obtain ⟨h1, h2⟩ := List.getElem?_eq_some_iff.1 hx
        rw [List.drop_eq_getElem_cons h1, h2]
      rw [HFR.out, hd] at h
      injection h with h1 h2
      exact ⟨h1, h2⟩)
    have hi0 : (0 : Int) ≤ (i : Int) := by omega
    have hi1 : (i : Int) < (n : Int) := by omega
    obtain ⟨xa, xb⟩ := x
    simp only at x0 HRR
    clear hin hx hcell HF
    by_cases hle : p ≤ xa
    · have HR1 : Hid (R1 = xa) := Lib.hid (by rw [HRR.out.1]; omega)
      have HR2 := Lib.hid HRR.out.2
      clear HRR
      go_wp2_with fail
      all_goals
        go_ret2
        refine ⟨?_, HB2.out⟩
        rw [HR1.out, HR2.out]
        first | rfl | go_num
    · have HR1 : Hid (R1 = p) := Lib.hid (by rw [HRR.out.1]; omega)
      have HR2 := Lib.hid HRR.out.2
      clear HRR
      go_wp2_with fail
      all_goals
        go_ret2
        refine ⟨?_, HB2.out⟩
        rw [HR1.out, HR2.out]
        first | rfl | go_num
end S64
end Go.Proofs.YtchajbegjajlkaaGreat

/- The walks of With and Touches. -/
set_option linter.unusedVariables false
set_option linter.unusedSimpArgs false
namespace Go.Proofs.YtchajbegjajlkaaGreat
open Go.RowKit
namespace S64
/-- does a point of a span lie in a set? -/
def touch (s : Sp.S) (a b : Nat) : Bool := (Sp.next s a).2 && decide ((Sp.next s a).1 ≤ b) && !decide (b < a)
theorem touch_iff {s : Sp.S} {a b : Nat} (hn : Sp.Nrm TOP s) : touch s a b = true ↔ ∃ p, a ≤ p ∧ p ≤ b ∧ Sp.has s p = true := by
  unfold touch
  cases hx : Sp.next s a with
  | mk m o =>
    cases o with
    | false =>
      have := (Sp.next_none hn (show (Sp.next s a).2 = false by rw [hx])).2
      simp only [Bool.false_and, Bool.false_eq_true, false_iff]
      rintro ⟨p, h1, _, h3⟩
      rw [this p h1] at h3
      cases h3
    | true =>
      obtain ⟨h1, h2, h3⟩ := Sp.next_some hn hx
      simp only [Bool.true_and, Bool.and_eq_true, decide_eq_true_eq, Bool.not_eq_true', decide_eq_false_iff_not]
      constructor
      · rintro ⟨h4, h5⟩
        exact ⟨m, h1, h4, h2⟩
      · rintro ⟨p, h4, h5, h6⟩
        refine ⟨?_, by omega⟩
        rcases Nat.lt_or_ge p m with h | h
        · rw [h3 p h4 h] at h6; cases h6
        · omega
set_option maxRecDepth 100000 in
set_option maxHeartbeats 1000000 in
theorem touches_any (A : Option Addr) (n c a b : Nat) (s : Sp.S) (w : World) (hs : IsSet w A n c s) (ha : a ≤ TOP) (hb : b ≤ TOP) :
    Calls Tryz.prog 63 #[setV A n c, .agg #[.int .u64 (a : Nat), .int .u64 (b : Nat)]] w fun e w' => e = .returned (.bool (touch s a b)) ∧ Below w.heap.size w w' := by
  have HNX : Hid (∀ wx, Below w.heap.size w wx → Calls Tryz.prog 152 #[.agg #[.slice A n c], .int .u64 (a : Nat)] wx fun e w' => e = .returned (.tuple #[.int .u64 ((Sp.next s a).1 : Nat), .bool (Sp.next s a).2]) ∧ Below wx.heap.size wx w') := Lib.hid fun wx hb => next_any A n c a s wx (hs.below hb) ha
  unfold setV
  have HT : Hid (touch s a b = ((Sp.next s a).2 && decide ((Sp.next s a).1 ≤ b) && !decide (b < a))) := Lib.hid rfl
  obtain ⟨R, hR⟩ : ∃ R, R = Sp.next s a := ⟨_, rfl⟩
  rw [← hR] at HNX HT
  obtain ⟨m, ok⟩ := R
  simp only at HNX HT
  obtain ⟨T, hT⟩ : ∃ T, T = touch s a b := ⟨_, rfl⟩
  rw [← hT] at HT ⊢
  clear hs hR hT
  unfold TOP at ha hb
  go_enter Tryz.func63, Tryz.ntmps63
  go_upto_region 1 with fail
  have r0 : Row ((w.alloc (.cells #[.slice A n c] 56)).alloc (.cells #[.int .u64 (a : Nat), .int .u64 (b : Nat)] 59)) w.heap.size 56 [.slice A n c] := (Row.new w _ [.slice A n c]).alloc _
  have r1 : Row ((w.alloc (.cells #[.slice A n c] 56)).alloc (.cells #[.int .u64 (a : Nat), .int .u64 (b : Nat)] 59)) (w.heap.size + 1) 59 [.int .u64 (a : Nat), .int .u64 (b : Nat)] := by
    have h := Row.new (w.alloc (.cells #[.slice A n c] 56)) 59 [.int .u64 (a : Nat), .int .u64 (b : Nat)]
    rw [show (w.alloc (.cells #[.slice A n c] 56)).heap.size = w.heap.size + 1 by simp] at h
    exact h
  have hb0 : Below w.heap.size w ((w.alloc (.cells #[.slice A n c] 56)).alloc (.cells #[.int .u64 (a : Nat), .int .u64 (b : Nat)] 59)) := ((Below.refl _ _).alloc (Nat.le_refl _) _).alloc (by simp) _
  generalize (w.alloc (.cells #[.slice A n c] 56)).alloc (.cells #[.int .u64 (a : Nat), .int .u64 (b : Nat)] 59) = w1 at *
  have c0 := r0.cell 0
  have d0 := r1.cell 0
  have d1 := r1.cell 1
  have hl0 := r0.lt
  have hl1 := r1.lt
  simp only [List.getElem?_cons_zero, List.getElem?_cons_succ] at c0 d0 d1
  have HB0 := Lib.hid hb0; have HR1 := Lib.hid r1
  clear hb0 r0 r1
  go_wp2_with fail
  refine (HNX.out w1 HB0.out).mono ?_
  rintro e w2 ⟨rfl, hb2⟩
  have hr2 := HR1.out.below hb2 HR1.out.lt
  have e0 := hr2.cell 0
  have e1 := hr2.cell 1
  have hl2 := hr2.lt
  simp only [List.getElem?_cons_zero, List.getElem?_cons_succ] at e0 e1
  have HB2 : Hid (Below w.heap.size w w2) := Lib.hid (HB0.out.trans (hb2.mono HB0.out.size))
  clear hr2 hb2 c0 d0 d1 hl0 hl1 HNX HB0 HR1
  cases ok with
  | false =>
    go_wp2_with fail
    go_ret
    exact ⟨by rw [HT.out]; rfl, HB2.out⟩
  | true =>
    by_cases h1 : m ≤ b
    · have f1 : decide (m ≤ b) = true := decide_eq_true h1
      have HF1 := Lib.hid f1
      clear h1
      go_wp2_with (go_at_call 86; refine (none_any a b _).mono ?_; rintro e w' ⟨rfl, hb'⟩; have HBN := Lib.hid hb'; clear hb')
      go_ret
      exact ⟨by rw [HT.out, HF1.out]; simp, HB2.out.trans (HBN.out.mono HB2.out.size)⟩
    · have f1 : decide (m ≤ b) = false := decide_eq_false h1
      have HF1 := Lib.hid f1
      clear h1
      go_wp2_with fail
      go_ret
      exact ⟨by rw [HT.out, HF1.out]; rfl, HB2.out⟩
/-- with one span more -/
def MadeW (w : World) (s : Sp.S) (a b : Nat) (e : Ending) (w' : World) : Prop := ∃ A n c out, e = .returned (setV A n c) ∧ OwnS w' w.heap.size A n c out ∧ Sp.Mk TOP (fun a b => a || b) s (one a b) out ∧ Below w.heap.size w w'
theorem one_len (a b : Nat) : (one a b).length ≤ 1 := by unfold one; split <;> simp
theorem one_nrm {a b : Nat} (hb : b ≤ TOP) : Sp.Nrm TOP (one a b) := (one_of hb).nrm
set_option maxRecDepth 100000 in
set_option maxHeartbeats 1000000 in
theorem with_any (A : Option Addr) (n c a b : Nat) (s : Sp.S) (w : World) (hs : IsSet w A n c s) (ha : a ≤ TOP) (hb : b ≤ TOP) (hn : n ≤ 1099511627776) :
    Calls Tryz.prog 65 #[setV A n c, .agg #[.int .u64 (a : Nat), .int .u64 (b : Nat)]] w (MadeW w s a b) := by
  have HS := Lib.hid hs
  unfold setV
  clear hs
  go_enter Tryz.func65, Tryz.ntmps65
  go_upto_region 1 with fail
  have r0 : Row (((w.alloc (.cells #[.slice A n c] 56)).alloc (.cells #[.int .u64 (a : Nat), .int .u64 (b : Nat)] 59)).alloc (.cells #[.slice none 0 0] 56)) w.heap.size 56 [.slice A n c] := ((Row.new w _ [.slice A n c]).alloc _).alloc _
  have r1 : Row (((w.alloc (.cells #[.slice A n c] 56)).alloc (.cells #[.int .u64 (a : Nat), .int .u64 (b : Nat)] 59)).alloc (.cells #[.slice none 0 0] 56)) (w.heap.size + 1) 59 [.int .u64 (a : Nat), .int .u64 (b : Nat)] := by
    have h := Row.new (w.alloc (.cells #[.slice A n c] 56)) 59 [.int .u64 (a : Nat), .int .u64 (b : Nat)]
    rw [show (w.alloc (.cells #[.slice A n c] 56)).heap.size = w.heap.size + 1 by simp] at h
    exact h.alloc _
  have r2 : Row (((w.alloc (.cells #[.slice A n c] 56)).alloc (.cells #[.int .u64 (a : Nat), .int .u64 (b : Nat)] 59)).alloc (.cells #[.slice none 0 0] 56)) (w.heap.size + 1 + 1) 56 [.slice none 0 0] := by
    have h := Row.new ((w.alloc (.cells #[.slice A n c] 56)).alloc (.cells #[.int .u64 (a : Nat), .int .u64 (b : Nat)] 59)) 56 [.slice none 0 0]
    rw [show ((w.alloc (.cells #[.slice A n c] 56)).alloc (.cells #[.int .u64 (a : Nat), .int .u64 (b : Nat)] 59)).heap.size = w.heap.size + 1 + 1 by simp] at h
    exact h
  have hb0 : Below w.heap.size w (((w.alloc (.cells #[.slice A n c] 56)).alloc (.cells #[.int .u64 (a : Nat), .int .u64 (b : Nat)] 59)).alloc (.cells #[.slice none 0 0] 56)) := (((Below.refl _ _).alloc (Nat.le_refl _) _).alloc (by simp) _).alloc (by simp; omega) _
  generalize ((w.alloc (.cells #[.slice A n c] 56)).alloc (.cells #[.int .u64 (a : Nat), .int .u64 (b : Nat)] 59)).alloc (.cells #[.slice none 0 0] 56) = w1 at *
  have c0 := r0.cell 0
  have d0 := r1.cell 0
  have d1 := r1.cell 1
  have hl0 := r0.lt
  have hl1 := r1.lt
  have hl2 := r2.lt
  simp only [List.getElem?_cons_zero, List.getElem?_cons_succ] at c0 d0 d1
  have HB0 := Lib.hid hb0; have HR2 := Lib.hid r2
  clear hb0 r0 r1 r2
  have hrn : Row (w1.alloc (.cells #[.int .u64 (a : Nat), .int .u64 (b : Nat)] 59)) w1.heap.size 59 (scell (a, b)) := Row.new w1 _ (scell (a, b))
  have hbn : Below w1.heap.size w1 (w1.alloc (.cells #[.int .u64 (a : Nat), .int .u64 (b : Nat)] 59)) := (Below.refl _ _).alloc (Nat.le_refl _) _
  have HRN := Lib.hid hrn; have HBN := Lib.hid hbn
  clear hrn hbn
  have KEEP : Hid (∀ (w' : World) (v : Value), w'.cell? ⟨w.heap.size, 0, none⟩ = some (.slice A n c) → w'.cell? ⟨w.heap.size + 1, 0, none⟩ = some (.int .u64 (a : Nat)) → w'.cell? ⟨w.heap.size + 1, 1, none⟩ = some (.int .u64 (b : Nat)) → (w'.setCell ⟨w.heap.size + 1 + 1, 0, none⟩ v).cell? ⟨w.heap.size, 0, none⟩ = some (.slice A n c) ∧ (w'.setCell ⟨w.heap.size + 1 + 1, 0, none⟩ v).cell? ⟨w.heap.size + 1, 0, none⟩ = some (.int .u64 (a : Nat)) ∧ (w'.setCell ⟨w.heap.size + 1 + 1, 0, none⟩ v).cell? ⟨w.heap.size + 1, 1, none⟩ = some (.int .u64 (b : Nat))) := Lib.hid fun w' v h1 h2 h3 => ⟨(World.cell?_setCell_other _ _ _ _ (by intro h; injection h; omega)).trans h1, (World.cell?_setCell_other _ _ _ _ (by intro h; injection h; omega)).trans h2, (World.cell?_setCell_other _ _ _ _ (by intro h; injection h; omega)).trans h3⟩
  go_region_held3 (fun w' => w'.cell? ⟨w.heap.size, 0, none⟩ = some (.slice A n c) ∧ w'.cell? ⟨w.heap.size + 1, 0, none⟩ = some (.int .u64 (a : Nat)) ∧ w'.cell? ⟨w.heap.size + 1, 1, none⟩ = some (.int .u64 (b : Nat)))
    (first | exact ⟨c0, d0, d1⟩ | exact KO.out | exact KP.out | exact ⟨(HBN.out.drew.cell (p := ⟨w.heap.size, 0, none⟩) hl0).trans c0, (HBN.out.drew.cell (p := ⟨w.heap.size + 1, 0, none⟩) hl1).trans d0, (HBN.out.drew.cell (p := ⟨w.heap.size + 1, 1, none⟩) hl1).trans d1⟩ | exact KEEP.out _ _ KP.out.1 KP.out.2.1 KP.out.2.2)
    (first
      | (go_at_call 22; refine (of_one w1.heap.size 1 a b _ HRN.out.drew ha hb).mono ?_; rintro e w' ⟨Ao, co, rfl, hown, hb'⟩; have hbw : Below w1.heap.size w1 w' := HBN.out.drew.trans (hb'.mono HBN.out.size); have HOW := Lib.hid hown; have HBW := Lib.hid hbw; have KO : Hid (w'.cell? ⟨w.heap.size, 0, none⟩ = some (.slice A n c) ∧ w'.cell? ⟨w.heap.size + 1, 0, none⟩ = some (.int .u64 (a : Nat)) ∧ w'.cell? ⟨w.heap.size + 1, 1, none⟩ = some (.int .u64 (b : Nat))) := Lib.hid ⟨(hbw.cell (p := ⟨w.heap.size, 0, none⟩) hl0).trans c0, (hbw.cell (p := ⟨w.heap.size + 1, 0, none⟩) hl1).trans d0, (hbw.cell (p := ⟨w.heap.size + 1, 1, none⟩) hl1).trans d1⟩; clear hown hb' hbw)
      | (go_at_call 57; refine (or_any A Ao n c (one a b).length co s (one a b) _ (HS.out.below (HB0.out.trans (HBW.out.mono HB0.out.size))) (HOW.out.isSet (one_nrm hb) (by have := one_len a b; omega)) (by have := one_len a b; omega)).mono ?_; rintro e w'' ⟨A9, n9, c9, out, rfl, hown9, hmk9, hb9⟩; unfold setV; have hbx : Below w1.heap.size w1 w'' := HBW.out.trans (hb9.mono HBW.out.size); have hz := HR2.out.below hbx HR2.out.lt; have z0 := hz.cell 0; have z1 := hz.frozen 0; have zl := hz.lt; simp only [List.getElem?_cons_zero] at z0; have HF := Lib.hid hown9; have HM := Lib.hid hmk9; have HBX := Lib.hid hbx; have HZ := Lib.hid hz; have KP : Hid (w''.cell? ⟨w.heap.size, 0, none⟩ = some (.slice A n c) ∧ w''.cell? ⟨w.heap.size + 1, 0, none⟩ = some (.int .u64 (a : Nat)) ∧ w''.cell? ⟨w.heap.size + 1, 1, none⟩ = some (.int .u64 (b : Nat))) := Lib.hid ⟨(hbx.cell (p := ⟨w.heap.size, 0, none⟩) hl0).trans c0, (hbx.cell (p := ⟨w.heap.size + 1, 0, none⟩) hl1).trans d0, (hbx.cell (p := ⟨w.heap.size + 1, 1, none⟩) hl1).trans d1⟩; clear hown9 hmk9 hb9 hbx hz))
  all_goals
    have HR4 : Hid (Row (w''.setCell ⟨w.heap.size + 1 + 1, 0, none⟩ (.slice A9 n9 c9)) (w.heap.size + 1 + 1) 56 [.slice A9 n9 c9]) := Lib.hid (HZ.out.set_ 0 _)
    have z2 := HR4.out.cell 0
    simp only [List.getElem?_cons_zero] at z2
    have HO : Hid (OwnS (w''.setCell ⟨w.heap.size + 1 + 1, 0, none⟩ (.slice A9 n9 c9)) w.heap.size A9 n9 c9 out) := Lib.hid ⟨own_setr (own_monor HF.out.1 (Nat.le_trans HB0.out.size HBW.out.size)) HZ.out (by decide) 0 _, HF.out.2⟩
    have HBB : Hid (Below w.heap.size w (w''.setCell ⟨w.heap.size + 1 + 1, 0, none⟩ (.slice A9 n9 c9))) := Lib.hid ((HB0.out.trans (HBX.out.mono HB0.out.size)).setCell (p := ⟨w.heap.size + 1 + 1, 0, none⟩) (Nat.le_trans (Nat.le_succ _) (Nat.le_succ _)) _)
    go_wp2_with fail
    refine bodyPost_ret (v := .agg #[.slice A9 n9 c9]) (by simp [results, Tryz.results65, go_sem, z2]) rfl ⟨A9, n9, c9, out, rfl, HO.out, HM.out, HBB.out⟩
end S64
end Go.Proofs.YtchajbegjajlkaaGreat

/- The walks of Without, Covers, Has, Spans, Same. -/
set_option linter.unusedVariables false
set_option linter.unusedSimpArgs false
namespace Go.Proofs.YtchajbegjajlkaaGreat
open Go.RowKit
namespace S64
/-- without one span -/
def MadeL (w : World) (s : Sp.S) (a b : Nat) (e : Ending) (w' : World) : Prop := ∃ A n c out, e = .returned (setV A n c) ∧ OwnS w' w.heap.size A n c out ∧ Sp.Mk TOP (fun a b => a && !b) s (one a b) out ∧ Below w.heap.size w w'
set_option maxRecDepth 100000 in
set_option maxHeartbeats 1000000 in
theorem without_any (A : Option Addr) (n c a b : Nat) (s : Sp.S) (w : World) (hs : IsSet w A n c s) (ha : a ≤ TOP) (hb : b ≤ TOP) (hn : n ≤ 1099511627776) :
    Calls Tryz.prog 66 #[setV A n c, .agg #[.int .u64 (a : Nat), .int .u64 (b : Nat)]] w (MadeL w s a b) := by
  have HS := Lib.hid hs
  unfold setV
  clear hs
  go_enter Tryz.func66, Tryz.ntmps66
  go_upto_region 1 with fail
  have r0 : Row (((w.alloc (.cells #[.slice A n c] 56)).alloc (.cells #[.int .u64 (a : Nat), .int .u64 (b : Nat)] 59)).alloc (.cells #[.slice none 0 0] 56)) w.heap.size 56 [.slice A n c] := ((Row.new w _ [.slice A n c]).alloc _).alloc _
  have r1 : Row (((w.alloc (.cells #[.slice A n c] 56)).alloc (.cells #[.int .u64 (a : Nat), .int .u64 (b : Nat)] 59)).alloc (.cells #[.slice none 0 0] 56)) (w.heap.size + 1) 59 [.int .u64 (a : Nat), .int .u64 (b : Nat)] := by
    have h := Row.new (w.alloc (.cells #[.slice A n c] 56)) 59 [.int .u64 (a : Nat), .int .u64 (b : Nat)]
    rw [show (w.alloc (.cells #[.slice A n c] 56)).heap.size = w.heap.size + 1 by simp] at h
    exact h.alloc _
  have r2 : Row (((w.alloc (.cells #[.slice A n c] 56)).alloc (.cells #[.int .u64 (a : Nat), .int .u64 (b : Nat)] 59)).alloc (.cells #[.slice none 0 0] 56)) (w.heap.size + 1 + 1) 56 [.slice none 0 0] := by
    have h := Row.new ((w.alloc (.cells #[.slice A n c] 56)).alloc (.cells #[.int .u64 (a : Nat), .int .u64 (b : Nat)] 59)) 56 [.slice none 0 0]
    rw [show ((w.alloc (.cells #[.slice A n c] 56)).alloc (.cells #[.int .u64 (a : Nat), .int .u64 (b : Nat)] 59)).heap.size = w.heap.size + 1 + 1 by simp] at h
    exact h
  have hb0 : Below w.heap.size w (((w.alloc (.cells #[.slice A n c] 56)).alloc (.cells #[.int .u64 (a : Nat), .int .u64 (b : Nat)] 59)).alloc (.cells #[.slice none 0 0] 56)) := (((Below.refl _ _).alloc (Nat.le_refl _) _).alloc (by simp) _).alloc (by simp; omega) _
  generalize ((w.alloc (.cells #[.slice A n c] 56)).alloc (.cells #[.int .u64 (a : Nat), .int .u64 (b : Nat)] 59)).alloc (.cells #[.slice none 0 0] 56) = w1 at *
  have c0 := r0.cell 0
  have d0 := r1.cell 0
  have d1 := r1.cell 1
  have hl0 := r0.lt
  have hl1 := r1.lt
  have hl2 := r2.lt
  simp only [List.getElem?_cons_zero, List.getElem?_cons_succ] at c0 d0 d1
  have HB0 := Lib.hid hb0; have HR2 := Lib.hid r2
  clear hb0 r0 r1 r2
  have hrn : Row (w1.alloc (.cells #[.int .u64 (a : Nat), .int .u64 (b : Nat)] 59)) w1.heap.size 59 (scell (a, b)) := Row.new w1 _ (scell (a, b))
  have hbn : Below w1.heap.size w1 (w1.alloc (.cells #[.int .u64 (a : Nat), .int .u64 (b : Nat)] 59)) := (Below.refl _ _).alloc (Nat.le_refl _) _
  have HRN := Lib.hid hrn; have HBN := Lib.hid hbn
  clear hrn hbn
  have KEEP : Hid (∀ (w' : World) (v : Value), w'.cell? ⟨w.heap.size, 0, none⟩ = some (.slice A n c) → w'.cell? ⟨w.heap.size + 1, 0, none⟩ = some (.int .u64 (a : Nat)) → w'.cell? ⟨w.heap.size + 1, 1, none⟩ = some (.int .u64 (b : Nat)) → (w'.setCell ⟨w.heap.size + 1 + 1, 0, none⟩ v).cell? ⟨w.heap.size, 0, none⟩ = some (.slice A n c) ∧ (w'.setCell ⟨w.heap.size + 1 + 1, 0, none⟩ v).cell? ⟨w.heap.size + 1, 0, none⟩ = some (.int .u64 (a : Nat)) ∧ (w'.setCell ⟨w.heap.size + 1 + 1, 0, none⟩ v).cell? ⟨w.heap.size + 1, 1, none⟩ = some (.int .u64 (b : Nat))) := Lib.hid fun w' v h1 h2 h3 => ⟨(World.cell?_setCell_other _ _ _ _ (by intro h; injection h; omega)).trans h1, (World.cell?_setCell_other _ _ _ _ (by intro h; injection h; omega)).trans h2, (World.cell?_setCell_other _ _ _ _ (by intro h; injection h; omega)).trans h3⟩
  go_region_held3 (fun w' => w'.cell? ⟨w.heap.size, 0, none⟩ = some (.slice A n c) ∧ w'.cell? ⟨w.heap.size + 1, 0, none⟩ = some (.int .u64 (a : Nat)) ∧ w'.cell? ⟨w.heap.size + 1, 1, none⟩ = some (.int .u64 (b : Nat)))
    (first | exact ⟨c0, d0, d1⟩ | exact KO.out | exact KP.out | exact ⟨(HBN.out.drew.cell (p := ⟨w.heap.size, 0, none⟩) hl0).trans c0, (HBN.out.drew.cell (p := ⟨w.heap.size + 1, 0, none⟩) hl1).trans d0, (HBN.out.drew.cell (p := ⟨w.heap.size + 1, 1, none⟩) hl1).trans d1⟩ | exact KEEP.out _ _ KP.out.1 KP.out.2.1 KP.out.2.2)
    (first
      | (go_at_call 22; refine (of_one w1.heap.size 1 a b _ HRN.out.drew ha hb).mono ?_; rintro e w' ⟨Ao, co, rfl, hown, hb'⟩; have hbw : Below w1.heap.size w1 w' := HBN.out.drew.trans (hb'.mono HBN.out.size); have HOW := Lib.hid hown; have HBW := Lib.hid hbw; have KO : Hid (w'.cell? ⟨w.heap.size, 0, none⟩ = some (.slice A n c) ∧ w'.cell? ⟨w.heap.size + 1, 0, none⟩ = some (.int .u64 (a : Nat)) ∧ w'.cell? ⟨w.heap.size + 1, 1, none⟩ = some (.int .u64 (b : Nat))) := Lib.hid ⟨(hbw.cell (p := ⟨w.heap.size, 0, none⟩) hl0).trans c0, (hbw.cell (p := ⟨w.heap.size + 1, 0, none⟩) hl1).trans d0, (hbw.cell (p := ⟨w.heap.size + 1, 1, none⟩) hl1).trans d1⟩; clear hown hb' hbw)
      | (go_at_call 60; refine (less_any A Ao n c (one a b).length co s (one a b) _ (HS.out.below (HB0.out.trans (HBW.out.mono HB0.out.size))) (HOW.out.isSet (one_nrm hb) (by have := one_len a b; omega)) (by have := one_len a b; omega)).mono ?_; rintro e w'' ⟨A9, n9, c9, out, rfl, hown9, hmk9, hb9⟩; unfold setV; have hbx : Below w1.heap.size w1 w'' := HBW.out.trans (hb9.mono HBW.out.size); have hz := HR2.out.below hbx HR2.out.lt; have z0 := hz.cell 0; have z1 := hz.frozen 0; have zl := hz.lt; simp only [List.getElem?_cons_zero] at z0; have HF := Lib.hid hown9; have HM := Lib.hid hmk9; have HBX := Lib.hid hbx; have HZ := Lib.hid hz; have KP : Hid (w''.cell? ⟨w.heap.size, 0, none⟩ = some (.slice A n c) ∧ w''.cell? ⟨w.heap.size + 1, 0, none⟩ = some (.int .u64 (a : Nat)) ∧ w''.cell? ⟨w.heap.size + 1, 1, none⟩ = some (.int .u64 (b : Nat))) := Lib.hid ⟨(hbx.cell (p := ⟨w.heap.size, 0, none⟩) hl0).trans c0, (hbx.cell (p := ⟨w.heap.size + 1, 0, none⟩) hl1).trans d0, (hbx.cell (p := ⟨w.heap.size + 1, 1, none⟩) hl1).trans d1⟩; clear hown9 hmk9 hb9 hbx hz))
  all_goals
    have HR4 : Hid (Row (w''.setCell ⟨w.heap.size + 1 + 1, 0, none⟩ (.slice A9 n9 c9)) (w.heap.size + 1 + 1) 56 [.slice A9 n9 c9]) := Lib.hid (HZ.out.set_ 0 _)
    have z2 := HR4.out.cell 0
    simp only [List.getElem?_cons_zero] at z2
    have HO : Hid (OwnS (w''.setCell ⟨w.heap.size + 1 + 1, 0, none⟩ (.slice A9 n9 c9)) w.heap.size A9 n9 c9 out) := Lib.hid ⟨own_setr (own_monor HF.out.1 (Nat.le_trans HB0.out.size HBW.out.size)) HZ.out (by decide) 0 _, HF.out.2⟩
    have HBB : Hid (Below w.heap.size w (w''.setCell ⟨w.heap.size + 1 + 1, 0, none⟩ (.slice A9 n9 c9))) := Lib.hid ((HB0.out.trans (HBX.out.mono HB0.out.size)).setCell (p := ⟨w.heap.size + 1 + 1, 0, none⟩) (Nat.le_trans (Nat.le_succ _) (Nat.le_succ _)) _)
    go_wp2_with fail
    refine bodyPost_ret (v := .agg #[.slice A9 n9 c9]) (by simp [results, Tryz.results66, go_sem, z2]) rfl ⟨A9, n9, c9, out, rfl, HO.out, HM.out, HBB.out⟩

/-- do all points of a span lie in a set? -/
def cov (s : Sp.S) (a b : Nat) : Bool := if b < a then true else match Sp.from_ s a with
  | [] => false
  | x :: _ => decide (x.1 ≤ a) && decide (b ≤ x.2)
theorem cov_iff {s : Sp.S} {a b : Nat} (hn : Sp.Nrm TOP s) : cov s a b = true ↔ ∀ p, a ≤ p → p ≤ b → Sp.has s p = true := by
  unfold cov
  by_cases hab : b < a
  · rw [if_pos hab]
    exact ⟨fun _ p h1 h2 => by omega, fun _ => rfl⟩
  · rw [if_neg hab]
    cases hf : Sp.from_ s a with
    | nil =>
      simp only [Bool.false_eq_true, false_iff]
      intro h
      have h1 := h a (Nat.le_refl _) (by omega)
      rw [← Sp.from_has hn (Nat.le_refl a), hf] at h1
      cases h1
    | cons x r =>
      have hx := Sp.from_head hf
      have hnf := Sp.from_nrm hn a
      rw [hf] at hnf
      obtain ⟨hx1, hx2, hx3⟩ := hnf.head
      have hh : ∀ q, a ≤ q → Sp.has s q = (decide (x.1 ≤ q ∧ q ≤ x.2) || Sp.has r q) := fun q hq => by
        rw [← Sp.from_has hn hq, hf, Sp.has_cons]
      simp only [Bool.and_eq_true, decide_eq_true_eq]
      constructor
      · rintro ⟨h1, h2⟩ p h3 h4
        rw [hh p h3, decide_eq_true (by omega)]; rfl
      · intro h
        have h1 : x.1 ≤ a := by
          by_cases hc : x.1 ≤ a
          · exact hc
          · have h2 := h a (Nat.le_refl _) (by omega)
            rw [hh a (Nat.le_refl _), decide_eq_false (by omega), Bool.false_or, Sp.has_low (fun y hy => by have := hx3 y hy; omega)] at h2
            cases h2
        refine ⟨h1, ?_⟩
        by_cases hc : b ≤ x.2
        · exact hc
        · have h2 := h (x.2 + 1) (by omega) (by omega)
          rw [hh _ (by omega), decide_eq_false (by omega), Bool.false_or, Sp.has_low (fun y hy => by have := hx3 y hy; omega)] at h2
          cases h2
theorem cov_one {s : Sp.S} {p : Nat} (hn : Sp.Nrm TOP s) : cov s p p = Sp.has s p := by
  cases h : Sp.has s p with
  | true => exact (cov_iff hn).2 (fun q h1 h2 => by rw [show q = p by omega]; exact h)
  | false =>
    cases h2 : cov s p p with
    | false => rfl
    | true =>
      have := (cov_iff hn).1 h2 p (Nat.le_refl _) (Nat.le_refl _)
      rw [h] at this; cases this
set_option maxRecDepth 100000 in
set_option maxHeartbeats 1000000 in
theorem covers_any (A : Option Addr) (n c a b : Nat) (s : Sp.S) (w : World) (hs : IsSet w A n c s) (ha : a ≤ TOP) (hb : b ≤ TOP) :
    Calls Tryz.prog 64 #[setV A n c, .agg #[.int .u64 (a : Nat), .int .u64 (b : Nat)]] w fun e w' => e = .returned (.bool (cov s a b)) ∧ Below w.heap.size w w' := by
  have HFI : Hid (∀ wx, Below w.heap.size w wx → Calls Tryz.prog 153 #[.agg #[.slice A n c], .int .u64 (a : Nat)] wx fun e w' => ∃ i : Nat, e = .returned (.int .i64 (i : Nat)) ∧ i ≤ n ∧ Sp.from_ s a = s.drop i ∧ Below wx.heap.size wx w') := Lib.hid fun wx hb => find_any A n c a s wx (hs.below hb) ha
  unfold setV
  obtain ⟨b0, o, HF⟩ := hs.1.form
  have HL := Lib.hid hs.1.2.1
  have hn63 := hs.1.2.2
  obtain ⟨T, hT⟩ : ∃ T, T = cov s a b := ⟨_, rfl⟩
  have HT : Hid (T = if b < a then true else match Sp.from_ s a with | [] => false | x :: _ => decide (x.1 ≤ a) && decide (b ≤ x.2)) := Lib.hid hT
  rw [← hT]
  clear hs hT
  unfold TOP at ha hb
  go_enter Tryz.func64, Tryz.ntmps64
  go_upto_region 1 with fail
  have r0 : Row ((w.alloc (.cells #[.slice A n c] 56)).alloc (.cells #[.int .u64 (a : Nat), .int .u64 (b : Nat)] 59)) w.heap.size 56 [.slice A n c] := (Row.new w _ [.slice A n c]).alloc _
  have r1 : Row ((w.alloc (.cells #[.slice A n c] 56)).alloc (.cells #[.int .u64 (a : Nat), .int .u64 (b : Nat)] 59)) (w.heap.size + 1) 59 [.int .u64 (a : Nat), .int .u64 (b : Nat)] := by
    have h := Row.new (w.alloc (.cells #[.slice A n c] 56)) 59 [.int .u64 (a : Nat), .int .u64 (b : Nat)]
    rw [show (w.alloc (.cells #[.slice A n c] 56)).heap.size = w.heap.size + 1 by simp] at h
    exact h
  have hb0 : Below w.heap.size w ((w.alloc (.cells #[.slice A n c] 56)).alloc (.cells #[.int .u64 (a : Nat), .int .u64 (b : Nat)] 59)) := ((Below.refl _ _).alloc (Nat.le_refl _) _).alloc (by simp) _
  generalize (w.alloc (.cells #[.slice A n c] 56)).alloc (.cells #[.int .u64 (a : Nat), .int .u64 (b : Nat)] 59) = w1 at *
  have HROW : Hid (∀ wx, Below w1.heap.size w1 wx → wx.cell? ⟨w.heap.size, 0, none⟩ = some (.slice A n c) ∧ wx.cell? ⟨w.heap.size + 1, 0, none⟩ = some (.int .u64 (a : Nat)) ∧ wx.cell? ⟨w.heap.size + 1, 1, none⟩ = some (.int .u64 (b : Nat)) ∧ w.heap.size < wx.heap.size ∧ w.heap.size + 1 < wx.heap.size) := Lib.hid (fun wx hb => by
    have h0 := r0.below hb r0.lt
    have h1 := r1.below hb r1.lt
    exact ⟨h0.cell 0, h1.cell 0, h1.cell 1, h0.lt, h1.lt⟩)
  have HB0 := Lib.hid hb0
  obtain ⟨c0, d0, d1, hl0, hl1⟩ := HROW.out w1 (Below.refl _ _)
  clear hb0 r0 r1
  by_cases hab : b < a
  · have f1 : decide (b < a) = true := decide_eq_true hab
    have HT1 : Hid (T = true) := Lib.hid (by rw [HT.out, if_pos hab])
    clear hab
    go_wp2_with (go_at_call 86; refine (none_any a b _).mono ?_; rintro e w' ⟨rfl, hb'⟩; have HBN := Lib.hid hb'; clear hb')
    go_ret
    exact ⟨by rw [HT1.out]; rfl, HB0.out.trans (HBN.out.mono HB0.out.size)⟩
  · have f1 : decide (b < a) = false := decide_eq_false hab
    have HT1 : Hid (T = match Sp.from_ s a with | [] => false | x :: _ => decide (x.1 ≤ a) && decide (b ≤ x.2)) := Lib.hid (by rw [HT.out, if_neg hab])
    clear hab
    go_upto_region 3 with (go_at_call 86; refine (none_any a b _).mono ?_; rintro e w2 ⟨rfl, hb'⟩; have HBN := Lib.hid hb'; clear hb')
    clear c0 d0 d1 hl0 hl1
    obtain ⟨c0, d0, d1, hl0, hl1⟩ := HROW.out w2 HBN.out
    go_upto_region 4 with (go_at_call 153; refine (HFI.out _ (HB0.out.trans (HBN.out.mono HB0.out.size))).mono ?_; rintro e w3 ⟨i, rfl, hi, hfr, hb3⟩; have HB3 := Lib.hid hb3; have HFR := Lib.hid hfr; clear hb3 hfr)
    clear c0 d0 d1 hl0 hl1
    have HB3' : Hid (Below w1.heap.size w1 w3) := Lib.hid (HBN.out.trans (HB3.out.mono HBN.out.size))
    have HBW : Hid (Below w.heap.size w w3) := Lib.hid (HB0.out.trans (HB3'.out.mono HB0.out.size))
    obtain ⟨c0, d0, d1, hl0, hl1⟩ := HROW.out w3 HB3'.out
    clear HFI HROW
    have HT2 : Hid (T = match s.drop i with | [] => false | x :: _ => decide (x.1 ≤ a) && decide (b ≤ x.2)) := Lib.hid (by rw [HT1.out, HFR.out]; cases s.drop i <;> rfl)
    by_cases hin : i = n
    · have g1 : decide (i < n) = false := decide_eq_false (by omega)
      have HT3 : Hid (T = false) := Lib.hid (by rw [HT2.out, List.drop_of_length_le (by have := HL.out; omega)])
      clear hin HF
      go_quiet (fail)
      go_wp2_with fail
      go_ret
      exact ⟨by rw [HT3.out]; rfl, below_drewN HBW.out nq⟩
    · have g1 : decide (i < n) = true := decide_eq_true (by omega)
      obtain ⟨x, hx⟩ : ∃ x, s[i]? = some x := ⟨_, List.getElem?_eq_getElem (by have := HL.out; omega)⟩
      obtain ⟨rfl, hbl, hcell⟩ := HF.out (by omega)
      have x0 := (HBW.out.cell (p := ⟨b0, o + i * 2, none⟩) hbl).trans (hcell i x hx).1
      have x1 := (HBW.out.cell (p := ⟨b0, o + i * 2 + 1, none⟩) hbl).trans (hcell i x hx).2
      have hbl3 := Nat.lt_of_lt_of_le hbl HBW.out.size
      have HT3 : Hid (T = (decide (x.1 ≤ a) && decide (b ≤ x.2))) := Lib.hid (by
        have hd : s.drop i = x :: s.drop (i + 1) := by
          obtain ⟨h1, h2⟩ := List.getElem?_eq_some_iff.1 hx
          rw [List.drop_eq_getElem_cons h1, h2]
        rw [HT2.out, hd])
      have hi0 : (0 : Int) ≤ (i : Int) := by omega
      have hi1 : (i : Int) < (n : Int) := by omega
      obtain ⟨xa, xb⟩ := x
      simp only at x0 x1 HT3
      clear hin hx hcell HF HT2
      by_cases ha1 : xa ≤ a
      · have g2 : decide (xa ≤ a) = true := decide_eq_true ha1
        have HG2 := Lib.hid g2
        clear ha1
        go_quiet (fail)
        go_wp2_with fail
        go_ret
        exact ⟨by rw [HT3.out, HG2.out]; simp, below_drewN HBW.out nq⟩
      · have g2 : decide (xa ≤ a) = false := decide_eq_false ha1
        have HG2 := Lib.hid g2
        clear ha1
        go_quiet (fail)
        go_wp2_with fail
        go_ret
        exact ⟨by rw [HT3.out, HG2.out]; rfl, below_drewN HBW.out nq⟩
set_option maxRecDepth 100000 in
set_option maxHeartbeats 1000000 in
theorem has_any (A : Option Addr) (n c p : Nat) (s : Sp.S) (w : World) (hs : IsSet w A n c s) (hp : p ≤ TOP) :
    Calls Tryz.prog 25 #[setV A n c, .int .u64 (p : Nat)] w fun e w' => e = .returned (.bool (Sp.has s p)) ∧ Below w.heap.size w w' := by
  have HCV : Hid (∀ wx, Below w.heap.size w wx → Calls Tryz.prog 64 #[.agg #[.slice A n c], .agg #[.int .u64 (p : Nat), .int .u64 (p : Nat)]] wx fun e w' => e = .returned (.bool (Sp.has s p)) ∧ Below wx.heap.size wx w') := Lib.hid fun wx hb => by
    have h := covers_any A n c p p s wx (hs.below hb) hp hp
    rw [cov_one hs.2.2.2.1] at h
    exact h
  unfold setV
  obtain ⟨T, hT⟩ : ∃ T, T = Sp.has s p := ⟨_, rfl⟩
  rw [← hT] at HCV ⊢
  clear hs hT
  unfold TOP at hp
  go_enter Tryz.func25, Tryz.ntmps25
  go_upto_region 1 with fail
  have r0 : Row (w.alloc (.cells #[.slice A n c] 56)) w.heap.size 56 [.slice A n c] := Row.new w _ [.slice A n c]
  have hb0 : Below w.heap.size w (w.alloc (.cells #[.slice A n c] 56)) := (Below.refl _ _).alloc (Nat.le_refl _) _
  generalize w.alloc (.cells #[.slice A n c] 56) = w1 at *
  have c0 := r0.cell 0
  have hl0 := r0.lt
  simp only [List.getElem?_cons_zero] at c0
  have HB0 := Lib.hid hb0
  clear hb0 r0
  go_wp2_with fail
  refine (HCV.out w1 HB0.out).mono ?_
  rintro e w2 ⟨rfl, hb2⟩
  have HB2 : Hid (Below w.heap.size w w2) := Lib.hid (HB0.out.trans (hb2.mono HB0.out.size))
  clear hb2 c0 hl0 HCV
  go_wp2_with fail
  go_ret
  exact ⟨rfl, HB2.out⟩
/-- what Spans tells -/
def SpansSaid (w : World) (n : Nat) (s : Sp.S) (e : Ending) (w' : World) : Prop := (∃ A' c', e = .returned (.slice A' n c') ∧ OwnS w' w.heap.size A' n c' s ∧ n ≤ c' ∧ c' ≤ 9223372036854775807) ∧ Below w.heap.size w w'
set_option maxRecDepth 100000 in
set_option maxHeartbeats 400000 in
theorem clone_any (A : Option Addr) (n c : Nat) (bs : Sp.S) (w : World) (ha : IsS w w.heap.size A n bs) (hn : n ≤ 2199023255552) :
    Calls Tryz.prog 151 #[.slice A n c] w (SpansSaid w n bs) := by
  obtain ⟨i0, hi0, hz1, hz2, hz3⟩ := info_parts infoSp
  have HA := Lib.hid ha
  have HI := Lib.hid hi0; have HZ1 := Lib.hid hz1; have HZ2 := Lib.hid hz2; have HZ3 := Lib.hid hz3
  clear hi0 hz1 hz2 hz3 ha
  cases A with
  | none =>
    obtain rfl : n = 0 := by
      rcases Nat.eq_zero_or_pos n with h | h
      · exact h
      · obtain ⟨ad, h, _⟩ := HA.out.1.2 h; cases h
    have hq : ∀ wx : World, (binOp .eql 54 (.slice none 0 c) (.slice none 0 0)).run Tryz.prog wx = .ok (.bool true) wx := fun wx => Lib.run_eql_slice_nil wx 54 59 none 0 c 0 0 Tryz.underlying54
    go_enter Tryz.func151, Tryz.ntmps151
    go_wp2_with fail
    go_ret
    obtain rfl : bs = [] := List.eq_nil_of_length_eq_zero HA.out.2.1
    exact ⟨⟨none, 0, rfl, ⟨World.ownsRow_nil _ _ _ _, rfl⟩, by omega, by omega⟩, Below.refl _ _⟩
  | some ad =>
    have hq : ∀ wx : World, (binOp .eql 54 (.slice (some ad) n c) (.slice none 0 0)).run Tryz.prog wx = .ok (.bool false) wx := fun wx => Lib.run_eql_slice_nil wx 54 59 (some ad) n c 0 0 Tryz.underlying54
    go_enter Tryz.func151, Tryz.ntmps151
    go_wp2_with (at_builtin; refine wpList_append_more _ rfl (.tmp 5) (.tmp 6) _ rfl w.heap.size 59 i0 _ 2 16 Tryz.underlying54 HI.out HZ1.out HZ2.out HZ3.out rfl (by omega) _ _ _ _ rfl (World.ownsRow_made w #[] 0 (Nat.le_refl _) (by decide) rfl) w.heap.size (some ad) n c (bs.map scell).flatten rfl (HA.out.1.alloc (Nat.le_refl _) _) (scell_one bs) (by simp only [maxLen]; omega) (by omega) (by simp) ?_; intro A' c' w2 HN)
    go_ret
    have h := HN.out
    simp only [Nat.zero_add, List.nil_append] at h
    have hn2 : n ≤ c' ∧ c' ≤ 9223372036854775807 := by
      have h1 := h.1
      rcases h1.2 with ⟨e, _⟩ | ⟨g, cap, cur, e, hx⟩
      · injection e with e1 e2 e3; subst e1; subst e2; subst e3; exact ⟨by omega, by omega⟩
      · injection e with e1 e2 e3; subst e1; subst e3
        exact ⟨hx.2.2.1, by have := hx.2.2.2; unfold maxLen at this; omega⟩
    exact ⟨⟨A', c', rfl, ⟨h.1, HA.out.2.1⟩, hn2⟩, ((Below.refl _ _).alloc (Nat.le_refl _) _).trans h.2.2⟩
set_option maxRecDepth 100000 in
set_option maxHeartbeats 1000000 in
theorem spans_any (A : Option Addr) (n c : Nat) (s : Sp.S) (w : World) (hs : IsSet w A n c s) :
    Calls Tryz.prog 61 #[setV A n c] w (SpansSaid w n s) := by
  have HCL : Hid (∀ wx, Below w.heap.size w wx → Calls Tryz.prog 151 #[.slice A n c] wx (SpansSaid wx n s)) := Lib.hid fun wx hb => clone_any A n c s wx (hs.below hb).1 hs.2.2.2.2
  unfold setV
  clear hs
  go_enter Tryz.func61, Tryz.ntmps61
  go_upto_region 1 with fail
  have r0 : Row (w.alloc (.cells #[.slice A n c] 56)) w.heap.size 56 [.slice A n c] := Row.new w _ [.slice A n c]
  have hb0 : Below w.heap.size w (w.alloc (.cells #[.slice A n c] 56)) := (Below.refl _ _).alloc (Nat.le_refl _) _
  generalize w.alloc (.cells #[.slice A n c] 56) = w1 at *
  have c0 := r0.cell 0
  have hl0 := r0.lt
  simp only [List.getElem?_cons_zero] at c0
  have HB0 := Lib.hid hb0
  clear hb0 r0
  go_wp2_with fail
  refine (HCL.out w1 HB0.out).mono ?_
  rintro e w2 ⟨⟨A', c', rfl, ho, hcc⟩, hb2⟩
  have HB2 : Hid (Below w.heap.size w w2) := Lib.hid (HB0.out.trans (hb2.mono HB0.out.size))
  have HO : Hid (OwnS w2 w.heap.size A' n c' s) := Lib.hid ⟨own_monor ho.1 HB0.out.size, ho.2⟩
  have HCC := Lib.hid hcc
  clear hb2 c0 hl0 HCL ho hcc
  go_wp2_with fail
  go_ret
  exact ⟨⟨A', c', rfl, HO.out, HCC.out⟩, HB2.out⟩
theorem IsS.cells {w : World} {B n : Nat} {A : Option Addr} {s : Sp.S} (h : IsS w B A n s) {i : Nat} (hi : i < n) : ∃ b o x0 x1, A = some ⟨b, o, none⟩ ∧ b < B ∧ s[i]? = some (x0, x1) ∧ w.cell? ⟨b, o + i * 2, none⟩ = some (.int .u64 (x0 : Nat)) ∧ w.cell? ⟨b, o + i * 2 + 1, none⟩ = some (.int .u64 (x1 : Nat)) := by
  obtain ⟨b, o, hf⟩ := h.form
  obtain ⟨e, hb, hc⟩ := hf.out (by omega)
  obtain ⟨⟨x0, x1⟩, hx⟩ : ∃ x, s[i]? = some x := ⟨_, List.getElem?_eq_getElem (by rw [h.2.1]; exact hi)⟩
  exact ⟨b, o, x0, x1, e, hb, hx, (hc i _ hx).1, (hc i _ hx).2⟩
set_option maxRecDepth 100000 in
set_option maxHeartbeats 1000000 in
theorem equal_any (A A' : Option Addr) (n n' c c' : Nat) (s t : Sp.S) (w : World) (hs : IsS w w.heap.size A n s) (ht : IsS w w.heap.size A' n' t) :
    Calls Tryz.prog 148 #[.slice A n c, .slice A' n' c'] w fun e w' => e = .returned (.bool (decide (s = t))) ∧ ∃ m, w' = w.drewN m := by
  have HS := Lib.hid hs; have HT := Lib.hid ht
  have hn63 := hs.2.2
  have hn63' := ht.2.2
  obtain ⟨T, hT⟩ : ∃ T, T = decide (s = t) := ⟨_, rfl⟩
  have HTT := Lib.hid hT
  rw [← hT]
  clear hs ht hT
  go_enter Tryz.func148, Tryz.ntmps148
  by_cases hnn : n = n'
  · subst hnn
    go_wp2_with fail
    go_loopw [13] (fun x wr => ∃ i : Nat, i ≤ n ∧ x = .int .i64 (i : Nat) ∧ Hid (s.take i = t.take i) ∧ ∃ m, wr = w.drewN m) (fun x _ => n - (intOf x).toNat)
    case atStart => exact ⟨0, by omega, rfl, Lib.hid rfl, 0, rfl⟩
    case round =>
    obtain ⟨i, hi, rfl, HQ, m, rfl⟩ := hrel
    by_cases hin : i < n
    · obtain ⟨b, o, x0, x1, rfl, hbl, hx, y0, y1⟩ := HS.out.cells hin
      obtain ⟨b', o', z0, z1, rfl, hbl', hz, v0, v1⟩ := HT.out.cells hin
      have y0' : (w.drewN m).cell? ⟨b, o + i * 2, none⟩ = some (.int .u64 (x0 : Nat)) := y0
      have y1' : (w.drewN m).cell? ⟨b, o + i * 2 + 1, none⟩ = some (.int .u64 (x1 : Nat)) := y1
      have v0' : (w.drewN m).cell? ⟨b', o' + i * 2, none⟩ = some (.int .u64 (z0 : Nat)) := v0
      have v1' : (w.drewN m).cell? ⟨b', o' + i * 2 + 1, none⟩ = some (.int .u64 (z1 : Nat)) := v1
      have hbw : b < (w.drewN m).heap.size := hbl
      have hbw' : b' < (w.drewN m).heap.size := hbl'
      have hi0 : (0 : Int) ≤ (i : Int) := by omega
      have hi1 : (i : Int) < (n : Int) := by omega
      have HX := Lib.hid hx; have HZ := Lib.hid hz
      clear hx hz y0 y1 v0 v1 hbl hbl'
      obtain ⟨wm, hwm⟩ : ∃ wm, wm = w.drewN m := ⟨_, rfl⟩
      rw [← hwm] at y0' y1' v0' v1' hbw hbw' ⊢
      have HWM := Lib.hid hwm
      clear hwm
      by_cases hxz : x0 = z0 ∧ x1 = z1
      · obtain ⟨rfl, rfl⟩ := hxz
        have HN : Hid (s.take (i + 1) = t.take (i + 1)) := Lib.hid (by rw [List.take_add_one, List.take_add_one, HX.out, HZ.out, HQ.out])
        go_upto_region 6 with fail
        go_quiet (fail)
        go_wp2_with fail
        go_roundw
        case rel => exact ⟨i + 1, by omega, by go_num, HN, m + nq, by rw [HWM.out, World.drewN_drewN]⟩
        case measure => simp [intOf]; omega
      · have HN : Hid (T = false) := Lib.hid (by
          rw [HTT.out, decide_eq_false]
          intro e
          subst e
          have h := HX.out
          rw [HZ.out] at h
          injection h with h
          injection h with h1 h2
          exact hxz ⟨h1.symm, h2.symm⟩)
        have hq : ∀ wx : World, (binOp .neq 59 (.agg #[.int .u64 (x0 : Nat), .int .u64 (x1 : Nat)]) (.agg #[.int .u64 (z0 : Nat), .int .u64 (z1 : Nat)])).run Tryz.prog wx = .ok (.bool true) wx := fun wx => by
          by_cases h1 : x0 = z0
          · have h2 : ¬ x1 = z1 := fun h2 => hxz ⟨h1, h2⟩
            go_simp
            omega
          · go_simp
            omega
        clear hxz
        go_upto_region 6 with fail
        go_quiet (fail)
        go_wp2_with fail
        go_ret
        exact ⟨by rw [HN.out]; rfl, m + nq, by rw [HWM.out, World.drewN_drewN]⟩
    · have HN : Hid (T = true) := Lib.hid (by
        rw [HTT.out]
        refine decide_eq_true ?_
        have h := HQ.out
        rw [List.take_of_length_le (by have := HS.out.2.1; omega), List.take_of_length_le (by have := HT.out.2.1; omega)] at h
        exact h)
      go_wp2_with fail
      go_ret
      exact ⟨by rw [HN.out]; rfl, m, rfl⟩
  · have HN : Hid (T = false) := Lib.hid (by
      rw [HTT.out]
      refine decide_eq_false ?_
      intro e
      subst e
      exact hnn (HS.out.2.1.symm.trans HT.out.2.1))
    have f1 : ((n : Int) != (n' : Int)) = true := by simp; omega
    go_wp2_with fail
    go_ret
    exact ⟨by rw [HN.out]; rfl, 0, rfl⟩
set_option maxRecDepth 100000 in
set_option maxHeartbeats 1000000 in
theorem ssame_any (A A' : Option Addr) (n n' c c' : Nat) (s t : Sp.S) (w : World) (hs : IsSet w A n c s) (ht : IsSet w A' n' c' t) :
    Calls Tryz.prog 58 #[setV A n c, setV A' n' c'] w fun e w' => e = .returned (.bool (decide (s = t))) ∧ Below w.heap.size w w' := by
  have HEQ : Hid (∀ wx, Below w.heap.size w wx → Calls Tryz.prog 148 #[.slice A n c, .slice A' n' c'] wx fun e w' => e = .returned (.bool (decide (s = t))) ∧ Below wx.heap.size wx w') := Lib.hid fun wx hb => (equal_any A A' n n' c c' s t wx (hs.below hb).1 (ht.below hb).1).mono (fun e w' hh => ⟨hh.1, by obtain ⟨m, rfl⟩ := hh.2; exact below_drewN (Below.refl _ _) m⟩)
  unfold setV
  obtain ⟨T, hT⟩ : ∃ T, T = decide (s = t) := ⟨_, rfl⟩
  rw [← hT] at HEQ ⊢
  clear hs ht hT
  go_enter Tryz.func58, Tryz.ntmps58
  go_upto_region 1 with fail
  have r0 : Row ((w.alloc (.cells #[.slice A n c] 56)).alloc (.cells #[.slice A' n' c'] 56)) w.heap.size 56 [.slice A n c] := (Row.new w _ [.slice A n c]).alloc _
  have r1 : Row ((w.alloc (.cells #[.slice A n c] 56)).alloc (.cells #[.slice A' n' c'] 56)) (w.heap.size + 1) 56 [.slice A' n' c'] := by
    have h := Row.new (w.alloc (.cells #[.slice A n c] 56)) 56 [.slice A' n' c']
    rw [show (w.alloc (.cells #[.slice A n c] 56)).heap.size = w.heap.size + 1 by simp] at h
    exact h
  have hb0 : Below w.heap.size w ((w.alloc (.cells #[.slice A n c] 56)).alloc (.cells #[.slice A' n' c'] 56)) := ((Below.refl _ _).alloc (Nat.le_refl _) _).alloc (by simp) _
  generalize (w.alloc (.cells #[.slice A n c] 56)).alloc (.cells #[.slice A' n' c'] 56) = w1 at *
  have c0 := r0.cell 0
  have d0 := r1.cell 0
  have hl0 := r0.lt
  have hl1 := r1.lt
  simp only [List.getElem?_cons_zero] at c0 d0
  have HB0 := Lib.hid hb0
  clear hb0 r0 r1
  go_wp2_with fail
  refine (HEQ.out w1 HB0.out).mono ?_
  rintro e w2 ⟨rfl, hb2⟩
  have HB2 : Hid (Below w.heap.size w w2) := Lib.hid (HB0.out.trans (hb2.mono HB0.out.size))
  clear hb2 c0 d0 hl0 hl1 HEQ
  go_wp2_with fail
  go_ret
  exact ⟨rfl, HB2.out⟩
end S64
end Go.Proofs.YtchajbegjajlkaaGreat

/- The walk of Of without a span. -/
set_option linter.unusedVariables false
set_option linter.unusedSimpArgs false
namespace Go.Proofs.YtchajbegjajlkaaGreat
open Go.RowKit
namespace S64
set_option maxRecDepth 100000 in
set_option maxHeartbeats 1000000 in
theorem of_nil (w : World) :
    Calls Tryz.prog 22 #[.slice none 0 0] w fun e w' => e = .returned (.agg #[.slice none 0 0]) ∧ Below w.heap.size w w' := by
  go_enter Tryz.func22, Tryz.ntmps22
  go_wp2_with fail
  have hb0 : Below w.heap.size w (w.alloc (.cells #[.slice none 0 0] 56)) := (Below.refl _ _).alloc (Nat.le_refl _) _
  have hr0 : Row (w.alloc (.cells #[.slice none 0 0] 56)) w.heap.size 56 [.slice none 0 0] := Row.new w _ [.slice none 0 0]
  generalize w.alloc (.cells #[.slice none 0 0] 56) = w1 at *
  have HB := Lib.hid (hb0.setCell (p := ⟨w.heap.size, 0, none⟩) (Nat.le_refl _) (.slice none 0 0))
  have HP := Lib.hid ((hr0.set_ 0 (.slice none 0 0)).cell 0)
  have z0 := hr0.cell 0
  have zf := hr0.frozen 0
  have zl := hr0.lt
  simp only [List.set_cons_zero, List.getElem?_cons_zero] at z0 HP
  clear hb0 hr0
  go_loopw [3, 12] (fun l i wr => l = .slice none 0 0 ∧ i = .int .i64 0 ∧ wr = w1) (fun _ _ _ => 0)
  case atStart => exact ⟨rfl, rfl, rfl⟩
  case round =>
  obtain ⟨rfl, rfl, rfl⟩ := hrel
  go_wp2_with (go_at_call 87; refine (sort_small none 0 0 _ (by omega)).mono ?_; rintro e w' ⟨rfl, rfl⟩)
  go_wp2_with fail
  go_loopw [6, 28] (fun o i wx => o = .slice none 0 0 ∧ i = .int .i64 0 ∧ wx = wr) (fun _ _ _ => 0)
  case atStart => exact ⟨rfl, rfl, rfl⟩
  case round =>
  obtain ⟨rfl, rfl, rfl⟩ := hrel
  go_wp2_with fail
  have p0 := HP.out
  exact bodyPost_ret (v := .agg #[.slice none 0 0]) (by simp [results, Tryz.results22, go_sem, p0]) rfl ⟨rfl, HB.out⟩
end S64
end Go.Proofs.YtchajbegjajlkaaGreat

/- The walks of sets of numbers: a row's at, the closures, make. -/
set_option linter.unusedVariables false
set_option linter.unusedSimpArgs false
namespace Go.Proofs.YtchajbegjajlkaaGreat
open Go.RowKit
namespace ST
abbrev TOP : Nat := 255
def scell (x : Nat × Nat) : List Value := [.int .u8 (x.1 : Nat), .int .u8 (x.2 : Nat)]
theorem scell_len (s : Sp.S) : ∀ b ∈ s.map scell, b.length = 2 := by
  intro b h
  obtain ⟨x, _, rfl⟩ := List.mem_map.1 h
  rfl
theorem scell_one (s : Sp.S) : ∀ v ∈ (s.map scell).flatten, v.oneCell' = true := by
  intro v h
  obtain ⟨b, hb, hv⟩ := List.mem_flatten.1 h
  obtain ⟨x, _, rfl⟩ := List.mem_map.1 hb
  simp only [scell, List.mem_cons, List.not_mem_nil, or_false] at hv
  rcases hv with rfl | rfl <;> rfl
/-- a list of spans, read -/
def IsS (w : World) (B : Nat) (A : Option Addr) (n : Nat) (s : Sp.S) : Prop := Reads w B 2 A n (s.map scell).flatten ∧ s.length = n ∧ n ≤ 9223372036854775807
theorem IsS.below {w w' : World} {B n : Nat} {A : Option Addr} {s : Sp.S} (h : IsS w B A n s) (hb : Below B w w') : IsS w' B A n s := ⟨h.1.below hb, h.2⟩
theorem IsS.more {w : World} {B B' n : Nat} {A : Option Addr} {s : Sp.S} (h : IsS w B A n s) (hb : B ≤ B') : IsS w B' A n s := ⟨h.1.more hb, h.2⟩
theorem IsS.none_ {w : World} {B : Nat} {A : Option Addr} : IsS w B A 0 [] := ⟨⟨rfl, fun h => absurd h (by omega)⟩, rfl, by omega⟩
theorem IsS.form {w : World} {B n : Nat} {A : Option Addr} {s : Sp.S} (h : IsS w B A n s) : ∃ b o, Hid (0 < n → A = some ⟨b, o, none⟩ ∧ b < B ∧ ∀ i x, s[i]? = some x → w.cell? ⟨b, o + i * 2, none⟩ = some (.int .u8 (x.1 : Nat)) ∧ w.cell? ⟨b, o + i * 2 + 1, none⟩ = some (.int .u8 (x.2 : Nat))) := by
  obtain ⟨b, o, hf⟩ := el_form h.1 (scell_len s) (by rw [List.length_map]; exact h.2.1) (by decide)
  refine ⟨b, o, fun h0 => ?_⟩
  obtain ⟨h1, h2, h3⟩ := hf.out h0
  refine ⟨h1, h2, fun i x hx => ?_⟩
  have hr := h3 i (scell x) (by rw [List.getElem?_map, hx]; rfl)
  have r0 := hr 0 _ rfl
  have r1 := hr 1 _ rfl
  exact ⟨r0, r1⟩
/-- without its first span -/
theorem IsS.tail {w : World} {B n c : Nat} {A : Option Addr} {x : Nat × Nat} {s : Sp.S} (h : IsS w B A (n + 1) (x :: s)) (hc : n + 1 ≤ c) : IsS w B (if c = 1 then A else A.map (·.add 2)) n s := by
  have hl : s.length = n := by have := h.2.1; simp at this; exact this
  have := h.1.cut (k := 1) (cap := c) (by omega) hc
  rw [show n + 1 - 1 = n by omega, show (List.map scell (x :: s)).flatten.drop (1 * 2) = (s.map scell).flatten by rfl, Nat.one_mul] at this
  exact ⟨this, hl, by have := h.2.2; omega⟩
set_option maxRecDepth 100000 in
theorem none_any (a b : Nat) (w : World) : Calls Tryz.prog 159 #[.agg #[.int .u8 (a : Nat), .int .u8 (b : Nat)]] w fun e w' => e = .returned (.bool (decide (b < a))) ∧ Below w.heap.size w w' := by
  go_enter Tryz.func159, Tryz.ntmps159
  go_wp2_with fail
  go_ret
  exact ⟨by simp, (Below.refl _ _).alloc (Nat.le_refl _) _⟩
/-- what a closure of two bools tells -/
def Keeps (g : Nat) (f : Bool → Bool → Bool) : Prop := ∀ (a b : Bool) (w : World), Calls Tryz.prog g #[.bool a, .bool b] w fun e w' => e = .returned (.bool (f a b)) ∧ w = w'
set_option maxRecDepth 100000 in
theorem or_keeps : Keeps 155 (fun a b => a || b) := by
  intro a b w
  cases a
  all_goals
    go_enter Tryz.func155, Tryz.ntmps155
    go_wp2_with fail
    go_ret
    exact ⟨by simp, rfl⟩
set_option maxRecDepth 100000 in
theorem meet_keeps : Keeps 157 (fun a b => a && b) := by
  intro a b w
  cases a
  all_goals
    go_enter Tryz.func157, Tryz.ntmps157
    go_wp2_with fail
    go_ret
    exact ⟨by simp, rfl⟩
set_option maxRecDepth 100000 in
theorem less_keeps : Keeps 158 (fun a b => a && !b) := by
  intro a b w
  cases a
  all_goals
    go_enter Tryz.func158, Tryz.ntmps158
    go_wp2_with fail
    go_ret
    exact ⟨by simp, rfl⟩
/-- a row over what is left of a list -/
def At (w0 w : World) (B g : Nat) (p : Nat) (s : Sp.S) (k : Nat) : Prop := ∃ A n c s', Row w g 279 [.slice A n c] ∧ IsS w B A n s' ∧ n ≤ c ∧ c ≤ 9223372036854775807 ∧ Sp.from_ s' p = Sp.from_ s p ∧ Chg [g] w0 w ∧ n < k
theorem from_cons_lt {x : Nat × Nat} {s : Sp.S} {p : Nat} (h : x.2 < p) : Sp.from_ (x :: s) p = Sp.from_ s p := by
  unfold Sp.from_
  rw [List.dropWhile_cons, if_pos (by simpa using h)]
theorem from_cons_ge {x : Nat × Nat} {s : Sp.S} {p : Nat} (h : ¬ x.2 < p) : Sp.from_ (x :: s) p = x :: s := by
  unfold Sp.from_
  rw [List.dropWhile_cons, if_neg (by simpa using h)]
set_option maxRecDepth 100000 in
set_option maxHeartbeats 1000000 in
theorem at_any (B g p : Nat) (A : Option Addr) (n c : Nat) (s : Sp.S) (w : World) (hr : Row w g 279 [.slice A n c]) (hs : IsS w B A n s) (hB : B ≤ g) (hc : n ≤ c) (hcm : c ≤ 9223372036854775807) (hn : Sp.Nrm TOP s) (hp : p ≤ TOP) :
    Calls Tryz.prog 241 #[.pointer (some ⟨g, 0, none⟩), .int .u8 (p : Nat)] w fun e w' => e = .returned (.tuple #[.bool (Sp.look TOP s p).1, .int .u8 ((Sp.look TOP s p).2 : Nat)]) ∧ ∃ A' n' c' , Row w' g 279 [.slice A' n' c'] ∧ IsS w' B A' n' (Sp.from_ s p) ∧ n' ≤ c' ∧ c' ≤ 9223372036854775807 ∧ Chg [g] w w' := by
  have HA0 : Hid (At w w B g p s (n + 1)) := Lib.hid ⟨A, n, c, s, hr, hs, hc, hcm, rfl, Chg.refl _ _, by omega⟩
  have HNR := Lib.hid hn
  have HLK : Hid (Sp.look TOP s p = match Sp.from_ s p with | [] => (false, TOP) | x :: _ => if p < x.1 then (false, x.1 - 1) else (true, x.2)) := Lib.hid rfl
  obtain ⟨R, hR⟩ : ∃ R, R = Sp.look TOP s p := ⟨_, rfl⟩
  rw [← hR] at HLK ⊢
  obtain ⟨R1, R2⟩ := R
  have HN := Lib.hid hn
  unfold TOP at hp
  clear hr hs hn hR hc hcm
  go_enter Tryz.func241, Tryz.ntmps241
  go_wp2_with fail
  go_loopg [] (n + 1) (fun k wr => Hid (At w wr B g p s k))
  case atStart => exact HA0
  case round =>
    clear HA0
    obtain ⟨A, n, c, s', hr, hs, hc, hcm, hfr, hch, hk⟩ := hrel.out
    have c0 := hr.cell 0
    have f0 := hr.frozen 0
    have hlt := hr.lt
    simp only [List.getElem?_cons_zero] at c0
    have HK : Hid (n < gk) := Lib.hid hk
    have HC := Lib.hid hch
    have HR := Lib.hid hr
    have HS := Lib.hid hs
    have HFR := Lib.hid hfr
    clear hrel hr hch hk hfr
    cases s' with
    | nil =>
      obtain rfl : n = 0 := hs.2.1.symm
      have HF : Hid (Sp.from_ s p = []) := Lib.hid HFR.out.symm
      have HRR : Hid (R1 = false ∧ R2 = 255) := Lib.hid (by
        have h := HLK.out
        rw [HF.out] at h
        injection h with h1 h2
        exact ⟨h1, h2⟩)
      clear hs
      have e1 : bits .xor .u8 0 255 = 255 := by decide
      go_wp2_with fail
      go_ret2
      refine ⟨by rw [HRR.out.1, HRR.out.2]; rfl, A, 0, c, HR.out, by rw [HF.out]; exact IsS.none_, by omega, hcm, HC.out⟩
    | cons x r =>
      obtain ⟨m, rfl⟩ : ∃ m, n = m + 1 := ⟨r.length, by have := hs.2.1; simp at this; omega⟩
      obtain ⟨b, o, hf⟩ := hs.form
      obtain ⟨hA, hbB, hcell⟩ := hf.out (by omega)
      subst hA
      obtain ⟨x0, x1⟩ := hcell 0 x rfl
      rw [Nat.zero_mul, Nat.add_zero] at x0 x1
      have hm63 : m + 1 ≤ 9223372036854775807 := hs.2.2
      have g1 : decide ((0 : Int) < (m : Int) + 1) = true := decide_eq_true (by omega)
      have g2 : (((m : Int) + 1) == 0) = false := by simp; omega
      have g3 : decide (0 < m + 1) = true := decide_eq_true (by omega)
      obtain ⟨xa, xb⟩ := x
      simp only at x0 x1
      clear hf hcell
      by_cases hx : xb < p
      · have g4 : decide (xb < p) = true := decide_eq_true hx
        have HNX := Lib.hid (hs.tail hc)
        have HFX : Hid (Sp.from_ r p = Sp.from_ s p) := Lib.hid (by rw [← HFR.out, from_cons_lt hx])
        clear hs hx
        by_cases h1 : c = 1
        · subst h1
          obtain rfl : m = 0 := by omega
          go_wp2_with fail
          go_roundg (gk - 1)
          case measure => have := HK.out; omega
          case rel => exact Lib.hid ⟨_, 0, 0, r, HR.out.set_ 0 _, ⟨HNX.out.1.setCell (by exact hB) _, HNX.out.2⟩, by omega, by omega, HFX.out, HC.out.set_ (p := ⟨g, 0, none⟩) (.inl (by simp)) _, by have := HK.out; omega⟩
        · have HNX2 : Hid (IsS wr B (some ⟨b, o + 2, none⟩) m r) := Lib.hid (by
            have h := HNX.out
            rw [if_neg h1] at h
            have e : (Option.map (fun x => x.add 2) (some (⟨b, o, none⟩ : Addr))) = some ⟨b, o + 2, none⟩ := by simp [Addr.add]
            rw [e] at h
            exact h)
          go_wp2_with fail
          go_roundg (gk - 1)
          case measure => have := HK.out; omega
          case rel => exact Lib.hid ⟨_, m, c - 1, r, HR.out.set_ 0 _, ⟨HNX2.out.1.setCell (by exact hB) _, HNX2.out.2⟩, by omega, by omega, HFX.out, HC.out.set_ (p := ⟨g, 0, none⟩) (.inl (by simp)) _, by have := HK.out; omega⟩
      · have g4 : decide (xb < p) = false := decide_eq_false hx
        have HF : Hid (Sp.from_ s p = (xa, xb) :: r) := Lib.hid (by rw [← HFR.out, from_cons_ge hx])
        have HLK2 : Hid ((R1, R2) = if p < xa then (false, xa - 1) else (true, xb)) := Lib.hid (by
          have h := HLK.out
          rw [HF.out] at h
          exact h)
        have HHN : Hid (xa ≤ xb ∧ xb ≤ 255) := Lib.hid (by
          have h := Sp.from_nrm HN.out p
          rw [HF.out] at h
          exact ⟨h.head.1, h.head.2.1⟩)
        clear hx hs
        by_cases hy : p < xa
        · have g5 : decide (p < xa) = true := decide_eq_true hy
          have HRR : Hid (R1 = false ∧ R2 = xa - 1) := Lib.hid (by
            have h := HLK2.out
            rw [if_pos hy] at h
            injection h with h1 h2
            exact ⟨h1, h2⟩)
          have e1 : IntKind.u8.wrap ((xa : Int) - 1) = ((xa - 1 : Nat) : Int) := by have := HHN.out; rw [IntKind.wrap_u8]; omega
          clear hy
          go_wp2_with fail
          go_quiet (fail)
          go_wp2_with fail
          go_ret2
          refine ⟨by rw [HRR.out.1, HRR.out.2]; rfl, _, m + 1, c, HR.out.drewN _, by rw [HF.out]; exact ⟨HS.out.1.drewN _, HS.out.2⟩, hc, hcm, HC.out.drewN _⟩
        · have g5 : decide (p < xa) = false := decide_eq_false hy
          have HRR : Hid (R1 = true ∧ R2 = xb) := Lib.hid (by
            have h := HLK2.out
            rw [if_neg hy] at h
            injection h with h1 h2
            exact ⟨h1, h2⟩)
          clear hy
          go_wp2_with fail
          go_quiet (fail)
          go_wp2_with fail
          go_ret2
          refine ⟨by rw [HRR.out.1, HRR.out.2]; rfl, _, m + 1, c, HR.out.drewN _, by rw [HF.out]; exact ⟨HS.out.1.drewN _, HS.out.2⟩, hc, hcm, HC.out.drewN _⟩
end ST
end Go.Proofs.YtchajbegjajlkaaGreat
