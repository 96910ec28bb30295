/- Texts of this claim, one behind the other: SpY, SpZ. -/
import Derived.Test.YtfpofaniicegaaaGreatJWalkForeign4
import Derived.Test.YtfpofaniicegaaaGreatJWalkForeign5
import Derived.Deep.RegionHeld3
/- The walks of sets: Or, Less, Meet; Of and With at one span; find, Next, Touches. -/
set_option linter.unusedVariables false
set_option linter.unusedSimpArgs false
namespace Go.Proofs.YtfpofaniicegaaaGreat
open Go.RowKit
namespace S64
set_option maxRecDepth 100000 in
set_option maxHeartbeats 1000000 in
theorem len64_0 (w : World) : Calls Tryz.prog 84 #[.int .u64 0] w fun e w' => (∃ k, e = .returned (.int .i64 k)) ∧ w = w' := by
  go_enter Tryz.func84, Tryz.ntmps84
  go_wp2
  all_goals
    go_ret
    exact ⟨⟨_, rfl⟩, rfl⟩
set_option maxRecDepth 100000 in
set_option maxHeartbeats 1000000 in
theorem len64_1 (w : World) : Calls Tryz.prog 84 #[.int .u64 1] w fun e w' => (∃ k, e = .returned (.int .i64 k)) ∧ w = w' := by
  go_enter Tryz.func84, Tryz.ntmps84
  go_wp2
  all_goals
    go_ret
    exact ⟨⟨_, rfl⟩, rfl⟩
set_option maxRecDepth 100000 in
set_option maxHeartbeats 1000000 in
theorem ins_small (A : Option Addr) (k c : Nat) (w : World) (hk : k ≤ 1) : Calls Tryz.prog 87 #[.slice A k c, .int .i64 0, .int .i64 (k : Nat), .func (.func 71) #[] #[]] w fun e w' => e = .returned (.tuple #[]) ∧ w = w' := by
  go_enter Tryz.func87, Tryz.ntmps87
  go_wp2_with fail
  go_loopw [8] (fun i wr => i = .int .i64 1 ∧ wr = w) (fun _ _ => 0)
  case atStart => exact ⟨rfl, rfl⟩
  case round =>
    obtain ⟨rfl, rfl⟩ := hrel
    have f1 : decide ((1 : Int) < (k : Int)) = false := decide_eq_false (by omega)
    have f2 : decide (1 < k) = false := decide_eq_false (by omega)
    go_wp2_with fail
    go_end0
    exact ⟨rfl, rfl⟩
set_option maxRecDepth 100000 in
set_option maxHeartbeats 1000000 in
theorem pdq_small (A : Option Addr) (k c : Nat) (l : Int) (w : World) (hk : k ≤ 1) : Calls Tryz.prog 83 #[.slice A k c, .int .i64 0, .int .i64 (k : Nat), .int .i64 l, .func (.func 71) #[] #[]] w fun e w' => e = .returned (.tuple #[]) ∧ w = w' := by
  go_enter Tryz.func83, Tryz.ntmps83
  go_wp2_with fail
  go_loopw [1, 2] (fun a b wr => a = .int .i64 0 ∧ b = .int .i64 (k : Nat) ∧ wr = w) (fun _ _ _ => 0)
  case atStart => exact ⟨rfl, rfl, rfl⟩
  case round =>
    obtain ⟨rfl, rfl, rfl⟩ := hrel
    have f1 : decide ((k : Int) ≤ 12) = true := decide_eq_true (by omega)
    have f2 : decide (k ≤ 12) = true := decide_eq_true (by omega)
    go_wp2_with (go_at_call 87; refine (ins_small A k c _ hk).mono ?_; rintro e w' ⟨rfl, rfl⟩)
    refine bodyPost_ret (results_none rfl _ _ _) rfl ⟨rfl, rfl⟩
set_option maxRecDepth 100000 in
set_option maxHeartbeats 1000000 in
theorem sort_small (A : Option Addr) (k c : Nat) (w : World) (hk : k ≤ 1) : Calls Tryz.prog 70 #[.slice A k c, .func (.func 71) #[] #[]] w fun e w' => e = .returned (.tuple #[]) ∧ w = w' := by
  have HL : Hid (∀ wx : World, Calls Tryz.prog 84 #[.int .u64 (k : Nat)] wx fun e w' => (∃ k, e = .returned (.int .i64 k)) ∧ wx = w') := Lib.hid fun wx => by
    rcases Nat.lt_or_ge k 1 with h | h
    · obtain rfl : k = 0 := by omega
      exact len64_0 wx
    · obtain rfl : k = 1 := by omega
      exact len64_1 wx
  have e1 : IntKind.u64.wrap (k : Int) = (k : Int) := by rw [IntKind.wrap_u64]; omega
  go_enter Tryz.func70, Tryz.ntmps70
  go_wp2_with (first | (go_at_call 84; refine (HL.out _).mono ?_; rintro e w' ⟨⟨l, rfl⟩, rfl⟩) | (go_at_call 83; refine (pdq_small A k c _ _ hk).mono ?_; rintro e w' ⟨rfl, rfl⟩))
  go_end0
  exact ⟨rfl, rfl⟩
/-- the set of one span -/
def one (a b : Nat) : Sp.S := if b < a then [] else [(a, b)]
theorem one_of {a b : Nat} (hb : b ≤ TOP) : Sp.Of TOP [(a, b)] (one a b) := by
  unfold one
  split
  · exact Sp.of_none (by omega)
  · exact Sp.of_one (by omega) hb
set_option maxRecDepth 100000 in
set_option maxHeartbeats 2000000 in
theorem of_one (g c a b : Nat) (w : World) (hr : Row w g 122 (scell (a, b))) (ha : a ≤ TOP) (hb : b ≤ TOP) :
    Calls Tryz.prog 51 #[.slice (some ⟨g, 0, none⟩) 1 c] w fun e w' => ∃ Ao co, e = .returned (.agg #[.slice Ao (one a b).length co]) ∧ OwnS w' w.heap.size Ao (one a b).length co (one a b) ∧ Below w.heap.size w w' := by
  obtain ⟨i0, hi0, hz1, hz2, hz3⟩ := info_parts infoSp
  have HI := Lib.hid hi0; have HZ1 := Lib.hid hz1; have HZ2 := Lib.hid hz2; have HZ3 := Lib.hid hz3
  have HR := Lib.hid hr
  clear hi0 hz1 hz2 hz3 hr
  unfold TOP at ha hb
  have c0 := HR.out.cell 0
  have k1 := HR.out.cell 1
  have hgl := HR.out.lt
  simp only [scell, List.getElem?_cons_zero, List.getElem?_cons_succ] at c0 k1
  go_enter Tryz.func51, Tryz.ntmps51
  go_wp2_with fail
  have HB0 : Hid (Below w.heap.size w (w.alloc (.cells #[.slice none 0 0] 86))) := Lib.hid ((Below.refl _ _).alloc (Nat.le_refl _) _)
  have HR0 : Hid (Row (w.alloc (.cells #[.slice none 0 0] 86)) w.heap.size 86 [.slice none 0 0]) := Lib.hid (Row.new w _ [.slice none 0 0])
  go_loopg [3, 12] 2 (fun q l i wr => ∃ (k : Nat) (A1 : Option Addr) (c1 n1 : Nat), k ≤ 1 ∧ k + q = 2 ∧ i = .int .i64 (k : Nat) ∧ l = .slice A1 n1 c1 ∧ Hid (OwnS wr w.heap.size A1 n1 c1 (if k = 0 then [] else one a b) ∧ Below w.heap.size w wr ∧ Row wr w.heap.size 86 [.slice none 0 0]))
  case atStart => exact ⟨0, none, 0, 0, by omega, rfl, rfl, rfl, Lib.hid ⟨⟨World.ownsRow_nil _ _ _ _, rfl⟩, HB0.out, HR0.out⟩⟩
  case round =>
    clear HB0 HR0
    obtain ⟨k, A1, c1, n1, hk, hkq, rfl, rfl, HW⟩ := hrel
    have hsz := HW.out.2.1.size
    rcases Nat.lt_or_ge k 1 with h0 | h0
    · obtain rfl : k = 0 := by omega
      have d0 : wr.cell? ⟨g, 0, none⟩ = some (.int .u64 (a : Nat)) := (HW.out.2.1.cell (p := ⟨g, 0, none⟩) hgl).trans c0
      have d1 : wr.cell? ⟨g, 1, none⟩ = some (.int .u64 (b : Nat)) := (HW.out.2.1.cell (p := ⟨g, 1, none⟩) hgl).trans k1
      have hown0 := HW.out.1
      rw [if_pos rfl] at hown0
      obtain rfl : n1 = 0 := hown0.2.symm
      have HOWN0 := Lib.hid hown0
      have HKQ := Lib.hid hkq
      clear hown0 hkq
      go_upto_region 5 with fail
      have hrx := Row.new wr 122 (scell (a, b))
      have hbx : Below wr.heap.size wr (wr.alloc (.cells (scell (a, b)).toArray 122)) := (Below.refl _ _).alloc (Nat.le_refl _) _
      unfold scell at hrx hbx
      simp only [] at hrx hbx
      obtain ⟨gx, hgx⟩ : ∃ gx, gx = wr.heap.size := ⟨_, rfl⟩
      obtain ⟨w5, hw5⟩ : ∃ w5, w5 = wr.alloc (.cells #[.int .u64 (a : Nat), .int .u64 (b : Nat)] 122) := ⟨_, rfl⟩
      rw [← hw5] at hrx hbx ⊢
      rw [← hgx] at hrx ⊢
      have x0 := hrx.cell 0
      have x1 := hrx.cell 1
      simp only [List.getElem?_cons_zero, List.getElem?_cons_succ] at x0 x1
      have hxl := hrx.lt
      have HBX := Lib.hid hbx
      clear hrx hbx hgx hw5 d0 d1
      by_cases hab : b < a
      · have f1 : decide (b < a) = true := decide_eq_true hab
        have HON : Hid (one a b = []) := Lib.hid (by unfold one; rw [if_pos hab])
        clear hab
        go_wp2_with (go_at_call 69; refine (none_any a b _).mono ?_; rintro e w' ⟨rfl, hb'⟩; have HBN := Lib.hid hb'; clear hb')
        have hba : Below wr.heap.size wr w' := HBX.out.trans (HBN.out.mono HBX.out.size)
        go_roundg 1
        case measure => have := HKQ.out; omega
        case rel => exact ⟨1, A1, c1, 0, by omega, rfl, by go_num, rfl, Lib.hid ⟨by rw [HON.out]; exact ⟨owns_chgr HOWN0.out.1 (Chg.of_below (S := []) hba) (by simp), rfl⟩, HW.out.2.1.trans (hba.mono hsz), HW.out.2.2.below hba HW.out.2.2.lt⟩⟩
      · have f1 : decide (b < a) = false := decide_eq_false hab
        have HON : Hid (one a b = [(a, b)]) := Lib.hid (by unfold one; rw [if_neg hab])
        clear hab
        go_upto_region 6 with (go_at_call 69; refine (none_any a b _).mono ?_; rintro e w' ⟨rfl, hb'⟩; have HBN := Lib.hid hb'; have y0 := (hb'.cell (p := ⟨gx, 0, none⟩) hxl).trans x0; have y1 := (hb'.cell (p := ⟨gx, 1, none⟩) hxl).trans x1; clear hb')
        have hba : Below wr.heap.size wr w' := HBX.out.trans (HBN.out.mono HBX.out.size)
        have HBA := Lib.hid hba
        have HOWN1 : Hid (w'.ownsRow w.heap.size 122 2 (.slice A1 0 c1) 0 (([] : Sp.S).map scell).flatten) := Lib.hid (owns_chgr HOWN0.out.1 (Chg.of_below (S := []) hba) (by simp))
        have HRD : Hid (Reads (w'.alloc (.cells (scell (a, b)).toArray 122)) (w'.alloc (.cells (scell (a, b)).toArray 122)).heap.size 2 (some ⟨w'.heap.size, 0, none⟩) 1 (scell (a, b))) := Lib.hid (new_reads w' (a, b))
        unfold scell at HRD
        simp only [] at HRD
        have hws : w.heap.size ≤ w'.heap.size := Nat.le_trans hsz hba.size
        clear hba x0 x1
        go_wp2_with (at_builtin; refine wpList_append_sl _ (by rfl) (.tmp 19) (.tmp 21) 84 rfl w.heap.size 122 i0 _ 2 16 Tryz.underlying84 HI.out HZ1.out HZ2.out HZ3.out rfl (by omega) (.slice A1 0 c1) 0 (([] : Sp.S).map scell).flatten rfl (HOWN1.out.alloc _) _ (some ⟨w'.heap.size, 0, none⟩) 1 1 [.int .u64 (a : Nat), .int .u64 (b : Nat)] rfl HRD.out (by simp [Value.oneCell']) (by unfold maxLen; omega) (by omega) (by simp; omega) ?_; intro A2 c2 wz hown hrd hgr hat; have HOWN := Lib.hid hown; have HGR := Lib.hid hgr; clear hown hrd hgr hat)
        go_roundg 1
        case measure => have := HKQ.out; omega
        case rel =>
          have hb1 : Below w.heap.size w wz := ((HW.out.2.1.trans (HBA.out.mono hsz)).alloc hws _).grown HGR.out (by simp; omega) (fun k hk => (HOWN1.out.lt k hk).1)
          have hrr := HW.out.2.2.below HBA.out HW.out.2.2.lt
          have hgw : w.heap.size ≠ gx ∨ True := .inr trivial
          have hre : Row wz w.heap.size 86 [.slice none 0 0] := by
            refine (chg_app HGR.out).row hrr (fun hm => ?_)
            obtain ⟨cur, hb⟩ := own_blkr HOWN1.out w.heap.size (by simpa using hm)
            exact absurd rfl (Blk.ne_ (cs' := cur) hrr hb (by decide))
          exact ⟨1, A2, c2, 1, by omega, rfl, by go_num, rfl, Lib.hid ⟨by rw [if_neg (by omega), HON.out]; exact ⟨HOWN.out, rfl⟩, hb1, hre⟩⟩
    · obtain rfl : k = 1 := by omega
      have hown0 := HW.out.1
      rw [if_neg (by omega)] at hown0
      have HOWN0 := Lib.hid hown0
      have hnl : n1 ≤ 1 := by rw [← hown0.2]; unfold one; split <;> simp
      clear hown0 hkq c0 k1
      go_wp2_with (go_at_call 70; refine (sort_small _ _ _ _ hnl).mono ?_; rintro e w' ⟨rfl, rfl⟩)
      go_wp2_with fail
      go_loopg [6, 28] 2 (fun q o i wx => ∃ (j : Nat) (A3 : Option Addr) (c3 : Nat), j ≤ n1 ∧ j + q = 2 ∧ i = .int .i64 (j : Nat) ∧ o = .slice A3 j c3 ∧ (j = 0 → A3 = none ∧ c3 = 0) ∧ Hid (OwnS wx w.heap.size A3 j c3 ((one a b).take j) ∧ IsS wx wx.heap.size A1 n1 (one a b) ∧ Below w.heap.size w wx ∧ Row wx w.heap.size 86 [.slice none 0 0]))
      case atStart => exact ⟨0, none, 0, by omega, rfl, rfl, rfl, fun _ => ⟨rfl, rfl⟩, Lib.hid ⟨⟨World.ownsRow_nil _ _ _ _, rfl⟩, ⟨Reads.of_own HOWN0.out.1, HOWN0.out.2, by omega⟩, HW.out.2.1, HW.out.2.2⟩⟩
      case round =>
        clear HW HOWN0 hsz
        obtain ⟨j, A3, c3, hj, hjq, rfl, rfl, hnn, HW⟩ := hrel
        have hsz := HW.out.2.2.1.size
        have HJQ := Lib.hid hjq
        clear hjq
        by_cases hjn : j < n1
        · obtain rfl : j = 0 := by omega
          obtain rfl : n1 = 1 := by omega
          obtain ⟨rfl, rfl⟩ := hnn rfl
          clear hnn
          obtain ⟨x, hx⟩ : ∃ x, one a b = [x] := by
            have := HW.out.2.1.2.1
            match h : one a b, this with
            | [x], _ => exact ⟨x, rfl⟩
          obtain ⟨bl, ol, hf⟩ := HW.out.2.1.form
          obtain ⟨hA, hbl, hcell⟩ := hf.out (by omega)
          subst hA
          have q0 := (hcell 0 x (by rw [hx]; rfl)).1
          have q1 := (hcell 0 x (by rw [hx]; rfl)).2
          rw [Nat.zero_mul, Nat.add_zero] at q0 q1
          have HX := Lib.hid hx
          obtain ⟨xa, xb⟩ := x
          simp only at q0 q1
          clear hx hf hcell hjn
          go_upto_region 14 with fail
          have hrx := Row.new wr 122 (scell (xa, xb))
          have hbx : Below wr.heap.size wr (wr.alloc (.cells (scell (xa, xb)).toArray 122)) := (Below.refl _ _).alloc (Nat.le_refl _) _
          unfold scell at hrx hbx
          simp only [] at hrx hbx
          obtain ⟨gx, hgx⟩ : ∃ gx, gx = wr.heap.size := ⟨_, rfl⟩
          obtain ⟨w5, hw5⟩ : ∃ w5, w5 = wr.alloc (.cells #[.int .u64 (xa : Nat), .int .u64 (xb : Nat)] 122) := ⟨_, rfl⟩
          rw [← hw5] at hrx hbx ⊢
          rw [← hgx] at hrx ⊢
          have x0 := hrx.cell 0
          have x1 := hrx.cell 1
          simp only [List.getElem?_cons_zero, List.getElem?_cons_succ] at x0 x1
          have hxl := hrx.lt
          have HBX := Lib.hid hbx
          have HIS : Hid (IsS w5 w5.heap.size (some ⟨bl, ol, none⟩) 1 (one a b)) := Lib.hid ((HW.out.2.1.below hbx).more hbx.size)
          have HOW : Hid (w5.ownsRow w.heap.size 122 2 (.slice none 0 0) 0 (([] : Sp.S).map scell).flatten) := Lib.hid (owns_chgr HW.out.1.1 (Chg.of_below (S := []) hbx) (by simp))
          have HBW : Hid (Below w.heap.size w w5) := Lib.hid (HW.out.2.2.1.trans (hbx.mono hsz))
          have HRW : Hid (Row w5 w.heap.size 86 [.slice none 0 0]) := Lib.hid (HW.out.2.2.2.below hbx HW.out.2.2.2.lt)
          have hws : w.heap.size ≤ w5.heap.size := HBW.out.size
          clear hrx hbx hgx hw5 q0 q1 HW
          go_quiet (fail)
          have hd := below_drewN (Below.refl w5.heap.size w5) nq
          have y0 : (w5.drewN nq).cell? ⟨gx, 0, none⟩ = some (.int .u64 (xa : Nat)) := x0
          have y1 : (w5.drewN nq).cell? ⟨gx, 1, none⟩ = some (.int .u64 (xb : Nat)) := x1
          have HIS6 : Hid (IsS (w5.drewN nq) (w5.drewN nq).heap.size (some ⟨bl, ol, none⟩) 1 (one a b)) := Lib.hid ((HIS.out.below hd).more hd.size)
          have HOW6 : Hid ((w5.drewN nq).ownsRow w.heap.size 122 2 (.slice none 0 0) 0 (([] : Sp.S).map scell).flatten) := Lib.hid (owns_chgr HOW.out (Chg.of_below (S := []) hd) (by simp))
          have HBW6 : Hid (Below w.heap.size w (w5.drewN nq)) := Lib.hid (HBW.out.trans (hd.mono hws))
          have HRW6 : Hid (Row (w5.drewN nq) w.heap.size 86 [.slice none 0 0]) := Lib.hid (HRW.out.below hd HRW.out.lt)
          have hws6 : w.heap.size ≤ (w5.drewN nq).heap.size := HBW6.out.size
          clear hd x0 x1 HIS HOW HBW HRW hws HBX hxl
          generalize w5.drewN nq = w6 at *
          have HRD : Hid (Reads (w6.alloc (.cells (scell (xa, xb)).toArray 122)) (w6.alloc (.cells (scell (xa, xb)).toArray 122)).heap.size 2 (some ⟨w6.heap.size, 0, none⟩) 1 (scell (xa, xb))) := Lib.hid (new_reads w6 (xa, xb))
          unfold scell at HRD
          simp only [] at HRD
          go_wp2_with (at_builtin; refine wpList_append_sl _ (by rfl) (.tmp 73) (.tmp 75) 84 rfl w.heap.size 122 i0 _ 2 16 Tryz.underlying84 HI.out HZ1.out HZ2.out HZ3.out rfl (by omega) (.slice none 0 0) 0 (([] : Sp.S).map scell).flatten rfl (HOW6.out.alloc _) _ (some ⟨w6.heap.size, 0, none⟩) 1 1 [.int .u64 (xa : Nat), .int .u64 (xb : Nat)] rfl HRD.out (by simp [Value.oneCell']) (by unfold maxLen; omega) (by omega) (by simp; omega) ?_; intro A2 c2 wz hown hrd hgr hat; have HOWN := Lib.hid hown; have HGR := Lib.hid hgr; clear hown hrd hgr hat)
          go_roundg 1
          case measure => have := HJQ.out; omega
          case rel =>
            have hb1 : Below w.heap.size w wz := (HBW6.out.alloc hws6 _).grown HGR.out (by simp; omega) (fun k hk => (HOW6.out.lt k hk).1)
            have hre : Row wz w.heap.size 86 [.slice none 0 0] := by
              refine (chg_app HGR.out).row HRW6.out (fun hm => ?_)
              obtain ⟨cur, hb⟩ := own_blkr HOW6.out w.heap.size (by simpa using hm)
              exact absurd rfl (Blk.ne_ (cs' := cur) HRW6.out hb (by decide))
            have hil : IsS wz wz.heap.size (some ⟨bl, ol, none⟩) 1 (one a b) := by
              have h := HIS6.out
              refine ⟨⟨h.1.1, fun _ => ?_⟩, h.2⟩
              obtain ⟨ad, e, hB, hc⟩ := h.1.2 (by omega)
              have hz := HGR.out.size
              have hne : some ad.block ≠ (Value.slice none 0 0).ownBlock := by
                intro he
                simp [Value.ownBlock] at he
              refine ⟨ad, e, Nat.lt_of_lt_of_le hB (Nat.le_trans (by simp) hz), fun k u hu => ?_⟩
              rw [← hc k u hu]
              have h2 := (HGR.out.block ad.block (by simp; omega) hne).trans (Below.heap_alloc w6 _ ad.block hB)
              unfold World.cell?
              rw [block_of_add, h2]
            exact ⟨1, A2, c2, by omega, rfl, by go_num, rfl, fun h => absurd h (by omega), Lib.hid ⟨⟨by rw [HX.out]; exact HOWN.out, by rw [HX.out]; rfl⟩, hil, hb1, hre⟩⟩
        · have hjn2 : j = n1 := by omega
          have HO9 : Hid (OwnS wr w.heap.size A3 (one a b).length c3 (one a b)) := Lib.hid (by
            have h := HW.out.1
            have h2 := HW.out.2.1.2.1
            rw [hjn2, List.take_of_length_le (by omega), ← h2] at h
            exact h)
          have HJN : Hid (j = (one a b).length) := Lib.hid (by rw [hjn2, HW.out.2.1.2.1])
          have r2 := HW.out.2.2.2
          have z0 := r2.cell 0
          have fz := r2.frozen 0
          have hl2 := r2.lt
          simp only [List.getElem?_cons_zero] at z0
          have HR3 : Hid (Row (wr.setCell ⟨w.heap.size, 0, none⟩ (.slice A3 j c3)) w.heap.size 86 [.slice A3 j c3]) := Lib.hid (r2.set_ 0 _)
          have HOS : Hid (OwnS (wr.setCell ⟨w.heap.size, 0, none⟩ (.slice A3 j c3)) w.heap.size A3 (one a b).length c3 (one a b) ∧ Below w.heap.size w (wr.setCell ⟨w.heap.size, 0, none⟩ (.slice A3 j c3))) := Lib.hid ⟨⟨own_setr HO9.out.1 r2 (by decide) 0 _, HO9.out.2⟩, HW.out.2.2.1.setCell (p := ⟨w.heap.size, 0, none⟩) (Nat.le_refl _) _⟩
          have z2 := HR3.out.cell 0
          simp only [List.getElem?_cons_zero] at z2
          have f9 : decide (j < n1) = false := decide_eq_false hjn
          clear r2 hjn2 hnn
          go_wp2_with fail
          refine bodyPost_ret (v := .agg #[.slice A3 j c3]) (by simp [results, Tryz.results51, go_sem, z2]) rfl ⟨A3, c3, by rw [HJN.out], HOS.out.1, HOS.out.2⟩
end S64
end Go.Proofs.YtfpofaniicegaaaGreat

/- The walks of a set's questions: find, Next, Touches; and of With and Less. -/
set_option linter.unusedVariables false
set_option linter.unusedSimpArgs false
namespace Go.Proofs.YtfpofaniicegaaaGreat
open Go.RowKit
namespace S64
/-- a set by value -/
def setV (A : Option Addr) (n c : Nat) : Value := .agg #[.slice A n c]
/-- a set, read -/
def IsSet (w : World) (A : Option Addr) (n c : Nat) (s : Sp.S) : Prop := IsS w w.heap.size A n s ∧ n ≤ c ∧ c ≤ 9223372036854775807 ∧ Sp.Nrm TOP s ∧ n ≤ 2199023255552
theorem IsSet.below {w w' : World} {A : Option Addr} {n c : Nat} {s : Sp.S} (h : IsSet w A n c s) (hb : Below w.heap.size w w') : IsSet w' A n c s := ⟨(h.1.below hb).more hb.size, h.2⟩
theorem IsSet.nil (w : World) : IsSet w none 0 0 [] := ⟨IsS.none_, by omega, by omega, Sp.Nrm.nil _, by omega⟩
theorem OwnS.isSet {w : World} {B n c : Nat} {A : Option Addr} {s : Sp.S} (h : OwnS w B A n c s) (hn : Sp.Nrm TOP s) (hl : n ≤ 2199023255552) : IsSet w A n c s := by
  have hc : n ≤ c ∧ c ≤ 9223372036854775807 := by
    rcases h.1.2 with ⟨h1, h2⟩ | ⟨g, cap, cur, h1, _, _, h3, h4, _⟩
    · injection h1 with _ _ h1; omega
    · injection h1 with _ _ h1; unfold maxLen at h4; omega
  exact ⟨⟨Reads.of_own h.1, h.2, by omega⟩, hc.1, hc.2, hn, hl⟩
/-- what a set's making leaves -/
def Made (w : World) (f : Bool → Bool → Bool) (s t : Sp.S) (e : Ending) (w' : World) : Prop := ∃ A n c out, e = .returned (setV A n c) ∧ OwnS w' w.heap.size A n c out ∧ Sp.Mk TOP f s t out ∧ Below w.heap.size w w'
set_option maxRecDepth 100000 in
set_option maxHeartbeats 1000000 in
theorem or_any (A A' : Option Addr) (n c n' c' : Nat) (s t : Sp.S) (w : World) (hs : IsSet w A n c s) (ht : IsSet w A' n' c' t) (hsm : n + n' ≤ 2199023255552) :
    Calls Tryz.prog 68 #[setV A n c, setV A' n' c'] w (Made w (fun a b => a || b) s t) := by
  unfold setV
  have HM : Hid (∀ wx, Below w.heap.size w wx → Calls Tryz.prog 73 #[.agg #[.slice A n c], .agg #[.slice A' n' c'], .func (.func 82) #[] #[]] wx fun e w' => ∃ Ao no co out, e = .returned (.agg #[.slice Ao no co]) ∧ OwnS w' wx.heap.size Ao no co out ∧ Sp.Mk TOP (fun a b => a || b) s t out ∧ Below wx.heap.size wx w') := Lib.hid fun wx hb =>
    make_or _ A A' n c n' c' s t wx or_keeps ((hs.1.below hb).more hb.size) ((ht.1.below hb).more hb.size) hs.2.1 hs.2.2.1 ht.2.1 ht.2.2.1 hs.2.2.2.1 ht.2.2.2.1 hsm
  clear hs ht
  go_enter Tryz.func68, Tryz.ntmps68
  go_upto_region 1 with fail
  have hb3 : Below w.heap.size w (((w.alloc (.cells #[.slice A n c] 86)).alloc (.cells #[.slice A' n' c'] 86)).alloc (.cells #[.slice none 0 0] 86)) := (((Below.refl _ _).alloc (Nat.le_refl _) _).alloc (by simp) _).alloc (by simp; omega) _
  have r2 : Row (((w.alloc (.cells #[.slice A n c] 86)).alloc (.cells #[.slice A' n' c'] 86)).alloc (.cells #[.slice none 0 0] 86)) (w.heap.size + 1 + 1) 86 [.slice none 0 0] := by
    have h := Row.new ((w.alloc (.cells #[.slice A n c] 86)).alloc (.cells #[.slice A' n' c'] 86)) 86 [.slice none 0 0]
    rw [show ((w.alloc (.cells #[.slice A n c] 86)).alloc (.cells #[.slice A' n' c'] 86)).heap.size = w.heap.size + 1 + 1 by simp] at h
    exact h
  have HB3 := Lib.hid hb3; have HR2 := Lib.hid r2
  clear hb3 r2
  go_wp2_with fail
  refine (HM.out _ HB3.out).mono ?_
  rintro e w4 ⟨Ao, no, co, out, rfl, hown, hmk, hb4⟩
  have hr4 := HR2.out.below hb4 HR2.out.lt
  have z0 := hr4.cell 0
  have z1 := hr4.frozen 0
  have zl := hr4.lt
  simp only [List.getElem?_cons_zero] at z0
  have HR4 : Hid (Row (w4.setCell ⟨w.heap.size + 1 + 1, 0, none⟩ (.slice Ao no co)) (w.heap.size + 1 + 1) 86 [.slice Ao no co]) := Lib.hid (hr4.set_ 0 _)
  have z2 := HR4.out.cell 0
  simp only [List.getElem?_cons_zero] at z2
  have HO : Hid (OwnS (w4.setCell ⟨w.heap.size + 1 + 1, 0, none⟩ (.slice Ao no co)) w.heap.size Ao no co out) := Lib.hid ⟨own_setr (own_monor hown.1 HB3.out.size) hr4 (by decide) 0 _, hown.2⟩
  have HBB : Hid (Below w.heap.size w (w4.setCell ⟨w.heap.size + 1 + 1, 0, none⟩ (.slice Ao no co))) := Lib.hid ((HB3.out.trans (hb4.mono HB3.out.size)).setCell (p := ⟨w.heap.size + 1 + 1, 0, none⟩) (Nat.le_trans (Nat.le_succ _) (Nat.le_succ _)) _)
  have HMK := Lib.hid hmk
  clear hown hmk hb4 hr4 HM HB3 HR2
  go_wp2_with fail
  refine bodyPost_ret (v := .agg #[.slice Ao no co]) (by simp [results, Tryz.results68, go_sem, z2]) rfl ⟨Ao, no, co, out, rfl, HO.out, HMK.out, HBB.out⟩
set_option maxRecDepth 100000 in
set_option maxHeartbeats 1000000 in
theorem less_any (A A' : Option Addr) (n c n' c' : Nat) (s t : Sp.S) (w : World) (hs : IsSet w A n c s) (ht : IsSet w A' n' c' t) (hsm : n + n' ≤ 2199023255552) :
    Calls Tryz.prog 53 #[setV A n c, setV A' n' c'] w (Made w (fun a b => a && !b) s t) := by
  unfold setV
  have HM : Hid (∀ wx, Below w.heap.size w wx → Calls Tryz.prog 73 #[.agg #[.slice A n c], .agg #[.slice A' n' c'], .func (.func 74) #[] #[]] wx fun e w' => ∃ Ao no co out, e = .returned (.agg #[.slice Ao no co]) ∧ OwnS w' wx.heap.size Ao no co out ∧ Sp.Mk TOP (fun a b => a && !b) s t out ∧ Below wx.heap.size wx w') := Lib.hid fun wx hb =>
    make_less _ A A' n c n' c' s t wx less_keeps ((hs.1.below hb).more hb.size) ((ht.1.below hb).more hb.size) hs.2.1 hs.2.2.1 ht.2.1 ht.2.2.1 hs.2.2.2.1 ht.2.2.2.1 hsm
  clear hs ht
  go_enter Tryz.func53, Tryz.ntmps53
  go_upto_region 1 with fail
  have hb3 : Below w.heap.size w (((w.alloc (.cells #[.slice A n c] 86)).alloc (.cells #[.slice A' n' c'] 86)).alloc (.cells #[.slice none 0 0] 86)) := (((Below.refl _ _).alloc (Nat.le_refl _) _).alloc (by simp) _).alloc (by simp; omega) _
  have r2 : Row (((w.alloc (.cells #[.slice A n c] 86)).alloc (.cells #[.slice A' n' c'] 86)).alloc (.cells #[.slice none 0 0] 86)) (w.heap.size + 1 + 1) 86 [.slice none 0 0] := by
    have h := Row.new ((w.alloc (.cells #[.slice A n c] 86)).alloc (.cells #[.slice A' n' c'] 86)) 86 [.slice none 0 0]
    rw [show ((w.alloc (.cells #[.slice A n c] 86)).alloc (.cells #[.slice A' n' c'] 86)).heap.size = w.heap.size + 1 + 1 by simp] at h
    exact h
  have HB3 := Lib.hid hb3; have HR2 := Lib.hid r2
  clear hb3 r2
  go_wp2_with fail
  refine (HM.out _ HB3.out).mono ?_
  rintro e w4 ⟨Ao, no, co, out, rfl, hown, hmk, hb4⟩
  have hr4 := HR2.out.below hb4 HR2.out.lt
  have z0 := hr4.cell 0
  have z1 := hr4.frozen 0
  have zl := hr4.lt
  simp only [List.getElem?_cons_zero] at z0
  have HR4 : Hid (Row (w4.setCell ⟨w.heap.size + 1 + 1, 0, none⟩ (.slice Ao no co)) (w.heap.size + 1 + 1) 86 [.slice Ao no co]) := Lib.hid (hr4.set_ 0 _)
  have z2 := HR4.out.cell 0
  simp only [List.getElem?_cons_zero] at z2
  have HO : Hid (OwnS (w4.setCell ⟨w.heap.size + 1 + 1, 0, none⟩ (.slice Ao no co)) w.heap.size Ao no co out) := Lib.hid ⟨own_setr (own_monor hown.1 HB3.out.size) hr4 (by decide) 0 _, hown.2⟩
  have HBB : Hid (Below w.heap.size w (w4.setCell ⟨w.heap.size + 1 + 1, 0, none⟩ (.slice Ao no co))) := Lib.hid ((HB3.out.trans (hb4.mono HB3.out.size)).setCell (p := ⟨w.heap.size + 1 + 1, 0, none⟩) (Nat.le_trans (Nat.le_succ _) (Nat.le_succ _)) _)
  have HMK := Lib.hid hmk
  clear hown hmk hb4 hr4 HM HB3 HR2
  go_wp2_with fail
  refine bodyPost_ret (v := .agg #[.slice Ao no co]) (by simp [results, Tryz.results53, go_sem, z2]) rfl ⟨Ao, no, co, out, rfl, HO.out, HMK.out, HBB.out⟩
theorem from_drop {s : Sp.S} {p i : Nat} (h1 : ∀ j x, j < i → s[j]? = some x → x.2 < p) (h2 : ∀ x, s[i]? = some x → ¬ x.2 < p) : Sp.from_ s p = s.drop i := by
  induction s generalizing i with
  | nil => simp [Sp.from_]
  | cons x r ih =>
    cases i with
    | zero => rw [from_cons_ge (h2 x rfl)]; rfl
    | succ i =>
      rw [from_cons_lt (h1 0 x (by omega) rfl), List.drop_succ_cons]
      exact ih (fun j y hj hy => h1 (j + 1) y (by omega) hy) (fun y hy => h2 y hy)
theorem nrm_rise {s : Sp.S} (hn : Sp.Nrm TOP s) {i j : Nat} {x y : Nat × Nat} (hi : s[i]? = some x) (hj : s[j]? = some y) (h : i ≤ j) : x.2 ≤ y.2 := by
  rcases Nat.eq_or_lt_of_le h with e | h
  · subst e; rw [hi] at hj; injection hj with hj; rw [hj]; exact Nat.le_refl _
  · obtain ⟨h1, e1⟩ := List.getElem?_eq_some_iff.1 hi
    obtain ⟨h2, e2⟩ := List.getElem?_eq_some_iff.1 hj
    have := List.pairwise_iff_getElem.1 hn.up i j h1 h2 h
    rw [e1, e2] at this
    have := (hn.ok y (by rw [← e2]; exact List.getElem_mem _)).1
    omega
set_option maxRecDepth 100000 in
set_option maxHeartbeats 1000000 in
theorem find_any (A : Option Addr) (n c p : Nat) (s : Sp.S) (w : World) (hs : IsSet w A n c s) (hp : p ≤ TOP) :
    Calls Tryz.prog 86 #[setV A n c, .int .u64 (p : Nat)] w fun e w' => ∃ i : Nat, e = .returned (.int .i64 (i : Nat)) ∧ i ≤ n ∧ Sp.from_ s p = s.drop i ∧ Below w.heap.size w w' := by
  unfold setV
  obtain ⟨b, o, HF⟩ := hs.1.form
  have HL := Lib.hid hs.1.2.1
  have hn63 := hs.1.2.2
  have HN := Lib.hid hs.2.2.2.1
  have hn41 := hs.2.2.2.2
  clear hs
  go_enter Tryz.func86, Tryz.ntmps86
  go_upto_region 1 with fail
  have r0 : Row (w.alloc (.cells #[.slice A n c] 86)) w.heap.size 86 [.slice A n c] := Row.new w _ [.slice A n c]
  have hb0 : Below w.heap.size w (w.alloc (.cells #[.slice A n c] 86)) := (Below.refl _ _).alloc (Nat.le_refl _) _
  generalize w.alloc (.cells #[.slice A n c] 86) = w1 at *
  have c0 := r0.cell 0
  have hl0 := r0.lt
  simp only [List.getElem?_cons_zero] at c0
  go_quiet (fail)
  have HR : Hid (Row (w1.drewN nq) w.heap.size 86 [.slice A n c]) := Lib.hid (r0.drewN nq)
  have HB : Hid (Below w.heap.size w (w1.drewN nq)) := Lib.hid (below_drewN hb0 nq)
  clear r0 hb0 c0 hl0
  generalize w1.drewN nq = w2 at *
  have c0 := HR.out.cell 0
  have hl0 := HR.out.lt
  simp only [List.getElem?_cons_zero] at c0
  go_wp2_with fail
  go_loopw [5, 6] (fun x y wr => ∃ i j : Nat, i ≤ j ∧ j ≤ n ∧ x = .int .i64 (i : Nat) ∧ y = .int .i64 (j : Nat) ∧ wr = w2 ∧ Hid ((∀ k z, k < i → s[k]? = some z → z.2 < p) ∧ ∀ k z, j ≤ k → s[k]? = some z → ¬ z.2 < p)) (fun x y _ => (intOf y - intOf x).toNat)
  case atStart => exact ⟨0, n, by omega, by omega, rfl, rfl, rfl, Lib.hid ⟨by omega, fun k z hk hz => by have := (List.getElem?_eq_some_iff.1 hz).1; have := HL.out; omega⟩⟩
  case round =>
    obtain ⟨i, j, hij, hjn, rfl, rfl, rfl, HI⟩ := hrel
    by_cases hlt : i < j
    · obtain ⟨k, hk⟩ : ∃ k, k = (i + j) / 2 := ⟨_, rfl⟩
      have hk1 : i ≤ k := by omega
      have hk2 : k < j := by omega
      obtain ⟨x, hx⟩ : ∃ x, s[k]? = some x := ⟨_, List.getElem?_eq_getElem (by have := HL.out; omega)⟩
      obtain ⟨rfl, hbl, hcell⟩ := HF.out (by omega)
      have x1 := (HB.out.cell (p := ⟨b, o + k * 2 + 1, none⟩) hbl).trans (hcell k x hx).2
      have e1 : IntKind.i64.wrap ((i : Int) + (j : Int)) = (i : Int) + (j : Int) := by rw [IntKind.wrap_i64]; omega
      have e2 : ((i : Int) + (j : Int)) / 2 = (k : Int) := by omega
      have e3 : ((i : Int) + (j : Int)).tdiv 2 = (k : Int) := by rw [Int.tdiv_eq_ediv_of_nonneg (by omega)]; exact e2
      have hk0 : (0 : Int) ≤ (k : Int) := by omega
      have hkn : (k : Int) < (n : Int) := by omega
      have f1 : decide (i < j) = true := decide_eq_true hlt
      have HX := Lib.hid hx
      obtain ⟨xa, xb⟩ := x
      simp only at x1
      have HK := Lib.hid (And.intro hk1 hk2)
      clear hx hcell hk hlt
      by_cases hxp : xb < p
      · have f2 : decide (xb < p) = true := decide_eq_true hxp
        have HXP := Lib.hid hxp
        clear hxp
        go_wp2_with fail
        go_roundw
        case rel => exact ⟨k + 1, j, by have := HK.out; omega, hjn, by go_num, rfl, by trivial, Lib.hid ⟨fun q z hq hz => by
          rcases Nat.lt_or_ge q k with h | h
          · exact Nat.lt_of_le_of_lt (nrm_rise HN.out hz HX.out (Nat.le_of_lt h)) HXP.out
          · obtain rfl : q = k := by omega
            rw [HX.out] at hz; injection hz with hz; rw [← hz]; exact HXP.out, HI.out.2⟩⟩
        case measure => have := HK.out; simp [intOf]; omega
      · have f2 : decide (xb < p) = false := decide_eq_false hxp
        have HXP := Lib.hid hxp
        clear hxp
        go_wp2_with fail
        go_roundw
        case rel => exact ⟨i, k, HK.out.1, by have := HK.out; omega, rfl, by go_num, by trivial, Lib.hid ⟨HI.out.1, fun q z hq hz => by
          exact fun hc => HXP.out (Nat.lt_of_le_of_lt (nrm_rise HN.out HX.out hz hq) hc)⟩⟩
        case measure => have := HK.out; simp [intOf]; omega
    · have f1 : decide (i < j) = false := decide_eq_false hlt
      have HIJ : Hid (i = j) := Lib.hid (by omega)
      go_wp2_with fail
      go_ret
      exact ⟨i, rfl, by omega, from_drop HI.out.1 (fun z hz => HI.out.2 i z (by have := HIJ.out; omega) hz), HB.out⟩
set_option maxRecDepth 100000 in
set_option maxHeartbeats 1000000 in
theorem next_any (A : Option Addr) (n c p : Nat) (s : Sp.S) (w : World) (hs : IsSet w A n c s) (hp : p ≤ TOP) :
    Calls Tryz.prog 75 #[setV A n c, .int .u64 (p : Nat)] w fun e w' => e = .returned (.tuple #[.int .u64 ((Sp.next s p).1 : Nat), .bool (Sp.next s p).2]) ∧ Below w.heap.size w w' := by
  have HFI : Hid (∀ wx, Below w.heap.size w wx → Calls Tryz.prog 86 #[.agg #[.slice A n c], .int .u64 (p : Nat)] wx fun e w' => ∃ i : Nat, e = .returned (.int .i64 (i : Nat)) ∧ i ≤ n ∧ Sp.from_ s p = s.drop i ∧ Below wx.heap.size wx w') := Lib.hid fun wx hb => find_any A n c p s wx (hs.below hb) hp
  unfold setV
  obtain ⟨b, o, HF⟩ := hs.1.form
  have HL := Lib.hid hs.1.2.1
  have hn63 := hs.1.2.2
  obtain ⟨R, hR⟩ : ∃ R, R = Sp.next s p := ⟨_, rfl⟩
  have HNX : Hid (R = match Sp.from_ s p with | [] => (0, false) | x :: _ => (max p x.1, true)) := Lib.hid hR
  rw [← hR]
  obtain ⟨R1, R2⟩ := R
  clear hs hR
  unfold TOP at hp
  go_enter Tryz.func75, Tryz.ntmps75
  go_upto_region 1 with fail
  have r0 : Row (w.alloc (.cells #[.slice A n c] 86)) w.heap.size 86 [.slice A n c] := Row.new w _ [.slice A n c]
  have hb0 : Below w.heap.size w (w.alloc (.cells #[.slice A n c] 86)) := (Below.refl _ _).alloc (Nat.le_refl _) _
  generalize w.alloc (.cells #[.slice A n c] 86) = w1 at *
  have c0 := r0.cell 0
  have hl0 := r0.lt
  simp only [List.getElem?_cons_zero] at c0
  have HB0 := Lib.hid hb0; have HR0 := Lib.hid r0
  clear hb0 r0
  go_wp2_with fail
  refine (HFI.out w1 HB0.out).mono ?_
  rintro e w2 ⟨i, rfl, hi, hfr, hb2⟩
  have d0 : w2.cell? ⟨w.heap.size, 0, none⟩ = some (.slice A n c) := (hb2.cell (p := ⟨w.heap.size, 0, none⟩) hl0).trans c0
  have hl2 := Nat.lt_of_lt_of_le hl0 hb2.size
  have HB2 : Hid (Below w.heap.size w w2) := Lib.hid (HB0.out.trans (hb2.mono HB0.out.size))
  have HFR := Lib.hid hfr
  clear hb2 hfr c0 hl0 HFI HB0 HR0
  by_cases hin : i = n
  · have f1 : ((i : Int) == (n : Int)) = true := by simp; omega
    have HRR : Hid (R1 = 0 ∧ R2 = false) := Lib.hid (by
      have h := HNX.out
      rw [HFR.out, List.drop_of_length_le (by have := HL.out; omega)] at h
      injection h with h1 h2
      exact ⟨h1, h2⟩)
    clear hin
    go_wp2_with fail
    go_ret2
    exact ⟨by rw [HRR.out.1, HRR.out.2]; rfl, HB2.out⟩
  · have f1 : ((i : Int) == (n : Int)) = false := by simp; omega
    obtain ⟨x, hx⟩ : ∃ x, s[i]? = some x := ⟨_, List.getElem?_eq_getElem (by have := HL.out; omega)⟩
    obtain ⟨rfl, hbl, hcell⟩ := HF.out (by omega)
    have x0 := (HB2.out.cell (p := ⟨b, o + i * 2, none⟩) hbl).trans (hcell i x hx).1
    have HRR : Hid (R1 = max p x.1 ∧ R2 = true) := Lib.hid (by
      have h := HNX.out
      have hd : s.drop i = x :: s.drop (i + 1) := by
        obtain ⟨h1, h2⟩ := List.getElem?_eq_some_iff.1 hx
        rw [List.drop_eq_getElem_cons h1, h2]
      rw [HFR.out, hd] at h
      injection h with h1 h2
      exact ⟨h1, h2⟩)
    have hi0 : (0 : Int) ≤ (i : Int) := by omega
    have hi1 : (i : Int) < (n : Int) := by omega
    obtain ⟨xa, xb⟩ := x
    simp only at x0 HRR
    clear hin hx hcell HF
    by_cases hle : p ≤ xa
    · have HR1 : Hid (R1 = xa) := Lib.hid (by rw [HRR.out.1]; omega)
      have HR2 := Lib.hid HRR.out.2
      clear HRR
      go_wp2_with fail
      all_goals
        go_ret2
        refine ⟨?_, HB2.out⟩
        rw [HR1.out, HR2.out]
        first | rfl | go_num
    · have HR1 : Hid (R1 = p) := Lib.hid (by rw [HRR.out.1]; omega)
      have HR2 := Lib.hid HRR.out.2
      clear HRR
      go_wp2_with fail
      all_goals
        go_ret2
        refine ⟨?_, HB2.out⟩
        rw [HR1.out, HR2.out]
        first | rfl | go_num
end S64
end Go.Proofs.YtfpofaniicegaaaGreat
