/- The walks of sets: Or, Less, Meet; Of and With at one span; find, Next, Touches. -/
import Derived.Test.YtchajbegjajlkaaSpX64
import Derived.Test.YtchajbegjajlkaaSpXL64
import Derived.Test.YtchajbegjajlkaaSpXM64
set_option linter.unusedVariables false
set_option linter.unusedSimpArgs false
namespace Go.Proofs.Ytchajbegjajlkaa
open Go.RowKit
namespace S64
set_option maxRecDepth 100000 in
set_option maxHeartbeats 1000000 in
theorem len64_0 (w : World) : Calls Try.prog 62 #[.int .u64 0] w fun e w' => (∃ k, e = .returned (.int .i64 k)) ∧ w = w' := by
  go_enter Try.func62, Try.ntmps62
  go_wp2
  all_goals
    go_ret
    exact ⟨⟨_, rfl⟩, rfl⟩
set_option maxRecDepth 100000 in
set_option maxHeartbeats 1000000 in
theorem len64_1 (w : World) : Calls Try.prog 62 #[.int .u64 1] w fun e w' => (∃ k, e = .returned (.int .i64 k)) ∧ w = w' := by
  go_enter Try.func62, Try.ntmps62
  go_wp2
  all_goals
    go_ret
    exact ⟨⟨_, rfl⟩, rfl⟩
set_option maxRecDepth 100000 in
set_option maxHeartbeats 1000000 in
theorem ins_small (A : Option Addr) (k c : Nat) (w : World) (hk : k ≤ 1) : Calls Try.prog 64 #[.slice A k c, .int .i64 0, .int .i64 (k : Nat), .func (.func 50) #[] #[]] w fun e w' => e = .returned (.tuple #[]) ∧ w = w' := by
  go_enter Try.func64, Try.ntmps64
  go_wp2_with fail
  go_loopw [8] (fun i wr => i = .int .i64 1 ∧ wr = w) (fun _ _ => 0)
  case atStart => exact ⟨rfl, rfl⟩
  case round =>
    obtain ⟨rfl, rfl⟩ := hrel
    have f1 : decide ((1 : Int) < (k : Int)) = false := decide_eq_false (by omega)
    have f2 : decide (1 < k) = false := decide_eq_false (by omega)
    go_wp2_with fail
    go_end0
    exact ⟨rfl, rfl⟩
set_option maxRecDepth 100000 in
set_option maxHeartbeats 1000000 in
theorem pdq_small (A : Option Addr) (k c : Nat) (l : Int) (w : World) (hk : k ≤ 1) : Calls Try.prog 61 #[.slice A k c, .int .i64 0, .int .i64 (k : Nat), .int .i64 l, .func (.func 50) #[] #[]] w fun e w' => e = .returned (.tuple #[]) ∧ w = w' := by
  go_enter Try.func61, Try.ntmps61
  go_wp2_with fail
  go_loopw [1, 2] (fun a b wr => a = .int .i64 0 ∧ b = .int .i64 (k : Nat) ∧ wr = w) (fun _ _ _ => 0)
  case atStart => exact ⟨rfl, rfl, rfl⟩
  case round =>
    obtain ⟨rfl, rfl, rfl⟩ := hrel
    have f1 : decide ((k : Int) ≤ 12) = true := decide_eq_true (by omega)
    have f2 : decide (k ≤ 12) = true := decide_eq_true (by omega)
    go_wp2_with (go_at_call 64; refine (ins_small A k c _ hk).mono ?_; rintro e w' ⟨rfl, rfl⟩)
    refine bodyPost_ret (results_none rfl _ _ _) rfl ⟨rfl, rfl⟩
set_option maxRecDepth 100000 in
set_option maxHeartbeats 1000000 in
theorem sort_small (A : Option Addr) (k c : Nat) (w : World) (hk : k ≤ 1) : Calls Try.prog 49 #[.slice A k c, .func (.func 50) #[] #[]] w fun e w' => e = .returned (.tuple #[]) ∧ w = w' := by
  have HL : Hid (∀ wx : World, Calls Try.prog 62 #[.int .u64 (k : Nat)] wx fun e w' => (∃ k, e = .returned (.int .i64 k)) ∧ wx = w') := Lib.hid fun wx => by
    rcases Nat.lt_or_ge k 1 with h | h
    · obtain rfl : k = 0 := by omega
      exact len64_0 wx
    · obtain rfl : k = 1 := by omega
      exact len64_1 wx
  have e1 : IntKind.u64.wrap (k : Int) = (k : Int) := by rw [IntKind.wrap_u64]; omega
  go_enter Try.func49, Try.ntmps49
  go_wp2_with (first | (go_at_call 62; refine (HL.out _).mono ?_; rintro e w' ⟨⟨l, rfl⟩, rfl⟩) | (go_at_call 61; refine (pdq_small A k c _ _ hk).mono ?_; rintro e w' ⟨rfl, rfl⟩))
  go_end0
  exact ⟨rfl, rfl⟩
/-- the set of one span -/
def one (a b : Nat) : Sp.S := if b < a then [] else [(a, b)]
theorem one_of {a b : Nat} (hb : b ≤ TOP) : Sp.Of TOP [(a, b)] (one a b) := by
  unfold one
  split
  · exact Sp.of_none (by omega)
  · exact Sp.of_one (by omega) hb
set_option maxRecDepth 100000 in
set_option maxHeartbeats 2000000 in
theorem of_one (g c a b : Nat) (w : World) (hr : Row w g 35 (scell (a, b))) (ha : a ≤ TOP) (hb : b ≤ TOP) :
    Calls Try.prog 29 #[.slice (some ⟨g, 0, none⟩) 1 c] w fun e w' => ∃ Ao co, e = .returned (.agg #[.slice Ao (one a b).length co]) ∧ OwnS w' w.heap.size Ao (one a b).length co (one a b) ∧ Below w.heap.size w w' := by
  obtain ⟨i0, hi0, hz1, hz2, hz3⟩ := info_parts infoSp
  have HI := Lib.hid hi0; have HZ1 := Lib.hid hz1; have HZ2 := Lib.hid hz2; have HZ3 := Lib.hid hz3
  have HR := Lib.hid hr
  clear hi0 hz1 hz2 hz3 hr
  unfold TOP at ha hb
  have c0 := HR.out.cell 0
  have k1 := HR.out.cell 1
  have hgl := HR.out.lt
  simp only [scell, List.getElem?_cons_zero, List.getElem?_cons_succ] at c0 k1
  go_enter Try.func29, Try.ntmps29
  go_wp2_with fail
  have HB0 : Hid (Below w.heap.size w (w.alloc (.cells #[.slice none 0 0] 26))) := Lib.hid ((Below.refl _ _).alloc (Nat.le_refl _) _)
  have HR0 : Hid (Row (w.alloc (.cells #[.slice none 0 0] 26)) w.heap.size 26 [.slice none 0 0]) := Lib.hid (Row.new w _ [.slice none 0 0])
  go_loopg [3, 12] 2 (fun q l i wr => ∃ (k : Nat) (A1 : Option Addr) (c1 n1 : Nat), k ≤ 1 ∧ k + q = 2 ∧ i = .int .i64 (k : Nat) ∧ l = .slice A1 n1 c1 ∧ Hid (OwnS wr w.heap.size A1 n1 c1 (if k = 0 then [] else one a b) ∧ Below w.heap.size w wr ∧ Row wr w.heap.size 26 [.slice none 0 0]))
  case atStart => exact ⟨0, none, 0, 0, by omega, rfl, rfl, rfl, Lib.hid ⟨⟨World.ownsRow_nil _ _ _ _, rfl⟩, HB0.out, HR0.out⟩⟩
  case round =>
    clear HB0 HR0
    obtain ⟨k, A1, c1, n1, hk, hkq, rfl, rfl, HW⟩ := hrel
    have hsz := HW.out.2.1.size
    rcases Nat.lt_or_ge k 1 with h0 | h0
    · obtain rfl : k = 0 := by omega
      have d0 : wr.cell? ⟨g, 0, none⟩ = some (.int .u64 (a : Nat)) := (HW.out.2.1.cell (p := ⟨g, 0, none⟩) hgl).trans c0
      have d1 : wr.cell? ⟨g, 1, none⟩ = some (.int .u64 (b : Nat)) := (HW.out.2.1.cell (p := ⟨g, 1, none⟩) hgl).trans k1
      have hown0 := HW.out.1
      rw [if_pos rfl] at hown0
      obtain rfl : n1 = 0 := hown0.2.symm
      have HOWN0 := Lib.hid hown0
      have HKQ := Lib.hid hkq
      clear hown0 hkq
      go_upto_region 5 with fail
      have hrx := Row.new wr 35 (scell (a, b))
      have hbx : Below wr.heap.size wr (wr.alloc (.cells (scell (a, b)).toArray 35)) := (Below.refl _ _).alloc (Nat.le_refl _) _
      unfold scell at hrx hbx
      simp only [] at hrx hbx
      obtain ⟨gx, hgx⟩ : ∃ gx, gx = wr.heap.size := ⟨_, rfl⟩
      obtain ⟨w5, hw5⟩ : ∃ w5, w5 = wr.alloc (.cells #[.int .u64 (a : Nat), .int .u64 (b : Nat)] 35) := ⟨_, rfl⟩
      rw [← hw5] at hrx hbx ⊢
      rw [← hgx] at hrx ⊢
      have x0 := hrx.cell 0
      have x1 := hrx.cell 1
      simp only [List.getElem?_cons_zero, List.getElem?_cons_succ] at x0 x1
      have hxl := hrx.lt
      have HBX := Lib.hid hbx
      clear hrx hbx hgx hw5 d0 d1
      by_cases hab : b < a
      · have f1 : decide (b < a) = true := decide_eq_true hab
        have HON : Hid (one a b = []) := Lib.hid (by unfold one; rw [if_pos hab])
        clear hab
        go_wp2_with (go_at_call 48; refine (none_any a b _).mono ?_; rintro e w' ⟨rfl, hb'⟩; have HBN := Lib.hid hb'; clear hb')
        have hba : Below wr.heap.size wr w' := HBX.out.trans (HBN.out.mono HBX.out.size)
        go_roundg 1
        case measure => have := HKQ.out; omega
        case rel => exact ⟨1, A1, c1, 0, by omega, rfl, by go_num, rfl, Lib.hid ⟨by rw [HON.out]; exact ⟨owns_chgr HOWN0.out.1 (Chg.of_below (S := []) hba) (by simp), rfl⟩, HW.out.2.1.trans (hba.mono hsz), HW.out.2.2.below hba HW.out.2.2.lt⟩⟩
      · have f1 : decide (b < a) = false := decide_eq_false hab
        have HON : Hid (one a b = [(a, b)]) := Lib.hid (by unfold one; rw [if_neg hab])
        clear hab
        go_upto_region 6 with (go_at_call 48; refine (none_any a b _).mono ?_; rintro e w' ⟨rfl, hb'⟩; have HBN := Lib.hid hb'; have y0 := (hb'.cell (p := ⟨gx, 0, none⟩) hxl).trans x0; have y1 := (hb'.cell (p := ⟨gx, 1, none⟩) hxl).trans x1; clear hb')
        have hba : Below wr.heap.size wr w' := HBX.out.trans (HBN.out.mono HBX.out.size)
        have HBA := Lib.hid hba
        have HOWN1 : Hid (w'.ownsRow w.heap.size 35 2 (.slice A1 0 c1) 0 (([] : Sp.S).map scell).flatten) := Lib.hid (owns_chgr HOWN0.out.1 (Chg.of_below (S := []) hba) (by simp))
        have HRD : Hid (Reads (w'.alloc (.cells (scell (a, b)).toArray 35)) (w'.alloc (.cells (scell (a, b)).toArray 35)).heap.size 2 (some ⟨w'.heap.size, 0, none⟩) 1 (scell (a, b))) := Lib.hid (new_reads w' (a, b))
        unfold scell at HRD
        simp only [] at HRD
        have hws : w.heap.size ≤ w'.heap.size := Nat.le_trans hsz hba.size
        clear hba x0 x1
        go_wp2_with (at_builtin; refine wpList_append_sl _ (by rfl) (.tmp 19) (.tmp 21) 24 rfl w.heap.size 35 i0 _ 2 16 Try.underlying24 HI.out HZ1.out HZ2.out HZ3.out rfl (by omega) (.slice A1 0 c1) 0 (([] : Sp.S).map scell).flatten rfl (HOWN1.out.alloc _) _ (some ⟨w'.heap.size, 0, none⟩) 1 1 [.int .u64 (a : Nat), .int .u64 (b : Nat)] rfl HRD.out (by simp [Value.oneCell']) (by unfold maxLen; omega) (by omega) (by simp; omega) ?_; intro A2 c2 wz hown hrd hgr hat; have HOWN := Lib.hid hown; have HGR := Lib.hid hgr; clear hown hrd hgr hat)
        go_roundg 1
        case measure => have := HKQ.out; omega
        case rel =>
          have hb1 : Below w.heap.size w wz := ((HW.out.2.1.trans (HBA.out.mono hsz)).alloc hws _).grown HGR.out (by simp; omega) (fun k hk => (HOWN1.out.lt k hk).1)
          have hrr := HW.out.2.2.below HBA.out HW.out.2.2.lt
          have hgw : w.heap.size ≠ gx ∨ True := .inr trivial
          have hre : Row wz w.heap.size 26 [.slice none 0 0] := by
            refine (chg_app HGR.out).row hrr (fun hm => ?_)
            obtain ⟨cur, hb⟩ := own_blkr HOWN1.out w.heap.size (by simpa using hm)
            exact absurd rfl (Blk.ne_ (cs' := cur) hrr hb (by decide))
          exact ⟨1, A2, c2, 1, by omega, rfl, by go_num, rfl, Lib.hid ⟨by rw [if_neg (by omega), HON.out]; exact ⟨HOWN.out, rfl⟩, hb1, hre⟩⟩
    · obtain rfl : k = 1 := by omega
      have hown0 := HW.out.1
      rw [if_neg (by omega)] at hown0
      have HOWN0 := Lib.hid hown0
      have hnl : n1 ≤ 1 := by rw [← hown0.2]; unfold one; split <;> simp
      clear hown0 hkq c0 k1
      go_wp2_with (go_at_call 49; refine (sort_small _ _ _ _ hnl).mono ?_; rintro e w' ⟨rfl, rfl⟩)
      go_wp2_with fail
      go_loopg [6, 28] 2 (fun q o i wx => ∃ (j : Nat) (A3 : Option Addr) (c3 : Nat), j ≤ n1 ∧ j + q = 2 ∧ i = .int .i64 (j : Nat) ∧ o = .slice A3 j c3 ∧ (j = 0 → A3 = none ∧ c3 = 0) ∧ Hid (OwnS wx w.heap.size A3 j c3 ((one a b).take j) ∧ IsS wx wx.heap.size A1 n1 (one a b) ∧ Below w.heap.size w wx ∧ Row wx w.heap.size 26 [.slice none 0 0]))
      case atStart => exact ⟨0, none, 0, by omega, rfl, rfl, rfl, fun _ => ⟨rfl, rfl⟩, Lib.hid ⟨⟨World.ownsRow_nil _ _ _ _, rfl⟩, ⟨Reads.of_own HOWN0.out.1, HOWN0.out.2, by omega⟩, HW.out.2.1, HW.out.2.2⟩⟩
      case round =>
        clear HW HOWN0 hsz
        obtain ⟨j, A3, c3, hj, hjq, rfl, rfl, hnn, HW⟩ := hrel
        have hsz := HW.out.2.2.1.size
        have HJQ := Lib.hid hjq
        clear hjq
        by_cases hjn : j < n1
        · obtain rfl : j = 0 := by omega
          obtain rfl : n1 = 1 := by omega
          obtain ⟨rfl, rfl⟩ := hnn rfl
          clear hnn
          obtain ⟨x, hx⟩ : ∃ x, one a b = [x] := by
            have := HW.out.2.1.2.1
            match h : one a b, this with
            | [x], _ => exact ⟨x, rfl⟩
          obtain ⟨bl, ol, hf⟩ := HW.out.2.1.form
          obtain ⟨hA, hbl, hcell⟩ := hf.out (by omega)
          subst hA
          have q0 := (hcell 0 x (by rw [hx]; rfl)).1
          have q1 := (hcell 0 x (by rw [hx]; rfl)).2
          rw [Nat.zero_mul, Nat.add_zero] at q0 q1
          have HX := Lib.hid hx
          obtain ⟨xa, xb⟩ := x
          simp only at q0 q1
          clear hx hf hcell hjn
          go_upto_region 14 with fail
          have hrx := Row.new wr 35 (scell (xa, xb))
          have hbx : Below wr.heap.size wr (wr.alloc (.cells (scell (xa, xb)).toArray 35)) := (Below.refl _ _).alloc (Nat.le_refl _) _
          unfold scell at hrx hbx
          simp only [] at hrx hbx
          obtain ⟨gx, hgx⟩ : ∃ gx, gx = wr.heap.size := ⟨_, rfl⟩
          obtain ⟨w5, hw5⟩ : ∃ w5, w5 = wr.alloc (.cells #[.int .u64 (xa : Nat), .int .u64 (xb : Nat)] 35) := ⟨_, rfl⟩
          rw [← hw5] at hrx hbx ⊢
          rw [← hgx] at hrx ⊢
          have x0 := hrx.cell 0
          have x1 := hrx.cell 1
          simp only [List.getElem?_cons_zero, List.getElem?_cons_succ] at x0 x1
          have hxl := hrx.lt
          have HBX := Lib.hid hbx
          have HIS : Hid (IsS w5 w5.heap.size (some ⟨bl, ol, none⟩) 1 (one a b)) := Lib.hid ((HW.out.2.1.below hbx).more hbx.size)
          have HOW : Hid (w5.ownsRow w.heap.size 35 2 (.slice none 0 0) 0 (([] : Sp.S).map scell).flatten) := Lib.hid (owns_chgr HW.out.1.1 (Chg.of_below (S := []) hbx) (by simp))
          have HBW : Hid (Below w.heap.size w w5) := Lib.hid (HW.out.2.2.1.trans (hbx.mono hsz))
          have HRW : Hid (Row w5 w.heap.size 26 [.slice none 0 0]) := Lib.hid (HW.out.2.2.2.below hbx HW.out.2.2.2.lt)
          have hws : w.heap.size ≤ w5.heap.size := HBW.out.size
          clear hrx hbx hgx hw5 q0 q1 HW
          go_quiet (fail)
          have hd := below_drewN (Below.refl w5.heap.size w5) nq
          have y0 : (w5.drewN nq).cell? ⟨gx, 0, none⟩ = some (.int .u64 (xa : Nat)) := x0
          have y1 : (w5.drewN nq).cell? ⟨gx, 1, none⟩ = some (.int .u64 (xb : Nat)) := x1
          have HIS6 : Hid (IsS (w5.drewN nq) (w5.drewN nq).heap.size (some ⟨bl, ol, none⟩) 1 (one a b)) := Lib.hid ((HIS.out.below hd).more hd.size)
          have HOW6 : Hid ((w5.drewN nq).ownsRow w.heap.size 35 2 (.slice none 0 0) 0 (([] : Sp.S).map scell).flatten) := Lib.hid (owns_chgr HOW.out (Chg.of_below (S := []) hd) (by simp))
          have HBW6 : Hid (Below w.heap.size w (w5.drewN nq)) := Lib.hid (HBW.out.trans (hd.mono hws))
          have HRW6 : Hid (Row (w5.drewN nq) w.heap.size 26 [.slice none 0 0]) := Lib.hid (HRW.out.below hd HRW.out.lt)
          have hws6 : w.heap.size ≤ (w5.drewN nq).heap.size := HBW6.out.size
          clear hd x0 x1 HIS HOW HBW HRW hws HBX hxl
          generalize w5.drewN nq = w6 at *
          have HRD : Hid (Reads (w6.alloc (.cells (scell (xa, xb)).toArray 35)) (w6.alloc (.cells (scell (xa, xb)).toArray 35)).heap.size 2 (some ⟨w6.heap.size, 0, none⟩) 1 (scell (xa, xb))) := Lib.hid (new_reads w6 (xa, xb))
          unfold scell at HRD
          simp only [] at HRD
          go_wp2_with (at_builtin; refine wpList_append_sl _ (by rfl) (.tmp 73) (.tmp 75) 24 rfl w.heap.size 35 i0 _ 2 16 Try.underlying24 HI.out HZ1.out HZ2.out HZ3.out rfl (by omega) (.slice none 0 0) 0 (([] : Sp.S).map scell).flatten rfl (HOW6.out.alloc _) _ (some ⟨w6.heap.size, 0, none⟩) 1 1 [.int .u64 (xa : Nat), .int .u64 (xb : Nat)] rfl HRD.out (by simp [Value.oneCell']) (by unfold maxLen; omega) (by omega) (by simp; omega) ?_; intro A2 c2 wz hown hrd hgr hat; have HOWN := Lib.hid hown; have HGR := Lib.hid hgr; clear hown hrd hgr hat)
          go_roundg 1
          case measure => have := HJQ.out; omega
          case rel =>
            have hb1 : Below w.heap.size w wz := (HBW6.out.alloc hws6 _).grown HGR.out (by simp; omega) (fun k hk => (HOW6.out.lt k hk).1)
            have hre : Row wz w.heap.size 26 [.slice none 0 0] := by
              refine (chg_app HGR.out).row HRW6.out (fun hm => ?_)
              obtain ⟨cur, hb⟩ := own_blkr HOW6.out w.heap.size (by simpa using hm)
              exact absurd rfl (Blk.ne_ (cs' := cur) HRW6.out hb (by decide))
            have hil : IsS wz wz.heap.size (some ⟨bl, ol, none⟩) 1 (one a b) := by
              have h := HIS6.out
              refine ⟨⟨h.1.1, fun _ => ?_⟩, h.2⟩
              obtain ⟨ad, e, hB, hc⟩ := h.1.2 (by omega)
              have hz := HGR.out.size
              have hne : some ad.block ≠ (Value.slice none 0 0).ownBlock := by
                intro he
                simp [Value.ownBlock] at he
              refine ⟨ad, e, Nat.lt_of_lt_of_le hB (Nat.le_trans (by simp) hz), fun k u hu => ?_⟩
              rw [← hc k u hu]
              have h2 := (HGR.out.block ad.block (by simp; omega) hne).trans (Below.heap_alloc w6 _ ad.block hB)
              unfold World.cell?
              rw [block_of_add, h2]
            exact ⟨1, A2, c2, by omega, rfl, by go_num, rfl, fun h => absurd h (by omega), Lib.hid ⟨⟨by rw [HX.out]; exact HOWN.out, by rw [HX.out]; rfl⟩, hil, hb1, hre⟩⟩
        · have hjn2 : j = n1 := by omega
          have HO9 : Hid (OwnS wr w.heap.size A3 (one a b).length c3 (one a b)) := Lib.hid (by
            have h := HW.out.1
            have h2 := HW.out.2.1.2.1
            rw [hjn2, List.take_of_length_le (by omega), ← h2] at h
            exact h)
          have HJN : Hid (j = (one a b).length) := Lib.hid (by rw [hjn2, HW.out.2.1.2.1])
          have r2 := HW.out.2.2.2
          have z0 := r2.cell 0
          have fz := r2.frozen 0
          have hl2 := r2.lt
          simp only [List.getElem?_cons_zero] at z0
          have HR3 : Hid (Row (wr.setCell ⟨w.heap.size, 0, none⟩ (.slice A3 j c3)) w.heap.size 26 [.slice A3 j c3]) := Lib.hid (r2.set_ 0 _)
          have HOS : Hid (OwnS (wr.setCell ⟨w.heap.size, 0, none⟩ (.slice A3 j c3)) w.heap.size A3 (one a b).length c3 (one a b) ∧ Below w.heap.size w (wr.setCell ⟨w.heap.size, 0, none⟩ (.slice A3 j c3))) := Lib.hid ⟨⟨own_setr HO9.out.1 r2 (by decide) 0 _, HO9.out.2⟩, HW.out.2.2.1.setCell (p := ⟨w.heap.size, 0, none⟩) (Nat.le_refl _) _⟩
          have z2 := HR3.out.cell 0
          simp only [List.getElem?_cons_zero] at z2
          have f9 : decide (j < n1) = false := decide_eq_false hjn
          clear r2 hjn2 hnn
          go_wp2_with fail
          refine bodyPost_ret (v := .agg #[.slice A3 j c3]) (by simp [results, Try.results29, go_sem, z2]) rfl ⟨A3, c3, by rw [HJN.out], HOS.out.1, HOS.out.2⟩
end S64
end Go.Proofs.Ytchajbegjajlkaa
