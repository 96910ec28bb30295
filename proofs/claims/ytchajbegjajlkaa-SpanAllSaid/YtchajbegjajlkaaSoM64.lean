/- The walk of the law's many: a set out of a list of numbers, two and two. -/
import Derived.Test.YtchajbegjajlkaaSoB64
import Derived.Test.YtchajbegjajlkaaSpP64
import Derived.Test.YtchajbegjajlkaaIsU
import Derived.Test.YtchajbegjajlkaaApS
import Derived.Deep.RegionHeld3
import Derived.StillTailTactics
set_option linter.unusedVariables false
set_option linter.unusedSimpArgs false
namespace Go.Proofs.Ytchajbegjajlkaa
open Go.RowKit
namespace S64
/-- the spans of a list of numbers, two and two -/
def prs : List Nat → Sp.S
  | a :: b :: r => (cutN a, cutN b) :: prs r
  | _ => []
theorem prs_le : ∀ (l : List Nat), ∀ x ∈ prs l, x.1 ≤ TOP ∧ x.2 ≤ TOP
  | [], _, h => by simp [prs] at h
  | [a], _, h => by simp [prs] at h
  | a :: b :: r, x, h => by
    unfold prs at h
    rcases List.mem_cons.1 h with rfl | h
    · exact ⟨cutN_le a, cutN_le b⟩
    · exact prs_le r x h
theorem prs_len : ∀ (l : List Nat), (prs l).length = l.length / 2
  | [] => rfl
  | [a] => by simp [prs]
  | a :: b :: r => by
    unfold prs
    rw [List.length_cons, prs_len r]
    simp only [List.length_cons]
    omega
theorem prs_at : ∀ (l : List Nat) (k x y : Nat), l[2 * k]? = some x → l[2 * k + 1]? = some y → (prs l)[k]? = some (cutN x, cutN y)
  | [], k, x, y, h, _ => by simp at h
  | [a], k, x, y, _, h => by simp at h
  | a :: b :: r, 0, x, y, h1, h2 => by
    simp at h1 h2
    rw [h1, h2]
    rfl
  | a :: b :: r, k + 1, x, y, h1, h2 => by
    unfold prs
    rw [List.getElem?_cons_succ]
    refine prs_at r k x y ?_ ?_
    · rw [show 2 * (k + 1) = 2 * k + 1 + 1 by omega] at h1
      simpa using h1
    · rw [show 2 * (k + 1) + 1 = 2 * k + 1 + 1 + 1 by omega] at h2
      simpa using h2
set_option maxRecDepth 100000 in
set_option maxHeartbeats 4000000 in
theorem many_any (A : Option Addr) (n c : Nat) (us : List Nat) (w : World) (hU : IsU w w.heap.size A n us) (hn : n ≤ 1099511627776) :
    Calls Try.prog 7 #[.slice A n c] w fun e w' => ∃ Ao no co out, e = .returned (.agg #[.slice Ao no co]) ∧ OwnS w' w.heap.size Ao no co out ∧ Sp.Of TOP (prs us) out ∧ no ≤ n ∧ Below w.heap.size w w' := by
  obtain ⟨i0, hi0, hz1, hz2, hz3⟩ := info_parts infoSp
  have HI := Lib.hid hi0; have HZ1 := Lib.hid hz1; have HZ2 := Lib.hid hz2; have HZ3 := Lib.hid hz3
  have HU := Lib.hid hU
  clear hi0 hz1 hz2 hz3 hU
  go_enter Try.func7, Try.ntmps7
  go_wp2_with fail
  have HB0 : Hid (Below w.heap.size w (w.alloc (.cells #[.slice none 0 0] 26))) := Lib.hid ((Below.refl _ _).alloc (Nat.le_refl _) _)
  have HR0 : Hid (Row (w.alloc (.cells #[.slice none 0 0] 26)) w.heap.size 26 [.slice none 0 0]) := Lib.hid (Row.new w _ [.slice none 0 0])
  go_loopw [3, 4] (fun l i wr => ∃ (k : Nat) (A1 : Option Addr) (c1 : Nat), 2 * k ≤ n ∧ i = .int .i64 (2 * k : Nat) ∧ l = .slice A1 k c1 ∧ Hid (OwnS wr w.heap.size A1 k c1 ((prs us).take k) ∧ Below w.heap.size w wr ∧ Row wr w.heap.size 26 [.slice none 0 0])) (fun _ i _ => n - (intOf i).toNat)
  case atStart => exact ⟨0, none, 0, by omega, rfl, rfl, Lib.hid ⟨⟨World.ownsRow_nil _ _ _ _, rfl⟩, HB0.out, HR0.out⟩⟩
  case round =>
    clear HB0 HR0
    obtain ⟨k, A1, c1, hk, rfl, rfl, HW⟩ := hrel
    have hsz := HW.out.2.1.size
    obtain ⟨m, hm⟩ : ∃ m, m = 2 * k := ⟨_, rfl⟩
    rw [← hm] at hk ⊢
    have HMM := Lib.hid hm
    obtain ⟨m1, hm1⟩ : ∃ m1, m1 = m + 1 := ⟨_, rfl⟩
    have ew : IntKind.i64.wrap ((m : Int) + 1) = (m1 : Int) := by rw [IntKind.wrap_i64]; omega
    have ew' : (m : Int) + 1 = (m1 : Int) := by omega
    have ew'' : IntKind.i64.wrap (m1 : Int) = (m1 : Int) := by rw [IntKind.wrap_i64]; omega
    have HM1 := Lib.hid hm1
    have hk40 : k ≤ 1099511627776 := by omega
    clear hm
    by_cases hkn : m1 < n
    · have f1 : decide (m1 < n) = true := decide_eq_true hkn
      have f1' : decide ((m1 : Int) < (n : Int)) = true := decide_eq_true (by omega)
      obtain ⟨bl, ol, rfl, hbl, hc⟩ := HU.out.cells (by omega)
      obtain ⟨x, hx1, hx2, hx3⟩ := hc m (by omega)
      obtain ⟨y, hy1, hy2, hy3⟩ := hc m1 hkn
      have hpk := prs_at us k x y (by rw [← HMM.out]; exact hx1) (by rw [← HMM.out, ← HM1.out]; exact hy1)
      have HTK : Hid ((prs us).take (k + 1) = (prs us).take k ++ [(cutN x, cutN y)]) := Lib.hid (by rw [List.take_add_one, hpk]; rfl)
      have d0 : wr.cell? ⟨bl, ol + m, none⟩ = some (.int .u64 (x : Nat)) := (HW.out.2.1.cell (p := ⟨bl, ol + m, none⟩) hbl).trans hx3
      have d1 : wr.cell? ⟨bl, ol + m1, none⟩ = some (.int .u64 (y : Nat)) := (HW.out.2.1.cell (p := ⟨bl, ol + m1, none⟩) hbl).trans hy3
      have hbr : bl < wr.heap.size := by omega
      have hi0 : (0 : Int) ≤ (m : Int) := by omega
      have hi1 : (m : Int) < (n : Int) := by omega
      have hi2 : (0 : Int) ≤ (m1 : Int) := by omega
      have hi3 : (m1 : Int) < (n : Int) := by omega
      have HKN := Lib.hid hkn
      obtain ⟨S1, hS1⟩ : ∃ S1, S1 = (prs us).take k := ⟨_, rfl⟩
      rw [← hS1] at HTK HW
      have HPA : Hid (∀ wx : World, Calls Try.prog 13 #[.int .u64 (x : Nat), .int .u64 (y : Nat)] wx fun e w' => e = .returned (.agg #[.int .u64 (cutN x : Nat), .int .u64 (cutN y : Nat)]) ∧ Below wx.heap.size wx w') := Lib.hid (fun wx => pair_any x y wx hx2 hy2)
      obtain ⟨p, hp⟩ : ∃ p, p = cutN x := ⟨_, rfl⟩
      obtain ⟨q, hq⟩ : ∃ q, q = cutN y := ⟨_, rfl⟩
      rw [← hp, ← hq] at HTK HPA
      clear hm1 hx1 hx2 hx3 hy1 hy2 hy3 hc hpk hS1 hkn hp hq
      go_upto_region 5 with fail
      have HGD : Hid (∀ wx, Below wr.heap.size wr wx → wx.cell? ⟨bl, ol + m, none⟩ = some (.int .u64 (x : Nat)) ∧ wx.cell? ⟨bl, ol + m1, none⟩ = some (.int .u64 (y : Nat))) := Lib.hid (fun wx hb => ⟨(hb.cell (p := ⟨bl, ol + m, none⟩) hbr).trans d0, (hb.cell (p := ⟨bl, ol + m1, none⟩) hbr).trans d1⟩)
      have HBD : Hid (Below wr.heap.size wr wr.drew) := Lib.hid (Below.refl _ _).drew
      clear d0 d1
      go_region_held3 (fun wx => wx.cell? ⟨bl, ol + m, none⟩ = some (.int .u64 (x : Nat)) ∧ wx.cell? ⟨bl, ol + m1, none⟩ = some (.int .u64 (y : Nat)))
        (first | exact HCE.out | exact HGD.out _ HBB.out | exact HGD.out _ HBA.out | exact HGD.out _ HBD.out | fail)
        (first
          | (have hq := HBB; clear hq; rw [if_pos (by kernel_rfl)]; refine wp_append_sl _ (.tmp 12) (.tmp 23) 24 rfl w.heap.size 35 i0 _ 2 16 Try.underlying24 HI.out HZ1.out HZ2.out HZ3.out rfl (by omega) (.slice A1 k c1) k (S1.map scell).flatten rfl HOW.out _ (some ⟨wa.heap.size, 0, none⟩) 1 1 [.int .u64 (p : Nat), .int .u64 (q : Nat)] rfl HRD.out (by simp [Value.oneCell']) (by unfold maxLen; omega) (by omega) HSZ.out ?_; intro A2 c2 wz hown hrd hgr hat; have HOWN := Lib.hid hown; have HGR := Lib.hid hgr; have HCE := Lib.hid (And.intro (hgr.cell (HGD.out _ HBB.out).1 HNE.out) (hgr.cell (HGD.out _ HBB.out).2 HNE.out)); clear hown hrd hgr hat)
          | (go_at_call 13; refine (HPA.out _).mono ?_; rintro e wa ⟨rfl, hba⟩; have HBA : Hid (Below wr.heap.size wr wa) := Lib.hid (HBD.out.trans (hba.mono HBD.out.size)); have HBB : Hid (Below wr.heap.size wr (wa.alloc (.cells (scell (p, q)).toArray 35))) := Lib.hid (HBA.out.alloc HBA.out.size _); have HOW : Hid ((wa.alloc (.cells (scell (p, q)).toArray 35)).ownsRow w.heap.size 35 2 (.slice A1 k c1) k (S1.map scell).flatten) := Lib.hid (owns_chgr HW.out.1.1 (Chg.of_below (S := []) HBB.out) (by simp)); have HRD : Hid (Reads (wa.alloc (.cells (scell (p, q)).toArray 35)) (wa.alloc (.cells (scell (p, q)).toArray 35)).heap.size 2 (some ⟨wa.heap.size, 0, none⟩) 1 (scell (p, q))) := Lib.hid (new_reads wa (p, q)); have HSZ : Hid (w.heap.size ≤ (wa.alloc (.cells (scell (p, q)).toArray 35)).heap.size) := Lib.hid (Nat.le_trans hsz HBB.out.size); have HNE : Hid (some bl ≠ (Value.slice A1 k c1).ownBlock) := Lib.hid (fun e => by have := (HOW.out.lt bl e.symm).1; omega); unfold scell at HBB HOW HRD HSZ; simp only [] at HBB HOW HRD HSZ; clear hba)
          | fail)
      all_goals
        go_wp2_with fail
        go_roundw
        case rel =>
          have hb1 : Below w.heap.size w wz := (HW.out.2.1.trans (HBB.out.mono hsz)).grown HGR.out HSZ.out (fun k hk => (HOW.out.lt k hk).1)
          have hrr := HW.out.2.2.below HBA.out HW.out.2.2.lt
          have hre : Row wz w.heap.size 26 [.slice none 0 0] := by
            refine (chg_app HGR.out).row hrr (fun hm => ?_)
            obtain ⟨cur, hb⟩ := own_blkr HOW.out w.heap.size (by simpa using hm)
            exact absurd rfl (Blk.ne_ (cs' := cur) (hrr.alloc _) hb (by decide))
          exact ⟨k + 1, A2, c2, by have := HKN.out; have := HMM.out; have := HM1.out; omega, by have := HMM.out; go_num, rfl, Lib.hid ⟨by rw [HTK.out]; exact ⟨by rw [push_scell]; exact HOWN.out, by have := HW.out.1.2; simp [this]⟩, hb1, hre⟩⟩
        case measure => have := HKN.out; have := HMM.out; have := HM1.out; simp [intOf]; try omega
    · have f1 : decide (m1 < n) = false := decide_eq_false hkn
      have f1' : decide ((m1 : Int) < (n : Int)) = false := decide_eq_false (by omega)
      have HO9 : Hid (OwnS wr w.heap.size A1 k c1 (prs us)) := Lib.hid (by
        have h := HW.out.1
        rw [List.take_of_length_le (by rw [prs_len, HU.out.2.1]; have := HMM.out; omega)] at h
        exact h)
      have HCO := Lib.hid (of_any A1 k c1 (prs us) wr ⟨Reads.of_own HO9.out.1, HO9.out.2, by omega⟩ (prs_le us) (by omega))
      have HKN : Hid (k ≤ n) := Lib.hid (by have := HMM.out; omega)
      clear hkn hm1
      go_wp2_with (go_at_call 29; refine HCO.out.mono ?_; rintro e w2 ⟨Ao, no, co, out, rfl, ho, hf, hl, hb⟩; have r2 := HW.out.2.2.below hb HW.out.2.2.lt; have z0 := r2.cell 0; have fz := r2.frozen 0; have hl2 := r2.lt; simp only [List.getElem?_cons_zero] at z0; have HR2 := Lib.hid r2; have HOO := Lib.hid ho; have HOF := Lib.hid (And.intro hf hl); have HOB := Lib.hid hb; clear r2 ho hf hl hb)
      have r3 := (HR2.out.set_ 0 (.slice Ao no co)).cell 0
      simp only [List.set_cons_zero, List.getElem?_cons_zero] at r3
      refine bodyPost_ret (v := .agg #[.slice Ao no co]) (by simp [results, Try.results7, go_sem, r3]) rfl ⟨Ao, no, co, out, rfl, ⟨own_setr (own_monor HOO.out.1 hsz) HR2.out (by decide) 0 _, HOO.out.2⟩, HOF.out.1, by have := HOF.out.2; have := HKN.out; omega, (HW.out.2.1.trans (HOB.out.mono hsz)).setCell (p := ⟨w.heap.size, 0, none⟩) (Nat.le_refl _) _⟩
end S64
end Go.Proofs.Ytchajbegjajlkaa
