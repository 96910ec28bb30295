/- Texts of this claim, one behind the other: PtD. -/
import Derived.Test.YtblfagmoilhdnaaJPagesTold37
/- The walk of PagesTold. -/
set_option linter.unusedVariables false
set_option linter.unusedSimpArgs false
namespace Go.Proofs.Ytblfagmoilhdnaa
open Go.RowKit
open S64
open Bu
set_option maxRecDepth 100000 in
set_option maxHeartbeats 1000000 in
theorem few_true (A : Option Addr) (n c : Nat) (rows : List Pg.Lf) (w : World) (hr : IsL w w.heap.size A n rows) (hrt : Pg.right 0 rows = 0) (hs : Pg.sumN rows ≤ 1048576) (hn : n ≤ 20000) :
    Calls Try.prog 22 #[.slice A n c] w fun e w' => e = .returned (.bool true) ∧ w' = w := by
  obtain ⟨b, off, HF⟩ := hr.form
  have HL := Lib.hid hr.2.2.1
  have HOK := Lib.hid (Pg.right_ok rows 0 hrt)
  have HS := Lib.hid hs
  clear hr hrt hs
  go_enter Try.func22, Try.ntmps22
  go_wp2
  go_loopw [3, 4] (fun x i wr => ∃ j : Nat, j ≤ n ∧ i = .int .i64 j ∧ x = .int .i64 (Pg.sumN (rows.take j) : Nat) ∧ wr = w) (fun _ i _ => n - (intOf i).toNat)
  case atStart => exact ⟨0, by omega, rfl, by simp [Pg.sumN], rfl⟩
  case round =>
    obtain ⟨j, hj, rfl, rfl, rfl⟩ := hrel
    have hle := Pg.sumN_take_le rows j
    have hle2 : Pg.sumN (rows.take j) ≤ 1048576 := by have := HS.out; omega
    clear hle
    by_cases hjn : j < n
    · obtain ⟨rfl, hg, hc⟩ := HF.out (by omega)
      obtain ⟨r, hrk⟩ : ∃ r, rows[j]? = some r := ⟨_, List.getElem?_eq_getElem (by have := HL.out; omega)⟩
      have h1 := (HOK.out r (List.mem_of_getElem? hrk)).n1
      have c2 := hc j r hrk 2 _ rfl
      have hst := Pg.sumN_take hrk
      have hle3 := Pg.sumN_take_le rows (j + 1)
      obtain ⟨m, hm⟩ : ∃ m : Nat, r.n = (m : Int) := ⟨r.n.toNat, by omega⟩
      rw [hm] at c2 hst
      simp only [Int.toNat_natCast] at hst
      have HST : Hid (Pg.sumN (rows.take (j + 1)) = Pg.sumN (rows.take j) + m) := Lib.hid hst
      have hm2 : m ≤ 1048576 := by have := HS.out; omega
      obtain ⟨X, hX⟩ : ∃ X, X = Pg.sumN (rows.take j) := ⟨_, rfl⟩
      rw [← hX] at HST hle2 ⊢
      clear hst hle3 hX hc hrk hm h1
      go_wp2
      go_roundw
      case rel => exact ⟨j + 1, by omega, by go_num, by rw [HST.out]; go_num, trivial⟩
      case measure => simp [intOf]; omega
    · obtain ⟨X, hX⟩ : ∃ X, X = Pg.sumN (rows.take j) := ⟨_, rfl⟩
      rw [← hX] at hle2 ⊢
      clear hX
      have fn : (n : Int) ≤ 20000 := by omega
      have fm : (X : Int) ≤ 1048576 := by omega
      have fj : ¬ (j : Int) < (n : Int) := by omega
      go_wp2
      go_ret
      exact ⟨rfl, rfl⟩
def twoRow : Pg.Lf := ⟨12288, 32768, 2, false, false, true⟩
theorem two_ans : (Pg.right 0 [twoRow], (Pg.ansB [twoRow] 8192).2) = (0, 0) := by kernel_rfl
set_option maxRecDepth 100000 in
set_option maxHeartbeats 1000000 in
theorem pagestold_walk (A : Option Addr) (n c base : Nat) (rows : List Pg.Lf) (w : World) (hr : IsL w w.heap.size A n rows) (hbl : base < 18446744073709551616) :
    Calls Try.prog 8 #[.slice A n c, .int .u64 (base : Nat)] w fun e w' => e = .returned (.bool true) ∧ Below w.heap.size w w' := by
  have HR := Lib.hid hr
  have hin : twoRow.In := by unfold Pg.Lf.In twoRow; decide
  have q := two_ans
  simp only [Prod.mk.injEq] at q
  have hb1 : Below w.heap.size w (w.alloc (.cells (lcells twoRow).toArray 47)) := (Below.refl _ _).alloc (Nat.le_refl _) _
  have hi1 := isL_one w twoRow hin
  have HT : Hid (Calls Try.prog 35 #[.slice (some ⟨w.heap.size, 0, none⟩) 1 1, .int .u64 8192, .bool true] (w.alloc (.cells (lcells twoRow).toArray 47)) fun e w' => e = .returned (.bool true) ∧ Below (w.alloc (.cells (lcells twoRow).toArray 47)).heap.size (w.alloc (.cells (lcells twoRow).toArray 47)) w') := Lib.hid (told_any (some ⟨w.heap.size, 0, none⟩) 1 1 8192 [twoRow] true _ hi1 (by decide) (fun _ => ⟨q.1, by simp [Pg.sumN, twoRow], q.2⟩) (fun _ wx hx => few_true _ 1 1 [twoRow] wx ((hi1.below hx).more hx.size) q.1 (by simp [Pg.sumN, twoRow]) (by omega)))
  have HB1 := Lib.hid hb1
  have hw1 : (w.alloc (.cells #[.int .u64 12288, .int .u64 32768, .int .i64 2, .bool false, .bool false, .bool true] 47)) = w.alloc (.cells (lcells twoRow).toArray 47) := rfl
  clear hr hi1 hb1 q hin
  go_enter Try.func8, Try.ntmps8
  go_wp2_with fail
  clear hw1
  generalize w.alloc (.cells (lcells twoRow).toArray 47) = w1 at *
  refine HT.out.mono ?_
  rintro e w2 ⟨rfl, hb2⟩
  have HB2 := Lib.hid (HB1.out.trans (hb2.mono HB1.out.size))
  clear hb2 HT HB1
  go_wp2_with fail
  refine (told_any A n c base rows false w2 ((HR.out.below HB2.out).more HB2.out.size) hbl (fun h => by cases h) (fun h => by cases h)).mono ?_
  rintro e w3 ⟨rfl, hb3⟩
  have HB3 := Lib.hid (HB2.out.trans (hb3.mono HB2.out.size))
  clear hb3 HB2
  go_wp2_with fail
  go_ret
  exact ⟨rfl, HB3.out⟩
end Go.Proofs.Ytblfagmoilhdnaa
