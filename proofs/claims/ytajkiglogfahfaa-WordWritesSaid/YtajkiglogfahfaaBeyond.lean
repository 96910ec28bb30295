/- The walk of the law's beyond: is what a script hands in, and what its Pads lay, beyond the bound? -/
import Derived.Test.YtajkiglogfahfaaScr
import Derived.Test.YtajkiglogfahfaaBackP
import Derived.Deep.RegionLaw
import Derived.Test.YtajkiglogfahfaaSkip
import Derived.Deep.QuietTactic
import Derived.BigQuiet
set_option linter.unusedVariables false
set_option linter.unusedSimpArgs false
namespace Go.Proofs.Ytajkiglogfahfaa
open Go.RowKit

def cost (x : OpA × List Nat) : Nat := 4097 + x.1.pn + x.1.s.size
def scrB : Nat → List (OpA × List Nat) → Bool
  | _, [] => false
  | left, x :: r => if beyondL 2147483647 [4097, x.1.pn, x.1.s.size] = true then true else if left < cost x then true else scrB (left - cost x) r
theorem scrB_cons (left : Nat) (x : OpA × List Nat) (r : List (OpA × List Nat)) : scrB left (x :: r) = if beyondL 2147483647 [4097, x.1.pn, x.1.s.size] = true then true else if left < cost x then true else scrB (left - cost x) r := rfl
theorem scrB_sum (ops : List (OpA × List Nat)) (left : Nat) (h : scrB left ops = false) : (ops.map cost).sum ≤ left := by
  induction ops generalizing left with
  | nil => simp
  | cons x r ih =>
    unfold scrB at h
    split at h
    · cases h
    · split at h
      · cases h
      · have := ih _ h
        simp only [List.map_cons, List.sum_cons]
        omega
theorem drop_cons {α : Type} {xs : List α} {k : Nat} {x : α} (h : xs[k]? = some x) : xs.drop k = x :: xs.drop (k + 1) := by
  have hk := (List.getElem?_eq_some_iff.1 h).1
  rw [List.drop_eq_getElem_cons hk, (List.getElem?_eq_some_iff.1 h).2]
theorem below3 {left a b c : Nat} (h : beyondL left [a, b, c] = false) : a + b + c ≤ left := by
  unfold beyondL at h
  split at h
  · cases h
  · have := beyond2 h; omega
set_option maxRecDepth 100000 in
set_option maxHeartbeats 8000000 in
theorem scrbeyond_any (A : Option Addr) (m cm : Nat) (ops : List (OpA × List Nat)) (w : World) (hs : Scr w w.heap.size A m ops) :
    Calls Try.prog 26 #[.slice A m cm] w fun e w' => e = .returned (.bool (scrB 2147483647 ops)) ∧ Below w.heap.size w w' := by
  have HS := Lib.hid hs
  have hmx := hs.max
  clear hs
  go_enter Try.func26, Try.ntmps26
  go_wp2_with fail
  go_loopw [3, 4] (fun l i wr => ∃ k left : Nat, k ≤ m ∧ i = .int .i64 k ∧ l = .int .i64 left ∧ left ≤ 2147483647 ∧ Hid (Below w.heap.size w wr) ∧ Hid (scrB left (ops.drop k) = scrB 2147483647 ops)) (fun _ i _ => m - (intOf i).toNat)
  case atStart => exact ⟨0, 2147483647, by omega, rfl, rfl, by omega, Lib.hid (Below.refl _ _), Lib.hid rfl⟩
  case round =>
    obtain ⟨k, left, hk, rfl, rfl, hleft, HBL, HB⟩ := hrel
    by_cases hkm : k < m
    · obtain ⟨b, off, o, ps, rfl, hbl, hop, HO, c0, c1, c2, c3, c4, c5⟩ := (HS.out.below HBL.out).step HBL.out.size hkm
      have HB1 := HB.out
      rw [drop_cons hop, scrB_cons] at HB1
      simp only at HB1
      have hpn := HO.out.1.2.2
      have hss := HO.out.2.2.2.2.2
      obtain ⟨pn, hpne⟩ : ∃ pn, pn = o.pn := ⟨_, rfl⟩
      obtain ⟨ss, hsse⟩ : ∃ ss, ss = o.s.size := ⟨_, rfl⟩
      have hcost : cost (o, ps) = 4097 + pn + ss := by unfold cost; rw [hpne, hsse]
      rw [← hpne, ← hsse, hcost] at HB1
      have HX := Lib.hid HB1
      have HOP := Lib.hid hop
      have hss2 : ((o.s.size : Nat) : Int) = (ss : Int) := by rw [hsse]
      rw [← hpne] at c4 hpn
      rw [← hsse] at hss
      have hcall : Calls Try.prog 12 #[.slice (some ⟨wr.heap.size, 0, none⟩) 3 3] (wr.drew.alloc (.cells #[.int .i64 4097, .int .i64 (pn : Nat), .int .i64 (ss : Nat)] 3)) fun e w' => e = .returned (.bool (beyondL 2147483647 [4097, pn, ss])) ∧ wr.drew.alloc (.cells #[.int .i64 4097, .int .i64 (pn : Nat), .int .i64 (ss : Nat)] 3) = w' :=
        beyond_list wr.drew [4097, pn, ss] (by simp) (by simp; omega) _ rfl
      have HC := Lib.hid hcall
      clear HB1 hop hpne hsse hcost hcall HB
      have hbw : Below w.heap.size w (wr.drew.alloc (.cells #[.int .i64 4097, .int .i64 (pn : Nat), .int .i64 (ss : Nat)] 3)) := HBL.out.drew.alloc HBL.out.size _
      have HBW := Lib.hid hbw
      clear hbw
      cases hb1 : beyondL 2147483647 [4097, pn, ss] with
      | true =>
        rw [hb1] at HC HX
        have HR : Hid (scrB 2147483647 ops = true) := Lib.hid (by have := HX.out; rw [if_pos rfl] at this; exact this.symm)
        clear hb1 HX
        go_wp2_with fail
        first | go_region_law (first
          | (rename_i KK hKK; go_simp; go_at_call 12; refine HC.out.mono ?_; rintro e w' ⟨rfl, rfl⟩; refine hKK _ _ ?_; clear hKK; refine wpAny_take (i := 15) (v := .bool true) rfl (by kernel_rfl) (by kernel_rfl) (by kernel_rfl) (fun _ _ _ h => h) (Or.inl ⟨by rfl, fun w => by go_simp⟩) ?_; refine wpAny_skip (i := 16) rfl (by kernel_rfl) (by kernel_rfl) (by kernel_rfl) (fun _ _ _ h => h) (by kernel_rfl) ?_; refine wpAny_skip (i := 17) rfl (by kernel_rfl) (by kernel_rfl) (by kernel_rfl) (fun _ _ _ h => h) (by kernel_rfl) ?_; refine wpAny_skip (i := 18) rfl (by kernel_rfl) (by kernel_rfl) (by kernel_rfl) (fun _ _ _ h => h) (by kernel_rfl) ?_; refine wpAny_skip (i := 19) rfl (by kernel_rfl) (by kernel_rfl) (by kernel_rfl) (fun _ _ _ h => h) (by kernel_rfl) ?_; refine wpAny_skip (i := 20) rfl (by kernel_rfl) (by kernel_rfl) (by kernel_rfl) (fun _ _ _ h => h) (by kernel_rfl) ?_; refine wpAny_skip (i := 21) rfl (by kernel_rfl) (by kernel_rfl) (by kernel_rfl) (fun _ _ _ h => h) (by kernel_rfl) ?_; refine wpAny_skip (i := 22) rfl (by kernel_rfl) (by kernel_rfl) (by kernel_rfl) (fun _ _ _ h => h) (by kernel_rfl) ?_; refine wpAny_skip (i := 23) rfl (by kernel_rfl) (by kernel_rfl) (by kernel_rfl) (fun _ _ _ h => h) (by kernel_rfl) ?_; refine wpAny_skip (i := 24) rfl (by kernel_rfl) (by kernel_rfl) (by kernel_rfl) (fun _ _ _ h => h) (by kernel_rfl) ?_; refine wpAny_skip (i := 25) rfl (by kernel_rfl) (by kernel_rfl) (by kernel_rfl) (fun _ _ _ h => h) (by kernel_rfl) ?_; refine wpAny_skip (i := 26) rfl (by kernel_rfl) (by kernel_rfl) (by kernel_rfl) (fun _ _ _ h => h) (by kernel_rfl) ?_; refine wpAny_skip (i := 27) rfl (by kernel_rfl) (by kernel_rfl) (by kernel_rfl) (fun _ _ _ h => h) (by kernel_rfl) ?_; refine wpAny_skip (i := 28) rfl (by kernel_rfl) (by kernel_rfl) (by kernel_rfl) (fun _ _ _ h => h) (by kernel_rfl) ?_; refine wpAny_skip (i := 29) rfl (by kernel_rfl) (by kernel_rfl) (by kernel_rfl) (fun _ _ _ h => h) (by kernel_rfl) ?_; refine wpAny_skip (i := 30) rfl (by kernel_rfl) (by kernel_rfl) (by kernel_rfl) (fun _ _ _ h => h) (by kernel_rfl) ?_; refine wpAny_skip (i := 31) rfl (by kernel_rfl) (by kernel_rfl) (by kernel_rfl) (fun _ _ _ h => h) (by kernel_rfl) ?_; refine wpAny_skip (i := 32) rfl (by kernel_rfl) (by kernel_rfl) (by kernel_rfl) (fun _ _ _ h => h) (by kernel_rfl) ?_)) | fail
        all_goals
          go_wp2_with fail
          go_ret
          refine ⟨?_, HBW.out⟩
          rw [HR.out]
          go_simp
      | false =>
        have hsum := below3 hb1
        rw [hb1] at HC HX
        have e1 : IntKind.i64.wrap (4097 + (pn : Int)) = 4097 + (pn : Int) := by rw [IntKind.wrap_i64]; omega
        have e2 : IntKind.i64.wrap (4097 + (pn : Int) + (ss : Int)) = 4097 + (pn : Int) + (ss : Int) := by rw [IntKind.wrap_i64]; omega
        clear hb1
        by_cases hl : left < 4097 + pn + ss
        · have e3 : decide ((left : Int) < 4097 + (pn : Int) + (ss : Int)) = true := by simp; omega
          have HR : Hid (scrB 2147483647 ops = true) := Lib.hid (by have := HX.out; rw [if_neg (by decide), if_pos hl] at this; exact this.symm)
          clear hl hsum HX
          go_wp2_with fail
          first | go_region_law (first
          | (rename_i KK hKK; go_simp; go_at_call 12; refine HC.out.mono ?_; rintro e w' ⟨rfl, rfl⟩; refine hKK _ _ ?_; clear hKK; refine wpAny_take (i := 15) (v := .bool false) rfl (by kernel_rfl) (by kernel_rfl) (by kernel_rfl) (fun _ _ _ h => h) (Or.inl ⟨by kernel_rfl, fun w => by go_simp⟩) ?_; refine wpAny_take (i := 16) (v := .int .i64 4097) rfl (by kernel_rfl) (by kernel_rfl) (by kernel_rfl) (fun _ _ _ h => h) (Or.inl ⟨by kernel_rfl, fun w => by go_simp⟩) ?_; refine wpAny_take (i := 17) (v := .slice (some ⟨b, off, none⟩) m cm) rfl (by kernel_rfl) (by kernel_rfl) (by kernel_rfl) (fun _ _ _ h => h) (Or.inl ⟨by kernel_rfl, fun w => by go_simp⟩) ?_; refine wpAny_take (i := 18) (v := .int .i64 (k : Nat)) rfl (by kernel_rfl) (by kernel_rfl) (by kernel_rfl) (fun _ _ _ h => h) (Or.inl ⟨by kernel_rfl, fun w => by go_simp⟩) ?_; refine wpAny_take (i := 19) (v := .pointer (some ⟨b, off + k * 6, none⟩)) rfl (by kernel_rfl) (by kernel_rfl) (by kernel_rfl) (fun _ _ _ h => h) (Or.inl ⟨by kernel_rfl, fun w => by go_simp⟩) ?_; refine wpAny_take (i := 20) (v := .pointer (some ⟨b, off + k * 6 + 4, none⟩)) rfl (by kernel_rfl) (by kernel_rfl) (by kernel_rfl) (fun _ _ _ h => h) (Or.inl ⟨by kernel_rfl, fun w => by go_simp⟩) ?_; refine wpAny_take (i := 24) (v := .slice (some ⟨b, off, none⟩) m cm) rfl (by kernel_rfl) (by kernel_rfl) (by kernel_rfl) (fun _ _ _ h => h) (Or.inl ⟨by kernel_rfl, fun w => by go_simp⟩) ?_; refine wpAny_take (i := 25) (v := .int .i64 (k : Nat)) rfl (by kernel_rfl) (by kernel_rfl) (by kernel_rfl) (fun _ _ _ h => h) (Or.inl ⟨by kernel_rfl, fun w => by go_simp⟩) ?_; refine wpAny_take (i := 26) (v := .pointer (some ⟨b, off + k * 6, none⟩)) rfl (by kernel_rfl) (by kernel_rfl) (by kernel_rfl) (fun _ _ _ h => h) (Or.inl ⟨by kernel_rfl, fun w => by go_simp⟩) ?_; refine wpAny_take (i := 27) (v := .pointer (some ⟨b, off + k * 6 + 5, none⟩)) rfl (by kernel_rfl) (by kernel_rfl) (by kernel_rfl) (fun _ _ _ h => h) (Or.inl ⟨by kernel_rfl, fun w => by go_simp⟩) ?_; refine wpAny_take (i := 31) (v := .int .i64 (left : Nat)) rfl (by kernel_rfl) (by kernel_rfl) (by kernel_rfl) (fun _ _ _ h => h) (Or.inl ⟨by kernel_rfl, fun w => by go_simp⟩) ?_; simp only [Act.put, List.setIfInBounds_toArray, List.set_cons_zero, List.set_cons_succ])) | fail
          all_goals
            go_wp2_with fail
            go_ret
            refine ⟨?_, HBW.out⟩
            rw [HR.out]
            go_simp
        · have e3 : decide ((left : Int) < 4097 + (pn : Int) + (ss : Int)) = false := by simp; omega
          have e4 : IntKind.i64.wrap ((left : Int) - 4097) = (left : Int) - 4097 := by rw [IntKind.wrap_i64]; omega
          have e5 : IntKind.i64.wrap ((left : Int) - 4097 - (pn : Int)) = (left : Int) - 4097 - (pn : Int) := by rw [IntKind.wrap_i64]; omega
          have e6 : IntKind.i64.wrap ((left : Int) - 4097 - (pn : Int) - (ss : Int)) = (left : Int) - 4097 - (pn : Int) - (ss : Int) := by rw [IntKind.wrap_i64]; omega
          have HR : Hid (scrB (left - (4097 + pn + ss)) (ops.drop (k + 1)) = scrB 2147483647 ops) := Lib.hid (by have := HX.out; rw [if_neg (by decide), if_neg hl] at this; exact this)
          have hl2 : 4097 + pn + ss ≤ left := by omega
          clear hl hsum HX
          go_wp2_with fail
          first | go_region_law (first
          | (rename_i KK hKK; go_simp; go_at_call 12; refine HC.out.mono ?_; rintro e w' ⟨rfl, rfl⟩; refine hKK _ _ ?_; clear hKK; refine wpAny_take (i := 15) (v := .bool false) rfl (by kernel_rfl) (by kernel_rfl) (by kernel_rfl) (fun _ _ _ h => h) (Or.inl ⟨by kernel_rfl, fun w => by go_simp⟩) ?_; refine wpAny_take (i := 16) (v := .int .i64 4097) rfl (by kernel_rfl) (by kernel_rfl) (by kernel_rfl) (fun _ _ _ h => h) (Or.inl ⟨by kernel_rfl, fun w => by go_simp⟩) ?_; refine wpAny_take (i := 17) (v := .slice (some ⟨b, off, none⟩) m cm) rfl (by kernel_rfl) (by kernel_rfl) (by kernel_rfl) (fun _ _ _ h => h) (Or.inl ⟨by kernel_rfl, fun w => by go_simp⟩) ?_; refine wpAny_take (i := 18) (v := .int .i64 (k : Nat)) rfl (by kernel_rfl) (by kernel_rfl) (by kernel_rfl) (fun _ _ _ h => h) (Or.inl ⟨by kernel_rfl, fun w => by go_simp⟩) ?_; refine wpAny_take (i := 19) (v := .pointer (some ⟨b, off + k * 6, none⟩)) rfl (by kernel_rfl) (by kernel_rfl) (by kernel_rfl) (fun _ _ _ h => h) (Or.inl ⟨by kernel_rfl, fun w => by go_simp⟩) ?_; refine wpAny_take (i := 20) (v := .pointer (some ⟨b, off + k * 6 + 4, none⟩)) rfl (by kernel_rfl) (by kernel_rfl) (by kernel_rfl) (fun _ _ _ h => h) (Or.inl ⟨by kernel_rfl, fun w => by go_simp⟩) ?_; refine wpAny_take (i := 24) (v := .slice (some ⟨b, off, none⟩) m cm) rfl (by kernel_rfl) (by kernel_rfl) (by kernel_rfl) (fun _ _ _ h => h) (Or.inl ⟨by kernel_rfl, fun w => by go_simp⟩) ?_; refine wpAny_take (i := 25) (v := .int .i64 (k : Nat)) rfl (by kernel_rfl) (by kernel_rfl) (by kernel_rfl) (fun _ _ _ h => h) (Or.inl ⟨by kernel_rfl, fun w => by go_simp⟩) ?_; refine wpAny_take (i := 26) (v := .pointer (some ⟨b, off + k * 6, none⟩)) rfl (by kernel_rfl) (by kernel_rfl) (by kernel_rfl) (fun _ _ _ h => h) (Or.inl ⟨by kernel_rfl, fun w => by go_simp⟩) ?_; refine wpAny_take (i := 27) (v := .pointer (some ⟨b, off + k * 6 + 5, none⟩)) rfl (by kernel_rfl) (by kernel_rfl) (by kernel_rfl) (fun _ _ _ h => h) (Or.inl ⟨by kernel_rfl, fun w => by go_simp⟩) ?_; refine wpAny_take (i := 31) (v := .int .i64 (left : Nat)) rfl (by kernel_rfl) (by kernel_rfl) (by kernel_rfl) (fun _ _ _ h => h) (Or.inl ⟨by kernel_rfl, fun w => by go_simp⟩) ?_; simp only [Act.put, List.setIfInBounds_toArray, List.set_cons_zero, List.set_cons_succ])) | fail
          all_goals
            go_wp2_with fail
            go_quiet (fail)
            go_wp2_with fail
            go_roundw
            case rel => exact ⟨k + 1, left - (4097 + pn + ss), by omega, by go_num, by go_num, by omega, Lib.hid (by first | exact HBW.out | exact below_drewN (HBL.out.alloc HBL.out.size _) _), HR⟩
            case measure => simp [intOf]; omega
    · have HK : Hid (k = m) := Lib.hid (by omega)
      go_wp2_with fail
      go_ret
      refine ⟨?_, HBL.out⟩
      rw [← HB.out, HK.out, List.drop_of_length_le (by have := HS.out.len; omega)]
      rfl
end Go.Proofs.Ytajkiglogfahfaa
