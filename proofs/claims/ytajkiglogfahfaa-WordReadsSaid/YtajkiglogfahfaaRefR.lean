/- The walks of the document's reader: take, Number. -/
import Derived.Test.YtajkiglogfahfaaReaderD
import Derived.Test.YtajkiglogfahfaaRefW2
import Derived.Test.YtajkiglogfahfaaBook
set_option linter.unusedVariables false
set_option linter.unusedSimpArgs false
namespace Go.Proofs.Ytajkiglogfahfaa
open Go.RowKit

namespace Wd
/-- the next n bytes, as the document takes them -/
def R.dtake (s : R) (n : Nat) : R × List Nat := if s.e ≠ 0 then (s, []) else if s.b.length < s.at_ + n then (⟨s.b, s.at_, 10⟩, []) else (⟨s.b, s.at_ + n, 0⟩, (s.b.drop s.at_).take n)
theorem dtake_b (s : R) (n : Nat) : (s.dtake n).1.b = s.b := by
  unfold R.dtake
  split
  · rfl
  · split <;> rfl
theorem dtake_num (s : R) (k : Nat) (hk : 1 ≤ k) (hat : s.at_ ≤ s.b.length) : s.take k = ((s.dtake k).1, if (s.dtake k).2.length < k then 0 else unle (s.dtake k).2) := by
  unfold R.take R.next R.dtake
  simp only [Nat.add_zero]
  by_cases he : s.e ≠ 0
  · simp only [if_pos he]
    rw [if_pos (by simp; omega)]
  · simp only [if_neg he]
    by_cases hl : s.b.length < s.at_ + k
    · simp only [if_pos hl]
      rw [if_pos (by simp; omega)]
    · simp only [if_neg hl]
      have h1 : ((s.b.drop s.at_).take k).length = k := by simp; omega
      rw [h1, if_neg (by omega)]
      have : s.e = 0 := by omega
      rw [this]
end Wd
/-- the document's reader -/
def Ry (w : World) (B g : Nat) (A : Option Addr) (c : Nat) (s : Wd.R) : Prop :=
  Row w g 117 [.slice A s.b.length c, .int .i64 (s.at_ : Nat), .int .i64 (s.e : Nat)] ∧ IsB w B A s.b.length s.b ∧ s.b.length ≤ c ∧ s.at_ ≤ s.b.length ∧ B ≤ g ∧ (A = none → c = 0)
theorem Ry.below {w w' : World} {B g c : Nat} {A : Option Addr} {s : Wd.R} (h : Ry w B g A c s) (hb : Below w.heap.size w w') (hB : B ≤ w.heap.size) : Ry w' B g A c s :=
  ⟨h.1.below hb h.1.lt, h.2.1.below (hb.mono hB), h.2.2⟩
theorem Ry.chg {T : List Nat} {w w' : World} {B g c : Nat} {A : Option Addr} {s : Wd.R} (h : Ry w B g A c s) (hc : Chg T w w') (hg : g ∉ T) (hT : ∀ k ∈ T, B ≤ k) (hB : B ≤ w.heap.size) : Ry w' B g A c s :=
  ⟨hc.row h.1 hg, h.2.1.below (hc.below hB hT), h.2.2⟩
/-- only its place and its refusal have turned -/
theorem Ry.turn {w w' : World} {B g c : Nat} {A : Option Addr} {s : Wd.R} (h : Ry w B g A c s) (hc : Chg [g] w w') (hB : B ≤ w.heap.size) {a e : Nat} (hr : Row w' g 117 [.slice A s.b.length c, .int .i64 (a : Nat), .int .i64 (e : Nat)]) (ha : a ≤ s.b.length) : Ry w' B g A c ⟨s.b, a, e⟩ :=
  ⟨hr, h.2.1.below (hc.below hB (fun k hk => by obtain rfl : k = g := by simpa using hk
                                                exact h.2.2.2.2.1)), h.2.2.1, ha, h.2.2.2.2⟩
theorem part_isB {w : World} {B c f k n : Nat} {A : Option Addr} {bs : List Nat} (h : IsB w B A n bs) (hcn : n ≤ c) (hn : f + k ≤ n) : IsB w B (if c = f then A else A.map (·.add f)) k ((bs.drop f).take k) := by
  have hr : Reads w B 1 (if c = f then A else A.map (·.add (f * 1))) (n - f) ((bs.map u8).drop (f * 1)) := h.1.cut (by omega) hcn
  have := h.2.2
  have h2 : IsB w B (if c = f then A else A.map (·.add f)) (n - f) (bs.drop f) := ⟨by simpa [List.map_drop] using hr, fun b hb => h.2.1 b (List.mem_of_mem_drop hb), by omega⟩
  obtain ⟨⟨h1, h2'⟩, h3, h4⟩ := h2
  refine ⟨⟨by simp at h1 ⊢; omega, fun h0 => ?_⟩, fun b hb => h3 b (List.mem_of_mem_take hb), by omega⟩
  obtain ⟨a, hA, hlt, hc⟩ := h2' (by omega)
  refine ⟨a, hA, hlt, fun j u hj => hc j u ?_⟩
  rw [List.map_take, List.getElem?_take] at hj
  split at hj
  · exact hj
  · cases hj
set_option maxRecDepth 100000 in
set_option maxHeartbeats 1000000 in
theorem dtake_ok (B g c n : Nat) (A : Option Addr) (s : Wd.R) (w : World) (hw : Ry w B g A c s) (hB : B ≤ w.heap.size) (he : s.e = 0) (hn : s.at_ + n ≤ s.b.length) :
    Calls Try.prog 130 #[.pointer (some ⟨g, 0, none⟩), .int .i64 (n : Nat)] w fun e w' => (∃ A' c', e = .returned (.slice A' n c') ∧ n ≤ c' ∧ IsB w' B A' n ((s.b.drop s.at_).take n)) ∧ Ry w' B g A c ⟨s.b, s.at_ + n, 0⟩ ∧ Chg [g] w w' := by
  obtain ⟨hrow, hb, hcn, hat, hBg, hA⟩ := hw
  have hmx := hb.2.2
  have c0 := hrow.cell 0; have c1 := hrow.cell 1; have c2 := hrow.cell 2
  have f1 := hrow.frozen 1
  have hlt := hrow.lt
  simp only [List.getElem?_cons_zero, List.getElem?_cons_succ] at c0 c1 c2
  rw [he] at c2
  have hc2 : Chg [g] w ((w.drew).setCell ⟨g, 1, none⟩ (.int .i64 ((s.at_ + n : Nat) : Int))) := (Chg.refl [g] w).drew.set_ (p := ⟨g, 1, none⟩) (.inl (by simp)) _
  have HW : Hid (Ry w B g A c s) := Lib.hid ⟨hrow, hb, hcn, hat, hBg, hA⟩
  have HE := Lib.hid he
  obtain ⟨xs, at_, e⟩ := s
  simp only at c0 c1 hat hcn hn hmx
  obtain ⟨m, hm⟩ : ∃ m, m = xs.length := ⟨_, rfl⟩
  rw [← hm] at c0 hat hcn hn hmx
  have HM := Lib.hid hm
  clear hm hrow hb hA hc2 he
  have w1 : IntKind.i64.wrap ((m : Int) - (at_ : Int)) = (m : Int) - (at_ : Int) := by rw [IntKind.wrap_i64]; omega
  have w3 : IntKind.i64.wrap ((at_ : Int) + (n : Int)) = (at_ : Int) + (n : Int) := by rw [IntKind.wrap_i64]; omega
  have w4 : IntKind.i64.wrap ((at_ : Int) + (n : Int) - (n : Int)) = (at_ : Int) := by rw [IntKind.wrap_i64]; omega
  have w5 : decide ((m : Int) - (at_ : Int) < (n : Int)) = false := by simp; omega
  go_enter Try.func130, Try.ntmps130
  go_wp2_with fail
  go_quiet (fail)
  go_wp2_with fail
  obtain ⟨W, hW⟩ : ∃ W, W = (w.drewN nq).setCell ⟨g, 1, none⟩ (.int .i64 ((at_ : Int) + (n : Int))) := ⟨_, rfl⟩
  rw [← hW]
  have hrowW : Row W g 117 [.slice A xs.length c, .int .i64 ((at_ : Int) + (n : Int)), .int .i64 ((e : Nat) : Int)] := by rw [hW]; exact (HW.out.1.drewN nq).set_ 1 _
  have hcW : Chg [g] w W := by rw [hW]; exact ((Chg.refl [g] w).drewN nq).set_ (p := ⟨g, 1, none⟩) (.inl (by simp)) _
  have hRY : Ry W B g A c ⟨xs, at_ + n, 0⟩ := by
    have := HW.out.turn hcW hB (a := at_ + n) (e := 0) (by have := hrowW; rw [HE.out] at this; exact this) (by have := HM.out; simp only; omega)
    exact this
  have c0 := hrowW.cell 0; have c1 := hrowW.cell 1
  simp only [List.getElem?_cons_zero, List.getElem?_cons_succ] at c0 c1
  rw [← HM.out] at c0
  have hB1 : IsB W B A xs.length xs := hRY.2.1
  have hpart := part_isB (f := at_) (k := n) (c := c) hB1 (by have := HM.out; omega) (by have := HM.out; omega)
  have HP1 := Lib.hid (fun h : c = at_ => by rw [if_pos h] at hpart; exact hpart)
  have HP2 := Lib.hid (fun h : ¬ c = at_ => by rw [if_neg h] at hpart; exact hpart)
  have HRY := Lib.hid hRY; have HCW := Lib.hid hcW
  have hltW := hrowW.lt
  clear hW hrowW hcW hRY hpart hB1
  go_quiet (fail)
  go_wp2_with fail
  all_goals
    rename_i h
    go_ret
    have hd : Chg [g] W (W.drewN nq) := (Chg.refl _ _).drewN nq
    have hbd : Below W.heap.size W (W.drewN nq) := below_drewN (Below.refl _ _) nq
    have hrb := HRY.out.below hbd (by have := HCW.out.size; omega)
    refine ⟨⟨_, _, rfl, by omega, ?_⟩, by first | exact hrb | (rw [h] at hrb; exact hrb), HCW.out.trans hd (fun x hx => .inl hx)⟩
    first
      | exact (HP2.out h).below (hbd.mono (by have := HCW.out.size; omega))
      | exact (HP1.out h).below (hbd.mono (by have := HCW.out.size; omega))
set_option maxRecDepth 100000 in
set_option maxHeartbeats 1000000 in
theorem dtake_refused (B g c : Nat) (n : Int) (A : Option Addr) (s : Wd.R) (w : World) (hw : Ry w B g A c s) (hB : B ≤ w.heap.size) (he : s.e ≠ 0) :
    Calls Try.prog 130 #[.pointer (some ⟨g, 0, none⟩), .int .i64 n] w fun e w' => e = .returned (.slice none 0 0) ∧ Ry w' B g A c s ∧ Chg [g] w w' := by
  have c2 := hw.1.cell 2
  have hlt := hw.1.lt
  simp only [List.getElem?_cons_zero, List.getElem?_cons_succ] at c2
  have he1 : ((s.e : Int) == 0) = false := beq_eq_false_iff_ne.2 (by omega)
  have he2 : ((s.e : Int) != 0) = true := by rw [bne_iff_ne]; omega
  have HW := Lib.hid hw
  clear hw he
  go_enter Try.func130, Try.ntmps130
  go_wp2_with fail
  go_quiet (fail)
  go_wp2_with fail
  go_ret
  exact ⟨rfl, HW.out.below (below_drewN (Below.refl _ _) nq) hB, (Chg.refl _ _).drewN nq⟩
set_option maxRecDepth 100000 in
set_option maxHeartbeats 1000000 in
theorem dtake_short (B g c n : Nat) (A : Option Addr) (s : Wd.R) (w : World) (hw : Ry w B g A c s) (hB : B ≤ w.heap.size) (he : s.e = 0) (hn : n ≤ 9223372036854775807) (hsh : s.b.length < s.at_ + n) :
    Calls Try.prog 130 #[.pointer (some ⟨g, 0, none⟩), .int .i64 (n : Nat)] w fun e w' => e = .returned (.slice none 0 0) ∧ Ry w' B g A c ⟨s.b, s.at_, 10⟩ ∧ Chg [g] w w' := by
  obtain ⟨hrow, hb, hcn, hat, hBg, hA⟩ := hw
  have hmx := hb.2.2
  have c0 := hrow.cell 0; have c1 := hrow.cell 1; have c2 := hrow.cell 2
  have f2 := hrow.frozen 2
  have hlt := hrow.lt
  simp only [List.getElem?_cons_zero, List.getElem?_cons_succ] at c0 c1 c2
  rw [he] at c2
  have HW : Hid (Ry w B g A c s) := Lib.hid ⟨hrow, hb, hcn, hat, hBg, hA⟩
  obtain ⟨xs, at_, e⟩ := s
  simp only at c0 c1 hat hcn hsh hmx
  obtain ⟨m, hm⟩ : ∃ m, m = xs.length := ⟨_, rfl⟩
  rw [← hm] at c0 hat hcn hsh hmx
  have HM := Lib.hid hm
  clear hm hrow hb hA he
  have w1 : IntKind.i64.wrap ((m : Int) - (at_ : Int)) = (m : Int) - (at_ : Int) := by rw [IntKind.wrap_i64]; omega
  have w5 : decide ((m : Int) - (at_ : Int) < (n : Int)) = true := by simp; omega
  go_enter Try.func130, Try.ntmps130
  go_wp2_with fail
  go_quiet (fail)
  go_wp2_with fail
  go_ret
  have hc : Chg [g] w ((w.drewN nq).setCell ⟨g, 2, none⟩ (.int .i64 10)) := ((Chg.refl [g] w).drewN nq).set_ (p := ⟨g, 2, none⟩) (.inl (by simp)) _
  exact ⟨rfl, HW.out.turn hc hB (a := at_) (e := 10) ((HW.out.1.drewN nq).set_ 2 _) (by have := HM.out; simp only; omega), hc⟩
/-- the document's take -/
theorem dtake_any (B g c n : Nat) (A : Option Addr) (s : Wd.R) (w : World) (hw : Ry w B g A c s) (hB : B ≤ w.heap.size) (hn : n ≤ 9223372036854775807) :
    Calls Try.prog 130 #[.pointer (some ⟨g, 0, none⟩), .int .i64 (n : Nat)] w fun e w' => (∃ A' m c', e = .returned (.slice A' m c') ∧ m ≤ c' ∧ IsB w' B A' m (s.dtake n).2) ∧ Ry w' B g A c (s.dtake n).1 ∧ Chg [g] w w' := by
  by_cases he : s.e = 0
  · by_cases hl : s.at_ + n ≤ s.b.length
    · have e : s.dtake n = (⟨s.b, s.at_ + n, 0⟩, (s.b.drop s.at_).take n) := by unfold Wd.R.dtake; rw [if_neg (by omega), if_neg (by omega)]
      rw [e]
      refine (dtake_ok B g c n A s w hw hB he hl).mono ?_
      rintro e1 w' ⟨⟨A', c', h1, h2, h3⟩, h4, h5⟩
      exact ⟨⟨A', n, c', h1, h2, h3⟩, h4, h5⟩
    · have e : s.dtake n = (⟨s.b, s.at_, 10⟩, []) := by unfold Wd.R.dtake; rw [if_neg (by omega), if_pos (by omega)]
      rw [e]
      refine (dtake_short B g c n A s w hw hB he hn (by omega)).mono ?_
      rintro e1 w' ⟨h1, h4, h5⟩
      exact ⟨⟨none, 0, 0, h1, by omega, isB_nil _ _⟩, h4, h5⟩
  · have e : s.dtake n = (s, []) := by unfold Wd.R.dtake; rw [if_pos he]
    rw [e]
    refine (dtake_refused B g c n A s w hw hB he).mono ?_
    rintro e1 w' ⟨h1, h4, h5⟩
    exact ⟨⟨none, 0, 0, h1, by omega, isB_nil _ _⟩, h4, h5⟩
theorem unle_drop (bs : List Nat) (j : Nat) (hj : j < bs.length) : Wd.unle (bs.drop j) = bs.getD j 0 + 256 * Wd.unle (bs.drop (j + 1)) := by
  rw [drop_at 0 bs j hj]; rfl
theorem unle_drop_lt (bs : List Nat) (hb : ∀ b ∈ bs, b < 256) (hl : bs.length ≤ 8) (j : Nat) (hj : 1 ≤ j) : Wd.unle (bs.drop j) < 72057594037927936 := by
  have h := Wd.unle_lt (bs.drop j) (fun b hb' => hb b (List.mem_of_mem_drop hb'))
  have : (bs.drop j).length ≤ 7 := by simp; omega
  exact Nat.lt_of_lt_of_le h (Nat.le_trans (Nat.pow_le_pow_right (by decide) this) (by decide))
set_option maxRecDepth 100000 in
set_option maxHeartbeats 1000000 in
theorem dnum_whole (A : Option Addr) (n c : Nat) (bs : List Nat) (w : World) (hb : IsB w w.heap.size A n bs) (h1 : 1 ≤ n) (h8 : n ≤ 8) :
    Calls Try.prog 129 #[.slice A n c, .int .i64 (n : Nat)] w fun e w' => e = .returned (.tuple #[.int .u64 (Wd.unle bs : Nat), .bool true]) ∧ w = w' := by
  obtain ⟨b, off, HF⟩ := hb.form
  have HL := Lib.hid hb.len
  have HBB := Lib.hid hb.2.1
  have e1 : IntKind.i64.wrap ((n : Int) - 1) = (n : Int) - 1 := by rw [IntKind.wrap_i64]; omega
  clear hb
  go_enter Try.func129, Try.ntmps129
  go_wp2_with fail
  go_loopw [6, 7] (fun v i wr => ∃ (j x : Nat), j ≤ n ∧ i = .int .i64 ((j : Int) - 1) ∧ v = .int .u64 x ∧ wr = w ∧ Hid (x = Wd.unle (bs.drop j)) ∧ (1 ≤ j → x < 72057594037927936)) (fun _ i _ => (intOf i + 1).toNat)
  case atStart =>
    refine ⟨n, 0, by omega, rfl, rfl, rfl, Lib.hid ?_, by omega⟩
    rw [List.drop_of_length_le (by have := HL.out; omega)]; rfl
  case round =>
    obtain ⟨j, x, hj, rfl, rfl, rfl, HX, hx⟩ := hrel
    by_cases hj0 : 1 ≤ j
    · obtain ⟨hA, hbB, hc⟩ := HF.out (by omega)
      subst hA
      obtain ⟨k, rfl⟩ : ∃ k, j = k + 1 := ⟨j - 1, by omega⟩
      have hcj := hc k (by omega)
      have hdr := unle_drop bs k (by have := HL.out; omega)
      obtain ⟨y, hy⟩ : ∃ y, y = bs.getD k 0 := ⟨_, rfl⟩
      have hyl : y < 256 := by rw [hy]; exact HBB.out _ (getD_mem bs k (by have := HL.out; omega))
      rw [← hy] at hcj hdr
      have hxl := hx (by omega)
      have ej : ((k + 1 : Nat) : Int) - 1 = (k : Int) := by omega
      have hkn : (k : Int) < (n : Int) := by omega
      have e2 : (x : Int) * 256 % 18446744073709551616 = (x : Int) * 256 := by omega
      have e3 : ((x : Int) * 256 + (y : Int)) % 18446744073709551616 = (x : Int) * 256 + (y : Int) := by omega
      have HDR := Lib.hid hdr
      clear hc hy hdr
      go_wp2_with fail
      go_roundw
      case rel =>
        refine ⟨k, x * 256 + y, by omega, by go_num, by go_num, trivial, Lib.hid (by rw [HDR.out, ← HX.out]; omega), fun h => ?_⟩
        have := unle_drop_lt bs HBB.out (by have := HL.out; omega) k h
        rw [HDR.out, ← HX.out] at this
        omega
      case measure => simp [intOf]
    · have HJ : Hid (j = 0) := Lib.hid (by omega)
      go_wp2_with fail
      go_ret2
      refine ⟨?_, rfl⟩
      rw [HX.out, HJ.out]
      rfl
theorem dnum_no (A : Option Addr) (n c k : Nat) (w : World) (h : n < k) (hk : k ≤ 8) :
    Calls Try.prog 129 #[.slice A n c, .int .i64 (k : Nat)] w fun e w' => e = .returned (.tuple #[.int .u64 0, .bool false]) ∧ w = w' := by
  go_enter Try.func129, Try.ntmps129
  go_wp2_with fail
  go_ret2
  exact ⟨rfl, rfl⟩
end Go.Proofs.Ytajkiglogfahfaa
