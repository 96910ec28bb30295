/- What the walks of numbers[N] need: the document's Number over longer bytes, bytes turned over, a book that is kept. -/
import Derived.Test.YtomjmapidjnpbaaGreatSumZ
import Derived.Test.YtomjmapidjnpbaaGreatPutZ
import Derived.Test.YtomjmapidjnpbaaGreatGetZ
import Derived.Test.YtomjmapidjnpbaaGreatKeep
import Derived.Test.YtomjmapidjnpbaaGreatApart
import Derived.Test.YtomjmapidjnpbaaGreatSums
import Derived.Laws.BitsAllLaws
set_option linter.unusedVariables false
set_option linter.unusedSimpArgs false
namespace Go.Proofs.YtomjmapidjnpbaaGreat
open Go.RowKit

theorem unle_drop (bs : List Nat) (j : Nat) (hj : j < bs.length) : Wd.unle (bs.drop j) = bs.getD j 0 + 256 * Wd.unle (bs.drop (j + 1)) := by
  rw [drop_at 0 bs j hj]; rfl
theorem unle_drop_lt (bs : List Nat) (hb : ∀ b ∈ bs, b < 256) (hl : bs.length ≤ 8) (j : Nat) (hj : 1 ≤ j) : Wd.unle (bs.drop j) < 72057594037927936 := by
  have h := Wd.unle_lt (bs.drop j) (fun b hb' => hb b (List.mem_of_mem_drop hb'))
  have : (bs.drop j).length ≤ 7 := by simp; omega
  exact Nat.lt_of_lt_of_le h (Nat.le_trans (Nat.pow_le_pow_right (by decide) this) (by decide))
theorem dnum_no (A : Option Addr) (n c k : Nat) (w : World) (h : n < k) (hk : k ≤ 8) :
    Calls Tryz.prog 28 #[.slice A n c, .int .i64 (k : Nat)] w fun e w' => e = .returned (.tuple #[.int .u64 0, .bool false]) ∧ w = w' := by
  go_enter Tryz.func28, Tryz.ntmps28
  go_wp2_with fail
  go_ret2
  exact ⟨rfl, rfl⟩
theorem getD_take (bs : List Nat) (k i : Nat) (h : i < k) : (bs.take k).getD i 0 = bs.getD i 0 := by
  rw [List.getD_eq_getElem?_getD, List.getD_eq_getElem?_getD, List.getElem?_take_of_lt h]
set_option maxRecDepth 100000 in
set_option maxHeartbeats 1000000 in
theorem dnum_of (A : Option Addr) (m c n : Nat) (bs : List Nat) (w : World) (hb : IsB w w.heap.size A m bs) (h1 : 1 ≤ n) (h8 : n ≤ 8) (hm : n ≤ m) :
    Calls Tryz.prog 28 #[.slice A m c, .int .i64 (n : Nat)] w fun e w' => e = .returned (.tuple #[.int .u64 (Wd.unle (bs.take n) : Nat), .bool true]) ∧ w = w' := by
  obtain ⟨b, off, HF⟩ := hb.form
  have hl := hb.len
  have hm9 := hb.2.2
  have HL : Hid ((bs.take n).length = n) := Lib.hid (by rw [List.length_take]; omega)
  have HBB : Hid (∀ b ∈ bs.take n, b < 256) := Lib.hid (fun b h => hb.2.1 b (List.mem_of_mem_take h))
  have e1 : IntKind.i64.wrap ((n : Int) - 1) = (n : Int) - 1 := by rw [IntKind.wrap_i64]; omega
  clear hb hl
  go_enter Tryz.func28, Tryz.ntmps28
  go_wp2_with fail
  go_loopw [6, 7] (fun v i wr => ∃ (j x : Nat), j ≤ n ∧ i = .int .i64 ((j : Int) - 1) ∧ v = .int .u64 x ∧ wr = w ∧ Hid (x = Wd.unle ((bs.take n).drop j)) ∧ (1 ≤ j → x < 72057594037927936)) (fun _ i _ => (intOf i + 1).toNat)
  case atStart =>
    refine ⟨n, 0, by omega, rfl, rfl, rfl, Lib.hid ?_, by omega⟩
    rw [List.drop_of_length_le (by have := HL.out; omega)]; rfl
  case round =>
    obtain ⟨j, x, hj, rfl, rfl, rfl, HX, hx⟩ := hrel
    by_cases hj0 : 1 ≤ j
    · obtain ⟨hA, hbB, hc⟩ := HF.out (by omega)
      subst hA
      obtain ⟨k, rfl⟩ : ∃ k, j = k + 1 := ⟨j - 1, by omega⟩
      have hcj := hc k (by omega)
      have hdr := unle_drop (bs.take n) k (by have := HL.out; omega)
      obtain ⟨y, hy⟩ : ∃ y, y = (bs.take n).getD k 0 := ⟨_, rfl⟩
      have hyl : y < 256 := by rw [hy]; exact HBB.out _ (getD_mem _ k (by have := HL.out; omega))
      rw [← getD_take bs n k (by omega)] at hcj
      rw [← hy] at hcj hdr
      have hxl := hx (by omega)
      have ej : ((k + 1 : Nat) : Int) - 1 = (k : Int) := by omega
      have hkn : (k : Int) < (m : Int) := by omega
      have e2 : (x : Int) * 256 % 18446744073709551616 = (x : Int) * 256 := by omega
      have e3 : ((x : Int) * 256 + (y : Int)) % 18446744073709551616 = (x : Int) * 256 + (y : Int) := by omega
      have HDR := Lib.hid hdr
      clear hc hy hdr
      go_wp2_with fail
      go_roundw
      case rel =>
        refine ⟨k, x * 256 + y, by omega, by go_num, by go_num, trivial, Lib.hid (by rw [HDR.out, ← HX.out]; omega), fun h => ?_⟩
        have := unle_drop_lt (bs.take n) HBB.out (by have := HL.out; omega) k h
        rw [HDR.out, ← HX.out] at this
        omega
      case measure => simp [intOf]
    · have HJ : Hid (j = 0) := Lib.hid (by omega)
      go_wp2_with fail
      go_ret2
      refine ⟨?_, rfl⟩
      rw [HX.out, HJ.out]
      rfl
theorem xor_step (b c u v : Nat) (hb : b < 256) (hc : c < 256) : (b + 256 * u) ^^^ (c + 256 * v) = (b ^^^ c) + 256 * (u ^^^ v) := by
  have h1 := Nat.xor_mod_two_pow (a := b + 256 * u) (b := c + 256 * v) (n := 8)
  have h2 := Nat.xor_div_two_pow (a := b + 256 * u) (b := c + 256 * v) (n := 8)
  rw [show (2 : Nat) ^ 8 = 256 from rfl] at h1 h2
  rw [show (b + 256 * u) % 256 = b by omega, show (c + 256 * v) % 256 = c by omega] at h1
  rw [show (b + 256 * u) / 256 = u by omega, show (c + 256 * v) / 256 = v by omega] at h2
  have h3 := Nat.div_add_mod ((b + 256 * u) ^^^ (c + 256 * v)) 256
  rw [h1, h2] at h3
  omega
theorem unle_flip (bs : List Nat) (hb : ∀ b ∈ bs, b < 256) : Wd.unle (bs.map (· ^^^ 255)) = Wd.unle bs ^^^ (256 ^ bs.length - 1) := by
  induction bs with
  | nil => rfl
  | cons b r ih =>
    have h1 : 1 ≤ 256 ^ r.length := Nat.one_le_pow _ _ (by omega)
    have e : 256 ^ (b :: r).length - 1 = 255 + 256 * (256 ^ r.length - 1) := by rw [List.length_cons, Nat.pow_succ]; omega
    rw [e]
    simp only [List.map_cons, Wd.unle]
    rw [xor_step b 255 _ _ (hb b (by simp)) (by omega), ih (fun x hx => hb x (by simp [hx]))]
/-- a book, its blocks from B on and none of F -/
def BK (w : World) (B gk : Nat) (F : List Nat) : Prop := ∃ cs S, Bk w gk 0 28 cs S ∧ (∀ k ∈ gk :: S, B ≤ k) ∧ ∀ k ∈ F, k ∉ gk :: S
theorem Bk.lt1 {w : World} {gb off : Nat} {t : TypeId} {cs : List Value} {S : List Nat} (h : Bk w gb off t cs S) : ∀ k ∈ gb :: S, k < w.heap.size := by
  intro k hk
  rcases List.mem_cons.1 hk with rfl | hk
  · exact h.row.lt
  · obtain ⟨xs, L, M, held, SL, SM, _, _, _, _, _, hk2⟩ := h.rest
    exact hk2.lt k hk
theorem BK.below {w w' : World} {B gk : Nat} {F : List Nat} (h : BK w B gk F) (hb : Below w.heap.size w w') : BK w' B gk F := by
  obtain ⟨cs, S, h1, h2, h3⟩ := h
  exact ⟨cs, S, h1.chg (T := []) (Chg.of_below hb) (by simp) (by simp), h2, h3⟩
theorem BK.more {w : World} {B gk : Nat} {F F' : List Nat} (h : BK w B gk F) (hF : ∀ k ∈ F', k ∈ F ∨ w.heap.size ≤ k) : BK w B gk F' := by
  obtain ⟨cs, S, h1, h2, h3⟩ := h
  refine ⟨cs, S, h1, h2, fun k hk hm => ?_⟩
  rcases hF k hk with h4 | h4
  · exact h3 k h4 hm
  · have := h1.lt1 k hm; omega
theorem keep_bk {w0 w : World} {B gk : Nat} {F : List Nat} (h : BK w0 B gk F) (hb : Below w0.heap.size w0 w) (hF : ∀ k ∈ F, k < w0.heap.size) (hB : B ≤ w0.heap.size) {A : Option Addr} {n c : Nat} {bs : List Nat} (ho : Own w w0.heap.size A n c bs) (hn : n ≤ 70368744177664) :
    Calls Tryz.prog 26 #[.pointer (some ⟨gk, 0, none⟩), .slice A n c] w fun e w' => e = .returned (.tuple #[]) ∧ BK w' B gk F ∧ ∃ T, Chg T w w' ∧ (∀ k ∈ T, B ≤ k) ∧ ∀ k ∈ F, k ∉ T := by
  obtain ⟨cs, S, h1, h2, h3⟩ := h
  have hlt := h1.lt1
  refine (keep_any gk 0 _ cs S A n c bs w (h1.chg (T := []) (Chg.of_below hb) (by simp) (by simp)) (ho.mono (Nat.zero_le _)) hn (fun k hk => ?_)).mono ?_
  · have := (ho.1.lt k hk).1
    exact ⟨fun hm => by have := hlt k (List.mem_cons_of_mem _ hm); omega, fun e => by have := hlt gk (by simp); omega⟩
  · rintro e w' ⟨he, cs', S', q1, q2, q3, _⟩
    refine ⟨he, ⟨cs', S', q1, fun k hk => ?_, fun k hk hm => ?_⟩, gk :: S, q2, h2, h3⟩
    · rcases List.mem_cons.1 hk with rfl | hk
      · exact h2 _ (by simp)
      · rcases q3 k hk with h | h | h
        · exact h2 k (by simp [h])
        · have := hb.size; omega
        · have := (ho.1.lt k h).1; omega
    · have hkF := hF k hk
      rcases List.mem_cons.1 hm with rfl | hm
      · exact h3 _ hk (by simp)
      · rcases q3 k hm with h | h | h
        · exact h3 k hk (by simp [h])
        · have := hb.size; omega
        · have := (ho.1.lt k h).1; omega
end Go.Proofs.YtomjmapidjnpbaaGreat
