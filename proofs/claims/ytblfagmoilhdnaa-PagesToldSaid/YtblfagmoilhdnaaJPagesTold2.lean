/- Texts of this claim, one behind the other: Book, Wd, Chg. -/
import Derived.Test.YtblfagmoilhdnaaJPagesTold1
import Derived.Laws.CopyOwn
import Derived.Deep.QuietTactic
import Derived.BigQuiet
import Derived.Deep.OwnRows
/- The walks of the book's small helpers over bytes: Beyond, Same, Roomy, Intact. -/
set_option linter.unusedVariables false
set_option linter.unusedSimpArgs false
namespace Go.Proofs.Ytblfagmoilhdnaa
open Go.RowKit

def i64 (x : Nat) : Value := .int .i64 (x : Int)
/-- are so many, together, above what is left? -/
def beyondL : Nat → List Nat → Bool
  | _, [] => false
  | left, x :: r => if left < x then true else beyondL (left - x) r
theorem form_of {α : Type} (f : α → Value) (d : α) {w : World} {B n : Nat} {A : Option Addr} {xs : List α} (h : Reads w B 1 A n (xs.map f)) :
    xs.length = n ∧ ∃ b off, Hid (0 < n → A = some ⟨b, off, none⟩ ∧ b < B ∧ ∀ k, k < n → w.cell? ⟨b, off + k, none⟩ = some (f (xs.getD k d))) := by
  have hl : xs.length = n := by have := h.1; simpa using this
  refine ⟨hl, ?_⟩
  rcases Nat.eq_zero_or_pos n with h0 | h0
  · exact ⟨0, 0, fun h => absurd h (by omega)⟩
  · obtain ⟨⟨b, off, sp⟩, rfl, hb, hc⟩ := h.2 h0
    have hx : ∀ k, k < n → (xs.map f)[k]? = some (f (xs.getD k d)) := fun k hk => by
      simp [List.getD_eq_getElem?_getD, show k < xs.length by omega]
    have hs : sp = none := by
      have := World.cell?_spot (hc 0 _ (hx 0 h0))
      simpa [Addr.add] using this
    subst hs
    refine ⟨b, off, fun _ => ⟨rfl, hb, fun k hk => ?_⟩⟩
    have := hc k _ (hx k hk)
    unfold Addr.add at this
    split at this
    · rename_i h0; subst h0; simpa using this
    · simpa using this
theorem drop_at {α : Type} (d : α) (xs : List α) (k : Nat) (h : k < xs.length) : xs.drop k = xs.getD k d :: xs.drop (k + 1) := by
  rw [List.drop_eq_getElem_cons h]; simp [List.getD_eq_getElem?_getD, h]

set_option maxHeartbeats 400000 in
theorem beyond_any (A : Option Addr) (n c : Nat) (xs : List Nat) (w : World) (hr : Reads w w.heap.size 1 A n (xs.map i64)) (hn : n ≤ 1000000) (hx : ∀ x ∈ xs, x ≤ 9223372036854775807) :
    Calls Try.prog 9 #[.slice A n c] w fun e w' => e = .returned (.bool (beyondL 2147483647 xs)) ∧ w = w' := by
  obtain ⟨hl, b, off, HF⟩ := form_of i64 0 hr
  have HL := Lib.hid hl; clear hl
  go_enter Try.func9, Try.ntmps9
  go_wp2
  go_loop [3, 4] (fun l i => ∃ j k : Nat, j ≤ n ∧ i = .int .i64 j ∧ k ≤ 2147483647 ∧ l = .int .i64 k ∧ Hid (beyondL k (xs.drop j) = beyondL 2147483647 xs)) (fun _ i => n - (intOf i).toNat)
  case atStart => exact ⟨0, 2147483647, by omega, rfl, by omega, rfl, Lib.hid (by simp)⟩
  case round =>
    obtain ⟨j, k, hj, rfl, hk, rfl, HB⟩ := hrel
    by_cases hjn : j < n
    · obtain ⟨hA, hbB, hc⟩ := HF.out (by omega)
      subst hA
      have hcj := hc j hjn
      have hd := drop_at 0 xs j (by have := HL.out; omega)
      have hxm := hx _ (by rw [List.getD_eq_getElem?_getD]; simp [show j < xs.length by have := HL.out; omega] : xs.getD j 0 ∈ xs)
      obtain ⟨x, hxe⟩ : ∃ x, x = xs.getD j 0 := ⟨_, rfl⟩
      rw [← hxe] at hcj hd hxm
      unfold i64 at hcj
      have HD := Lib.hid hd
      clear hc hd hxe hx
      by_cases hgt : k < x
      · go_wp2
        go_ret
        exact ⟨ret_bool (by rw [← HB.out, HD.out, beyondL, if_pos hgt]), rfl⟩
      · go_wp2
        go_round
        case rel => exact ⟨j + 1, k - x, by omega, by go_num, by omega, by go_num, Lib.hid (by have := HB.out; rw [HD.out, beyondL, if_neg hgt] at this; exact this)⟩
        case measure => simp [intOf]; omega
    · have HJ : Hid (j = n) := Lib.hid (by omega)
      go_wp2
      go_ret
      exact ⟨ret_bool (by rw [← HB.out, HJ.out, List.drop_of_length_le (by have := HL.out; omega)]; rfl), rfl⟩

set_option maxHeartbeats 400000 in
theorem same_any (A A' : Option Addr) (n n' c c' : Nat) (xs ys : List Nat) (w : World) (ha : IsB w w.heap.size A n xs) (hb : IsB w w.heap.size A' n' ys) :
    Calls Try.prog 11 #[.slice A n c, .slice A' n' c'] w fun e w' => e = .returned (.bool (decide (xs = ys))) ∧ ∃ m, w' = w.drewN m := by
  obtain ⟨b, off, HF⟩ := ha.form
  obtain ⟨b', off', HF'⟩ := hb.form
  have HL := Lib.hid ha.len
  have HL' := Lib.hid hb.len
  have hn := ha.2.2
  by_cases hnn : n = n'
  · subst hnn
    have hne : ((n : Int) != (n : Int)) = false := by simp
    go_enter Try.func11, Try.ntmps11
    go_wp2
    go_loopw [5] (fun i wr => ∃ j m : Nat, j ≤ n ∧ i = .int .i64 j ∧ wr = w.drewN m ∧ Hid (xs.take j = ys.take j)) (fun i _ => n - (intOf i).toNat)
    case atStart => exact ⟨0, 0, by omega, rfl, rfl, Lib.hid rfl⟩
    case round =>
      obtain ⟨j, m, hj, rfl, rfl, HE⟩ := hrel
      by_cases hjn : j < n
      · obtain ⟨hA, hbB, hc⟩ := HF.out (by omega)
        obtain ⟨hA', hbB', hc'⟩ := HF'.out (by omega)
        subst hA
        subst hA'
        have hcj := hc j hjn
        have hcj' := hc' j hjn
        have ht := take_snoc xs j (by have := HL.out; omega)
        have ht' := take_snoc ys j (by have := HL'.out; omega)
        have hjl : (j : Int) < (n : Int) := by omega
        obtain ⟨x, hx⟩ : ∃ x, x = xs.getD j 0 := ⟨_, rfl⟩
        obtain ⟨y, hy⟩ : ∃ y, y = ys.getD j 0 := ⟨_, rfl⟩
        rw [← hx] at hcj ht
        rw [← hy] at hcj' ht'
        have HT := Lib.hid ht
        have HT' := Lib.hid ht'
        clear hc hc' ht ht' hx hy
        by_cases hxy : x = y
        · subst hxy
          have hq : ((x : Int) != (x : Int)) = false := by simp
          go_wp2
          go_quiet (fail)
          go_wp2
          go_roundw
          case rel => exact ⟨j + 1, _, by omega, by go_num, rfl, Lib.hid (by rw [HT.out, HT'.out, HE.out])⟩
          case measure => simp [intOf]; omega
        · have hq : ((x : Int) != (y : Int)) = true := by rw [bne_iff_ne]; omega
          have HX := Lib.hid hxy; clear hxy
          go_wp2
          go_quiet (fail)
          go_wp2
          go_ret
          refine ⟨ret_bool (Eq.symm (decide_eq_false fun h => HX.out ?_)), _, by rw [World.drewN_drewN]⟩
          have h1 := HT.out
          rw [h, HT'.out] at h1
          simpa using (List.append_inj_right' h1 rfl).symm
      · have HJ : Hid (j = n) := Lib.hid (by omega)
        go_wp2
        go_ret
        refine ⟨ret_bool (Eq.symm (decide_eq_true ?_)), _, rfl⟩
        have h1 := HE.out
        rw [HJ.out] at h1
        rwa [List.take_of_length_le (by have := HL.out; omega), List.take_of_length_le (by have := HL'.out; omega)] at h1
  · have hne : ((n : Int) != (n' : Int)) = true := by rw [bne_iff_ne]; omega
    have HN := Lib.hid hnn; clear hnn
    go_enter Try.func11, Try.ntmps11
    go_wp2
    go_ret
    exact ⟨ret_bool (Eq.symm (decide_eq_false fun h => HN.out (by rw [← HL.out, ← HL'.out, h]))), 0, rfl⟩

theorem madeCells_one (z : Value) (n : Nat) : madeCells #[z] n = (List.replicate n z).toArray := by
  unfold madeCells
  apply Array.ext
  · simp
  · intro i h1 h2
    simp [Nat.mod_one]
/-- what Roomy fills: the list, k marks, what is not filled yet -/
def fillM (X : List Value) (M : Value) (k : Nat) : List Value := X ++ (List.replicate k M ++ List.replicate (80 - k) (.int .u8 0))
theorem fillM_len (X : List Value) (M : Value) (k : Nat) (hk : k ≤ 80) : (fillM X M k).length = X.length + 80 := by simp [fillM]; omega
theorem fillM_set (X : List Value) (M : Value) (k : Nat) (hk : k < 80) : (fillM X M k).set (X.length + k) M = fillM X M (k + 1) := by
  unfold fillM
  rw [List.set_append_right _ _ (by omega), List.set_append_right _ _ (by simp)]
  congr 1
  rw [show 80 - k = (80 - (k + 1)) + 1 by omega, List.replicate_succ, List.replicate_succ']
  simp
theorem fillM_get (X : List Value) (M : Value) (k : Nat) (hk : k < 80) : (fillM X M k)[X.length + k]? = some (.int .u8 0) := by
  unfold fillM
  rw [List.getElem?_append_right (by omega), List.getElem?_append_right (by simp)]
  have : 80 - k ≠ 0 := by omega
  rw [List.getElem?_replicate, if_pos (by rw [List.length_replicate]; omega)]
theorem fillM_start (X : List Value) (M : Value) : splice (List.replicate (X.length + 80) (.int .u8 0)) 0 X = fillM X M 0 := by
  simp [splice, fillM]
theorem fillM_end (X : List Value) (M : Value) : fillM X M 80 = X ++ List.replicate 80 M := by simp [fillM]
theorem info5 : (Try.prog.info? 5).map (fun i => (i.zero, i.size, i.bytes)) = some (some (.int .u8 0), 1, 1) := by kernel_rfl
theorem size5 : (Try.prog.info? 5).map (·.size) = some 1 := by kernel_rfl

set_option maxRecDepth 100000 in
set_option maxHeartbeats 400000 in
theorem roomy_any (A : Option Addr) (n c : Nat) (bs : List Nat) (m : Nat) (w : World) (ha : IsB w w.heap.size A n bs) (hn : n ≤ 140737488351232) :
    Calls Try.prog 14 #[.slice A n c, .int .u8 (m : Int)] w fun e w' => e = .returned (.slice (some ⟨w.heap.size, 0, none⟩) (n + 80) (n + 80)) ∧ Row w' w.heap.size 5 (fillM (bs.map u8) (u8 m) 80) ∧ Below w.heap.size w w' := by
  have hmk := run_make_row' (P := Try.prog) 25 5 (.int .u8 0) 1 Try.underlying25 info5 rfl .i64 .i64 (n + 80) (by omega) (by omega)
  rw [madeCells_one] at hmk
  rw [show ((n + 80 : Nat) : Int) = (n : Int) + 80 by omega] at hmk
  have HL := Lib.hid ha.len
  obtain ⟨X, hX⟩ : ∃ X, X = bs.map u8 := ⟨_, rfl⟩
  have hXl : X.length = n := by rw [hX]; simpa using ha.len
  obtain ⟨Z, hZ⟩ : ∃ Z : List Value, Z = List.replicate (n + 80) (.int .u8 0) := ⟨_, rfl⟩
  rw [← hZ] at hmk
  have hZl : Z.length = n + 80 := by rw [hZ]; simp
  have hr := ha.1
  rw [← hX] at hr ⊢
  have h1 : ∀ v ∈ X, v.oneCell' = true := by rw [hX]; intro v hv; simp at hv; obtain ⟨b, _, rfl⟩ := hv; rfl
  have HZ := Lib.hid hZ
  have HXl := Lib.hid hXl
  have HZl := Lib.hid hZl
  have H1 := Lib.hid h1
  clear hX hXl hZ hZl h1 ha
  go_enter Try.func14, Try.ntmps14
  go_wp2_with (with_reducible refine wpList_copy_splice rfl (.tmp 11) (.tmp 12) 25 25 rfl 5 Try.underlying25 size5 _ _ _ _ _ _ rfl rfl w.heap.size 0 Z 5 (Row.new w 5 Z).out X ?hn ?hpos ?hfit H1.out w.heap.size w ((Below.refl _ _).alloc (Nat.le_refl _) _) (Nat.le_refl _) ?_; rotate_right; intro w2 HG hb2)
  case hn => rw [HXl.out]; exact (Nat.min_eq_left (by omega)).symm
  case hpos => intro h0; have h2 := hr.alloc (Nat.le_refl _) (.cells Z.toArray 5); obtain ⟨ad, e, _, hc⟩ := h2.2 (by have := HXl.out; omega); first | exact ⟨rfl, ad, e, hc⟩ | exact ⟨ad, e, hc⟩
  case hfit => have := HXl.out; have := HZl.out; omega
  have hrow : Row w2 w.heap.size 5 (fillM X (u8 m) 0) := by
    have h := HG.out
    rw [HZ.out, ← HXl.out, fillM_start] at h
    exact h
  clear HG
  go_wp2
  go_loopw [6] (fun i wr => ∃ k : Nat, k ≤ 80 ∧ i = .int .i64 ((n + k : Nat) : Int) ∧ Row wr w.heap.size 5 (fillM X (u8 m) k) ∧ Below w.heap.size w wr) (fun i _ => n + 80 - (intOf i).toNat)
  case atStart => exact ⟨0, by omega, rfl, hrow, hb2⟩
  case round =>
    obtain ⟨k, hk, rfl, hrw, hbw⟩ := hrel
    by_cases hk8 : k < 80
    · have hc : wr.cell? ⟨w.heap.size, n + k, none⟩ = some (.int .u8 0) := by rw [hrw.cell, ← HXl.out, fillM_get _ _ _ hk8]
      have hf := hrw.frozen (n + k)
      go_wp2
      go_roundw
      case rel => exact ⟨k + 1, by omega, by go_num, by have := hrw.set_ (n + k) (u8 m); rw [← HXl.out, fillM_set _ _ _ hk8, HXl.out] at this; exact this, hbw.setCell (Nat.le_refl _) _⟩
      case measure => simp [intOf]; omega
    · have HK : Hid (k = 80) := Lib.hid (by omega)
      go_wp2
      go_ret
      exact ⟨rfl, by rw [← HK.out]; exact hrw, hbw⟩

theorem same_yes (A A' : Option Addr) (n c c' : Nat) (xs : List Nat) (w : World) (ha : IsB w w.heap.size A n xs) (hb : IsB w w.heap.size A' n xs) :
    Calls Try.prog 11 #[.slice A n c, .slice A' n c'] w fun e w' => e = .returned (.bool true) ∧ ∃ m, w' = w.drewN m := by
  have h := same_any A A' n n c c' xs xs w ha hb
  rwa [decide_eq_true (rfl : xs = xs)] at h
theorem fillM_end_get (X : List Value) (M : Value) (k : Nat) (hk : k < 80) : (fillM X M 80)[X.length + k]? = some M := by
  rw [fillM_end, List.getElem?_append_right (by omega), List.getElem?_replicate, if_pos (by omega)]
theorem fillM_take (X : List Value) (M : Value) : ((fillM X M 80).drop 0).take X.length = X := by
  rw [fillM_end]; simp
theorem room_isB {w : World} {g n m B : Nat} {bs : List Nat} (h : Row w g 5 (fillM (bs.map u8) (u8 m) 80)) (hl : bs.length = n) (hb : ∀ b ∈ bs, b < 256) (hB : g < B) (hn : n ≤ 9223372036854775807) : IsB w B (some ⟨g, 0, none⟩) n bs := by
  refine IsB.of_row h ?_ hl hb hB hn ?_
  · have := fillM_take (bs.map u8) (u8 m)
    rwa [List.length_map, hl] at this
  · rw [fillM_len _ _ _ (by omega)]; simp; omega

set_option maxRecDepth 100000 in
set_option maxHeartbeats 400000 in
theorem intact_yes (A : Option Addr) (n c g : Nat) (bs : List Nat) (m : Nat) (w : World) (ha : IsB w w.heap.size A n bs) (hrow : Row w g 5 (fillM (bs.map u8) (u8 m) 80)) (hn : n ≤ 140737488351232) :
    Calls Try.prog 15 #[.slice (some ⟨g, 0, none⟩) (n + 80) (n + 80), .slice A n c, .int .u8 (m : Int)] w fun e w' => e = .returned (.bool true) ∧ ∃ k, w' = w.drewN k := by
  have HL := Lib.hid ha.len
  have hF := room_isB hrow ha.len ha.2.1 hrow.lt (by omega)
  have hne : (((n : Int) + 80) != ((n : Int) + 80)) = false := by simp
  go_enter Try.func15, Try.ntmps15
  go_wp2_with (go_at_call 11; refine (same_yes _ _ _ _ _ _ _ hF ha).mono ?_; rintro e w' ⟨rfl, m1, rfl⟩)
  go_loopw [7] (fun i wr => ∃ k m2 : Nat, k ≤ 80 ∧ i = .int .i64 ((n + k : Nat) : Int) ∧ wr = w.drewN m2) (fun i _ => n + 80 - (intOf i).toNat)
  case atStart => exact ⟨0, _, by omega, rfl, rfl⟩
  case round =>
    obtain ⟨k, m2, hk, rfl, rfl⟩ := hrel
    by_cases hk8 : k < 80
    · have hc : w.cell? ⟨g, n + k, none⟩ = some (.int .u8 m) := by
        rw [hrow.cell]
        have := fillM_end_get (bs.map u8) (u8 m) k hk8
        rw [List.length_map, HL.out] at this
        exact this
      have hq : ((m : Int) != (m : Int)) = false := by simp
      go_wp2
      go_roundw
      case rel => exact ⟨k + 1, _, by omega, by go_num, rfl⟩
      case measure => simp [intOf]; omega
    · go_wp2
      go_ret
      exact ⟨rfl, _, rfl⟩
end Go.Proofs.Ytblfagmoilhdnaa

/- Plain law of layer 1: numbers as bytes, what a writer lays and a reader takes. No program in sight. -/
set_option linter.unusedVariables false
set_option linter.unusedSimpArgs false
namespace Go.Proofs.Ytblfagmoilhdnaa.Wd
def le : Nat → Nat → List Nat
  | 0, _ => []
  | k + 1, n => n % 256 :: le k (n / 256)
def unle : List Nat → Nat
  | [] => 0
  | b :: r => b + 256 * unle r
theorem le_len (k n : Nat) : (le k n).length = k := by
  induction k generalizing n with
  | zero => rfl
  | succ k ih => simp [le, ih]
theorem le_lt (k n : Nat) : ∀ b ∈ le k n, b < 256 := by
  induction k generalizing n with
  | zero => simp [le]
  | succ k ih =>
    intro b hb
    simp only [le, List.mem_cons] at hb
    rcases hb with rfl | hb
    · omega
    · exact ih _ b hb
theorem unle_le (k n : Nat) : unle (le k n) = n % 256 ^ k := by
  induction k generalizing n with
  | zero => simp [le, unle, Nat.mod_one]
  | succ k ih =>
    simp only [le, unle, ih]
    rw [Nat.pow_succ, Nat.mul_comm (256 ^ k), Nat.mod_mul]
theorem le_unle (bs : List Nat) (h : ∀ b ∈ bs, b < 256) : le bs.length (unle bs) = bs := by
  induction bs with
  | nil => rfl
  | cons b r ih =>
    have hb := h b (by simp)
    simp only [List.length_cons, le, unle]
    rw [show (b + 256 * unle r) % 256 = b by omega, show (b + 256 * unle r) / 256 = unle r by omega, ih (fun x hx => h x (by simp [hx]))]
theorem unle_lt (bs : List Nat) (h : ∀ b ∈ bs, b < 256) : unle bs < 256 ^ bs.length := by
  induction bs with
  | nil => simp [unle]
  | cons b r ih =>
    have hb := h b (by simp)
    have := ih (fun x hx => h x (by simp [hx]))
    simp only [List.length_cons, unle, Nat.pow_succ]
    omega
theorem le_succ (k n : Nat) : le (k + 1) n = le k n ++ [n / 256 ^ k % 256] := by
  induction k generalizing n with
  | zero => simp [le]
  | succ k ih =>
    rw [le, ih (n / 256)]
    simp only [le, List.cons_append, Nat.div_div_eq_div_mul, Nat.pow_succ]
    rw [Nat.mul_comm 256]
theorem unle_append (a b : List Nat) : unle (a ++ b) = unle a + 256 ^ a.length * unle b := by
  induction a with
  | nil => simp [unle]
  | cons x r ih => simp only [List.cons_append, unle, ih, List.length_cons, Nat.pow_succ]; rw [Nat.mul_add, Nat.add_assoc, ← Nat.mul_assoc, Nat.mul_comm (256 ^ r.length) 256]
def gap (at_ align : Nat) : Nat := (align - at_ % align) % align
/-- a writer: what it has, its first refusal -/
structure W where
  b : List Nat
  e : Nat
deriving DecidableEq
def W.lay (s : W) (x : List Nat) : W := if s.e = 0 then ⟨s.b ++ x, 0⟩ else s
def W.text (s : W) (t : List Nat) : W := if s.e = 0 then (if t.length < 65536 then ⟨s.b ++ le 2 t.length ++ t, 0⟩ else ⟨s.b, 3⟩) else s
def W.pad (s : W) (al : Int) : W := if s.e = 0 then (if 1 ≤ al ∧ al ≤ 4096 then ⟨s.b ++ List.replicate (gap s.b.length al.toNat) 0, 0⟩ else ⟨s.b, 1⟩) else s
def W.sealUp (s : W) (fr : Int) : W := if s.e = 0 then (if 0 ≤ fr ∧ fr ≤ s.b.length then ⟨s.b ++ le 4 (Crc.more 0 (s.b.drop fr.toNat)), 0⟩ else ⟨s.b, 1⟩) else s
/-- a reader: its bytes, its place, its first refusal -/
structure R where
  b : List Nat
  at_ : Nat
  e : Nat
deriving DecidableEq
/-- the next n bytes, skip of them left out: there they are, or the reader is refused -/
def R.next (s : R) (skip n : Nat) : R × Option (List Nat) :=
  if s.e ≠ 0 then (s, none) else if s.b.length < s.at_ + skip + n then (⟨s.b, s.at_, 10⟩, none) else (s, some ((s.b.drop (s.at_ + skip)).take n))
def R.take (s : R) (k : Nat) : R × Nat := match s.next 0 k with
  | (s', none) => (s', 0)
  | (s', some x) => (⟨s'.b, s'.at_ + k, s'.e⟩, unle x)
def R.bytes (s : R) (n : Int) : R × List Nat :=
  if s.e ≠ 0 then (s, []) else if n < 0 then (⟨s.b, s.at_, 1⟩, []) else match s.next 0 n.toNat with
  | (s', none) => (s', [])
  | (s', some x) => (⟨s'.b, s'.at_ + n.toNat, s'.e⟩, x)
def R.text (s : R) (most : Int) : R × List Nat := match s.next 0 2 with
  | (s', none) => (s', [])
  | (s', some x) => if most < (unle x : Int) then (⟨s'.b, s'.at_, 3⟩, []) else match s'.next 2 (unle x) with
    | (s'', none) => (s'', [])
    | (s'', some y) => (⟨s''.b, s''.at_ + 2 + unle x, s''.e⟩, y)
def R.pad (s : R) (al : Int) : R :=
  if s.e ≠ 0 then s else if 1 ≤ al ∧ al ≤ 4096 then match s.next 0 (gap s.at_ al.toNat) with
    | (s', none) => s'
    | (s', some x) => if x.all (· == 0) then ⟨s'.b, s'.at_ + x.length, s'.e⟩ else ⟨s'.b, s'.at_, 5⟩
  else ⟨s.b, s.at_, 1⟩
def R.sealUp (s : R) (fr : Int) : R :=
  if s.e ≠ 0 then s else if 0 ≤ fr ∧ fr ≤ s.at_ then match s.next 0 4 with
    | (s', none) => s'
    | (s', some x) => if unle x = Crc.more 0 ((s'.b.take s'.at_).drop fr.toNat) then ⟨s'.b, s'.at_ + 4, s'.e⟩ else ⟨s'.b, s'.at_, 11⟩
  else ⟨s.b, s.at_, 1⟩
def R.end_ (s : R) : Nat := if s.e = 0 ∧ s.at_ < s.b.length then 12 else s.e
end Go.Proofs.Ytblfagmoilhdnaa.Wd

/- Frames: what has changed is, at most, some blocks. -/
set_option linter.unusedVariables false
set_option linter.unusedSimpArgs false
namespace Go.Proofs.Ytblfagmoilhdnaa
open Go.RowKit

/-- nothing that was there has changed but, at most, these blocks -/
structure Chg (S : List Nat) (w w' : World) : Prop where
  os : w'.os = w.os
  tape : w'.tape = w.tape
  output : w'.output = w.output
  size : w.heap.size ≤ w'.heap.size
  block : ∀ k, k < w.heap.size → k ∉ S → w'.heap[k]? = w.heap[k]?
theorem Chg.refl (S : List Nat) (w : World) : Chg S w w := ⟨rfl, rfl, rfl, Nat.le_refl _, fun _ _ _ => rfl⟩
theorem Chg.of_below {S : List Nat} {w w' : World} (h : Below w.heap.size w w') : Chg S w w' := ⟨h.os, h.tape, h.output, h.size, fun k hk _ => h.block k hk⟩
theorem Chg.trans {S S' : List Nat} {a b c : World} (h : Chg S a b) (k : Chg S' b c) (hs : ∀ x ∈ S', x ∈ S ∨ a.heap.size ≤ x) : Chg S a c :=
  ⟨k.os.trans h.os, k.tape.trans h.tape, k.output.trans h.output, Nat.le_trans h.size k.size, fun i hi hn => (k.block i (Nat.lt_of_lt_of_le hi h.size) (fun hm => by rcases hs i hm with h1 | h1; exact hn h1; omega)).trans (h.block i hi hn)⟩
theorem Chg.below {S : List Nat} {B : Nat} {w w' : World} (h : Chg S w w') (hB : B ≤ w.heap.size) (hS : ∀ x ∈ S, B ≤ x) : Below B w w' :=
  ⟨h.os, h.tape, h.output, h.size, fun k hk => h.block k (by omega) (fun hm => by have := hS k hm; omega)⟩
theorem Chg.row {S : List Nat} {w w' : World} {g : Nat} {t : TypeId} {cs : List Value} (h : Chg S w w') (hr : Row w g t cs) (hg : g ∉ S) : Row w' g t cs := (h.block g hr.lt hg).trans hr
theorem Chg.set_ {S : List Nat} {a w : World} (h : Chg S a w) {p : Addr} (hp : p.block ∈ S ∨ a.heap.size ≤ p.block) (u : Value) : Chg S a (w.setCell p u) :=
  ⟨h.os, h.tape, h.output, by simpa [World.setCell] using h.size, fun i hi hn => (Below.heap_setCell w p u i (fun e => by subst e; rcases hp with h1 | h1; exact hn h1; omega)).trans (h.block i hi hn)⟩
theorem Chg.alloc {S : List Nat} {a w : World} (h : Chg S a w) (o : Obj) : Chg S a (w.alloc o) :=
  ⟨h.os, h.tape, h.output, Nat.le_trans h.size (by simp), fun i hi hn => (Below.heap_alloc w o i (Nat.lt_of_lt_of_le hi h.size)).trans (h.block i hi hn)⟩
theorem Chg.drewN {S : List Nat} {a w : World} (h : Chg S a w) (n : Nat) : Chg S a (w.drewN n) := ⟨h.os, h.tape, h.output, h.size, h.block⟩
theorem Chg.drew {S : List Nat} {a w : World} (h : Chg S a w) : Chg S a w.drew := ⟨h.os, h.tape, h.output, h.size, h.block⟩
/-- the row that something owns now: the one that it had, or a new one -/
def Moved (w : World) (r r' : Option Nat) : Prop := r' = r ∨ ∃ k, r' = some k ∧ w.heap.size ≤ k
theorem Moved.refl (w : World) (r : Option Nat) : Moved w r r := .inl rfl
theorem below_chg {B : Nat} {S : List Nat} {a w w' : World} (h : Below B a w) (hB : B ≤ a.heap.size) (hc : Chg S w w') (hS : ∀ x ∈ S, B ≤ x) : Below B a w' := h.trans (hc.below (Nat.le_trans hB h.size) hS)
theorem moved_ge {w : World} {B : Nat} {r r' : Option Nat} (h : Moved w r r') (hr : ∀ x ∈ r.toList, B ≤ x) (hB : B ≤ w.heap.size) : ∀ x ∈ r'.toList, B ≤ x := by
  rcases h with rfl | ⟨k, rfl, hk⟩
  · exact hr
  · intro x hx
    simp at hx
    omega
end Go.Proofs.Ytblfagmoilhdnaa
