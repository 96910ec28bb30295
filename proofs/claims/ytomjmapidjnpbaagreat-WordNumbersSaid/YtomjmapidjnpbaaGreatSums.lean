/- The walk of bulkheadlaw1.WordSums: it returns true, whatever the two lists and the sum; nothing that was there is written. -/
import Derived.Test.YtomjmapidjnpbaaGreatMore
import Derived.Test.YtomjmapidjnpbaaGreatBook
set_option linter.unusedVariables false
set_option linter.unusedSimpArgs false
namespace Go.Proofs.YtomjmapidjnpbaaGreat
open Go.RowKit

/-- the list behind j rounds: the first j turned by f -/
def stF (f : Nat → Nat) (bs : List Nat) (j : Nat) : List Nat := (bs.take j).map f ++ bs.drop j
theorem stF_len (f : Nat → Nat) (bs : List Nat) (j : Nat) : (stF f bs j).length = bs.length := by simp [stF]; omega
theorem stF_zero (f : Nat → Nat) (bs : List Nat) : stF f bs 0 = bs := by simp [stF]
theorem stF_all (f : Nat → Nat) (bs : List Nat) (j : Nat) (h : bs.length ≤ j) : stF f bs j = bs.map f := by
  unfold stF; rw [List.take_of_length_le h, List.drop_of_length_le h]; simp
theorem stF_get (f : Nat → Nat) (bs : List Nat) (j : Nat) (h : j < bs.length) : (stF f bs j)[j]? = some (bs.getD j 0) := by
  unfold stF
  rw [List.getElem?_append_right (by simp; omega)]
  simp [List.getD_eq_getElem?_getD, h, Nat.min_eq_left (Nat.le_of_lt h)]
theorem stF_set (f : Nat → Nat) (bs : List Nat) (j : Nat) (h : j < bs.length) : (stF f bs j).set j (f (bs.getD j 0)) = stF f bs (j + 1) := by
  unfold stF
  rw [List.set_append_right _ _ (by simp; omega)]
  have e : j - ((bs.take j).map f).length = 0 := by simp; omega
  rw [e, drop_at 0 bs j h, List.set_cons_zero, take_snoc bs j h]
  simp
theorem cur_get {cur : List Value} {f : Nat → Nat} {bs : List Nat} {n j : Nat} (hl : bs.length = n) (hj : j < n) (hc : cur.take n = (stF f bs j).map u8) : cur[j]? = some (u8 (bs.getD j 0)) := by
  have h : (cur.take n)[j]? = some (u8 (bs.getD j 0)) := by rw [hc, List.getElem?_map, stF_get f bs j (by omega)]; rfl
  rwa [List.getElem?_take_of_lt hj] at h
theorem cur_set {cur : List Value} {f : Nat → Nat} {bs : List Nat} {n j : Nat} (hl : bs.length = n) (hj : j < n) (hc : cur.take n = (stF f bs j).map u8) :
    (cur.set j (u8 (f (bs.getD j 0)))).take n = (stF f bs (j + 1)).map u8 := by
  rw [List.take_set, hc, ← stF_set f bs j (by omega), List.map_set]

theorem info5' : ∃ i0, Tryz.prog.info? 5 = some i0 ∧ i0.zero = some (.int .u8 0) ∧ i0.size = 1 ∧ i0.bytes = 1 := info_parts info5
theorem one_u8 (bs : List Nat) : ∀ v ∈ bs.map u8, v.oneCell' = true := by intro v hv; simp at hv; obtain ⟨b, _, rfl⟩ := hv; rfl

theorem beyond2 {L a b : Nat} (h : beyondL L [a, b] = false) : a + b ≤ L := by
  unfold beyondL at h
  split at h
  · cases h
  · unfold beyondL at h
    split at h
    · cases h
    · omega
theorem lens2 (w : World) (a b : Nat) : Reads (w.alloc (.cells #[.int .i64 (a : Nat), .int .i64 (b : Nat)] 3)) (w.alloc (.cells #[.int .i64 (a : Nat), .int .i64 (b : Nat)] 3)).heap.size 1 (some ⟨w.heap.size, 0, none⟩) 2 ([a, b].map i64) :=
  (Row.new w 3 [i64 a, i64 b]).reads 0 2 (by simp) (Row.new w 3 [i64 a, i64 b]).lt
theorem beyond_two (w : World) (a b : Nat) (ha : a ≤ 9223372036854775807) (hb : b ≤ 9223372036854775807) (r : Bool) (hr : beyondL 2147483647 [a, b] = r) :
    Calls Tryz.prog 4 #[.slice (some ⟨w.heap.size, 0, none⟩) 2 2] (w.alloc (.cells #[.int .i64 (a : Nat), .int .i64 (b : Nat)] 3)) fun e w' => e = .returned (.bool r) ∧ w.alloc (.cells #[.int .i64 (a : Nat), .int .i64 (b : Nat)] 3) = w' := by
  rw [← hr]
  refine beyond_any _ _ _ [a, b] _ (lens2 w a b) (by omega) ?_
  intro x hx
  simp at hx
  omega
/-- behind j rounds: both lists have their first j bytes turned -/
def Turned (wr : World) (g : Nat) (A : Option Addr) (n : Nat) (bs : List Nat) (j : Nat) : Prop :=
  (∃ cur, Row wr g 5 cur ∧ n ≤ cur.length ∧ cur.take n = (stF (· ^^^ 90) bs j).map u8) ∧
  (0 < n → ∃ g' cur', A = some ⟨g', 0, none⟩ ∧ g < g' ∧ Row wr g' 5 cur' ∧ n ≤ cur'.length ∧ cur'.take n = (stF (· ^^^ 90) bs j).map u8)
theorem turned_start {w0 w1 : World} {g n c : Nat} {A : Option Addr} {bs : List Nat} (hl : bs.length = n) (hrow : Row w1 g 5 (fillM (bs.map u8) (u8 165) 80)) (hg : g < w0.heap.size) (hn : NewSl w0 w1 5 1 A n c (bs.map u8)) : Turned w1 g A n bs 0 := by
  refine ⟨⟨_, hrow, ?_, ?_⟩, fun h0 => ?_⟩
  · rw [fillM_len _ _ _ (by omega)]; simp; omega
  · have := fillM_take (bs.map u8) (u8 165)
    rw [List.length_map, hl, List.drop_zero] at this
    rw [this, stF_zero]
  · rcases hn.1.2 with ⟨_, e⟩ | ⟨g', cap, cur, hv, _, hh, hnc, _, hsz, hcur⟩
    · omega
    · injection hv with hA _ _
      refine ⟨g', cur.toList, hA, ?_, by unfold Row; simpa using hh, by simp; omega, ?_⟩
      · have h4 := hn.2.2.2
        rw [hA] at h4
        simp [Value.ownBlock] at h4
        omega
      · rw [stF_zero]; simpa using hcur
theorem turned_round {wr : World} {g n j : Nat} {A : Option Addr} {bs : List Nat} (hl : bs.length = n) (hj : j < n) (h : Turned wr g A n bs j) : ∃ g', A = some ⟨g', 0, none⟩ ∧ g < g' ∧
    wr.cell? ⟨g', j, none⟩ = some (.int .u8 (bs.getD j 0 : Nat)) ∧ wr.frozen? ⟨g', j, none⟩ = false ∧ wr.cell? ⟨g, j, none⟩ = some (.int .u8 (bs.getD j 0 : Nat)) ∧ wr.frozen? ⟨g, j, none⟩ = false ∧
    Turned ((wr.setCell ⟨g', j, none⟩ (.int .u8 ((bs.getD j 0 ^^^ 90 : Nat) : Int))).setCell ⟨g, j, none⟩ (.int .u8 ((bs.getD j 0 ^^^ 90 : Nat) : Int))) g A n bs (j + 1) := by
  obtain ⟨⟨cur, hr, hlen, hc⟩, h2⟩ := h
  obtain ⟨g', cur', hA, hgg, hr', hlen', hc'⟩ := h2 (by omega)
  refine ⟨g', hA, hgg, ?_, hr'.frozen j, ?_, hr.frozen j, ?_, fun _ => ?_⟩
  · rw [hr'.cell, cur_get hl hj hc']; rfl
  · rw [hr.cell, cur_get hl hj hc]; rfl
  · refine ⟨_, (hr.far (p := ⟨g', j, none⟩) (by show g ≠ g'; omega) _).set_ j _, ?_, cur_set (f := (· ^^^ 90)) hl hj hc⟩
    simpa using hlen
  · refine ⟨g', _, hA, hgg, (hr'.set_ j _).far (p := ⟨g, j, none⟩) (by show g' ≠ g; omega) _, ?_, cur_set (f := (· ^^^ 90)) hl hj hc'⟩
    simpa using hlen'
theorem flip_lt (bs : List Nat) (h : ∀ b ∈ bs, b < 256) : ∀ b ∈ bs.map (· ^^^ 90), b < 256 := by
  intro b hb
  obtain ⟨x, hx, rfl⟩ := List.mem_map.1 hb
  exact Nat.xor_lt_two_pow (n := 8) (h x hx) (by decide)
theorem turned_end {wr : World} {g n c : Nat} {A : Option Addr} {bs : List Nat} (hl : bs.length = n) (hb : ∀ b ∈ bs, b < 256) (hn : n ≤ 9223372036854775807) (h : Turned wr g A n bs n) :
    IsB wr wr.heap.size (some ⟨g, 0, none⟩) n (bs.map (· ^^^ 90)) ∧ IsB wr wr.heap.size A n (bs.map (· ^^^ 90)) := by
  obtain ⟨⟨cur, hr, hlen, hc⟩, h2⟩ := h
  rw [stF_all _ _ _ (by omega)] at hc
  refine ⟨IsB.of_row hr (by simpa using hc) (by simpa using hl) (flip_lt bs hb) hr.lt hn (by omega), ?_⟩
  rcases Nat.eq_zero_or_pos n with h0 | h0
  · subst h0
    obtain rfl : bs = [] := List.eq_nil_of_length_eq_zero hl
    exact ⟨⟨by simp, fun h => absurd h (by omega)⟩, by simp, by omega⟩
  · obtain ⟨g', cur', rfl, _, hr', hlen', hc'⟩ := h2 h0
    rw [stF_all _ _ _ (by omega)] at hc'
    exact IsB.of_row hr' (by simpa using hc') (by simpa using hl) (flip_lt bs hb) hr'.lt hn (by omega)

end Go.Proofs.YtomjmapidjnpbaaGreat
