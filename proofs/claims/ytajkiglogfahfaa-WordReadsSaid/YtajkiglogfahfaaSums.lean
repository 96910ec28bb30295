/- The walk of bulkheadlaw1.WordSums: it returns true, whatever the two lists and the sum; nothing that was there is written. -/
import Derived.Test.YtajkiglogfahfaaMore
import Derived.Test.YtajkiglogfahfaaBook
set_option linter.unusedVariables false
set_option linter.unusedSimpArgs false
namespace Go.Proofs.Ytajkiglogfahfaa
open Go.RowKit

/-- the list behind j rounds: the first j turned by f -/
def stF (f : Nat → Nat) (bs : List Nat) (j : Nat) : List Nat := (bs.take j).map f ++ bs.drop j
theorem stF_len (f : Nat → Nat) (bs : List Nat) (j : Nat) : (stF f bs j).length = bs.length := by simp [stF]; omega
theorem stF_zero (f : Nat → Nat) (bs : List Nat) : stF f bs 0 = bs := by simp [stF]
theorem stF_all (f : Nat → Nat) (bs : List Nat) (j : Nat) (h : bs.length ≤ j) : stF f bs j = bs.map f := by
  unfold stF; rw [List.take_of_length_le h, List.drop_of_length_le h]; simp
theorem stF_get (f : Nat → Nat) (bs : List Nat) (j : Nat) (h : j < bs.length) : (stF f bs j)[j]? = some (bs.getD j 0) := by
  unfold stF
  rw [List.getElem?_append_right (by simp; omega)]
  simp [List.getD_eq_getElem?_getD, h, Nat.min_eq_left (Nat.le_of_lt h)]
theorem stF_set (f : Nat → Nat) (bs : List Nat) (j : Nat) (h : j < bs.length) : (stF f bs j).set j (f (bs.getD j 0)) = stF f bs (j + 1) := by
  unfold stF
  rw [List.set_append_right _ _ (by simp; omega)]
  have e : j - ((bs.take j).map f).length = 0 := by simp; omega
  rw [e, drop_at 0 bs j h, List.set_cons_zero, take_snoc bs j h]
  simp
theorem cur_get {cur : List Value} {f : Nat → Nat} {bs : List Nat} {n j : Nat} (hl : bs.length = n) (hj : j < n) (hc : cur.take n = (stF f bs j).map u8) : cur[j]? = some (u8 (bs.getD j 0)) := by
  have h : (cur.take n)[j]? = some (u8 (bs.getD j 0)) := by rw [hc, List.getElem?_map, stF_get f bs j (by omega)]; rfl
  rwa [List.getElem?_take_of_lt hj] at h
theorem cur_set {cur : List Value} {f : Nat → Nat} {bs : List Nat} {n j : Nat} (hl : bs.length = n) (hj : j < n) (hc : cur.take n = (stF f bs j).map u8) :
    (cur.set j (u8 (f (bs.getD j 0)))).take n = (stF f bs (j + 1)).map u8 := by
  rw [List.take_set, hc, ← stF_set f bs j (by omega), List.map_set]

theorem info5' : ∃ i0, Try.prog.info? 5 = some i0 ∧ i0.zero = some (.int .u8 0) ∧ i0.size = 1 ∧ i0.bytes = 1 := info_parts info5
theorem one_u8 (bs : List Nat) : ∀ v ∈ bs.map u8, v.oneCell' = true := by intro v hv; simp at hv; obtain ⟨b, _, rfl⟩ := hv; rfl

theorem beyond2 {L a b : Nat} (h : beyondL L [a, b] = false) : a + b ≤ L := by
  unfold beyondL at h
  split at h
  · cases h
  · unfold beyondL at h
    split at h
    · cases h
    · omega
theorem lens2 (w : World) (a b : Nat) : Reads (w.alloc (.cells #[.int .i64 (a : Nat), .int .i64 (b : Nat)] 3)) (w.alloc (.cells #[.int .i64 (a : Nat), .int .i64 (b : Nat)] 3)).heap.size 1 (some ⟨w.heap.size, 0, none⟩) 2 ([a, b].map i64) :=
  (Row.new w 3 [i64 a, i64 b]).reads 0 2 (by simp) (Row.new w 3 [i64 a, i64 b]).lt
theorem beyond_two (w : World) (a b : Nat) (ha : a ≤ 9223372036854775807) (hb : b ≤ 9223372036854775807) (r : Bool) (hr : beyondL 2147483647 [a, b] = r) :
    Calls Try.prog 12 #[.slice (some ⟨w.heap.size, 0, none⟩) 2 2] (w.alloc (.cells #[.int .i64 (a : Nat), .int .i64 (b : Nat)] 3)) fun e w' => e = .returned (.bool r) ∧ w.alloc (.cells #[.int .i64 (a : Nat), .int .i64 (b : Nat)] 3) = w' := by
  rw [← hr]
  refine beyond_any _ _ _ [a, b] _ (lens2 w a b) (by omega) ?_
  intro x hx
  simp at hx
  omega
set_option maxRecDepth 100000 in
set_option maxHeartbeats 400000 in
theorem sums_far (A0 A1 : Option Addr) (n0 c0 n1 c1 : Nat) (ps qs : List Nat) (s : Nat) (w : World) (hp : IsB w w.heap.size A0 n0 ps) (hq : IsB w w.heap.size A1 n1 qs) (hbe : beyondL 2147483647 [n0, n1] = true) :
    Calls Try.prog 3 #[.slice A0 n0 c0, .slice A1 n1 c1, .int .u32 (s : Int)] w fun e w' => e = .returned (.bool true) ∧ Below w.heap.size w w' := by
  have HB := Lib.hid (beyond_two w n0 n1 hp.2.2 hq.2.2 true hbe)
  clear hp hq hbe
  go_enter Try.func3, Try.ntmps3
  go_wp2_with fail
  refine HB.out.mono ?_
  rintro e w' ⟨rfl, rfl⟩
  go_wp2_with fail
  go_ret
  exact ⟨rfl, (Below.refl _ _).alloc (Nat.le_refl _) _⟩
theorem crc_zero_byte (w : World) :
    Calls Try.prog 14 #[.slice (some ⟨w.heap.size, 0, none⟩) 1 1] (w.alloc (.cells #[.int .u8 0] 5)) fun e w' => e = .returned (.int .u32 1383945041) ∧ Below (w.alloc (.cells #[.int .u8 0] 5)).heap.size (w.alloc (.cells #[.int .u8 0] 5)) w' := by
  have h := crc_any (some ⟨w.heap.size, 0, none⟩) 1 1 [0] (w.alloc (.cells #[.int .u8 0] 5)) (IsB.of_row (cs := [.int .u8 0]) (Row.new w 5 [.int .u8 0]) rfl rfl (by simp) (Row.new w 5 [.int .u8 0]).lt (by omega) (by simp))
  rwa [show Crc.more 0 [0] = 1383945041 from Crc.more_zero] at h

/-- behind j rounds: both lists have their first j bytes turned -/
def Turned (wr : World) (g : Nat) (A : Option Addr) (n : Nat) (bs : List Nat) (j : Nat) : Prop :=
  (∃ cur, Row wr g 5 cur ∧ n ≤ cur.length ∧ cur.take n = (stF (· ^^^ 90) bs j).map u8) ∧
  (0 < n → ∃ g' cur', A = some ⟨g', 0, none⟩ ∧ g < g' ∧ Row wr g' 5 cur' ∧ n ≤ cur'.length ∧ cur'.take n = (stF (· ^^^ 90) bs j).map u8)
theorem turned_start {w0 w1 : World} {g n c : Nat} {A : Option Addr} {bs : List Nat} (hl : bs.length = n) (hrow : Row w1 g 5 (fillM (bs.map u8) (u8 165) 80)) (hg : g < w0.heap.size) (hn : NewSl w0 w1 5 1 A n c (bs.map u8)) : Turned w1 g A n bs 0 := by
  refine ⟨⟨_, hrow, ?_, ?_⟩, fun h0 => ?_⟩
  · rw [fillM_len _ _ _ (by omega)]; simp; omega
  · have := fillM_take (bs.map u8) (u8 165)
    rw [List.length_map, hl, List.drop_zero] at this
    rw [this, stF_zero]
  · rcases hn.1.2 with ⟨_, e⟩ | ⟨g', cap, cur, hv, _, hh, hnc, _, hsz, hcur⟩
    · omega
    · injection hv with hA _ _
      refine ⟨g', cur.toList, hA, ?_, by unfold Row; simpa using hh, by simp; omega, ?_⟩
      · have h4 := hn.2.2.2
        rw [hA] at h4
        simp [Value.ownBlock] at h4
        omega
      · rw [stF_zero]; simpa using hcur
theorem turned_round {wr : World} {g n j : Nat} {A : Option Addr} {bs : List Nat} (hl : bs.length = n) (hj : j < n) (h : Turned wr g A n bs j) : ∃ g', A = some ⟨g', 0, none⟩ ∧ g < g' ∧
    wr.cell? ⟨g', j, none⟩ = some (.int .u8 (bs.getD j 0 : Nat)) ∧ wr.frozen? ⟨g', j, none⟩ = false ∧ wr.cell? ⟨g, j, none⟩ = some (.int .u8 (bs.getD j 0 : Nat)) ∧ wr.frozen? ⟨g, j, none⟩ = false ∧
    Turned ((wr.setCell ⟨g', j, none⟩ (.int .u8 ((bs.getD j 0 ^^^ 90 : Nat) : Int))).setCell ⟨g, j, none⟩ (.int .u8 ((bs.getD j 0 ^^^ 90 : Nat) : Int))) g A n bs (j + 1) := by
  obtain ⟨⟨cur, hr, hlen, hc⟩, h2⟩ := h
  obtain ⟨g', cur', hA, hgg, hr', hlen', hc'⟩ := h2 (by omega)
  refine ⟨g', hA, hgg, ?_, hr'.frozen j, ?_, hr.frozen j, ?_, fun _ => ?_⟩
  · rw [hr'.cell, cur_get hl hj hc']; rfl
  · rw [hr.cell, cur_get hl hj hc]; rfl
  · refine ⟨_, (hr.far (p := ⟨g', j, none⟩) (by show g ≠ g'; omega) _).set_ j _, ?_, cur_set (f := (· ^^^ 90)) hl hj hc⟩
    simpa using hlen
  · refine ⟨g', _, hA, hgg, (hr'.set_ j _).far (p := ⟨g, j, none⟩) (by show g' ≠ g; omega) _, ?_, cur_set (f := (· ^^^ 90)) hl hj hc'⟩
    simpa using hlen'
theorem flip_lt (bs : List Nat) (h : ∀ b ∈ bs, b < 256) : ∀ b ∈ bs.map (· ^^^ 90), b < 256 := by
  intro b hb
  obtain ⟨x, hx, rfl⟩ := List.mem_map.1 hb
  exact Nat.xor_lt_two_pow (n := 8) (h x hx) (by decide)
theorem turned_end {wr : World} {g n c : Nat} {A : Option Addr} {bs : List Nat} (hl : bs.length = n) (hb : ∀ b ∈ bs, b < 256) (hn : n ≤ 9223372036854775807) (h : Turned wr g A n bs n) :
    IsB wr wr.heap.size (some ⟨g, 0, none⟩) n (bs.map (· ^^^ 90)) ∧ IsB wr wr.heap.size A n (bs.map (· ^^^ 90)) := by
  obtain ⟨⟨cur, hr, hlen, hc⟩, h2⟩ := h
  rw [stF_all _ _ _ (by omega)] at hc
  refine ⟨IsB.of_row hr (by simpa using hc) (by simpa using hl) (flip_lt bs hb) hr.lt hn (by omega), ?_⟩
  rcases Nat.eq_zero_or_pos n with h0 | h0
  · subst h0
    obtain rfl : bs = [] := List.eq_nil_of_length_eq_zero hl
    exact ⟨⟨by simp, fun h => absurd h (by omega)⟩, by simp, by omega⟩
  · obtain ⟨g', cur', rfl, _, hr', hlen', hc'⟩ := h2 h0
    rw [stF_all _ _ _ (by omega)] at hc'
    exact IsB.of_row hr' (by simpa using hc') (by simpa using hl) (flip_lt bs hb) hr'.lt hn (by omega)

set_option maxRecDepth 100000 in
set_option maxHeartbeats 1000000 in
theorem sums_near (A0 A1 : Option Addr) (n0 c0 n1 c1 : Nat) (ps qs : List Nat) (s : Nat) (w : World) (hp : IsB w w.heap.size A0 n0 ps) (hq : IsB w w.heap.size A1 n1 qs) (hs : s < 4294967296) (hbe : beyondL 2147483647 [n0, n1] = false) :
    Calls Try.prog 3 #[.slice A0 n0 c0, .slice A1 n1 c1, .int .u32 (s : Int)] w fun e w' => e = .returned (.bool true) ∧ Below w.heap.size w w' := by
  have HB := Lib.hid (beyond_two w n0 n1 hp.2.2 hq.2.2 false hbe)
  have hn := beyond2 hbe
  have HS := Lib.hid hs
  have HP := Lib.hid hp
  have HQ := Lib.hid hq
  have HL := Lib.hid hp.len
  have hb0 : Below w.heap.size w (w.alloc (.cells #[.int .i64 (n0 : Nat), .int .i64 (n1 : Nat)] 3)) := (Below.refl _ _).alloc (Nat.le_refl _) _
  obtain ⟨W0, hW0⟩ : ∃ W0, W0 = w.alloc (.cells #[.int .i64 (n0 : Nat), .int .i64 (n1 : Nat)] 3) := ⟨_, rfl⟩
  rw [← hW0] at hb0
  have hz0 : w.heap.size < W0.heap.size := by rw [hW0]; exact (Row.new w 3 [i64 n0, i64 n1]).lt
  have HB0 := Lib.hid hb0
  have HZ0 := Lib.hid hz0
  have HW0 := Lib.hid hW0
  obtain ⟨i0, hi0, hz1, hz2, hz3⟩ := info5'
  have HI := Lib.hid hi0; have HZ1 := Lib.hid hz1; have HZ2 := Lib.hid hz2; have HZ3 := Lib.hid hz3
  clear hp hq hbe hb0 hz0 hW0 hs hi0 hz1 hz2 hz3
  go_enter Try.func3, Try.ntmps3
  go_wp2_with fail
  refine HB.out.mono ?_
  rintro e w' ⟨rfl, h⟩
  rw [← HW0.out] at h
  subst h
  clear HB HW0
  have HP0 := Lib.hid (HP.out.below HB0.out)
  go_wp2_with fail
  refine (roomy_any A0 n0 c0 ps 165 W0 (HP0.out.more (Nat.le_of_lt HZ0.out)) (by omega)).mono ?_
  rintro e w2 ⟨rfl, hrow2, hb2⟩
  obtain ⟨g, hg⟩ : ∃ g, g = W0.heap.size := ⟨_, rfl⟩
  rw [← hg] at hrow2 ⊢
  have HROW2 := Lib.hid hrow2
  have HB2 := Lib.hid (HB0.out.trans (hb2.mono (Nat.le_of_lt HZ0.out)))
  have HG := Lib.hid (hg ▸ HZ0.out : w.heap.size < g)
  clear hg hrow2 hb2
  go_wp2_with fail
  refine (crc_any (some ⟨g, 0, none⟩) n0 (n0 + 80) ps w2 (room_isB HROW2.out HL.out HP.out.2.1 HROW2.out.lt (by omega))).mono ?_
  rintro e w3 ⟨rfl, hb3⟩
  have HROW3 := Lib.hid (HROW2.out.below hb3 HROW2.out.lt)
  have HB3 := Lib.hid (HB2.out.trans (hb3.mono (Nat.le_of_lt (Nat.lt_trans HG.out HROW2.out.lt))))
  have HG3 := Lib.hid (Nat.lt_trans HG.out HROW3.out.lt)
  clear hb3 HROW2 HB2
  obtain ⟨x1, hx1⟩ : ∃ x1, x1 = Crc.more 0 ps := ⟨_, rfl⟩
  rw [← hx1]
  have HX1 := Lib.hid hx1; clear hx1
  go_wp2_with fail
  refine (rcrc_any A0 n0 c0 ps w3 ((HP.out.below HB3.out).more (Nat.le_of_lt HG3.out))).mono ?_
  rintro e w4 ⟨rfl, rfl⟩
  rw [← HX1.out]
  have hq1 : ((x1 : Int) != (x1 : Int)) = false := by simp
  go_wp2_with fail
  obtain ⟨x2, hx2⟩ : ∃ x2, x2 = Crc.more 0 (ps ++ qs) := ⟨_, rfl⟩
  have HX2 := Lib.hid hx2; clear hx2
  refine (more_any x1 A1 n1 c1 qs w3 (by rw [HX1.out]; exact Crc.more_lt _ (by decide) HP.out.2.1) ((HQ.out.below HB3.out).more (Nat.le_of_lt HG3.out))).mono ?_
  rintro e w4 ⟨rfl, hb4⟩
  have HROW4 := Lib.hid (HROW3.out.below hb4 HROW3.out.lt)
  have HB4 := Lib.hid (HB3.out.trans (hb4.mono (Nat.le_of_lt HG3.out)))
  have HG4 := Lib.hid (Nat.lt_trans HG.out HROW4.out.lt)
  rw [HX1.out, Crc.more_append, ← HX2.out, ← HX1.out]
  clear hb4 HROW3 HB3 HG3
  have HP4 := Lib.hid ((HP.out.below HB4.out).more (Nat.le_of_lt HG4.out))
  have HQ4 := Lib.hid ((HQ.out.below HB4.out).more (Nat.le_of_lt HG4.out))
  go_wp2_with (first
    | (at_builtin; refine wpList_append_nil _ rfl (.const (.slice none 0 0)) (.tmp 32) _ rfl 5 i0 _ 1 1 Try.underlying22 HI.out HZ1.out HZ2.out HZ3.out rfl (by omega) rfl w4.heap.size A0 n0 c0 (ps.map u8) rfl HP4.out.1 (one_u8 ps) (by simp only [maxLen]; omega) (by omega) ?_; intro A5 c5 w5 HN5)
    | (at_builtin; refine wpList_append_more _ rfl (.tmp 33) (.tmp 34) _ rfl w4.heap.size 5 i0 _ 1 1 Try.underlying22 HI.out HZ1.out HZ2.out HZ3.out rfl (by omega) _ _ _ _ rfl HN5.out.1 w4.heap.size A1 n1 c1 (qs.map u8) rfl (HQ4.out.1.below HN5.out.below) (one_u8 qs) (by simp only [maxLen]; omega) (by omega) HN5.out.below.size ?_; intro A6 c6 w6 HN6))
  have HB6 := Lib.hid (HB4.out.trans ((HN5.out.below.trans HN6.out.2.2).mono (Nat.le_of_lt HG4.out)))
  have HROW6 := Lib.hid (HROW4.out.below (HN5.out.below.trans HN6.out.2.2) HROW4.out.lt)
  have HG6 := Lib.hid (Nat.lt_trans HG.out HROW6.out.lt)
  have HPQ : Hid (IsB w6 w6.heap.size A6 (n0 + n1) (ps ++ qs)) := Lib.hid ⟨by rw [List.map_append]; exact HN6.out.2.1, by
    intro b hb; rcases List.mem_append.1 hb with h | h
    · exact HP.out.2.1 b h
    · exact HQ.out.2.1 b h, by omega⟩
  clear HN5 HN6 HP4 HQ4 HROW4 HB4 HG4
  refine (rcrc_any A6 (n0 + n1) c6 (ps ++ qs) w6 HPQ.out).mono ?_
  rintro e w7 ⟨rfl, rfl⟩
  rw [← HX2.out]
  have hq2 : ((x2 : Int) != (x2 : Int)) = false := by simp
  go_wp2_with fail
  have hs := HS.out
  obtain ⟨x3, hx3⟩ : ∃ x3, x3 = Crc.more s ps := ⟨_, rfl⟩
  have HX3 := Lib.hid hx3; clear hx3
  refine (more_any s (some ⟨g, 0, none⟩) n0 (n0 + 80) ps w6 hs (room_isB HROW6.out HL.out HP.out.2.1 HROW6.out.lt (by omega))).mono ?_
  rintro e w7 ⟨rfl, hb7⟩
  rw [← HX3.out]
  have HROW7 := Lib.hid (HROW6.out.below hb7 HROW6.out.lt)
  have HB7 := Lib.hid (HB6.out.trans (hb7.mono (Nat.le_of_lt HG6.out)))
  have HG7 := Lib.hid (Nat.lt_trans HG.out HROW7.out.lt)
  clear hb7 HROW6 HB6 HG6 HPQ
  go_wp2_with fail
  refine (rmore_any s A0 n0 c0 ps w7 hs ((HP.out.below HB7.out).more (Nat.le_of_lt HG7.out))).mono ?_
  rintro e w8 ⟨rfl, rfl⟩
  rw [← HX3.out]
  have hq3 : ((x3 : Int) != (x3 : Int)) = false := by simp
  go_wp2_with fail
  refine (intact_yes A0 n0 c0 g ps 165 w7 ((HP.out.below HB7.out).more (Nat.le_of_lt HG7.out)) HROW7.out (by omega)).mono ?_
  rintro e w8 ⟨rfl, m8, rfl⟩
  have HP7 := Lib.hid ((HP.out.below HB7.out).more (Nat.le_of_lt HG7.out))
  go_wp2_with (at_builtin; refine wpList_append_nil _ rfl (.const (.slice none 0 0)) (.tmp 57) _ rfl 5 i0 _ 1 1 Try.underlying22 HI.out HZ1.out HZ2.out HZ3.out rfl (by omega) rfl w7.heap.size A0 n0 c0 (ps.map u8) rfl (HP7.out.1.drewN m8) (one_u8 ps) (by simp only [maxLen]; omega) (by omega) ?_; intro A9 c9 w9 HN9)
  have hbn := HN9.out.below
  have HB9 := Lib.hid ((below_drewN HB7.out m8).trans (hbn.mono (by exact Nat.le_of_lt HG7.out)))
  have HROW9 := Lib.hid ((HROW7.out.drewN m8).below hbn (HROW7.out.drewN m8).lt)
  have HGG := Lib.hid HROW7.out.lt
  clear hbn HROW7 HB7 HP7
  have HT9 := Lib.hid (turned_start (w0 := w7.drewN m8) HL.out HROW9.out HGG.out HN9.out)
  clear HROW9 HN9
  have hn0' : n0 ≤ 2147483647 := by omega
  go_loopw [10] (fun i wr => ∃ j : Nat, j ≤ n0 ∧ i = .int .i64 j ∧ Hid (Turned wr g A9 n0 ps j) ∧ Hid (Below w.heap.size w wr)) (fun i _ => n0 - (intOf i).toNat)
  case atStart => exact ⟨0, by omega, rfl, HT9, HB9⟩
  case round =>
    obtain ⟨j, hj, rfl, HT, HBr⟩ := hrel
    by_cases hjn : j < n0
    · obtain ⟨g', hA, hgg, h1, h2, h3, h4, h5⟩ := turned_round HL.out hjn HT.out
      subst hA
      have hx := HP.out.2.1 _ (getD_mem ps j (by have := HL.out; omega))
      obtain ⟨x, hxe⟩ : ∃ x, x = ps.getD j 0 := ⟨_, rfl⟩
      rw [← hxe] at h1 h3 h5 hx
      have e := u8_xor_nat x 90 hx (by decide)
      obtain ⟨y, hy⟩ : ∃ y, y = x ^^^ 90 := ⟨_, rfl⟩
      rw [← hy] at e h5
      have e' : bits .xor .u8 (x : Int) 90 = (y : Int) := e
      have H5 := Lib.hid h5
      clear h5 e hy hxe
      go_wp2
      go_roundw
      case rel => exact ⟨j + 1, by omega, by go_num, H5, Lib.hid ((HBr.out.setCell (by have := HG.out; show w.heap.size ≤ g'; omega) _).setCell (by have := HG.out; show w.heap.size ≤ g; omega) _)⟩
      case measure => simp [intOf]; omega
    · have hjn' : j = n0 := by omega
      have HT' := HT.out
      rw [hjn'] at HT'
      have hend := turned_end (c := 0) HL.out HP.out.2.1 (by omega) HT'
      have HE1 := Lib.hid hend.1
      have HE2 := Lib.hid hend.2
      have HGr : Hid (w.heap.size < wr.heap.size) := Lib.hid (by obtain ⟨⟨cur, hr, _⟩, _⟩ := HT'; exact Nat.lt_trans HG.out hr.lt)
      clear HT HT' hend hjn'
      go_wp2_with fail
      refine (crc_any (some ⟨g, 0, none⟩) n0 (n0 + 80) _ wr HE1.out).mono ?_
      rintro e wa ⟨rfl, hba⟩
      obtain ⟨y1, hy1⟩ : ∃ x1, x1 = Crc.more 0 (ps.map (· ^^^ 90)) := ⟨_, rfl⟩
      rw [← hy1]
      have HY1 := Lib.hid hy1; clear hy1
      have HEa1 := Lib.hid ((HE1.out.below hba).more hba.size)
      have HEa2 := Lib.hid ((HE2.out.below hba).more hba.size)
      have HBa := Lib.hid (HBr.out.trans (hba.mono (Nat.le_of_lt HGr.out)))
      have HGa := Lib.hid (Nat.lt_of_lt_of_le HGr.out hba.size)
      clear hba HE1 HE2 HBr HGr
      go_wp2_with fail
      refine (rcrc_any A9 n0 c9 _ wa HEa2.out).mono ?_
      rintro e wb ⟨rfl, rfl⟩
      rw [← HY1.out]
      have hq4 : ((y1 : Int) == (y1 : Int)) = true := by simp
      go_wp2_with fail
      obtain ⟨y2, hy2⟩ : ∃ x1, x1 = Crc.more s (ps.map (· ^^^ 90)) := ⟨_, rfl⟩
      have HY2 := Lib.hid hy2; clear hy2
      refine (more_any s (some ⟨g, 0, none⟩) n0 (n0 + 80) _ wa hs HEa1.out).mono ?_
      rintro e wb ⟨rfl, hbb⟩
      rw [← HY2.out]
      have HEb2 := Lib.hid ((HEa2.out.below hbb).more hbb.size)
      have HBb := Lib.hid (HBa.out.trans (hbb.mono (Nat.le_of_lt HGa.out)))
      have HGb := Lib.hid (Nat.lt_of_lt_of_le HGa.out hbb.size)
      clear hbb HEa1 HEa2 HBa HGa
      go_wp2_with fail
      refine (rmore_any s A9 n0 c9 _ wb hs HEb2.out).mono ?_
      rintro e wc ⟨rfl, rfl⟩
      rw [← HY2.out]
      have hq5 : ((y2 : Int) == (y2 : Int)) = true := by simp
      go_wp2_with fail
      refine (crc_zero_byte wb).mono ?_
      rintro e wd ⟨rfl, hbd⟩
      have HBd : Hid (Below w.heap.size w wd) := Lib.hid ((HBb.out.alloc (Nat.le_of_lt HGb.out) _).trans (hbd.mono (by have := HGb.out; simp; omega)))
      clear hbd
      go_wp2_with fail
      go_ret
      exact ⟨rfl, HBd.out⟩
end Go.Proofs.Ytajkiglogfahfaa
