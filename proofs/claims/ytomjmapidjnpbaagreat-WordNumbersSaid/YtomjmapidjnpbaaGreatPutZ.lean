/- PutZ: the same for number types of one's own. -/
import Derived.Test.YtomjmapidjnpbaaGreatPut
set_option linter.unusedVariables false
set_option linter.unusedSimpArgs false
namespace Go.Proofs.YtomjmapidjnpbaaGreat
open Go.RowKit

set_option maxRecDepth 100000 in
set_option maxHeartbeats 1000000 in
theorem width_Tiny (w : World) : Calls Tryz.prog 108 #[] w fun e w' => e = .returned (.int .i64 1) ∧ w = w' := by
  go_enter Tryz.func108, Tryz.ntmps108
  go_wp2
  go_loop [1, 2] (fun n x => (x = .int .u8 255 ∧ n = .int .i64 0) ∨ (x = .int .u8 0 ∧ n = .int .i64 1)) (fun n _ => 1 - (intOf n).toNat)
  case atStart => exact .inl ⟨congrArg (Value.int _) (by decide), rfl⟩
  case round =>
    rcases hrel with ⟨rfl, rfl⟩ | ⟨rfl, rfl⟩
    all_goals
      go_wp2
      first
        | (go_ret; exact ⟨rfl, rfl⟩)
        | (go_round
           case rel => simp
           case measure => simp [intOf])

set_option maxRecDepth 100000 in
set_option maxHeartbeats 1000000 in
theorem put_Tiny (A : Option Addr) (m c : Nat) (bs : List Nat) (n : Nat) (w : World) (ha : IsB w w.heap.size A m bs) (hm : m ≤ 140737488351232) (hn : n < 256) :
    Calls Tryz.prog 40 #[.slice A m c, .int .u8 (n : Nat)] w fun e w' => (∃ g c', e = .returned (.slice (some ⟨g, 0, none⟩) (m + 1) c') ∧ Own w' w.heap.size (some ⟨g, 0, none⟩) (m + 1) c' (bs ++ Wd.le 1 n)) ∧ Below w.heap.size w w' := by
  have hmk := run_make_rowN' (P := Tryz.prog) 23 5 (.int .u8 0) 1 Tryz.underlying23 info5w rfl .i64 .i64 m (m + 8) (by omega) (by omega) (by omega)
  rw [madeCells_onew] at hmk
  rw [show ((m + 8 : Nat) : Int) = (m : Int) + 8 by omega] at hmk
  have HBS := Lib.hid ha.2.1
  have HL := Lib.hid ha.len
  obtain ⟨X, hX⟩ : ∃ X, X = bs.map u8 := ⟨_, rfl⟩
  have hXl : X.length = m := by rw [hX]; simpa using ha.len
  obtain ⟨Z, hZ⟩ : ∃ Z : List Value, Z = List.replicate (m + 8) (.int .u8 0) := ⟨_, rfl⟩
  rw [← hZ] at hmk
  have hZl : Z.length = m + 8 := by rw [hZ]; simp
  have hr := ha.1
  rw [← hX] at hr
  have h1 : ∀ v ∈ X, v.oneCell' = true := by rw [hX]; exact one_u8w bs
  have HX := Lib.hid hX
  have HXl := Lib.hid hXl
  have HZl := Lib.hid hZl
  have H1 := Lib.hid h1
  have HR := Lib.hid hr
  obtain ⟨i0, hi0, hz1, hz2, hz3⟩ := info_parts info5w
  have HI := Lib.hid hi0; have HZ2 := Lib.hid hz2
  have ew : IntKind.u64.wrap (n : Int) = (n : Int) := by rw [IntKind.wrap_u64]; omega
  have HN := Lib.hid hn
  clear hX hXl hZ hZl h1 ha hr hi0 hz1 hz2 hz3 hn
  go_enter Tryz.func40, Tryz.ntmps40
  go_wp2_with (first
    | (go_at_call 108; refine (width_Tiny _).mono ?_; rintro e w' ⟨rfl, rfl⟩)
    | (with_reducible refine wpList_copy_splice rfl (.tmp 13) (.tmp 14) 23 23 rfl 5 Tryz.underlying23 size5w _ _ _ _ _ _ rfl rfl w.heap.size 0 Z 5 (Row.new w 5 Z).out X ?hn ?hpos ?hfit H1.out w.heap.size w ((Below.refl _ _).alloc (Nat.le_refl _) _) (Nat.le_refl _) ?_; rotate_right; intro w2 HG hb2))
  case hn => rw [HXl.out]; exact (Nat.min_eq_left (Nat.le_refl _)).symm
  case hpos => intro h0; have h2 := HR.out.alloc (Nat.le_refl _) (.cells Z.toArray 5); obtain ⟨ad, e, _, hc⟩ := h2.2 (by have := HXl.out; omega); first | exact ⟨rfl, ad, e, hc⟩ | exact ⟨ad, e, hc⟩
  case hfit => have := HXl.out; have := HZl.out; omega
  have hown : w2.ownsRow w.heap.size 5 1 (.slice (some ⟨w.heap.size, 0, none⟩) m (m + 8)) m X := own_of_splice HG.out HXl.out HZl.out (by unfold maxLen; omega)
  have HOWN := Lib.hid hown
  have HB2 := Lib.hid hb2
  clear hown hb2 HG hmk
  go_loopw [5, 17] (fun v i wr => ∃ j : Nat, j ≤ 1 ∧ i = .int .i64 j ∧ v = .slice (some ⟨w.heap.size, 0, none⟩) (m + j) (m + 8) ∧ Hid (wr.ownsRow w.heap.size 5 1 (.slice (some ⟨w.heap.size, 0, none⟩) (m + j) (m + 8)) (m + j) ((bs ++ Wd.le j n).map u8)) ∧ Hid (Below w.heap.size w wr)) (fun _ i _ => 1 - (intOf i).toNat)
  case atStart => exact ⟨0, by omega, rfl, rfl, Lib.hid (by rw [Wd.le, List.append_nil, ← HX.out]; exact HOWN.out), HB2⟩
  case round =>
    obtain ⟨j, hj, rfl, rfl, HO, HBr⟩ := hrel
    by_cases hjn : j < 1
    · obtain ⟨y, hy⟩ : ∃ y, y = n / 256 ^ j % 256 := ⟨_, rfl⟩
      obtain ⟨s, hs⟩ : ∃ s, s = n / 256 ^ j := ⟨_, rfl⟩
      have e1 : (n : Int) / 2 ^ (8 * j) = (s : Int) := by
        rw [hs, show (256 : Nat) = 2 ^ 8 from rfl, ← Nat.pow_mul]
        norm_cast
      have e2 : IntKind.u8.wrap (s : Int) = (y : Int) := by rw [hy, ← hs]; simp [IntKind.wrap, IntKind.bits, IntKind.signed]
      have HY := Lib.hid hy
      clear hy hs
      go_wp2_with (at_builtin; refine wpList_append_fits _ rfl (.tmp 20) (.tmp 27) 23 rfl w.heap.size 5 i0 1 Tryz.underlying23 HI.out HZ2.out w.heap.size (m + j) (m + 8) _ rfl (HO.out.alloc _) ⟨wr.heap.size, 0, none⟩ 1 1 [.int .u8 (y : Int)] rfl rfl (cell_one_new _ _ _) (ints_oneCell .u8 [(y : Int)]) (by omega) ?_; intro w3 hown3 hg3; have HO3 := Lib.hid hown3; have HG3 := Lib.hid hg3; clear hown3 hg3)
      have hb3 : Below w.heap.size w w3 := ((HBr.out.alloc HBr.out.size (.cells #[.int .u8 (y : Int)] 5)).grown HG3.out (Nat.le_trans HBr.out.size (by simp)) (fun k hk => by simp at hk; omega))
      have HB3 := Lib.hid hb3
      clear hb3
      go_roundw
      case rel => exact ⟨j + 1, by omega, by go_num, rfl, Lib.hid (by have h := HO3.out; rw [Wd.le_succ, ← List.append_assoc, List.map_append, ← HY.out]; exact h), HB3⟩
      case measure => simp [intOf]; omega
    · have HJ : Hid (j = 1) := Lib.hid (by omega)
      go_wp2_with fail
      go_ret
      have hjj := HJ.out
      subst hjj
      exact ⟨⟨w.heap.size, _, rfl, HO.out, (by
        intro b hb
        rcases List.mem_append.1 hb with h | h
        · exact HBS.out b h
        · exact Wd.le_lt _ _ b h), by omega⟩, HBr.out⟩

set_option maxRecDepth 100000 in
set_option maxHeartbeats 1000000 in
theorem width_Small (w : World) : Calls Tryz.prog 113 #[] w fun e w' => e = .returned (.int .i64 2) ∧ w = w' := by
  go_enter Tryz.func113, Tryz.ntmps113
  go_wp2
  go_loop [1, 2] (fun n x => (x = .int .u16 65535 ∧ n = .int .i64 0) ∨ (x = .int .u16 255 ∧ n = .int .i64 1) ∨ (x = .int .u16 0 ∧ n = .int .i64 2)) (fun n _ => 2 - (intOf n).toNat)
  case atStart => exact .inl ⟨congrArg (Value.int _) (by decide), rfl⟩
  case round =>
    rcases hrel with ⟨rfl, rfl⟩ | ⟨rfl, rfl⟩ | ⟨rfl, rfl⟩
    all_goals
      go_wp2
      first
        | (go_ret; exact ⟨rfl, rfl⟩)
        | (go_round
           case rel => simp
           case measure => simp [intOf])

set_option maxRecDepth 100000 in
set_option maxHeartbeats 1000000 in
theorem put_Small (A : Option Addr) (m c : Nat) (bs : List Nat) (n : Nat) (w : World) (ha : IsB w w.heap.size A m bs) (hm : m ≤ 140737488351232) (hn : n < 65536) :
    Calls Tryz.prog 43 #[.slice A m c, .int .u16 (n : Nat)] w fun e w' => (∃ g c', e = .returned (.slice (some ⟨g, 0, none⟩) (m + 2) c') ∧ Own w' w.heap.size (some ⟨g, 0, none⟩) (m + 2) c' (bs ++ Wd.le 2 n)) ∧ Below w.heap.size w w' := by
  have hmk := run_make_rowN' (P := Tryz.prog) 23 5 (.int .u8 0) 1 Tryz.underlying23 info5w rfl .i64 .i64 m (m + 8) (by omega) (by omega) (by omega)
  rw [madeCells_onew] at hmk
  rw [show ((m + 8 : Nat) : Int) = (m : Int) + 8 by omega] at hmk
  have HBS := Lib.hid ha.2.1
  have HL := Lib.hid ha.len
  obtain ⟨X, hX⟩ : ∃ X, X = bs.map u8 := ⟨_, rfl⟩
  have hXl : X.length = m := by rw [hX]; simpa using ha.len
  obtain ⟨Z, hZ⟩ : ∃ Z : List Value, Z = List.replicate (m + 8) (.int .u8 0) := ⟨_, rfl⟩
  rw [← hZ] at hmk
  have hZl : Z.length = m + 8 := by rw [hZ]; simp
  have hr := ha.1
  rw [← hX] at hr
  have h1 : ∀ v ∈ X, v.oneCell' = true := by rw [hX]; exact one_u8w bs
  have HX := Lib.hid hX
  have HXl := Lib.hid hXl
  have HZl := Lib.hid hZl
  have H1 := Lib.hid h1
  have HR := Lib.hid hr
  obtain ⟨i0, hi0, hz1, hz2, hz3⟩ := info_parts info5w
  have HI := Lib.hid hi0; have HZ2 := Lib.hid hz2
  have ew : IntKind.u64.wrap (n : Int) = (n : Int) := by rw [IntKind.wrap_u64]; omega
  have HN := Lib.hid hn
  clear hX hXl hZ hZl h1 ha hr hi0 hz1 hz2 hz3 hn
  go_enter Tryz.func43, Tryz.ntmps43
  go_wp2_with (first
    | (go_at_call 113; refine (width_Small _).mono ?_; rintro e w' ⟨rfl, rfl⟩)
    | (with_reducible refine wpList_copy_splice rfl (.tmp 13) (.tmp 14) 23 23 rfl 5 Tryz.underlying23 size5w _ _ _ _ _ _ rfl rfl w.heap.size 0 Z 5 (Row.new w 5 Z).out X ?hn ?hpos ?hfit H1.out w.heap.size w ((Below.refl _ _).alloc (Nat.le_refl _) _) (Nat.le_refl _) ?_; rotate_right; intro w2 HG hb2))
  case hn => rw [HXl.out]; exact (Nat.min_eq_left (Nat.le_refl _)).symm
  case hpos => intro h0; have h2 := HR.out.alloc (Nat.le_refl _) (.cells Z.toArray 5); obtain ⟨ad, e, _, hc⟩ := h2.2 (by have := HXl.out; omega); first | exact ⟨rfl, ad, e, hc⟩ | exact ⟨ad, e, hc⟩
  case hfit => have := HXl.out; have := HZl.out; omega
  have hown : w2.ownsRow w.heap.size 5 1 (.slice (some ⟨w.heap.size, 0, none⟩) m (m + 8)) m X := own_of_splice HG.out HXl.out HZl.out (by unfold maxLen; omega)
  have HOWN := Lib.hid hown
  have HB2 := Lib.hid hb2
  clear hown hb2 HG hmk
  go_loopw [5, 17] (fun v i wr => ∃ j : Nat, j ≤ 2 ∧ i = .int .i64 j ∧ v = .slice (some ⟨w.heap.size, 0, none⟩) (m + j) (m + 8) ∧ Hid (wr.ownsRow w.heap.size 5 1 (.slice (some ⟨w.heap.size, 0, none⟩) (m + j) (m + 8)) (m + j) ((bs ++ Wd.le j n).map u8)) ∧ Hid (Below w.heap.size w wr)) (fun _ i _ => 2 - (intOf i).toNat)
  case atStart => exact ⟨0, by omega, rfl, rfl, Lib.hid (by rw [Wd.le, List.append_nil, ← HX.out]; exact HOWN.out), HB2⟩
  case round =>
    obtain ⟨j, hj, rfl, rfl, HO, HBr⟩ := hrel
    by_cases hjn : j < 2
    · obtain ⟨y, hy⟩ : ∃ y, y = n / 256 ^ j % 256 := ⟨_, rfl⟩
      obtain ⟨s, hs⟩ : ∃ s, s = n / 256 ^ j := ⟨_, rfl⟩
      have e1 : (n : Int) / 2 ^ (8 * j) = (s : Int) := by
        rw [hs, show (256 : Nat) = 2 ^ 8 from rfl, ← Nat.pow_mul]
        norm_cast
      have e2 : IntKind.u8.wrap (s : Int) = (y : Int) := by rw [hy, ← hs]; simp [IntKind.wrap, IntKind.bits, IntKind.signed]
      have HY := Lib.hid hy
      clear hy hs
      go_wp2_with (at_builtin; refine wpList_append_fits _ rfl (.tmp 20) (.tmp 27) 23 rfl w.heap.size 5 i0 1 Tryz.underlying23 HI.out HZ2.out w.heap.size (m + j) (m + 8) _ rfl (HO.out.alloc _) ⟨wr.heap.size, 0, none⟩ 1 1 [.int .u8 (y : Int)] rfl rfl (cell_one_new _ _ _) (ints_oneCell .u8 [(y : Int)]) (by omega) ?_; intro w3 hown3 hg3; have HO3 := Lib.hid hown3; have HG3 := Lib.hid hg3; clear hown3 hg3)
      have hb3 : Below w.heap.size w w3 := ((HBr.out.alloc HBr.out.size (.cells #[.int .u8 (y : Int)] 5)).grown HG3.out (Nat.le_trans HBr.out.size (by simp)) (fun k hk => by simp at hk; omega))
      have HB3 := Lib.hid hb3
      clear hb3
      go_roundw
      case rel => exact ⟨j + 1, by omega, by go_num, rfl, Lib.hid (by have h := HO3.out; rw [Wd.le_succ, ← List.append_assoc, List.map_append, ← HY.out]; exact h), HB3⟩
      case measure => simp [intOf]; omega
    · have HJ : Hid (j = 2) := Lib.hid (by omega)
      go_wp2_with fail
      go_ret
      have hjj := HJ.out
      subst hjj
      exact ⟨⟨w.heap.size, _, rfl, HO.out, (by
        intro b hb
        rcases List.mem_append.1 hb with h | h
        · exact HBS.out b h
        · exact Wd.le_lt _ _ b h), by omega⟩, HBr.out⟩

set_option maxRecDepth 100000 in
set_option maxHeartbeats 1000000 in
theorem width_Plain (w : World) : Calls Tryz.prog 118 #[] w fun e w' => e = .returned (.int .i64 4) ∧ w = w' := by
  go_enter Tryz.func118, Tryz.ntmps118
  go_wp2
  go_loop [1, 2] (fun n x => (x = .int .u32 4294967295 ∧ n = .int .i64 0) ∨ (x = .int .u32 16777215 ∧ n = .int .i64 1) ∨ (x = .int .u32 65535 ∧ n = .int .i64 2) ∨ (x = .int .u32 255 ∧ n = .int .i64 3) ∨ (x = .int .u32 0 ∧ n = .int .i64 4)) (fun n _ => 4 - (intOf n).toNat)
  case atStart => exact .inl ⟨congrArg (Value.int _) (by decide), rfl⟩
  case round =>
    rcases hrel with ⟨rfl, rfl⟩ | ⟨rfl, rfl⟩ | ⟨rfl, rfl⟩ | ⟨rfl, rfl⟩ | ⟨rfl, rfl⟩
    all_goals
      go_wp2
      first
        | (go_ret; exact ⟨rfl, rfl⟩)
        | (go_round
           case rel => simp
           case measure => simp [intOf])

set_option maxRecDepth 100000 in
set_option maxHeartbeats 1000000 in
theorem put_Plain (A : Option Addr) (m c : Nat) (bs : List Nat) (n : Nat) (w : World) (ha : IsB w w.heap.size A m bs) (hm : m ≤ 140737488351232) (hn : n < 4294967296) :
    Calls Tryz.prog 46 #[.slice A m c, .int .u32 (n : Nat)] w fun e w' => (∃ g c', e = .returned (.slice (some ⟨g, 0, none⟩) (m + 4) c') ∧ Own w' w.heap.size (some ⟨g, 0, none⟩) (m + 4) c' (bs ++ Wd.le 4 n)) ∧ Below w.heap.size w w' := by
  have hmk := run_make_rowN' (P := Tryz.prog) 23 5 (.int .u8 0) 1 Tryz.underlying23 info5w rfl .i64 .i64 m (m + 8) (by omega) (by omega) (by omega)
  rw [madeCells_onew] at hmk
  rw [show ((m + 8 : Nat) : Int) = (m : Int) + 8 by omega] at hmk
  have HBS := Lib.hid ha.2.1
  have HL := Lib.hid ha.len
  obtain ⟨X, hX⟩ : ∃ X, X = bs.map u8 := ⟨_, rfl⟩
  have hXl : X.length = m := by rw [hX]; simpa using ha.len
  obtain ⟨Z, hZ⟩ : ∃ Z : List Value, Z = List.replicate (m + 8) (.int .u8 0) := ⟨_, rfl⟩
  rw [← hZ] at hmk
  have hZl : Z.length = m + 8 := by rw [hZ]; simp
  have hr := ha.1
  rw [← hX] at hr
  have h1 : ∀ v ∈ X, v.oneCell' = true := by rw [hX]; exact one_u8w bs
  have HX := Lib.hid hX
  have HXl := Lib.hid hXl
  have HZl := Lib.hid hZl
  have H1 := Lib.hid h1
  have HR := Lib.hid hr
  obtain ⟨i0, hi0, hz1, hz2, hz3⟩ := info_parts info5w
  have HI := Lib.hid hi0; have HZ2 := Lib.hid hz2
  have ew : IntKind.u64.wrap (n : Int) = (n : Int) := by rw [IntKind.wrap_u64]; omega
  have HN := Lib.hid hn
  clear hX hXl hZ hZl h1 ha hr hi0 hz1 hz2 hz3 hn
  go_enter Tryz.func46, Tryz.ntmps46
  go_wp2_with (first
    | (go_at_call 118; refine (width_Plain _).mono ?_; rintro e w' ⟨rfl, rfl⟩)
    | (with_reducible refine wpList_copy_splice rfl (.tmp 13) (.tmp 14) 23 23 rfl 5 Tryz.underlying23 size5w _ _ _ _ _ _ rfl rfl w.heap.size 0 Z 5 (Row.new w 5 Z).out X ?hn ?hpos ?hfit H1.out w.heap.size w ((Below.refl _ _).alloc (Nat.le_refl _) _) (Nat.le_refl _) ?_; rotate_right; intro w2 HG hb2))
  case hn => rw [HXl.out]; exact (Nat.min_eq_left (Nat.le_refl _)).symm
  case hpos => intro h0; have h2 := HR.out.alloc (Nat.le_refl _) (.cells Z.toArray 5); obtain ⟨ad, e, _, hc⟩ := h2.2 (by have := HXl.out; omega); first | exact ⟨rfl, ad, e, hc⟩ | exact ⟨ad, e, hc⟩
  case hfit => have := HXl.out; have := HZl.out; omega
  have hown : w2.ownsRow w.heap.size 5 1 (.slice (some ⟨w.heap.size, 0, none⟩) m (m + 8)) m X := own_of_splice HG.out HXl.out HZl.out (by unfold maxLen; omega)
  have HOWN := Lib.hid hown
  have HB2 := Lib.hid hb2
  clear hown hb2 HG hmk
  go_loopw [5, 17] (fun v i wr => ∃ j : Nat, j ≤ 4 ∧ i = .int .i64 j ∧ v = .slice (some ⟨w.heap.size, 0, none⟩) (m + j) (m + 8) ∧ Hid (wr.ownsRow w.heap.size 5 1 (.slice (some ⟨w.heap.size, 0, none⟩) (m + j) (m + 8)) (m + j) ((bs ++ Wd.le j n).map u8)) ∧ Hid (Below w.heap.size w wr)) (fun _ i _ => 4 - (intOf i).toNat)
  case atStart => exact ⟨0, by omega, rfl, rfl, Lib.hid (by rw [Wd.le, List.append_nil, ← HX.out]; exact HOWN.out), HB2⟩
  case round =>
    obtain ⟨j, hj, rfl, rfl, HO, HBr⟩ := hrel
    by_cases hjn : j < 4
    · obtain ⟨y, hy⟩ : ∃ y, y = n / 256 ^ j % 256 := ⟨_, rfl⟩
      obtain ⟨s, hs⟩ : ∃ s, s = n / 256 ^ j := ⟨_, rfl⟩
      have e1 : (n : Int) / 2 ^ (8 * j) = (s : Int) := by
        rw [hs, show (256 : Nat) = 2 ^ 8 from rfl, ← Nat.pow_mul]
        norm_cast
      have e2 : IntKind.u8.wrap (s : Int) = (y : Int) := by rw [hy, ← hs]; simp [IntKind.wrap, IntKind.bits, IntKind.signed]
      have HY := Lib.hid hy
      clear hy hs
      go_wp2_with (at_builtin; refine wpList_append_fits _ rfl (.tmp 20) (.tmp 27) 23 rfl w.heap.size 5 i0 1 Tryz.underlying23 HI.out HZ2.out w.heap.size (m + j) (m + 8) _ rfl (HO.out.alloc _) ⟨wr.heap.size, 0, none⟩ 1 1 [.int .u8 (y : Int)] rfl rfl (cell_one_new _ _ _) (ints_oneCell .u8 [(y : Int)]) (by omega) ?_; intro w3 hown3 hg3; have HO3 := Lib.hid hown3; have HG3 := Lib.hid hg3; clear hown3 hg3)
      have hb3 : Below w.heap.size w w3 := ((HBr.out.alloc HBr.out.size (.cells #[.int .u8 (y : Int)] 5)).grown HG3.out (Nat.le_trans HBr.out.size (by simp)) (fun k hk => by simp at hk; omega))
      have HB3 := Lib.hid hb3
      clear hb3
      go_roundw
      case rel => exact ⟨j + 1, by omega, by go_num, rfl, Lib.hid (by have h := HO3.out; rw [Wd.le_succ, ← List.append_assoc, List.map_append, ← HY.out]; exact h), HB3⟩
      case measure => simp [intOf]; omega
    · have HJ : Hid (j = 4) := Lib.hid (by omega)
      go_wp2_with fail
      go_ret
      have hjj := HJ.out
      subst hjj
      exact ⟨⟨w.heap.size, _, rfl, HO.out, (by
        intro b hb
        rcases List.mem_append.1 hb with h | h
        · exact HBS.out b h
        · exact Wd.le_lt _ _ b h), by omega⟩, HBr.out⟩

set_option maxRecDepth 100000 in
set_option maxHeartbeats 1000000 in
theorem width_Great (w : World) : Calls Tryz.prog 123 #[] w fun e w' => e = .returned (.int .i64 8) ∧ w = w' := by
  go_enter Tryz.func123, Tryz.ntmps123
  go_wp2
  go_loop [1, 2] (fun n x => (x = .int .u64 18446744073709551615 ∧ n = .int .i64 0) ∨ (x = .int .u64 72057594037927935 ∧ n = .int .i64 1) ∨ (x = .int .u64 281474976710655 ∧ n = .int .i64 2) ∨ (x = .int .u64 1099511627775 ∧ n = .int .i64 3) ∨ (x = .int .u64 4294967295 ∧ n = .int .i64 4) ∨ (x = .int .u64 16777215 ∧ n = .int .i64 5) ∨ (x = .int .u64 65535 ∧ n = .int .i64 6) ∨ (x = .int .u64 255 ∧ n = .int .i64 7) ∨ (x = .int .u64 0 ∧ n = .int .i64 8)) (fun n _ => 8 - (intOf n).toNat)
  case atStart => exact .inl ⟨congrArg (Value.int _) (by decide), rfl⟩
  case round =>
    rcases hrel with ⟨rfl, rfl⟩ | ⟨rfl, rfl⟩ | ⟨rfl, rfl⟩ | ⟨rfl, rfl⟩ | ⟨rfl, rfl⟩ | ⟨rfl, rfl⟩ | ⟨rfl, rfl⟩ | ⟨rfl, rfl⟩ | ⟨rfl, rfl⟩
    all_goals
      go_wp2
      first
        | (go_ret; exact ⟨rfl, rfl⟩)
        | (go_round
           case rel => simp
           case measure => simp [intOf])

set_option maxRecDepth 100000 in
set_option maxHeartbeats 1000000 in
theorem put_Great (A : Option Addr) (m c : Nat) (bs : List Nat) (n : Nat) (w : World) (ha : IsB w w.heap.size A m bs) (hm : m ≤ 140737488351232) (hn : n < 18446744073709551616) :
    Calls Tryz.prog 49 #[.slice A m c, .int .u64 (n : Nat)] w fun e w' => (∃ g c', e = .returned (.slice (some ⟨g, 0, none⟩) (m + 8) c') ∧ Own w' w.heap.size (some ⟨g, 0, none⟩) (m + 8) c' (bs ++ Wd.le 8 n)) ∧ Below w.heap.size w w' := by
  have hmk := run_make_rowN' (P := Tryz.prog) 23 5 (.int .u8 0) 1 Tryz.underlying23 info5w rfl .i64 .i64 m (m + 8) (by omega) (by omega) (by omega)
  rw [madeCells_onew] at hmk
  rw [show ((m + 8 : Nat) : Int) = (m : Int) + 8 by omega] at hmk
  have HBS := Lib.hid ha.2.1
  have HL := Lib.hid ha.len
  obtain ⟨X, hX⟩ : ∃ X, X = bs.map u8 := ⟨_, rfl⟩
  have hXl : X.length = m := by rw [hX]; simpa using ha.len
  obtain ⟨Z, hZ⟩ : ∃ Z : List Value, Z = List.replicate (m + 8) (.int .u8 0) := ⟨_, rfl⟩
  rw [← hZ] at hmk
  have hZl : Z.length = m + 8 := by rw [hZ]; simp
  have hr := ha.1
  rw [← hX] at hr
  have h1 : ∀ v ∈ X, v.oneCell' = true := by rw [hX]; exact one_u8w bs
  have HX := Lib.hid hX
  have HXl := Lib.hid hXl
  have HZl := Lib.hid hZl
  have H1 := Lib.hid h1
  have HR := Lib.hid hr
  obtain ⟨i0, hi0, hz1, hz2, hz3⟩ := info_parts info5w
  have HI := Lib.hid hi0; have HZ2 := Lib.hid hz2
  have ew : IntKind.u64.wrap (n : Int) = (n : Int) := by rw [IntKind.wrap_u64]; omega
  have HN := Lib.hid hn
  clear hX hXl hZ hZl h1 ha hr hi0 hz1 hz2 hz3 hn
  go_enter Tryz.func49, Tryz.ntmps49
  go_wp2_with (first
    | (go_at_call 123; refine (width_Great _).mono ?_; rintro e w' ⟨rfl, rfl⟩)
    | (with_reducible refine wpList_copy_splice rfl (.tmp 13) (.tmp 14) 23 23 rfl 5 Tryz.underlying23 size5w _ _ _ _ _ _ rfl rfl w.heap.size 0 Z 5 (Row.new w 5 Z).out X ?hn ?hpos ?hfit H1.out w.heap.size w ((Below.refl _ _).alloc (Nat.le_refl _) _) (Nat.le_refl _) ?_; rotate_right; intro w2 HG hb2))
  case hn => rw [HXl.out]; exact (Nat.min_eq_left (Nat.le_refl _)).symm
  case hpos => intro h0; have h2 := HR.out.alloc (Nat.le_refl _) (.cells Z.toArray 5); obtain ⟨ad, e, _, hc⟩ := h2.2 (by have := HXl.out; omega); first | exact ⟨rfl, ad, e, hc⟩ | exact ⟨ad, e, hc⟩
  case hfit => have := HXl.out; have := HZl.out; omega
  have hown : w2.ownsRow w.heap.size 5 1 (.slice (some ⟨w.heap.size, 0, none⟩) m (m + 8)) m X := own_of_splice HG.out HXl.out HZl.out (by unfold maxLen; omega)
  have HOWN := Lib.hid hown
  have HB2 := Lib.hid hb2
  clear hown hb2 HG hmk
  go_loopw [5, 17] (fun v i wr => ∃ j : Nat, j ≤ 8 ∧ i = .int .i64 j ∧ v = .slice (some ⟨w.heap.size, 0, none⟩) (m + j) (m + 8) ∧ Hid (wr.ownsRow w.heap.size 5 1 (.slice (some ⟨w.heap.size, 0, none⟩) (m + j) (m + 8)) (m + j) ((bs ++ Wd.le j n).map u8)) ∧ Hid (Below w.heap.size w wr)) (fun _ i _ => 8 - (intOf i).toNat)
  case atStart => exact ⟨0, by omega, rfl, rfl, Lib.hid (by rw [Wd.le, List.append_nil, ← HX.out]; exact HOWN.out), HB2⟩
  case round =>
    obtain ⟨j, hj, rfl, rfl, HO, HBr⟩ := hrel
    by_cases hjn : j < 8
    · obtain ⟨y, hy⟩ : ∃ y, y = n / 256 ^ j % 256 := ⟨_, rfl⟩
      obtain ⟨s, hs⟩ : ∃ s, s = n / 256 ^ j := ⟨_, rfl⟩
      have e1 : (n : Int) / 2 ^ (8 * j) = (s : Int) := by
        rw [hs, show (256 : Nat) = 2 ^ 8 from rfl, ← Nat.pow_mul]
        norm_cast
      have e2 : IntKind.u8.wrap (s : Int) = (y : Int) := by rw [hy, ← hs]; simp [IntKind.wrap, IntKind.bits, IntKind.signed]
      have HY := Lib.hid hy
      clear hy hs
      go_wp2_with (at_builtin; refine wpList_append_fits _ rfl (.tmp 20) (.tmp 26) 23 rfl w.heap.size 5 i0 1 Tryz.underlying23 HI.out HZ2.out w.heap.size (m + j) (m + 8) _ rfl (HO.out.alloc _) ⟨wr.heap.size, 0, none⟩ 1 1 [.int .u8 (y : Int)] rfl rfl (cell_one_new _ _ _) (ints_oneCell .u8 [(y : Int)]) (by omega) ?_; intro w3 hown3 hg3; have HO3 := Lib.hid hown3; have HG3 := Lib.hid hg3; clear hown3 hg3)
      have hb3 : Below w.heap.size w w3 := ((HBr.out.alloc HBr.out.size (.cells #[.int .u8 (y : Int)] 5)).grown HG3.out (Nat.le_trans HBr.out.size (by simp)) (fun k hk => by simp at hk; omega))
      have HB3 := Lib.hid hb3
      clear hb3
      go_roundw
      case rel => exact ⟨j + 1, by omega, by go_num, rfl, Lib.hid (by have h := HO3.out; rw [Wd.le_succ, ← List.append_assoc, List.map_append, ← HY.out]; exact h), HB3⟩
      case measure => simp [intOf]; omega
    · have HJ : Hid (j = 8) := Lib.hid (by omega)
      go_wp2_with fail
      go_ret
      have hjj := HJ.out
      subst hjj
      exact ⟨⟨w.heap.size, _, rfl, HO.out, (by
        intro b hb
        rcases List.mem_append.1 hb with h | h
        · exact HBS.out b h
        · exact Wd.le_lt _ _ b h), by omega⟩, HBr.out⟩
end Go.Proofs.YtomjmapidjnpbaaGreat
