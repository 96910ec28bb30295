/- The walks of word.width and word.Put over numbers of each type: a number's bytes are laid behind the list, in new memory. -/
import Derived.Test.YtblfagmoilhdnaaWd
import Derived.Test.YtblfagmoilhdnaaBytes
import Derived.Laws.CopyOwn
import Derived.Deep.OwnRows
set_option linter.unusedVariables false
set_option linter.unusedSimpArgs false
namespace Go.Proofs.Ytblfagmoilhdnaa
open Go.RowKit

/-- a slice of bytes that the call has made, in a row of its own from block 'base' on -/
def Own (w : World) (base : Nat) (A : Option Addr) (n c : Nat) (bs : List Nat) : Prop := w.ownsRow base 5 1 (.slice A n c) n (bs.map u8) ∧ (∀ b ∈ bs, b < 256) ∧ n ≤ 9223372036854775807
theorem Own.isB {w : World} {base n c : Nat} {A : Option Addr} {bs : List Nat} (h : Own w base A n c bs) : IsB w w.heap.size A n bs := ⟨Reads.of_own h.1, h.2⟩
theorem Own.len {w : World} {base n c : Nat} {A : Option Addr} {bs : List Nat} (h : Own w base A n c bs) : bs.length = n := by have := h.1.1; simpa using this
theorem Own.below {w w' : World} {base n c : Nat} {A : Option Addr} {bs : List Nat} (h : Own w base A n c bs) (hb : Below w.heap.size w w') : Own w' base A n c bs := by
  refine ⟨⟨h.1.1, ?_⟩, h.2⟩
  rcases h.1.2 with h2 | ⟨g, cap, cur, hv, hg, hh, r⟩
  · exact .inl h2
  · refine .inr ⟨g, cap, cur, hv, hg, ?_, r⟩
    have hlt : g < w.heap.size := Blk.lt (cs := cur) hh
    rw [hb.block g hlt]; exact hh
theorem Own.mono {w : World} {base base' n c : Nat} {A : Option Addr} {bs : List Nat} (h : Own w base A n c bs) (hb : base' ≤ base) : Own w base' A n c bs := by
  refine ⟨⟨h.1.1, ?_⟩, h.2⟩
  rcases h.1.2 with h2 | ⟨g, cap, cur, hv, hg, r⟩
  · exact .inl h2
  · exact .inr ⟨g, cap, cur, hv, by omega, r⟩
theorem info5w : (Try.prog.info? 5).map (fun i => (i.zero, i.size, i.bytes)) = some (some (.int .u8 0), 1, 1) := by kernel_rfl
theorem size5w : (Try.prog.info? 5).map (·.size) = some 1 := by kernel_rfl
theorem one_u8w (bs : List Nat) : ∀ v ∈ bs.map u8, v.oneCell' = true := by intro v hv; simp at hv; obtain ⟨b, _, rfl⟩ := hv; rfl
theorem madeCells_onew (z : Value) (n : Nat) : madeCells #[z] n = (List.replicate n z).toArray := by
  unfold madeCells
  apply Array.ext
  · simp
  · intro i h1 h2
    simp [Nat.mod_one]
/-- a made row, filled at its head, is owned -/
theorem own_of_splice {w : World} {g n k : Nat} {Z X : List Value} (h : w.heap[g]? = some (.cells (splice Z 0 X).toArray 5 (0, 0))) (hX : X.length = n) (hZ : Z.length = n + k) (hk : n + k ≤ maxLen) : w.ownsRow g 5 1 (.slice (some ⟨g, 0, none⟩) n (n + k)) n X := by
  refine ⟨by simp [hX], .inr ⟨g, n + k, _, rfl, Nat.le_refl _, h, by omega, hk, ?_, ?_⟩⟩
  · simp [splice, hX, hZ]
  · simp [splice, hX]
/-- make([]T, l, c), one cell an element -/
theorem run_make_rowN' {P : Program} (t e : TypeId) (z : Value) (bytes : Nat) (ht : P.underlying t = some (.slice e)) (hinfo : (P.info? e).map (fun i => (i.zero, i.size, i.bytes)) = some (some z, 1, bytes)) (hz1 : z.cells = #[z])
    (kl kc : IntKind) (n c : Nat) (hnc : n ≤ c) (hbytes : bytes * c ≤ 281474976710656) (h63 : c ≤ 9223372036854775807) (w : World) :
    (Instr.makeSlice t (.int kl (n : Int)) (.int kc (c : Int))).run P w = .ok (.slice (some ⟨w.heap.size, 0, none⟩) n c) (w.alloc (.cells (madeCells #[z] c) e)) := by
  obtain ⟨i, hi, hzz⟩ := Option.map_eq_some_iff.1 hinfo
  simp only [Prod.mk.injEq] at hzz
  obtain ⟨hz, hs, hb⟩ := hzz
  have hb' : (i.bytes : Int) * (c : Int) ≤ 281474976710656 := by
    have h : ((i.bytes * c : Nat) : Int) ≤ 281474976710656 := by rw [hb]; omega
    rwa [Int.natCast_mul] at h
  have hr := run_make (P := P) w t e i z ht hi hz kl kc n c (by omega) (by omega) hb' (by omega)
  simp only [Int.toNat_natCast] at hr
  rw [hz1, hs, Nat.mul_one] at hr
  exact hr
theorem shr_u64 (n i : Nat) : (n >>> i : Nat) = n / 2 ^ i := Nat.shiftRight_eq_div_pow n i

set_option maxRecDepth 100000 in
set_option maxHeartbeats 1000000 in
theorem width_uint64 (w : World) : Calls Try.prog 65 #[] w fun e w' => e = .returned (.int .i64 8) ∧ w = w' := by
  go_enter Try.func65, Try.ntmps65
  go_wp2
  go_loop [1, 2] (fun n x => (x = .int .u64 18446744073709551615 ∧ n = .int .i64 0) ∨ (x = .int .u64 72057594037927935 ∧ n = .int .i64 1) ∨ (x = .int .u64 281474976710655 ∧ n = .int .i64 2) ∨ (x = .int .u64 1099511627775 ∧ n = .int .i64 3) ∨ (x = .int .u64 4294967295 ∧ n = .int .i64 4) ∨ (x = .int .u64 16777215 ∧ n = .int .i64 5) ∨ (x = .int .u64 65535 ∧ n = .int .i64 6) ∨ (x = .int .u64 255 ∧ n = .int .i64 7) ∨ (x = .int .u64 0 ∧ n = .int .i64 8)) (fun n _ => 8 - (intOf n).toNat)
  case atStart => exact .inl ⟨congrArg (Value.int _) (by decide), rfl⟩
  case round =>
    rcases hrel with ⟨rfl, rfl⟩ | ⟨rfl, rfl⟩ | ⟨rfl, rfl⟩ | ⟨rfl, rfl⟩ | ⟨rfl, rfl⟩ | ⟨rfl, rfl⟩ | ⟨rfl, rfl⟩ | ⟨rfl, rfl⟩ | ⟨rfl, rfl⟩
    all_goals
      go_wp2
      first
        | (go_ret; exact ⟨rfl, rfl⟩)
        | (go_round
           case rel => simp
           case measure => simp [intOf])

set_option maxRecDepth 100000 in
set_option maxHeartbeats 1000000 in
theorem put_uint64 (A : Option Addr) (m c : Nat) (bs : List Nat) (n : Nat) (w : World) (ha : IsB w w.heap.size A m bs) (hm : m ≤ 140737488351232) (hn : n < 18446744073709551616) :
    Calls Try.prog 84 #[.slice A m c, .int .u64 (n : Nat)] w fun e w' => (∃ g c', e = .returned (.slice (some ⟨g, 0, none⟩) (m + 8) c') ∧ Own w' w.heap.size (some ⟨g, 0, none⟩) (m + 8) c' (bs ++ Wd.le 8 n)) ∧ Below w.heap.size w w' := by
  have hmk := run_make_rowN' (P := Try.prog) 25 5 (.int .u8 0) 1 Try.underlying25 info5w rfl .i64 .i64 m (m + 8) (by omega) (by omega) (by omega)
  rw [madeCells_onew] at hmk
  rw [show ((m + 8 : Nat) : Int) = (m : Int) + 8 by omega] at hmk
  have HBS := Lib.hid ha.2.1
  have HL := Lib.hid ha.len
  obtain ⟨X, hX⟩ : ∃ X, X = bs.map u8 := ⟨_, rfl⟩
  have hXl : X.length = m := by rw [hX]; simpa using ha.len
  obtain ⟨Z, hZ⟩ : ∃ Z : List Value, Z = List.replicate (m + 8) (.int .u8 0) := ⟨_, rfl⟩
  rw [← hZ] at hmk
  have hZl : Z.length = m + 8 := by rw [hZ]; simp
  have hr := ha.1
  rw [← hX] at hr
  have h1 : ∀ v ∈ X, v.oneCell' = true := by rw [hX]; exact one_u8w bs
  have HX := Lib.hid hX
  have HXl := Lib.hid hXl
  have HZl := Lib.hid hZl
  have H1 := Lib.hid h1
  have HR := Lib.hid hr
  obtain ⟨i0, hi0, hz1, hz2, hz3⟩ := info_parts info5w
  have HI := Lib.hid hi0; have HZ2 := Lib.hid hz2
  have ew : IntKind.u64.wrap (n : Int) = (n : Int) := by rw [IntKind.wrap_u64]; omega
  have HN := Lib.hid hn
  clear hX hXl hZ hZl h1 ha hr hi0 hz1 hz2 hz3 hn
  go_enter Try.func84, Try.ntmps84
  go_wp2_with (first
    | (go_at_call 65; refine (width_uint64 _).mono ?_; rintro e w' ⟨rfl, rfl⟩)
    | (with_reducible refine wpList_copy_splice rfl (.tmp 13) (.tmp 14) 25 25 rfl 5 Try.underlying25 size5w _ _ _ _ _ _ rfl rfl w.heap.size 0 Z 5 (Row.new w 5 Z).out X ?hn ?hpos ?hfit H1.out w.heap.size w ((Below.refl _ _).alloc (Nat.le_refl _) _) (Nat.le_refl _) ?_; rotate_right; intro w2 HG hb2))
  case hn => rw [HXl.out]; exact (Nat.min_eq_left (Nat.le_refl _)).symm
  case hpos => intro h0; have h2 := HR.out.alloc (Nat.le_refl _) (.cells Z.toArray 5); obtain ⟨ad, e, _, hc⟩ := h2.2 (by have := HXl.out; omega); first | exact ⟨rfl, ad, e, hc⟩ | exact ⟨ad, e, hc⟩
  case hfit => have := HXl.out; have := HZl.out; omega
  have hown : w2.ownsRow w.heap.size 5 1 (.slice (some ⟨w.heap.size, 0, none⟩) m (m + 8)) m X := own_of_splice HG.out HXl.out HZl.out (by unfold maxLen; omega)
  have HOWN := Lib.hid hown
  have HB2 := Lib.hid hb2
  clear hown hb2 HG hmk
  go_loopw [5, 17] (fun v i wr => ∃ j : Nat, j ≤ 8 ∧ i = .int .i64 j ∧ v = .slice (some ⟨w.heap.size, 0, none⟩) (m + j) (m + 8) ∧ Hid (wr.ownsRow w.heap.size 5 1 (.slice (some ⟨w.heap.size, 0, none⟩) (m + j) (m + 8)) (m + j) ((bs ++ Wd.le j n).map u8)) ∧ Hid (Below w.heap.size w wr)) (fun _ i _ => 8 - (intOf i).toNat)
  case atStart => exact ⟨0, by omega, rfl, rfl, Lib.hid (by rw [Wd.le, List.append_nil, ← HX.out]; exact HOWN.out), HB2⟩
  case round =>
    obtain ⟨j, hj, rfl, rfl, HO, HBr⟩ := hrel
    by_cases hjn : j < 8
    · obtain ⟨y, hy⟩ : ∃ y, y = n / 256 ^ j % 256 := ⟨_, rfl⟩
      obtain ⟨s, hs⟩ : ∃ s, s = n / 256 ^ j := ⟨_, rfl⟩
      have e1 : (n : Int) / 2 ^ (8 * j) = (s : Int) := by
        rw [hs, show (256 : Nat) = 2 ^ 8 from rfl, ← Nat.pow_mul]
        norm_cast
      have e2 : IntKind.u8.wrap (s : Int) = (y : Int) := by rw [hy, ← hs]; simp [IntKind.wrap, IntKind.bits, IntKind.signed]
      have HY := Lib.hid hy
      clear hy hs
      go_wp2_with (at_builtin; refine wpList_append_fits _ rfl (.tmp 20) (.tmp 26) 25 rfl w.heap.size 5 i0 1 Try.underlying25 HI.out HZ2.out w.heap.size (m + j) (m + 8) _ rfl (HO.out.alloc _) ⟨wr.heap.size, 0, none⟩ 1 1 [.int .u8 (y : Int)] rfl rfl (cell_one_new _ _ _) (ints_oneCell .u8 [(y : Int)]) (by omega) ?_; intro w3 hown3 hg3; have HO3 := Lib.hid hown3; have HG3 := Lib.hid hg3; clear hown3 hg3)
      have hb3 : Below w.heap.size w w3 := ((HBr.out.alloc HBr.out.size (.cells #[.int .u8 (y : Int)] 5)).grown HG3.out (Nat.le_trans HBr.out.size (by simp)) (fun k hk => by simp at hk; omega))
      have HB3 := Lib.hid hb3
      clear hb3
      go_roundw
      case rel => exact ⟨j + 1, by omega, by go_num, rfl, Lib.hid (by have h := HO3.out; rw [Wd.le_succ, ← List.append_assoc, List.map_append, ← HY.out]; exact h), HB3⟩
      case measure => simp [intOf]; omega
    · have HJ : Hid (j = 8) := Lib.hid (by omega)
      go_wp2_with fail
      go_ret
      have hjj := HJ.out
      subst hjj
      exact ⟨⟨w.heap.size, _, rfl, HO.out, (by
        intro b hb
        rcases List.mem_append.1 hb with h | h
        · exact HBS.out b h
        · exact Wd.le_lt _ _ b h), by omega⟩, HBr.out⟩
end Go.Proofs.Ytblfagmoilhdnaa
