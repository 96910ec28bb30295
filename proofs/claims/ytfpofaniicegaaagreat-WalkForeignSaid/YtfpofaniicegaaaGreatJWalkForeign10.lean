/- Texts of this claim, one behind the other: Put, Get. -/
import Derived.Test.YtfpofaniicegaaaGreatJWalkForeign2
import Derived.Test.YtfpofaniicegaaaGreatJWalkForeign1
import Derived.Laws.CopyOwn
import Derived.Deep.OwnRows
import Derived.Test.YtfpofaniicegaaaGreatJWalkForeign9
import Derived.Laws.Bits64b
/- The walks of word.width and word.Put over numbers of each type: a number's bytes are laid behind the list, in new memory. -/
set_option linter.unusedVariables false
set_option linter.unusedSimpArgs false
namespace Go.Proofs.YtfpofaniicegaaaGreat
open Go.RowKit

/-- a slice of bytes that the call has made, in a row of its own from block 'base' on -/
def Own (w : World) (base : Nat) (A : Option Addr) (n c : Nat) (bs : List Nat) : Prop := w.ownsRow base 5 1 (.slice A n c) n (bs.map u8) ∧ (∀ b ∈ bs, b < 256) ∧ n ≤ 9223372036854775807
theorem Own.isB {w : World} {base n c : Nat} {A : Option Addr} {bs : List Nat} (h : Own w base A n c bs) : IsB w w.heap.size A n bs := ⟨Reads.of_own h.1, h.2⟩
theorem Own.len {w : World} {base n c : Nat} {A : Option Addr} {bs : List Nat} (h : Own w base A n c bs) : bs.length = n := by have := h.1.1; simpa using this
theorem Own.below {w w' : World} {base n c : Nat} {A : Option Addr} {bs : List Nat} (h : Own w base A n c bs) (hb : Below w.heap.size w w') : Own w' base A n c bs := by
  refine ⟨⟨h.1.1, ?_⟩, h.2⟩
  rcases h.1.2 with h2 | ⟨g, cap, cur, hv, hg, hh, r⟩
  · exact .inl h2
  · refine .inr ⟨g, cap, cur, hv, hg, ?_, r⟩
    have hlt : g < w.heap.size := Blk.lt (cs := cur) hh
    rw [hb.block g hlt]; exact hh
theorem Own.mono {w : World} {base base' n c : Nat} {A : Option Addr} {bs : List Nat} (h : Own w base A n c bs) (hb : base' ≤ base) : Own w base' A n c bs := by
  refine ⟨⟨h.1.1, ?_⟩, h.2⟩
  rcases h.1.2 with h2 | ⟨g, cap, cur, hv, hg, r⟩
  · exact .inl h2
  · exact .inr ⟨g, cap, cur, hv, by omega, r⟩
theorem info5w : (Tryz.prog.info? 5).map (fun i => (i.zero, i.size, i.bytes)) = some (some (.int .u8 0), 1, 1) := by kernel_rfl
theorem size5w : (Tryz.prog.info? 5).map (·.size) = some 1 := by kernel_rfl
theorem one_u8w (bs : List Nat) : ∀ v ∈ bs.map u8, v.oneCell' = true := by intro v hv; simp at hv; obtain ⟨b, _, rfl⟩ := hv; rfl
theorem madeCells_onew (z : Value) (n : Nat) : madeCells #[z] n = (List.replicate n z).toArray := by
  unfold madeCells
  apply Array.ext
  · simp
  · intro i h1 h2
    simp [Nat.mod_one]
/-- a made row, filled at its head, is owned -/
theorem own_of_splice {w : World} {g n k : Nat} {Z X : List Value} (h : w.heap[g]? = some (.cells (splice Z 0 X).toArray 5 (0, 0))) (hX : X.length = n) (hZ : Z.length = n + k) (hk : n + k ≤ maxLen) : w.ownsRow g 5 1 (.slice (some ⟨g, 0, none⟩) n (n + k)) n X := by
  refine ⟨by simp [hX], .inr ⟨g, n + k, _, rfl, Nat.le_refl _, h, by omega, hk, ?_, ?_⟩⟩
  · simp [splice, hX, hZ]
  · simp [splice, hX]
/-- make([]T, l, c), one cell an element -/
theorem run_make_rowN' {P : Program} (t e : TypeId) (z : Value) (bytes : Nat) (ht : P.underlying t = some (.slice e)) (hinfo : (P.info? e).map (fun i => (i.zero, i.size, i.bytes)) = some (some z, 1, bytes)) (hz1 : z.cells = #[z])
    (kl kc : IntKind) (n c : Nat) (hnc : n ≤ c) (hbytes : bytes * c ≤ 281474976710656) (h63 : c ≤ 9223372036854775807) (w : World) :
    (Instr.makeSlice t (.int kl (n : Int)) (.int kc (c : Int))).run P w = .ok (.slice (some ⟨w.heap.size, 0, none⟩) n c) (w.alloc (.cells (madeCells #[z] c) e)) := by
  obtain ⟨i, hi, hzz⟩ := Option.map_eq_some_iff.1 hinfo
  simp only [Prod.mk.injEq] at hzz
  obtain ⟨hz, hs, hb⟩ := hzz
  have hb' : (i.bytes : Int) * (c : Int) ≤ 281474976710656 := by
    have h : ((i.bytes * c : Nat) : Int) ≤ 281474976710656 := by rw [hb]; omega
    rwa [Int.natCast_mul] at h
  have hr := run_make (P := P) w t e i z ht hi hz kl kc n c (by omega) (by omega) hb' (by omega)
  simp only [Int.toNat_natCast] at hr
  rw [hz1, hs, Nat.mul_one] at hr
  exact hr
theorem shr_u64 (n i : Nat) : (n >>> i : Nat) = n / 2 ^ i := Nat.shiftRight_eq_div_pow n i

set_option maxRecDepth 100000 in
set_option maxHeartbeats 1000000 in
theorem width_uint64 (w : World) : Calls Tryz.prog 79 #[] w fun e w' => e = .returned (.int .i64 8) ∧ w = w' := by
  go_enter Tryz.func79, Tryz.ntmps79
  go_wp2
  go_loop [1, 2] (fun n x => (x = .int .u64 18446744073709551615 ∧ n = .int .i64 0) ∨ (x = .int .u64 72057594037927935 ∧ n = .int .i64 1) ∨ (x = .int .u64 281474976710655 ∧ n = .int .i64 2) ∨ (x = .int .u64 1099511627775 ∧ n = .int .i64 3) ∨ (x = .int .u64 4294967295 ∧ n = .int .i64 4) ∨ (x = .int .u64 16777215 ∧ n = .int .i64 5) ∨ (x = .int .u64 65535 ∧ n = .int .i64 6) ∨ (x = .int .u64 255 ∧ n = .int .i64 7) ∨ (x = .int .u64 0 ∧ n = .int .i64 8)) (fun n _ => 8 - (intOf n).toNat)
  case atStart => exact .inl ⟨congrArg (Value.int _) (by decide), rfl⟩
  case round =>
    rcases hrel with ⟨rfl, rfl⟩ | ⟨rfl, rfl⟩ | ⟨rfl, rfl⟩ | ⟨rfl, rfl⟩ | ⟨rfl, rfl⟩ | ⟨rfl, rfl⟩ | ⟨rfl, rfl⟩ | ⟨rfl, rfl⟩ | ⟨rfl, rfl⟩
    all_goals
      go_wp2
      first
        | (go_ret; exact ⟨rfl, rfl⟩)
        | (go_round
           case rel => simp
           case measure => simp [intOf])

end Go.Proofs.YtfpofaniicegaaaGreat

/- The walks of word.Get over numbers of each type: the number that the first bytes are. -/
set_option linter.unusedVariables false
set_option linter.unusedSimpArgs false
namespace Go.Proofs.YtfpofaniicegaaaGreat
open Go.RowKit

theorem or_step (bs : List Nat) (j : Nat) (h8 : j < 8) (hj : j < bs.length) (hb : ∀ b ∈ bs, b < 256) :
    bits .or .u64 (Wd.unle (bs.take j) : Nat) (IntKind.u64.wrap (((bs.getD j 0 : Nat) : Int) * 2 ^ (8 * j))) = (Wd.unle (bs.take (j + 1)) : Nat) := by
  have hl : (bs.take j).length = j := by simp; omega
  have h1 := Wd.unle_lt (bs.take j) (fun b hb' => hb b (List.mem_of_mem_take hb'))
  rw [hl] at h1
  have hx := hb _ (getD_mem bs j hj)
  obtain ⟨x, hxe⟩ : ∃ x, x = bs.getD j 0 := ⟨_, rfl⟩
  rw [take_snoc bs j hj, Wd.unle_append, hl]
  rw [← hxe] at hx ⊢
  obtain ⟨y, hy⟩ : ∃ y, y = Wd.unle (bs.take j) := ⟨_, rfl⟩
  rw [← hy] at h1 ⊢
  have hp : (256 : Nat) ^ j = 2 ^ (8 * j) := by rw [show (256 : Nat) = 2 ^ 8 from rfl, ← Nat.pow_mul]
  have hle : (2 : Nat) ^ (8 * j) ≤ 2 ^ 56 := Nat.pow_le_pow_right (by decide) (by omega)
  have hm : x * 2 ^ (8 * j) < 18446744073709551616 := by
    have h3 : x * 2 ^ (8 * j) ≤ 255 * 2 ^ 56 := Nat.mul_le_mul (by omega) hle
    have h4 : (2 : Nat) ^ 56 = 72057594037927936 := by decide
    omega
  have hc : ((x : Nat) : Int) * 2 ^ (8 * j) = ((x * 2 ^ (8 * j) : Nat) : Int) := by norm_cast
  have hw : IntKind.u64.wrap ((x * 2 ^ (8 * j) : Nat) : Int) = ((x * 2 ^ (8 * j) : Nat) : Int) := by rw [IntKind.wrap_u64]; omega
  have hy2 : y < 2 ^ (8 * j) := by rw [← hp]; exact h1
  have hy3 : y < 18446744073709551616 := by
    have h4 : (2 : Nat) ^ 56 = 72057594037927936 := by decide
    omega
  rw [hc, hw, bits_or_u64_nat y _ hy3 hm]
  have h5 : y ||| x * 2 ^ (8 * j) = y + x * 2 ^ (8 * j) := by
    rw [Nat.or_comm, Nat.mul_comm, ← Nat.two_pow_add_eq_or_of_lt hy2, Nat.add_comm]
  rw [h5, hp]
  simp [Wd.unle, Nat.mul_comm]

set_option maxRecDepth 100000 in
set_option maxHeartbeats 1000000 in
theorem get_uint64 (A : Option Addr) (n c : Nat) (bs : List Nat) (w : World) (ha : IsB w w.heap.size A n bs) (hk : 8 ≤ n) (hc : n ≤ c) :
    Calls Tryz.prog 59 #[.slice A n c] w fun e w' => e = .returned (.tuple #[.int .u64 (Wd.unle (bs.take 8) : Nat), .bool true]) ∧ w = w' := by
  have hn := ha.2.2
  have hlen := ha.len
  obtain ⟨b, off, HF⟩ := ha.form
  have HBY := Lib.hid ha.2.1
  have hlt := Wd.unle_lt (bs.take 8) (fun b hb' => ha.2.1 b (List.mem_of_mem_take hb'))
  rw [show (bs.take 8).length = 8 by simp; omega] at hlt
  have HLT := Lib.hid hlt
  clear ha hlt
  go_enter Tryz.func59, Tryz.ntmps59
  go_wp2_with (first
    | (go_at_call 79; refine (width_uint64 _).mono ?_; rintro e w' ⟨rfl, rfl⟩))
  go_loop [5, 17] (fun x i => ∃ j : Nat, j ≤ 8 ∧ i = .int .i64 j ∧ x = .int .u64 (Wd.unle (bs.take j) : Nat)) (fun _ i => 8 - (intOf i).toNat)
  case atStart => exact ⟨0, by omega, rfl, rfl⟩
  case round =>
    obtain ⟨j, hj, rfl, rfl⟩ := hrel
    by_cases hjn : j < 8
    · obtain ⟨hA, hbB, hcc⟩ := HF.out (by omega)
      subst hA
      have hcj := hcc j (by omega)
      have hcb := HBY.out _ (getD_mem bs j (by omega))
      have HS := Lib.hid (or_step bs j (by omega) (by omega) HBY.out)
      obtain ⟨x, hx⟩ : ∃ x, x = bs.getD j 0 := ⟨_, rfl⟩
      rw [← hx] at hcj hcb HS
      obtain ⟨y, hy⟩ : ∃ y, y = Wd.unle (bs.take j) := ⟨_, rfl⟩
      rw [← hy] at HS ⊢
      have HX := Lib.hid hx; have HY := Lib.hid hy; clear hx hy
      clear hcc
      go_wp2
      go_round
      case rel => exact ⟨j + 1, by omega, by go_num, by rw [HS.out]⟩
      case measure => simp [intOf]; omega
    · have HJ : Hid (j = 8) := Lib.hid (by omega)
      obtain ⟨y, hy⟩ : ∃ y, y = Wd.unle (bs.take j) := ⟨_, rfl⟩
      have hyl : y < 18446744073709551616 := by rw [hy, HJ.out]; exact HLT.out
      rw [← hy]
      have HY := Lib.hid hy
      have ew : IntKind.u64.wrap (y : Int) = (y : Int) := by rw [IntKind.wrap_u64]; omega
      clear hy hyl
      go_wp2
      go_ret2
      exact ⟨by rw [HY.out, HJ.out]; rfl, rfl⟩
set_option maxRecDepth 100000 in
set_option maxHeartbeats 1000000 in
theorem getno_uint64 (A : Option Addr) (n c : Nat) (bs : List Nat) (w : World) (hk : n < 8) :
    Calls Tryz.prog 59 #[.slice A n c] w fun e w' => e = .returned (.tuple #[.int .u64 0, .bool false]) ∧ w = w' := by
  go_enter Tryz.func59, Tryz.ntmps59
  go_wp2_with (first
    | (go_at_call 79; refine (width_uint64 _).mono ?_; rintro e w' ⟨rfl, rfl⟩))
  go_ret2
  exact ⟨rfl, rfl⟩
end Go.Proofs.YtfpofaniicegaaaGreat
