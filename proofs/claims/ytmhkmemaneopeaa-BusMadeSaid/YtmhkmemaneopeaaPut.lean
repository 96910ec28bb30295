/- The walks of word.width and word.Put over numbers of each type: a number's bytes are laid behind the list, in new memory. -/
import Derived.Test.YtmhkmemaneopeaaWd
import Derived.Test.YtmhkmemaneopeaaBytes
import Derived.Laws.CopyOwn
import Derived.Deep.OwnRows
set_option linter.unusedVariables false
set_option linter.unusedSimpArgs false
namespace Go.Proofs.Ytmhkmemaneopeaa
open Go.RowKit

/-- a slice of bytes that the call has made, in a row of its own from block 'base' on -/
def Own (w : World) (base : Nat) (A : Option Addr) (n c : Nat) (bs : List Nat) : Prop := w.ownsRow base 5 1 (.slice A n c) n (bs.map u8) ∧ (∀ b ∈ bs, b < 256) ∧ n ≤ 9223372036854775807
theorem Own.isB {w : World} {base n c : Nat} {A : Option Addr} {bs : List Nat} (h : Own w base A n c bs) : IsB w w.heap.size A n bs := ⟨Reads.of_own h.1, h.2⟩
theorem Own.len {w : World} {base n c : Nat} {A : Option Addr} {bs : List Nat} (h : Own w base A n c bs) : bs.length = n := by have := h.1.1; simpa using this
theorem Own.below {w w' : World} {base n c : Nat} {A : Option Addr} {bs : List Nat} (h : Own w base A n c bs) (hb : Below w.heap.size w w') : Own w' base A n c bs := by
  refine ⟨⟨h.1.1, ?_⟩, h.2⟩
  rcases h.1.2 with h2 | ⟨g, cap, cur, hv, hg, hh, r⟩
  · exact .inl h2
  · refine .inr ⟨g, cap, cur, hv, hg, ?_, r⟩
    have hlt : g < w.heap.size := Blk.lt (cs := cur) hh
    rw [hb.block g hlt]; exact hh
theorem Own.mono {w : World} {base base' n c : Nat} {A : Option Addr} {bs : List Nat} (h : Own w base A n c bs) (hb : base' ≤ base) : Own w base' A n c bs := by
  refine ⟨⟨h.1.1, ?_⟩, h.2⟩
  rcases h.1.2 with h2 | ⟨g, cap, cur, hv, hg, r⟩
  · exact .inl h2
  · exact .inr ⟨g, cap, cur, hv, by omega, r⟩
theorem info5w : (Try.prog.info? 5).map (fun i => (i.zero, i.size, i.bytes)) = some (some (.int .u8 0), 1, 1) := by kernel_rfl
theorem size5w : (Try.prog.info? 5).map (·.size) = some 1 := by kernel_rfl
theorem one_u8w (bs : List Nat) : ∀ v ∈ bs.map u8, v.oneCell' = true := by intro v hv; simp at hv; obtain ⟨b, _, rfl⟩ := hv; rfl
theorem madeCells_onew (z : Value) (n : Nat) : madeCells #[z] n = (List.replicate n z).toArray := by
  unfold madeCells
  apply Array.ext
  · simp
  · intro i h1 h2
    simp [Nat.mod_one]
/-- a made row, filled at its head, is owned -/
theorem own_of_splice {w : World} {g n k : Nat} {Z X : List Value} (h : w.heap[g]? = some (.cells (splice Z 0 X).toArray 5 (0, 0))) (hX : X.length = n) (hZ : Z.length = n + k) (hk : n + k ≤ maxLen) : w.ownsRow g 5 1 (.slice (some ⟨g, 0, none⟩) n (n + k)) n X := by
  refine ⟨by simp [hX], .inr ⟨g, n + k, _, rfl, Nat.le_refl _, h, by omega, hk, ?_, ?_⟩⟩
  · simp [splice, hX, hZ]
  · simp [splice, hX]
/-- make([]T, l, c), one cell an element -/
theorem run_make_rowN' {P : Program} (t e : TypeId) (z : Value) (bytes : Nat) (ht : P.underlying t = some (.slice e)) (hinfo : (P.info? e).map (fun i => (i.zero, i.size, i.bytes)) = some (some z, 1, bytes)) (hz1 : z.cells = #[z])
    (kl kc : IntKind) (n c : Nat) (hnc : n ≤ c) (hbytes : bytes * c ≤ 281474976710656) (h63 : c ≤ 9223372036854775807) (w : World) :
    (Instr.makeSlice t (.int kl (n : Int)) (.int kc (c : Int))).run P w = .ok (.slice (some ⟨w.heap.size, 0, none⟩) n c) (w.alloc (.cells (madeCells #[z] c) e)) := by
  obtain ⟨i, hi, hzz⟩ := Option.map_eq_some_iff.1 hinfo
  simp only [Prod.mk.injEq] at hzz
  obtain ⟨hz, hs, hb⟩ := hzz
  have hb' : (i.bytes : Int) * (c : Int) ≤ 281474976710656 := by
    have h : ((i.bytes * c : Nat) : Int) ≤ 281474976710656 := by rw [hb]; omega
    rwa [Int.natCast_mul] at h
  have hr := run_make (P := P) w t e i z ht hi hz kl kc n c (by omega) (by omega) hb' (by omega)
  simp only [Int.toNat_natCast] at hr
  rw [hz1, hs, Nat.mul_one] at hr
  exact hr
theorem shr_u64 (n i : Nat) : (n >>> i : Nat) = n / 2 ^ i := Nat.shiftRight_eq_div_pow n i

set_option maxRecDepth 100000 in
set_option maxHeartbeats 1000000 in
theorem width_uint64 (w : World) : Calls Try.prog 73 #[] w fun e w' => e = .returned (.int .i64 8) ∧ w = w' := by
  go_enter Try.func73, Try.ntmps73
  go_wp2
  go_loop [1, 2] (fun n x => (x = .int .u64 18446744073709551615 ∧ n = .int .i64 0) ∨ (x = .int .u64 72057594037927935 ∧ n = .int .i64 1) ∨ (x = .int .u64 281474976710655 ∧ n = .int .i64 2) ∨ (x = .int .u64 1099511627775 ∧ n = .int .i64 3) ∨ (x = .int .u64 4294967295 ∧ n = .int .i64 4) ∨ (x = .int .u64 16777215 ∧ n = .int .i64 5) ∨ (x = .int .u64 65535 ∧ n = .int .i64 6) ∨ (x = .int .u64 255 ∧ n = .int .i64 7) ∨ (x = .int .u64 0 ∧ n = .int .i64 8)) (fun n _ => 8 - (intOf n).toNat)
  case atStart => exact .inl ⟨congrArg (Value.int _) (by decide), rfl⟩
  case round =>
    rcases hrel with ⟨rfl, rfl⟩ | ⟨rfl, rfl⟩ | ⟨rfl, rfl⟩ | ⟨rfl, rfl⟩ | ⟨rfl, rfl⟩ | ⟨rfl, rfl⟩ | ⟨rfl, rfl⟩ | ⟨rfl, rfl⟩ | ⟨rfl, rfl⟩
    all_goals
      go_wp2
      first
        | (go_ret; exact ⟨rfl, rfl⟩)
        | (go_round
           case rel => simp
           case measure => simp [intOf])

end Go.Proofs.Ytmhkmemaneopeaa
