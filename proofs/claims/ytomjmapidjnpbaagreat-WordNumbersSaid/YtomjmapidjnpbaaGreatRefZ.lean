/- The document's arithmetic: Greatest, To, Add, Sub, Mul, Up, beside plain arithmetic. -/
import Derived.Test.YtomjmapidjnpbaaGreatNumZ
import Derived.Test.YtomjmapidjnpbaaGreatGet
set_option linter.unusedVariables false
set_option linter.unusedSimpArgs false
namespace Go.Proofs.YtomjmapidjnpbaaGreat
open Go.RowKit

theorem pow_le8 (size : Nat) (hs : size ≤ 8) : 256 ^ size ≤ 18446744073709551616 ∧ 1 ≤ 256 ^ size :=
  ⟨Nat.le_trans (Nat.pow_le_pow_right (by omega) hs) (by decide), Nat.one_le_pow _ _ (by omega)⟩
theorem rgreatest_any (size M : Nat) (hs : size ≤ 8) (hM : M = 256 ^ size) (w : World) :
    Calls Tryz.prog 29 #[.int .i64 (size : Nat)] w fun e w' => e = .returned (.int .u64 ((M - 1 : Nat) : Int)) ∧ w = w' := by
  have HM := Lib.hid hM
  clear hM
  go_enter Tryz.func29, Tryz.ntmps29
  go_wp2_with fail
  go_loop [3, 4] (fun v i => ∃ k x : Nat, k ≤ size ∧ i = .int .i64 k ∧ v = .int .u64 x ∧ Hid (x = 256 ^ k - 1)) (fun _ i => size - (intOf i).toNat)
  case atStart => exact ⟨0, 0, by omega, rfl, rfl, Lib.hid rfl⟩
  case round =>
    obtain ⟨k, x, hk, rfl, rfl, HX⟩ := hrel
    by_cases hk2 : k < size
    · have h1 : 256 ^ k * 256 ≤ 18446744073709551616 := by rw [← Nat.pow_succ]; exact (pow_le8 (k + 1) (by omega)).1
      have h2 := (pow_le8 k (by omega)).2
      have h3 := HX.out
      have e1 : IntKind.u64.wrap ((x : Int) * 256) = (x : Int) * 256 := by rw [IntKind.wrap_u64]; omega
      have e2 : IntKind.u64.wrap ((x : Int) * 256 + 255) = (x : Int) * 256 + 255 := by rw [IntKind.wrap_u64]; omega
      have HX2 : Hid (((x : Int) * 256 + 255) = ((x * 256 + 255 : Nat) : Int) ∧ x * 256 + 255 = 256 ^ (k + 1) - 1) := Lib.hid ⟨by omega, by rw [Nat.pow_succ]; omega⟩
      clear h1 h2 h3
      go_wp2_with fail
      go_round
      case rel => exact ⟨k + 1, x * 256 + 255, by omega, by go_num, by rw [HX2.out.1], Lib.hid HX2.out.2⟩
      case measure => simp [intOf]; omega
    · have hk3 : Hid (k = size) := Lib.hid (by omega)
      go_wp2_with fail
      go_ret
      exact ⟨by rw [HX.out, HM.out, hk3.out]; rfl, rfl⟩
theorem rto_any (n size M : Nat) (hs : size ≤ 8) (hM : M = 256 ^ size) (w : World) (p : Nat × Bool) (hp : Num.to M n = p) :
    Calls Tryz.prog 53 #[.int .u64 (n : Nat), .int .i64 (size : Nat)] w fun e w' => e = .returned (.tuple #[.int .u64 (p.1 : Nat), .bool p.2]) ∧ w = w' := by
  have h1 := (pow_le8 size hs).2
  rw [← hM] at h1
  have HG := Lib.hid (rgreatest_any size M hs hM w)
  unfold Num.to at hp
  split at hp
  · rename_i h
    subst hp
    have e1 : n ≤ M - 1 := by omega
    clear h h1 hM
    go_enter Tryz.func53, Tryz.ntmps53
    go_wp2_with (first | (go_at_call 29; refine HG.out.mono ?_; rintro e w' ⟨rfl, rfl⟩))
    go_ret2
    exact ⟨rfl, rfl⟩
  · rename_i h
    subst hp
    have e1 : M - 1 < n := by omega
    clear h h1 hM
    go_enter Tryz.func53, Tryz.ntmps53
    go_wp2_with (first | (go_at_call 29; refine HG.out.mono ?_; rintro e w' ⟨rfl, rfl⟩))
    go_ret2
    exact ⟨rfl, rfl⟩
theorem radd_any (a b size M : Nat) (ha : a < M) (hb : b < M) (hs : size ≤ 8) (hM : M = 256 ^ size) (w : World) (p : Nat × Bool) (hp : Num.add M a b = p) :
    Calls Tryz.prog 86 #[.int .u64 (a : Nat), .int .u64 (b : Nat), .int .i64 (size : Nat)] w fun e w' => e = .returned (.tuple #[.int .u64 (p.1 : Nat), .bool p.2]) ∧ w = w' := by
  have h1 := (pow_le8 size hs)
  rw [← hM] at h1
  have HG := Lib.hid (rgreatest_any size M hs hM w)
  have e2 : IntKind.u64.wrap (((M - 1 : Nat) : Int) - (b : Int)) = ((M - 1 - b : Nat) : Int) := by rw [IntKind.wrap_u64]; omega
  unfold Num.add at hp
  split at hp
  · rename_i h
    subst hp
    have e1 : a ≤ M - 1 - b := by omega
    have e3 : IntKind.u64.wrap ((a : Int) + (b : Int)) = ((a + b : Nat) : Int) := by rw [IntKind.wrap_u64]; omega
    clear h h1 hM ha hb
    go_enter Tryz.func86, Tryz.ntmps86
    go_wp2_with (first | (go_at_call 29; refine HG.out.mono ?_; rintro e w' ⟨rfl, rfl⟩))
    go_ret2
    exact ⟨rfl, rfl⟩
  · rename_i h
    subst hp
    have e1 : M - 1 - b < a := by omega
    clear h h1 hM ha hb
    go_enter Tryz.func86, Tryz.ntmps86
    go_wp2_with (first | (go_at_call 29; refine HG.out.mono ?_; rintro e w' ⟨rfl, rfl⟩))
    go_ret2
    exact ⟨rfl, rfl⟩
theorem rsub_any (a b size : Nat) (ha : a < 18446744073709551616) (w : World) (p : Nat × Bool) (hp : Num.sub a b = p) :
    Calls Tryz.prog 88 #[.int .u64 (a : Nat), .int .u64 (b : Nat), .int .i64 (size : Nat)] w fun e w' => e = .returned (.tuple #[.int .u64 (p.1 : Nat), .bool p.2]) ∧ w = w' := by
  unfold Num.sub at hp
  split at hp
  · rename_i h
    subst hp
    have e1 : b ≤ a := by omega
    have e3 : IntKind.u64.wrap ((a : Int) - (b : Int)) = ((a - b : Nat) : Int) := by rw [IntKind.wrap_u64]; omega
    clear h ha
    go_enter Tryz.func88, Tryz.ntmps88
    go_wp2_with fail
    go_ret2
    exact ⟨rfl, rfl⟩
  · rename_i h
    subst hp
    have e1 : a < b := by omega
    clear h ha
    go_enter Tryz.func88, Tryz.ntmps88
    go_wp2_with fail
    go_ret2
    exact ⟨rfl, rfl⟩
theorem rmul_any (a b size M : Nat) (ha : a < 18446744073709551616) (hs : size ≤ 8) (hM : M = 256 ^ size) (w : World) (p : Nat × Bool) (hp : Num.mul M a b = p) :
    Calls Tryz.prog 90 #[.int .u64 (a : Nat), .int .u64 (b : Nat), .int .i64 (size : Nat)] w fun e w' => e = .returned (.tuple #[.int .u64 (p.1 : Nat), .bool p.2]) ∧ w = w' := by
  have h1 := (pow_le8 size hs)
  rw [← hM] at h1
  have HG := Lib.hid (rgreatest_any size M hs hM w)
  obtain ⟨q, hq⟩ : ∃ q, q = (M - 1) / a := ⟨_, rfl⟩
  have e2 : ((M - 1 : Nat) : Int) / (a : Int) = (q : Int) := by rw [hq]; norm_cast
  have e5 : ((M - 1 : Nat) : Int).tdiv (a : Int) = (q : Int) := by rw [hq]; norm_cast
  have h3 : 0 < a → (q < b ↔ ¬ a * b < M) := fun h0 => by
    rw [hq, Nat.div_lt_iff_lt_mul h0, Nat.mul_comm b a]; omega
  have ew : IntKind.u64.wrap (q : Int) = (q : Int) := by rw [hq]; exact Num.wrapN _ (by have := Nat.div_le_self (M - 1) a; omega)
  have HE := Lib.hid hq
  clear hq
  unfold Num.mul at hp
  split at hp
  · rename_i h
    subst hp
    have e3 : IntKind.u64.wrap ((a : Int) * (b : Int)) = ((a * b : Nat) : Int) := by rw [Num.mulN]; exact Num.wrapN _ (by omega)
    by_cases h0 : 0 < a
    · have e1 : b ≤ q := by have := (h3 h0); omega
      have e0 : 0 < a := h0
      have e6 : ((a : Int) == 0) = false := by rw [beq_eq_false_iff_ne]; omega
      have e7 : ¬ ((a : Int) = 0) := by omega
      clear h h1 hM ha h3
      go_enter Tryz.func90, Tryz.ntmps90
      go_wp2_with (first | (go_at_call 29; refine HG.out.mono ?_; rintro e w' ⟨rfl, rfl⟩))
      go_ret2
      exact ⟨rfl, rfl⟩
    · obtain rfl : a = 0 := by omega
      clear h h1 hM ha h3 e2 e5
      go_enter Tryz.func90, Tryz.ntmps90
      go_wp2_with (first | (go_at_call 29; refine HG.out.mono ?_; rintro e w' ⟨rfl, rfl⟩))
      go_ret2
      exact ⟨by simp, rfl⟩
  · rename_i h
    subst hp
    have h0 : 0 < a := by
      rcases Nat.eq_zero_or_pos a with h0 | h0
      · subst h0; simp at h; omega
      · exact h0
    have e1 : q < b := (h3 h0).2 h
    have e0 : 0 < a := h0
    have e6 : ((a : Int) == 0) = false := by rw [beq_eq_false_iff_ne]; omega
    have e7 : ¬ ((a : Int) = 0) := by omega
    clear h h1 hM ha h3
    go_enter Tryz.func90, Tryz.ntmps90
    go_wp2_with (first | (go_at_call 29; refine HG.out.mono ?_; rintro e w' ⟨rfl, rfl⟩))
    go_ret2
    exact ⟨rfl, rfl⟩
theorem up_is (M n al : Nat) (hn : n < M) (hal : 0 < al) : Num.up M n al = Num.mul M (if n % al = 0 then n / al else n / al + 1) al := by
  have hd := Nat.div_add_mod n al
  rw [Nat.mul_comm] at hd
  unfold Num.up Num.mul Num.add
  rw [if_neg (by omega)]
  by_cases h : n % al = 0
  · rw [if_pos h, if_pos h]
    have e : n / al * al = n := by omega
    rw [e, if_pos hn]
  · rw [if_neg h, if_neg h]
    have e : (n / al + 1) * al = n - n % al + al := by rw [Nat.add_mul]; omega
    rw [e]
theorem rup_any (n al size M : Nat) (hn : n < M) (hal : al < M) (hs : size ≤ 8) (hM : M = 256 ^ size) (w : World) (p : Nat × Bool) (hp : Num.up M n al = p) :
    Calls Tryz.prog 92 #[.int .u64 (n : Nat), .int .u64 (al : Nat), .int .i64 (size : Nat)] w fun e w' => e = .returned (.tuple #[.int .u64 (p.1 : Nat), .bool p.2]) ∧ w = w' := by
  have h1 := (pow_le8 size hs)
  rw [← hM] at h1
  by_cases h0 : al = 0
  · subst h0
    unfold Num.up at hp
    rw [if_pos rfl] at hp
    subst hp
    clear h1 hM hn hal
    go_enter Tryz.func92, Tryz.ntmps92
    go_wp2_with fail
    go_ret2
    exact ⟨rfl, rfl⟩
  · rw [up_is M n al hn (by omega)] at hp
    have e0 : ((al : Int) == 0) = false := by rw [beq_eq_false_iff_ne]; omega
    have e7 : ¬ ((al : Int) = 0) := by omega
    obtain ⟨q, hq⟩ : ∃ q, q = n / al := ⟨_, rfl⟩
    obtain ⟨r, hr⟩ : ∃ r, r = n % al := ⟨_, rfl⟩
    have hqn : q ≤ n := by rw [hq]; exact Nat.div_le_self _ _
    have ew : IntKind.u64.wrap (q : Int) = (q : Int) := Num.wrapN _ (by omega)
    have ew2 : IntKind.u64.wrap (r : Int) = (r : Int) := Num.wrapN _ (by have := Nat.mod_le n al; omega)
    have e1 : ((n : Int) / (al : Int)) = (q : Int) := by rw [hq]; norm_cast
    have e2 : ((n : Int) % (al : Int)) = (r : Int) := by rw [hr]; norm_cast
    have e5 : ((n : Int).tdiv (al : Int)) = (q : Int) := by rw [hq]; norm_cast
    have e6 : ((n : Int).tmod (al : Int)) = (r : Int) := by rw [hr]; norm_cast
    by_cases hr0 : r = 0
    · have HC := Lib.hid (rmul_any q al size M (by omega) hs hM w p (by rw [← hp, if_pos (by omega), hq]))
      have e3 : r ≤ 0 := by omega
      clear hq hr hr0 hp h1 hM hn hal h0 hqn
      go_enter Tryz.func92, Tryz.ntmps92
      go_wp2_with (first | (go_at_call 90; refine HC.out.mono ?_; rintro e w' ⟨rfl, rfl⟩))
      go_ret2
      exact ⟨rfl, rfl⟩
    · have hq1 : q + 1 < 18446744073709551616 := by
        have hd := Nat.div_add_mod n al
        rw [← hq, ← hr] at hd
        have hq2 : q ≤ al * q := Nat.le_mul_of_pos_left q (by omega)
        omega
      have HC := Lib.hid (rmul_any (q + 1) al size M hq1 hs hM w p (by rw [← hp, if_neg (by omega), hq]))
      have e3 : 0 < r := by omega
      have e8 : IntKind.u64.wrap ((q : Int) + 1) = ((q + 1 : Nat) : Int) := by rw [IntKind.wrap_u64]; omega
      clear hq hr hr0 hp h1 hM hn hal h0 hqn hq1
      go_enter Tryz.func92, Tryz.ntmps92
      go_wp2_with (first | (go_at_call 90; refine HC.out.mono ?_; rintro e w' ⟨rfl, rfl⟩))
      go_ret2
      exact ⟨rfl, rfl⟩
end Go.Proofs.YtomjmapidjnpbaaGreat
