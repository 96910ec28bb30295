/- The walk of bus.each, once for each closure that is handed to it. -/
import Derived.Test.YtmhkmemaneopeaaBuK
set_option linter.unusedVariables false
set_option linter.unusedSimpArgs false
namespace Go.Proofs.Ytmhkmemaneopeaa
open Go.RowKit
open S64
namespace Bu
/-- how many bytes of the page are meant -/
def eachK (at_ n d : Nat) : Nat := min (4096 - (at_ + d) % 4096) (n - d)
theorem eachK_pos {at_ n d : Nat} (h : d < n) : 0 < eachK at_ n d ∧ d + eachK at_ n d ≤ n ∧ (at_ + d) % 4096 + eachK at_ n d ≤ 4096 := by
  unfold eachK
  omega
set_option maxRecDepth 100000 in
set_option maxHeartbeats 1000000 in
theorem each_bytes (c1 c2 : Nat) (at_ n : Nat) (Inv : Nat → World → Prop) (w : World) (h64 : n = 0 ∨ at_ + n ≤ 4503599627370496) (ha : at_ ≤ TOP) (hi : Inv 0 w)
    (hcall : ∀ d wx, Inv d wx → d < n → Calls Try.prog 72 #[.int .u64 (((at_ + d) / 4096 : Nat) : Int), .int .i64 (((at_ + d) % 4096 : Nat) : Int), .int .i64 (eachK at_ n d : Nat), .int .i64 (d : Nat), .pointer (some ⟨c1, 0, none⟩), .pointer (some ⟨c2, 0, none⟩)] wx fun e w' => e = .returned (.tuple #[]) ∧ Inv (d + eachK at_ n d) w') :
    Calls Try.prog 62 #[.int .u64 (at_ : Nat), .int .i64 (n : Nat), .func (.func 72) #[] #[.pointer (some ⟨c1, 0, none⟩), .pointer (some ⟨c2, 0, none⟩)]] w fun e w' => e = .returned (.tuple #[]) ∧ Inv n w' := by
  have HC := Lib.hid hcall
  have HI := Lib.hid hi
  have H64 := Lib.hid h64
  clear hcall hi h64
  go_enter Try.func62, Try.ntmps62
  go_wp2_with fail
  go_loopw [6] (fun i wr => ∃ d : Nat, d ≤ n ∧ i = .int .i64 (d : Nat) ∧ Hid (Inv d wr)) (fun i _ => n - (intOf i).toNat)
  case atStart => exact ⟨0, Nat.zero_le _, rfl, HI⟩
  case round =>
    clear HI
    obtain ⟨d, hd, rfl, HI⟩ := hrel
    by_cases hlt : d < n
    · have hA : at_ + d ≤ 4503599627370496 := by rcases H64.out with h | h <;> omega
      obtain ⟨f, hf⟩ : ∃ f, f = (at_ + d) % 4096 := ⟨_, rfl⟩
      obtain ⟨q, hq⟩ : ∃ q, q = (at_ + d) / 4096 := ⟨_, rfl⟩
      obtain ⟨k, hk⟩ : ∃ k, k = eachK at_ n d := ⟨_, rfl⟩
      have hn : n ≤ 4503599627370496 := by rcases H64.out with h | h <;> omega
      have e2 : ((at_ : Int) + (d : Int)) % 4096 = (f : Int) := by omega
      have e3 : ((at_ : Int) + (d : Int)) / 4096 = (q : Int) := by omega
      have hfb : f < 4096 := by omega
      have hqb : q ≤ 4503599627370496 := by omega
      have e4 : min ((4096 : Int) - (f : Int)) ((n : Int) - (d : Int)) = (k : Int) := by rw [hk, eachK, ← hf]; omega
      have hk3 := eachK_pos (at_ := at_) hlt
      rw [← hk] at hk3
      have hkb : k ≤ 4096 := by omega
      have hkn : d + k ≤ n := hk3.2.1
      have HK := Lib.hid hk3
      have HCA := HC.out d _ HI.out hlt
      rw [← hf, ← hq, ← hk] at HCA
      have HCB := Lib.hid HCA
      have HE4 := Lib.hid e4
      clear HCA hk3 hf hq hk e4
      by_cases hle : (n : Int) - (d : Int) < 4096 - (f : Int)
      · have hk4 : ((k : Nat) : Int) = (n : Int) - (d : Int) := by have := HE4.out; omega
        have HK4 := Lib.hid hk4
        have H1 := HCB.out
        rw [hk4] at H1
        clear hk4
        have HC2 := Lib.hid H1
        clear H1
        go_wp2_with fail
        refine HC2.out.mono ?_
        rintro e w2 ⟨rfl, hI⟩
        have HI2 := Lib.hid hI
        clear hI HC2 HCB
        go_wp2_with fail
        go_roundw
        case rel => exact ⟨d + k, hkn, by rw [Int.natCast_add, HK4.out], HI2⟩
        case measure => have := HK.out; have := HK4.out; simp [intOf]; omega
      · have hk4 : ((k : Nat) : Int) = 4096 - (f : Int) := by have := HE4.out; omega
        have HK4 := Lib.hid hk4
        have H1 := HCB.out
        rw [hk4] at H1
        clear hk4
        have HC2 := Lib.hid H1
        clear H1
        go_wp2_with fail
        refine HC2.out.mono ?_
        rintro e w2 ⟨rfl, hI⟩
        have HI2 := Lib.hid hI
        clear hI HC2 HCB
        go_wp2_with fail
        go_roundw
        case rel => exact ⟨d + k, hkn, by rw [Int.natCast_add, HK4.out], HI2⟩
        case measure => have := HK.out; have := HK4.out; simp [intOf]; omega
    · have HD : Hid (d = n) := Lib.hid (by omega)
      go_wp2_with fail
      go_end0
      refine ⟨rfl, ?_⟩
      have := HI.out
      rw [HD.out] at this
      exact this
set_option maxRecDepth 100000 in
set_option maxHeartbeats 1000000 in
theorem each_lay (c1 c2 : Nat) (at_ n : Nat) (Inv : Nat → World → Prop) (w : World) (h64 : n = 0 ∨ at_ + n ≤ 4503599627370496) (ha : at_ ≤ TOP) (hi : Inv 0 w)
    (hcall : ∀ d wx, Inv d wx → d < n → Calls Try.prog 63 #[.int .u64 (((at_ + d) / 4096 : Nat) : Int), .int .i64 (((at_ + d) % 4096 : Nat) : Int), .int .i64 (eachK at_ n d : Nat), .int .i64 (d : Nat), .pointer (some ⟨c1, 0, none⟩), .pointer (some ⟨c2, 0, none⟩)] wx fun e w' => e = .returned (.tuple #[]) ∧ Inv (d + eachK at_ n d) w') :
    Calls Try.prog 62 #[.int .u64 (at_ : Nat), .int .i64 (n : Nat), .func (.func 63) #[] #[.pointer (some ⟨c1, 0, none⟩), .pointer (some ⟨c2, 0, none⟩)]] w fun e w' => e = .returned (.tuple #[]) ∧ Inv n w' := by
  have HC := Lib.hid hcall
  have HI := Lib.hid hi
  have H64 := Lib.hid h64
  clear hcall hi h64
  go_enter Try.func62, Try.ntmps62
  go_wp2_with fail
  go_loopw [6] (fun i wr => ∃ d : Nat, d ≤ n ∧ i = .int .i64 (d : Nat) ∧ Hid (Inv d wr)) (fun i _ => n - (intOf i).toNat)
  case atStart => exact ⟨0, Nat.zero_le _, rfl, HI⟩
  case round =>
    clear HI
    obtain ⟨d, hd, rfl, HI⟩ := hrel
    by_cases hlt : d < n
    · have hA : at_ + d ≤ 4503599627370496 := by rcases H64.out with h | h <;> omega
      obtain ⟨f, hf⟩ : ∃ f, f = (at_ + d) % 4096 := ⟨_, rfl⟩
      obtain ⟨q, hq⟩ : ∃ q, q = (at_ + d) / 4096 := ⟨_, rfl⟩
      obtain ⟨k, hk⟩ : ∃ k, k = eachK at_ n d := ⟨_, rfl⟩
      have hn : n ≤ 4503599627370496 := by rcases H64.out with h | h <;> omega
      have e2 : ((at_ : Int) + (d : Int)) % 4096 = (f : Int) := by omega
      have e3 : ((at_ : Int) + (d : Int)) / 4096 = (q : Int) := by omega
      have hfb : f < 4096 := by omega
      have hqb : q ≤ 4503599627370496 := by omega
      have e4 : min ((4096 : Int) - (f : Int)) ((n : Int) - (d : Int)) = (k : Int) := by rw [hk, eachK, ← hf]; omega
      have hk3 := eachK_pos (at_ := at_) hlt
      rw [← hk] at hk3
      have hkb : k ≤ 4096 := by omega
      have hkn : d + k ≤ n := hk3.2.1
      have HK := Lib.hid hk3
      have HCA := HC.out d _ HI.out hlt
      rw [← hf, ← hq, ← hk] at HCA
      have HCB := Lib.hid HCA
      have HE4 := Lib.hid e4
      clear HCA hk3 hf hq hk e4
      by_cases hle : (n : Int) - (d : Int) < 4096 - (f : Int)
      · have hk4 : ((k : Nat) : Int) = (n : Int) - (d : Int) := by have := HE4.out; omega
        have HK4 := Lib.hid hk4
        have H1 := HCB.out
        rw [hk4] at H1
        clear hk4
        have HC2 := Lib.hid H1
        clear H1
        go_wp2_with fail
        refine HC2.out.mono ?_
        rintro e w2 ⟨rfl, hI⟩
        have HI2 := Lib.hid hI
        clear hI HC2 HCB
        go_wp2_with fail
        go_roundw
        case rel => exact ⟨d + k, hkn, by rw [Int.natCast_add, HK4.out], HI2⟩
        case measure => have := HK.out; have := HK4.out; simp [intOf]; omega
      · have hk4 : ((k : Nat) : Int) = 4096 - (f : Int) := by have := HE4.out; omega
        have HK4 := Lib.hid hk4
        have H1 := HCB.out
        rw [hk4] at H1
        clear hk4
        have HC2 := Lib.hid H1
        clear H1
        go_wp2_with fail
        refine HC2.out.mono ?_
        rintro e w2 ⟨rfl, hI⟩
        have HI2 := Lib.hid hI
        clear hI HC2 HCB
        go_wp2_with fail
        go_roundw
        case rel => exact ⟨d + k, hkn, by rw [Int.natCast_add, HK4.out], HI2⟩
        case measure => have := HK.out; have := HK4.out; simp [intOf]; omega
    · have HD : Hid (d = n) := Lib.hid (by omega)
      go_wp2_with fail
      go_end0
      refine ⟨rfl, ?_⟩
      have := HI.out
      rw [HD.out] at this
      exact this
end Bu
end Go.Proofs.Ytmhkmemaneopeaa
