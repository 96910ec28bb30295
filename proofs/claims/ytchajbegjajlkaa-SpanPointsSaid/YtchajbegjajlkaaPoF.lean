/- The walk of the law's fit. -/
import Derived.Test.YtchajbegjajlkaaPoA
import Derived.Test.YtchajbegjajlkaaSpT8
set_option linter.unusedVariables false
set_option linter.unusedSimpArgs false
namespace Go.Proofs.Ytchajbegjajlkaa
open Go.RowKit
/-- so many points lie behind p -/
def okF (f : Nat → Bool) (p sz : Nat) : Prop := ∀ i, i < sz → p + i < 256 ∧ f (p + i) = true
/-- what is tried one by one -/
def FitL (f : Nat → Bool) (sz al : Nat) (R : Nat × Bool) : Prop := (sz = 0 ∨ al = 0 → R = (0, false)) ∧
  (sz ≠ 0 → al ≠ 0 → (R = (0, false) ∧ ∀ q, q < 256 → al ∣ q → ¬ okF f q sz) ∨ (∃ p, R = (p, true) ∧ p < 256 ∧ al ∣ p ∧ okF f p sz ∧ ∀ q, q < p → al ∣ q → ¬ okF f q sz))
def FitSaid (f : Nat → Bool) (sz al : Nat) (w : World) (e : Ending) (w' : World) : Prop := ∃ R, FitL f sz al R ∧ e = .returned (.tuple #[.int .i64 (R.1 : Nat), .bool R.2]) ∧ Below w.heap.size w w'
theorem dvd_next {al p q : Nat} (hp : al ∣ p) (hq : al ∣ q) (h1 : q < p + al) : q ≤ p := by
  obtain ⟨a, rfl⟩ := hp
  obtain ⟨b, rfl⟩ := hq
  have h2 : al * b < al * (a + 1) := by rw [Nat.mul_add, Nat.mul_one]; exact h1
  have h3 : b < a + 1 := Nat.lt_of_mul_lt_mul_left h2
  exact Nat.mul_le_mul_left _ (by omega)
set_option maxRecDepth 100000 in
set_option maxHeartbeats 2000000 in
theorem fitl_any (f : Nat → Bool) (sz al : Nat) (w : World) (hs : sz ≤ 255) (ha : al ≤ 255) :
    Calls Try.prog 19 #[.agg (ptV f).toArray, .int .i64 (sz : Nat), .int .i64 (al : Nat)] w (FitSaid f sz al w) := by
  obtain ⟨V, hV⟩ : ∃ V, V = ptV f := ⟨_, rfl⟩
  have HV := Lib.hid hV
  rw [← hV]
  clear hV
  go_enter Try.func19, Try.ntmps19
  go_upto_region 1 with fail
  have hr := Row.new w 45 V
  have hb : Below w.heap.size w (w.alloc (.cells V.toArray 45)) := (Below.refl _ _).alloc (Nat.le_refl _) _
  generalize w.alloc (.cells V.toArray 45) = w1 at *
  have HC : Hid (∀ i, i < 256 → w1.cell? ⟨w.heap.size, i, none⟩ = some (.bool (f i))) := Lib.hid (fun i hi => by rw [hr.cell, HV.out, ptV_get _ hi])
  have hl := hr.lt
  have HB := Lib.hid hb
  clear hr hb
  by_cases h0 : sz = 0
  · subst h0
    have hz : FitL f 0 al (0, false) := ⟨fun _ => rfl, fun h => absurd rfl h⟩
    have HZ := Lib.hid hz
    clear hz
    go_wp2_with fail
    go_ret2
    exact ⟨_, HZ.out, rfl, HB.out⟩
  have g0 : ((sz : Int) == 0) = false := by simp; omega
  by_cases h1 : al = 0
  · subst h1
    have hz : FitL f sz 0 (0, false) := ⟨fun _ => rfl, fun _ h => absurd rfl h⟩
    have HZ := Lib.hid hz
    clear hz h0
    go_wp2_with fail
    go_ret2
    exact ⟨_, HZ.out, rfl, HB.out⟩
  have g1 : ((al : Int) == 0) = false := by simp; omega
  have HS0 : Hid (sz ≠ 0 ∧ al ≠ 0) := Lib.hid ⟨h0, h1⟩
  have hs1 : 1 ≤ sz := by omega
  have ha1 : 1 ≤ al := by omega
  clear h0 h1
  go_wp2_with fail
  go_loopw [8] (fun z wr => ∃ p : Nat, p ≤ 600 ∧ z = .int .i64 (p : Nat) ∧ wr = w1 ∧ Hid (al ∣ p ∧ ∀ q, q < p → q < 256 → al ∣ q → ¬ okF f q sz)) (fun z _ => 256 - (intOf z).toNat)
  case atStart => exact ⟨0, by omega, rfl, rfl, Lib.hid ⟨Nat.dvd_zero _, fun q hq => by omega⟩⟩
  case round =>
  obtain ⟨p, hp6, rfl, rfl, HP⟩ := hrel
  by_cases hp : p < 256
  · have f0 : decide ((p : Int) < 256) = true := decide_eq_true (by omega)
    go_wp2_with fail
    go_loopw [9] (fun z wx => ∃ n : Nat, n ≤ sz ∧ z = .int .i64 (n : Nat) ∧ wx = wr ∧ Hid (∀ i, i < n → p + i < 256 ∧ f (p + i) = true)) (fun z _ => sz - (intOf z).toNat)
    case atStart => exact ⟨0, by omega, rfl, rfl, Lib.hid (fun i hi => by omega)⟩
    case round =>
    obtain ⟨n, hn, rfl, rfl, HN⟩ := hrel
    obtain ⟨k, hk⟩ : ∃ k, k = p + n := ⟨_, rfl⟩
    have HK := Lib.hid hk
    have e1 : (p : Int) + (n : Int) = (k : Int) := by omega
    have hk0 : (0 : Int) ≤ (k : Int) := by omega
    have hk9 : k ≤ 1000 := by omega
    clear hk
    by_cases h1 : k < 256
    · have f1 : decide ((k : Int) < 256) = true := decide_eq_true (by omega)
      have hk8 : (k : Int) < 256 := by omega
      have c0 := HC.out k h1
      cases hf : f k with
      | false =>
        rw [hf] at c0
        have HX : Hid (n < sz → ¬ okF f p sz) := Lib.hid (fun h ho => by have := (ho n h).2; rw [← HK.out, hf] at this; cases this)
        clear hf
        by_cases hz : n = sz
        · have g9 : ((n : Int) == (sz : Int)) = true := by simp; omega
          have HZ : Hid (FitL f sz al (p, true)) := Lib.hid ⟨fun h => absurd h (fun h => h.elim HS0.out.1 HS0.out.2), fun _ _ => .inr ⟨p, rfl, hp, HP.out.1, fun i hi => HN.out i (by omega), fun q hq hd => HP.out.2 q hq (by omega) hd⟩⟩
          clear hz
          go_wp2_with fail
          go_ret2
          exact ⟨_, HZ.out, rfl, HB.out⟩
        · have g9 : ((n : Int) == (sz : Int)) = false := by simp; omega
          have HY : Hid (al ∣ p + al ∧ ∀ q, q < p + al → q < 256 → al ∣ q → ¬ okF f q sz) := Lib.hid ⟨Nat.dvd_add HP.out.1 (Nat.dvd_refl _), fun q hq h8 hd => by
            have h := dvd_next HP.out.1 hd hq
            by_cases e : q = p
            · subst e; exact HX.out (by omega)
            · exact HP.out.2 q (by omega) h8 hd⟩
          clear hz
          go_wp2_with fail
          go_roundw
          case rel => exact ⟨p + al, by omega, by go_num, by trivial, HY⟩
          case measure => simp [intOf]; omega
      | true =>
        rw [hf] at c0
        by_cases h3 : n < sz
        · have f3 : decide (n < sz) = true := decide_eq_true h3
          have HN2 : Hid (∀ i, i < n + 1 → p + i < 256 ∧ f (p + i) = true) := Lib.hid (fun i hi => by
            by_cases e : i = n
            · subst e; rw [← HK.out]; exact ⟨h1, hf⟩
            · exact HN.out i (by omega))
          clear hf
          go_wp2_with fail
          go_roundw
          case rel => exact ⟨n + 1, by omega, by go_num, by trivial, HN2⟩
          case measure => simp [intOf]; omega
        · have f3 : decide (n < sz) = false := decide_eq_false h3
          have HX : Hid (n < sz → ¬ okF f p sz) := Lib.hid (fun h => absurd h h3)
          clear hf
          by_cases hz : n = sz
          · have g9 : ((n : Int) == (sz : Int)) = true := by simp; omega
            have HZ : Hid (FitL f sz al (p, true)) := Lib.hid ⟨fun h => absurd h (fun h => h.elim HS0.out.1 HS0.out.2), fun _ _ => .inr ⟨p, rfl, hp, HP.out.1, fun i hi => HN.out i (by omega), fun q hq hd => HP.out.2 q hq (by omega) hd⟩⟩
            clear hz
            go_wp2_with fail
            go_ret2
            exact ⟨_, HZ.out, rfl, HB.out⟩
          · have g9 : ((n : Int) == (sz : Int)) = false := by simp; omega
            have HY : Hid (al ∣ p + al ∧ ∀ q, q < p + al → q < 256 → al ∣ q → ¬ okF f q sz) := Lib.hid ⟨Nat.dvd_add HP.out.1 (Nat.dvd_refl _), fun q hq h8 hd => by
              have h := dvd_next HP.out.1 hd hq
              by_cases e : q = p
              · subst e; exact HX.out (by omega)
              · exact HP.out.2 q (by omega) h8 hd⟩
            clear hz
            go_wp2_with fail
            go_roundw
            case rel => exact ⟨p + al, by omega, by go_num, by trivial, HY⟩
            case measure => simp [intOf]; omega
    · have f1 : decide ((k : Int) < 256) = false := decide_eq_false (by omega)
      have HX : Hid (n < sz → ¬ okF f p sz) := Lib.hid (fun h ho => by have := (ho n h).1; have := HK.out; omega)
      by_cases hz : n = sz
      · have g9 : ((n : Int) == (sz : Int)) = true := by simp; omega
        have HZ : Hid (FitL f sz al (p, true)) := Lib.hid ⟨fun h => absurd h (fun h => h.elim HS0.out.1 HS0.out.2), fun _ _ => .inr ⟨p, rfl, hp, HP.out.1, fun i hi => HN.out i (by omega), fun q hq hd => HP.out.2 q hq (by omega) hd⟩⟩
        clear hz
        go_wp2_with fail
        go_ret2
        exact ⟨_, HZ.out, rfl, HB.out⟩
      · have g9 : ((n : Int) == (sz : Int)) = false := by simp; omega
        have HY : Hid (al ∣ p + al ∧ ∀ q, q < p + al → q < 256 → al ∣ q → ¬ okF f q sz) := Lib.hid ⟨Nat.dvd_add HP.out.1 (Nat.dvd_refl _), fun q hq h8 hd => by
          have h := dvd_next HP.out.1 hd hq
          by_cases e : q = p
          · subst e; exact HX.out (by omega)
          · exact HP.out.2 q (by omega) h8 hd⟩
        clear hz
        go_wp2_with fail
        go_roundw
        case rel => exact ⟨p + al, by omega, by go_num, by trivial, HY⟩
        case measure => simp [intOf]; omega
  · have f0 : decide ((p : Int) < 256) = false := decide_eq_false (by omega)
    have HZ : Hid (FitL f sz al (0, false)) := Lib.hid ⟨fun h => absurd h (fun h => h.elim HS0.out.1 HS0.out.2), fun _ _ => .inl ⟨rfl, fun q hq hd => HP.out.2 q (by omega) hq hd⟩⟩
    go_wp2_with fail
    go_ret2
    exact ⟨_, HZ.out, rfl, HB.out⟩
end Go.Proofs.Ytchajbegjajlkaa
