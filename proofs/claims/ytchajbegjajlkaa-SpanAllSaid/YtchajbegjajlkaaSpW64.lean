/- The walks of sets of numbers: a row's at, the closures, make. -/
import Derived.Test.YtchajbegjajlkaaEl
import Derived.Test.YtchajbegjajlkaaSpO
import Derived.Deep.Cut
import Derived.Deep.DeepCutAuto
import Derived.Deep.LoopGhost
set_option linter.unusedVariables false
set_option linter.unusedSimpArgs false
namespace Go.Proofs.Ytchajbegjajlkaa
open Go.RowKit
namespace S64
abbrev TOP : Nat := 18446744073709551615
def scell (x : Nat × Nat) : List Value := [.int .u64 (x.1 : Nat), .int .u64 (x.2 : Nat)]
theorem scell_len (s : Sp.S) : ∀ b ∈ s.map scell, b.length = 2 := by
  intro b h
  obtain ⟨x, _, rfl⟩ := List.mem_map.1 h
  rfl
theorem scell_one (s : Sp.S) : ∀ v ∈ (s.map scell).flatten, v.oneCell' = true := by
  intro v h
  obtain ⟨b, hb, hv⟩ := List.mem_flatten.1 h
  obtain ⟨x, _, rfl⟩ := List.mem_map.1 hb
  simp only [scell, List.mem_cons, List.not_mem_nil, or_false] at hv
  rcases hv with rfl | rfl <;> rfl
/-- a list of spans, read -/
def IsS (w : World) (B : Nat) (A : Option Addr) (n : Nat) (s : Sp.S) : Prop := Reads w B 2 A n (s.map scell).flatten ∧ s.length = n ∧ n ≤ 9223372036854775807
theorem IsS.below {w w' : World} {B n : Nat} {A : Option Addr} {s : Sp.S} (h : IsS w B A n s) (hb : Below B w w') : IsS w' B A n s := ⟨h.1.below hb, h.2⟩
theorem IsS.more {w : World} {B B' n : Nat} {A : Option Addr} {s : Sp.S} (h : IsS w B A n s) (hb : B ≤ B') : IsS w B' A n s := ⟨h.1.more hb, h.2⟩
theorem IsS.none_ {w : World} {B : Nat} {A : Option Addr} : IsS w B A 0 [] := ⟨⟨rfl, fun h => absurd h (by omega)⟩, rfl, by omega⟩
theorem IsS.form {w : World} {B n : Nat} {A : Option Addr} {s : Sp.S} (h : IsS w B A n s) : ∃ b o, Hid (0 < n → A = some ⟨b, o, none⟩ ∧ b < B ∧ ∀ i x, s[i]? = some x → w.cell? ⟨b, o + i * 2, none⟩ = some (.int .u64 (x.1 : Nat)) ∧ w.cell? ⟨b, o + i * 2 + 1, none⟩ = some (.int .u64 (x.2 : Nat))) := by
  obtain ⟨b, o, hf⟩ := el_form h.1 (scell_len s) (by rw [List.length_map]; exact h.2.1) (by decide)
  refine ⟨b, o, fun h0 => ?_⟩
  obtain ⟨h1, h2, h3⟩ := hf.out h0
  refine ⟨h1, h2, fun i x hx => ?_⟩
  have hr := h3 i (scell x) (by rw [List.getElem?_map, hx]; rfl)
  have r0 := hr 0 _ rfl
  have r1 := hr 1 _ rfl
  exact ⟨r0, r1⟩
/-- without its first span -/
theorem IsS.tail {w : World} {B n c : Nat} {A : Option Addr} {x : Nat × Nat} {s : Sp.S} (h : IsS w B A (n + 1) (x :: s)) (hc : n + 1 ≤ c) : IsS w B (if c = 1 then A else A.map (·.add 2)) n s := by
  have hl : s.length = n := by have := h.2.1; simp at this; exact this
  have := h.1.cut (k := 1) (cap := c) (by omega) hc
  rw [show n + 1 - 1 = n by omega, show (List.map scell (x :: s)).flatten.drop (1 * 2) = (s.map scell).flatten by rfl, Nat.one_mul] at this
  exact ⟨this, hl, by have := h.2.2; omega⟩
set_option maxRecDepth 100000 in
theorem none_any (a b : Nat) (w : World) : Calls Try.prog 48 #[.agg #[.int .u64 (a : Nat), .int .u64 (b : Nat)]] w fun e w' => e = .returned (.bool (decide (b < a))) ∧ Below w.heap.size w w' := by
  go_enter Try.func48, Try.ntmps48
  go_wp2_with fail
  go_ret
  exact ⟨by simp, (Below.refl _ _).alloc (Nat.le_refl _) _⟩
/-- what a closure of two bools tells -/
def Keeps (g : Nat) (f : Bool → Bool → Bool) : Prop := ∀ (a b : Bool) (w : World), Calls Try.prog g #[.bool a, .bool b] w fun e w' => e = .returned (.bool (f a b)) ∧ w = w'
set_option maxRecDepth 100000 in
theorem or_keeps : Keeps 33 (fun a b => a || b) := by
  intro a b w
  cases a
  all_goals
    go_enter Try.func33, Try.ntmps33
    go_wp2_with fail
    go_ret
    exact ⟨by simp, rfl⟩
set_option maxRecDepth 100000 in
theorem less_keeps : Keeps 52 (fun a b => a && !b) := by
  intro a b w
  cases a
  all_goals
    go_enter Try.func52, Try.ntmps52
    go_wp2_with fail
    go_ret
    exact ⟨by simp, rfl⟩
/-- a row over what is left of a list -/
def At (w0 w : World) (B g : Nat) (p : Nat) (s : Sp.S) (k : Nat) : Prop := ∃ A n c s', Row w g 90 [.slice A n c] ∧ IsS w B A n s' ∧ n ≤ c ∧ c ≤ 9223372036854775807 ∧ Sp.from_ s' p = Sp.from_ s p ∧ Chg [g] w0 w ∧ n < k
theorem from_cons_lt {x : Nat × Nat} {s : Sp.S} {p : Nat} (h : x.2 < p) : Sp.from_ (x :: s) p = Sp.from_ s p := by
  unfold Sp.from_
  rw [List.dropWhile_cons, if_pos (by simpa using h)]
theorem from_cons_ge {x : Nat × Nat} {s : Sp.S} {p : Nat} (h : ¬ x.2 < p) : Sp.from_ (x :: s) p = x :: s := by
  unfold Sp.from_
  rw [List.dropWhile_cons, if_neg (by simpa using h)]
set_option maxRecDepth 100000 in
set_option maxHeartbeats 1000000 in
theorem at_any (B g p : Nat) (A : Option Addr) (n c : Nat) (s : Sp.S) (w : World) (hr : Row w g 90 [.slice A n c]) (hs : IsS w B A n s) (hB : B ≤ g) (hc : n ≤ c) (hcm : c ≤ 9223372036854775807) (hn : Sp.Nrm TOP s) (hp : p ≤ TOP) :
    Calls Try.prog 51 #[.pointer (some ⟨g, 0, none⟩), .int .u64 (p : Nat)] w fun e w' => e = .returned (.tuple #[.bool (Sp.look TOP s p).1, .int .u64 ((Sp.look TOP s p).2 : Nat)]) ∧ ∃ A' n' c' , Row w' g 90 [.slice A' n' c'] ∧ IsS w' B A' n' (Sp.from_ s p) ∧ n' ≤ c' ∧ c' ≤ 9223372036854775807 ∧ Chg [g] w w' := by
  have HA0 : Hid (At w w B g p s (n + 1)) := Lib.hid ⟨A, n, c, s, hr, hs, hc, hcm, rfl, Chg.refl _ _, by omega⟩
  have HNR := Lib.hid hn
  have HLK : Hid (Sp.look TOP s p = match Sp.from_ s p with | [] => (false, TOP) | x :: _ => if p < x.1 then (false, x.1 - 1) else (true, x.2)) := Lib.hid rfl
  obtain ⟨R, hR⟩ : ∃ R, R = Sp.look TOP s p := ⟨_, rfl⟩
  rw [← hR] at HLK ⊢
  obtain ⟨R1, R2⟩ := R
  have HN := Lib.hid hn
  unfold TOP at hp
  clear hr hs hn hR hc hcm
  go_enter Try.func51, Try.ntmps51
  go_wp2_with fail
  go_loopg [] (n + 1) (fun k wr => Hid (At w wr B g p s k))
  case atStart => exact HA0
  case round =>
    clear HA0
    obtain ⟨A, n, c, s', hr, hs, hc, hcm, hfr, hch, hk⟩ := hrel.out
    have c0 := hr.cell 0
    have f0 := hr.frozen 0
    have hlt := hr.lt
    simp only [List.getElem?_cons_zero] at c0
    have HK : Hid (n < gk) := Lib.hid hk
    have HC := Lib.hid hch
    have HR := Lib.hid hr
    have HS := Lib.hid hs
    have HFR := Lib.hid hfr
    clear hrel hr hch hk hfr
    cases s' with
    | nil =>
      obtain rfl : n = 0 := hs.2.1.symm
      have HF : Hid (Sp.from_ s p = []) := Lib.hid HFR.out.symm
      have HRR : Hid (R1 = false ∧ R2 = 18446744073709551615) := Lib.hid (by
        have h := HLK.out
        rw [HF.out] at h
        injection h with h1 h2
        exact ⟨h1, h2⟩)
      clear hs
      have e1 : bits .xor .u64 0 18446744073709551615 = 18446744073709551615 := by decide
      go_wp2_with fail
      go_ret2
      refine ⟨by rw [HRR.out.1, HRR.out.2]; rfl, A, 0, c, HR.out, by rw [HF.out]; exact IsS.none_, by omega, hcm, HC.out⟩
    | cons x r =>
      obtain ⟨m, rfl⟩ : ∃ m, n = m + 1 := ⟨r.length, by have := hs.2.1; simp at this; omega⟩
      obtain ⟨b, o, hf⟩ := hs.form
      obtain ⟨hA, hbB, hcell⟩ := hf.out (by omega)
      subst hA
      obtain ⟨x0, x1⟩ := hcell 0 x rfl
      rw [Nat.zero_mul, Nat.add_zero] at x0 x1
      have hm63 : m + 1 ≤ 9223372036854775807 := hs.2.2
      have g1 : decide ((0 : Int) < (m : Int) + 1) = true := decide_eq_true (by omega)
      have g2 : (((m : Int) + 1) == 0) = false := by simp; omega
      have g3 : decide (0 < m + 1) = true := decide_eq_true (by omega)
      obtain ⟨xa, xb⟩ := x
      simp only at x0 x1
      clear hf hcell
      by_cases hx : xb < p
      · have g4 : decide (xb < p) = true := decide_eq_true hx
        have HNX := Lib.hid (hs.tail hc)
        have HFX : Hid (Sp.from_ r p = Sp.from_ s p) := Lib.hid (by rw [← HFR.out, from_cons_lt hx])
        clear hs hx
        by_cases h1 : c = 1
        · subst h1
          obtain rfl : m = 0 := by omega
          go_wp2_with fail
          go_roundg (gk - 1)
          case measure => have := HK.out; omega
          case rel => exact Lib.hid ⟨_, 0, 0, r, HR.out.set_ 0 _, ⟨HNX.out.1.setCell (by exact hB) _, HNX.out.2⟩, by omega, by omega, HFX.out, HC.out.set_ (p := ⟨g, 0, none⟩) (.inl (by simp)) _, by have := HK.out; omega⟩
        · have HNX2 : Hid (IsS wr B (some ⟨b, o + 2, none⟩) m r) := Lib.hid (by
            have h := HNX.out
            rw [if_neg h1] at h
            have e : (Option.map (fun x => x.add 2) (some (⟨b, o, none⟩ : Addr))) = some ⟨b, o + 2, none⟩ := by simp [Addr.add]
            rw [e] at h
            exact h)
          go_wp2_with fail
          go_roundg (gk - 1)
          case measure => have := HK.out; omega
          case rel => exact Lib.hid ⟨_, m, c - 1, r, HR.out.set_ 0 _, ⟨HNX2.out.1.setCell (by exact hB) _, HNX2.out.2⟩, by omega, by omega, HFX.out, HC.out.set_ (p := ⟨g, 0, none⟩) (.inl (by simp)) _, by have := HK.out; omega⟩
      · have g4 : decide (xb < p) = false := decide_eq_false hx
        have HF : Hid (Sp.from_ s p = (xa, xb) :: r) := Lib.hid (by rw [← HFR.out, from_cons_ge hx])
        have HLK2 : Hid ((R1, R2) = if p < xa then (false, xa - 1) else (true, xb)) := Lib.hid (by
          have h := HLK.out
          rw [HF.out] at h
          exact h)
        have HHN : Hid (xa ≤ xb ∧ xb ≤ 18446744073709551615) := Lib.hid (by
          have h := Sp.from_nrm HN.out p
          rw [HF.out] at h
          exact ⟨h.head.1, h.head.2.1⟩)
        clear hx hs
        by_cases hy : p < xa
        · have g5 : decide (p < xa) = true := decide_eq_true hy
          have HRR : Hid (R1 = false ∧ R2 = xa - 1) := Lib.hid (by
            have h := HLK2.out
            rw [if_pos hy] at h
            injection h with h1 h2
            exact ⟨h1, h2⟩)
          have e1 : IntKind.u64.wrap ((xa : Int) - 1) = ((xa - 1 : Nat) : Int) := by have := HHN.out; rw [IntKind.wrap_u64]; omega
          clear hy
          go_wp2_with fail
          go_quiet (fail)
          go_wp2_with fail
          go_ret2
          refine ⟨by rw [HRR.out.1, HRR.out.2]; rfl, _, m + 1, c, HR.out.drewN _, by rw [HF.out]; exact ⟨HS.out.1.drewN _, HS.out.2⟩, hc, hcm, HC.out.drewN _⟩
        · have g5 : decide (p < xa) = false := decide_eq_false hy
          have HRR : Hid (R1 = true ∧ R2 = xb) := Lib.hid (by
            have h := HLK2.out
            rw [if_neg hy] at h
            injection h with h1 h2
            exact ⟨h1, h2⟩)
          clear hy
          go_wp2_with fail
          go_quiet (fail)
          go_wp2_with fail
          go_ret2
          refine ⟨by rw [HRR.out.1, HRR.out.2]; rfl, _, m + 1, c, HR.out.drewN _, by rw [HF.out]; exact ⟨HS.out.1.drewN _, HS.out.2⟩, hc, hcm, HC.out.drewN _⟩
end S64
end Go.Proofs.Ytchajbegjajlkaa
