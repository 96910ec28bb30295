/- The walks of pages.unit, ends, right. -/
import Derived.Test.YtblfagmoilhdnaaPgM
import Derived.Test.YtblfagmoilhdnaaPgE
set_option linter.unusedVariables false
set_option linter.unusedSimpArgs false
namespace Go.Proofs.Ytblfagmoilhdnaa
open Go.RowKit

def lcells (r : Pg.Lf) : List Value := [.int .u64 (r.v : Nat), .int .u64 (r.p : Nat), .int .i64 r.n, .bool r.b, .bool r.w, .bool r.x]
def lfV (r : Pg.Lf) : Value := .agg #[.int .u64 (r.v : Nat), .int .u64 (r.p : Nat), .int .i64 r.n, .bool r.b, .bool r.w, .bool r.x]
/-- numbers as their fields hold them -/
def Pg.Lf.In (r : Pg.Lf) : Prop := r.v < 18446744073709551616 ∧ r.p < 18446744073709551616 ∧ -9223372036854775808 ≤ r.n ∧ r.n < 9223372036854775808
/-- the slice reads as these rows -/
def IsL (w : World) (B : Nat) (A : Option Addr) (n : Nat) (rows : List Pg.Lf) : Prop := Reads w B 6 A n (rows.flatMap lcells) ∧ (∀ r ∈ rows, r.In) ∧ rows.length = n ∧ n ≤ 9223372036854775807
theorem IsL.below {w w' : World} {B n : Nat} {A : Option Addr} {rows : List Pg.Lf} (h : IsL w B A n rows) (hb : Below B w w') : IsL w' B A n rows := ⟨h.1.below hb, h.2⟩
theorem IsL.more {w : World} {B B' n : Nat} {A : Option Addr} {rows : List Pg.Lf} (h : IsL w B A n rows) (hb : B ≤ B') : IsL w B' A n rows := ⟨h.1.more hb, h.2⟩
theorem lcells_len (r : Pg.Lf) : (lcells r).length = 6 := rfl
theorem flat_at {α β : Type} (f : α → List β) (sz : Nat) (hf : ∀ a, (f a).length = sz) : ∀ (xs : List α) (k j : Nat) (a : α), xs[k]? = some a → j < sz → (xs.flatMap f)[sz * k + j]? = (f a)[j]?
  | [], k, j, a, h, _ => by simp at h
  | x :: xs, 0, j, a, h, hj => by
    simp at h; subst h
    rw [List.flatMap_cons, Nat.mul_zero, Nat.zero_add, List.getElem?_append_left (by rw [hf]; exact hj)]
  | x :: xs, k + 1, j, a, h, hj => by
    rw [List.flatMap_cons, List.getElem?_append_right (by rw [hf, Nat.mul_succ]; omega), hf, Nat.mul_succ, show sz * k + sz + j - sz = sz * k + j by omega]
    exact flat_at f sz hf xs k j a (by simpa using h) hj
/-- where its cells lie -/
theorem IsL.form {w : World} {B n : Nat} {A : Option Addr} {rows : List Pg.Lf} (h : IsL w B A n rows) :
    ∃ b off, Hid (0 < n → A = some ⟨b, off, none⟩ ∧ b < B ∧ ∀ k r, rows[k]? = some r → ∀ j u, (lcells r)[j]? = some u → w.cell? ⟨b, off + k * 6 + j, none⟩ = some u) := by
  rcases Nat.eq_zero_or_pos n with h0 | h0
  · exact ⟨0, 0, fun h => absurd h (by omega)⟩
  · obtain ⟨⟨b, off, sp⟩, rfl, hb, hc⟩ := h.1.2 h0
    have hx : ∀ k r, rows[k]? = some r → ∀ j u, (lcells r)[j]? = some u → (rows.flatMap lcells)[6 * k + j]? = some u := fun k r hr j u hu => by
      rw [flat_at lcells 6 lcells_len rows k j r hr (List.getElem?_eq_some_iff.1 hu).1, hu]
    have hl := h.2.2.1
    have hs : sp = none := by
      have h0r : ∃ r, rows[0]? = some r := ⟨_, List.getElem?_eq_getElem (by omega)⟩
      obtain ⟨r, hr⟩ := h0r
      have := World.cell?_spot (hc 0 _ (hx 0 r hr 0 _ rfl))
      simpa [Addr.add] using this
    subst hs
    refine ⟨b, off, fun _ => ⟨rfl, hb, fun k r hr j u hu => ?_⟩⟩
    have := hc _ _ (hx k r hr j u hu)
    rw [show off + k * 6 + j = off + (6 * k + j) by omega]
    unfold Addr.add at this
    split at this
    · rename_i h0; rw [h0, Nat.add_zero]; exact this
    · exact this
set_option maxRecDepth 100000 in
theorem unit_any (r : Pg.Lf) (w : World) : Calls Try.prog 66 #[lfV r] w fun e w' => e = .returned (.int .u64 (r.u : Nat)) ∧ Below w.heap.size w w' := by
  unfold lfV
  have hu : r.u = if r.b then 2097152 else 4096 := rfl
  cases hb : r.b
  · rw [hb] at hu
    have HU := Lib.hid hu
    clear hu hb
    go_enter Try.func66, Try.ntmps66
    go_wp2
    go_ret
    exact ⟨by rw [HU.out]; rfl, (Below.refl _ _).alloc (Nat.le_refl _) _⟩
  · rw [hb] at hu
    have HU := Lib.hid hu
    clear hu hb
    go_enter Try.func66, Try.ntmps66
    go_wp2
    go_ret
    exact ⟨by rw [HU.out]; rfl, (Below.refl _ _).alloc (Nat.le_refl _) _⟩
def Pg.endsB (a : Nat) (n most : Nat) : Bool := !(decide (most ≤ a) || decide ((most - a) / 4096 < n))
theorem ends_ok (a n most : Nat) (w : World) (h1 : a < most) (h2 : n ≤ (most - a) / 4096) (hm : most ≤ 549755813888) :
    Calls Try.prog 42 #[.int .u64 (a : Nat), .int .i64 (n : Nat), .int .u64 (most : Nat)] w fun e w' => e = .returned (.tuple #[.int .u64 ((a + n * 4096 : Nat) : Int), .bool true]) ∧ w = w' := by
  have e0 : decide ((most : Nat) ≤ a) = false := decide_eq_false (by omega)
  have e1 : IntKind.u64.wrap (n : Int) = (n : Int) := by rw [IntKind.wrap_u64]; omega
  have e2 : ((most : Int) - (a : Int)) % 18446744073709551616 = ((most - a : Nat) : Int) := by omega
  have HA : Hid ((a : Int) + (n : Int) * 4096 = ((a + n * 4096 : Nat) : Int)) := Lib.hid (by omega)
  go_enter Try.func42, Try.ntmps42
  go_wp2
  go_ret2
  exact ⟨by rw [← HA.out]; rfl, rfl⟩
theorem ends_no (a n most : Nat) (w : World) (h : most ≤ a ∨ (most - a) / 4096 < n) (hm : most ≤ 549755813888) (ha : a < 18446744073709551616) (hn : n < 9223372036854775808) :
    Calls Try.prog 42 #[.int .u64 (a : Nat), .int .i64 (n : Nat), .int .u64 (most : Nat)] w fun e w' => e = .returned (.tuple #[.int .u64 0, .bool false]) ∧ w = w' := by
  by_cases h1 : most ≤ a
  · have e0 : decide ((most : Nat) ≤ a) = true := decide_eq_true h1
    clear h
    go_enter Try.func42, Try.ntmps42
    go_wp2
    go_ret2
    exact ⟨rfl, rfl⟩
  · have e0 : decide ((most : Nat) ≤ a) = false := decide_eq_false h1
    have h2 : (most - a) / 4096 < n := by omega
    have e1 : IntKind.u64.wrap (n : Int) = (n : Int) := by rw [IntKind.wrap_u64]; omega
    have e2 : ((most : Int) - (a : Int)) % 18446744073709551616 = ((most - a : Nat) : Int) := by omega
    have e3 : decide (((most : Int) - (a : Int)) / 4096 < (n : Int)) = true := decide_eq_true (by omega)
    clear h
    go_enter Try.func42, Try.ntmps42
    go_wp2
    all_goals
      go_ret2
      exact ⟨rfl, rfl⟩
theorem right_eq (bh v p nm : Nat) (b w x : Bool) (rs : List Pg.Lf) : Pg.right bh (⟨v, p, (nm : Nat), b, w, x⟩ :: rs) =
    if (nm : Int) < 1 ∨ nm * 4096 % Pg.Lf.u ⟨v, p, (nm : Nat), b, w, x⟩ ≠ 0 then 32
    else if v % Pg.Lf.u ⟨v, p, (nm : Nat), b, w, x⟩ ≠ 0 ∨ p % Pg.Lf.u ⟨v, p, (nm : Nat), b, w, x⟩ ≠ 0 then 33
    else if 549755813888 ≤ v ∨ (549755813888 - v) / 4096 < nm then 40
    else if 4294967296 ≤ p ∨ (4294967296 - p) / 4096 < nm then 34
    else if v < bh then 120
    else Pg.right (v + nm * 4096) rs := rfl
set_option maxRecDepth 100000 in
set_option maxHeartbeats 1000000 in
theorem right_any (A : Option Addr) (n c : Nat) (rows : List Pg.Lf) (w : World) (hr : IsL w w.heap.size A n rows) :
    Calls Try.prog 53 #[.slice A n c] w fun e w' => e = .returned (.int .i64 (Pg.right 0 rows : Nat)) ∧ Below w.heap.size w w' := by
  obtain ⟨b, off, HF⟩ := hr.form
  have HL := Lib.hid hr.2.2.1
  have HIN := Lib.hid hr.2.1
  have hn := hr.2.2.2
  clear hr
  go_enter Try.func53, Try.ntmps53
  go_wp2
  go_loopw [3, 13] (fun h i wr => ∃ k bh : Nat, k ≤ n ∧ i = .int .i64 k ∧ h = .int .u64 bh ∧ Hid (bh ≤ 549755813888) ∧ Hid (Pg.right bh (rows.drop k) = Pg.right 0 rows) ∧ Hid (Below w.heap.size w wr)) (fun _ i _ => n - (intOf i).toNat)
  case atStart => exact ⟨0, 0, by omega, rfl, rfl, Lib.hid (by omega), Lib.hid rfl, Lib.hid (Below.refl _ _)⟩
  case round =>
    obtain ⟨k, bh, hk, rfl, rfl, HBH, HR, HB⟩ := hrel
    by_cases hkn : k < n
    · obtain ⟨hA, hbB, hc⟩ := HF.out (by omega)
      subst hA
      obtain ⟨r, hrk⟩ : ∃ r, rows[k]? = some r := ⟨_, List.getElem?_eq_getElem (by have := HL.out; omega)⟩
      have hIn := HIN.out r (List.mem_of_getElem? hrk)
      have hd : rows.drop k = r :: rows.drop (k + 1) := by
        obtain ⟨hlt, he⟩ := List.getElem?_eq_some_iff.1 hrk
        rw [List.drop_eq_getElem_cons hlt, he]
      have c0 := (HB.out.cell (p := ⟨b, off + k * 6, none⟩) hbB).trans (hc k r hrk 0 _ rfl)
      have c1 := (HB.out.cell (p := ⟨b, off + k * 6 + 1, none⟩) hbB).trans (hc k r hrk 1 _ rfl)
      have c2 := (HB.out.cell (p := ⟨b, off + k * 6 + 2, none⟩) hbB).trans (hc k r hrk 2 _ rfl)
      have c3 := (HB.out.cell (p := ⟨b, off + k * 6 + 3, none⟩) hbB).trans (hc k r hrk 3 _ rfl)
      have c4 := (HB.out.cell (p := ⟨b, off + k * 6 + 4, none⟩) hbB).trans (hc k r hrk 4 _ rfl)
      have c5 := (HB.out.cell (p := ⟨b, off + k * 6 + 5, none⟩) hbB).trans (hc k r hrk 5 _ rfl)
      obtain ⟨v, p, m, bg, wt, ex⟩ := r
      clear hc
      go_wp2_with fail
      obtain ⟨g, hg⟩ : ∃ g, g = wr.heap.size := ⟨_, rfl⟩
      have hrow := Row.new wr 47 (lcells ⟨v, p, m, bg, wt, ex⟩)
      have hba : Below w.heap.size w (wr.alloc (.cells (lcells ⟨v, p, m, bg, wt, ex⟩).toArray 47)) := HB.out.alloc HB.out.size _
      have hbs := HB.out.size
      unfold lcells at hrow hba
      refine (unit_any ⟨v, p, m, bg, wt, ex⟩ _).mono ?_
      rintro e w2 ⟨rfl, hb2⟩
      have hrow2 := hrow.below hb2 hrow.lt
      have hba2 := hba.trans (hb2.mono (Nat.le_trans HB.out.size (by simp)))
      rw [← hg] at hrow2 ⊢
      have d0 := hrow2.cell 0
      have d1 := hrow2.cell 1
      have d2 := hrow2.cell 2
      have d3 := hrow2.cell 3
      have d4 := hrow2.cell 4
      have d5 := hrow2.cell 5
      simp at d0 d1 d2 d3 d4 d5
      have hgl := hrow2.lt
      obtain ⟨U, hU⟩ : ∃ U, U = Pg.Lf.u ⟨v, p, m, bg, wt, ex⟩ := ⟨_, rfl⟩
      have hU0 : 0 < U := by rw [hU]; rcases Pg.Lf.u_or ⟨v, p, m, bg, wt, ex⟩ with h | h <;> rw [h] <;> omega
      have hUU : U = 2097152 ∨ U = 4096 := by rw [hU]; exact Pg.Lf.u_or _
      rw [← hU]
      have HU := Lib.hid hU
      have HB2 := Lib.hid hba2
      have HUU := Lib.hid hUU
      have HRK := Lib.hid hrk
      have HD := Lib.hid hd
      have HI := Lib.hid hIn
      have hIn1 := hIn.1; have hIn2 := hIn.2.1; have hIn3 := hIn.2.2.1; have hIn4 := hIn.2.2.2
      simp only at hIn1 hIn2 hIn3 hIn4
      clear hrow hba hb2 hrow2 hba2 hU hUU hrk hd hIn hg c0 c1 c2 c3 c4 c5 HF HB
      by_cases q1 : m < 1
      · go_wp2_with fail
        go_ret
        refine ⟨?_, HB2.out⟩
        rw [← HR.out, HD.out]
        unfold Pg.right
        rw [if_pos (.inl q1)]
        rfl
      obtain ⟨nm, rfl⟩ : ∃ nm : Nat, m = nm := ⟨m.toNat, by omega⟩
      have q1' : decide ((nm : Int) < 1) = false := decide_eq_false q1
      have e1 : IntKind.u64.wrap (nm : Int) = (nm : Int) := by rw [IntKind.wrap_u64]; omega
      obtain ⟨Y, hY⟩ : ∃ Y, Y = nm * 4096 % 18446744073709551616 := ⟨_, rfl⟩
      have e2 : (nm : Int) * 4096 % 18446744073709551616 = (Y : Int) := by rw [hY]; omega
      have e2' : IntKind.u64.wrap ((nm : Int) * 4096) = (Y : Int) := by rw [IntKind.wrap_u64]; exact e2
      have hYU : Y % U = nm * 4096 % U := by
        rw [hY]
        rcases HUU.out with h | h <;> rw [h] <;> omega
      have HYU := Lib.hid hYU
      have hYm : (Y : Int) % (U : Int) = ((Y % U : Nat) : Int) := by simp
      obtain ⟨z1, hz1⟩ : ∃ z, z = Y % U := ⟨_, rfl⟩
      rw [← hz1] at hYm
      have HZ1 := Lib.hid hz1
      clear hY hYU hz1 q1
      by_cases q2 : z1 ≠ 0
      · have f2 : ((z1 : Int) != 0) = true := by rw [bne_iff_ne]; omega
        go_wp2_with fail
        go_ret
        refine ⟨?_, HB2.out⟩
        rw [← HR.out, HD.out]
        have h0 : nm * 4096 % Pg.Lf.u ⟨v, p, nm, bg, wt, ex⟩ ≠ 0 := by rw [← HU.out, ← HYU.out, ← HZ1.out]; exact q2
        rw [right_eq, if_pos (.inr h0)]
        rfl
      have g1 : Hid (¬ (((nm : Nat) : Int) < 1 ∨ nm * 4096 % Pg.Lf.u ⟨v, p, nm, bg, wt, ex⟩ ≠ 0)) := Lib.hid (by
        rintro (h | h)
        · exact (of_decide_eq_false q1') h
        · rw [← HU.out, ← HYU.out, ← HZ1.out] at h; exact q2 h)
      have f2 : ((z1 : Int) != 0) = false := by rw [bne_eq_false_iff_eq]; omega
      clear q2
      have hvm : (v : Int) % (U : Int) = ((v % U : Nat) : Int) := by simp
      have hpm : (p : Int) % (U : Int) = ((p % U : Nat) : Int) := by simp
      obtain ⟨z2, hz2⟩ : ∃ z, z = v % U := ⟨_, rfl⟩
      obtain ⟨z3, hz3⟩ : ∃ z, z = p % U := ⟨_, rfl⟩
      rw [← hz2] at hvm
      rw [← hz3] at hpm
      have HZ2 := Lib.hid hz2
      have HZ3 := Lib.hid hz3
      clear hz2 hz3
      by_cases q3 : z2 ≠ 0
      · have f3 : ((z2 : Int) != 0) = true := by rw [bne_iff_ne]; omega
        go_wp2_with fail
        go_ret
        refine ⟨?_, HB2.out⟩
        rw [← HR.out, HD.out]
        have h0 : v % Pg.Lf.u ⟨v, p, nm, bg, wt, ex⟩ ≠ 0 := by rw [← HU.out, ← HZ2.out]; exact q3
        rw [right_eq, if_neg g1.out, if_pos (.inl h0)]
        rfl
      have f3 : ((z2 : Int) != 0) = false := by rw [bne_eq_false_iff_eq]; omega
      by_cases q4 : z3 ≠ 0
      · have f4 : ((z3 : Int) != 0) = true := by rw [bne_iff_ne]; omega
        have Q3 := Lib.hid q3
        clear q3
        go_wp2_with fail
        go_ret
        refine ⟨?_, HB2.out⟩
        rw [← HR.out, HD.out]
        have h0 : p % Pg.Lf.u ⟨v, p, nm, bg, wt, ex⟩ ≠ 0 := by rw [← HU.out, ← HZ3.out]; exact q4
        rw [right_eq, if_neg g1.out, if_pos (.inr h0)]
        rfl
      have f4 : ((z3 : Int) != 0) = false := by rw [bne_eq_false_iff_eq]; omega
      have g2 : Hid (¬ (v % Pg.Lf.u ⟨v, p, nm, bg, wt, ex⟩ ≠ 0 ∨ p % Pg.Lf.u ⟨v, p, nm, bg, wt, ex⟩ ≠ 0)) := Lib.hid (by
        rintro (h | h)
        · rw [← HU.out, ← HZ2.out] at h; exact q3 h
        · rw [← HU.out, ← HZ3.out] at h; exact q4 h)
      clear q3 q4
      by_cases q5 : 549755813888 ≤ v ∨ (549755813888 - v) / 4096 < nm
      · have Q5 := Lib.hid q5
        have HE := Lib.hid (ends_no v nm 549755813888 w2 q5 (by omega) (by omega) (by omega))
        clear q5
        go_wp2_with fail
        refine HE.out.mono ?_
        rintro e w3 ⟨rfl, rfl⟩
        go_wp2_with fail
        go_ret
        refine ⟨?_, HB2.out⟩
        rw [← HR.out, HD.out]
        rw [right_eq, if_neg g1.out, if_neg g2.out, if_pos Q5.out]
        rfl
      have HE := Lib.hid (ends_ok v nm 549755813888 w2 (by omega) (by omega) (by omega))
      have Q5 := Lib.hid q5
      have HV : Hid (v + nm * 4096 ≤ 549755813888) := Lib.hid (by omega)
      clear q5
      by_cases q6 : 4294967296 ≤ p ∨ (4294967296 - p) / 4096 < nm
      · have Q6 := Lib.hid q6
        have HE2 := Lib.hid (ends_no p nm 4294967296 w2 q6 (by omega) (by omega) (by omega))
        clear q6
        go_wp2_with fail
        refine HE.out.mono ?_
        rintro e w3 ⟨rfl, rfl⟩
        go_wp2_with fail
        refine HE2.out.mono ?_
        rintro e w3 ⟨rfl, rfl⟩
        go_wp2_with fail
        go_ret
        refine ⟨?_, HB2.out⟩
        rw [← HR.out, HD.out]
        rw [right_eq, if_neg g1.out, if_neg g2.out, if_neg Q5.out, if_pos Q6.out]
        rfl
      have HE2 := Lib.hid (ends_ok p nm 4294967296 w2 (by omega) (by omega) (by omega))
      have Q6 := Lib.hid q6
      clear q6
      by_cases q7 : v < bh
      · have f7 : decide ((v : Nat) < bh) = true := decide_eq_true q7
        have Q7 := Lib.hid q7
        clear q7
        go_wp2_with fail
        refine HE.out.mono ?_
        rintro e w3 ⟨rfl, rfl⟩
        go_wp2_with fail
        refine HE2.out.mono ?_
        rintro e w3 ⟨rfl, rfl⟩
        go_wp2_with fail
        go_ret
        refine ⟨?_, HB2.out⟩
        rw [← HR.out, HD.out]
        rw [right_eq, if_neg g1.out, if_neg g2.out, if_neg Q5.out, if_neg Q6.out, if_pos Q7.out]
        rfl
      · have f7 : decide ((v : Nat) < bh) = false := decide_eq_false q7
        have Q7 := Lib.hid q7
        clear q7
        go_wp2_with fail
        refine HE.out.mono ?_
        rintro e w3 ⟨rfl, rfl⟩
        go_wp2_with fail
        refine HE2.out.mono ?_
        rintro e w3 ⟨rfl, rfl⟩
        go_wp2_with fail
        go_roundw
        case rel =>
          refine ⟨k + 1, v + nm * 4096, by omega, by go_num, rfl, HV, Lib.hid ?_, HB2⟩
          have := HR.out
          rw [HD.out] at this
          rw [right_eq, if_neg g1.out, if_neg g2.out, if_neg Q5.out, if_neg Q6.out, if_neg Q7.out] at this
          exact this
        case measure => simp [intOf]; omega
    · have HK : Hid (k = n) := Lib.hid (by omega)
      go_wp2
      go_ret
      refine ⟨?_, HB.out⟩
      rw [← HR.out, HK.out, List.drop_of_length_le (Nat.le_of_eq HL.out)]
      rfl
end Go.Proofs.Ytblfagmoilhdnaa
