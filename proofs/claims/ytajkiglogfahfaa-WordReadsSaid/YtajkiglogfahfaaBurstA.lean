/- The walks of the book's Within and of the law's burst. -/
import Derived.Test.YtajkiglogfahfaaReaderC
import Derived.Test.YtajkiglogfahfaaBurst
set_option linter.unusedVariables false
set_option linter.unusedSimpArgs false
namespace Go.Proofs.Ytajkiglogfahfaa
open Go.RowKit

set_option maxRecDepth 100000 in
set_option maxHeartbeats 400000 in
theorem within_any (n : Int) (k : Nat) (w : World) (hn : -9223372036854775808 ≤ n ∧ n ≤ 9223372036854775807) (hk : k ≤ 1152921504606846976) :
    Calls Try.prog 58 #[.int .i64 n, .int .i64 0, .int .i64 k] w fun e w' => (∃ x : Nat, e = .returned (.int .i64 x) ∧ x ≤ k) ∧ w = w' := by
  obtain ⟨m, hm⟩ : ∃ m, m = n.tmod ((k : Int) + 1) := ⟨_, rfl⟩
  have hlt : m < (k : Int) + 1 := by rw [hm]; exact Int.tmod_lt_of_pos _ (by omega)
  have hgt : -((k : Int) + 1) < m := by rw [hm]; have := Int.lt_tmod_of_pos n (show 0 < (k : Int) + 1 by omega); omega
  have hne : ¬ ((k : Int) + 1 = 0) := by omega
  have HM := hm.symm
  clear hm hn
  by_cases h0 : m < 0
  · go_enter Try.func58, Try.ntmps58
    go_wp2_with fail
    go_ret
    exact ⟨⟨(m + k + 1).toNat, by go_num, by omega⟩, rfl⟩
  · go_enter Try.func58, Try.ntmps58
    go_wp2_with fail
    go_ret
    exact ⟨⟨m.toNat, by go_num, by omega⟩, rfl⟩

/-- a row of one's own, with what lies behind it -/
theorem own_row {w : World} {base n c : Nat} {A : Option Addr} {bs : List Nat} (h : Own w base A n c bs) (hn : 0 < n) :
    ∃ g T, A = some ⟨g, 0, none⟩ ∧ base ≤ g ∧ Row w g 5 (bs.map u8 ++ T) ∧ ∀ (w' : World) (bs' : List Nat), bs'.length = n → (∀ b ∈ bs', b < 256) → Row w' g 5 (bs'.map u8 ++ T) → Own w' base A n c bs' := by
  have hl := h.len
  obtain ⟨⟨h1, h2⟩, h3, h4⟩ := h
  rcases h2 with ⟨_, h⟩ | ⟨g, cap, cur, hv, hg, hh, hnc, hcm, hsz, htk⟩
  · omega
  · injection hv with hA _ hc
    subst hA hc
    rw [Nat.mul_one] at htk hsz h1
    have hcur : cur = (bs.map u8 ++ cur.toList.drop n).toArray := by
      rw [← htk, List.take_append_drop]
    refine ⟨g, cur.toList.drop n, rfl, hg, ?_, ?_⟩
    · show w.heap[g]? = _
      rw [hh, ← hcur]
    · intro w' bs' hl' hb' hr
      refine ⟨⟨by simp [hl'], .inr ⟨g, c, _, rfl, hg, hr, hnc, hcm, ?_, ?_⟩⟩, hb', h4⟩
      · have h5 : cur.toList.length = c := by simpa using hsz
        simp [hl', h5]; omega
      · simp [hl']
theorem Own.below' {w w' : World} {B base n c : Nat} {A : Option Addr} {bs : List Nat} (h : Own w base A n c bs) (hb : Below w.heap.size w w') : Own w' base A n c bs := h.below hb
theorem or_one (p : Nat) (hp : p < 4294967296) : ∃ q : Nat, bits .or .u32 (p : Int) 1 = (q : Int) ∧ q < 4294967296 ∧ q % 2 = 1 := by
  refine ⟨p ||| 1, ?_, Nat.or_lt_two_pow (n := 32) hp (by decide), ?_⟩
  · have h := u32_or_nat p 1 hp (by decide)
    exact h
  · have := Nat.or_mod_two_pow (a := p) (b := 1) (n := 1)
    simp at this
    rw [this]
    rcases Nat.mod_two_eq_zero_or_one p with h | h <;> simp [h]
theorem flip_u8 (x m : Nat) (hx : x < 256) (hm : m < 8) : bits .xor .u8 (x : Int) (2 ^ m % 256) = ((x ^^^ 2 ^ m : Nat) : Int) := by
  have hp : (2 : Nat) ^ m < 256 := by have : (2 : Nat) ^ m < 2 ^ 8 := Nat.pow_lt_pow_right (by decide) hm; omega
  have h1 : ((2 : Int) ^ m % 256) = ((2 ^ m : Nat) : Int) := by
    have h2 : ((2 : Int) ^ m) = ((2 ^ m : Nat) : Int) := by norm_cast
    rw [h2]
    generalize 2 ^ m = y at *
    omega
  rw [h1]
  exact u8_xor_nat x _ hx hp
theorem xor_odd (a b : Nat) (ha : a % 2 = 1) (hb : b % 2 = 0) : (a ^^^ b) % 2 = 1 := by
  have h := Nat.xor_mod_two_pow (a := a) (b := b) (n := 1)
  simp at h
  rw [h, ha, hb]
  rfl
theorem flip_step (L bs : List Nat) (bit j gi n : Nat) (hl : L.length = n) (hb : ∀ b ∈ L, b < 256) (hj : bit + j < 8 * n) (hu : Wd.unle L = Wd.unle bs ^^^ 2 ^ bit * gi) (hg : gi < 2 ^ j) (ho : 1 ≤ j → gi % 2 = 1) :
    (L.set ((bit + j) / 8) (L.getD ((bit + j) / 8) 0 ^^^ 2 ^ ((bit + j) % 8))).length = n ∧ (∀ b ∈ L.set ((bit + j) / 8) (L.getD ((bit + j) / 8) 0 ^^^ 2 ^ ((bit + j) % 8)), b < 256) ∧
    Wd.unle (L.set ((bit + j) / 8) (L.getD ((bit + j) / 8) 0 ^^^ 2 ^ ((bit + j) % 8))) = Wd.unle bs ^^^ 2 ^ bit * (gi ^^^ 2 ^ j) ∧ gi ^^^ 2 ^ j < 2 ^ (j + 1) ∧ (1 ≤ j + 1 → (gi ^^^ 2 ^ j) % 2 = 1) := by
  have hm : (bit + j) % 8 < 8 := Nat.mod_lt _ (by decide)
  have ht : (bit + j) / 8 < L.length := by omega
  refine ⟨by simp [hl], ?_, ?_, ?_, ?_⟩
  · intro b hb'
    rcases List.mem_or_eq_of_mem_set hb' with h | h
    · exact hb b h
    · rw [h]
      have hp : (2 : Nat) ^ ((bit + j) % 8) < 2 ^ 8 := Nat.pow_lt_pow_right (by decide) hm
      exact Nat.xor_lt_two_pow (n := 8) (hb _ (getD_mem L _ ht)) hp
  · rw [Burst.unle_flip L _ _ ht hm hb, hu, show 8 * ((bit + j) / 8) + (bit + j) % 8 = bit + j by omega, Burst.mul_xor, Nat.pow_add, Nat.xor_assoc]
  · exact Nat.xor_lt_two_pow (Nat.lt_of_lt_of_le hg (Nat.pow_le_pow_right (by decide) (by omega))) (Nat.pow_lt_pow_right (by decide) (by omega))
  · intro _
    rcases Nat.eq_zero_or_pos j with h | h
    · subst h
      obtain rfl : gi = 0 := by simpa using hg
      rfl
    · refine xor_odd _ _ (ho h) ?_
      obtain ⟨k, rfl⟩ : ∃ k, j = k + 1 := ⟨j - 1, by omega⟩
      rw [Nat.pow_succ]; omega
set_option maxRecDepth 100000 in
set_option maxHeartbeats 1000000 in
theorem burst_any (A : Option Addr) (n c : Nat) (bs : List Nat) (at_ : Int) (p : Nat) (w : World) (ha : IsB w w.heap.size A n bs) (h1 : 1 ≤ n) (hn : n ≤ 70368744177664) (hat : -9223372036854775808 ≤ at_ ∧ at_ ≤ 9223372036854775807) (hp : p < 4294967296) :
    Calls Try.prog 37 #[.slice A n c, .int .i64 at_, .int .u32 (p : Nat)] w fun e w' =>
      (∃ A' c' L g bit, e = .returned (.slice A' n c') ∧ Own w' w.heap.size A' n c' L ∧ (g ≠ 0 ∧ g < 4294967296 ∧ bit ≤ 8 * n ∧ Wd.unle L = Wd.unle bs ^^^ 2 ^ bit * g)) ∧ Below w.heap.size w w' := by
  obtain ⟨i0, hi0, hz1, hz2, hz3⟩ := info_parts info5w
  have HA := Lib.hid ha
  have HI := Lib.hid hi0; have HZ1 := Lib.hid hz1; have HZ2 := Lib.hid hz2; have HZ3 := Lib.hid hz3
  have HAT := Lib.hid hat
  obtain ⟨q, hq, hqlt, hqo⟩ := or_one p hp
  have HQO := Lib.hid hqo
  have ek : (8 * (n : Int) - 1) = ((8 * n - 1 : Nat) : Int) := by omega
  clear hi0 hz1 hz2 hz3 ha hat hqo
  go_enter Try.func37, Try.ntmps37
  go_wp2_with (first
    | (at_builtin; refine wpList_append_sl _ rfl (.const (.slice none 0 0)) (.tmp 10) _ rfl w.heap.size 5 i0 _ 1 1 Try.underlying22 HI.out HZ1.out HZ2.out HZ3.out rfl (by omega) (.slice none 0 0) 0 [] rfl (World.ownsRow_nil _ _ _ _) w.heap.size A n c (bs.map u8) rfl HA.out.1 (one_u8w bs) (by unfold maxLen; omega) (by omega) (Nat.le_refl _) ?_; intro A2 c2 w2 hown2 hrd2 hg2 hat2; simp only [Nat.zero_add, List.nil_append] at hown2; have HO2 : Hid (Own w2 w.heap.size A2 n c2 bs) := Lib.hid ⟨hown2, HA.out.2⟩; have HG2 := Lib.hid hg2; clear hown2 hrd2 hg2 hat2)
    | (go_at_call 58; refine (within_any at_ (8 * n - 1) w2 HAT.out (by omega)).mono ?_; rintro e w' ⟨⟨bit, rfl, hbit⟩, rfl⟩)
    | fail)
  have hb2 : Below w.heap.size w w2 := (Below.refl _ _).grown HG2.out (Nat.le_refl _) (fun k hk => by cases hk)
  obtain ⟨g0, T, rfl, hg0, hrow, hback⟩ := own_row HO2.out h1
  have HROW := Lib.hid hrow; have HBACK := Lib.hid hback; have HB2 := Lib.hid hb2; have HL := Lib.hid HA.out.len
  clear hrow hback hb2
  go_loopw [9] (fun i wr => ∃ (j : Nat) (L : List Nat) (gi : Nat), j ≤ 32 ∧ i = .int .i64 j ∧ Hid (L.length = n) ∧ Hid (∀ b ∈ L, b < 256) ∧ Hid (Row wr g0 5 (L.map u8 ++ T)) ∧ Hid (Below w.heap.size w wr) ∧ Hid (Wd.unle L = Wd.unle bs ^^^ 2 ^ bit * gi) ∧ Hid (gi < 2 ^ j) ∧ Hid (1 ≤ j → gi % 2 = 1)) (fun i _ => 32 - (intOf i).toNat)
  case atStart => exact ⟨0, bs, 0, by omega, rfl, HL, Lib.hid HA.out.2.1, HROW, HB2, Lib.hid (by simp), Lib.hid (by simp), Lib.hid (by omega)⟩
  case round =>
    obtain ⟨j, L, gi, hj, rfl, HLL, HLB, HR, HBr, HU, HGI, HGO⟩ := hrel
    by_cases hjn : j < 32
    · obtain ⟨s, hs⟩ : ∃ s, s = q / 2 ^ j := ⟨_, rfl⟩
      have e1 : (q : Int) / 2 ^ j = (s : Int) := by rw [hs]; norm_cast
      have hsl : s < 4294967296 := by rw [hs]; exact Nat.lt_of_le_of_lt (Nat.div_le_self _ _) hqlt
      have e2 := u32and1 s hsl
      have HS := Lib.hid hs
      clear hs
      by_cases hz : s % 2 = 1
      · rw [hz] at e2
        by_cases hkn : bit + j < 8 * n
        · have hfr := HR.out.frozen ((bit + j) / 8)
          have hct := HR.out.cell ((bit + j) / 8)
          have hx : (L.map u8 ++ T)[(bit + j) / 8]? = some (.int .u8 ((L.getD ((bit + j) / 8) 0 : Nat) : Int)) := by
            have hlt : (bit + j) / 8 < L.length := by have := HLL.out; omega
            rw [List.getElem?_append_left (by simpa using hlt)]
            simp [List.getD_eq_getElem?_getD, hlt, u8]
          rw [hx] at hct
          obtain ⟨x, hxe⟩ : ∃ x, x = L.getD ((bit + j) / 8) 0 := ⟨_, rfl⟩
          rw [← hxe] at hct
          have htn : (bit + j) / 8 < n := by omega
          have hxl : x < 256 := by rw [hxe]; exact HLB.out _ (getD_mem L _ (by have := HLL.out; omega))
          have HXE := Lib.hid hxe
          have hg0r := HR.out.lt
          clear hx hxe
          go_wp2
          go_roundw
          case rel =>
            have hf := flip_step L bs bit j gi n HLL.out HLB.out hkn HU.out HGI.out HGO.out
            rw [← HXE.out] at hf
            refine ⟨j + 1, _, _, by omega, by go_num, Lib.hid hf.1, Lib.hid hf.2.1, Lib.hid ?_, Lib.hid ?_, Lib.hid hf.2.2.1, Lib.hid hf.2.2.2.1, Lib.hid hf.2.2.2.2⟩
            · rw [flip_u8 x _ hxl (Nat.mod_lt _ (by decide))]
              have h5 := HR.out.set_ ((bit + j) / 8) (u8 (x ^^^ 2 ^ ((bit + j) % 8)))
              rw [List.set_append_left _ _ (by have := HLL.out; simp; omega), ← List.map_set] at h5
              exact h5
            · exact HBr.out.setCell (by show w.heap.size ≤ g0; exact hg0) _
          case measure => simp [intOf]; omega
        · have hkn2 : 8 * n ≤ bit + j := by omega
          go_wp2
          go_roundw
          case rel => exact ⟨j + 1, L, gi, by omega, by go_num, HLL, HLB, HR, HBr, HU, Lib.hid (Nat.lt_of_lt_of_le HGI.out (Nat.pow_le_pow_right (by decide) (by omega))), Lib.hid (fun _ => by
            rcases Nat.eq_zero_or_pos j with h | h
            · exfalso
              have h2 := HS.out
              have h3 := HQO.out
              subst h
              simp at h2
              omega
            · exact HGO.out h)⟩
          case measure => simp [intOf]; omega
      · have hz2 : s % 2 = 0 := by omega
        rw [hz2] at e2
        go_wp2
        go_roundw
        case rel => exact ⟨j + 1, L, gi, by omega, by go_num, HLL, HLB, HR, HBr, HU, Lib.hid (Nat.lt_of_lt_of_le HGI.out (Nat.pow_le_pow_right (by decide) (by omega))), Lib.hid (fun _ => by
          rcases Nat.eq_zero_or_pos j with h | h
          · exfalso
            have h2 := HS.out
            have h3 := HQO.out
            subst h
            simp at h2
            omega
          · exact HGO.out h)⟩
        case measure => simp [intOf]; omega
    · have HJ : Hid (j = 32) := Lib.hid (by omega)
      go_wp2
      go_ret
      have hj32 := HJ.out
      subst hj32
      exact ⟨⟨_, _, L, gi, bit, rfl, HBACK.out _ _ HLL.out HLB.out HR.out, by have := HGO.out (by omega); omega, HGI.out, by omega, HU.out⟩, HBr.out⟩
end Go.Proofs.Ytajkiglogfahfaa
