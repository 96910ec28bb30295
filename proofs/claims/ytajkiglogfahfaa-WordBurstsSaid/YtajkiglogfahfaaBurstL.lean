/- The walk of the law WordBursts. -/
import Derived.Test.YtajkiglogfahfaaBurstA
import Derived.Test.YtajkiglogfahfaaWriterC
import Derived.Test.YtajkiglogfahfaaSums
set_option linter.unusedVariables false
set_option linter.unusedSimpArgs false
namespace Go.Proofs.Ytajkiglogfahfaa
open Go.RowKit

def sealed (ps : List Nat) : List Nat := ps ++ Wd.le 4 (Crc.more 0 ps)
theorem sealed_len (ps : List Nat) : (sealed ps).length = ps.length + 4 := by rw [sealed, List.length_append, Wd.le_len]
theorem sealed_lt (ps : List Nat) (h : ∀ b ∈ ps, b < 256) : ∀ b ∈ sealed ps, b < 256 := by
  intro b hb
  rcases List.mem_append.1 hb with h' | h'
  · exact h b h'
  · exact Wd.le_lt _ _ b h'
theorem w_bytes (ps : List Nat) : Wd.W.lay ⟨[], 0⟩ ps = ⟨ps, 0⟩ := by simp [Wd.W.lay]
theorem w_sealed (ps : List Nat) : Wd.W.sealUp ⟨ps, 0⟩ 0 = ⟨sealed ps, 0⟩ := by simp [Wd.W.sealUp, sealed]
theorem r_bytes (bs : List Nat) (n : Nat) (h : n ≤ bs.length) : (Wd.R.bytes ⟨bs, 0, 0⟩ (n : Int)).1 = ⟨bs, n, 0⟩ := by rw [bytes_ok _ _ rfl (by simpa using h)]; simp
theorem r_good (ps : List Nat) (n : Nat) (hn : ps.length = n) (hb : ∀ b ∈ ps, b < 256) : Wd.R.sealUp ⟨sealed ps, n, 0⟩ 0 = ⟨sealed ps, n + 4, 0⟩ := by
  have hl := sealed_len ps
  have hm := Crc.more_lt (s := 0) ps (by decide) hb
  rw [seal_read _ _ rfl (by simp) (by simp only; omega)]
  simp only [Nat.add_zero]
  rw [if_pos]
  rw [sealed, List.drop_append_of_le_length (by omega), List.drop_of_length_le (by omega), List.nil_append, List.take_of_length_le (by rw [Wd.le_len]; omega), Wd.unle_le, List.take_append_of_le_length (by omega), List.take_of_length_le (by omega)]
  simp; omega
theorem r_bad (ps L : List Nat) (n g bit : Nat) (hn : ps.length = n) (hb : ∀ b ∈ ps, b < 256) (hL : L.length = n + 4) (hLb : ∀ b ∈ L, b < 256) (hg0 : g ≠ 0) (hg : g < 4294967296) (hbit : bit ≤ 8 * (n + 4)) (h : Wd.unle L = Wd.unle (sealed ps) ^^^ 2 ^ bit * g) :
    Wd.R.sealUp ⟨L, n, 0⟩ 0 = ⟨L, n, 11⟩ := by
  have hc := Burst.caught ps L n g bit hn hb hL hLb hg0 hg hbit h
  rw [seal_read _ _ rfl (by simp) (by simp only; omega)]
  simp only [Nat.add_zero]
  rw [if_neg]
  rw [List.take_of_length_le (by simp; omega)]
  simpa using hc
theorem below_chg {B : Nat} {S : List Nat} {a w w' : World} (h : Below B a w) (hB : B ≤ a.heap.size) (hc : Chg S w w') (hS : ∀ x ∈ S, B ≤ x) : Below B a w' := h.trans (hc.below (Nat.le_trans hB h.size) hS)
theorem moved_ge {w : World} {B : Nat} {r r' : Option Nat} (h : Moved w r r') (hr : ∀ x ∈ r.toList, B ≤ x) (hB : B ≤ w.heap.size) : ∀ x ∈ r'.toList, B ≤ x := by
  rcases h with rfl | ⟨k, rfl, hk⟩
  · exact hr
  · intro x hx
    simp at hx
    omega
set_option maxRecDepth 100000 in
set_option maxHeartbeats 400000 in
theorem bursts_far (A0 : Option Addr) (n c : Nat) (ps : List Nat) (at_ : Int) (p : Nat) (w : World) (hp : IsB w w.heap.size A0 n ps) (hbe : beyondL 2147483647 [n, 4] = true) :
    Calls Try.prog 6 #[.slice A0 n c, .int .i64 at_, .int .u32 (p : Int)] w fun e w' => e = .returned (.bool true) ∧ Below w.heap.size w w' := by
  have HB := Lib.hid (beyond_two w n 4 hp.2.2 (by omega) true hbe)
  clear hp hbe
  go_enter Try.func6, Try.ntmps6
  go_wp2_with fail
  refine HB.out.mono ?_
  rintro e w' ⟨rfl, rfl⟩
  go_wp2_with fail
  go_ret
  exact ⟨rfl, (Below.refl _ _).alloc (Nat.le_refl _) _⟩
set_option maxRecDepth 100000 in
set_option maxHeartbeats 1000000 in
theorem bursts_near (A0 : Option Addr) (n c : Nat) (ps : List Nat) (at_ : Int) (p : Nat) (w : World) (hp : IsB w w.heap.size A0 n ps) (hat : -9223372036854775808 ≤ at_ ∧ at_ ≤ 9223372036854775807) (hpp : p < 4294967296) (hbe : beyondL 2147483647 [n, 4] = false) (hn : n ≤ 2147483647) :
    Calls Try.prog 6 #[.slice A0 n c, .int .i64 at_, .int .u32 (p : Int)] w fun e w' => e = .returned (.bool true) ∧ Below w.heap.size w w' := by
  have HB := Lib.hid (beyond_two w n 4 hp.2.2 (by omega) false hbe)
  have HP := Lib.hid hp
  have HAT := Lib.hid hat
  have HL := Lib.hid hp.len
  have HPP := Lib.hid hpp
  obtain ⟨X, hX⟩ : ∃ X, X = sealed ps := ⟨_, rfl⟩
  have HXL : Hid (X.length = n + 4) := Lib.hid (by rw [hX, sealed_len, hp.len])
  have HXB : Hid (∀ b ∈ X, b < 256) := Lib.hid (by rw [hX]; exact sealed_lt ps hp.2.1)
  have HX := Lib.hid hX
  clear hp hbe hX hat
  have b0 := Lib.hid ((Below.refl w.heap.size w).alloc (Nat.le_refl _) (.cells #[.int .i64 (n : Nat), .int .i64 (4 : Nat)] 3))
  go_enter Try.func6, Try.ntmps6
  go_wp2_with fail
  refine HB.out.mono ?_
  rintro e w1 ⟨rfl, hw1⟩
  rw [hw1] at b0
  clear HB hw1
  go_wp2_with fail
  refine (newwriter_any w1).mono ?_
  rintro e w2 ⟨rfl, hwr, hb⟩
  obtain ⟨gw, hgw⟩ : ∃ gw, gw = w1.heap.size := ⟨_, rfl⟩
  rw [← hgw] at hwr ⊢
  have b1 := Lib.hid (b0.out.trans (hb.mono b0.out.size))
  have hgw0 : w.heap.size ≤ gw := by rw [hgw]; exact b0.out.size
  have HWR := Lib.hid hwr
  clear hwr hb hgw b0
  go_wp2_with fail
  refine (wbytes_any gw none ⟨[], 0⟩ A0 n c ps w2 HWR.out ((HP.out.below b1.out).more b1.out.size) (by simp; omega)).mono ?_
  rintro e w3 ⟨rfl, r1, hwr, hch, hmv⟩
  rw [w_bytes] at hwr
  have HG1 := Lib.hid (moved_ge (B := w.heap.size) hmv (by simp) b1.out.size)
  have b2 := Lib.hid (below_chg b1.out (Nat.le_refl _) hch (by simpa using hgw0))
  have HWR := Lib.hid hwr
  clear hwr hch hmv b1
  go_wp2_with fail
  refine (wseal_any gw r1 ⟨ps, 0⟩ 0 w3 HWR.out (by simp only; have := HL.out; omega)).mono ?_
  rintro e w4 ⟨rfl, r2, hwr, hch, hmv⟩
  rw [w_sealed, ← HX.out] at hwr
  have b3 := Lib.hid (below_chg b2.out (Nat.le_refl _) hch (by intro x hx; rcases List.mem_cons.1 hx with h | h; (omega); (exact HG1.out x h)))
  have HWR := Lib.hid hwr
  clear hwr hch hmv b2 HG1
  go_wp2_with fail
  refine (wall_any gw r2 ⟨X, 0⟩ w4 HWR.out (by simp only; have := HXL.out; omega)).mono ?_
  rintro e w5 ⟨⟨A1, c1, rfl, hown⟩, hb⟩
  simp only at hown ⊢
  have b4 := Lib.hid (b3.out.trans (hb.mono b3.out.size))
  have HWR := Lib.hid (HWR.out.below hb)
  have HOWN := Lib.hid hown
  rw [HXL.out] at HOWN ⊢
  clear hown hb b3
  have HC1 : Hid (A1 = none → c1 = 0) := Lib.hid (own_isR (HOWN.out.mono (Nat.zero_le _)).1 HOWN.out.2.1).b.2
  have HOWN := Lib.hid (HOWN.out.mono (Nat.zero_le _))
  go_wp2_with fail
  refine (werr_any gw r2 ⟨X, 0⟩ w5 HWR.out).mono ?_
  rintro e w5' ⟨rfl, rfl⟩
  clear HWR
  go_wp2_with fail
  refine (newreader_any A1 (n + 4) c1 X w5 HOWN.out.isB (by omega) HC1.out).mono ?_
  rintro e w6 ⟨⟨g1, rr1, rfl, hg1, hrr1, hrd⟩, hb⟩
  have HR1 := Lib.hid hrd
  have HOWN := Lib.hid (HOWN.out.below hb)
  have b5 := Lib.hid (b4.out.trans (hb.mono b4.out.size))
  have hg1' : g1 < w6.heap.size := by obtain ⟨_, _, _, _, _, _, _, _, h, _⟩ := hrd.open_; exact h
  have hg1B : w.heap.size ≤ g1 := Nat.le_trans b4.out.size hg1
  clear hrd hb b4 hrr1 hg1
  go_wp2_with fail
  refine (burst_any A1 (n + 4) c1 X at_ p w6 HOWN.out.isB (by omega) (by omega) HAT.out HPP.out).mono ?_
  rintro e w7 ⟨⟨A2, c2, L, gg, bit, rfl, hown2, hpl⟩, hb⟩
  have HO2 := Lib.hid (hown2.mono (Nat.zero_le _))
  have HC2 : Hid (A2 = none → c2 = 0) := Lib.hid (own_isR (hown2.mono (Nat.zero_le _)).1 hown2.2.1).b.2
  have HBAD := Lib.hid (r_bad ps L n gg bit HL.out HP.out.2.1 hown2.len hown2.2.1 hpl.1 hpl.2.1 hpl.2.2.1 (by rw [← HX.out]; exact hpl.2.2.2))
  have HLL := Lib.hid hown2.len
  have HR1 := Lib.hid (HR1.out.chg (S := []) (Chg.of_below hb) (by simp) (by simp))
  have b6 := Lib.hid (b5.out.trans (hb.mono b5.out.size))
  have hg17 : g1 < w7.heap.size := Nat.lt_of_lt_of_le hg1' hb.size
  clear hown2 hpl hb b5 hg1' HOWN HC1
  go_wp2_with fail
  refine (newreader_any A2 (n + 4) c2 L w7 HO2.out.isB (by omega) HC2.out).mono ?_
  rintro e w8 ⟨⟨g2, rr2, rfl, hg2, hrr2, hrd⟩, hb⟩
  have HR2 := Lib.hid hrd
  have HR1 := Lib.hid (HR1.out.chg (S := []) (Chg.of_below hb) (by simp) (by simp))
  have b7 := Lib.hid (b6.out.trans (hb.mono b6.out.size))
  have HNE : Hid (g2 ≠ g1) := Lib.hid (by omega)
  have HNR : Hid (∀ k, rr2 = some k → k ≠ g1) := Lib.hid (fun k hk => by have := hrr2 k hk; omega)
  have hg2B : w.heap.size ≤ g2 := Nat.le_trans b6.out.size hg2
  clear hrd hb b6 hrr2 hg2 hg17 HO2 HC2
  go_wp2_with fail
  refine (rbytes_any g1 rr1 ⟨X, 0, 0⟩ n w8 HR1.out (by simp only; have := HXL.out; omega) (by omega)).mono ?_
  rintro e w9 ⟨⟨v, rfl, _⟩, hrd, hch⟩
  rw [r_bytes X n (by have := HXL.out; omega)] at hrd
  have HR1 := Lib.hid hrd
  have HR2 := Lib.hid (HR2.out.chg hch (by simpa using HNE.out) (fun k hk => by simpa using HNR.out k hk))
  have b8 := Lib.hid (below_chg b7.out (Nat.le_refl _) hch (by simpa using hg1B))
  clear hrd hch b7
  go_wp2_with fail
  refine (rseal_any g1 rr1 ⟨X, n, 0⟩ 0 w9 HR1.out (by simp only; have := HXL.out; omega)).mono ?_
  rintro e w10 ⟨rfl, hrd, hch⟩
  rw [HX.out, r_good ps n HL.out HP.out.2.1, ← HX.out] at hrd
  have HR1 := Lib.hid hrd
  have HR2 := Lib.hid (HR2.out.chg hch (by simpa using HNE.out) (fun k hk => by simpa using HNR.out k hk))
  have b9 := Lib.hid (below_chg b8.out (Nat.le_refl _) hch (by simpa using hg1B))
  have HEND : Hid (Wd.R.end_ ⟨X, n + 4, 0⟩ = 0) := Lib.hid (by unfold Wd.R.end_; have := HXL.out; simp; omega)
  clear hrd hch b8
  go_wp2_with fail
  refine (rend_any g1 rr1 ⟨X, n + 4, 0⟩ w10 HR1.out).mono ?_
  rw [HEND.out]
  rintro e w11 ⟨rfl, hrd, hch⟩
  have HR2 := Lib.hid (HR2.out.chg hch (by simp) (by simp))
  have b10 := Lib.hid (below_chg b9.out (Nat.le_refl _) hch (by simp))
  clear hrd hch b9 HR1 HEND
  go_wp2_with fail
  refine (rbytes_any g2 rr2 ⟨L, 0, 0⟩ n w11 HR2.out (by simp only; have := HLL.out; omega) (by omega)).mono ?_
  rintro e w12 ⟨⟨v2, rfl, _⟩, hrd, hch⟩
  rw [r_bytes L n (by have := HLL.out; omega)] at hrd
  have HR2 := Lib.hid hrd
  have b11 := Lib.hid (below_chg b10.out (Nat.le_refl _) hch (by simpa using hg2B))
  clear hrd hch b10
  go_wp2_with fail
  refine (rerr_any g2 rr2 ⟨L, n, 0⟩ w12 HR2.out).mono ?_
  rintro e w12' ⟨rfl, rfl⟩
  go_wp2_with fail
  refine (rseal_any g2 rr2 ⟨L, n, 0⟩ 0 w12 HR2.out (by simp only; have := HLL.out; omega)).mono ?_
  rintro e w13 ⟨rfl, hrd, hch⟩
  rw [HBAD.out] at hrd
  have HR2 := Lib.hid hrd
  have b12 := Lib.hid (below_chg b11.out (Nat.le_refl _) hch (by simpa using hg2B))
  clear hrd hch b11
  go_wp2_with fail
  refine (rerr_any g2 rr2 ⟨L, n, 11⟩ w13 HR2.out).mono ?_
  rintro e w13' ⟨rfl, rfl⟩
  go_wp2_with fail
  refine (rat_any g2 rr2 ⟨L, n, 11⟩ w13 HR2.out).mono ?_
  rintro e w13'' ⟨rfl, rfl⟩
  go_wp2_with fail
  go_ret
  exact ⟨rfl, b12.out⟩
theorem bursts_walk (A0 : Option Addr) (n c : Nat) (ps : List Nat) (at_ : Int) (p : Nat) (w : World) (hp : IsB w w.heap.size A0 n ps) (hat : -9223372036854775808 ≤ at_ ∧ at_ ≤ 9223372036854775807) (hpp : p < 4294967296) :
    Calls Try.prog 6 #[.slice A0 n c, .int .i64 at_, .int .u32 (p : Int)] w fun e w' => e = .returned (.bool true) ∧ Below w.heap.size w w' := by
  cases hbe : beyondL 2147483647 [n, 4] with
  | true => exact bursts_far A0 n c ps at_ p w hp hbe
  | false =>
    refine bursts_near A0 n c ps at_ p w hp hat hpp hbe ?_
    unfold beyondL at hbe
    split at hbe
    · cases hbe
    · omega
end Go.Proofs.Ytajkiglogfahfaa
