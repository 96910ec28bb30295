/- The walk of the law WordNames. -/
import Derived.Test.YtajkiglogfahfaaReaderD
import Derived.Test.YtajkiglogfahfaaSums
import Derived.Test.YtajkiglogfahfaaNum
import Derived.Lib.SlBytesConst
set_option linter.unusedVariables false
set_option linter.unusedSimpArgs false
namespace Go.Proofs.Ytajkiglogfahfaa
open Go.RowKit

def nm : List Nat := [5, 0, 0, 0, 0, 0, 0, 0] ++ Wd.le 4 (Crc.more 0 [5, 0, 0, 0, 0, 0, 0, 0])
theorem nm_len : nm.length = 12 := rfl
theorem nm_pad : Wd.W.pad ⟨[5, 0, 0, 0], 0⟩ 8 = ⟨[5, 0, 0, 0, 0, 0, 0, 0], 0⟩ := by decide
theorem nm_seal : Wd.W.sealUp ⟨[5, 0, 0, 0, 0, 0, 0, 0], 0⟩ 0 = ⟨nm, 0⟩ := rfl
theorem nm_take : Wd.R.take ⟨nm, 0, 0⟩ 4 = (⟨nm, 4, 0⟩, 5) := rfl
theorem nm_end : Wd.R.end_ ⟨nm, 4, 0⟩ = 12 := rfl
theorem nm_rpad : Wd.R.pad ⟨nm, 4, 0⟩ 8 = ⟨nm, 8, 0⟩ := by decide +kernel
theorem nm_rseal : Wd.R.sealUp ⟨nm, 8, 0⟩ 0 = ⟨nm, 12, 0⟩ := by decide +kernel
theorem nm_done : Wd.R.end_ ⟨nm, 12, 0⟩ = 0 := rfl
theorem crc0 : Crc.more 0 [] = 0 := by decide +kernel
theorem crc9 : Crc.more 0 [49, 50, 51, 52, 53, 54, 55, 56, 57] = 3808858755 := by decide +kernel
theorem crc1 : Crc.more 0 [0] = 1383945041 := by decide +kernel
theorem bytes_at_new {w : World} {bs : List Nat} {cs : List Value} (hcs : cs = bs.map u8) (hb : ∀ b ∈ bs, b < 256) (hl : bs.length ≤ 1000) : IsB (w.alloc (.cells cs.toArray 5)) (w.alloc (.cells cs.toArray 5)).heap.size (some ⟨w.heap.size, 0, none⟩) bs.length bs :=
  IsB.of_row (Row.new w 5 cs) (by rw [List.drop_zero, List.take_of_length_le (by rw [hcs]; simp), hcs]) rfl hb (by simp) (by omega) (by rw [hcs]; simp)
theorem bytes_at_mark {w : World} {bs : List Nat} {cs : List Value} {fr : Nat × Nat} (hcs : cs = bs.map u8) (hb : ∀ b ∈ bs, b < 256) (hl : bs.length ≤ 1000) : IsB (w.alloc (.cells cs.toArray 5 fr)) (w.alloc (.cells cs.toArray 5 fr)).heap.size (some ⟨w.heap.size, 0, none⟩) bs.length bs := by
  refine ⟨⟨by simp, fun _ => ⟨_, rfl, by simp, fun j u hu => ?_⟩⟩, hb, by omega⟩
  have e : (⟨w.heap.size, 0, none⟩ : Addr).add j = ⟨w.heap.size, j, none⟩ := by unfold Addr.add; split <;> simp_all
  rw [e, World.cell?_alloc_mark, hcs, ← hu]
  simp
set_option maxRecDepth 100000 in
set_option maxHeartbeats 2000000 in
theorem names_walk (w : World) : Calls Try.prog 8 #[] w fun e w' => e = .returned (.bool true) ∧ Below w.heap.size w w' := by
  have hc0 := crc_any none 0 0 [] w (isB_nil _ _)
  rw [crc0] at hc0
  have HC0 := Lib.hid hc0
  have HC9 : Hid (∀ w1 : World, Calls Try.prog 14 #[.slice (some ⟨w1.heap.size, 0, none⟩) 9 9] (w1.alloc (.cells #[.int .u8 49, .int .u8 50, .int .u8 51, .int .u8 52, .int .u8 53, .int .u8 54, .int .u8 55, .int .u8 56, .int .u8 57] 5 (9, 10))) fun e w' => e = .returned (.int .u32 3808858755) ∧ Below w1.heap.size w1 w') := Lib.hid fun w1 => by
    have h := crc_any (some ⟨w1.heap.size, 0, none⟩) 9 9 [49, 50, 51, 52, 53, 54, 55, 56, 57] _ (bytes_at_mark (w := w1) (fr := (9, 10)) (cs := [.int .u8 49, .int .u8 50, .int .u8 51, .int .u8 52, .int .u8 53, .int .u8 54, .int .u8 55, .int .u8 56, .int .u8 57]) rfl (by simp) (by simp))
    rw [crc9] at h
    exact h.mono fun e w' ⟨he, hb⟩ => ⟨he, ((Below.refl _ _).alloc (Nat.le_refl _) _).trans (hb.mono (by simp))⟩
  have HC1 : Hid (∀ w1 : World, Calls Try.prog 14 #[.slice (some ⟨w1.heap.size, 0, none⟩) 1 1] (w1.alloc (.cells #[.int .u8 0] 5)) fun e w' => e = .returned (.int .u32 1383945041) ∧ Below w1.heap.size w1 w') := Lib.hid fun w1 => by
    have h := crc_any (some ⟨w1.heap.size, 0, none⟩) 1 1 [0] _ (bytes_at_new (w := w1) (cs := [.int .u8 0]) rfl (by simp) (by simp))
    rw [crc1] at h
    exact h.mono fun e w' ⟨he, hb⟩ => ⟨he, ((Below.refl _ _).alloc (Nat.le_refl _) _).trans (hb.mono (by simp))⟩
  have hcv := fun (w : World) (C : Array Value) (n c : Nat) => Lib.run_convert_bytes_const (P := Try.prog) w 22 5 C n c Try.underlying22 Try.underlying5
  clear hc0
  go_enter Try.func8, Try.ntmps8
  go_wp2_with fail
  refine HC0.out.mono ?_
  rintro e w1 ⟨rfl, hb⟩
  have b1 := Lib.hid hb
  clear hb
  go_wp2_with fail
  clear hcv
  refine (HC9.out w1).mono ?_
  rintro e w2 ⟨rfl, hb⟩
  have b2 := Lib.hid (b1.out.trans (hb.mono b1.out.size))
  clear hb b1
  go_wp2_with fail
  refine (HC1.out w2).mono ?_
  rintro e w3 ⟨rfl, hb⟩
  have b3 := Lib.hid (b2.out.trans (hb.mono b2.out.size))
  clear hb b2 HC0 HC9 HC1
  go_wp2_with fail
  refine (mul_uint8 15 17 w3 (by decide) (by decide) (255, true) rfl).mono ?_
  rintro e w4 ⟨rfl, rfl⟩
  go_wp2_with fail
  refine (mul_uint16 300 300 w3 (by decide) (by decide) (0, false) rfl).mono ?_
  rintro e w4 ⟨rfl, rfl⟩
  go_wp2_with fail
  refine (newwriter_any w3).mono ?_
  rintro e w4 ⟨rfl, hwr, hb⟩
  obtain ⟨gw, hgw⟩ : ∃ gw, gw = w3.heap.size := ⟨_, rfl⟩
  rw [← hgw] at hwr ⊢
  have hgw4 : gw < w4.heap.size := by obtain ⟨_, _, hrow, _⟩ := hwr; exact hrow.lt
  have hgB : w.heap.size ≤ gw := by have := b3.out.size; omega
  have b4 := Lib.hid (b3.out.trans (hb.mono b3.out.size))
  have HW := Lib.hid hwr
  clear hwr hb hgw b3
  go_wp2_with fail
  refine (newwriter_any w4).mono ?_
  rintro e w5 ⟨rfl, hwr, hb⟩
  obtain ⟨gb, hgb⟩ : ∃ gb, gb = w4.heap.size := ⟨_, rfl⟩
  rw [← hgb] at hwr ⊢
  have HNE : Hid (gw ≠ gb) := Lib.hid (by omega)
  have hbB : w.heap.size ≤ gb := by have := b4.out.size; omega
  have b5 := Lib.hid (b4.out.trans (hb.mono b4.out.size))
  have HW := Lib.hid (HW.out.below hb)
  have HBD := Lib.hid hwr
  clear hwr hb hgb b4 hgw4
  go_wp2_with fail
  refine (wlen_any gw none ⟨[], 0⟩ w5 HW.out).mono ?_
  rintro e w6 ⟨rfl, rfl⟩
  go_wp2_with fail
  refine (wall_any gw none ⟨[], 0⟩ w5 HW.out (by simp)).mono ?_
  rintro e w6 ⟨⟨A1, c1, rfl, hown⟩, hb⟩
  have b6 := Lib.hid (b5.out.trans (hb.mono b5.out.size))
  have HW := Lib.hid (HW.out.below hb)
  have HBD := Lib.hid (HBD.out.below hb)
  clear hown hb b5
  go_wp2_with fail
  refine (werr_any gw none ⟨[], 0⟩ w6 HW.out).mono ?_
  rintro e w7 ⟨rfl, rfl⟩
  go_wp2_with fail
  refine (wpad_any gb none ⟨[], 0⟩ 0 w6 HBD.out (by simp)).mono ?_
  rintro e w7 ⟨rfl, rb, hwr, hch, hmv⟩
  have b7 := Lib.hid (below_chg b6.out (Nat.le_refl _) hch (by simpa using hbB))
  have HW := Lib.hid (HW.out.chg hch (by simpa using HNE.out) (by simp))
  have HBD : Hid (Wr w7 gb rb ⟨[], 1⟩) := Lib.hid hwr
  clear hwr hch hmv b6
  go_wp2_with fail
  refine (werr_any gb rb ⟨[], 1⟩ w7 HBD.out).mono ?_
  rintro e w8 ⟨rfl, rfl⟩
  go_wp2_with fail
  refine (wuint32_any gw none ⟨[], 0⟩ 5 w7 HW.out (by decide) (by simp)).mono ?_
  rintro e w8 ⟨rfl, r1, hwr, hch, hmv⟩
  have HG1 := Lib.hid (moved_ge (B := w.heap.size) hmv (by simp) b7.out.size)
  have b8 := Lib.hid (below_chg b7.out (Nat.le_refl _) hch (by simpa using hgB))
  have HW : Hid (Wr w8 gw r1 ⟨[5, 0, 0, 0], 0⟩) := Lib.hid hwr
  clear hwr hch hmv b7 HBD
  go_wp2_with fail
  refine (wpad_any gw r1 ⟨[5, 0, 0, 0], 0⟩ 8 w8 HW.out (by simp)).mono ?_
  rintro e w9 ⟨rfl, r2, hwr, hch, hmv⟩
  rw [nm_pad] at hwr
  have HG2 := Lib.hid (moved_ge (B := w.heap.size) hmv HG1.out b8.out.size)
  have b9 := Lib.hid (below_chg b8.out (Nat.le_refl _) hch (by intro x hx; rcases List.mem_cons.1 hx with h | h; (omega); (exact HG1.out x h)))
  have HW := Lib.hid hwr
  clear hwr hch hmv b8 HG1
  go_wp2_with fail
  refine (wseal_any gw r2 ⟨[5, 0, 0, 0, 0, 0, 0, 0], 0⟩ 0 w9 HW.out (by simp)).mono ?_
  rintro e w10 ⟨rfl, r3, hwr, hch, hmv⟩
  rw [nm_seal] at hwr
  have b10 := Lib.hid (below_chg b9.out (Nat.le_refl _) hch (by intro x hx; rcases List.mem_cons.1 hx with h | h; (omega); (exact HG2.out x h)))
  have HW := Lib.hid hwr
  clear hwr hch hmv b9 HG2
  go_wp2_with fail
  refine (wall_any gw r3 ⟨nm, 0⟩ w10 HW.out (by simp [nm_len])).mono ?_
  simp only [nm_len]
  rintro e w11 ⟨⟨A2, c2, rfl, hown⟩, hb⟩
  have b11 := Lib.hid (b10.out.trans (hb.mono b10.out.size))
  have HW := Lib.hid (HW.out.below hb)
  have HC2 : Hid (A2 = none → c2 = 0) := Lib.hid (own_isR (hown.mono (Nat.zero_le _)).1 hown.2.1).b.2
  have HO := Lib.hid hown.isB
  have hgl : gw < w11.heap.size := by obtain ⟨_, _, hrow, _⟩ := HW.out; exact hrow.lt
  clear hown hb b10
  go_wp2_with fail
  refine (newreader_any A2 12 c2 nm w11 HO.out (by omega) HC2.out).mono ?_
  rintro e w12 ⟨⟨g1, rr1, rfl, hg1, hrr1, hrd⟩, hb⟩
  have b12 := Lib.hid (b11.out.trans (hb.mono b11.out.size))
  have HW := Lib.hid (HW.out.below hb)
  have HR := Lib.hid hrd
  have hg1B : w.heap.size ≤ g1 := Nat.le_trans b11.out.size hg1
  clear hrd hb b11 hrr1 HO HC2
  go_wp2_with fail
  have hlen12 := wlen_any gw r3 ⟨nm, 0⟩ w12 HW.out
  simp only [nm_len] at hlen12
  refine hlen12.mono ?_
  rintro e w13 ⟨rfl, rfl⟩
  clear hlen12
  go_wp2_with fail
  refine (ruint32_any g1 rr1 ⟨nm, 0, 0⟩ w12 HR.out (by simp [nm_len])).mono ?_
  rw [nm_take]
  rintro e w13 ⟨rfl, hrd, hch⟩
  have b13 := Lib.hid (below_chg b12.out (Nat.le_refl _) hch (by simpa using hg1B))
  have HR := Lib.hid hrd
  clear hrd hch b12 HW
  go_wp2_with fail
  refine (rat_any g1 rr1 ⟨nm, 4, 0⟩ w13 HR.out).mono ?_
  rintro e w14 ⟨rfl, rfl⟩
  go_wp2_with fail
  refine (rend_any g1 rr1 ⟨nm, 4, 0⟩ w13 HR.out).mono ?_
  rw [nm_end]
  rintro e w14 ⟨rfl, hrd, hch⟩
  have b14 := Lib.hid (below_chg b13.out (Nat.le_refl _) hch (by simp))
  have HR := Lib.hid hrd
  clear hrd hch b13
  go_wp2_with fail
  refine (rpad_any g1 rr1 ⟨nm, 4, 0⟩ 8 w14 HR.out (by simp [nm_len])).mono ?_
  rw [nm_rpad]
  rintro e w15 ⟨rfl, hrd, hch⟩
  have b15 := Lib.hid (below_chg b14.out (Nat.le_refl _) hch (by simpa using hg1B))
  have HR := Lib.hid hrd
  clear hrd hch b14
  go_wp2_with fail
  refine (rseal_any g1 rr1 ⟨nm, 8, 0⟩ 0 w15 HR.out (by simp [nm_len])).mono ?_
  rw [nm_rseal]
  rintro e w16 ⟨rfl, hrd, hch⟩
  have b16 := Lib.hid (below_chg b15.out (Nat.le_refl _) hch (by simpa using hg1B))
  have HR := Lib.hid hrd
  clear hrd hch b15
  go_wp2_with fail
  have hlf := rleft_any g1 rr1 ⟨nm, 12, 0⟩ w16 HR.out
  simp only [nm_len, Nat.sub_self] at hlf
  refine hlf.mono ?_
  rintro e w17 ⟨rfl, hrd, hch⟩
  have b17 := Lib.hid (below_chg b16.out (Nat.le_refl _) hch (by simp))
  have HR := Lib.hid hrd
  clear hrd hch b16 hlf
  go_wp2_with fail
  refine (rerr_any g1 rr1 ⟨nm, 12, 0⟩ w17 HR.out).mono ?_
  rintro e w18 ⟨rfl, rfl⟩
  go_wp2_with fail
  refine (rend_any g1 rr1 ⟨nm, 12, 0⟩ w17 HR.out).mono ?_
  rw [nm_done]
  rintro e w18 ⟨rfl, hrd, hch⟩
  have b18 := Lib.hid (below_chg b17.out (Nat.le_refl _) hch (by simp))
  clear hrd hch b17
  go_wp2_with fail
  refine (newreader_any none 0 0 [] w18 (isB_nil _ _) (by omega) (fun _ => rfl)).mono ?_
  rintro e w19 ⟨⟨g2, rr2, rfl, hg2, hrr2, hrd⟩, hb⟩
  have b19 := Lib.hid (b18.out.trans (hb.mono b18.out.size))
  have HR2 := Lib.hid hrd
  clear hrd hb b18 hrr2
  go_wp2_with fail
  refine (rend_any g2 rr2 ⟨[], 0, 0⟩ w19 HR2.out).mono ?_
  rintro e w20 ⟨rfl, hrd, hch⟩
  have b20 := Lib.hid (below_chg b19.out (Nat.le_refl _) hch (by simp))
  clear hrd hch b19
  go_wp2_with fail
  go_ret
  exact ⟨rfl, b20.out⟩
end Go.Proofs.Ytajkiglogfahfaa
