/- The walks of the law's forth and of WordForth. -/
import Derived.Test.YtajkiglogfahfaaScr
set_option linter.unusedVariables false
set_option linter.unusedSimpArgs false
namespace Go.Proofs.Ytajkiglogfahfaa
open Go.RowKit

/-- forth's loop: what the reader has taken the writer has laid -/
structure ForthInv (w wr : World) (gr : Nat) (rr : Option Nat) (gw : Nat) (bs : List Nat) (ops : List (OpA × List Nat)) (k a : Nat) : Prop where
  rd_ : Rd wr gr rr ⟨bs, a, 0⟩
  le_ : a ≤ bs.length
  run_ : Wd.runR ⟨bs, 0, 0⟩ ((opsOf ops).take k) = ⟨bs, a, 0⟩
  wr_ : ∃ rw, Wr wr gw rw ⟨bs.take a, 0⟩ ∧ Far gr rr gw rw ∧ ∀ x ∈ rw.toList, w.heap.size ≤ x
  bel_ : Below w.heap.size w wr
  gr_ : w.heap.size ≤ gr
  gw_ : w.heap.size ≤ gw
theorem forth_below1 {B : Nat} {w wr w1 : World} (h1 : Below B w wr) (h2 : Chg [] wr.drew w1) (hB : B ≤ w.heap.size := by exact Nat.le_refl _) : Below B w w1 :=
  h1.drew.trans ((h2.below (B := wr.drew.heap.size) (Nat.le_refl _) (by simp)).mono (Nat.le_trans hB h1.size))
theorem forth_below {B : Nat} {w wr w1 w5 : World} (h1 : Below B w wr) (h2 : Chg [] wr.drew w1) (h3 : Below w1.heap.size w1 w5) (hB : B ≤ w.heap.size := by exact Nat.le_refl _) : Below B w w5 :=
  (forth_below1 h1 h2 hB).trans (h3.mono (Nat.le_trans (Nat.le_trans hB h1.size) h2.size))
def MustRun (must : Bool) (bs : List Nat) (ops : List (OpA × List Nat)) : Prop := must = true → (∀ k, k ≤ ops.length → (Wd.runR ⟨bs, 0, 0⟩ ((opsOf ops).take k)).e = 0) ∧ (Wd.runR ⟨bs, 0, 0⟩ (opsOf ops)).end_ = 0
set_option maxRecDepth 100000 in
set_option maxHeartbeats 2000000 in
theorem forth_any (A0 : Option Addr) (n c : Nat) (bs : List Nat) (A : Option Addr) (m cm : Nat) (ops : List (OpA × List Nat)) (must : Bool) (w : World) (hb : IsB w w.heap.size A0 n bs) (hA : A0 = none → c = 0) (hn : n ≤ 2147483647) (hs : Scr w w.heap.size A m ops) (hm : MustRun must bs ops) :
    Calls Try.prog 54 #[.slice A0 n c, .slice A m cm, .bool must] w fun e w' => e = .returned (.bool true) ∧ Below w.heap.size w w' := by
  have HB := Lib.hid hb; have HS := Lib.hid hs; have HM := Lib.hid hm
  have hmx := hs.max
  have hlen := hb.len
  have HLEN := Lib.hid hlen
  have HNR := Lib.hid (newreader_any A0 n c bs w hb (by omega) hA)
  clear hb hs hm hlen
  go_enter Try.func54, Try.ntmps54
  go_wp2_with fail
  refine HNR.out.mono ?_
  rintro e w1 ⟨⟨gr, rr, rfl, hgr, hrr, hrd⟩, hb1⟩
  have HRD := Lib.hid hrd; have HB1 := Lib.hid hb1; have HRR := Lib.hid hrr
  have hgl := hrd.lt
  have HRL := Lib.hid hrd.rlt
  clear hrd hb1 hrr
  go_wp2_with fail
  refine (newwriter_any w1).mono ?_
  rintro e w2 ⟨rfl, hwr, hb2⟩
  obtain ⟨gw, hgw⟩ : ∃ gw, gw = w1.heap.size := ⟨_, rfl⟩
  rw [← hgw] at hwr ⊢
  have HI : Hid (ForthInv w w2 gr rr gw bs ops 0 0) := Lib.hid {
    rd_ := HRD.out.below hb2, le_ := by omega, run_ := rfl, wr_ := ⟨none, hwr, ⟨by omega, fun h => by have := HRL.out _ h; omega, by simp, by simp⟩, by simp⟩, bel_ := HB1.out.trans (hb2.mono HB1.out.size), gr_ := hgr, gw_ := by have := HB1.out.size; omega }
  clear hwr hb2 hgw HRD HRL HB1 hgl HNR
  go_wp2_with fail
  go_loopw [9] (fun i wr => ∃ k a : Nat, k ≤ m ∧ i = .int .i64 k ∧ Hid (ForthInv w wr gr rr gw bs ops k a)) (fun i _ => m - (intOf i).toNat)
  case atStart => exact ⟨0, 0, by omega, rfl, HI⟩
  case round =>
    obtain ⟨k, a, hk, rfl, HI⟩ := hrel
    by_cases hkm : k < m
    · obtain ⟨b, off, o, ps, rfl, hbl, hop, HO, c0, c1, c2, c3, c4, c5⟩ := (HS.out.below HI.out.bel_).step HI.out.bel_.size hkm
      have HOP := Lib.hid hop
      clear hop
      obtain ⟨R1, hR1⟩ : ∃ R1, R1 = Wd.R.op ⟨bs, a, 0⟩ (o.is ps) := ⟨_, rfl⟩
      have hrun1 : Wd.runR ⟨bs, 0, 0⟩ ((opsOf ops).take (k + 1)) = R1.1 := by rw [opsOf_take ops k o ps HOP.out, Wd.runR_snoc, HI.out.run_, hR1]
      have HAG := Lib.hid (again_any gr rr ⟨bs, a, 0⟩ o ps wr HI.out.rd_ HO.out (by simp only; have := HLEN.out; omega))
      have HOK := Lib.hid HO.out.op
      have HR1 := Lib.hid hR1
      have HRUN := Lib.hid hrun1
      by_cases he : R1.1.e = 0
      · obtain ⟨a', ha1, ha2, ha3, ha4, ha5⟩ := Wd.op_forth bs a (o.is ps) HI.out.le_ HB.out.2.1 (by have := HLEN.out; omega) (by rw [← hR1]; exact he)
        rw [← hR1] at ha3 ha4 ha5
        have HA3 := Lib.hid ha3; have HA4 := Lib.hid ha4
        clear hR1 hrun1 ha3 ha4 ha5 he
        go_wp2_with fail
        refine HAG.out.mono ?_
        unfold AgainPost
        rw [← HR1.out, HA3.out]
        rintro e w3 ⟨p, qs, rfl, hpok, hpis, hpsz, hrd, hch⟩
        obtain ⟨rw, hwr, hfar, hrw⟩ := HI.out.wr_
        have hwr3 := hwr.far hfar hch
        have hb3 := below_chg HI.out.bel_ (Nat.le_refl _) hch (by simpa using HI.out.gr_)
        have hbx := (Below.refl w3.heap.size w3).alloc (Nat.le_refl _) (.cells #[.int .i64 p.kind, .int .i64 p.at_, .int .u64 (p.n : Nat), .int .i64 p.num, .slice p.pa p.pn p.pc, .string p.s] 54)
        have hlaid := laid_any gw rw ⟨bs.take a, 0⟩ p qs _ (hwr3.below hbx) (hpok.below hbx) (by simp only [List.length_take] at hpsz ⊢; have := HLEN.out; omega)
        rw [hpis, HA4.out] at hlaid
        have HL := Lib.hid hlaid
        have HE := Lib.hid (rerr_any gr rr ⟨bs, a', 0⟩ _ (hrd.below hbx))
        have HRD := Lib.hid (hrd.below hbx)
        have HB3 := Lib.hid (hb3.trans (hbx.mono hb3.size))
        have HFAR := Lib.hid hfar; have HRW := Lib.hid hrw
        obtain ⟨pk, pat, pnn, pnum, ppa, ppn, ppc, pss⟩ := p
        simp only [OpA.val] at HL HE HRD HB3 ⊢
        clear hpok hpis hpsz hrd hch hwr hfar hrw hwr3 hb3 hbx hlaid HAG
        go_wp2_with fail
        refine HE.out.mono ?_
        rintro e w4 ⟨rfl, rfl⟩
        go_wp2_with fail
        refine HL.out.mono ?_
        rintro e w5 ⟨rfl, rw2, hwr5, hch5, hmv5⟩
        have HI5 : Hid (ForthInv w w5 gr rr gw bs ops (k + 1) a') := Lib.hid {
          rd_ := HRD.out.far HFAR.out hch5, le_ := ha2, run_ := by rw [HRUN.out, HA3.out],
          wr_ := ⟨rw2, hwr5, HFAR.out.moved hmv5 HRD.out.lt HRD.out.rlt, moved_ge hmv5 HRW.out HB3.out.size⟩
          bel_ := below_chg HB3.out (Nat.le_refl _) hch5 (by intro x hx; rcases List.mem_cons.1 hx with h | h; (rw [h]; exact HI.out.gw_); (exact HRW.out x h)), gr_ := HI.out.gr_, gw_ := HI.out.gw_ }
        clear hwr5 hch5 hmv5
        go_wp2_with fail
        go_roundw
        case rel => exact ⟨k + 1, a', by omega, by go_num, HI5⟩
        case measure => simp [intOf]; omega
      · cases must with
        | true => exact absurd (by rw [← hrun1]; exact ((HM.out rfl).1 (k + 1) (by have := HS.out.len; omega))) he
        | false =>
          have hq : (((R1.1.e : Nat) : Int) != 0) = true := by rw [bne_iff_ne]; omega
          clear hR1 hrun1 he
          go_wp2_with fail
          refine HAG.out.mono ?_
          unfold AgainPost
          rw [← HR1.out]
          rintro e w3 ⟨p, qs, rfl, hpok, hpis, hpsz, hrd, hch⟩
          have hb3 := below_chg HI.out.bel_ (Nat.le_refl _) hch (by simpa using HI.out.gr_)
          have hbx := (Below.refl w3.heap.size w3).alloc (Nat.le_refl _) (.cells #[.int .i64 p.kind, .int .i64 p.at_, .int .u64 (p.n : Nat), .int .i64 p.num, .slice p.pa p.pn p.pc, .string p.s] 54)
          have HE := Lib.hid (rerr_any gr rr R1.1 _ (hrd.below hbx))
          have HB3 := Lib.hid (hb3.trans (hbx.mono hb3.size))
          obtain ⟨pk, pat, pnn, pnum, ppa, ppn, ppc, pss⟩ := p
          simp only [OpA.val] at HE HB3 ⊢
          clear hpok hpis hpsz hrd hch hb3 hbx HAG
          go_wp2_with fail
          refine HE.out.mono ?_
          rintro e w4 ⟨rfl, rfl⟩
          go_wp2_with fail
          go_ret
          exact ⟨rfl, HB3.out⟩
    · have HK : Hid (k = m) := Lib.hid (by omega)
      obtain ⟨rw, hwr, hfar, hrw⟩ := HI.out.wr_
      have hrd := HI.out.rd_
      have hle := HI.out.le_
      have HBEL := Lib.hid HI.out.bel_
      have hmm : must = true → (Wd.R.end_ ⟨bs, a, 0⟩) = 0 := fun h => by
        have := (HM.out h).2
        have hrun := HI.out.run_
        rw [HK.out, List.take_of_length_le (by have := HS.out.len; simp [opsOf]; omega)] at hrun
        rwa [hrun] at this
      by_cases hend : (Wd.R.end_ ⟨bs, a, 0⟩) = 0
      · have ha : a = bs.length := by
          unfold Wd.R.end_ at hend
          simp only [true_and] at hend
          split at hend
          · cases hend
          · omega
        rw [ha, List.take_of_length_le (Nat.le_refl _)] at hwr
        have HWR := Lib.hid hwr; have HRD := Lib.hid hrd
        have hE : Calls Try.prog 40 #[.pointer (some ⟨gr, 0, none⟩)] wr.drew fun e w' => e = .returned (.int .i64 0) ∧ Chg [] wr.drew w' :=
          (rend_any gr rr ⟨bs, a, 0⟩ _ (hrd.below (w' := wr.drew) ((Below.refl _ _).drew))).mono (by rintro e w' ⟨rfl, _, h2⟩; exact ⟨by rw [hend]; rfl, h2⟩)
        have HE := Lib.hid hE
        have hb0 := HB.out.below (w' := wr) HI.out.bel_
        have HB0 := Lib.hid (hb0.more HI.out.bel_.size)
        have HL := Lib.hid (show bs.length ≤ 140737488351232 by have := HLEN.out; omega)
        clear hwr hrd hmm hend ha hfar hrw hb0 HI hE
        go_wp2_with fail
        first | go_region_law (first
          | (go_simp; go_at_call 40; refine HE.out.mono ?_; rintro e w1 ⟨rfl, hch1⟩; have HCH1 := Lib.hid hch1; have hcB := run_string_of 22 9 A0 n c _ bs w1 Try.underlying22 Try.underlying9 (HB0.out.below (w' := w1) ⟨hch1.os, hch1.tape, hch1.output, hch1.size, fun k hk => hch1.block k hk (by simp)⟩); clear hch1)
          | (go_simp; go_at_call 34; refine (wall_any gw rw ⟨bs, 0⟩ w1 (HWR.out.below (w' := w1) ⟨HCH1.out.os, HCH1.out.tape, HCH1.out.output, HCH1.out.size, fun k hk => HCH1.out.block k hk (by simp)⟩) HL.out).mono ?_; rintro e w5 ⟨⟨A5, c5, rfl, hown⟩, hb5⟩; have HB5 := Lib.hid hb5; have hcA := run_string_of 22 9 A5 bs.length c5 _ bs w5 Try.underlying22 Try.underlying9 hown.isB; have hcB5 := run_string_of 22 9 A0 n c _ bs w5 Try.underlying22 Try.underlying9 ((HB0.out.below (w' := w1) ⟨HCH1.out.os, HCH1.out.tape, HCH1.out.output, HCH1.out.size, fun k hk => HCH1.out.block k hk (by simp)⟩).below (hb5.mono HCH1.out.size)); clear hown hb5)) | fail
        all_goals
          have HBX := Lib.hid (forth_below HBEL.out HCH1.out HB5.out)
          clear hcA hcB5 hcB
          go_wp2_with fail
          go_ret
          refine ⟨?_, HBX.out⟩
          go_simp
      · cases must with
        | true => exact absurd (hmm rfl) hend
        | false =>
          have hq : (((Wd.R.end_ ⟨bs, a, 0⟩ : Nat) : Int) != 0) = true := by rw [bne_iff_ne]; omega
          have HRD := Lib.hid hrd
          clear hwr hrd hmm hend hfar hrw HI
          go_wp2_with fail
          first | go_region_law (first
            | (go_simp; go_at_call 40; refine (rend_any gr rr ⟨bs, a, 0⟩ _ (HRD.out.below (w' := wr.drew) ((Below.refl _ _).drew))).mono ?_; rintro e w1 ⟨rfl, hrd1, hch1⟩; have HCH1 := Lib.hid hch1; clear hrd1 hch1)) | fail
          all_goals
            have HBX := Lib.hid (forth_below1 HBEL.out HCH1.out)
            go_wp2_with fail
            go_ret
            refine ⟨?_, HBX.out⟩
            go_simp
/-- the first call: three bytes that one text takes -/
theorem must_first : MustRun true [1, 0, 98] [((⟨6, 0, 0, 0, none, 0, 0, ⟨#[120]⟩⟩ : OpA), [])] := by
  intro _
  constructor
  · intro k hk
    rcases (show k = 0 ∨ k = 1 by simp at hk; omega) with rfl | rfl <;> decide
  · decide
set_option maxRecDepth 100000 in
set_option maxHeartbeats 1000000 in
theorem wordforth_far (A0 : Option Addr) (n c : Nat) (bs : List Nat) (A : Option Addr) (m cm : Nat) (w : World) (hb : IsB w w.heap.size A0 n bs) (hbe : beyondL 2147483647 [n] = true) :
    Calls Try.prog 9 #[.slice A0 n c, .slice A m cm] w fun e w' => e = .returned (.bool true) ∧ Below w.heap.size w w' := by
  have HB := Lib.hid (beyond_one w n hb.2.2 true hbe)
  clear hb hbe
  go_enter Try.func9, Try.ntmps9
  go_wp2_with fail
  refine HB.out.mono ?_
  rintro e w' ⟨rfl, rfl⟩
  go_wp2_with fail
  go_ret
  exact ⟨rfl, (Below.refl _ _).alloc (Nat.le_refl _) _⟩
set_option maxRecDepth 100000 in
set_option maxHeartbeats 1000000 in
theorem wordforth_near (A0 : Option Addr) (n c : Nat) (bs : List Nat) (A : Option Addr) (m cm : Nat) (ops : List (OpA × List Nat)) (w : World) (hb : IsB w w.heap.size A0 n bs) (hA : A0 = none → c = 0) (hs : Scr w w.heap.size A m ops) (hbe : beyondL 2147483647 [n] = false) (hn : n ≤ 2147483647) :
    Calls Try.prog 9 #[.slice A0 n c, .slice A m cm] w fun e w' => e = .returned (.bool true) ∧ Below w.heap.size w w' := by
  have HB := Lib.hid (beyond_one w n hb.2.2 false hbe)
  have h1 : Below w.heap.size w (((w.alloc (.cells #[.int .i64 (n : Nat)] 3)).alloc (.cells #[.int .u8 1, .int .u8 0, .int .u8 98] 5)).alloc (.cells #[.int .i64 6, .int .i64 0, .int .u64 0, .int .i64 0, .slice none 0 0, .string ⟨#[120]⟩] 54)) :=
    (((Below.refl _ _).alloc (Nat.le_refl _) _).alloc (by simp) _).alloc (by simp; omega) _
  have hr1 := (Row.new (w.alloc (.cells #[.int .i64 (n : Nat)] 3)) 5 [.int .u8 1, .int .u8 0, .int .u8 98]).alloc (.cells #[.int .i64 6, .int .i64 0, .int .u64 0, .int .i64 0, .slice none 0 0, .string ⟨#[120]⟩] 54)
  have hr2 := Row.new ((w.alloc (.cells #[.int .i64 (n : Nat)] 3)).alloc (.cells #[.int .u8 1, .int .u8 0, .int .u8 98] 5)) 54 (OpA.cells ⟨6, 0, 0, 0, none, 0, 0, ⟨#[120]⟩⟩)
  have hsz : (w.alloc (.cells #[.int .i64 (n : Nat)] 3)).heap.size = w.heap.size + 1 := by simp
  have hsz2 : ((w.alloc (.cells #[.int .i64 (n : Nat)] 3)).alloc (.cells #[.int .u8 1, .int .u8 0, .int .u8 98] 5)).heap.size = w.heap.size + 1 + 1 := by simp
  rw [hsz] at hr1
  rw [hsz2] at hr2
  have HF1 := Lib.hid (forth_any (some ⟨w.heap.size + 1, 0, none⟩) 3 3 [1, 0, 98] (some ⟨w.heap.size + 1 + 1, 0, none⟩) 1 1 [((⟨6, 0, 0, 0, none, 0, 0, ⟨#[120]⟩⟩ : OpA), [])] true (((w.alloc (.cells #[.int .i64 (n : Nat)] 3)).alloc (.cells #[.int .u8 1, .int .u8 0, .int .u8 98] 5)).alloc (.cells #[.int .i64 6, .int .i64 0, .int .u64 0, .int .i64 0, .slice none 0 0, .string ⟨#[120]⟩] 54))
    (IsB.of_row (cs := [.int .u8 1, .int .u8 0, .int .u8 98]) hr1 rfl rfl (by simp) (by simp) (by omega) (by simp)) (by simp) (by omega) (scr_one hr2 (by simp) ⟨isB_nil _ _, by simp, by simp, by simp, by simp, by simp [ByteArray.size]⟩) must_first)
  have HF2 : Hid (∀ w2, Below w.heap.size w w2 → Calls Try.prog 54 #[.slice A0 n c, .slice A m cm, .bool false] w2 fun e w' => e = .returned (.bool true) ∧ Below w2.heap.size w2 w') := Lib.hid fun w2 h2 =>
    forth_any A0 n c bs A m cm ops false w2 ((hb.below h2).more h2.size) hA hn (by
      have h3 := hs.below h2
      refine ⟨h3.len, fun h0 => ?_, fun x hx => ⟨(h3.ok x hx).1.more h2.size, (h3.ok x hx).2⟩, h3.max⟩
      obtain ⟨b, off, q1, q2, q3⟩ := h3.cells h0
      exact ⟨b, off, q1, Nat.lt_of_lt_of_le q2 h2.size, q3⟩) (fun h => by cases h)
  have H1 := Lib.hid h1
  clear hb hbe hs hr1 hr2 hsz hsz2 h1
  go_enter Try.func9, Try.ntmps9
  go_wp2_with fail
  refine HB.out.mono ?_
  rintro e w1 ⟨rfl, rfl⟩
  go_wp2_with fail
  refine HF1.out.mono ?_
  rintro e w1 ⟨rfl, hb1⟩
  have HB1 := Lib.hid (H1.out.trans (hb1.mono H1.out.size))
  clear hb1
  go_wp2_with fail
  refine (HF2.out w1 HB1.out).mono ?_
  rintro e w2 ⟨rfl, hb2⟩
  have HB2 := Lib.hid (HB1.out.trans (hb2.mono HB1.out.size))
  clear hb2
  go_wp2_with fail
  go_ret
  exact ⟨rfl, HB2.out⟩
theorem wordforth_walk (A0 : Option Addr) (n c : Nat) (bs : List Nat) (A : Option Addr) (m cm : Nat) (ops : List (OpA × List Nat)) (w : World) (hb : IsB w w.heap.size A0 n bs) (hA : A0 = none → c = 0) (hs : Scr w w.heap.size A m ops) :
    Calls Try.prog 9 #[.slice A0 n c, .slice A m cm] w fun e w' => e = .returned (.bool true) ∧ Below w.heap.size w w' := by
  cases hbe : beyondL 2147483647 [n] with
  | true => exact wordforth_far A0 n c bs A m cm w hb hbe
  | false =>
    refine wordforth_near A0 n c bs A m cm ops w hb hA hs hbe ?_
    unfold beyondL at hbe
    split at hbe
    · cases hbe
    · omega
end Go.Proofs.Ytajkiglogfahfaa
