/- The walks of the document's writer. -/
import Derived.Test.YtajkiglogfahfaaWriterD
set_option linter.unusedVariables false
set_option linter.unusedSimpArgs false
namespace Go.Proofs.Ytajkiglogfahfaa
open Go.RowKit

/-- the document's writer -/
def Rw (w : World) (g : Nat) (r : Option Nat) (s : Wd.W) : Prop :=
  ∃ A c, Row w g 104 [.slice A s.b.length c, .int .i64 (s.e : Nat)] ∧ w.ownsRow 0 5 1 (.slice A s.b.length c) s.b.length (s.b.map u8) ∧ (Value.slice A s.b.length c).ownBlock = r ∧ (∀ b ∈ s.b, b < 256)
theorem Rw.open_ {w : World} {g : Nat} {r : Option Nat} {s : Wd.W} (h : Rw w g r s) : ∃ A c, w.cell? ⟨g, 0, none⟩ = some (.slice A s.b.length c) ∧ w.cell? ⟨g, 1, none⟩ = some (.int .i64 (s.e : Nat)) ∧ w.frozen? ⟨g, 0, none⟩ = false ∧ w.frozen? ⟨g, 1, none⟩ = false ∧ g < w.heap.size ∧
    IsB' w A s.b.length c s.b ∧ Hid (Row w g 104 [.slice A s.b.length c, .int .i64 (s.e : Nat)]) ∧ Hid (w.ownsRow 0 5 1 (.slice A s.b.length c) s.b.length (s.b.map u8)) ∧ Hid ((Value.slice A s.b.length c).ownBlock = r) ∧ Hid (r ≠ some g) ∧ s.b.length ≤ c := by
  obtain ⟨A, c, hrow, hown, hob, hbs⟩ := h
  refine ⟨A, c, hrow.cell 0, hrow.cell 1, hrow.frozen 0, hrow.frozen 1, hrow.lt, ⟨⟨Reads.of_own hown, hbs, ?_⟩, ?_⟩, hrow, hown, hob, ?_, ?_⟩
  · rcases hown.2 with ⟨_, h⟩ | ⟨g', cap, cur, hv, _, _, hnc, hcm, _⟩
    · omega
    · unfold maxLen at hcm; omega
  · rcases hown.2 with ⟨h, _⟩ | ⟨g', cap, cur, hv, _⟩
    · intro _; injection h
    · intro h; rw [h] at hv; cases hv
  · show r ≠ some g
    rw [← hob]
    exact own_blk_ne (cs := #[.slice A s.b.length c, .int .i64 (s.e : Nat)]) hown hrow (by decide)
  · rcases hown.2 with ⟨h, h0⟩ | ⟨g', cap, cur, hv, _, _, hnc, _⟩
    · omega
    · injection hv with _ _ hc; omega
theorem Rw.below {w w' : World} {g : Nat} {r : Option Nat} {s : Wd.W} (h : Rw w g r s) (hb : Below w.heap.size w w') : Rw w' g r s := by
  obtain ⟨A, c, hrow, hown, hob, hbs⟩ := h
  exact ⟨A, c, hrow.below hb hrow.lt, owns_below hown hb, hob, hbs⟩
theorem derr_done {w : World} {g c k : Nat} {r : Option Nat} {A : Option Addr} {bs : List Nat} {e : Int} (hrow : Row w g 104 [.slice A bs.length c, .int .i64 e]) (hown : w.ownsRow 0 5 1 (.slice A bs.length c) bs.length (bs.map u8)) (hob : (Value.slice A bs.length c).ownBlock = r) (hbs : ∀ b ∈ bs, b < 256) :
    ∃ r', Rw (w.setCell ⟨g, 1, none⟩ (.int .i64 (k : Nat))) g r' ⟨bs, k⟩ ∧ Chg (g :: r.toList) w (w.setCell ⟨g, 1, none⟩ (.int .i64 (k : Nat))) ∧ Moved w r r' :=
  ⟨r, ⟨A, c, hrow.set_ 1 _, own_set hown hrow (by decide) 1 _, hob, hbs⟩, (Chg.refl _ _).set_ (.inl (by simp)) _, Moved.refl _ _⟩
theorem dlay_done {w w1 w2 : World} {g n k c c2 : Nat} {r : Option Nat} {A A2 : Option Addr} {bs x : List Nat} (hrow : Row w g 104 [.slice A n c, .int .i64 ((0 : Nat) : Int)]) (hob : (Value.slice A n c).ownBlock = r) (hgr : r ≠ some g) (hb1 : Below w.heap.size w w1)
    (hown2 : w2.ownsRow 0 5 1 (.slice A2 (n + k) c2) (n + k) (bs.map u8 ++ x.map u8)) (hg2 : w1.grownBy w2 (Value.slice A n c).ownBlock) (hat2 : (Value.slice A2 (n + k) c2).ownBlock = (Value.slice A n c).ownBlock ∨ (Value.slice A2 (n + k) c2).ownBlock = some w1.heap.size)
    (hbs : ∀ b ∈ bs, b < 256) (hx : ∀ b ∈ x, b < 256) (hn : bs.length = n) (hk : x.length = k) :
    ∃ r', Rw (w2.setCell ⟨g, 0, none⟩ (.slice A2 (n + k) c2)) g r' ⟨bs ++ x, 0⟩ ∧ Chg (g :: r.toList) w (w2.setCell ⟨g, 0, none⟩ (.slice A2 (n + k) c2)) ∧ Moved w r r' := by
  have hr1 := hrow.below hb1 hrow.lt
  have hr2 : Row w2 g 104 [.slice A n c, .int .i64 ((0 : Nat) : Int)] := row_grown hr1 hg2 (fun h => hgr (hob.symm.trans h.symm))
  have hr3 := hr2.set_ 0 (.slice A2 (n + k) c2)
  refine ⟨(Value.slice A2 (n + k) c2).ownBlock, ⟨A2, c2, ?_, ?_, ?_, ?_⟩, ?_, ?_⟩
  · rw [List.length_append, hn, hk]; exact hr3
  · rw [List.length_append, hn, hk, List.map_append]; exact own_set hown2 hr2 (by decide) 0 _
  · rw [List.length_append, hn, hk]
  · intro b hb
    rcases List.mem_append.1 hb with h | h
    · exact hbs b h
    · exact hx b h
  · refine Chg.set_ (S := g :: r.toList) ?_ (.inl (by simp)) _
    exact ⟨hg2.os.trans hb1.os, hg2.tape.trans hb1.tape, hg2.output.trans hb1.output, Nat.le_trans hb1.size hg2.size, fun i hi hn => (hg2.block i (Nat.lt_of_lt_of_le hi hb1.size) (fun h => hn (by rw [hob] at h; rw [← h]; simp))).trans (hb1.block i hi)⟩
  · rcases hat2 with h | h
    · exact .inl (h.trans hob)
    · exact .inr ⟨_, h, hb1.size⟩
theorem own_capd {w : World} {base n c : Nat} {A : Option Addr} {bs : List Nat} (h : Own w base A n c bs) : n ≤ c ∧ c ≤ maxLen := by
  rcases h.1.2 with ⟨hv, h0⟩ | ⟨g, cap, cur, hv, _, _, hnc, hcm, _⟩
  · injection hv with _ _ hc; subst hc h0; exact ⟨by omega, by unfold maxLen; omega⟩
  · injection hv with _ _ hc; subst hc; exact ⟨hnc, hcm⟩
theorem reads_u8 {w : World} {u : Value} {B : Nat} (hB : w.heap.size < B) : Reads (w.alloc (.cells #[u] 5)) B 1 (some ⟨w.heap.size, 0, none⟩) 1 [u] := by
  refine ⟨rfl, fun _ => ⟨_, rfl, hB, fun j x hx => ?_⟩⟩
  have e : (⟨w.heap.size, 0, none⟩ : Addr).add j = ⟨w.heap.size, j, none⟩ := by unfold Addr.add; split <;> simp_all
  rw [e, (Row.new w 5 [u]).cell, hx]
set_option maxRecDepth 100000 in
set_option maxHeartbeats 400000 in
theorem refbytes_any (n size : Nat) (w : World) (hn : n < 18446744073709551616) (hs : size ≤ 8) :
    Calls Try.prog 127 #[.int .u64 (n : Nat), .int .i64 (size : Nat)] w fun e w' => (∃ A c, e = .returned (.slice A size c) ∧ Own w' w.heap.size A size c (Wd.le size n)) ∧ Below w.heap.size w w' := by
  obtain ⟨i0, hi0, hz1, hz2, hz3⟩ := info_parts info5w
  have HI := Lib.hid hi0; have HZ1 := Lib.hid hz1; have HZ2 := Lib.hid hz2; have HZ3 := Lib.hid hz3
  clear hi0 hz1 hz2 hz3
  go_enter Try.func127, Try.ntmps127
  go_wp2_with fail
  go_loopw [5, 6] (fun v i wr => ∃ (j c : Nat) (A : Option Addr), j ≤ size ∧ i = .int .i64 j ∧ v = .slice A j c ∧ Hid (Own wr w.heap.size A j c (Wd.le j n)) ∧ Hid (Below w.heap.size w wr)) (fun _ i _ => size - (intOf i).toNat)
  case atStart => exact ⟨0, 0, none, by omega, rfl, rfl, Lib.hid ⟨World.ownsRow_nil _ _ _ _, by simp [Wd.le], by omega⟩, Lib.hid (Below.refl _ _)⟩
  case round =>
    obtain ⟨j, c, A, hj, rfl, rfl, HO, HB⟩ := hrel
    by_cases hjn : j < size
    · obtain ⟨x, hx⟩ : ∃ x, x = n / 2 ^ (8 * j) % 256 := ⟨_, rfl⟩
      have e1 : IntKind.i64.wrap (8 * (j : Int)) = 8 * (j : Int) := by rw [IntKind.wrap_i64]; omega
      have e2 : ((n : Int) / 2 ^ (8 * j) % 256) = (x : Int) := by rw [hx]; norm_cast
      have HX := Lib.hid hx
      have HE2 := Lib.hid e2
      clear e2
      have hcap := own_capd HO.out
      have hsz := HB.out.size
      clear hx
      go_wp2_with (at_builtin; refine wpList_append_sl _ rfl (.tmp 12) (.tmp 19) _ rfl w.heap.size 5 i0 _ 1 1 Try.underlying22 HI.out HZ1.out HZ2.out HZ3.out rfl (by omega) (.slice A j c) j ((Wd.le j n).map Go.Proofs.Ytajkiglogfahfaa.u8) rfl (HO.out.1.alloc _) (wr.heap.size + 1) (some ⟨wr.heap.size, 0, none⟩) 1 1 [.int .u8 ((n : Int) / 2 ^ (8 * j) % 256)] rfl (reads_u8 (by omega)) (by simp [Value.oneCell']) (by unfold maxLen; omega) (by omega) (by simp; omega) ?_; intro A2 c2 w2 hown2 hrd2 hg2 hat2; have HO2 := Lib.hid hown2; have HG2 := Lib.hid hg2; clear hown2 hrd2 hg2 hat2)
      go_roundw
      case rel =>
        refine ⟨j + 1, c2, A2, by omega, by go_num, rfl, Lib.hid ⟨?_, Wd.le_lt _ _, by omega⟩, Lib.hid (((HB.out.alloc HB.out.size _)).grown HG2.out (by simp; omega) (fun k hk => (HO.out.1.lt k hk).1))⟩
        rw [Wd.le_succ, List.map_append]
        have e3 : n / 256 ^ j % 256 = x := by rw [HX.out, Nat.pow_mul]
        rw [e3]
        have := HO2.out
        rw [HE2.out] at this
        exact this
      case measure => simp [intOf]; omega
    · have HJ : Hid (j = size) := Lib.hid (by omega)
      go_wp2_with fail
      go_ret
      refine ⟨⟨A, c, by rw [← HJ.out]; rfl, by have := HO.out; rwa [HJ.out] at this⟩, HB.out⟩
set_option maxRecDepth 100000 in
set_option maxHeartbeats 1000000 in
theorem dnumber_any (g : Nat) (r : Option Nat) (s : Wd.W) (n size : Nat) (w : World) (hw : Rw w g r s) (hn : n < 18446744073709551616) (hs : size ≤ 8) (hl : s.b.length ≤ 70368744177664) :
    Calls Try.prog 108 #[.pointer (some ⟨g, 0, none⟩), .int .u64 (n : Nat), .int .i64 (size : Nat)] w fun e w' => e = .returned (.tuple #[]) ∧ ∃ r', Rw w' g r' (s.lay (Wd.le size n)) ∧ Chg (g :: r.toList) w w' ∧ Moved w r r' := by
  obtain ⟨A, c, d0, d1, f0, f1, hlt, hB, HROW, HOWN, HOB, HGR, _⟩ := hw.open_
  obtain ⟨i0, hi0, hz1, hz2, hz3⟩ := info_parts info5w
  by_cases he : s.e = 0
  · have e0 : s.lay (Wd.le size n) = ⟨s.b ++ Wd.le size n, 0⟩ := by unfold Wd.W.lay; rw [if_pos he]
    obtain ⟨bs, e⟩ := s
    simp only at he hl d0 d1 hB e0
    subst he
    have hbs := Lib.hid hB.1.2.1
    have HE := Lib.hid e0
    have HI := Lib.hid hi0; have HZ1 := Lib.hid hz1; have HZ2 := Lib.hid hz2; have HZ3 := Lib.hid hz3
    clear e0 hi0 hz1 hz2 hz3 hw hB
    go_enter Try.func108, Try.ntmps108
    go_wp2_with fail
    first | go_region_law (first
      | (refine step_append_sl _ (by rfl) (.tmp 15) (.tmp 18) 22 (by rfl) 0 5 i0 _ 1 1 Try.underlying22 HI.out HZ1.out HZ2.out HZ3.out rfl (by omega) (.slice A bs.length c) bs.length (bs.map u8) (by simp [Act.eval, Act.put]) (owns_below (w := w.drew) HOWN.out hb1) w1.heap.size (some ⟨g1, 0, none⟩) size c1 ((Wd.le size n).map u8) (by simp [Act.eval, Act.put]) hown1.isB.1 (one_u8w _) (by unfold maxLen; omega) (by omega) (Nat.zero_le _) ?_; intro A2 c2 w2 hown2 hg2 hat2; obtain ⟨d0, d1⟩ := row_two (row_grown (HROW.out.below (w := w.drew) hb1 (by simpa using hlt)) hg2 (fun h => HGR.out (HOB.out.symm.trans h.symm))))
      | (refine step_append_sl _ (by rfl) (.tmp 15) (.tmp 18) 22 (by rfl) 0 5 i0 _ 1 1 Try.underlying22 HI.out HZ1.out HZ2.out HZ3.out rfl (by omega) (.slice A bs.length c) bs.length (bs.map u8) (by simp [Act.eval, Act.put]) (owns_below (w := w.drew) HOWN.out hb1) w1.heap.size A1 size c1 ((Wd.le size n).map u8) (by simp [Act.eval, Act.put]) hown1.isB.1 (one_u8w _) (by unfold maxLen; omega) (by omega) (Nat.zero_le _) ?_; intro A2 c2 w2 hown2 hg2 hat2; obtain ⟨d0, d1⟩ := row_two (row_grown (HROW.out.below (w := w.drew) hb1 (by simpa using hlt)) hg2 (fun h => HGR.out (HOB.out.symm.trans h.symm))))
      | (go_simp; go_at_call 127; refine (refbytes_any n size _ hn hs).mono ?_; rintro e w1 ⟨⟨A1, c1, rfl, hown1⟩, hb1⟩; obtain ⟨d0, d1⟩ := row_two (HROW.out.below (w := w.drew) hb1 (by simpa using hlt)))) | fail
    all_goals
      go_end0
      refine ⟨rfl, ?_⟩
      rw [HE.out]
      exact dlay_done (w := w) HROW.out HOB.out HGR.out (⟨hb1.os, hb1.tape, hb1.output, hb1.size, hb1.block⟩ : Below w.heap.size w w1) hown2 hg2 hat2 hbs.out (Wd.le_lt size n) rfl (Wd.le_len size n)
  · have he' : ((s.e : Int) == 0) = false := beq_eq_false_iff_ne.2 (by omega)
    have e0 : s.lay (Wd.le size n) = s := by unfold Wd.W.lay; rw [if_neg he]
    have HE := Lib.hid e0
    have HW := Lib.hid hw
    clear hw hB hi0 hz1 hz2 hz3 he e0
    go_enter Try.func108, Try.ntmps108
    go_wp2_with fail
    go_end0
    exact ⟨rfl, r, by rw [HE.out]; exact HW.out, Chg.refl _ _, Moved.refl _ _⟩
set_option maxRecDepth 100000 in
set_option maxHeartbeats 400000 in
theorem dbytes_any (g : Nat) (r : Option Nat) (s : Wd.W) (A0 : Option Addr) (m c0 : Nat) (bs : List Nat) (w : World) (hw : Rw w g r s) (hb : IsB w w.heap.size A0 m bs) (hl : s.b.length + m ≤ 140737488351232) :
    Calls Try.prog 109 #[.pointer (some ⟨g, 0, none⟩), .slice A0 m c0] w fun e w' => e = .returned (.tuple #[]) ∧ ∃ r', Rw w' g r' (s.lay bs) ∧ Chg (g :: r.toList) w w' ∧ Moved w r r' := by
  obtain ⟨A, c, d0, d1, f0, f1, hlt, hB, HROW, HOWN, HOB, HGR, _⟩ := hw.open_
  by_cases he : s.e = 0
  · have e0 : s.lay bs = ⟨s.b ++ bs, 0⟩ := by unfold Wd.W.lay; rw [if_pos he]
    obtain ⟨xs, e⟩ := s
    simp only at he hl d0 d1 hB e0
    subst he
    obtain ⟨i0, hi0, hz1, hz2, hz3⟩ := info_parts info5w
    have HE := Lib.hid e0
    have HI := Lib.hid hi0; have HZ1 := Lib.hid hz1; have HZ2 := Lib.hid hz2; have HZ3 := Lib.hid hz3
    have HB := Lib.hid hb
    have HBX := Lib.hid hB
    clear hi0 hz1 hz2 hz3 e0 hb hB hw
    go_enter Try.func109, Try.ntmps109
    go_wp2_with (at_builtin; refine wpList_append_sl _ rfl (.tmp 13) (.tmp 14) _ rfl 0 5 i0 _ 1 1 Try.underlying22 HI.out HZ1.out HZ2.out HZ3.out rfl (by omega) (.slice A xs.length c) xs.length (xs.map u8) rfl HOWN.out w.heap.size A0 m c0 (bs.map u8) rfl HB.out.1 (one_u8w bs) (by unfold maxLen; omega) (by omega) (Nat.zero_le _) ?_; intro A2 c2 w2 hown2 hr2 hg2 hat2; have HO2 := Lib.hid hown2; have HG2 := Lib.hid hg2; have HA2 := Lib.hid hat2; obtain ⟨k0, k1⟩ := row_two (row_grown HROW.out hg2 (fun h => HGR.out (HOB.out.symm.trans h.symm))); clear hown2 hr2 hg2 hat2)
    go_end0
    refine ⟨rfl, ?_⟩
    rw [HE.out]
    exact dlay_done (w := w) HROW.out HOB.out HGR.out (Below.refl _ _) HO2.out HG2.out HA2.out HBX.out.1.2.1 HB.out.2.1 rfl HB.out.len
  · have he' : ((s.e : Int) == 0) = false := beq_eq_false_iff_ne.2 (by omega)
    have e0 : s.lay bs = s := by unfold Wd.W.lay; rw [if_neg he]
    have HE := Lib.hid e0
    have HW := Lib.hid hw
    clear hw he e0 hB hb
    go_enter Try.func109, Try.ntmps109
    go_wp2_with fail
    go_end0
    exact ⟨rfl, r, by rw [HE.out]; exact HW.out, Chg.refl _ _, Moved.refl _ _⟩
end Go.Proofs.Ytajkiglogfahfaa
