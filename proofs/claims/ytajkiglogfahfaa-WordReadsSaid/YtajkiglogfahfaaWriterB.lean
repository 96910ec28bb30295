/- The walks of NewWriter and of the writer's Bytes, Seal, Len, Err, All. -/
import Derived.Test.YtajkiglogfahfaaWriter
set_option linter.unusedVariables false
set_option linter.unusedSimpArgs false
namespace Go.Proofs.Ytajkiglogfahfaa
open Go.RowKit

def IsB' (w : World) (A : Option Addr) (n c : Nat) (bs : List Nat) : Prop := IsB w w.heap.size A n bs ∧ (A = none → c = 0)
theorem Wr.open_ {w : World} {g : Nat} {r : Option Nat} {s : Wd.W} (h : Wr w g r s) : ∃ A c, w.cell? ⟨g, 0, none⟩ = some (.slice A s.b.length c) ∧ w.cell? ⟨g, 1, none⟩ = some (.int .i64 (s.e : Nat)) ∧ w.frozen? ⟨g, 0, none⟩ = false ∧ w.frozen? ⟨g, 1, none⟩ = false ∧ g < w.heap.size ∧
    IsB' w A s.b.length c s.b ∧ Hid (Row w g 108 [.slice A s.b.length c, .int .i64 (s.e : Nat)]) ∧ Hid (w.ownsRow 0 5 1 (.slice A s.b.length c) s.b.length (s.b.map u8)) ∧ Hid ((Value.slice A s.b.length c).ownBlock = r) ∧ Hid (r ≠ some g) := by
  obtain ⟨A, c, hrow, hown, hob, hbs⟩ := h
  refine ⟨A, c, hrow.cell 0, hrow.cell 1, hrow.frozen 0, hrow.frozen 1, hrow.lt, ⟨⟨Reads.of_own hown, hbs, ?_⟩, ?_⟩, hrow, hown, hob, ?_⟩
  · rcases hown.2 with ⟨_, h⟩ | ⟨g', cap, cur, hv, _, _, hnc, hcm, _⟩
    · omega
    · unfold maxLen at hcm; omega
  · rcases hown.2 with ⟨h, _⟩ | ⟨g', cap, cur, hv, _⟩
    · intro _; injection h
    · intro h; rw [h] at hv; cases hv
  · show r ≠ some g
    rw [← hob]
    exact own_blk_ne (cs := #[.slice A s.b.length c, .int .i64 (s.e : Nat)]) hown hrow (by decide)

/-- the writer is refused -/
theorem err_done {w : World} {g c k : Nat} {r : Option Nat} {A : Option Addr} {bs : List Nat} {e : Int} (hrow : Row w g 108 [.slice A bs.length c, .int .i64 e]) (hown : w.ownsRow 0 5 1 (.slice A bs.length c) bs.length (bs.map u8)) (hob : (Value.slice A bs.length c).ownBlock = r) (hbs : ∀ b ∈ bs, b < 256) :
    ∃ r', Wr (w.setCell ⟨g, 1, none⟩ (.int .i64 (k : Nat))) g r' ⟨bs, k⟩ ∧ Chg (g :: r.toList) w (w.setCell ⟨g, 1, none⟩ (.int .i64 (k : Nat))) ∧ Moved w r r' :=
  ⟨r, ⟨A, c, hrow.set_ 1 _, own_set hown hrow (by decide) 1 _, hob, hbs⟩, (Chg.refl _ _).set_ (.inl (by simp)) _, Moved.refl _ _⟩
theorem Wr.below {w w' : World} {g : Nat} {r : Option Nat} {s : Wd.W} (h : Wr w g r s) (hb : Below w.heap.size w w') : Wr w' g r s := by
  obtain ⟨A, c, hrow, hown, hob, hbs⟩ := h
  exact ⟨A, c, hrow.below hb hrow.lt, owns_below hown hb, hob, hbs⟩
set_option maxHeartbeats 400000 in
theorem newwriter_any (w : World) : Calls Try.prog 31 #[] w fun e w' => e = .returned (.pointer (some ⟨w.heap.size, 0, none⟩)) ∧ Wr w' w.heap.size none ⟨[], 0⟩ ∧ Below w.heap.size w w' := by
  go_enter Try.func31, Try.ntmps31
  go_wp2_with fail
  go_ret
  exact ⟨rfl, ⟨none, 0, Row.new w 108 [.slice none 0 0, .int .i64 0], World.ownsRow_nil _ _ _ _, rfl, by simp⟩, (Below.refl _ _).alloc (Nat.le_refl _) _⟩
set_option maxHeartbeats 400000 in
theorem werr_any (g : Nat) (r : Option Nat) (s : Wd.W) (w : World) (hw : Wr w g r s) : Calls Try.prog 35 #[.pointer (some ⟨g, 0, none⟩)] w fun e w' => e = .returned (.int .i64 (s.e : Nat)) ∧ w = w' := by
  obtain ⟨A, c, c0, c1, f0, f1, hlt, _, _⟩ := hw.open_
  clear hw
  go_enter Try.func35, Try.ntmps35
  go_wp2_with fail
  go_ret
  exact ⟨rfl, rfl⟩
set_option maxHeartbeats 400000 in
theorem wlen_any (g : Nat) (r : Option Nat) (s : Wd.W) (w : World) (hw : Wr w g r s) : Calls Try.prog 48 #[.pointer (some ⟨g, 0, none⟩)] w fun e w' => e = .returned (.int .i64 (s.b.length : Nat)) ∧ w = w' := by
  obtain ⟨A, c, c0, c1, f0, f1, hlt, _, _⟩ := hw.open_
  clear hw
  go_enter Try.func48, Try.ntmps48
  go_wp2_with fail
  go_ret
  exact ⟨rfl, rfl⟩
set_option maxHeartbeats 400000 in
theorem wall_any (g : Nat) (r : Option Nat) (s : Wd.W) (w : World) (hw : Wr w g r s) (hl : s.b.length ≤ 140737488351232) : Calls Try.prog 34 #[.pointer (some ⟨g, 0, none⟩)] w fun e w' => (∃ A' c', e = .returned (.slice A' s.b.length c') ∧ Own w' w.heap.size A' s.b.length c' s.b) ∧ Below w.heap.size w w' := by
  obtain ⟨A, c, c0, c1, f0, f1, hlt, hB, _⟩ := hw.open_
  have H := Lib.hid (clone_any A s.b.length c s.b w hB.1 hl hB.2)
  clear hw hB
  go_enter Try.func34, Try.ntmps34
  go_wp2_with fail
  refine H.out.mono ?_
  rintro e w' ⟨⟨A', c', rfl, hown⟩, hb⟩
  have HO := Lib.hid hown
  have HB := Lib.hid hb
  clear hown hb
  go_wp2_with fail
  go_ret
  exact ⟨⟨A', c', rfl, HO.out⟩, HB.out⟩

set_option maxRecDepth 100000 in
set_option maxHeartbeats 400000 in
theorem wbytes_any (g : Nat) (r : Option Nat) (s : Wd.W) (A0 : Option Addr) (m c0 : Nat) (bs : List Nat) (w : World) (hw : Wr w g r s) (hb : IsB w w.heap.size A0 m bs) (hl : s.b.length + m ≤ 140737488351232) :
    Calls Try.prog 32 #[.pointer (some ⟨g, 0, none⟩), .slice A0 m c0] w fun e w' => e = .returned (.tuple #[]) ∧ ∃ r', Wr w' g r' (s.lay bs) ∧ Chg (g :: r.toList) w w' ∧ Moved w r r' := by
  obtain ⟨A, c, d0, d1, f0, f1, hlt, hB, HROW, HOWN, HOB, HGR⟩ := hw.open_
  by_cases he : s.e = 0
  · have e0 : s.lay bs = ⟨s.b ++ bs, 0⟩ := by unfold Wd.W.lay; rw [if_pos he]
    obtain ⟨xs, e⟩ := s
    simp only at he hl d0 d1 hB e0
    subst he
    obtain ⟨i0, hi0, hz1, hz2, hz3⟩ := info_parts info5w
    have HE := Lib.hid e0
    have HI := Lib.hid hi0; have HZ1 := Lib.hid hz1; have HZ2 := Lib.hid hz2; have HZ3 := Lib.hid hz3
    have HB := Lib.hid hb
    have HBX := Lib.hid hB
    clear hi0 hz1 hz2 hz3 e0 hb hB hw
    go_enter Try.func32, Try.ntmps32
    go_wp2_with (at_builtin; refine wpList_append_sl _ rfl (.tmp 13) (.tmp 14) _ rfl 0 5 i0 _ 1 1 Try.underlying22 HI.out HZ1.out HZ2.out HZ3.out rfl (by omega) (.slice A xs.length c) xs.length (xs.map u8) rfl HOWN.out w.heap.size A0 m c0 (bs.map u8) rfl HB.out.1 (one_u8w bs) (by unfold maxLen; omega) (by omega) (Nat.zero_le _) ?_; intro A2 c2 w2 hown2 hr2 hg2 hat2; have HO2 := Lib.hid hown2; have HG2 := Lib.hid hg2; have HA2 := Lib.hid hat2; obtain ⟨k0, k1⟩ := row_two (row_grown HROW.out hg2 (fun h => HGR.out (HOB.out.symm.trans h.symm))); clear hown2 hr2 hg2 hat2)
    go_end0
    refine ⟨rfl, ?_⟩
    rw [HE.out]
    exact lay_done (w := w) HROW.out HOB.out HGR.out (Below.refl _ _) HO2.out HG2.out HA2.out HBX.out.1.2.1 HB.out.2.1 rfl HB.out.len
  · have he' : ((s.e : Int) == 0) = false := beq_eq_false_iff_ne.2 (by omega)
    have e0 : s.lay bs = s := by unfold Wd.W.lay; rw [if_neg he]
    have HE := Lib.hid e0
    have HW := Lib.hid hw
    clear hw he e0 hB hb
    go_enter Try.func32, Try.ntmps32
    go_wp2_with fail
    go_end0
    exact ⟨rfl, r, by rw [HE.out]; exact HW.out, Chg.refl _ _, Moved.refl _ _⟩
end Go.Proofs.Ytajkiglogfahfaa
