/- The walks of NewWriter and of the writer's Bytes, Seal, Len, Err, All. -/
import Derived.Test.YtblfagmoilhdnaaWriter
set_option linter.unusedVariables false
set_option linter.unusedSimpArgs false
namespace Go.Proofs.Ytblfagmoilhdnaa
open Go.RowKit

def IsB' (w : World) (A : Option Addr) (n c : Nat) (bs : List Nat) : Prop := IsB w w.heap.size A n bs ∧ (A = none → c = 0)
theorem Wr.open_ {w : World} {g : Nat} {r : Option Nat} {s : Wd.W} (h : Wr w g r s) : ∃ A c, w.cell? ⟨g, 0, none⟩ = some (.slice A s.b.length c) ∧ w.cell? ⟨g, 1, none⟩ = some (.int .i64 (s.e : Nat)) ∧ w.frozen? ⟨g, 0, none⟩ = false ∧ w.frozen? ⟨g, 1, none⟩ = false ∧ g < w.heap.size ∧
    IsB' w A s.b.length c s.b ∧ Hid (Row w g 127 [.slice A s.b.length c, .int .i64 (s.e : Nat)]) ∧ Hid (w.ownsRow 0 5 1 (.slice A s.b.length c) s.b.length (s.b.map u8)) ∧ Hid ((Value.slice A s.b.length c).ownBlock = r) ∧ Hid (r ≠ some g) := by
  obtain ⟨A, c, hrow, hown, hob, hbs⟩ := h
  refine ⟨A, c, hrow.cell 0, hrow.cell 1, hrow.frozen 0, hrow.frozen 1, hrow.lt, ⟨⟨Reads.of_own hown, hbs, ?_⟩, ?_⟩, hrow, hown, hob, ?_⟩
  · rcases hown.2 with ⟨_, h⟩ | ⟨g', cap, cur, hv, _, _, hnc, hcm, _⟩
    · omega
    · unfold maxLen at hcm; omega
  · rcases hown.2 with ⟨h, _⟩ | ⟨g', cap, cur, hv, _⟩
    · intro _; injection h
    · intro h; rw [h] at hv; cases hv
  · show r ≠ some g
    rw [← hob]
    exact own_blk_ne (cs := #[.slice A s.b.length c, .int .i64 (s.e : Nat)]) hown hrow (by decide)

/-- the writer is refused -/
theorem err_done {w : World} {g c k : Nat} {r : Option Nat} {A : Option Addr} {bs : List Nat} {e : Int} (hrow : Row w g 127 [.slice A bs.length c, .int .i64 e]) (hown : w.ownsRow 0 5 1 (.slice A bs.length c) bs.length (bs.map u8)) (hob : (Value.slice A bs.length c).ownBlock = r) (hbs : ∀ b ∈ bs, b < 256) :
    ∃ r', Wr (w.setCell ⟨g, 1, none⟩ (.int .i64 (k : Nat))) g r' ⟨bs, k⟩ ∧ Chg (g :: r.toList) w (w.setCell ⟨g, 1, none⟩ (.int .i64 (k : Nat))) ∧ Moved w r r' :=
  ⟨r, ⟨A, c, hrow.set_ 1 _, own_set hown hrow (by decide) 1 _, hob, hbs⟩, (Chg.refl _ _).set_ (.inl (by simp)) _, Moved.refl _ _⟩
theorem Wr.below {w w' : World} {g : Nat} {r : Option Nat} {s : Wd.W} (h : Wr w g r s) (hb : Below w.heap.size w w') : Wr w' g r s := by
  obtain ⟨A, c, hrow, hown, hob, hbs⟩ := h
  exact ⟨A, c, hrow.below hb hrow.lt, owns_below hown hb, hob, hbs⟩
set_option maxHeartbeats 400000 in
theorem newwriter_any (w : World) : Calls Try.prog 36 #[] w fun e w' => e = .returned (.pointer (some ⟨w.heap.size, 0, none⟩)) ∧ Wr w' w.heap.size none ⟨[], 0⟩ ∧ Below w.heap.size w w' := by
  go_enter Try.func36, Try.ntmps36
  go_wp2_with fail
  go_ret
  exact ⟨rfl, ⟨none, 0, Row.new w 127 [.slice none 0 0, .int .i64 0], World.ownsRow_nil _ _ _ _, rfl, by simp⟩, (Below.refl _ _).alloc (Nat.le_refl _) _⟩
set_option maxHeartbeats 400000 in
theorem wall_any (g : Nat) (r : Option Nat) (s : Wd.W) (w : World) (hw : Wr w g r s) (hl : s.b.length ≤ 140737488351232) : Calls Try.prog 38 #[.pointer (some ⟨g, 0, none⟩)] w fun e w' => (∃ A' c', e = .returned (.slice A' s.b.length c') ∧ Own w' w.heap.size A' s.b.length c' s.b) ∧ Below w.heap.size w w' := by
  obtain ⟨A, c, c0, c1, f0, f1, hlt, hB, _⟩ := hw.open_
  have H := Lib.hid (clone_any A s.b.length c s.b w hB.1 hl hB.2)
  clear hw hB
  go_enter Try.func38, Try.ntmps38
  go_wp2_with fail
  refine H.out.mono ?_
  rintro e w' ⟨⟨A', c', rfl, hown⟩, hb⟩
  have HO := Lib.hid hown
  have HB := Lib.hid hb
  clear hown hb
  go_wp2_with fail
  go_ret
  exact ⟨⟨A', c', rfl, HO.out⟩, HB.out⟩

end Go.Proofs.Ytblfagmoilhdnaa
