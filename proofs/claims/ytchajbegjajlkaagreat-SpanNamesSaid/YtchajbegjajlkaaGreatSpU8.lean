/- The walk of Of without a span. -/
import Derived.Test.YtchajbegjajlkaaGreatSpT8
set_option linter.unusedVariables false
set_option linter.unusedSimpArgs false
namespace Go.Proofs.YtchajbegjajlkaaGreat
open Go.RowKit
namespace S8
set_option maxRecDepth 100000 in
set_option maxHeartbeats 1000000 in
theorem of_nil (w : World) :
    Calls Tryz.prog 9 #[.slice none 0 0] w fun e w' => e = .returned (.agg #[.slice none 0 0]) ∧ Below w.heap.size w w' := by
  go_enter Tryz.func9, Tryz.ntmps9
  go_wp2_with fail
  have hb0 : Below w.heap.size w (w.alloc (.cells #[.slice none 0 0] 27)) := (Below.refl _ _).alloc (Nat.le_refl _) _
  have hr0 : Row (w.alloc (.cells #[.slice none 0 0] 27)) w.heap.size 27 [.slice none 0 0] := Row.new w _ [.slice none 0 0]
  generalize w.alloc (.cells #[.slice none 0 0] 27) = w1 at *
  have HB := Lib.hid (hb0.setCell (p := ⟨w.heap.size, 0, none⟩) (Nat.le_refl _) (.slice none 0 0))
  have HP := Lib.hid ((hr0.set_ 0 (.slice none 0 0)).cell 0)
  have z0 := hr0.cell 0
  have zf := hr0.frozen 0
  have zl := hr0.lt
  simp only [List.set_cons_zero, List.getElem?_cons_zero] at z0 HP
  clear hb0 hr0
  go_loopw [3, 12] (fun l i wr => l = .slice none 0 0 ∧ i = .int .i64 0 ∧ wr = w1) (fun _ _ _ => 0)
  case atStart => exact ⟨rfl, rfl, rfl⟩
  case round =>
  obtain ⟨rfl, rfl, rfl⟩ := hrel
  go_wp2_with (go_at_call 38; refine (sort_small none 0 0 _ (by omega)).mono ?_; rintro e w' ⟨rfl, rfl⟩)
  go_wp2_with fail
  go_loopw [6, 28] (fun o i wx => o = .slice none 0 0 ∧ i = .int .i64 0 ∧ wx = wr) (fun _ _ _ => 0)
  case atStart => exact ⟨rfl, rfl, rfl⟩
  case round =>
  obtain ⟨rfl, rfl, rfl⟩ := hrel
  go_wp2_with fail
  have p0 := HP.out
  exact bodyPost_ret (v := .agg #[.slice none 0 0]) (by simp [results, Tryz.results9, go_sem, p0]) rfl ⟨rfl, HB.out⟩
end S8
end Go.Proofs.YtchajbegjajlkaaGreat
