/- Closed facts on new tables. -/
import Derived.Test.YtblfagmoilhdnaaPgB
import Derived.Great.BuildSlice
set_option linter.unusedVariables false
set_option linter.unusedSimpArgs false
namespace Go.Proofs.Ytblfagmoilhdnaa
open Go.RowKit

theorem tab_built (w : World) : (Instr.buildSlice 42 1 #[(0, .agg (zeros 512).toArray)]).run Try.prog w = .ok (.slice (some ⟨w.heap.size, 0, none⟩) 1 1) (w.alloc (.cells (zeros 512).toArray 24)) := by
  kernel_rfl
theorem tab_made (w : World) : (Instr.makeSlice 42 (.int .i64 1) (.int .i64 1)).run Try.prog w = .ok (.slice (some ⟨w.heap.size, 0, none⟩) 1 1) (w.alloc (.cells (zeros 512).toArray 24)) := by
  kernel_rfl
theorem infoTabA : (Try.prog.info? 24).map (fun i => (i.zero, i.size, i.bytes)) = some (some (.agg (zeros 512).toArray), 512, 4096) := by kernel_rfl
end Go.Proofs.Ytblfagmoilhdnaa
