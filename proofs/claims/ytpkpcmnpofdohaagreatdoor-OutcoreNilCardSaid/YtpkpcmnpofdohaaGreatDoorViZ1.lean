/- A part of the proof that sparselaw34.OutcoreNil answers true at every input: an evaluator of Go code over an abstract heap, and that it is right. -/
import Derived.Test.YtpkpcmnpofdohaaGreatDoorProg
import Derived.Test.YtpkpcmnpofdohaaGreatDoorViZ0
import Derived.KernelRfl
/-! integer.root at one argument, run. -/
namespace Go.Vi
open Go
set_option maxRecDepth 100000 in
theorem root_runs (t : TypeId) : (acall Go.Proofs.Tryz.prog orcN 3000 215 [.slice (some ⟨Go.Proofs.Tryz.prog.globals.size, 0, none⟩) 4 5] (rootH Go.Proofs.Tryz.prog.globals.size t)).bind rootL = some (2, 2, 251, u32s rootO) := by kernel_rfl
end Go.Vi
