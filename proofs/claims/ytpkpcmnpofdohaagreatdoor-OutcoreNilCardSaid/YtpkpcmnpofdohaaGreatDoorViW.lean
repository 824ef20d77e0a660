/- A part of the proof that sparselaw34.OutcoreNil answers true at every input: an evaluator of Go code over an abstract heap, and that it is right. -/
import Derived.Test.YtpkpcmnpofdohaaGreatDoorProg
import Derived.Test.YtpkpcmnpofdohaaGreatDoorViZ0
import Derived.KernelRfl
/-! The law, run. -/
namespace Go.Vi
open Go
set_option maxRecDepth 100000 in
theorem nil_runs (a b : Int) (t : TypeId) : (acall Go.Proofs.Tryz.prog orcW 3000 3 [.int .i64 a, .int .i64 b] (heap0 Go.Proofs.Tryz.prog (debT t))).map (·.1) = some (.bool true) := by kernel_rfl
end Go.Vi
