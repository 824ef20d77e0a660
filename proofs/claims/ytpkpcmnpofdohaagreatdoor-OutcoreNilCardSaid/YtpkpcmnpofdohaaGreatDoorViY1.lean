/- A part of the proof that sparselaw34.OutcoreNil answers true at every input: an evaluator of Go code over an abstract heap, and that it is right. -/
import Derived.Test.YtpkpcmnpofdohaaGreatDoorRows
import Derived.Test.YtpkpcmnpofdohaaGreatDoorCards
import Derived.Test.YtpkpcmnpofdohaaGreatDoorTie
import Derived.Test.YtpkpcmnpofdohaaGreatDoorViX
import Derived.Test.YtpkpcmnpofdohaaGreatDoorViW
import Derived.Test.YtpkpcmnpofdohaaGreatDoorViZ
import Derived.WalkKit
import Derived.ProofKit
import Derived.OpenShut
import Derived.ChangeOld
import Derived.ChangeSame
import Derived.ChangeVars
import Derived.JoinedOf
import Derived.RowKit
import Derived.LaidLaws
import Derived.Lib.LaidTab
import Derived.SevenTiedAt
namespace Go.Proofs.YtpkpcmnpofdohaaGreatDoor
open Go.ChangeShapes Go.WideShapes Go.ChangeAt Go.RowKit
set_option linter.unusedVariables false

theorem Nil.own : ownKnob Tryz.prog.godebug = none := by kernel_rfl
theorem Nil.glob : Tryz.prog.globalNamed "math/bits.deBruijn32tab" = some 0 := by kernel_rfl
theorem Nil.gtype : (Tryz.prog.globals[0]?).map (·.type) = some 323 := by kernel_rfl
theorem Nil.cells323 : Tryz.prog.cellsOf 323 = 32 := by kernel_rfl
theorem Nil.cells5 : Tryz.prog.cellsOf 5 = 1 := by kernel_rfl
theorem Nil.mixed : Tryz.prog.follows .mixedOrders = true := by kernel_rfl
theorem Nil.few : Tryz.prog.globals.size ≤ 33554431 := of_decide_eq_true (by kernel_rfl)
theorem Nil.pos : 0 < Tryz.prog.globals.size := of_decide_eq_true (by kernel_rfl)

/-- What the row's condition gives: the table's block. -/
theorem Nil.block {W : World} (h : laidMet Tryz.prog Rows.outcoreNilRow.laid W) : ∃ (C : Array Value) (t : TypeId) (fr : Nat × Nat), W.heap[0]? = some (.cells C t fr) ∧ C.toList = Vi.tabI.map (Value.int .u8) := by
  have hT : Lib.TabIs Tryz.prog W "math/bits.deBruijn32tab" .u8 Vi.tabI := Lib.tabIs_of_head Nil.glob Nil.gtype Tryz.underlying323 Tryz.underlying5 Nil.cells5 Nil.cells323 h
  unfold Lib.TabIs World.var? at hT
  rw [Nil.glob] at hT
  simp only [Option.bind_some] at hT
  split at hT
  · rename_i C t fr h0
    exact ⟨C, t, fr, h0, by simpa using congrArg (Option.map Array.toList) hT⟩
  · cases hT

/-- The law's function, run: true, and nothing that lay has turned. -/
theorem Nil.walk (a b : Int) (W : World) (h : laidMet Tryz.prog Rows.outcoreNilRow.laid W) :
    Calls Tryz.prog 3 #[.int .i64 a, .int .i64 b] W fun e w' => e = .returned (.bool true) ∧ Below W.heap.size W w' := by
  obtain ⟨C, t, fr, h0, hC⟩ := Nil.block h
  exact Vi.runs_calls (t := t) Nil.mixed (Vi.orcW_ok Nil.mixed Nil.few) (Nat.le_trans Nil.few (by decide)) Nil.pos h0 hC rfl rfl (Vi.nil_runs a b t)

/-- A world that meets the condition. -/
noncomputable def Nil.laidWorld (os : Os) : World :=
  let w0 := World.holding Tryz.prog os ⟨#[], #[], []⟩
  { w0 with heap := w0.heap.modify 0 fun
      | .cells _ t frozen => .cells (Vi.tabI.map (Value.int .u8)).toArray t frozen
      | o => o }

theorem Nil.laidWorld_met (os : Os) (args : Array Value) : laidMet Tryz.prog Rows.outcoreNilRow.laid ((Nil.laidWorld os).forCall (fun _ _ => 0) ⟨#[], args, []⟩).memory :=
  laidMet_of_run' 8 (by kernel_rfl) (by kernel_rfl)

set_option maxRecDepth 100000 in
theorem Nil.lifted (os : Os) (started : os.Started) (H : Type) (enc : TypeId × Value → H) :
    ReturnsInHanded {} Tryz.checked os 3 .any (fun w args => (Rows.outcoreNilSpec.pre enc Tryz.prog Tryz.f3 [] false w args ∧ laidMet Tryz.prog Rows.outcoreNilRow.laid w) ∧ sizedMet enc Tryz.prog Tryz.f3 (OpenSpec.ofChange Rows.outcoreNilSpec) false w args)
      (Rows.outcoreNilSpec.post enc Tryz.prog Tryz.f3 false true false false) := by
  refine returnsInHanded_of_change_and (C := Tryz.checked) (X := fun w _ => laidMet Tryz.prog Rows.outcoreNilRow.laid w) (fun _ _ _ hh h => h.of_heap hh) Nil.own started (by kernel_rfl) Tryz.func3
    (ChangeSpec.witness_at (enc := enc) (C := Tryz.checked) (os := os) (X := fun w _ => laidMet Tryz.prog Rows.outcoreNilRow.laid w) false (Nil.laidWorld os) #[.int .i64 0, .int .i64 0] 8 rfl (by kernel_rfl) (by kernel_rfl) (by kernel_rfl) (by kernel_rfl) (by kernel_rfl) (Nil.laidWorld_met os _)) ?_
  intro W base args ds gs before hval0 hW _ _ hL _
  have hval : ∀ (j : Nat) t v, Tryz.f3.params[j]? = some t → args[j]? = some v → Value.okWide Tryz.prog W .any base t v := hval0
  have hW' := hW
  obtain ⟨p, q, hA0, hV, rfl, hfz, hnd⟩ := hW
  have hA : DataW.TrodAll enc Tryz.prog W 0 (fun _ => true) true Tryz.f3.params.toList args.toList ds p := hA0
  rw [Tryz.params3] at hA hval
  obtain ⟨v0, v1, d0, d1, p0, p1, rfl, rfl, rfl, h0, h1⟩ := trodAll_two hA
  obtain ⟨rfl, rfl⟩ := trodVars_none hV
  obtain ⟨a, rfl, rfl, rfl, wa⟩ := open_int Tryz.underlying3 (hval 0 3 v0 rfl rfl) h0
  obtain ⟨b, rfl, rfl, rfl, wb⟩ := open_int Tryz.underlying3 (hval 1 3 v1 rfl rfl) h1
  clear hA0 hval0
  refine (Nil.walk a b W hL).mono fun e W' ⟨he, bel⟩ => ?_
  subst he
  exact ⟨_, rfl, _, _, _, [], _, [], hW', trodAll_mk1 (shut_bool Tryz.underlying4 _), trodAll_mk2 (shut_int Tryz.underlying3 wa) (shut_int Tryz.underlying3 wb), rfl, bel.frame _, fun h => by cases h⟩

end Go.Proofs.YtpkpcmnpofdohaaGreatDoor
