/- The law sparselaw34.OutcoreNil answers true at every two ints, and leaves them as they were; on condition that the listed table math/bits.deBruijn32tab holds what the program's text lays (the card ties it). -/
import Derived.Test.YtpkpcmnpofdohaaGreatDoorViY2
import Derived.WalkKit
import Derived.ProofKit
import Derived.JoinedOf
import Derived.SevenTiedAt
namespace Go.Proofs.YtpkpcmnpofdohaaGreatDoor
open Go.ChangeShapes Go.WideShapes Go.ChangeAt Go.RowKit

/-- The tied card. -/
theorem outcoreNil_card : Rows.OutcoreNilCardSaid :=
  Claim7.holds_tied_plain_at .later [] [.data] true (true, "3764af033647e0448b2878ae0ef014cd0b073ce98d2a3b5262d46f394fbc2bf2") false
    Nil.said (fun _ h => by cases h) (by kernel_rfl) (fun _ h => by cases h) outcoreNil_row_tie rfl ⟨rfl, rfl⟩ (by kernel_rfl) rfl
    (fun f fn hf hfn => by
      obtain rfl : f = 3 := Option.some.inj ((show Tryz.prog.funcNamed "sparse/sparselaw34.OutcoreNil" = some 3 by kernel_rfl).symm.trans hf) |>.symm
      obtain rfl : fn = Tryz.f3 := (Option.some.inj (Tryz.func3.symm.trans hfn)).symm
      exact ⟨by kernel_rfl, fun j t ht => by
        rw [Tryz.params3] at ht
        have h3 : t = 3 := by
          rcases j with _ | _ | j
          · simpa using ht.symm
          · simpa using ht.symm
          · simp at ht
        subst h3
        exact (show Tryz.prog.wantsStandIn 3 = false by kernel_rfl)⟩)
    (by kernel_rfl)
end Go.Proofs.YtpkpcmnpofdohaaGreatDoor
