/- A part of the proof that sparselaw34.OutcoreNil answers true at every input: an evaluator of Go code over an abstract heap, and that it is right. -/
import Derived.Test.YtpkpcmnpofdohaaGreatDoorViV0
/-! integer.root at one argument, for the evaluator: the definitions. -/
namespace Go.Vi
open Go

def u32s (l : List Int) : List Value := l.map (Value.int .u32)
def intsU : List Value → Option (List Int)
  | [] => some []
  | v :: r => match v with
    | .int .u32 x => match intsU r with
      | some zs => some (x :: zs)
      | none => none
    | _ => none

/-- The argument's cells, and the answer's. -/
def rootI : List Int := [0, 0, 0, 4194304]
def rootO : List Int := [0, 134217728]

/-- A heap of one block, which is only read. -/
noncomputable def rootH (G : Nat) (t : TypeId) : AH := ⟨G + 1, Tr.lf.set G (some ⟨u32s rootI, t, false, 0, true⟩), .lf⟩
noncomputable def rootL (x : Value × AH) : Option (Nat × Nat × TypeId × List Value) :=
  match x.1 with
  | .slice (some ⟨id, o, none⟩) l c => match x.2.get id with
    | some b => match b.ro with
      | false => some (l, c, b.elem, (b.cells.drop o).take l)
      | true => none
    | none => none
  | _ => none

noncomputable def rootV2 (o : Nat) (l : List Value) (H : AH) : Option (Value × AH) :=
  match intsU ((l.drop o).take 4) with
  | some zs => if zs = rootI then match H.alloc ⟨u32s rootO, 251, false, 0, false⟩ with
      | some (id, H') => some (.slice (some ⟨id, 0, none⟩) 2 2, H')
      | none => none
    else none
  | none => none
noncomputable def rootV (args : List Value) (H : AH) : Option (Value × AH) :=
  match args with
  | [.slice (some ⟨b, o, none⟩) 4 5] => match H.get b with
    | some blk => rootV2 o blk.cells H
    | none => none
  | _ => none

noncomputable def orcN : Orc := fun _ => none
noncomputable def orcW : Orc := fun k => if k = 261 then some seqV else if k = 215 then some rootV else none
end Go.Vi
