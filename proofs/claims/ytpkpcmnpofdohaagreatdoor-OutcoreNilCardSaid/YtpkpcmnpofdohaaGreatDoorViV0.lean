/- A part of the proof that sparselaw34.OutcoreNil answers true at every input: an evaluator of Go code over an abstract heap, and that it is right. -/
import Derived.Test.YtpkpcmnpofdohaaGreatDoorViB
/-! slices.AppendSeq over slices.Values, for the evaluator: the definitions. -/
namespace Go.Vi
open Go

def intsA : List Value → Option (List Int)
  | [] => some []
  | v :: r => match v with
    | .int .i64 x => match intsA r with
      | some zs => some (x :: zs)
      | none => none
    | _ => none

noncomputable def seqV3 (o n : Nat) (l : List Value) (H : AH) : Option (Value × AH) :=
  match intsA ((l.drop o).take n) with
  | some zs => if zs.length = n ∧ n ≤ 1000 then
      if n = 0 then some (.slice none 0 0, H) else match H.alloc ⟨zs.map (Value.int .i64), 3, true, 1, false⟩ with
        | some (id, H') => some (.slice (some ⟨id, 0, none⟩) n OPN, H')
        | none => none
    else none
  | none => none

noncomputable def seqV2 (v : Value) (H : AH) : Option (Value × AH) :=
  match v with
  | .slice none 0 0 => some (.slice none 0 0, H)
  | .slice (some ⟨b2, o2, none⟩) n _ => match H.get b2 with
    | some blk2 => seqV3 o2 n blk2.cells H
    | none => none
  | _ => none

noncomputable def seqV1 (v : Value) (H : AH) : Option (Value × AH) :=
  match v with
  | .pointer (some ⟨b, 0, none⟩) => match H.get b with
    | some blk => match blk.cells with
      | [v2] => seqV2 v2 H
      | _ => none
    | none => none
  | _ => none

/-- slices.AppendSeq of a nil slice and slices.Values of a slice of ints. -/
noncomputable def seqV (args : List Value) (H : AH) : Option (Value × AH) :=
  match args with
  | [.slice none 0 0, .func (.func f) fs cs] => if f = 240 ∧ fs.size = 0 then match cs.toList with
      | [v1] => seqV1 v1 H
      | _ => none
    else none
  | _ => none

noncomputable def orcV : Orc := fun k => if k = 261 then some seqV else none

/-- deBruijn's table: block 0, which is only read. -/
def debT (t : TypeId) : List (Nat × Blk) := [(0, ⟨[0, 1, 28, 2, 29, 14, 24, 3, 30, 22, 20, 15, 25, 17, 4, 8, 31, 27, 13, 23, 21, 19, 16, 7, 26, 12, 18, 6, 11, 5, 10, 9].map (Value.int .u8), t, false, 0, true⟩)]
end Go.Vi
