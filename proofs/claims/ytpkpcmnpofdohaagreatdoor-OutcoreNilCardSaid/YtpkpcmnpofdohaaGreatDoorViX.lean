/- A part of the proof that sparselaw34.OutcoreNil answers true at every input: an evaluator of Go code over an abstract heap, and that it is right. -/
import Derived.Test.YtpkpcmnpofdohaaGreatDoorViV
/-! The start: a heap of which one table is known. -/
namespace Go.Vi
open Go Go.RowKit

def ρ0 (G : Nat) : Rm := fun i => if i < G then some ⟨i, 0, 32, 0⟩ else none
def tabI : List Int := [0, 1, 28, 2, 29, 14, 24, 3, 30, 22, 20, 15, 25, 17, 4, 8, 31, 27, 13, 23, 21, 19, 16, 7, 26, 12, 18, 6, 11, 5, 10, 9]
def tabB (t : TypeId) : Blk := ⟨tabI.map (Value.int .u8), t, false, 0, true⟩

section
variable {P : Program} {W : World} {C : Array Value} {t : TypeId} {fr : Nat × Nat}

theorem heap0_get (i : Nat) : (heap0 P (debT t)).get i = if i = 0 then some (tabB t) else none := by
  show ((Tr.lf : Tr Blk).set 0 (some (tabB t))).get i = _
  rw [Tr.get_set _ _ _ _ (by omega)]
  rfl
theorem heap0_getM (i : Nat) : (heap0 P (debT t)).getM i = none := by
  unfold heap0 AH.getM Tr.get
  exact getP_lf _

theorem start_own (i : Nat) : ¬ (heap0 P (debT t)).own i := by
  rintro (⟨b, hb, hro⟩ | ⟨m, hm⟩)
  · rw [heap0_get] at hb
    split at hb
    · cases hb; cases hro
    · cases hb
  · rw [heap0_getM] at hm; cases hm

theorem start_rel (hG : P.globals.size ≤ 33554432) (hG0 : 0 < P.globals.size) (h0 : W.heap[0]? = some (.cells C t fr)) (hC : C.toList = tabI.map (Value.int .u8)) :
    HRel W.heap.size P.globals.size (ρ0 P.globals.size) (heap0 P (debT t)) W where
  lim := hG
  glo := Nat.le_refl _
  oldC id b hb := by
    rw [heap0_get] at hb
    split at hb
    · rename_i e
      subst e; exact hG0
    · cases hb
  oldM id m hm := by rw [heap0_getM] at hm; cases hm
  cells id b hb := by
    rw [heap0_get] at hb
    split at hb
    · rename_i e
      subst e
      cases hb
      refine ⟨⟨0, 0, 32, 0⟩, if_pos hG0, C, fr, h0, ?_, ?_, fun _ => (Array.getElem?_eq_some_iff.1 h0).1, (fun h => nomatch h), (fun h => nomatch h)⟩
      · have := congrArg List.length hC
        simpa [tabI] using this
      · intro i v hv
        refine ⟨v, ?_, ?_⟩
        · rw [← Array.getElem?_toList, hC, Nat.zero_add]; exact hv
        · have : ((tabI.map (Value.int .u8))[i]?) = some v := hv
          rw [List.getElem?_map] at this
          cases hx : tabI[i]? with
          | none => rw [hx] at this; cases this
          | some x => rw [hx] at this; cases this; exact .plain rfl
    · cases hb
  maps id m hm := by rw [heap0_getM] at hm; cases hm
  inj id id' r r' h := absurd h (start_own id)
  glob g hg := ⟨⟨g, 0, 32, 0⟩, if_pos hg, rfl, rfl⟩
  below := Nat.le_refl _

theorem start_below {ρ' : Rm} {H' : AH} {w' : World} (h : Post W.heap.size P.globals.size (ρ0 P.globals.size) (heap0 P (debT t)) W ρ' H' w') : Below W.heap.size W w' :=
  ⟨h.os, h.tape, h.output, h.size, fun k hk => h.frame k hk fun ⟨i, _, ho, _, _⟩ => start_own i ho⟩

/-- A function that the evaluator runs, from such a start. -/
theorem runs_calls {orc : Orc} {n : Nat} {k : FuncId} {args : List Value} {v : Value} (hmix : P.follows .mixedOrders = true) (ho : OrcOk P W.heap.size orc) (hG : P.globals.size ≤ 33554432) (hG0 : 0 < P.globals.size)
    (h0 : W.heap[0]? = some (.cells C t fr)) (hC : C.toList = tabI.map (Value.int .u8)) (ha : args.all plainS = true) (hv : plainS v = true)
    (h : (acall P orc n k args (heap0 P (debT t))).map (·.1) = some v) :
    Calls P k args.toArray W fun e w' => e = .returned v ∧ Below W.heap.size W w' := by
  obtain ⟨⟨v1, H'⟩, hx, hv1⟩ := Option.map_eq_some_iff.1 h
  have hv1 : v1 = v := hv1
  subst hv1
  refine (acall_sound hmix ho hx (start_rel hG hG0 h0 hC) (LRel.refl_plain ha) (fun i hi _ => ?_)).mono ?_
  · have : P.globals.size ≤ i := hi
    exact if_neg (by omega)
  · rintro e w' ⟨v', ρ', rfl, hvr, hp⟩
    exact ⟨by rw [hvr.plain_eq hv], start_below hp⟩
end
end Go.Vi
