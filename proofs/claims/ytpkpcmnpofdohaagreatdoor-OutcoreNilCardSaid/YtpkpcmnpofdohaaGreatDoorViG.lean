/- A part of the proof that sparselaw34.OutcoreNil answers true at every input: an evaluator of Go code over an abstract heap, and that it is right. -/
import Derived.Test.YtpkpcmnpofdohaaGreatDoorViF
/-! The evaluator is right: all operations that change nothing. -/
namespace Go.Vi
open Go

section
variable {P : Program} {N : Nat} {ρ : Rm} {H : AH} {w : World} {T : Tm} {a : Act}

theorem orel_aev (hr : HRel N P.globals.size ρ H w) (ht : TRel ρ T a.tmps) {x : Option Operand} {v : Option Value}
    (h : aevO P T x = some v) : ORel ρ v (x.map a.eval) := by
  cases x with
  | none => simp [aevO] at h; subst h; trivial
  | some z =>
    cases hz : aev P T z with
    | none => simp [aevO, hz] at h
    | some u =>
      simp [aevO, hz] at h
      subst h
      exact aev_sound hr ht hz

theorem toArray_map (xs : Array Operand) (f : Operand → Value) : (xs.toList.map f).toArray = xs.map f := by
  apply Array.ext'
  simp

theorem run_callv {s : Sem Value} {x : Value} {w' : World} (h : s.run P w = .ok x w') : ((s >>= fun y => pure (Next.value y)) : Sem Next).run P w = .ok (.value x) w' := by
  simp [h]

theorem build_struct {t : TypeId} {ps : List (Nat × Value)} {parts : Array (Nat × Operand)} {i : TypeInfo} {fields : Array Field} {z : Value} {places : Array (Nat × Nat)} {out : Array Value}
    (hps : PRel ρ ps (parts.toList.map fun (i, x) => (i, a.eval x))) (hi : P.info? t = some i) (hu : P.underlying t = some (.struct fields)) (hz : i.zero = some z)
    (hpl : arun P (fields.mapM fun f => do pure (f.offset, ← sizeOf f.type)) = some places) (hp : z.cells.toList.all plainS = true) (h : Instr.fill (places[·]?) z.cells ps = some out) :
    ∃ v', VRel ρ (.agg out) v' ∧ (Instr.build t (parts.map fun (i, x) => (i, a.eval x))).run P w = .ok v' w := by
  obtain ⟨out', ho, hl⟩ := fill_rel _ _ _ _ z.cells _ hps (.refl_plain hp) h
  refine ⟨.agg out', .of_agg hl, ?_⟩
  have hpl' := arun_run hpl w
  unfold Instr.build
  simp only [Sem.run_bind, zeroValue, typeInfo, run_program, Result.andThen_ok, hi, Sem.run_pure, hz, run_underlying hu, hpl', Array.toList_map]
  simp only [ho]
  rfl

theorem build_array {t e : TypeId} {n : Nat} {ps : List (Nat × Value)} {parts : Array (Nat × Operand)} {i ei : TypeInfo} {z : Value} {out : Array Value}
    (hps : PRel ρ ps (parts.toList.map fun (i, x) => (i, a.eval x))) (hi : P.info? t = some i) (hu : P.underlying t = some (.array n e)) (hz : i.zero = some z) (he : P.info? e = some ei)
    (hp : z.cells.toList.all plainS = true) (h : Instr.fill (fun i => some (i * ei.size, ei.size)) z.cells ps = some out) :
    ∃ v', VRel ρ (.agg out) v' ∧ (Instr.build t (parts.map fun (i, x) => (i, a.eval x))).run P w = .ok v' w := by
  obtain ⟨out', ho, hl⟩ := fill_rel _ _ _ _ z.cells _ hps (.refl_plain hp) h
  refine ⟨.agg out', .of_agg hl, ?_⟩
  unfold Instr.build
  simp only [Sem.run_bind, zeroValue, typeInfo, run_program, Result.andThen_ok, hi, Sem.run_pure, hz, run_underlying hu, sizeOf, he, Array.toList_map]
  simp only [ho]
  rfl

theorem apure_sound (hr : HRel N P.globals.size ρ H w) (ht : TRel ρ T a.tmps) {o : Oper} {v : Value} (h : apure P H T o = some v) :
    ∃ v', VRel ρ v v' ∧ (execOp a.eval o).run P w = .ok (.value v') w := by
  unfold apure at h
  split at h
  · -- move
    rename_i x hop
    exact ⟨_, aev_sound hr ht h, by simp [execOp, hop]⟩
  · rename_i x hop
    exact ⟨_, aev_sound hr ht h, by simp [execOp, hop]⟩
  · -- pick
    rename_i c x y hop
    split at h
    · rename_i hc
      have hc' := (aev_sound hr ht hc).plain_eq rfl
      exact ⟨_, aev_sound hr ht h, by simp [execOp, hop, hc', asBool]⟩
    · rename_i hc
      have hc' := (aev_sound hr ht hc).plain_eq rfl
      exact ⟨_, aev_sound hr ht h, by simp [execOp, hop, hc', asBool]⟩
    · cases h
  · -- build
    rename_i t parts hop
    split at h
    case h_2 => cases h
    rename_i ps hps
    have hps' := aevParts_sound hr ht _ _ hps
    have hx : execOp a.eval o = (Instr.build t (parts.map fun (i, x) => (i, a.eval x)) >>= fun y => pure (Next.value y)) := by simp only [execOp, hop]
    split at h
    · rename_i i fields hi hu
      split at h
      case h_2 => cases h
      rename_i z places hz hpl
      split at h
      case isFalse => cases h
      rename_i hp
      cases hf : Instr.fill (places[·]?) z.cells ps with
      | none => rw [hf] at h; cases h
      | some out =>
        rw [hf] at h
        cases h
        obtain ⟨v', hrel, hrun⟩ := build_struct (w := w) hps' hi hu hz hpl hp hf
        exact ⟨v', hrel, by rw [hx]; exact run_callv hrun⟩
    · rename_i i n e hi hu
      split at h
      case h_2 => cases h
      rename_i z ei hz hei
      split at h
      case isFalse => cases h
      rename_i hp
      cases hf : Instr.fill (fun i => some (i * ei.size, ei.size)) z.cells ps with
      | none => rw [hf] at h; cases h
      | some out =>
        rw [hf] at h
        cases h
        obtain ⟨v', hrel, hrun⟩ := build_array (w := w) hps' hi hu hz hei hp hf
        exact ⟨v', hrel, by rw [hx]; exact run_callv hrun⟩
    · cases h
  · -- load
    rename_i t x hop
    split at h
    case h_2 => cases h
    rename_i u hu
    obtain ⟨v', hrel, hrun⟩ := loadA_sound hr (aev_sound hr ht hu) h
    exact ⟨v', hrel, by simp only [execOp, hop]; exact run_callv hrun⟩
  · -- nilCheck
    rename_i x hop
    split at h
    · rename_i ad hx
      cases h
      have hv := aev_sound hr ht hx
      refine ⟨a.eval x, hv, ?_⟩
      simp only [execOp, hop]
      generalize a.eval x = y at hv
      cases hv with
      | plain hp => simp [plainS] at hp
      | ptr hb => simp
    · rename_i f xs ys hx
      cases h
      have hv := aev_sound hr ht hx
      refine ⟨a.eval x, hv, ?_⟩
      simp only [execOp, hop]
      generalize a.eval x = y at hv
      cases hv with
      | plain hp => simp [plainS] at hp
      | func => simp
    · cases h
  · -- binOp
    rename_i op t x y yt hop
    split at h
    case h_2 => cases h
    rename_i xv yv hx hy
    obtain ⟨v', hrel, hrun⟩ := binA_sound (w := w) (aev_sound hr ht hx) (aev_sound hr ht hy) h
    exact ⟨v', hrel, by simp only [execOp, hop]; exact run_callv hrun⟩
  · -- unOp
    rename_i op t x hop
    split at h
    case h_2 => cases h
    rename_i xv hx
    split at h
    case isFalse => cases h
    rename_i hp
    obtain ⟨h1, h2⟩ := guardS_some h
    refine ⟨v, .plain h2, ?_⟩
    have := (aev_sound hr ht hx).plain_eq hp
    simp only [execOp, hop, this]
    exact run_callv (arun_run h1 w)
  · -- convert
    rename_i s d x hop
    split at h
    case h_2 => cases h
    rename_i xv hx
    split at h
    case isFalse => cases h
    rename_i hp
    obtain ⟨h1, h2⟩ := guardS_some h
    refine ⟨v, .plain h2, ?_⟩
    have := (aev_sound hr ht hx).plain_eq hp
    simp only [execOp, hop, this]
    exact run_callv (arun_run h1 w)
  · -- makeFunc
    rename_i fn first captured hop
    split at h
    case h_2 => cases h
    rename_i f xs ys hx hy
    cases h
    have h1 := aevs_sound hr ht _ _ hx
    have h2 := aevs_sound hr ht _ _ hy
    refine ⟨.func (.func f) (first.map a.eval) (captured.map a.eval), ?_, by simp [execOp, hop, Instr.makeFunc]⟩
    refine .func (by simpa using h1.1) (fun i v v' e e' => h1.2 i v v' (by simpa using e) ?_) (by simpa using h2.1) (fun i v v' e e' => h2.2 i v v' (by simpa using e) ?_)
    · rw [List.getElem?_map]; rw [Array.getElem?_map] at e'; simpa using e'
    · rw [List.getElem?_map]; rw [Array.getElem?_map] at e'; simpa using e'
  · -- slice
    rename_i t x lo hi mx hop
    split at h
    case h_2 => cases h
    rename_i xv hx
    split at h
    case h_2 => cases h
    rename_i lo' hi' mx' hlo hhi hmx
    obtain ⟨v', hrel, hrun⟩ := sliceA_sound hr (aev_sound hr ht hx) (orel_aev hr ht hlo) (orel_aev hr ht hhi) (orel_aev hr ht hmx) h
    exact ⟨v', hrel, by simp only [execOp, hop]; exact run_callv hrun⟩
  · -- fieldAddr
    rename_i s x f hop
    split at h
    case h_2 => cases h
    rename_i xv hx
    obtain ⟨v', hrel, hrun⟩ := fieldAddrA_sound (w := w) (aev_sound hr ht hx) h
    exact ⟨v', hrel, by simp only [execOp, hop]; exact run_callv hrun⟩
  · -- field
    rename_i s x f hop
    split at h
    case h_2 => cases h
    rename_i xv hx
    obtain ⟨v', hrel, hrun⟩ := fieldA_sound (w := w) (aev_sound hr ht hx) h
    exact ⟨v', hrel, by simp only [execOp, hop]; exact run_callv hrun⟩
  · -- indexAddr
    rename_i t x ix hop
    split at h
    case h_2 => cases h
    rename_i xv iv hx hi
    obtain ⟨v', hrel, hrun⟩ := indexAddrA_sound (w := w) (aev_sound hr ht hx) (aev_sound hr ht hi) h
    exact ⟨v', hrel, by simp only [execOp, hop]; exact run_callv hrun⟩
  · -- index
    rename_i t x ix hop
    split at h
    case h_2 => cases h
    rename_i xv iv hx hi
    obtain ⟨v', hrel, hrun⟩ := indexA_sound (w := w) (aev_sound hr ht hx) (aev_sound hr ht hi) h
    exact ⟨v', hrel, by simp only [execOp, hop]; exact run_callv hrun⟩
  · -- lookup
    rename_i t m x ok hop
    split at h
    case h_2 => cases h
    rename_i mv xv hm hx
    obtain ⟨v', hrel, hrun⟩ := lookupA_sound hr (aev_sound hr ht hm) (aev_sound hr ht hx) h
    exact ⟨v', hrel, by simp only [execOp, hop]; exact run_callv hrun⟩
  · -- extract
    rename_i t ix hop
    split at h
    case h_2 => cases h
    rename_i vs hx
    have hv := aev_sound hr ht hx
    obtain ⟨vs', he, hl⟩ := hv.tuple_inv
    rw [← Array.getElem?_toList] at h
    obtain ⟨v', hv', hrel⟩ := hl.some h
    rw [Array.getElem?_toList] at hv'
    exact ⟨v', hrel, by simp [execOp, hop, he, Instr.extract, hv']⟩
  · -- len
    rename_i args ts hop
    split at h
    case h_2 => cases h
    rename_i vs hvs
    obtain ⟨v', hrel, hrun⟩ := lenA_sound (w := w) (ty := o.type) (aevs_sound hr ht _ _ hvs) h
    rw [toArray_map] at hrun
    exact ⟨v', hrel, by simp only [execOp, hop, resolve, invoke, builtin, Sem.run_bind, Sem.run_pure, Result.andThen_ok]; simp [hrun]⟩
  · -- min
    rename_i args ts hop
    split at h
    case h_2 => cases h
    rename_i vs hvs
    split at h
    case isFalse => cases h
    rename_i hp
    obtain ⟨h1, h2⟩ := guardS_some h
    have hl := (aevs_sound hr ht _ _ hvs).plain_eq hp
    have hrun := arun_run h1 w
    rw [← hl, toArray_map] at hrun
    exact ⟨v, .plain h2, by simp only [execOp, hop, resolve, invoke, builtin, Sem.run_bind, Sem.run_pure, Result.andThen_ok]; simp [hrun]⟩
  · -- max
    rename_i args ts hop
    split at h
    case h_2 => cases h
    rename_i vs hvs
    split at h
    case isFalse => cases h
    rename_i hp
    obtain ⟨h1, h2⟩ := guardS_some h
    have hl := (aevs_sound hr ht _ _ hvs).plain_eq hp
    have hrun := arun_run h1 w
    rw [← hl, toArray_map] at hrun
    exact ⟨v, .plain h2, by simp only [execOp, hop, resolve, invoke, builtin, Sem.run_bind, Sem.run_pure, Result.andThen_ok]; simp [hrun]⟩
  · cases h
end

/-! ### What is made ready says the same -/
def CompOk (P : Program) (o : Oper) : Inst → Prop
  | .pure f => clsOf o.op = .pure ∧ ∀ H T, f H T = apure P H T o
  | .alloc f => clsOf o.op = .alloc ∧ ∀ T, f T = aalloc P T o
  | .eff f => clsOf o.op = .eff ∧ ∀ H T, f H T = aeff P H T o
  | .call f => clsOf o.op = .call ∧ ∀ T, f T = acallee P T o
  | .bad => True

theorem binF_eq (P : Program) (op : BinOp) (t : TypeId) (xo yo : Operand) (x y : Value) : binF P op t xo yo x y = binA P op t xo yo x y := by
  unfold binF
  split
  · rename_i k a l b
    split
    · rename_i hk
      subst hk
      cases op <;> first
        | rfl
        | simp [binI, binA, plainV, plainS, arun, eqGuard, binOp, Op.intArith, Op.intCmp, bind, Sem.bind, pure]
    · rfl
  · rfl

theorem comp_spec (P : Program) (o : Oper) : CompOk P o (comp P o) := by
  unfold comp
  cases hop : o.op with
  | move x => cases x <;> exact ⟨by rw [hop]; rfl, fun H T => by simp only [apure, hop, aev]⟩
  | assign x => cases x <;> exact ⟨by rw [hop]; rfl, fun H T => by simp only [apure, hop, aev]⟩
  | load t x =>
    show CompOk P o (match isRowT P t with
      | some (false, _) => .pure fun H T => bindV (aev P T x) (load1 H)
      | some (true, n) => .pure fun H T => bindV (aev P T x) (loadN n H)
      | none => .bad)
    cases hu : P.underlying t with
    | none => simp only [isRowT, hu]; trivial
    | some d =>
      cases hi : P.info? t with
      | none => simp only [isRowT, hu, hi]; trivial
      | some i =>
        cases hd : d.isRow with
        | false =>
          simp only [isRowT, hu, hi, hd]
          refine ⟨by rw [hop]; rfl, fun H T => ?_⟩
          simp only [apure, hop, bindV]
          split
          · rename_i v hv
            unfold load1 loadA
            split
            · split
              · simp [hu, hi, hd]
              · rfl
            · rfl
          · rfl
        | true =>
          simp only [isRowT, hu, hi, hd]
          refine ⟨by rw [hop]; rfl, fun H T => ?_⟩
          simp only [apure, hop, bindV]
          split
          · rename_i v hv
            unfold loadN loadA
            split
            · split
              · simp [hu, hi, hd]
              · rfl
            · rfl
          · rfl
  | fieldAddr s x f => exact ⟨by rw [hop]; rfl, fun H T => by simp only [apure, hop, bindV]⟩
  | field s x f => exact ⟨by rw [hop]; rfl, fun H T => by simp only [apure, hop, bindV]⟩
  | indexAddr t x ix => exact ⟨by rw [hop]; rfl, fun H T => by simp only [apure, hop]⟩
  | binOp op t x y yt => exact ⟨by rw [hop]; rfl, fun H T => by simp only [apure, hop, binF_eq]⟩
  | extract t ix => exact ⟨by rw [hop]; rfl, fun H T => by simp only [apure, hop]⟩
  | call c =>
    obtain ⟨callee, args, ts⟩ := c
    cases callee with
    | builtin b => cases b <;> exact ⟨by rw [hop]; rfl, fun _ _ => rfl⟩
    | value f => exact ⟨by rw [hop]; rfl, fun _ => rfl⟩
    | invoke r m => exact ⟨by rw [hop]; rfl, fun _ _ => rfl⟩
  | alloc t => exact ⟨by rw [hop]; rfl, fun _ => rfl⟩
  | box t x => exact ⟨by rw [hop]; rfl, fun _ => rfl⟩
  | buildSlice t n ps => exact ⟨by rw [hop]; rfl, fun _ => rfl⟩
  | makeSlice t l c => exact ⟨by rw [hop]; rfl, fun _ => rfl⟩
  | makeMap t r => exact ⟨by rw [hop]; rfl, fun _ => rfl⟩
  | store t p x => exact ⟨by rw [hop]; rfl, fun _ _ => rfl⟩
  | mapUpdate t m k x => exact ⟨by rw [hop]; rfl, fun _ _ => rfl⟩
  | insert t m k x => exact ⟨by rw [hop]; rfl, fun _ _ => rfl⟩
  | _ => exact ⟨by rw [hop]; rfl, fun _ _ => rfl⟩

end Go.Vi
