/- A part of the proof that sparselaw34.OutcoreNil answers true at every input: an evaluator of Go code over an abstract heap, and that it is right. -/
import Derived.Test.YtpkpcmnpofdohaaGreatDoorViH
/-! The evaluator is right: operations that make or write memory. -/
namespace Go.Vi
open Go

section
variable {P : Program} {N G : Nat} {ρ : Rm} {H H' : AH} {w : World} {T : Tm} {a : Act}

/-- What a new block is like. -/
def FOk (ρ : Rm) : Fresh → Obj → Prop
  | .map, obj => obj = .map #[] 0
  | .cells cs e sl, obj => ∃ C : Array Value, obj = .cells C e ∧ LRel ρ cs C.toList ∧ ∀ l c, sl = some (l, c) → c ≠ OPN

theorem FOk.mono {ρ' : Rm} (h : Rle ρ ρ') {f : Fresh} {obj : Obj} (hf : FOk ρ f obj) : FOk ρ' f obj := by
  cases f with
  | map => exact hf
  | cells cs e sl => obtain ⟨C, h1, h2, h3⟩ := hf; exact ⟨C, h1, h2.mono h, h3⟩

/-- Where a new block lies. -/
def rnOf (b : Nat) : Obj → Rn
  | .cells C _ _ => ⟨b, 0, C.size, 0⟩
  | _ => ⟨b, 0, 0, 0⟩

theorem rnOf_blk (b : Nat) (o : Obj) : (rnOf b o).blk = b := by unfold rnOf; split <;> rfl
theorem rnOf_off (b : Nat) (o : Obj) : (rnOf b o).off = 0 := by unfold rnOf; split <;> rfl

theorem fresh_rel {f : Fresh} {obj : Obj} {id b : Nat} {r : Rn} (h : FOk ρ f obj) (hid : ρ id = some r) (hb : r.blk = b) (ho : r.off = 0) : VRel ρ (f.val id) (f.val b) := by
  subst hb
  cases f with
  | map => exact .map hid
  | cells cs e sl =>
    obtain ⟨C, _, _, h3⟩ := h
    cases sl with
    | none => have := VRel.ptr (o := 0) hid; rw [ho] at this; exact this
    | some lc => obtain ⟨l, c⟩ := lc; exact .slice hid (h3 l c rfl) (fun _ => by rw [ho])

theorem allocF_sound (hr : HRel N G ρ H w) {f : Fresh} {obj : Obj} {id : Nat} (h : FOk ρ f obj) (ha : H.allocF f = some (id, H')) (hf : ρ id = none) :
    Post N G ρ H w (upd ρ id (rnOf w.heap.size obj)) H' (w.alloc obj) ∧ VRel (upd ρ id (rnOf w.heap.size obj)) (f.val id) (f.val w.heap.size) := by
  have hv : VRel (upd ρ id (rnOf w.heap.size obj)) (f.val id) (f.val w.heap.size) := fresh_rel (h.mono (upd_rle _ hf)) (upd_same _ _ _) (rnOf_blk _ _) (rnOf_off _ _)
  refine ⟨?_, hv⟩
  cases f with
  | map => simp only [FOk] at h; subst h; exact alloc_map hr ha hf
  | cells cs e sl =>
    obtain ⟨C, rfl, h2, _⟩ := h
    exact alloc_cells hr ha rfl hf C 0 (fun i v hv => by obtain ⟨v', a, b⟩ := h2.some hv; exact ⟨v', by simpa using a, b⟩) (fun h => by cases h)

theorem repl_run (zero : Array Value) (n : Nat) : (Array.range n).map (fun i => zero[i % zero.size]!) = repl zero n := rfl

theorem LRel.repl {z : Array Value} (hp : z.toList.all plainS = true) (n : Nat) (h0 : n = 0 ∨ 0 < z.size) : LRel ρ (repl z n).toList (repl z n).toList := by
  apply LRel.refl_plain
  rw [List.all_eq_true]
  intro x hx
  simp only [Vi.repl, Array.toList_map, List.mem_map] at hx
  obtain ⟨i, hi, rfl⟩ := hx
  have hin : i < n := by simpa using hi
  have hz : 0 < z.size := by omega
  have hlt : i % z.size < z.size := Nat.mod_lt _ hz
  rw [getElem!_pos z _ hlt]
  exact List.all_eq_true.1 hp _ (by simp)

theorem aalloc_sound (hr : HRel N P.globals.size ρ H w) (ht : TRel ρ T a.tmps) {o : Oper} {f : Fresh} (h : aalloc P T o = some f) :
    ∃ obj, FOk ρ f obj ∧ (execOp a.eval o).run P w = .ok (.value (f.val w.heap.size)) (w.alloc obj) := by
  unfold aalloc at h
  split at h
  · -- alloc
    rename_i elem hop
    split at h
    case h_2 => cases h
    rename_i i hi
    split at h
    case h_2 => cases h
    rename_i z hz
    split at h
    case isFalse => cases h
    rename_i hp
    cases h
    refine ⟨.cells z.cells elem, ⟨z.cells, rfl, .refl_plain hp, fun l c e => by cases e⟩, ?_⟩
    simp [execOp, hop, Instr.alloc, zeroValue, typeInfo, hi, hz, newVar, newRow, Fresh.val, World.alloc_eq]
  · -- box
    rename_i elem x hop
    split at h
    case h_2 => cases h
    rename_i v hv
    cases h
    refine ⟨.cells (a.eval x).cells elem, ⟨_, rfl, (aev_sound hr ht hv).cells, fun l c e => by cases e⟩, ?_⟩
    simp [execOp, hop, Instr.box, newVar, newRow, Fresh.val, World.alloc_eq]
  · -- buildSlice
    rename_i t len parts hop
    split at h
    case h_2 => cases h
    rename_i ps hps
    have hps' := aevParts_sound hr ht _ _ hps
    split at h
    case h_2 => cases h
    rename_i elem hu
    split at h
    case h_2 => cases h
    rename_i i hi
    split at h
    · cases h
    rename_i hsz
    split at h
    case h_2 => cases h
    rename_i z hz
    split at h
    case isFalse => cases h
    rename_i hp
    split at h
    case h_2 => cases h
    rename_i cells hfill
    cases h
    have hsz1 : ¬ (len * i.size > 2 ^ 24) := by omega
    obtain ⟨hp, hl0⟩ := hp
    obtain ⟨out', ho, hl⟩ := fill_rel (ρ := ρ) _ _ _ _ (repl z (len * i.size)) _ hps' (LRel.repl hp _ hl0) hfill
    refine ⟨.cells out' elem, ⟨out', rfl, hl, fun l c e => by cases e; omega⟩, ?_⟩
    have hx : execOp a.eval o = (Instr.buildSlice t len (parts.map fun (i, x) => (i, a.eval x)) >>= fun y => pure (Next.value y)) := by simp only [execOp, hop]
    rw [hx]
    apply run_callv
    have hz' : (len * i.size = 0 ∧ z = #[]) ∨ (len * i.size ≠ 0 ∧ ∃ z', i.zero = some z' ∧ z'.cells = z) := by
      by_cases e : len * i.size = 0
      · rw [if_pos e] at hz; cases hz; exact .inl ⟨e, rfl⟩
      · rw [if_neg e] at hz
        cases hiz : i.zero with
        | none => simp [hiz] at hz
        | some z' => simp [hiz] at hz; exact .inr ⟨e, z', rfl, hz⟩
    unfold Instr.buildSlice
    simp only [Sem.run_bind, run_underlying hu, Result.andThen_ok, sizeOf, typeInfo, run_program, hi, Sem.run_pure, if_neg hsz1, Array.toList_map]
    rcases hz' with ⟨e, rfl⟩ | ⟨e, z', hiz, rfl⟩
    · simp only [if_pos e, Sem.run_bind, Sem.run_pure, Result.andThen_ok, repl_run, ho]
      simp [newRow, Fresh.val, World.alloc_eq]
    · simp only [if_neg e, Sem.run_bind, Sem.run_pure, Result.andThen_ok, zeroValue, typeInfo, run_program, hi, hiz, repl_run, ho]
      simp [newRow, Fresh.val, World.alloc_eq]
  · -- makeSlice
    rename_i t lo co hop
    split at h
    case h_2 => cases h
    rename_i k1 l k2 c elem hl hc hu
    split at h
    case h_2 => cases h
    rename_i i hi
    split at h
    case isFalse => cases h
    rename_i hcond
    obtain ⟨h0, hlc, hc63, hbytes⟩ := hcond
    split at h
    case h_2 => cases h
    rename_i z hz
    split at h
    case isFalse => cases h
    rename_i hp
    obtain ⟨hp, hl0⟩ := hp
    cases h
    refine ⟨.cells (repl z (c.toNat * i.size)) elem, ⟨_, rfl, LRel.repl hp _ hl0, fun l c e => by cases e; unfold OPN; omega⟩, ?_⟩
    have hlv := (aev_sound hr ht hl).int_inv
    have hcv := (aev_sound hr ht hc).int_inv
    have hx : execOp a.eval o = (Instr.makeSlice t (.int k1 l) (.int k2 c) >>= fun y => pure (Next.value y)) := by simp only [execOp, hop, hlv, hcv]
    rw [hx]
    apply run_callv
    have hwl : IntKind.i64.wrap l = l := by
      unfold IntKind.wrap
      simp only [IntKind.bits, IntKind.signed]
      have : (2 : Int) ^ 64 = 18446744073709551616 := by decide
      have : (2 : Int) ^ (64 - 1) = 9223372036854775808 := by decide
      simp only [*]
      rw [Int.emod_eq_of_lt (by omega) (by omega)]
      rw [if_neg (by simp; omega)]
    have hwc : IntKind.i64.wrap c = c := by
      unfold IntKind.wrap
      simp only [IntKind.bits, IntKind.signed]
      have : (2 : Int) ^ 64 = 18446744073709551616 := by decide
      have : (2 : Int) ^ (64 - 1) = 9223372036854775808 := by decide
      simp only [*]
      rw [Int.emod_eq_of_lt (by omega) (by omega)]
      rw [if_neg (by simp; omega)]
    have hz' : (c.toNat * i.size = 0 ∧ z = #[]) ∨ (c.toNat * i.size ≠ 0 ∧ ∃ z', i.zero = some z' ∧ z'.cells = z) := by
      by_cases e : c.toNat * i.size = 0
      · rw [if_pos e] at hz; cases hz; exact .inl ⟨e, rfl⟩
      · rw [if_neg e] at hz
        cases hiz : i.zero with
        | none => simp [hiz] at hz
        | some z' => simp [hiz] at hz; exact .inr ⟨e, z', rfl, hz⟩
    have h48 : ¬ ((281474976710656 : Int) < (i.bytes : Int) * c) := by omega
    have hc0 : ¬ (c < 0) := by omega
    have hl0' : ¬ (l < 0) := by omega
    have hlc' : ¬ (c < l) := by omega
    unfold Instr.makeSlice
    rcases hz' with ⟨e, rfl⟩ | ⟨e, z', hiz, rfl⟩
    · simp [run_underlying hu, asInt, asIntOf, typeInfo, hi, hwl, hwc, h48, hc0, hl0', hlc', sizeOf, e, newRow, Fresh.val, World.alloc_eq, repl_run]
    · simp [run_underlying hu, asInt, asIntOf, typeInfo, hi, hwl, hwc, h48, hc0, hl0', hlc', sizeOf, e, newRow, Fresh.val, World.alloc_eq, repl_run, zeroValue, hiz]
  · -- makeMap
    rename_i t hop
    cases h
    refine ⟨.map #[] 0, rfl, ?_⟩
    simp [execOp, hop, Instr.makeMap, Fresh.val, World.alloc_eq]
  · cases h
end
end Go.Vi
