/- A part of the proof that sparselaw34.OutcoreNil answers true at every input: an evaluator of Go code over an abstract heap, and that it is right. -/
import Derived.Test.YtpkpcmnpofdohaaGreatDoorViC
/-! The evaluator is right: operations that change nothing. -/
namespace Go.Vi
open Go

section
variable {P : Program} {N : Nat} {ρ : Rm} {H : AH} {w : World} {T : Tm} {a : Act}

theorem run_v {s : Sem Value} {x : Value} {w' : World} (h : s.run P w = .ok x w') : ((do pure (Next.value (← s))) : Sem Next).run P w = .ok (.value x) w' := by
  simp [h]

theorem getD_toList (xs : Array Value) (i : Nat) (d : Value) : xs.getD i d = xs.toList.getD i d := by
  simp [Array.getD, List.getD]
  split <;> simp_all

theorem aev_sound (hr : HRel N P.globals.size ρ H w) (ht : TRel ρ T a.tmps) {x : Operand} {v : Value} (h : aev P T x = some v) : VRel ρ v (a.eval x) := by
  cases x with
  | tmp t =>
    simp only [aev, Option.some.injEq] at h
    subst h
    show VRel ρ _ (a.tmps.getD t undef)
    exact ht.2.2 t
  | const u =>
    simp only [aev] at h
    split at h
    · rename_i hp; cases h; exact VRel.refl_plainV hp
    · cases h
  | global g =>
    simp only [aev] at h
    split at h
    · rename_i hg
      cases h
      obtain ⟨r, hρ, hb, ho⟩ := hr.glob g hg
      have := VRel.ptr (o := 0) hρ
      rw [hb, ho] at this
      exact this
    · cases h
  | func f =>
    simp only [aev, Option.some.injEq] at h
    subst h
    exact .func rfl (fun i v v' h _ => by simp at h) rfl (fun i v v' h _ => by simp at h)

theorem aevs_sound (hr : HRel N P.globals.size ρ H w) (ht : TRel ρ T a.tmps) : ∀ (xs : List Operand) (vs : List Value), aevs P T xs = some vs → LRel ρ vs (xs.map a.eval)
  | [], vs, h => by simp only [aevs, Option.some.injEq] at h; subst h; exact LRel.nil ρ
  | x :: xs, vs, h => by
    simp only [aevs] at h
    split at h
    · cases h
    · rename_i v hv
      split at h
      · cases h
      · rename_i us hus
        cases h
        exact LRel.cons (aev_sound hr ht hv) (aevs_sound hr ht xs us hus)

def PRel (ρ : Rm) : List (Nat × Value) → List (Nat × Value) → Prop
  | [], [] => True
  | (i, v) :: l, (j, v') :: l' => i = j ∧ VRel ρ v v' ∧ PRel ρ l l'
  | _, _ => False

theorem aevParts_sound (hr : HRel N P.globals.size ρ H w) (ht : TRel ρ T a.tmps) : ∀ (xs : List (Nat × Operand)) (vs : List (Nat × Value)), aevParts P T xs = some vs → PRel ρ vs (xs.map fun (i, x) => (i, a.eval x))
  | [], vs, h => by simp only [aevParts, Option.some.injEq] at h; subst h; trivial
  | (i, x) :: xs, vs, h => by
    simp only [aevParts] at h
    split at h
    · cases h
    · rename_i v hv
      split at h
      · cases h
      · rename_i us hus
        cases h
        exact ⟨rfl, aev_sound hr ht hv, aevParts_sound hr ht xs us hus⟩

theorem foldl_set_rel (off : Nat) : ∀ (l l' : List Value) (k : Nat) (cs cs' : Array Value), LRel ρ l l' → LRel ρ cs.toList cs'.toList →
    LRel ρ ((l.zipIdx k).foldl (fun cs (c, j) => cs.setIfInBounds (off + j) c) cs).toList ((l'.zipIdx k).foldl (fun cs (c, j) => cs.setIfInBounds (off + j) c) cs').toList
  | [], l', k, cs, cs', h, hc => by have := h.nil_inv; subst this; exact hc
  | v :: l, l', k, cs, cs', h, hc => by
    obtain ⟨v', t, rfl, hv, hl⟩ := h.uncons
    simp only [List.zipIdx_cons, List.foldl_cons]
    exact foldl_set_rel off l t (k + 1) _ _ hl (by simpa using hc.set hv (off + k))

theorem fill_rel (place : Nat → Option (Nat × Nat)) : ∀ (ps ps' : List (Nat × Value)) (cs cs' out : Array Value), PRel ρ ps ps' → LRel ρ cs.toList cs'.toList → Instr.fill place cs ps = some out →
    ∃ out', Instr.fill place cs' ps' = some out' ∧ LRel ρ out.toList out'.toList
  | [], ps', cs, cs', out, hp, hc, h => by
    cases ps' with
    | nil => simp only [Instr.fill, Option.some.injEq] at h; subst h; exact ⟨cs', rfl, hc⟩
    | cons p ps' => exact hp.elim
  | (i, v) :: ps, ps', cs, cs', out, hp, hc, h => by
    cases ps' with
    | nil => exact hp.elim
    | cons p ps' =>
      obtain ⟨j, v'⟩ := p
      obtain ⟨rfl, hv, hps⟩ := hp
      have hcells := hv.cells
      have hsz : v'.cells.size = v.cells.size := by have := hcells.1; simpa using this.symm
      have hcs : cs'.size = cs.size := by have := hc.1; simpa using this.symm
      simp only [Instr.fill] at h ⊢
      cases hpl : place i with
      | none => simp [hpl] at h
      | some q =>
        obtain ⟨off, size⟩ := q
        simp only [hpl] at h ⊢
        rw [hsz, hcs]
        split at h
        · cases h
        · rename_i hcond
          rw [if_neg hcond]
          refine fill_rel place ps ps' _ _ out hps ?_ h
          rw [← Array.foldl_toList, ← Array.foldl_toList, Array.toList_zipIdx, Array.toList_zipIdx]
          exact foldl_set_rel off _ _ 0 _ _ hcells hc

theorem cell?_cells {b i : Nat} {C : Array Value} {e : TypeId} {fr : Nat × Nat} (h : w.heap[b]? = some (.cells C e fr)) : w.cell? ⟨b, i, none⟩ = C[i]? := by
  simp [World.cell?, h]

/-- Some cells of a block, and what lies in the world. -/
theorem read_cells {N : Nat} {ρ : Rm} {b : Blk} {r : Rn} {w : World} (h : BRel N ρ b r w) {off n : Nat} (hn : off + n ≤ b.cells.length) :
    ∃ cs', LRel ρ ((b.cells.drop off).take n) cs' ∧ w.rangeAt r.blk (r.off + off) cs' := by
  obtain ⟨C, fr, hC, _, hcell, _⟩ := h
  refine ⟨(C.toList.drop (r.off + off)).take n, ⟨?_, ?_⟩, ?_⟩
  · by_cases h0 : n = 0
    · subst h0; simp
    · have hlt : off + n - 1 < b.cells.length := by omega
      obtain ⟨v', hv', _⟩ := hcell (off + n - 1) _ (List.getElem?_eq_getElem hlt)
      have := (Array.getElem?_eq_some_iff.1 hv').1
      simp only [List.length_take, List.length_drop, Array.length_toList]
      omega
  · intro i v v' hv hv'
    rw [List.getElem?_take] at hv hv'
    split at hv
    · rename_i hlt
      rw [if_pos hlt] at hv'
      rw [List.getElem?_drop] at hv hv'
      obtain ⟨u, hu, hrel⟩ := hcell _ _ hv
      rw [Array.getElem?_toList, show r.off + off + i = r.off + (off + i) by omega, hu] at hv'
      cases hv'
      exact hrel
    · cases hv
  · intro j v hv
    rw [List.getElem?_take] at hv
    split at hv
    · rw [List.getElem?_drop, Array.getElem?_toList] at hv
      rw [cell?_cells hC]
      exact hv
    · cases hv

theorem VRel.ptr_inv {ρ : Rm} {b off : Nat} {x : Value} (h : VRel ρ (.pointer (some ⟨b, off, none⟩)) x) : ∃ r, ρ b = some r ∧ x = .pointer (some ⟨r.blk, r.off + off, none⟩) := by
  cases h with
  | plain hp => simp [plainS] at hp
  | ptr hb => exact ⟨_, hb, rfl⟩

theorem isAgg_run {t : TypeId} {d : TypeDesc} (hu : P.underlying t = some d) : (isAgg t).run P w = .ok d.isRow w := by
  unfold isAgg
  rw [Sem.run_bind, run_underlying hu w]
  cases d <;> simp [TypeDesc.isRow]

theorem loadA_sound (hr : HRel N P.globals.size ρ H w) {t : TypeId} {v u x : Value} (hx : VRel ρ v x) (h : loadA P H t v = some u) :
    ∃ u', VRel ρ u u' ∧ (Instr.loadAt t x).run P w = .ok u' w := by
  unfold loadA at h
  split at h
  case h_2 => cases h
  rename_i b off
  obtain ⟨r, hb, rfl⟩ := hx.ptr_inv
  split at h
  case h_2 => cases h
  rename_i blk hblk
  obtain ⟨r', hb', hB⟩ := hr.cells b blk hblk
  rw [hb] at hb'; cases hb'
  split at h
  case h_2 => cases h
  rename_i d i hd hi
  split at h
  · rename_i hrow
    split at h
    · rename_i hle
      cases h
      obtain ⟨cs', hl, hrange⟩ := read_cells hB hle
      have hlen : cs'.length = i.size := by have := hl.1; simp at this; omega
      exact ⟨.agg cs'.toArray, .of_agg (by simpa using hl), run_loadAt_mid w _ _ t cs' d hrange hd hrow (by rw [hi, Option.map_some, hlen])⟩
    · cases h
  · rename_i hrow
    obtain ⟨C, fr, hC, _, hcell, _⟩ := hB
    obtain ⟨u', hu', hrel⟩ := hcell _ _ h
    refine ⟨u', hrel, ?_⟩
    have hc : w.cell? ⟨r.blk, r.off + off, none⟩ = some u' := by rw [cell?_cells hC]; exact hu'
    have hrow' : d.isRow = false := by simpa using hrow
    simp [Instr.loadAt, Instr.sureAddr, loadVar, isAgg_run hd, hrow', hc]

theorem partA_sound {t : TypeId} {cs cs' : Array Value} {off : Nat} {u : Value} (hc : LRel ρ cs.toList cs'.toList) (h : partA P t cs off = some u) :
    ∃ u', VRel ρ u u' ∧ (part t cs' off).run P w = .ok u' w := by
  unfold partA at h
  split at h
  case h_2 => cases h
  rename_i d i hd hi
  split at h
  · rename_i hrow
    cases h
    refine ⟨.agg (cs'.extract off (off + i.size)), .of_agg ?_, ?_⟩
    · simp only [Array.toList_extract, List.extract_eq_take_drop]
      exact (hc.drop _).take _
    · simp [part, isAgg_run hd, hrow, sizeOf, typeInfo, hi]
  · rename_i hrow
    have hrow' : d.isRow = false := by simpa using hrow
    rw [← Array.getElem?_toList] at h
    obtain ⟨u', hu', hrel⟩ := hc.some h
    rw [Array.getElem?_toList] at hu'
    exact ⟨u', hrel, by simp [part, isAgg_run hd, hrow', hu']⟩

theorem fieldAddrA_sound {s : TypeId} {f : Nat} {v u x : Value} (hx : VRel ρ v x) (h : fieldAddrA P s f v = some u) :
    ∃ u', VRel ρ u u' ∧ (Instr.fieldAt s x f).run P w = .ok u' w := by
  unfold fieldAddrA at h
  split at h
  case h_2 => cases h
  rename_i b off
  obtain ⟨r, hb, rfl⟩ := hx.ptr_inv
  split at h
  case h_2 => cases h
  rename_i fields hf
  split at h
  case h_2 => cases h
  rename_i g hg
  split at h
  case h_2 => cases h
  rename_i i hi
  split at h
  · cases h
  · rename_i hne
    cases h
    refine ⟨_, .ptr hb, ?_⟩
    simp [Instr.fieldAt, run_underlying hf, hg, Instr.sureAddr, fieldPlace, sizeOf, typeInfo, hi, hne, Addr.add_mid, Nat.add_assoc]

theorem fieldA_sound {s : TypeId} {f : Nat} {v u x : Value} (hx : VRel ρ v x) (h : fieldA P s f v = some u) :
    ∃ u', VRel ρ u u' ∧ (Instr.field s x f).run P w = .ok u' w := by
  unfold fieldA at h
  split at h
  case h_2 => cases h
  rename_i cs
  obtain ⟨cs', rfl, hl⟩ := hx.agg_inv
  split at h
  case h_2 => cases h
  rename_i fields hf
  split at h
  case h_2 => cases h
  rename_i g hg
  obtain ⟨u', hrel, hrun⟩ := partA_sound (w := w) hl h
  exact ⟨u', hrel, by simp [Instr.field, run_underlying hf, hg, asAgg, hrun]⟩

theorem VRel.slice_inv {ρ : Rm} {b off l c : Nat} {x : Value} (h : VRel ρ (.slice (some ⟨b, off, none⟩) l c) x) :
    ∃ r o' c', ρ b = some r ∧ x = .slice (some ⟨r.blk, o', none⟩) l c' ∧ (l ≠ 0 → o' = r.off + off) ∧ (c ≠ OPN → c' = c ∧ (c ≠ 0 → o' = r.off + off)) ∧
      (c = OPN → l ≤ c' ∧ o' + c' * r.esz ≤ r.size) := by
  cases h with
  | plain hp => simp [plainS] at hp
  | slice hb hc ho => exact ⟨_, _, _, hb, rfl, fun e => ho (.inl e), fun _ => ⟨rfl, fun e => ho (.inr e)⟩, fun e => absurd e hc⟩
  | sliceO hb h1 h2 h3 => exact ⟨_, _, _, hb, rfl, h1, fun e => absurd rfl e, fun _ => ⟨h2, h3⟩⟩

theorem VRel.int_inv {ρ : Rm} {k : IntKind} {n : Int} {x : Value} (h : VRel ρ (.int k n) x) : x = .int k n := h.plain_eq rfl

theorem indexAddrA_sound {t : TypeId} {v ix u x y : Value} (hx : VRel ρ v x) (hy : VRel ρ ix y) (h : indexAddrA P t v ix = some u) :
    ∃ u', VRel ρ u u' ∧ (Instr.indexAt t x y).run P w = .ok u' w := by
  unfold indexAddrA at h
  split at h
  case h_2 => cases h
  rename_i k i
  rw [hy.int_inv]
  split at h
  · rename_i e b off len cap hu
    split at h
    case h_2 => cases h
    rename_i ti hti
    split at h
    · rename_i hi
      cases h
      obtain ⟨r, o', c', hb, rfl, ho, _, _⟩ := hx.slice_inv
      have ho' : o' = r.off + off := ho (by omega)
      subst ho'
      refine ⟨_, .ptr hb, ?_⟩
      simp [Instr.indexAt, asIntOf, run_underlying hu, hi, sizeOf, typeInfo, hti, Addr.add_mid, Nat.add_assoc]
    · cases h
  · rename_i len e b off hu
    split at h
    case h_2 => cases h
    rename_i ti hti
    split at h
    · rename_i hi
      cases h
      obtain ⟨r, hb, rfl⟩ := hx.ptr_inv
      refine ⟨_, .ptr hb, ?_⟩
      simp [Instr.indexAt, asIntOf, run_underlying hu, hi, sizeOf, typeInfo, hti, Addr.add_mid, Nat.add_assoc, Instr.sureAddr]
    · cases h
  · cases h

theorem guardS_some {x : Option Value} {v : Value} (h : guardS x = some v) : x = some v ∧ plainS v = true := by
  unfold guardS at h
  split at h
  · split at h
    · cases h; exact ⟨rfl, by assumption⟩
    · cases h
  · cases h

end
end Go.Vi
