/- A part of the proof that sparselaw34.OutcoreNil answers true at every input: an evaluator of Go code over an abstract heap, and that it is right. -/
import Derived.Test.YtpkpcmnpofdohaaGreatDoorViG
/-! The evaluator is right: operations that make or write memory. -/
namespace Go.Vi
open Go

def upd (ρ : Rm) (id : Nat) (r : Rn) : Rm := fun i => if i = id then some r else ρ i

theorem upd_same (ρ : Rm) (id : Nat) (r : Rn) : upd ρ id r id = some r := by simp [upd]
theorem upd_ne (ρ : Rm) {id i : Nat} (r : Rn) (h : i ≠ id) : upd ρ id r i = ρ i := by simp [upd, h]
theorem upd_rle {ρ : Rm} {id : Nat} (r : Rn) (h : ρ id = none) : Rle ρ (upd ρ id r) := fun b s hb => by
  by_cases e : b = id
  · subst e; rw [h] at hb; cases hb
  · rw [upd_ne ρ r e]; exact hb

theorem AH.get_put {H : AH} {k : Nat} {v : Option Blk} (hk : k < 33554433) (j : Nat) : (H.put k v).get j = if j = k then v else H.get j :=
  Tr.get_set H.tr k v j (by omega)
theorem AH.getM_putM {H : AH} {k : Nat} {v : MBlk} (hk : k < 33554433) (j : Nat) : (H.putM k v).getM j = if j = k then some v else H.getM j :=
  Tr.get_set H.mp k (some v) j (by omega)

theorem AH.alloc_inv {H H' : AH} {b : Blk} {id : Nat} (h : H.alloc b = some (id, H')) :
    id = H.next ∧ H.next < 33554432 ∧ H'.next = H.next + 1 ∧ (∀ j, H'.get j = if j = id then some b else H.get j) ∧ (∀ j, H'.getM j = H.getM j) := by
  unfold AH.alloc at h
  split at h
  · rename_i hlt
    cases h
    exact ⟨rfl, hlt, rfl, fun j => Tr.get_set H.tr H.next (some b) j (by omega), fun j => rfl⟩
  · cases h

theorem AH.allocM_inv {H H' : AH} {id : Nat} (h : H.allocM = some (id, H')) :
    id = H.next ∧ H.next < 33554432 ∧ H'.next = H.next + 1 ∧ (∀ j, H'.get j = H.get j) ∧ (∀ j, H'.getM j = if j = id then some ⟨[], 0⟩ else H.getM j) := by
  unfold AH.allocM at h
  split at h
  · rename_i hlt
    cases h
    exact ⟨rfl, hlt, rfl, fun j => rfl, fun j => Tr.get_set H.mp H.next (some ⟨[], 0⟩) j (by omega)⟩
  · cases h

section
variable {P : Program} {N G : Nat} {ρ : Rm} {H H' : AH} {w : World} {T : Tm} {a : Act}

theorem BRel.later {ρ' : Rm} {b : Blk} {r : Rn} {w' : World} (h : BRel N ρ b r w) (hρ : Rle ρ ρ') (hh : w'.heap[r.blk]? = w.heap[r.blk]?) : BRel N ρ' b r w' := by
  obtain ⟨C, fr, h1, h2, h3, h4, h5, h6⟩ := h
  exact ⟨C, fr, hh.trans h1, h2, fun i v hv => let ⟨v', a, b⟩ := h3 i v hv; ⟨v', a, b.mono hρ⟩, h4, h5, h6⟩

theorem MRel.later {ρ' : Rm} {m : MBlk} {r : Rn} {w' : World} (h : MRel N ρ m r w) (hρ : Rle ρ ρ') (hh : w'.heap[r.blk]? = w.heap[r.blk]?) : MRel N ρ' m r w' := by
  obtain ⟨es, h1, h2, h3⟩ := h
  exact ⟨es, hh.trans h1, ⟨h2.1, fun i e e' a b => let ⟨x, y, z⟩ := h2.2 i e e' a b; ⟨x.mono hρ, y.mono hρ, z⟩⟩, h3⟩

theorem BRel.lt {b : Blk} {r : Rn} (h : BRel N ρ b r w) : r.blk < w.heap.size := by
  obtain ⟨C, fr, h1, _⟩ := h; exact (Array.getElem?_eq_some_iff.1 h1).1
theorem MRel.lt {m : MBlk} {r : Rn} (h : MRel N ρ m r w) : r.blk < w.heap.size := by
  obtain ⟨es, h1, _⟩ := h; exact (Array.getElem?_eq_some_iff.1 h1).1

theorem HRel.own_lt (hr : HRel N G ρ H w) {id : Nat} {r : Rn} (ho : H.own id) (hρ : ρ id = some r) : r.blk < w.heap.size :=
  (Owned.ge hr ⟨id, r, ho, hρ, rfl⟩).2

theorem alloc_heap_old (w : World) (o : Obj) {k : Nat} (h : k < w.heap.size) : (w.alloc o).heap[k]? = w.heap[k]? := Go.RowKit.Below.heap_alloc w o k h
theorem alloc_heap_new (w : World) (o : Obj) : (w.alloc o).heap[w.heap.size]? = some o := by
  show (w.heap.push o)[w.heap.size]? = some o
  simp
theorem alloc_size (w : World) (o : Obj) : (w.alloc o).heap.size = w.heap.size + 1 := by
  show (w.heap.push o).size = _
  simp

/-- A new block of cells. -/
theorem alloc_cells (hr : HRel N G ρ H w) {blk : Blk} {id : Nat} (ha : H.alloc blk = some (id, H')) (hro : blk.ro = false) (hf : ρ id = none) (C : Array Value) (esz : Nat)
    (hc : ∀ (i : Nat) (v : Value), blk.cells[i]? = some v → ∃ v', C[i]? = some v' ∧ VRel ρ v v') (hE : blk.opn = true → esz = blk.esz) :
    Post N G ρ H w (upd ρ id ⟨w.heap.size, 0, C.size, esz⟩) H' (w.alloc (.cells C blk.elem)) := by
  obtain ⟨rfl, hlt, hnext, hget, hgetM⟩ := AH.alloc_inv ha
  have hle := upd_rle (⟨w.heap.size, 0, C.size, esz⟩ : Rn) hf
  have hown : ∀ j, H'.own j → j = H.next ∨ (j ≠ H.next ∧ H.own j) := by
    rintro j (⟨b, hb, hb2⟩ | ⟨m, hm⟩)
    · rw [hget] at hb
      by_cases e : j = H.next
      · exact .inl e
      · rw [if_neg e] at hb; exact .inr ⟨e, .inl ⟨b, hb, hb2⟩⟩
    · rw [hgetM] at hm
      exact .inr ⟨by have := hr.oldM j m hm; omega, .inr ⟨m, hm⟩⟩
  refine ⟨by omega, fun i hi => upd_ne ρ _ (by omega), ⟨by omega, by have := hr.glo; omega, ?_, ?_, ?_, ?_, ?_, ?_, by rw [alloc_size]; have := hr.below; omega⟩, by rw [alloc_size]; omega, ?_, ?_, rfl, rfl, rfl⟩
  · intro j b hb
    rw [hget] at hb
    by_cases e : j = H.next
    · omega
    · rw [if_neg e] at hb; have := hr.oldC j b hb; omega
  · intro j m hm
    rw [hgetM] at hm; have := hr.oldM j m hm; omega
  · intro j b hb
    rw [hget] at hb
    by_cases e : j = H.next
    · subst e
      rw [if_pos rfl] at hb
      cases hb
      refine ⟨_, upd_same ρ _ _, C, (0, 0), alloc_heap_new w _, rfl, ?_, fun h => absurd h (by rw [hro]; decide), fun _ => ⟨rfl, hr.below⟩, hE⟩
      intro i v hv
      obtain ⟨v', h1, h2⟩ := hc i v hv
      exact ⟨v', by rw [Nat.zero_add]; exact h1, h2.mono hle⟩
    · rw [if_neg e] at hb
      obtain ⟨r, h1, h2⟩ := hr.cells j b hb
      exact ⟨r, by rw [upd_ne ρ _ e]; exact h1, h2.later hle (alloc_heap_old w _ h2.lt)⟩
  · intro j m hm
    rw [hgetM] at hm
    obtain ⟨r, h1, h2⟩ := hr.maps j m hm
    exact ⟨r, by rw [upd_ne ρ _ (by have := hr.oldM j m hm; omega)]; exact h1, h2.later hle (alloc_heap_old w _ h2.lt)⟩
  · intro i j r s hi hj hri hsj hb
    rcases hown i hi with rfl | ⟨hi1, hi2⟩ <;> rcases hown j hj with rfl | ⟨hj1, hj2⟩
    · rfl
    · rw [upd_same] at hri; cases hri
      rw [upd_ne ρ _ hj1] at hsj
      have := hr.own_lt hj2 hsj
      simp at hb; omega
    · rw [upd_same] at hsj; cases hsj
      rw [upd_ne ρ _ hi1] at hri
      have := hr.own_lt hi2 hri
      simp at hb; omega
    · rw [upd_ne ρ _ hi1] at hri
      rw [upd_ne ρ _ hj1] at hsj
      exact hr.inj i j r s hi2 hj2 hri hsj hb
  · intro g hg
    obtain ⟨r, h1, h2⟩ := hr.glob g hg
    exact ⟨r, hle g r h1, h2⟩
  · intro k hk _
    exact alloc_heap_old w _ hk
  · rintro k ⟨j, r, hj, hrj, rfl⟩
    rcases hown j hj with rfl | ⟨hj1, hj2⟩
    · rw [upd_same] at hrj; cases hrj
      exact .inr (Nat.le_refl _)
    · rw [upd_ne ρ _ hj1] at hrj
      exact .inl ⟨j, r, hj2, hrj, rfl⟩

/-- A new map. -/
theorem alloc_map (hr : HRel N G ρ H w) {id : Nat} (ha : H.allocM = some (id, H')) (hf : ρ id = none) :
    Post N G ρ H w (upd ρ id ⟨w.heap.size, 0, 0, 0⟩) H' (w.alloc (.map #[] 0)) := by
  obtain ⟨rfl, hlt, hnext, hget, hgetM⟩ := AH.allocM_inv ha
  have hle := upd_rle (⟨w.heap.size, 0, 0, 0⟩ : Rn) hf
  have hown : ∀ j, H'.own j → j = H.next ∨ (j ≠ H.next ∧ H.own j) := by
    rintro j (⟨b, hb, hb2⟩ | ⟨m, hm⟩)
    · rw [hget] at hb
      exact .inr ⟨by have := hr.oldC j b hb; omega, .inl ⟨b, hb, hb2⟩⟩
    · rw [hgetM] at hm
      by_cases e : j = H.next
      · exact .inl e
      · rw [if_neg e] at hm; exact .inr ⟨e, .inr ⟨m, hm⟩⟩
  refine ⟨by omega, fun i hi => upd_ne ρ _ (by omega), ⟨by omega, by have := hr.glo; omega, ?_, ?_, ?_, ?_, ?_, ?_, by rw [alloc_size]; have := hr.below; omega⟩, by rw [alloc_size]; omega, ?_, ?_, rfl, rfl, rfl⟩
  · intro j b hb
    rw [hget] at hb; have := hr.oldC j b hb; omega
  · intro j m hm
    rw [hgetM] at hm
    by_cases e : j = H.next
    · omega
    · rw [if_neg e] at hm; have := hr.oldM j m hm; omega
  · intro j b hb
    rw [hget] at hb
    obtain ⟨r, h1, h2⟩ := hr.cells j b hb
    exact ⟨r, by rw [upd_ne ρ _ (by have := hr.oldC j b hb; omega)]; exact h1, h2.later hle (alloc_heap_old w _ h2.lt)⟩
  · intro j m hm
    rw [hgetM] at hm
    by_cases e : j = H.next
    · subst e
      rw [if_pos rfl] at hm
      cases hm
      exact ⟨_, upd_same ρ _ _, #[], alloc_heap_new w _, ⟨rfl, fun i e e' h _ => by simp at h⟩, hr.below⟩
    · rw [if_neg e] at hm
      obtain ⟨r, h1, h2⟩ := hr.maps j m hm
      exact ⟨r, by rw [upd_ne ρ _ e]; exact h1, h2.later hle (alloc_heap_old w _ h2.lt)⟩
  · intro i j r s hi hj hri hsj hb
    rcases hown i hi with rfl | ⟨hi1, hi2⟩ <;> rcases hown j hj with rfl | ⟨hj1, hj2⟩
    · rfl
    · rw [upd_same] at hri; cases hri
      rw [upd_ne ρ _ hj1] at hsj
      have := hr.own_lt hj2 hsj
      simp at hb; omega
    · rw [upd_same] at hsj; cases hsj
      rw [upd_ne ρ _ hi1] at hri
      have := hr.own_lt hi2 hri
      simp at hb; omega
    · rw [upd_ne ρ _ hi1] at hri
      rw [upd_ne ρ _ hj1] at hsj
      exact hr.inj i j r s hi2 hj2 hri hsj hb
  · intro g hg
    obtain ⟨r, h1, h2⟩ := hr.glob g hg
    exact ⟨r, hle g r h1, h2⟩
  · intro k hk _
    exact alloc_heap_old w _ hk
  · rintro k ⟨j, r, hj, hrj, rfl⟩
    rcases hown j hj with rfl | ⟨hj1, hj2⟩
    · rw [upd_same] at hrj; cases hrj
      exact .inr (Nat.le_refl _)
    · rw [upd_ne ρ _ hj1] at hrj
      exact .inl ⟨j, r, hj2, hrj, rfl⟩

/-! ### A store -/
theorem heap_setCell_same {b o : Nat} {v : Value} {C : Array Value} {e : TypeId} {fr : Nat × Nat} (h : w.heap[b]? = some (.cells C e fr)) :
    (w.setCell ⟨b, o, none⟩ v).heap[b]? = some (.cells (C.setIfInBounds o v) e fr) := by
  simp [World.setCell, Array.getElem?_modify, h]

/-- The block after the stores. -/
theorem heap_setCells_same {b : Nat} {e : TypeId} {fr : Nat × Nat} : ∀ (vs : List Value) (o : Nat) (w : World) (C : Array Value), w.heap[b]? = some (.cells C e fr) →
    ∃ C' : Array Value, (w.setCells b o vs).heap[b]? = some (.cells C' e fr) ∧ C'.toList = spl C.toList o vs
  | [], o, w, C, h => ⟨C, h, rfl⟩
  | v :: vs, o, w, C, h => by
    obtain ⟨C', h1, h2⟩ := heap_setCells_same vs (o + 1) (w.setCell ⟨b, o, none⟩ v) _ (heap_setCell_same (v := v) (o := o) h)
    exact ⟨C', h1, by rw [h2]; simp [spl]⟩

theorem spl_length : ∀ (vs cs : List Value) (o : Nat), (spl cs o vs).length = cs.length
  | [], cs, o => rfl
  | v :: vs, cs, o => by simp [spl, spl_length vs]

theorem spl_rel {d : Nat} : ∀ (vs vs' cs C : List Value) (o : Nat), LRel ρ vs vs' →
    (∀ (i : Nat) (v : Value), cs[i]? = some v → ∃ v', C[d + i]? = some v' ∧ VRel ρ v v') →
    ∀ (i : Nat) (v : Value), (spl cs o vs)[i]? = some v → ∃ v', (spl C (d + o) vs')[i + d]? = some v' ∧ VRel ρ v v'
  | [], vs', cs, C, o, hv, hc, i, v, h => by
    have := hv.nil_inv; subst this
    rw [Nat.add_comm i d]
    exact hc i v h
  | u :: vs, vs', cs, C, o, hv, hc, i, v, h => by
    obtain ⟨u', t, rfl, hu, ht⟩ := hv.uncons
    simp only [spl] at h ⊢
    refine spl_rel vs t (cs.set o u) (C.set (d + o) u') (o + 1) ht (fun j x hx => ?_) i v h
    rw [List.getElem?_set] at hx
    by_cases e : o = j
    · subst e
      rw [if_pos rfl] at hx
      split at hx
      · rename_i hlt
        cases hx
        obtain ⟨y, hy, _⟩ := hc o _ (List.getElem?_eq_getElem hlt)
        have := (List.getElem?_eq_some_iff.1 hy).1
        exact ⟨u', by rw [List.getElem?_set, if_pos rfl, if_pos this], hu⟩
      · cases hx
    · rw [if_neg e] at hx
      obtain ⟨y, hy, hr⟩ := hc j x hx
      exact ⟨y, by rw [List.getElem?_set, if_neg (by omega)]; exact hy, hr⟩

theorem setCells_rest (w : World) (b : Nat) : ∀ (vs : List Value) (o : Nat) (w : World), (w.setCells b o vs).heap.size = w.heap.size ∧ (w.setCells b o vs).os = w.os ∧ (w.setCells b o vs).tape = w.tape ∧ (w.setCells b o vs).output = w.output ∧
      ∀ k, k ≠ b → (w.setCells b o vs).heap[k]? = w.heap[k]?
  | [], o, w => ⟨rfl, rfl, rfl, rfl, fun _ _ => rfl⟩
  | v :: vs, o, w' => by
    obtain ⟨h1, h2, h3, h4, h5⟩ := setCells_rest w b vs (o + 1) (w'.setCell ⟨b, o, none⟩ v)
    refine ⟨h1.trans (by simp [World.setCell]), h2, h3, h4, fun k hk => (h5 k hk).trans ?_⟩
    exact Go.RowKit.Below.heap_setCell w' ⟨b, o, none⟩ v k hk

theorem LRel.one {vs vs' : List Value} (h : LRel ρ vs vs') (h1 : vs.all (·.oneCell') = true) : ∀ v ∈ vs', v.oneCell' = true := by
  intro v hv
  obtain ⟨i, hi, rfl⟩ := List.mem_iff_getElem.1 hv
  have hi' : i < vs.length := by rw [h.1]; exact hi
  have := h.2 i vs[i] vs'[i] (List.getElem?_eq_getElem hi') (List.getElem?_eq_getElem hi)
  rw [this.one]
  exact List.all_eq_true.1 h1 _ (List.getElem_mem hi')

theorem storeCellsA_sound (hr : HRel N G ρ H w) {b off : Nat} {vs vs' : List Value} {r : Rn} (hb : ρ b = some r) (hv : LRel ρ vs vs') (h : storeCellsA H b off vs = some H') :
    Post N G ρ H w ρ H' (w.setCells r.blk (r.off + off) vs') ∧ w.there r.blk (r.off + off) vs'.length ∧ (∀ v ∈ vs', v.oneCell' = true) := by
  unfold storeCellsA at h
  split at h
  case h_2 => cases h
  rename_i blk hblk
  split at h
  case isFalse => cases h
  rename_i hcond
  obtain ⟨hro, hle, h1⟩ := hcond
  cases h
  have hold := hr.oldC b blk hblk
  have hlim := hr.lim
  obtain ⟨r', hr', C, fr, hC, hsz, hcell, hroN, hown, hE⟩ := hr.cells b blk hblk
  rw [hb] at hr'; cases hr'
  obtain ⟨rfl, hN⟩ := hown hro
  have hget : ∀ j, (H.put b (some { blk with cells := spl blk.cells off vs })).get j = if j = b then some { blk with cells := spl blk.cells off vs } else H.get j := AH.get_put (by omega)
  obtain ⟨C', hC', hCl⟩ := heap_setCells_same vs' (r.off + off) w C hC
  obtain ⟨hs1, hs2, hs3, hs4, hs5⟩ := setCells_rest w r.blk vs' (r.off + off) w
  have hownb : H.own b := .inl ⟨blk, hblk, hro⟩
  have hown' : ∀ j, (H.put b (some { blk with cells := spl blk.cells off vs })).own j → H.own j := by
    rintro j (⟨x, hx, hx2⟩ | ⟨m, hm⟩)
    · rw [hget] at hx
      by_cases e : j = b
      · subst e; exact hownb
      · rw [if_neg e] at hx; exact .inl ⟨x, hx, hx2⟩
    · exact .inr ⟨m, hm⟩
  have hCsz : C'.size = C.size := by
    rw [← Array.length_toList, hCl, spl_length, Array.length_toList]
  refine ⟨⟨Nat.le_refl _, fun _ _ => rfl, ⟨hr.lim, hr.glo, ?_, hr.oldM, ?_, ?_, ?_, hr.glob, by rw [hs1]; exact hr.below⟩, by rw [hs1]; exact Nat.le_refl _, ?_, ?_, hs2, hs3, hs4⟩, ?_, hv.one h1⟩
  · intro j x hx
    rw [hget] at hx
    by_cases e : j = b
    · subst e; exact hold
    · rw [if_neg e] at hx; exact hr.oldC j x hx
  · intro j x hx
    rw [hget] at hx
    by_cases e : j = b
    · subst e
      rw [if_pos rfl] at hx
      cases hx
      refine ⟨r, hb, C', (0, 0), hC', hCsz.trans hsz, fun i v hi => ?_, hroN, hown, hE⟩
      obtain ⟨v', h2, h3⟩ := spl_rel vs vs' blk.cells C.toList off hv (fun i v hi => by simpa using hcell i v hi) i v hi
      rw [← hCl, Array.getElem?_toList, Nat.add_comm] at h2
      exact ⟨v', h2, h3⟩
    · rw [if_neg e] at hx
      obtain ⟨s, h2, h3⟩ := hr.cells j x hx
      by_cases hxr : x.ro = true
      · obtain ⟨_, _, _, _, _, h4, _⟩ := h3
        have := h4 hxr
        exact ⟨s, h2, (hr.cells j x hx).choose_spec.2 |> fun _ => (by
          obtain ⟨s', h2', h3'⟩ := hr.cells j x hx
          rw [h2] at h2'; cases h2'
          exact h3'.later (Rle.refl ρ) (hs5 _ (by omega)))⟩
      · have hoj : H.own j := .inl ⟨x, hx, by simpa using hxr⟩
        exact ⟨s, h2, h3.later (Rle.refl ρ) (hs5 _ (fun e' => e (hr.inj j b s r hoj hownb h2 hb e')))⟩
  · intro j m hm
    obtain ⟨s, h2, h3⟩ := hr.maps j m hm
    refine ⟨s, h2, h3.later (Rle.refl ρ) (hs5 _ (fun e' => ?_))⟩
    obtain ⟨es, h4, _⟩ := h3
    rw [e', hC] at h4
    cases h4
  · intro i j s t hi hj hs ht
    exact hr.inj i j s t (hown' i hi) (hown' j hj) hs ht
  · intro k hk hno
    exact hs5 k (fun e => hno ⟨b, r, hownb, hb, e.symm⟩)
  · rintro k ⟨j, s, hj, hs, rfl⟩
    exact .inl ⟨j, s, hown' j hj, hs, rfl⟩
  · intro j hj
    have hj' : off + j < blk.cells.length := by rw [← hv.1] at hj; omega
    obtain ⟨v', h2, _⟩ := hcell _ _ (List.getElem?_eq_getElem hj')
    refine ⟨by rw [cell?_cells hC, show r.off + off + j = r.off + (off + j) by omega, h2]; rfl, ?_⟩
    simp [World.frozen?, hC]
end
end Go.Vi
