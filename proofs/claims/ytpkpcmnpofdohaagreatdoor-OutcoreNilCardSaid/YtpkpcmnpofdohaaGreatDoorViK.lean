/- A part of the proof that sparselaw34.OutcoreNil answers true at every input: an evaluator of Go code over an abstract heap, and that it is right. -/
import Derived.Test.YtpkpcmnpofdohaaGreatDoorViJ
/-! The evaluator is right: maps; all operations that write; a step. -/
namespace Go.Vi
open Go

section
variable {P : Program} {N G : Nat} {ρ : Rm} {H H' : AH} {w : World} {T : Tm} {a : Act}

theorem find_at {k : IntKind} {n : Int} : ∀ (es : List Ent) (es' : List MapEntry), ELRel ρ es es' → keysOk k es = true → ∀ (i : Nat),
    (findA k n es = none ∧ Instr.findNow (.int k) (.int k n) es' i = some none ∧ ∀ v clock, updA k n v clock es = es ++ [⟨.int k n, v, clock⟩]) ∨
    ∃ j e e', findA k n es = some e ∧ Instr.findNow (.int k) (.int k n) es' i = some (some (i + j, e'.val)) ∧ es[j]? = some e ∧ es'[j]? = some e' ∧ e'.key = .int k n ∧
      ∀ v clock, updA k n v clock es = es.set j ⟨.int k n, v, e.born⟩
  | [], es', h, _, i => by
    have : es' = [] := by cases es' with | nil => rfl | cons _ _ => simp [ELRel] at h
    subst this
    exact .inl ⟨rfl, rfl, fun _ _ => rfl⟩
  | e :: es, es', h, hk, i => by
    cases es' with
    | nil => simp [ELRel] at h
    | cons e' es' =>
      have he : ERel ρ e e' := h.2 0 e e' rfl rfl
      have hes : ELRel ρ es es' := ⟨by simpa using h.1, fun i a b ha hb => h.2 (i + 1) a b (by simpa using ha) (by simpa using hb)⟩
      simp only [keysOk, List.all_cons, Bool.and_eq_true] at hk
      obtain ⟨hk1, hk2⟩ := hk
      cases hkey : e.key with
      | int j m =>
        simp only [hkey, decide_eq_true_eq] at hk1
        subst hk1
        have he' : e'.key = .int j m := by have := he.1; rw [hkey] at this; exact this.int_inv
        by_cases hnm : n = m
        · subst hnm
          refine .inr ⟨0, e, e', by simp [findA, hkey], by simp [Instr.findNow, he', Instr.sameNow], rfl, rfl, he', fun v clock => by simp [updA, hkey]⟩
        · have hb : (n == m) = false := by simpa using hnm
          rcases find_at (n := n) es es' hes hk2 (i + 1) with ⟨h1, h2, h3⟩ | ⟨q, x, x', h1, h2, h3, h4, h5, h6⟩
          · refine .inl ⟨by simp [findA, hkey, hnm, h1], by simp only [Instr.findNow, he', Instr.sameNow, if_true, hb, h2], fun v clock => by simp [updA, hkey, hnm, h3]⟩
          · refine .inr ⟨q + 1, x, x', by simp [findA, hkey, hnm, h1], ?_, by simpa using h3, by simpa using h4, h5, fun v clock => by simp [updA, hkey, hnm, h6]⟩
            simp only [Instr.findNow, he', Instr.sameNow, if_true, hb, h2]
            rw [show i + 1 + q = i + (q + 1) by omega]
      | _ => simp [hkey] at hk1

theorem findNow_kind {k0 k : IntKind} {n : Int} : ∀ (l : List MapEntry) (i : Nat), Instr.findNow (.int k0) (.int k n) l i = Instr.findNow (.int k) (.int k n) l i
  | [], _ => rfl
  | e :: l, i => by
    simp only [Instr.findNow]
    rw [findNow_kind l (i + 1)]
    cases e.key <;> rfl

/-- A map is written. -/
theorem put_map (hr : HRel N G ρ H w) {id : Nat} {m m' : MBlk} {r : Rn} {es es' : Array MapEntry} (hb : ρ id = some r) (hm : H.getM id = some m) (hC : w.heap[r.blk]? = some (.map es m.clock)) (hN : N ≤ r.blk)
    (hel : ELRel ρ m'.es es'.toList) : Post N G ρ H w ρ (H.putM id m') { w with heap := w.heap.setIfInBounds r.blk (.map es' m'.clock) } := by
  have hold := hr.oldM id m hm
  have hlim := hr.lim
  have hget : ∀ j, (H.putM id m').getM j = if j = id then some m' else H.getM j := AH.getM_putM (by omega)
  have hown' : ∀ j, (H.putM id m').own j → H.own j := by
    rintro j (⟨x, hx, hx2⟩ | ⟨q, hq⟩)
    · exact .inl ⟨x, hx, hx2⟩
    · rw [hget] at hq
      by_cases e : j = id
      · subst e; exact .inr ⟨m, hm⟩
      · rw [if_neg e] at hq; exact .inr ⟨q, hq⟩
  have hownid : H.own id := .inr ⟨m, hm⟩
  have hlt := (Array.getElem?_eq_some_iff.1 hC).1
  have hother : ∀ k, k ≠ r.blk → (w.heap.setIfInBounds r.blk (.map es' m'.clock))[k]? = w.heap[k]? := fun k hk => by
    rw [Array.getElem?_setIfInBounds_ne (Ne.symm hk)]
  refine ⟨Nat.le_refl _, fun _ _ => rfl, ⟨hr.lim, hr.glo, hr.oldC, ?_, ?_, ?_, ?_, hr.glob, by simpa using hr.below⟩, by simp, ?_, ?_, rfl, rfl, rfl⟩
  · intro j q hq
    rw [hget] at hq
    by_cases e : j = id
    · subst e; exact hold
    · rw [if_neg e] at hq; exact hr.oldM j q hq
  · intro j x hx
    obtain ⟨s, h1, h2⟩ := hr.cells j x hx
    refine ⟨s, h1, h2.later (Rle.refl ρ) (hother _ (fun e => ?_))⟩
    obtain ⟨C, fr, h3, _⟩ := h2
    rw [e, hC] at h3; cases h3
  · intro j q hq
    rw [hget] at hq
    by_cases e : j = id
    · subst e
      rw [if_pos rfl] at hq
      cases hq
      refine ⟨r, hb, es', ?_, hel, hN⟩
      show (w.heap.setIfInBounds r.blk (.map es' m'.clock))[r.blk]? = _
      rw [Array.getElem?_setIfInBounds_self_of_lt hlt]
    · rw [if_neg e] at hq
      obtain ⟨s, h1, h2⟩ := hr.maps j q hq
      exact ⟨s, h1, h2.later (Rle.refl ρ) (hother _ (fun e' => e (hr.inj j id s r (.inr ⟨q, hq⟩) hownid h1 hb e')))⟩
  · intro i j s t hi hj hs ht
    exact hr.inj i j s t (hown' i hi) (hown' j hj) hs ht
  · intro k hk hno
    exact hother k (fun e => hno ⟨id, r, hownid, hb, e.symm⟩)
  · rintro k ⟨j, s, hj, hs, rfl⟩
    exact .inl ⟨j, s, hown' j hj, hs, rfl⟩

theorem mapUpdateA_sound (hr : HRel N G ρ H w) {t : TypeId} {m x v m' x' v' : Value} (hm : VRel ρ m m') (hx : VRel ρ x x') (hv : VRel ρ v v') (h : mapUpdateA P H t m x v = some H') :
    ∃ w', (Instr.mapUpdate t m' x' v').run P w = .ok () w' ∧ Post N G ρ H w ρ H' w' := by
  unfold mapUpdateA at h
  split at h
  case h_2 => cases h
  rename_i kt et id k n hu
  rw [hx.int_inv]
  split at h
  case h_2 => cases h
  rename_i k0 mb hkt hmb
  split at h
  case isFalse => cases h
  rename_i hk
  cases h
  cases hm with
  | plain hp => simp [plainS] at hp
  | map hb =>
    rename_i r
    obtain ⟨r', hr', es', hC, hel, hN⟩ := hr.maps id mb hmb
    rw [hb] at hr'; cases hr'
    have hck : ∀ b, (Instr.checkKey b 10000 kt (.int k n)).run P w = .ok () w := fun b => by
      have h1 : ∀ m, (Instr.checkKey b (m + 1) kt (.int k n)).run P w = .ok () w := fun m => by simp [Instr.checkKey, run_underlying hkt]
      exact h1 9999
    have hg : (getObj r.blk).run P w = .ok (.map es' mb.clock) w := by simp [getObj, Sem.run, hC]
    have hset : ∀ o, (setObj r.blk o).run P w = .ok () { w with heap := w.heap.setIfInBounds r.blk o } := fun o => by simp [setObj, Sem.run, hC]
    rcases find_at (n := n) mb.es es'.toList hel hk 0 with ⟨h1, h2, h3⟩ | ⟨j, e, e', h1, h2, h3, h4, h5, h6⟩
    · have hfk : (Instr.findKey kt (.int k n) es'.toList).run P w = .ok none w := by
        simp [Instr.findKey, run_underlying hkt, findNow_kind, h2]
      have hp := put_map (m' := ⟨updA k n v mb.clock mb.es, mb.clock + 1⟩) (es' := es'.push { key := .int k n, val := v', born := mb.clock }) hr hb hmb hC hN (by
        simp only [h3, Array.toList_push]
        refine ⟨by simp [hel.1], fun i a b ha hb => ?_⟩
        rw [List.getElem?_append] at ha hb
        rw [hel.1] at ha
        split at ha
        · rename_i hlt
          rw [if_pos hlt] at hb
          exact hel.2 i a b ha hb
        · rename_i hlt
          rw [if_neg hlt] at hb
          have : i - es'.toList.length = 0 := by
            have := (List.getElem?_eq_some_iff.1 ha).1
            simp at this; omega
          rw [this] at ha hb
          simp at ha hb
          subst ha; subst hb
          exact ⟨.plain rfl, hv, rfl⟩)
      refine ⟨_, ?_, by rw [h1]; exact hp⟩
      unfold Instr.mapUpdate
      simp [run_underlying hu, hg, hck, hfk, hset]
    · have hfk : (Instr.findKey kt (.int k n) es'.toList).run P w = .ok (some (j, e'.val)) w := by
        simp [Instr.findKey, run_underlying hkt, findNow_kind, h2]
      have hj : es'[j]? = some e' := by simpa using h4
      have hjlt := (Array.getElem?_eq_some_iff.1 hj).1
      have hp := put_map (m' := ⟨updA k n v mb.clock mb.es, mb.clock⟩) (es' := es'.modify j fun e => { e with key := .int k n, val := v' }) hr hb hmb hC hN (by
        simp only [h6]
        refine ⟨by simp [hel.1], fun i a b ha hb => ?_⟩
        rw [Array.getElem?_toList, Array.getElem?_modify] at hb
        rw [List.getElem?_set] at ha
        by_cases e0 : j = i
        · subst e0
          rw [if_pos rfl] at ha hb
          rw [hj] at hb
          split at ha
          · cases ha
            simp at hb
            subst hb
            have he := hel.2 j e e' h3 h4
            exact ⟨.plain rfl, hv, he.2.2⟩
          · cases ha
        · rw [if_neg e0] at ha hb
          exact hel.2 i a b ha (by simpa using hb))
      refine ⟨_, ?_, by rw [h1]; exact hp⟩
      have hstay : (Instr.keyThatStays (((es'[j]?).map (·.key)).getD (.int k n)) (.int k n)).run P w = .ok (.int k n) w := by
        rw [hj]
        simp [h5, Instr.keyThatStays, Instr.sameBits]
      unfold Instr.mapUpdate
      simp only [Sem.run_bind, run_underlying hu, Result.andThen_ok, hg, hck, hfk, hstay, hset]
end
end Go.Vi
