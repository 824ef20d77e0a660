/- A part of the proof that sparselaw34.OutcoreNil answers true at every input: an evaluator of Go code over an abstract heap, and that it is right. -/
import Derived.Test.YtpkpcmnpofdohaaGreatDoorViN
/-! The evaluator is right: a region whose order is open, second half. -/
namespace Go.Vi
open Go

section
variable {P : Program} {N : Nat} {call : CallF} {ops : Array Oper}

theorem env_out {L : Nat → Bool} {t : Nat} : ∀ (tr : List (Nat × Ac)) (T : Tm), T.n ≤ 65000 → ¬ t < T.n → (env ops T L tr).get t = T.get t
  | [], T, _, _ => rfl
  | (i, ac) :: tr, T, hn, h => by
    simp only [env]
    by_cases hL : L i = true
    · rw [if_pos hL, env_out tr _ (by rw [putT_n]; exact hn) (by rw [putT_n]; exact h), putT_get hn, if_neg (fun e => h e.2)]
    · rw [if_neg hL, env_out tr T hn h]

theorem TRel.same {ρ : Rm} {T T2 : Tm} {tmps : Array Value} (ht : TRel ρ T tmps) (hn : T2.n = T.n) (hg : ∀ t, T2.get t = T.get t) : TRel ρ T2 tmps :=
  ⟨hn.trans ht.1, by rw [hn]; exact ht.2.1, fun t => by rw [hg]; exact ht.2.2 t⟩

theorem ord_unique {ms : List Nat} : ∀ (tr : List (Nat × Ac)), OrdOk ops ms (tr.map (·.1)) → ∀ i a b, (i, a) ∈ tr → (i, b) ∈ tr → a = b
  | [], _, i, a, b, h, _ => by simp at h
  | (j, c) :: tr, ho, i, a, b, h, k => by
    have h1 := ho.1
    simp only [List.mem_cons, Prod.mk.injEq] at h k
    rcases h with ⟨rfl, rfl⟩ | h <;> rcases k with ⟨e, rfl⟩ | k
    · rfl
    · exact absurd rfl (h1 i (List.mem_map.2 ⟨_, k, rfl⟩)).1
    · subst e; exact absurd rfl (h1 i (List.mem_map.2 ⟨_, h, rfl⟩)).1
    · exact ord_unique tr ho.2 i a b h k

theorem ord_later {ms : List Nat} : ∀ (p q : List (Nat × Ac)) (i : Nat) (ac : Ac), OrdOk ops ms ((p ++ (i, ac) :: q).map (·.1)) →
    (∀ x ∈ q, x.1 ≠ i ∧ (ms.getD i 0).testBit x.1 = false ∧ ∀ a b, ops[i]? = some a → ops[x.1]? = some b → isLoud b = true → (isLoud a = true ∨ isAlloc a = true) → (ms.getD x.1 0).testBit i = true) ∧
    (∀ x ∈ p, i ≠ x.1 ∧ (ms.getD x.1 0).testBit i = false ∧ ∀ a b, ops[x.1]? = some a → ops[i]? = some b → isLoud b = true → (isLoud a = true ∨ isAlloc a = true) → (ms.getD i 0).testBit x.1 = true)
  | [], q, i, ac, h => ⟨fun x hx => h.1 x.1 (List.mem_map.2 ⟨x, hx, rfl⟩), fun x hx => by simp at hx⟩
  | y :: p, q, i, ac, h => by
    obtain ⟨h1, h2⟩ := ord_later p q i ac h.2
    refine ⟨h1, fun x hx => ?_⟩
    rcases List.mem_cons.1 hx with rfl | hx
    · exact h.1 i (List.mem_map.2 ⟨(i, ac), by simp, rfl⟩)
    · exact h2 x hx

/-- A new block that has lain in the world for a while becomes the evaluator's. -/
theorem incorp1 {G : Nat} {ρ : Rm} {H H1 : AH} {w : World} {f : Fresh} {id b : Nat} {obj : Obj} (hr : HRel N G ρ H w) (ha : H.allocF f = some (id, H1)) (hid : ρ id = some (rnOf b obj))
    (hb : w.heap[b]? = some obj) (hok : FOk ρ f obj) (hN : N ≤ b) (hno : ¬ Owned ρ H b) : HRel N G ρ H1 w ∧ ∀ k, Owned ρ H1 k ↔ Owned ρ H k ∨ k = b := by
  cases f with
  | map =>
    simp only [FOk] at hok
    subst hok
    obtain ⟨rfl, hlt, hnext, hget, hgetM⟩ := AH.allocM_inv ha
    have hown : ∀ j, H1.own j ↔ j = H.next ∨ H.own j := fun j => by
      constructor
      · rintro (⟨x, hx, hx2⟩ | ⟨m, hm⟩)
        · rw [hget] at hx; exact .inr (.inl ⟨x, hx, hx2⟩)
        · rw [hgetM] at hm
          by_cases e : j = H.next
          · exact .inl e
          · rw [if_neg e] at hm; exact .inr (.inr ⟨m, hm⟩)
      · rintro (rfl | ⟨x, hx, hx2⟩ | ⟨m, hm⟩)
        · exact .inr ⟨_, by rw [hgetM, if_pos rfl]⟩
        · exact .inl ⟨x, by rw [hget]; exact hx, hx2⟩
        · refine .inr ⟨m, ?_⟩
          rw [hgetM, if_neg (by have := hr.oldM j m hm; omega)]; exact hm
    refine ⟨⟨by omega, by have := hr.glo; omega, ?_, ?_, ?_, ?_, ?_, hr.glob, hr.below⟩, ?_⟩
    · intro j x hx; rw [hget] at hx; have := hr.oldC j x hx; omega
    · intro j m hm
      rw [hgetM] at hm
      by_cases e : j = H.next
      · omega
      · rw [if_neg e] at hm; have := hr.oldM j m hm; omega
    · intro j x hx; rw [hget] at hx; exact hr.cells j x hx
    · intro j m hm
      rw [hgetM] at hm
      by_cases e : j = H.next
      · subst e
        rw [if_pos rfl] at hm
        cases hm
        exact ⟨_, hid, #[], hb, ⟨rfl, fun i e e' h _ => by simp at h⟩, hN⟩
      · rw [if_neg e] at hm; exact hr.maps j m hm
    · intro i j s t hi hj hs ht e
      rcases (hown i).1 hi with rfl | hi' <;> rcases (hown j).1 hj with rfl | hj'
      · rfl
      · rw [hid] at hs; cases hs
        exact absurd ⟨j, t, hj', ht, e.symm⟩ hno
      · rw [hid] at ht; cases ht
        exact absurd ⟨i, s, hi', hs, e⟩ hno
      · exact hr.inj i j s t hi' hj' hs ht e
    · intro k
      constructor
      · rintro ⟨j, s, hj, hs, rfl⟩
        rcases (hown j).1 hj with rfl | hj'
        · rw [hid] at hs; cases hs; exact .inr rfl
        · exact .inl ⟨j, s, hj', hs, rfl⟩
      · rintro (⟨j, s, hj, hs, rfl⟩ | rfl)
        · exact ⟨j, s, (hown j).2 (.inr hj), hs, rfl⟩
        · exact ⟨H.next, _, (hown _).2 (.inl rfl), hid, rfl⟩
  | cells cs e sl =>
    obtain ⟨C, rfl, hC, _⟩ := hok
    obtain ⟨rfl, hlt, hnext, hget, hgetM⟩ := AH.alloc_inv ha
    have hown : ∀ j, H1.own j ↔ j = H.next ∨ H.own j := fun j => by
      constructor
      · rintro (⟨x, hx, hx2⟩ | ⟨m, hm⟩)
        · rw [hget] at hx
          by_cases e : j = H.next
          · exact .inl e
          · rw [if_neg e] at hx; exact .inr (.inl ⟨x, hx, hx2⟩)
        · rw [hgetM] at hm; exact .inr (.inr ⟨m, hm⟩)
      · rintro (rfl | ⟨x, hx, hx2⟩ | ⟨m, hm⟩)
        · exact .inl ⟨_, by rw [hget, if_pos rfl], rfl⟩
        · refine .inl ⟨x, ?_, hx2⟩
          rw [hget, if_neg (by have := hr.oldC j x hx; omega)]; exact hx
        · exact .inr ⟨m, by rw [hgetM]; exact hm⟩
    refine ⟨⟨by omega, by have := hr.glo; omega, ?_, ?_, ?_, ?_, ?_, hr.glob, hr.below⟩, ?_⟩
    · intro j x hx
      rw [hget] at hx
      by_cases e : j = H.next
      · omega
      · rw [if_neg e] at hx; have := hr.oldC j x hx; omega
    · intro j m hm; rw [hgetM] at hm; have := hr.oldM j m hm; omega
    · intro j x hx
      rw [hget] at hx
      by_cases e' : j = H.next
      · subst e'
        rw [if_pos rfl] at hx
        cases hx
        refine ⟨_, hid, C, (0, 0), hb, rfl, fun i v hv => ?_, (fun h => by cases h), fun _ => ⟨rfl, hN⟩, (fun h => by cases h)⟩
        obtain ⟨v', h1, h2⟩ := hC.some hv
        exact ⟨v', by show C[0 + i]? = _; rw [Nat.zero_add]; simpa using h1, h2⟩
      · rw [if_neg e'] at hx; exact hr.cells j x hx
    · intro j m hm; rw [hgetM] at hm; exact hr.maps j m hm
    · intro i j s t hi hj hs ht e
      rcases (hown i).1 hi with rfl | hi' <;> rcases (hown j).1 hj with rfl | hj'
      · rfl
      · rw [hid] at hs; cases hs
        exact absurd ⟨j, t, hj', ht, e.symm⟩ hno
      · rw [hid] at ht; cases ht
        exact absurd ⟨i, s, hi', hs, e⟩ hno
      · exact hr.inj i j s t hi' hj' hs ht e
    · intro k
      constructor
      · rintro ⟨j, s, hj, hs, rfl⟩
        rcases (hown j).1 hj with rfl | hj'
        · rw [hid] at hs; cases hs; exact .inr rfl
        · exact .inl ⟨j, s, hj', hs, rfl⟩
      · rintro (⟨j, s, hj, hs, rfl⟩ | rfl)
        · exact ⟨j, s, (hown j).2 (.inr hj), hs, rfl⟩
        · exact ⟨H.next, _, (hown _).2 (.inl rfl), hid, rfl⟩

/-- Several of them, in the evaluator's order. -/
theorem incorp (hnext : CallNext call) {G M : Nat} {ρ : Rm} {w : World} (hNM : N ≤ M) {T T1 : Tm} {H H1 : AH} {mid : List (Nat × Ac)} (h : Run P call ops T H mid T1 H1) :
    HRel N G ρ H w → (∀ i v H2, (i, Ac.ef v H2) ∉ mid) →
    (∀ i f id, (i, Ac.al f id) ∈ mid → ∃ b obj, w.heap[b]? = some obj ∧ FOk ρ f obj ∧ ρ id = some (rnOf b obj) ∧ M ≤ b ∧ ¬ Owned ρ H b) →
    (∀ i f id j g id' r r', (i, Ac.al f id) ∈ mid → (j, Ac.al g id') ∈ mid → ρ id = some r → ρ id' = some r' → r.blk = r'.blk → id = id') →
    HRel N G ρ H1 w ∧ ∀ k, Owned ρ H1 k → Owned ρ H k ∨ ∃ i f id r, (i, Ac.al f id) ∈ mid ∧ ρ id = some r ∧ r.blk = k := by
  induction h with
  | nil => intro hr _ _ _; exact ⟨hr, fun k hk => .inl hk⟩
  | skip ho hw hr ih =>
    intro h1 h2 h3 h4
    obtain ⟨h5, h6⟩ := ih h1 (fun i v H2 hm => h2 i v H2 (by simp [hm])) (fun i f id hm => h3 i f id (by simp [hm])) (fun i f id j g id' r r' a b => h4 i f id j g id' r r' (by simp [a]) (by simp [b]))
    exact ⟨h5, fun k hk => (h6 k hk).imp id fun ⟨i, f, id, r, a, b⟩ => ⟨i, f, id, r, by simp [a], b⟩⟩
  | pu ho hw hc hv hr ih =>
    intro h1 h2 h3 h4
    obtain ⟨h5, h6⟩ := ih h1 (fun i v H2 hm => h2 i v H2 (by simp [hm])) (fun i f id hm => h3 i f id (by simp [hm])) (fun i f id j g id' r r' a b => h4 i f id j g id' r r' (by simp [a]) (by simp [b]))
    exact ⟨h5, fun k hk => (h6 k hk).imp id fun ⟨i, f, id, r, a, b⟩ => ⟨i, f, id, r, by simp [a], b⟩⟩
  | ef ho hw hl hs hr ih => intro h1 h2 h3 h4; exact (h2 _ _ _ List.mem_cons_self).elim
  | al ho hw hc hf ha hr ih =>
    rename_i i id o f T T' H H1 H' tr
    intro h1 h2 h3 h4
    obtain ⟨b, obj, hb, hok, hid, hM, hno⟩ := h3 i f id (by simp)
    obtain ⟨h5, h6⟩ := incorp1 h1 ha hid hb hok (by omega) hno
    obtain ⟨hidn, hnx⟩ := allocF_next ha
    obtain ⟨h7, h8⟩ := ih h5 (fun i v H2 hm => h2 i v H2 (by simp [hm])) (fun j g id' hm => by
      obtain ⟨b', obj', q1, q2, q3, q4, q5⟩ := h3 j g id' (by simp [hm])
      refine ⟨b', obj', q1, q2, q3, q4, fun ho' => ?_⟩
      rcases (h6 b').1 ho' with ho' | ho'
      · exact q5 ho'
      · have e : id' = id := h4 j g id' i f id _ _ (by simp [hm]) (by simp) q3 hid (by rw [rnOf_blk, rnOf_blk]; exact ho')
        have := run_ids hnext hr j g id' hm
        omega) (fun i f id j g id' r r' a b => h4 i f id j g id' r r' (by simp [a]) (by simp [b]))
    refine ⟨h7, fun k hk => ?_⟩
    rcases h8 k hk with h9 | ⟨i', f', id', r, a, b', c⟩
    · rcases (h6 k).1 h9 with h9 | rfl
      · exact .inl h9
      · exact .inr ⟨i, f, id, _, by simp, hid, rnOf_blk _ _⟩
    · exact .inr ⟨i', f', id', r, by simp [a], b', c⟩
end
end Go.Vi
