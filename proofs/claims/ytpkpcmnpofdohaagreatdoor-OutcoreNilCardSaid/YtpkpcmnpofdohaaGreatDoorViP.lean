/- A part of the proof that sparselaw34.OutcoreNil answers true at every input: an evaluator of Go code over an abstract heap, and that it is right. -/
import Derived.Test.YtpkpcmnpofdohaaGreatDoorViO
/-! The evaluator is right: a region whose order is open, the theorem. -/
namespace Go.Vi
open Go

section
variable {P : Program} {N : Nat} {call : CallF} {ops : Array Oper}

def Lb (listed : Array Bool) : Nat → Bool := fun j => listed.getD j false

/-- How far a region has come. -/
structure Inv (P : Program) (N : Nat) (call : CallF) (ops : Array Oper) (ρ0 : Rm) (T0 : Tm) (H0 : AH) (w0 : World) (T' : Tm) (H' : AH) (tr : List (Nat × Ac)) (ds : List Deferred)
    (listed : Array Bool) (a : Act) (w : World) (pre post : List (Nat × Ac)) (T1 : Tm) (Hm : AH) (ρ : Rm) : Prop where
  split : tr = pre ++ post
  run1 : Run P call ops T0 H0 pre T1 Hm
  run2 : Run P call ops T1 Hm post T' H'
  stage : (pre = [] ∧ Hm = H0) ∨ ∃ p e v, pre = p ++ [(e, .ef v Hm)]
  preEf : ∀ i v H1, (i, Ac.ef v H1) ∈ pre → Lb listed i = true
  preAl : ∀ i f id, (i, Ac.al f id) ∈ pre → Lb listed i = true
  postEf : ∀ i v H1, (i, Ac.ef v H1) ∈ post → Lb listed i = false
  rel : HRel N P.globals.size ρ Hm w
  ext0 : ∀ k, k < H0.next → ρ k = ρ0 k
  extH : ∀ k, Hm.next ≤ k → (∃ i f, (i, Ac.al f k) ∈ post ∧ Lb listed i = true) ∨ ρ k = ρ0 k
  pend : ∀ i f id, (i, Ac.al f id) ∈ post → Lb listed i = true → ∃ b obj, w.heap[b]? = some obj ∧ FOk ρ f obj ∧ ρ id = some (rnOf b obj) ∧ w0.heap.size ≤ b ∧ ¬ Owned ρ Hm b
  pendInj : ∀ i f id j g id' r r', (i, Ac.al f id) ∈ post → Lb listed i = true → (j, Ac.al g id') ∈ post → Lb listed j = true → ρ id = some r → ρ id' = some r' → r.blk = r'.blk → id = id'
  size : w0.heap.size ≤ w.heap.size
  frame : ∀ k, k < w0.heap.size → ¬ Owned ρ0 H0 k → w.heap[k]? = w0.heap[k]?
  own : ∀ k, Owned ρ Hm k → Owned ρ0 H0 k ∨ w0.heap.size ≤ k
  os : w.os = w0.os
  tape : w.tape = w0.tape
  output : w.output = w0.output
  env : TRel ρ (env ops T0 (Lb listed) tr) a.tmps
  defers : a.defers = ds
  closed : Closed ops (fun j => Lb listed j = true)
  lsize : listed.size = ops.size

theorem Lb_set {listed : Array Bool} {i : Nat} (hi : i < listed.size) (j : Nat) : Lb (listed.setIfInBounds i true) j = if j = i then true else Lb listed j := by
  unfold Lb
  by_cases e : j = i
  · subst e; simp [hi]
  · rw [if_neg e, getD_set_ne false (Ne.symm e)]

/-- What stands ahead of operation i in the evaluator's temporaries, at its operands. -/
theorem agree {ms : List Nat} {L : Nat → Bool} {T0 : Tm} {p q : List (Nat × Ac)} {i : Nat} {ac : Ac} (hg : PlanGood ops ms ((p ++ (i, ac) :: q).map (·.1))) (hn : T0.n ≤ 65000) (hLi : L i = false)
    (hmask : ∀ j, (ms.getD i 0).testBit j = true → L j = true) (hsucc : ∀ j, L j = true → (ms.getD j 0).testBit i = false) {t : Nat}
    (hw : ∀ j o, ops[j]? = some o → o.dst = some t → j = i ∨ (ms.getD i 0).testBit j = true ∨ (ms.getD j 0).testBit i = true) :
    (env ops T0 L (p ++ (i, ac) :: q)).get t = (env ops T0 (fun _ => true) p).get t := by
  obtain ⟨hq, hp⟩ := ord_later p q i ac hg.ord
  by_cases htn : t < T0.n
  · -- the writer of t, if there is one
    have hdst : ∀ x y : Nat × Ac, x ∈ p ++ (i, ac) :: q → y ∈ p ++ (i, ac) :: q → dstOf ops x.1 = some t → dstOf ops y.1 = some t → x = y := fun x y hx hy hdx hdy => by
      unfold dstOf at hdx hdy
      cases ho1 : ops[x.1]? with
      | none => rw [ho1] at hdx; cases hdx
      | some o1 =>
        cases ho2 : ops[y.1]? with
        | none => rw [ho2] at hdy; cases hdy
        | some o2 =>
          rw [ho1] at hdx; rw [ho2] at hdy
          have := (hg.good x.1 o1 ho1).dst t hdx y.1 o2 ho2 hdy
          have h2 := ord_unique (ms := ms) _ hg.ord x.1 x.2 y.2 hx (by rw [← this]; exact hy)
          exact Prod.ext this.symm h2
    have hwr : ∀ x : Nat × Ac, dstOf ops x.1 = some t → x.1 = i ∨ (ms.getD i 0).testBit x.1 = true ∨ (ms.getD x.1 0).testBit i = true := fun x hdx => by
      unfold dstOf at hdx
      cases ho1 : ops[x.1]? with
      | none => rw [ho1] at hdx; cases hdx
      | some o1 => rw [ho1] at hdx; exact hw x.1 o1 ho1 hdx
    by_cases hx : ∃ x ∈ p, dstOf ops x.1 = some t
    · obtain ⟨x, hx, hdx⟩ := hx
      have hxi := hp x hx
      have hL : L x.1 = true := by
        rcases hwr x hdx with h | h | h
        · exact absurd h.symm hxi.1
        · exact hmask _ h
        · rw [hxi.2.1] at h; cases h
      rw [env_some (v := x.2.val) _ _ hn htn (fun y hy _ hdy => by rw [hdst y x hy (by simp [hx]) hdy hdx]) (.inr ⟨x, by simp [hx], hL, hdx⟩)]
      rw [env_some (v := x.2.val) _ _ hn htn (fun y hy _ hdy => by rw [hdst y x (by simp [hy]) (by simp [hx]) hdy hdx]) (.inr ⟨x, hx, rfl, hdx⟩)]
    · rw [env_none _ _ hn (fun y hy hLy hdy => ?_), env_none p _ hn (fun y hy _ hdy => hx ⟨y, hy, hdy⟩)]
      rcases List.mem_append.1 hy with hy | hy
      · exact hx ⟨y, hy, hdy⟩
      · rcases List.mem_cons.1 hy with rfl | hy
        · rw [hLi] at hLy; cases hLy
        · have hyi := hq y hy
          rcases hwr y hdy with h | h | h
          · exact hyi.1 h
          · rw [hyi.2.1] at h; cases h
          · rw [hsucc _ hLy] at h; cases h
  · rw [env_out _ _ hn htn, env_out _ _ hn htn]

/-- The temporaries behind one more operation. -/
theorem env_put {ms : List Nat} {L L' : Nat → Bool} {T0 : Tm} {tr : List (Nat × Ac)} {i : Nat} {ac : Ac} (hg : PlanGood ops ms (tr.map (·.1))) (hn : T0.n ≤ 65000) (hmem : (i, ac) ∈ tr)
    (hL : ∀ j, L' j = if j = i then true else L j) (t : Nat) : (env ops T0 L' tr).get t = (putT (env ops T0 L tr) (dstOf ops i) ac.val).get t := by
  rw [putT_get (by rw [env_n]; exact hn), env_n]
  by_cases htn : t < T0.n
  · have hdst : ∀ x y : Nat × Ac, x ∈ tr → y ∈ tr → dstOf ops x.1 = some t → dstOf ops y.1 = some t → x = y := fun x y hx hy hdx hdy => by
      unfold dstOf at hdx hdy
      cases ho1 : ops[x.1]? with
      | none => rw [ho1] at hdx; cases hdx
      | some o1 =>
        cases ho2 : ops[y.1]? with
        | none => rw [ho2] at hdy; cases hdy
        | some o2 =>
          rw [ho1] at hdx; rw [ho2] at hdy
          have := (hg.good x.1 o1 ho1).dst t hdx y.1 o2 ho2 hdy
          have h2 := ord_unique (ms := ms) _ hg.ord x.1 x.2 y.2 hx (by rw [← this]; exact hy)
          exact Prod.ext this.symm h2
    by_cases hd : dstOf ops i = some t
    · rw [if_pos ⟨hd, htn⟩]
      exact env_some _ _ hn htn (fun y hy _ hdy => by rw [hdst y (i, ac) hy hmem hdy hd]) (.inr ⟨(i, ac), hmem, by rw [hL, if_pos rfl], hd⟩)
    · rw [if_neg (fun e => hd e.1)]
      by_cases hx : ∃ x ∈ tr, L x.1 = true ∧ dstOf ops x.1 = some t
      · obtain ⟨x, hx, hLx, hdx⟩ := hx
        rw [env_some (v := x.2.val) _ _ hn htn (fun y hy _ hdy => by rw [hdst y x hy hx hdy hdx]) (.inr ⟨x, hx, by rw [hL]; split <;> first | rfl | exact hLx, hdx⟩)]
        rw [env_some (v := x.2.val) _ _ hn htn (fun y hy _ hdy => by rw [hdst y x hy hx hdy hdx]) (.inr ⟨x, hx, hLx, hdx⟩)]
      · rw [env_none _ _ hn (fun y hy hLy hdy => ?_), env_none _ _ hn (fun y hy hLy hdy => hx ⟨y, hy, hLy, hdy⟩)]
        rw [hL] at hLy
        by_cases e : y.1 = i
        · rw [e] at hdy; exact hd hdy
        · rw [if_neg e] at hLy; exact hx ⟨y, hy, hLy, hdy⟩
  · rw [env_out _ _ hn htn, if_neg (fun e => htn e.2), env_out _ _ hn htn]

/-- The value of a reading operation at a stage. -/
theorem stage_here {ms : List Nat} {T : Tm} {i : Nat} {o : Oper} {v : Value} {H0 : AH} {tr : List (Nat × Ac)} (h : stageOk P ms T i o v H0 tr = true) {pre post : List (Nat × Ac)} {Hm : AH} (hs : tr = pre ++ post)
    (hst : (pre = [] ∧ Hm = H0) ∨ ∃ p e u, pre = p ++ [(e, .ef u Hm)]) (h1 : ∀ e u H1, (e, Ac.ef u H1) ∈ pre → (ms.getD e 0).testBit i = false)
    (h2 : ∀ e u H1, (e, Ac.ef u H1) ∈ post → (ms.getD i 0).testBit e = false) : hereOk P Hm T o v = true := by
  have hany : ∀ l : List (Nat × Ac), (∀ e u H1, (e, Ac.ef u H1) ∈ l → (ms.getD i 0).testBit e = false) → l.any (waitsFor ms i) = false := fun l hl => by
    rw [List.any_eq_false]
    rintro ⟨e, ac⟩ hx
    cases ac with
    | ef u H1 => simp only [waitsFor]; rw [hl e u H1 hx]; simp
    | _ => simp [waitsFor]
  have hgo : ∀ (p : List (Nat × Ac)) (e : Nat) (u : Value), stageOk.go P ms T i o v (p ++ (e, .ef u Hm) :: post) = true → (∀ e' u' H1, (e', Ac.ef u' H1) ∈ p ++ [(e, .ef u Hm)] → (ms.getD e' 0).testBit i = false) → hereOk P Hm T o v = true := by
    intro p
    induction p with
    | nil =>
      intro e u hg hp
      have he := hp e u Hm (by simp)
      simp only [List.nil_append, stageOk.go, he, Bool.false_or, Bool.and_eq_true, Bool.or_eq_true] at hg
      rw [hany post h2] at hg
      simpa using hg.1
    | cons x p ih =>
      intro e u hg hp
      obtain ⟨e', ac⟩ := x
      have hp' : ∀ e' u' H1, (e', Ac.ef u' H1) ∈ p ++ [(e, .ef u Hm)] → (ms.getD e' 0).testBit i = false := fun e' u' H1 hm => hp e' u' H1 (List.mem_cons_of_mem _ hm)
      cases ac with
      | ef u' H1 =>
        have hne := hp e' u' H1 List.mem_cons_self
        simp only [List.cons_append, stageOk.go, hne, Bool.false_or, Bool.and_eq_true] at hg
        exact ih e u hg.2 hp'
      | skip => simp only [List.cons_append, stageOk.go] at hg; exact ih e u hg hp'
      | pu _ => simp only [List.cons_append, stageOk.go] at hg; exact ih e u hg hp'
      | al _ _ => simp only [List.cons_append, stageOk.go] at hg; exact ih e u hg hp'
  unfold stageOk at h
  simp only [Bool.and_eq_true, Bool.or_eq_true] at h
  rcases hst with ⟨rfl, rfl⟩ | ⟨p, e, u, rfl⟩
  · rw [List.nil_append] at hs
    subst hs
    rw [hany tr h2] at h
    simpa using h.1
  · subst hs
    rw [List.append_assoc] at h
    exact hgo p e u h.2 h1

theorem hereOk_eq {H : AH} {T : Tm} {o : Oper} {v : Value} (h : hereOk P H T o v = true) : apure P H T o = some v := by
  have hs := comp_spec P o
  unfold hereOk at h
  split at h
  · rename_i u hu
    split at hu
    · rename_i f hf
      rw [hf] at hs
      rw [hs.2] at hu
      rw [hu, veq_eq h]
    · cases hu
  · cases h

/-- What the check of the whole trace says of one operation. -/
theorem traceOk_at {ms : List Nat} {H0 : AH} {tr0 : List (Nat × Ac)} : ∀ (p : List (Nat × Ac)) (q : List (Nat × Ac)) (i : Nat) (v : Value) (T : Tm), traceOk P ops ms H0 tr0 T (p ++ (i, .pu v) :: q) = true →
    ∃ o, ops[i]? = some o ∧ (readsHeap o.op = false ∨ stageOk P ms (env ops T (fun _ => true) p) i o v H0 tr0 = true)
  | [], q, i, v, T, h => by
    simp only [List.nil_append, traceOk] at h
    split at h
    · rename_i o ho
      simp only [Bool.and_eq_true, Bool.or_eq_true, Bool.not_eq_true'] at h
      exact ⟨o, ho, h.1⟩
    · cases h
  | (j, ac) :: p, q, i, v, T, h => by
    simp only [List.cons_append, traceOk] at h
    split at h
    · rename_i o ho
      simp only [Bool.and_eq_true] at h
      have := traceOk_at p q i v _ h.2
      simpa [env, dstOf, ho] using this
    · cases h
end
end Go.Vi
