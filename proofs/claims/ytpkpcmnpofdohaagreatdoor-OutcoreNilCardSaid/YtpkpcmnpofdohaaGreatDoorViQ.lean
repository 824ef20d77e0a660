/- A part of the proof that sparselaw34.OutcoreNil answers true at every input: an evaluator of Go code over an abstract heap, and that it is right. -/
import Derived.Test.YtpkpcmnpofdohaaGreatDoorViP
/-! The evaluator is right: a region whose order is open: one more operation. -/
namespace Go.Vi
open Go

section
variable {P : Program} {N : Nat} {call : CallF} {ops : Array Oper}

theorem run_loud {T T' : Tm} {H H' : AH} {tr : List (Nat × Ac)} (h : Run P call ops T H tr T' H') : (∀ e v H1, (e, Ac.ef v H1) ∈ tr → ∃ o, ops[e]? = some o ∧ isLoud o = true) ∧
    (∀ e f id, (e, Ac.al f id) ∈ tr → ∃ o, ops[e]? = some o ∧ isAlloc o = true) := by
  induction h with
  | nil => exact ⟨fun e v H1 hm => by simp at hm, fun e f id hm => by simp at hm⟩
  | skip _ _ _ ih => exact ⟨fun e v H1 hm => ih.1 e v H1 (by simpa using hm), fun e f id hm => ih.2 e f id (by simpa using hm)⟩
  | pu _ _ _ _ _ ih => exact ⟨fun e v H1 hm => ih.1 e v H1 (by simpa using hm), fun e f id hm => ih.2 e f id (by simpa using hm)⟩
  | al ho hw hc hf ha _ ih =>
    refine ⟨fun e v H1 hm => ih.1 e v H1 (by simpa using hm), fun e f id hm => ?_⟩
    rcases List.mem_cons.1 hm with hm | hm
    · cases hm; exact ⟨_, ho, by unfold isAlloc; rw [hc]⟩
    · exact ih.2 e f id hm
  | ef ho hw hl hs _ ih =>
    refine ⟨fun e v H1 hm => ?_, fun e f id hm => ih.2 e f id (by simpa using hm)⟩
    rcases List.mem_cons.1 hm with hm | hm
    · cases hm; exact ⟨_, ho, hl⟩
    · exact ih.1 e v H1 hm

/-- A block that is not the evaluator's yet. -/
theorem HRel.other {G : Nat} {ρ : Rm} {H : AH} {w : World} (hr : HRel N G ρ H w) {id : Nat} (r : Rn) (obj : Obj) (hid : ρ id = none) (hge : H.next ≤ id) :
    HRel N G (upd ρ id r) H (w.alloc obj) ∧ ∀ k, Owned (upd ρ id r) H k → Owned ρ H k := by
  have hle := upd_rle r hid
  have hown : ∀ j, H.own j → j ≠ id := by
    rintro j (⟨x, hx, _⟩ | ⟨m, hm⟩)
    · have := hr.oldC j x hx; omega
    · have := hr.oldM j m hm; omega
  refine ⟨⟨hr.lim, hr.glo, hr.oldC, hr.oldM, fun j x hx => ?_, fun j m hm => ?_, fun i j s t hi hj hs ht => ?_, fun g hg => ?_, by rw [alloc_size]; have := hr.below; omega⟩, ?_⟩
  · obtain ⟨s, h1, h2⟩ := hr.cells j x hx
    exact ⟨s, hle j s h1, h2.later hle (alloc_heap_old w _ h2.lt)⟩
  · obtain ⟨s, h1, h2⟩ := hr.maps j m hm
    exact ⟨s, hle j s h1, h2.later hle (alloc_heap_old w _ h2.lt)⟩
  · rw [upd_ne ρ r (hown i hi)] at hs
    rw [upd_ne ρ r (hown j hj)] at ht
    exact hr.inj i j s t hi hj hs ht
  · obtain ⟨s, h1, h2⟩ := hr.glob g hg
    exact ⟨s, hle g s h1, h2⟩
  · rintro k ⟨j, s, hj, hs, rfl⟩
    rw [upd_ne ρ r (hown j hj)] at hs
    exact ⟨j, s, hj, hs, rfl⟩

theorem inv_step (hcall : CallOk P N call) (hnext : CallNext call) {ms : List Nat} {ρ0 : Rm} {T0 : Tm} {H0 : AH} {w0 : World} {T' : Tm} {H' : AH} {tr : List (Nat × Ac)} {ds : List Deferred}
    (hg : PlanGood ops ms (tr.map (·.1))) (htrace : traceOk P ops ms H0 tr T0 tr = true) (hn : T0.n ≤ 65000) (hfree : Free ρ0 H0 H') (hN : N ≤ w0.heap.size)
    {listed : Array Bool} {a : Act} {w : World} {pre post : List (Nat × Ac)} {T1 : Tm} {Hm : AH} {ρ : Rm} (inv : Inv P N call ops ρ0 T0 H0 w0 T' H' tr ds listed a w pre post T1 Hm ρ)
    {i : Nat} (hi : i ∈ Region.ready .any ops listed) {K : Act → World → Prop} {Q : Exit → Act → World → Prop}
    (hK : ∀ a' w' pre post T1 Hm ρ, Inv P N call ops ρ0 T0 H0 w0 T' H' tr ds (listed.setIfInBounds i true) a' w' pre post T1 Hm ρ → K a' w') : wpOp P ops Q i K a w := by
  rw [mem_ready] at hi
  obtain ⟨hi0, o, ho, hdir⟩ := hi
  have hisz : i < listed.size := by rw [inv.lsize]; exact (Array.getElem?_eq_some_iff.1 ho).1
  have hLi : Lb listed i = false := by
    unfold Lb
    simp [hisz] at hi0 ⊢
    exact hi0
  have hmask : ∀ j, (ms.getD i 0).testBit j = true → Lb listed j = true := fun j hj => masks_listed inv.closed i o ho hdir j (by rw [← hg.eq]; exact hj)
  have hsucc : ∀ j, Lb listed j = true → (ms.getD j 0).testBit i = false := fun j hj => by
    cases hb : (ms.getD j 0).testBit i with
    | false => rfl
    | true =>
      have hjs : j < ops.size := by
        rw [← inv.lsize]
        rcases Nat.lt_or_ge j listed.size with h | h
        · exact h
        · unfold Lb at hj; simp [Array.getElem?_eq_none h] at hj
      have hoj : ops[j]? = some ops[j] := Array.getElem?_eq_getElem hjs
      have := masks_listed inv.closed j _ hoj (fun e he hb' => inv.closed j _ hoj hj e he hb') i (by rw [← hg.eq]; exact hb)
      rw [hLi] at this; cases this
  obtain ⟨x, hx, hxi⟩ := List.mem_map.1 (hg.all i (by rw [← inv.lsize]; exact hisz))
  obtain ⟨i', ac⟩ := x
  simp only at hxi
  subst hxi
  have hL' : ∀ j, Lb (listed.setIfInBounds i' true) j = if j = i' then true else Lb listed j := Lb_set hisz
  have hmono : ∀ j, Lb listed j = true → Lb (listed.setIfInBounds i' true) j = true := fun j hj => by rw [hL']; split <;> first | rfl | exact hj
  have hclosed' : Closed ops (fun j => Lb (listed.setIfInBounds i' true) j = true) := fun j oj hoj hj e he hb => by
    simp only [hL'] at hj
    by_cases e1 : j = i'
    · subst e1
      rw [ho] at hoj; cases hoj
      exact hmono _ (hdir e he hb)
    · rw [if_neg e1] at hj
      exact hmono _ (inv.closed j oj hoj hj e he hb)
  have huniq : ∀ b, (i', b) ∈ tr → b = ac := fun b hb => ord_unique (ms := ms) tr hg.ord i' b ac hb hx
  have hdo : dstOf ops i' = o.dst := by simp [dstOf, ho]
  have henv : ∀ ρ' x', Rle ρ ρ' → VRel ρ' ac.val x' → TRel ρ' (env ops T0 (Lb (listed.setIfInBounds i' true)) tr) (a.put o.dst x').tmps := fun ρ' x' hle hv => by
    have h1 := putT_rel (dst := o.dst) (inv.env.mono hle) hv
    refine h1.same (by rw [env_n, putT_n, env_n]) (fun t => ?_)
    rw [env_put hg hn hx hL' t, hdo]
  -- what the evaluator has at the operation's operands
  have hopd : ∀ p q, tr = p ++ (i', ac) :: q → Same o (env ops T0 (Lb listed) tr) (env ops T0 (fun _ => true) p) ∧ awanted ops (env ops T0 (fun _ => true) p) o = Region.wanted o (yielded ops a.tmps) := fun p q hpq => by
    have hg2 : PlanGood ops ms ((p ++ (i', ac) :: q).map (·.1)) := by rw [← hpq]; exact hg
    refine ⟨fun t ht => ?_, ?_⟩
    · rw [hpq]
      exact agree hg2 hn hLi hmask hsucc (fun j o' ho' hd => (hg.good i' o ho).reads t ht j o' ho' hd)
    · rw [← awanted_eq inv.env o]
      unfold awanted
      cases hgd : o.guard with
      | none => rfl
      | some gw =>
        obtain ⟨g, want⟩ := gw
        simp only
        cases hd : (ops[g]?).bind (·.dst) with
        | none => rfl
        | some t =>
          simp only
          rw [hpq, agree hg2 hn hLi hmask hsucc (fun j o' ho' hd' => (hg.good i' o ho).guard g want t hgd hd j o' ho' hd')]
  -- an operation that makes and changes nothing
  have hquiet : (∀ v H1, ac ≠ .ef v H1) → (∀ f id, ac ≠ .al f id) → ∀ x', VRel ρ ac.val x' → K (a.put o.dst x') w := fun hne hna x' hv =>
    hK _ _ pre post T1 Hm ρ
    { split := inv.split, run1 := inv.run1, run2 := inv.run2, stage := inv.stage
      preEf := fun j v H1 hm => hmono j (inv.preEf j v H1 hm)
      preAl := fun j f id hm => hmono j (inv.preAl j f id hm)
      postEf := fun j v H1 hm => by
        rw [hL']
        by_cases e : j = i'
        · subst e
          exact absurd (huniq _ (by rw [inv.split]; exact List.mem_append_right _ hm)).symm (hne v H1)
        · rw [if_neg e]; exact inv.postEf j v H1 hm
      rel := inv.rel, ext0 := inv.ext0
      extH := fun k hk => (inv.extH k hk).imp (fun ⟨j, f, a, b⟩ => ⟨j, f, a, hmono j b⟩) id
      pend := fun j f id hm hl => by
        rw [hL'] at hl
        by_cases e : j = i'
        · subst e
          exact absurd (huniq _ (by rw [inv.split]; exact List.mem_append_right _ hm)).symm (hna f id)
        · rw [if_neg e] at hl; exact inv.pend j f id hm hl
      pendInj := fun j f id j' g id' r r' hm hl hm' hl' => by
        rw [hL'] at hl hl'
        by_cases e : j = i'
        · subst e
          exact absurd (huniq _ (by rw [inv.split]; exact List.mem_append_right _ hm)).symm (hna f id)
        · by_cases e' : j' = i'
          · subst e'
            exact absurd (huniq _ (by rw [inv.split]; exact List.mem_append_right _ hm')).symm (hna g id')
          · rw [if_neg e] at hl; rw [if_neg e'] at hl'
            exact inv.pendInj j f id j' g id' r r' hm hl hm' hl'
      size := inv.size, frame := inv.frame, own := inv.own, os := inv.os, tape := inv.tape, output := inv.output
      env := henv ρ x' (Rle.refl ρ) hv
      defers := (put_defers _ _ _).trans inv.defers
      closed := hclosed', lsize := by simpa using inv.lsize }
  unfold wpOp
  simp only [ho]
  have hrun : Run P call ops T0 H0 tr T' H' := by rw [inv.split]; exact run_join inv.run1 inv.run2
  cases ac with
  | skip =>
    obtain ⟨p, q, hpq⟩ := List.append_of_mem hx
    obtain ⟨h1, h2⟩ := hopd p q hpq
    rw [hpq] at hrun
    obtain ⟨Ti, Hi, r1, r2⟩ := run_split p _ hrun
    have hTi := run_env r1
    subst hTi
    cases r2 with
    | skip ho' hw' _ =>
      rw [ho] at ho'; cases ho'
      rw [← h2, hw', if_neg (by decide)]
      exact hquiet (fun v H1 e => by cases e) (fun f id e => by cases e) undef (undef_rel ρ)
  | pu v =>
    obtain ⟨p, q, hpq⟩ := List.append_of_mem hx
    obtain ⟨h1, h2⟩ := hopd p q hpq
    have htr := traceOk_at p q i' v T0 (by rw [← hpq]; exact htrace)
    rw [hpq] at hrun
    obtain ⟨Ti, Hi, r1, r2⟩ := run_split p _ hrun
    have hTi := run_env r1
    subst hTi
    cases r2 with
    | pu ho' hw' hc hv _ =>
      rw [ho] at ho'; cases ho'
      rw [← h2, hw', if_pos rfl]
      obtain ⟨o2, ho2, hrd⟩ := htr
      rw [ho] at ho2; cases ho2
      have hvm : apure P Hm (env ops T0 (fun _ => true) p) o = some v := by
        rcases hrd with hrd | hrd
        · rw [apure_heap (H2 := Hi) hrd]; exact hv
        · refine hereOk_eq (stage_here hrd inv.split inv.stage (fun e u H1 hm => hsucc e (inv.preEf e u H1 hm)) (fun e u H1 hm => ?_))
          cases hb : (ms.getD i' 0).testBit e with
          | false => rfl
          | true => have := hmask e hb; rw [inv.postEf e u H1 hm] at this; cases this
      rw [← apure_same h1] at hvm
      obtain ⟨x', hrel, hex⟩ := apure_sound inv.rel inv.env hvm
      left
      unfold Oper.wp
      rw [hex]
      exact hquiet (fun v H1 e => by cases e) (fun f id e => by cases e) x' hrel
  | al f id =>
    have hpost : (i', Ac.al f id) ∈ post := by
      have hx' := hx
      rw [inv.split] at hx'
      rcases List.mem_append.1 hx' with h | h
      · have := inv.preAl i' f id h; rw [hLi] at this; cases this
      · exact h
    obtain ⟨p, q, hpq⟩ := List.append_of_mem hx
    obtain ⟨h1, h2⟩ := hopd p q hpq
    rw [hpq] at hrun
    obtain ⟨Ti, Hi, r1, r2⟩ := run_split p _ hrun
    have hTi := run_env r1
    subst hTi
    cases r2 with
    | al ho' hw' hc hfr ha _ =>
      rw [ho] at ho'; cases ho'
      rw [← h2, hw', if_pos rfl]
      rw [← aalloc_same h1] at hfr
      obtain ⟨obj, hok, hex⟩ := aalloc_sound inv.rel inv.env hfr
      obtain ⟨hid1, hid2⟩ := run_ids hnext inv.run2 i' f id hpost
      have hH0 := run_next hnext inv.run1
      have hinj := run_ids_inj hnext inv.run2
      have hidn : ρ id = none := by
        rcases inv.extH id hid1 with ⟨j, g, hm, hl⟩ | h
        · have := (hinj j g i' f id hm hpost).1
          subst this
          rw [hLi] at hl; cases hl
        · rw [h]; exact hfree id (by omega) hid2
      obtain ⟨hrel', hown'⟩ := HRel.other inv.rel (rnOf w.heap.size obj) obj hidn hid1
      have hle := upd_rle (rnOf w.heap.size obj) hidn
      have hval : VRel (upd ρ id (rnOf w.heap.size obj)) (f.val id) (f.val w.heap.size) := fresh_rel (hok.mono hle) (upd_same _ _ _) (rnOf_blk _ _) (rnOf_off _ _)
      have hsz := alloc_size w obj
      left
      unfold Oper.wp
      rw [hex]
      refine hK _ _ pre post T1 Hm (upd ρ id (rnOf w.heap.size obj))
        { split := inv.split, run1 := inv.run1, run2 := inv.run2, stage := inv.stage
          preEf := fun j v H1 hm => hmono j (inv.preEf j v H1 hm)
          preAl := fun j f id hm => hmono j (inv.preAl j f id hm)
          postEf := fun j v H1 hm => by
            rw [hL']
            by_cases e : j = i'
            · subst e
              have := huniq _ (by rw [inv.split]; exact List.mem_append_right _ hm)
              cases this
            · rw [if_neg e]; exact inv.postEf j v H1 hm
          rel := hrel'
          ext0 := fun k hk => by rw [upd_ne ρ _ (by omega)]; exact inv.ext0 k hk
          extH := fun k hk => by
            by_cases e : k = id
            · subst e; exact .inl ⟨i', f, hpost, by rw [hL', if_pos rfl]⟩
            · rw [upd_ne ρ _ e]
              exact (inv.extH k hk).imp (fun ⟨j, f, a, b⟩ => ⟨j, f, a, hmono j b⟩) (fun h => h)
          pend := fun j g id' hm hl => by
            rw [hL'] at hl
            by_cases e : j = i'
            · subst e
              have := huniq _ (by rw [inv.split]; exact List.mem_append_right _ hm)
              cases this
              refine ⟨w.heap.size, obj, alloc_heap_new w obj, hok.mono hle, upd_same _ _ _, inv.size, fun ho' => ?_⟩
              have := (Owned.ge inv.rel (hown' _ ho')).2
              omega
            · rw [if_neg e] at hl
              obtain ⟨b, obj', q1, q2, q3, q4, q5⟩ := inv.pend j g id' hm hl
              have hne : id' ≠ id := fun e' => by subst e'; exact e (hinj j g i' f id' hm hpost).1
              exact ⟨b, obj', by rw [alloc_heap_old w obj (Array.getElem?_eq_some_iff.1 q1).1]; exact q1, q2.mono hle, by rw [upd_ne ρ _ hne]; exact q3, q4, fun ho' => q5 (hown' b ho')⟩
          pendInj := fun j g id1 j' g' id2 r r' hm hl hm' hl' hr hr' he => by
            rw [hL'] at hl hl'
            have hold : ∀ j g id1 r, (j, Ac.al g id1) ∈ post → j ≠ i' → Lb listed j = true → upd ρ id (rnOf w.heap.size obj) id1 = some r → ρ id1 = some r ∧ r.blk < w.heap.size := fun j g id1 r hm e hl hr => by
              have hne : id1 ≠ id := fun e' => by subst e'; exact e (hinj j g i' f id1 hm hpost).1
              rw [upd_ne ρ _ hne] at hr
              obtain ⟨b, obj', q1, q2, q3, q4, q5⟩ := inv.pend j g id1 hm hl
              rw [hr] at q3; cases q3
              exact ⟨hr, by rw [rnOf_blk]; exact (Array.getElem?_eq_some_iff.1 q1).1⟩
            by_cases e : j = i' <;> by_cases e' : j' = i'
            · subst e; subst e'
              have h3 := huniq _ (by rw [inv.split]; exact List.mem_append_right _ hm)
              have h4 := huniq _ (by rw [inv.split]; exact List.mem_append_right _ hm')
              cases h3; cases h4; rfl
            · subst e
              have h3 := huniq _ (by rw [inv.split]; exact List.mem_append_right _ hm)
              cases h3
              rw [upd_same] at hr; cases hr
              rw [if_neg e'] at hl'
              have := (hold j' g' id2 r' hm' e' hl' hr').2
              rw [rnOf_blk] at he; omega
            · subst e'
              have h3 := huniq _ (by rw [inv.split]; exact List.mem_append_right _ hm')
              cases h3
              rw [upd_same] at hr'; cases hr'
              rw [if_neg e] at hl
              have := (hold j g id1 r hm e hl hr).2
              rw [rnOf_blk] at he; omega
            · rw [if_neg e] at hl; rw [if_neg e'] at hl'
              exact inv.pendInj j g id1 j' g' id2 r r' hm hl hm' hl' (hold j g id1 r hm e hl hr).1 (hold j' g' id2 r' hm' e' hl' hr').1 he
          size := by have := inv.size; omega
          frame := fun k hk hno => by
            have := inv.size
            rw [alloc_heap_old w obj (by omega)]; exact inv.frame k hk hno
          own := fun k hk => inv.own k (hown' k hk)
          os := inv.os, tape := inv.tape, output := inv.output
          env := henv _ _ hle hval
          defers := (put_defers _ _ _).trans inv.defers
          closed := hclosed', lsize := by simpa using inv.lsize }
  | ef v H1 =>
    have hpost : (i', Ac.ef v H1) ∈ post := by
      have hx' := hx
      rw [inv.split] at hx'
      rcases List.mem_append.1 hx' with h | h
      · have := inv.preEf i' v H1 h; rw [hLi] at this; cases this
      · exact h
    obtain ⟨mid, post2, hmp⟩ := List.append_of_mem hpost
    have hpq : tr = (pre ++ mid) ++ (i', .ef v H1) :: post2 := by rw [inv.split, hmp, List.append_assoc]
    obtain ⟨h1, h2⟩ := hopd _ _ hpq
    have hr2 := inv.run2
    rw [hmp] at hr2
    obtain ⟨Tj, Hj, rm, r2⟩ := run_split mid _ hr2
    have hTj := run_env (run_join inv.run1 rm)
    subst hTj
    cases r2 with
    | ef ho' hw' hl hs r3 =>
      rw [ho] at ho'; cases ho'
      rw [← h2, hw', if_pos rfl]
      obtain ⟨hq, hp⟩ := ord_later (ms := ms) (pre ++ mid) post2 i' (.ef v H1) (by rw [← hpq]; exact hg.ord)
      have hloud := run_loud rm
      have hmidEf : ∀ j u H2, (j, Ac.ef u H2) ∉ mid := fun j u H2 hm => by
        obtain ⟨oj, hoj, hlj⟩ := hloud.1 j u H2 hm
        have hb := (hp (j, .ef u H2) (List.mem_append_right _ hm)).2.2 oj o hoj ho hl (.inl hlj)
        have := hmask j hb
        rw [inv.postEf j u H2 (by rw [hmp]; exact List.mem_append_left _ hm)] at this; cases this
      have hmidAl : ∀ j f id, (j, Ac.al f id) ∈ mid → Lb listed j = true := fun j f id hm => by
        obtain ⟨oj, hoj, hlj⟩ := hloud.2 j f id hm
        exact hmask j ((hp (j, .al f id) (List.mem_append_right _ hm)).2.2 oj o hoj ho hl (.inr hlj))
      have hin : ∀ x, x ∈ mid → x ∈ post := fun x hx => by rw [hmp]; exact List.mem_append_left _ hx
      have hin2 : ∀ x, x ∈ post2 → x ∈ post := fun x hx => by rw [hmp]; exact List.mem_append_right _ (List.mem_cons_of_mem _ hx)
      obtain ⟨hrelj, hownj⟩ := incorp hnext hN rm inv.rel hmidEf (fun j f id hm => inv.pend j f id (hin _ hm) (hmidAl j f id hm))
        (fun j f id j' g id' r r' hm hm' => inv.pendInj j f id j' g id' r r' (hin _ hm) (hmidAl j f id hm) (hin _ hm') (hmidAl j' g id' hm'))
      have hmn := run_next hnext rm
      have hsn := astep_next hnext hs
      have h3n := run_next hnext r3
      have h0n := run_next hnext inv.run1
      have hids1 := run_ids hnext rm
      have hids2 := run_ids hnext r3
      have hlater : ∀ k, Hj.next ≤ k → (∃ j f, (j, Ac.al f k) ∈ post2 ∧ Lb listed j = true) ∨ ρ k = ρ0 k := fun k hk => by
        rcases inv.extH k (by omega) with ⟨j, f, hm, hl⟩ | h
        · rw [hmp] at hm
          rcases List.mem_append.1 hm with hm | hm
          · have := (hids1 j f k hm).2; omega
          · rcases List.mem_cons.1 hm with hm | hm
            · cases hm
            · exact .inl ⟨j, f, hm, hl⟩
        · exact .inr h
      have hfree' : Free ρ Hj H1 := fun k hk hk' => by
        rcases hlater k hk with ⟨j, f, hm, hl⟩ | h
        · have := (hids2 j f k hm).1; omega
        · rw [h]; exact hfree k (by omega) (by omega)
      have hs' : astep P call (env ops T0 (Lb listed) tr) Hj o = some (v, H1) := by rw [astep_same h1]; exact hs
      left
      refine astep_sound hcall hrelj inv.env hs' hfree' (fun ρ' x' w' hv hp' => ?_)
      have hle := hp'.rle hfree'
      have hne2 : ∀ j b, (j, b) ∈ post2 → j ≠ i' := fun j b hm => (hq (j, b) hm).1
      have hLeq : ∀ j b, (j, b) ∈ post2 → Lb (listed.setIfInBounds i' true) j = Lb listed j := fun j b hm => by rw [hL', if_neg (hne2 j b hm)]
      have hnotj : ∀ j g id', (j, Ac.al g id') ∈ post2 → Lb listed j = true → ∀ b obj, ρ id' = some (rnOf b obj) → ¬ Owned ρ Hm b → ¬ Owned ρ Hj b := fun j g id' hm hl b obj hid hno ho' => by
        rcases hownj b ho' with h | ⟨j2, f2, id2, r2, hm2, hr2, hb2⟩
        · exact hno h
        · have e := inv.pendInj j2 f2 id2 j g id' r2 _ (hin _ hm2) (hmidAl j2 f2 id2 hm2) (hin2 _ hm) hl hr2 hid (by rw [rnOf_blk]; exact hb2)
          have h5 := (hids1 j2 f2 id2 hm2).2
          have h6 := (hids2 j g id' hm).1
          omega
      have hfrom : ∀ k, Owned ρ Hj k → Owned ρ0 H0 k ∨ w0.heap.size ≤ k := fun k hk => by
        rcases hownj k hk with h | ⟨j2, f2, id2, r2, hm2, hr2, hb2⟩
        · exact inv.own k h
        · obtain ⟨b, obj', q1, q2, q3, q4, q5⟩ := inv.pend j2 f2 id2 (hin _ hm2) (hmidAl j2 f2 id2 hm2)
          rw [hr2] at q3; cases q3
          rw [rnOf_blk] at hb2
          exact .inr (by omega)
      have hws := inv.size
      exact hK _ _ (pre ++ mid ++ [(i', .ef v H1)]) post2 (putT (env ops T0 (fun _ => true) (pre ++ mid)) o.dst v) H1 ρ'
        { split := by rw [hpq]; simp
          run1 := run_join (run_join inv.run1 rm) (.ef ho hw' hl hs .nil)
          run2 := r3
          stage := .inr ⟨pre ++ mid, i', v, rfl⟩
          preEf := fun j u H2 hm => by
            rcases List.mem_append.1 hm with hm | hm
            · rcases List.mem_append.1 hm with hm | hm
              · exact hmono j (inv.preEf j u H2 hm)
              · exact absurd hm (hmidEf j u H2)
            · simp only [List.mem_singleton, Prod.mk.injEq] at hm
              rw [hL', if_pos hm.1]
          preAl := fun j f id hm => by
            rcases List.mem_append.1 hm with hm | hm
            · rcases List.mem_append.1 hm with hm | hm
              · exact hmono j (inv.preAl j f id hm)
              · exact hmono j (hmidAl j f id hm)
            · simp at hm
          postEf := fun j u H2 hm => by rw [hLeq j _ hm]; exact inv.postEf j u H2 (hin2 _ hm)
          rel := hp'.rel
          ext0 := fun k hk => by rw [hp'.ext k (.inl (by omega))]; exact inv.ext0 k hk
          extH := fun k hk => by
            rw [hp'.ext k (.inr hk)]
            exact (hlater k (by omega)).imp (fun ⟨j, f, a, b⟩ => ⟨j, f, a, hmono j b⟩) (fun h => h)
          pend := fun j g id' hm hl' => by
            rw [hLeq j _ hm] at hl'
            obtain ⟨b, obj', q1, q2, q3, q4, q5⟩ := inv.pend j g id' (hin2 _ hm) hl'
            have hlt := (Array.getElem?_eq_some_iff.1 q1).1
            have hnj := hnotj j g id' hm hl' b obj' q3 q5
            refine ⟨b, obj', by rw [hp'.frame b hlt hnj]; exact q1, q2.mono hle, by rw [hp'.ext id' (.inr (hids2 j g id' hm).1)]; exact q3, q4, fun ho' => ?_⟩
            rcases hp'.own b ho' with h | h
            · exact hnj h
            · omega
          pendInj := fun j g id1 j' g' id2 r r' hm hl1 hm' hl2 hr1 hr2 => by
            rw [hLeq j _ hm] at hl1
            rw [hLeq j' _ hm'] at hl2
            rw [hp'.ext id1 (.inr (hids2 j g id1 hm).1)] at hr1
            rw [hp'.ext id2 (.inr (hids2 j' g' id2 hm').1)] at hr2
            exact inv.pendInj j g id1 j' g' id2 r r' (hin2 _ hm) hl1 (hin2 _ hm') hl2 hr1 hr2
          size := by have := hp'.size; omega
          frame := fun k hk hno => by
            rw [hp'.frame k (by omega) (fun h => by rcases hfrom k h with h | h; exact hno h; omega)]
            exact inv.frame k hk hno
          own := fun k hk => by
            rcases hp'.own k hk with h | h
            · exact hfrom k h
            · exact .inr (by omega)
          os := hp'.os.trans inv.os, tape := hp'.tape.trans inv.tape, output := hp'.output.trans inv.output
          env := henv ρ' x' hle hv
          defers := (put_defers _ _ _).trans inv.defers
          closed := hclosed', lsize := by simpa using inv.lsize }
end
end Go.Vi
