/- A part of the proof that sparselaw34.OutcoreNil answers true at every input: an evaluator of Go code over an abstract heap, and that it is right. -/
import Derived.Test.YtpkpcmnpofdohaaGreatDoorViQ
/-! The evaluator is right: regions whose order is open; code; calls. -/
namespace Go.Vi
open Go

section
variable {P : Program} {N : Nat} {call : CallF} {ops : Array Oper}

theorem run_some {T T' : Tm} {H H' : AH} {tr : List (Nat × Ac)} (h : Run P call ops T H tr T' H') : ∀ x ∈ tr, ∃ o, ops[x.1]? = some o := by
  induction h with
  | nil => intro x hx; simp at hx
  | skip ho _ _ ih => intro x hx; rcases List.mem_cons.1 hx with rfl | hx; exact ⟨_, ho⟩; exact ih x hx
  | pu ho _ _ _ _ ih => intro x hx; rcases List.mem_cons.1 hx with rfl | hx; exact ⟨_, ho⟩; exact ih x hx
  | al ho _ _ _ _ _ ih => intro x hx; rcases List.mem_cons.1 hx with rfl | hx; exact ⟨_, ho⟩; exact ih x hx
  | ef ho _ _ _ _ ih => intro x hx; rcases List.mem_cons.1 hx with rfl | hx; exact ⟨_, ho⟩; exact ih x hx

/-- Where nothing is ready all is done. -/
theorem all_listed {ms : List Nat} {tr : List (Nat × Ac)} {listed : Array Bool} (hg : PlanGood ops ms (tr.map (·.1))) (hsome : ∀ x ∈ tr, ∃ o, ops[x.1]? = some o) (hsz : listed.size = ops.size)
    (hr : Region.ready .any ops listed = []) : ∀ (q p : List (Nat × Ac)), tr = p ++ q → (∀ x ∈ p, Lb listed x.1 = true) → ∀ x ∈ q, Lb listed x.1 = true
  | [], p, _, _, x, hx => by simp at hx
  | (i, ac) :: q, p, hpq, hp, x, hx => by
    have hLi : Lb listed i = true := by
      cases hL : Lb listed i with
      | true => rfl
      | false =>
        obtain ⟨o, ho⟩ := hsome (i, ac) (by rw [hpq]; simp)
        simp only at ho
        have hlt := (Array.getElem?_eq_some_iff.1 ho).1
        have hil : i < listed.size := by omega
        have hrd : i ∈ Region.ready .any ops listed := by
          rw [mem_ready]
          refine ⟨by unfold Lb at hL; simp [hil] at hL ⊢; exact hL, o, ho, fun e he hb => ?_⟩
          have hgo := hg.good i o ho
          have hon := hgo.edges e he
          have hbit : (ms.getD i 0).testBit e.on = true := by rw [hg.eq]; exact masks_direct ho he hb
          obtain ⟨y, hy, hye⟩ := List.mem_map.1 (hg.all e.on hon)
          rw [hpq] at hy
          have hlater := ord_later (ms := ms) p q i ac (by rw [← hpq]; exact hg.ord)
          rcases List.mem_append.1 hy with hy | hy
          · rw [← hye]; exact hp y hy
          · rcases List.mem_cons.1 hy with rfl | hy
            · simp only at hye
              rw [← hye, hgo.self] at hbit; cases hbit
            · have := (hlater.1 y hy).2.1
              rw [hye, hbit] at this; cases this
        rw [hr] at hrd; simp at hrd
    rcases List.mem_cons.1 hx with rfl | hx
    · exact hLi
    · refine all_listed hg hsome hsz hr q (p ++ [(i, ac)]) (by rw [hpq]; simp) (fun y hy => ?_) x hx
      rcases List.mem_append.1 hy with hy | hy
      · exact hp y hy
      · simp at hy; subst hy; exact hLi

theorem countP_lt {p q : Nat → Bool} : ∀ (l : List Nat), (∀ j, q j = true → p j = true) → ∀ i ∈ l, p i = true → q i = false → l.countP q < l.countP p
  | [], _, i, hi, _, _ => by simp at hi
  | x :: l, h, i, hi, hp, hq => by
    have hle : l.countP q ≤ l.countP p := List.countP_mono_left (fun y _ hy => h y hy)
    rcases List.mem_cons.1 hi with rfl | hi
    · rw [List.countP_cons, List.countP_cons, hp, hq]; simp; omega
    · have := countP_lt l h i hi hp hq
      rw [List.countP_cons, List.countP_cons]
      cases hqx : q x with
      | false => simp; split <;> omega
      | true => rw [h x hqx]; simp; omega

theorem env_false : ∀ (tr : List (Nat × Ac)) (T : Tm), env ops T (fun _ => false) tr = T
  | [], T => rfl
  | (i, ac) :: tr, T => by simp only [env]; exact env_false tr T

theorem adraw_next (hnext : CallNext call) {T T' : Tm} {H H' : AH} (h : adraw P call ops T H = some (T', H')) : H.next ≤ H'.next := by
  unfold adraw at h
  split at h
  case h_2 => cases h
  split at h
  case h_2 => cases h
  rename_i hd
  split at h
  case isFalse => cases h
  cases h
  exact run_next hnext (drun_run _ _ _ _ _ _ hd).1

theorem adraw_sound (hcall : CallOk P N call) (hnext : CallNext call) (hmix : P.follows .mixedOrders = true) {T T' : Tm} {H H' : AH} {ρ : Rm} {a : Act} {w : World} (h : adraw P call ops T H = some (T', H'))
    (hr : HRel N P.globals.size ρ H w) (ht : TRel ρ T a.tmps) (hf : Free ρ H H') {Q : Exit → Act → World → Prop} (id : Nat)
    (hQ : ∀ ρ' a' w', TRel ρ' T' a'.tmps → a'.defers = a.defers → Post N P.globals.size ρ H w ρ' H' w' → Q .normal a' w') : (Code.region id ops true).wp P Q a w := by
  unfold adraw at h
  split at h
  case h_2 => cases h
  rename_i ms ord hplan
  split at h
  case h_2 => cases h
  rename_i T1 H1 tr hd
  split at h
  case isFalse => cases h
  rename_i htrace
  cases h
  obtain ⟨hrun, hids⟩ := drun_run _ _ _ _ _ _ hd
  have hg := planOf_spec hplan
  rw [← hids] at hg
  have hsome := run_some hrun
  refine wp_region_any hmix ?_
  have hdr := Post.drew hr (w.drawn + 1)
  generalize hw0 : ({ w with drawn := w.drawn + 1 } : World) = w0 at hdr ⊢
  have hN := hdr.rel.below
  have key : ∀ (fuel : Nat) (listed : Array Bool) (a' : Act) (w' : World) pre post T1 Hm ρ', (List.range ops.size).countP (fun j => !Lb listed j) ≤ fuel →
      Inv P N call ops ρ T H w0 T' H' tr a.defers listed a' w' pre post T1 Hm ρ' → wpAny P .any ops Q fuel listed a' w' := by
    intro fuel
    have hend : ∀ (listed : Array Bool) (a' : Act) (w' : World) pre post T1 Hm ρ', Inv P N call ops ρ T H w0 T' H' tr a.defers listed a' w' pre post T1 Hm ρ' → Region.ready .any ops listed = [] → Q .normal a' w' := by
      intro listed a' w' pre post T1 Hm ρ' inv hrd
      have hall := all_listed hg hsome inv.lsize hrd tr [] rfl (fun x hx => by simp at hx)
      have hin : ∀ x, x ∈ post → x ∈ tr := fun x hx => by rw [inv.split]; exact List.mem_append_right _ hx
      have hnoef : ∀ i v H1, (i, Ac.ef v H1) ∉ post := fun i v H1 hm => by
        have h1 := inv.postEf i v H1 hm
        have h2 := hall _ (hin _ hm)
        simp only at h2
        rw [h1] at h2; cases h2
      obtain ⟨hrel, hown⟩ := incorp hnext hN inv.run2 inv.rel hnoef (fun i f id hm => inv.pend i f id hm (hall _ (hin _ hm)))
        (fun i f id j g id' r r' hm hm' => inv.pendInj i f id j g id' r r' hm (hall _ (hin _ hm)) hm' (hall _ (hin _ hm')))
      have hn1 := run_next hnext inv.run2
      refine hQ ρ' a' w' ?_ inv.defers (hdr.trans ⟨run_next hnext hrun, fun k hk => ?_, hrel, inv.size, inv.frame, fun k hk => ?_, inv.os, inv.tape, inv.output⟩)
      · rw [run_env hrun, ← env_congr tr T (fun x hx => hall x hx)]
        exact inv.env
      · rcases hk with hk | hk
        · exact inv.ext0 k hk
        · rcases inv.extH k (by omega) with ⟨i, f, hm, _⟩ | h
          · have := (run_ids hnext inv.run2 i f k hm).2; omega
          · exact h
      · rcases hown k hk with h | ⟨i, f, id, r, hm, hr1, hb⟩
        · exact inv.own k h
        · obtain ⟨b, obj, q1, q2, q3, q4, q5⟩ := inv.pend i f id hm (hall _ (hin _ hm))
          rw [hr1] at q3; cases q3
          rw [rnOf_blk] at hb
          exact .inr (by omega)
    induction fuel with
    | zero =>
      intro listed a' w' pre post T1 Hm ρ' hc inv
      have hrd : Region.ready .any ops listed = [] := by
        rw [List.eq_nil_iff_forall_not_mem]
        intro i hi
        rw [mem_ready] at hi
        obtain ⟨h0, o, ho, _⟩ := hi
        have hlt := (Array.getElem?_eq_some_iff.1 ho).1
        have hil : i < listed.size := by rw [inv.lsize]; exact hlt
        have hL : Lb listed i = false := by unfold Lb; simp [hil] at h0 ⊢; exact h0
        have : 0 < (List.range ops.size).countP (fun j => !Lb listed j) := List.countP_pos_iff.2 ⟨i, List.mem_range.2 hlt, by rw [hL]; rfl⟩
        omega
      exact ⟨hrd, hend _ _ _ _ _ _ _ _ inv hrd⟩
    | succ fuel ih =>
      intro listed a' w' pre post T1 Hm ρ' hc inv
      refine ⟨fun hrd => hend _ _ _ _ _ _ _ _ inv hrd, fun i hi => ?_⟩
      refine inv_step hcall hnext hg htrace ht.2.1 hf hN inv hi (fun a2 w2 pre2 post2 T2 H2 ρ2 inv2 => ?_)
      refine ih _ a2 w2 pre2 post2 T2 H2 ρ2 ?_ inv2
      rw [mem_ready] at hi
      obtain ⟨h0, o, ho, _⟩ := hi
      have hlt := (Array.getElem?_eq_some_iff.1 ho).1
      have hil : i < listed.size := by rw [inv.lsize]; exact hlt
      have hL : Lb listed i = false := by unfold Lb; simp [hil] at h0 ⊢; exact h0
      have := countP_lt (p := fun j => !Lb listed j) (q := fun j => !Lb (listed.setIfInBounds i true) j) (List.range ops.size) (fun j hj => by
        simp only [Lb_set hil] at hj
        by_cases e : j = i
        · rw [if_pos e] at hj; simp at hj
        · rw [if_neg e] at hj; exact hj) i (List.mem_range.2 hlt) (by simp [hL]) (by simp [Lb_set hil])
      omega
  refine key ops.size _ a w0 [] tr T H ρ (by have := List.countP_le_length (p := fun j => !Lb (Array.replicate ops.size false) j) (l := List.range ops.size); simpa using this) ?_
  have hLf : ∀ j, Lb (Array.replicate ops.size false) j = false := fun j => by
    unfold Lb
    simp [Array.getElem?_replicate]
    split <;> rfl
  exact
    { split := rfl, run1 := .nil, run2 := hrun, stage := .inl ⟨rfl, rfl⟩
      preEf := fun i v H1 hm => by simp at hm
      preAl := fun i f id hm => by simp at hm
      postEf := fun i v H1 _ => hLf i
      rel := hdr.rel, ext0 := fun _ _ => rfl, extH := fun _ _ => .inr rfl
      pend := fun i f id _ hl => by rw [hLf] at hl; cases hl
      pendInj := fun i f id j g id' r r' _ hl => by rw [hLf] at hl; cases hl
      size := Nat.le_refl _, frame := fun _ _ _ => rfl, own := fun _ h => .inl h, os := rfl, tape := rfl, output := rfl
      env := by rw [env_congr (L' := fun _ => false) tr T (fun x _ => hLf x.1), env_false]; exact ht
      defers := rfl
      closed := fun i o _ hl => by simp only [hLf] at hl; cases hl
      lsize := by simp }
end
end Go.Vi
