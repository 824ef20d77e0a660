/- A part of the proof that sparselaw34.OutcoreNil answers true at every input: an evaluator of Go code over an abstract heap, and that it is right. -/
import Derived.Test.YtpkpcmnpofdohaaGreatDoorViM
/-! The evaluator is right: a region whose order is open. -/
namespace Go.Vi
open Go

section
variable {P : Program} {N : Nat} {call : CallF} {ops : Array Oper}

/-- What a region comes to in the evaluator's order. -/
inductive Run (P : Program) (call : CallF) (ops : Array Oper) : Tm → AH → List (Nat × Ac) → Tm → AH → Prop where
  | nil {T : Tm} {H : AH} : Run P call ops T H [] T H
  | skip {i : Nat} {o : Oper} {T T' : Tm} {H H' : AH} {tr : List (Nat × Ac)} : ops[i]? = some o → awanted ops T o = false → Run P call ops (putT T o.dst undef) H tr T' H' →
      Run P call ops T H ((i, .skip) :: tr) T' H'
  | pu {i : Nat} {o : Oper} {v : Value} {T T' : Tm} {H H' : AH} {tr : List (Nat × Ac)} : ops[i]? = some o → awanted ops T o = true → clsOf o.op = .pure → apure P H T o = some v →
      Run P call ops (putT T o.dst v) H tr T' H' → Run P call ops T H ((i, .pu v) :: tr) T' H'
  | al {i id : Nat} {o : Oper} {f : Fresh} {T T' : Tm} {H H1 H' : AH} {tr : List (Nat × Ac)} : ops[i]? = some o → awanted ops T o = true → clsOf o.op = .alloc → aalloc P T o = some f →
      H.allocF f = some (id, H1) → Run P call ops (putT T o.dst (f.val id)) H1 tr T' H' → Run P call ops T H ((i, .al f id) :: tr) T' H'
  | ef {i : Nat} {o : Oper} {v : Value} {T T' : Tm} {H H1 H' : AH} {tr : List (Nat × Ac)} : ops[i]? = some o → awanted ops T o = true → isLoud o = true → astep P call T H o = some (v, H1) →
      Run P call ops (putT T o.dst v) H1 tr T' H' → Run P call ops T H ((i, .ef v H1) :: tr) T' H'

theorem drun_run : ∀ (l : List Nat) (T : Tm) (H : AH) (T' : Tm) (H' : AH) (tr : List (Nat × Ac)), drun P call ops l T H = some (T', H', tr) → Run P call ops T H tr T' H' ∧ tr.map (·.1) = l
  | [], T, H, T', H', tr, h => by
    simp only [drun, Option.some.injEq, Prod.mk.injEq] at h
    obtain ⟨rfl, rfl, rfl⟩ := h
    exact ⟨.nil, rfl⟩
  | i :: l, T, H, T', H', tr, h => by
    simp only [drun] at h
    split at h
    · cases h
    rename_i o ho
    have hs := comp_spec P o
    split at h
    · rename_i hw
      split at h
      · rename_i f hf
        rw [hf] at hs
        split at h
        case h_2 => cases h
        rename_i v hv
        split at h
        case h_2 => cases h
        rename_i T1 H1 tr1 hd
        cases h
        obtain ⟨h1, h2⟩ := drun_run l _ _ _ _ _ hd
        rw [hs.2] at hv
        exact ⟨.pu ho hw hs.1 hv h1, by simp [h2]⟩
      · rename_i f hf
        rw [hf] at hs
        split at h
        case h_2 => cases h
        rename_i fr hfr
        split at h
        case h_2 => cases h
        rename_i id H1 ha
        split at h
        case h_2 => cases h
        rename_i T1 H2 tr1 hd
        cases h
        obtain ⟨h1, h2⟩ := drun_run l _ _ _ _ _ hd
        rw [hs.2] at hfr
        exact ⟨.al ho hw hs.1 hfr ha h1, by simp [h2]⟩
      · rename_i hnp hna
        split at h
        case h_2 => cases h
        rename_i v H1 hst
        split at h
        case h_2 => cases h
        rename_i T1 H2 tr1 hd
        cases h
        obtain ⟨h1, h2⟩ := drun_run l _ _ _ _ _ hd
        have hl : isLoud o = true := by
          cases hc : comp P o with
          | pure f => exact absurd hc (hnp f)
          | alloc f => exact absurd hc (hna f)
          | eff f => rw [hc] at hs; unfold isLoud; rw [hs.1]; rfl
          | call f => rw [hc] at hs; unfold isLoud; rw [hs.1]; rfl
          | bad => simp only [astep, hc] at hst; cases hst
        exact ⟨.ef ho hw hl hst h1, by simp [h2]⟩
    · rename_i hw
      split at h
      case h_2 => cases h
      rename_i T1 H1 tr1 hd
      cases h
      obtain ⟨h1, h2⟩ := drun_run l _ _ _ _ _ hd
      exact ⟨.skip ho (by simpa using hw) h1, by simp [h2]⟩

/-! ### The plan -/
def OrdOk (ops : Array Oper) (ms : List Nat) : List Nat → Prop
  | [] => True
  | i :: is => (∀ j ∈ is, j ≠ i ∧ (ms.getD i 0).testBit j = false ∧
      ∀ a b, ops[i]? = some a → ops[j]? = some b → isLoud b = true → (isLoud a = true ∨ isAlloc a = true) → (ms.getD j 0).testBit i = true) ∧ OrdOk ops ms is

theorem orderOk_spec {ms : List Nat} : ∀ (l : List Nat), orderOk ops ms l = true → OrdOk ops ms l
  | [], _ => trivial
  | i :: is, h => by
    simp only [orderOk, Bool.and_eq_true, List.all_eq_true] at h
    refine ⟨fun j hj => ?_, orderOk_spec is h.2⟩
    obtain ⟨⟨h1, h2⟩, h3⟩ := h.1 j hj
    refine ⟨by simpa using h1, by simpa using h2, fun a b ha hb hl hla => ?_⟩
    rw [ha, hb] at h3
    simp only [Bool.or_eq_true, Bool.not_eq_true'] at h3
    rcases h3 with h3 | h3
    · rw [hl] at h3
      rcases hla with hla | hla <;> simp [hla] at h3
    · exact h3

/-- What the plan says of an operation. -/
structure OpGood (ops : Array Oper) (ms : List Nat) (i : Nat) (o : Oper) : Prop where
  edges : ∀ e ∈ o.after, e.on < ops.size
  self : (ms.getD i 0).testBit i = false
  reads : ∀ t ∈ tmpsOf o, ∀ j p, ops[j]? = some p → p.dst = some t → j = i ∨ (ms.getD i 0).testBit j = true ∨ (ms.getD j 0).testBit i = true
  guard : ∀ g want t, o.guard = some (g, want) → (ops[g]?).bind (·.dst) = some t → ∀ j p, ops[j]? = some p → p.dst = some t → j = i ∨ (ms.getD i 0).testBit j = true ∨ (ms.getD j 0).testBit i = true
  dst : ∀ d, o.dst = some d → ∀ j p, ops[j]? = some p → p.dst = some d → j = i

theorem writersOrd_spec {ms : List Nat} {i t : Nat} (h : writersOrd ops ms i t = true) : ∀ j p, ops[j]? = some p → p.dst = some t → j = i ∨ (ms.getD i 0).testBit j = true ∨ (ms.getD j 0).testBit i = true := by
  intro j p hp hd
  have hlt := (Array.getElem?_eq_some_iff.1 hp).1
  have := List.all_eq_true.1 h j (List.mem_range.2 hlt)
  rw [hp] at this
  simp only [hd, bne_self_eq_false, Bool.false_or, Bool.or_eq_true, beq_iff_eq] at this
  rcases this with (h | h) | h
  · exact .inl h
  · exact .inr (.inl h)
  · exact .inr (.inr h)

theorem opOk_spec {ms : List Nat} {i : Nat} (h : opOk ops ms i = true) : ∃ o, ops[i]? = some o ∧ OpGood ops ms i o := by
  unfold opOk at h
  split at h
  · cases h
  rename_i o ho
  simp only [Bool.and_eq_true] at h
  obtain ⟨⟨⟨⟨h1, h2⟩, h3⟩, h4⟩, h5⟩ := h
  refine ⟨o, ho, fun e he => ?_, by simpa using h2, fun t ht => writersOrd_spec (List.all_eq_true.1 h3 t ht), fun g want t hg ht => ?_, fun d hd j p hp hpd => ?_⟩
  · have := List.all_eq_true.1 h1 e (by simpa using he)
    simpa using this
  · rw [hg] at h4
    simp only at h4
    rw [ht] at h4
    exact writersOrd_spec h4
  · have hlt := (Array.getElem?_eq_some_iff.1 hp).1
    have := List.all_eq_true.1 h5 j (List.mem_range.2 hlt)
    rw [hp] at this
    simp only [Option.bind_some, hd, hpd, bne_self_eq_false, Bool.or_false, beq_iff_eq] at this
    exact this.symm

structure PlanGood (ops : Array Oper) (ms : List Nat) (ord : List Nat) : Prop where
  eq : ms = masks ops
  all : ∀ i, i < ops.size → i ∈ ord
  good : ∀ i o, ops[i]? = some o → OpGood ops ms i o
  ord : OrdOk ops ms ord

theorem planOf_spec {ms ord : List Nat} (h : planOf ops = some (ms, ord)) : PlanGood ops ms ord := by
  unfold planOf at h
  simp only at h
  split at h
  case isFalse => cases h
  rename_i hp
  cases h
  unfold planOk at hp
  simp only [Bool.and_eq_true, List.all_eq_true] at hp
  obtain ⟨⟨⟨_, h2⟩, h3⟩, h4⟩ := hp
  refine ⟨rfl, fun i hi => ?_, fun i o ho => ?_, orderOk_spec _ h4⟩
  · have := h2 i (List.mem_range.2 hi)
    simpa using this
  · have hlt := (Array.getElem?_eq_some_iff.1 ho).1
    obtain ⟨o', ho', hg⟩ := opOk_spec (h3 i (List.mem_range.2 hlt))
    rw [ho] at ho'; cases ho'
    exact hg

/-! ### The temporaries when some operations have been carried out -/
def dstOf (ops : Array Oper) (i : Nat) : Option Tmp := (ops[i]?).bind (·.dst)

noncomputable def env (ops : Array Oper) (T : Tm) (L : Nat → Bool) : List (Nat × Ac) → Tm
  | [] => T
  | (i, ac) :: tr => env ops (if L i then putT T (dstOf ops i) ac.val else T) L tr

theorem putT_n (T : Tm) (d : Option Tmp) (v : Value) : (putT T d v).n = T.n := by
  cases d with
  | none => rfl
  | some d => simp only [putT, Tm.set]; split <;> rfl

theorem putT_get {T : Tm} (hn : T.n ≤ 65000) (d : Option Tmp) (v : Value) (t : Nat) : (putT T d v).get t = if d = some t ∧ t < T.n then v else T.get t := by
  cases d with
  | none => simp [putT]
  | some d =>
    simp only [putT]
    rw [Tm.get_set hn]
    by_cases e : t = d
    · subst e; simp
    · have : ¬ (d = t) := fun h => e h.symm
      simp [e, this]

theorem env_n {L : Nat → Bool} : ∀ (tr : List (Nat × Ac)) (T : Tm), (env ops T L tr).n = T.n
  | [], T => rfl
  | (i, ac) :: tr, T => by
    simp only [env]
    rw [env_n tr]
    split
    · exact putT_n _ _ _
    · rfl

theorem env_none {L : Nat → Bool} {t : Nat} : ∀ (tr : List (Nat × Ac)) (T : Tm), T.n ≤ 65000 → (∀ x ∈ tr, L x.1 = true → dstOf ops x.1 ≠ some t) → (env ops T L tr).get t = T.get t
  | [], T, _, _ => rfl
  | (i, ac) :: tr, T, hn, h => by
    simp only [env]
    by_cases hL : L i = true
    · rw [if_pos hL, env_none tr _ (by rw [putT_n]; exact hn) (fun x hx => h x (by simp [hx])), putT_get hn, if_neg (fun e => h (i, ac) (by simp) hL e.1)]
    · rw [if_neg hL, env_none tr T hn (fun x hx => h x (by simp [hx]))]

theorem env_some {L : Nat → Bool} {t : Nat} {v : Value} : ∀ (tr : List (Nat × Ac)) (T : Tm), T.n ≤ 65000 → t < T.n → (∀ x ∈ tr, L x.1 = true → dstOf ops x.1 = some t → x.2.val = v) →
    (T.get t = v ∨ ∃ x ∈ tr, L x.1 = true ∧ dstOf ops x.1 = some t) → (env ops T L tr).get t = v
  | [], T, _, _, _, h => by
    rcases h with h | ⟨x, hx, _⟩
    · exact h
    · simp at hx
  | (i, ac) :: tr, T, hn, ht, hv, h => by
    simp only [env]
    by_cases hL : L i = true
    · rw [if_pos hL]
      refine env_some tr _ (by rw [putT_n]; exact hn) (by rw [putT_n]; exact ht) (fun x hx => hv x (by simp [hx])) ?_
      rw [putT_get hn]
      by_cases hd : dstOf ops i = some t
      · left; rw [if_pos ⟨hd, ht⟩]; exact hv (i, ac) (by simp) hL hd
      · rw [if_neg (fun e => hd e.1)]
        rcases h with h | ⟨x, hx, h1, h2⟩
        · exact .inl h
        · rcases List.mem_cons.1 hx with rfl | hx
          · exact absurd h2 hd
          · exact .inr ⟨x, hx, h1, h2⟩
    · rw [if_neg hL]
      refine env_some tr T hn ht (fun x hx => hv x (by simp [hx])) ?_
      rcases h with h | ⟨x, hx, h1, h2⟩
      · exact .inl h
      · rcases List.mem_cons.1 hx with rfl | hx
        · exact absurd h1 hL
        · exact .inr ⟨x, hx, h1, h2⟩

theorem env_append {L : Nat → Bool} : ∀ (a b : List (Nat × Ac)) (T : Tm), env ops T L (a ++ b) = env ops (env ops T L a) L b
  | [], b, T => rfl
  | (i, ac) :: a, b, T => by simp only [List.cons_append, env]; exact env_append a b _

theorem env_congr {L L' : Nat → Bool} : ∀ (tr : List (Nat × Ac)) (T : Tm), (∀ x ∈ tr, L x.1 = L' x.1) → env ops T L tr = env ops T L' tr
  | [], T, _ => rfl
  | (i, ac) :: tr, T, h => by
    simp only [env]
    rw [h (i, ac) (by simp)]
    exact env_congr tr _ (fun x hx => h x (by simp [hx]))

/-- The evaluator's temporaries are those behind all the operations. -/
theorem run_env {T T' : Tm} {H H' : AH} {tr : List (Nat × Ac)} (h : Run P call ops T H tr T' H') : T' = env ops T (fun _ => true) tr := by
  induction h with
  | nil => rfl
  | skip ho _ _ ih => simp only [env, if_true, dstOf, ho, Option.bind_some, Ac.val]; exact ih
  | pu ho _ _ _ _ ih => simp only [env, if_true, dstOf, ho, Option.bind_some, Ac.val]; exact ih
  | al ho _ _ _ _ _ ih => simp only [env, if_true, dstOf, ho, Option.bind_some, Ac.val]; exact ih
  | ef ho _ _ _ _ ih => simp only [env, if_true, dstOf, ho, Option.bind_some, Ac.val]; exact ih

theorem run_split {T T' : Tm} {H H' : AH} : ∀ (a b : List (Nat × Ac)), Run P call ops T H (a ++ b) T' H' → ∃ Tm Hm, Run P call ops T H a Tm Hm ∧ Run P call ops Tm Hm b T' H' := by
  intro a
  induction a generalizing T H with
  | nil => intro b h; exact ⟨T, H, .nil, h⟩
  | cons x a ih =>
    intro b h
    rw [List.cons_append] at h
    cases h with
    | skip ho hw h => obtain ⟨Tm, Hm, h1, h2⟩ := ih b h; exact ⟨Tm, Hm, .skip ho hw h1, h2⟩
    | pu ho hw hc hv h => obtain ⟨Tm, Hm, h1, h2⟩ := ih b h; exact ⟨Tm, Hm, .pu ho hw hc hv h1, h2⟩
    | al ho hw hc hf ha h => obtain ⟨Tm, Hm, h1, h2⟩ := ih b h; exact ⟨Tm, Hm, .al ho hw hc hf ha h1, h2⟩
    | ef ho hw hl hs h => obtain ⟨Tm, Hm, h1, h2⟩ := ih b h; exact ⟨Tm, Hm, .ef ho hw hl hs h1, h2⟩

theorem run_join {T T1 T' : Tm} {H H1 H' : AH} {a b : List (Nat × Ac)} (h : Run P call ops T H a T1 H1) (k : Run P call ops T1 H1 b T' H') : Run P call ops T H (a ++ b) T' H' := by
  induction h with
  | nil => exact k
  | skip ho hw _ ih => exact .skip ho hw (ih k)
  | pu ho hw hc hv _ ih => exact .pu ho hw hc hv (ih k)
  | al ho hw hc hf ha _ ih => exact .al ho hw hc hf ha (ih k)
  | ef ho hw hl hs _ ih => exact .ef ho hw hl hs (ih k)

theorem run_next (hn : CallNext call) {T T' : Tm} {H H' : AH} {tr : List (Nat × Ac)} (h : Run P call ops T H tr T' H') : H.next ≤ H'.next := by
  induction h with
  | nil => exact Nat.le_refl _
  | skip _ _ _ ih => exact ih
  | pu _ _ _ _ _ ih => exact ih
  | al _ _ _ _ ha _ ih => have := (allocF_next ha).2; omega
  | ef _ _ _ hs _ ih => exact Nat.le_trans (astep_next hn hs) ih

/-- New blocks' numbers lie between the heap's counters. -/
theorem run_ids (hn : CallNext call) {T T' : Tm} {H H' : AH} {tr : List (Nat × Ac)} (h : Run P call ops T H tr T' H') : ∀ i f id, (i, Ac.al f id) ∈ tr → H.next ≤ id ∧ id < H'.next := by
  induction h with
  | nil => intro i f id hm; simp at hm
  | skip _ _ _ ih => intro i f id hm; simp at hm; exact ih i f id hm
  | pu _ _ _ _ _ ih => intro i f id hm; simp at hm; exact ih i f id hm
  | al ho hw hc hf ha hr ih =>
    intro i f id hm
    obtain ⟨h1, h2⟩ := allocF_next ha
    have h3 := run_next hn hr
    simp at hm
    rcases hm with ⟨rfl, rfl, rfl⟩ | hm
    · omega
    · have := ih i f id hm; omega
  | ef ho hw hl hs hr ih =>
    intro i f id hm
    have h1 := astep_next hn hs
    simp at hm
    have := ih i f id hm; omega

theorem run_ids_inj (hn : CallNext call) {T T' : Tm} {H H' : AH} {tr : List (Nat × Ac)} (h : Run P call ops T H tr T' H') : ∀ i f j g id, (i, Ac.al f id) ∈ tr → (j, Ac.al g id) ∈ tr → i = j ∧ f = g := by
  induction h with
  | nil => intro i f j g id hm; simp at hm
  | skip _ _ _ ih => intro i f j g id hm hm'; simp at hm hm'; exact ih i f j g id hm hm'
  | pu _ _ _ _ _ ih => intro i f j g id hm hm'; simp at hm hm'; exact ih i f j g id hm hm'
  | al ho hw hc hf ha hr ih =>
    intro i f j g id hm hm'
    obtain ⟨h1, h2⟩ := allocF_next ha
    have h3 := run_ids hn hr
    simp at hm hm'
    rcases hm with ⟨rfl, rfl, rfl⟩ | hm <;> rcases hm' with ⟨rfl, rfl, e⟩ | hm'
    · exact ⟨rfl, rfl⟩
    · have := h3 j g _ hm'; omega
    · subst e; have := h3 i f _ hm; omega
    · exact ih i f j g id hm hm'
  | ef ho hw hl hs hr ih => intro i f j g id hm hm'; simp at hm hm'; exact ih i f j g id hm hm'
end
end Go.Vi
