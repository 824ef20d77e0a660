/- A part of the proof that sparselaw34.OutcoreNil answers true at every input: an evaluator of Go code over an abstract heap, and that it is right. -/
import Derived.Test.YtpkpcmnpofdohaaGreatDoorViR
import Derived.LoopN
/-! The evaluator is right: code and calls. -/
namespace Go.Vi
open Go

section
variable {P : Program} {N : Nat}

def exOf : Ex → Exit
  | .normal => .normal
  | .exit id => .exit id
  | .ret => .ret

/-- What a piece of code comes to is what the evaluator says. -/
def CodeOk (P : Program) (N : Nat) (body : Code → Tm → AH → Option (Ex × Tm × AH)) : Prop :=
  ∀ c T H e T' H', body c T H = some (e, T', H') → H.next ≤ H'.next ∧
    (∀ ρ a w, HRel N P.globals.size ρ H w → TRel ρ T a.tmps → a.defers = [] → Free ρ H H' → ∀ Q : Exit → Act → World → Prop,
      (∀ ρ' a' w', TRel ρ' T' a'.tmps → a'.defers = [] → Post N P.globals.size ρ H w ρ' H' w' → Q (exOf e) a' w') → c.wp P Q a w) ∧
    ∀ b, c = .loop b → ∃ m, ∀ ρ a w, HRel N P.globals.size ρ H w → TRel ρ T a.tmps → a.defers = [] → Free ρ H H' → ∀ Q : Exit → Act → World → Prop,
      (∀ ρ' a' w', TRel ρ' T' a'.tmps → a'.defers = [] → Post N P.globals.size ρ H w ρ' H' w' → Q (exOf e) a' w') → Code.rounds P b Q m a w

/-- What is said of functions without a look at their code is true. -/
def OrcOk (P : Program) (N : Nat) (orc : Orc) : Prop :=
  ∀ k g, orc k = some g → ∀ args H v H', g args H = some (v, H') → H.next ≤ H'.next ∧ ∀ ρ w args', HRel N P.globals.size ρ H w → LRel ρ args args' → Free ρ H H' →
    Calls P k args'.toArray w fun e w' => ∃ v' ρ', e = .returned v' ∧ VRel ρ' v v' ∧ Post N P.globals.size ρ H w ρ' H' w'

def resOne (tmps : Array Value) : ResultVar → Sem Value
  | .tmp t => pure (tmps.getD t undef)
  | .cell a t => do loadVar t (← asAddr (tmps.getD a undef))

theorem results_eq (fn : Func) (tmps : Array Value) : results fn tmps = (do let vs ← fn.results.mapM (resOne tmps); pure (if h : vs.size = 1 then vs[0] else .tuple vs)) := by
  unfold results
  have : (fun x => match x with | .tmp t => pure (tmps.getD t undef) | .cell a t => do loadVar t (← asAddr (tmps.getD a undef)) : ResultVar → Sem Value) = resOne tmps := by
    funext x
    cases x <;> rfl
  rw [← this]
  rfl

theorem resA_run {ρ : Rm} {H : AH} {w : World} {T : Tm} {tmps : Array Value} (hr : HRel N P.globals.size ρ H w) (ht : TRel ρ T tmps) : ∀ (rs : List ResultVar) (vs : List Value), resA P H T rs = some vs →
    ∃ vs', LRel ρ vs vs' ∧ (rs.mapM (resOne tmps)).run P w = .ok vs' w
  | [], vs, h => by
    simp only [resA, Option.some.injEq] at h
    subst h
    exact ⟨[], LRel.nil ρ, by simp⟩
  | r :: rs, vs, h => by
    simp only [resA] at h
    split at h
    case h_2 => cases h
    rename_i v hv
    split at h
    case h_2 => cases h
    rename_i us hus
    cases h
    obtain ⟨us', hl, hrun⟩ := resA_run hr ht rs us hus
    cases r with
    | tmp t =>
      simp only [Option.some.injEq] at hv
      subst hv
      exact ⟨_, LRel.cons (ht.2.2 t) hl, by simp only [List.mapM_cons, Sem.run_bind, resOne, Sem.run_pure, Result.andThen_ok, hrun]⟩
    | cell b t =>
      simp only at hv
      obtain ⟨v', hrel, hld⟩ := loadA_sound hr (ht.2.2 b) hv
      have hptr : ∃ q, tmps.getD b undef = .pointer (some q) := by
        have hb := ht.2.2 b
        unfold loadA at hv
        split at hv
        case h_2 => cases hv
        rename_i heq
        rw [heq] at hb
        obtain ⟨r, _, hx⟩ := hb.ptr_inv
        exact ⟨_, hx⟩
      obtain ⟨q, hq⟩ := hptr
      rw [hq] at hld
      have hld' : (loadVar t q).run P w = .ok v' w := by simpa [Instr.loadAt, Instr.sureAddr] using hld
      refine ⟨_, LRel.cons hrel hl, ?_⟩
      have h1 : (resOne tmps (.cell b t)).run P w = .ok v' w := by simp [resOne, hq, asAddr, hld']
      simp only [List.mapM_cons, Sem.run_bind, h1, Result.andThen_ok, hrun, Sem.run_pure]

theorem results_run {ρ : Rm} {H : AH} {w : World} {T : Tm} {tmps : Array Value} (hr : HRel N P.globals.size ρ H w) (ht : TRel ρ T tmps) {fn : Func} {vs : List Value} (h : resA P H T fn.results.toList = some vs) :
    ∃ v', VRel ρ (wrapA vs) v' ∧ (results fn tmps).run P w = .ok v' w := by
  obtain ⟨vs', hl, hrun⟩ := resA_run hr ht _ _ h
  have hm : (fn.results.mapM (resOne tmps)).run P w = .ok vs'.toArray w := by
    rw [Array.mapM_eq_mapM_toList, Sem.run_map, hrun]
    rfl
  rw [results_eq, Sem.run_bind, hm, Result.andThen_ok]
  match vs, vs', hl with
  | [v], [v'], hl =>
    obtain ⟨x, t, e, hv, _⟩ := hl.uncons
    cases e
    exact ⟨v', hv, by simp⟩
  | [], [], hl => exact ⟨.tuple #[], .of_tuple (LRel.nil ρ), by simp⟩
  | v :: u :: vs, v' :: u' :: vs', hl => exact ⟨.tuple (v' :: u' :: vs').toArray, .of_tuple (by simpa using hl), by simp⟩
  | [], _ :: _, hl => simp [LRel] at hl
  | [_], [], hl => simp [LRel] at hl
  | [_], _ :: _ :: _, hl => simp [LRel] at hl
  | _ :: _ :: _, [], hl => simp [LRel] at hl
  | _ :: _ :: _, [_], hl => simp [LRel] at hl

theorem tmFill_get : ∀ (vs : List Value) (t : Tr Value) (i j : Nat), i + vs.length ≤ 65000 → (tmFill t i vs).get j = if i ≤ j ∧ j < i + vs.length then vs[j - i]? else t.get j
  | [], t, i, j, _ => by simp only [tmFill]; rw [if_neg (by simp)]
  | v :: vs, t, i, j, h => by
    simp only [List.length_cons] at h
    simp only [tmFill]
    rw [tmFill_get vs _ (i + 1) j (by omega), Tr.get_set t i (some v) j (by omega)]
    by_cases e : j = i
    · subst e
      rw [if_neg (by omega), if_pos rfl, if_pos (by simp)]
      simp
    · rw [if_neg e]
      by_cases h2 : i + 1 ≤ j ∧ j < i + 1 + vs.length
      · rw [if_pos h2, if_pos (by simp; omega)]
        rw [show j - i = (j - (i + 1)) + 1 by omega, List.getElem?_cons_succ]
      · rw [if_neg h2, if_neg (by simp; omega)]

theorem tmOf_rel {ρ : Rm} {n : Nat} {args args' : List Value} (hl : LRel ρ args args') (h1 : args.length ≤ n) (h2 : n ≤ 65000) :
    TRel ρ (tmOf n args) (args'.toArray ++ Array.replicate (n - args'.toArray.size) undef) := by
  have hlen := hl.1
  refine ⟨by simp [tmOf]; omega, h2, fun t => ?_⟩
  unfold Tm.get tmOf
  simp only
  rw [tmFill_get args .lf 0 t (by omega)]
  by_cases ht : t < args.length
  · rw [if_pos (by omega), Nat.sub_zero, List.getElem?_eq_getElem ht]
    simp only
    have ht' : t < args'.length := by omega
    have : (args'.toArray ++ Array.replicate (n - args'.toArray.size) undef).getD t undef = args'[t] := by
      simp [Array.getD, ht']
      intro h; omega
    rw [this]
    exact hl.2 t _ _ (List.getElem?_eq_getElem ht) (List.getElem?_eq_getElem ht')
  · rw [if_neg (by omega)]
    have hx : (Tr.lf : Tr Value).get t = none := rfl
    rw [hx]
    have : (args'.toArray ++ Array.replicate (n - args'.toArray.size) undef).getD t undef = undef := by
      simp only [Array.getD]
      split
      · rename_i hlt
        simp [Array.getElem_append]
        intro h; omega
      · rfl
    rw [this]
    exact undef_rel ρ

theorem acallW_ok {orc : Orc} (ho : OrcOk P N orc) {body : Code → Tm → AH → Option (Ex × Tm × AH)} (hb : CodeOk P N body) : CallOk P N (acallW P orc body) ∧ CallNext (acallW P orc body) := by
  constructor
  · intro k fn c args H v H' h hk hc ρ w args' hr hl hf
    unfold acallW at h
    split at h
    · rename_i g hg
      exact (ho k g hg args H v H' h).2 ρ w args' hr hl hf
    · split at h
      case isFalse => cases h
      rename_i hlen
      refine calls_of_wp hk hc ?_
      split at h
      · rename_i T' H1 hbd
        split at h
        case h_2 => cases h
        rename_i vs hvs
        cases h
        refine (hb c _ _ _ _ _ hbd).2.1 ρ _ w hr (tmOf_rel hl hlen.1 hlen.2) rfl hf _ (fun ρ' a' w' ht' hd hp => ?_)
        obtain ⟨v', hrel, hrun⟩ := results_run hp.rel ht' hvs
        exact ⟨hd, v', hrun, v', ρ', rfl, hrel, hp⟩
      · rename_i T' H1 hbd
        split at h
        case h_2 => cases h
        rename_i vs hvs
        cases h
        refine (hb c _ _ _ _ _ hbd).2.1 ρ _ w hr (tmOf_rel hl hlen.1 hlen.2) rfl hf _ (fun ρ' a' w' ht' hd hp => ?_)
        obtain ⟨v', hrel, hrun⟩ := results_run hp.rel ht' hvs
        exact ⟨hd, v', hrun, v', ρ', rfl, hrel, hp⟩
      · cases h
  · intro k fn c args H v H' h
    unfold acallW at h
    split at h
    · rename_i g hg
      exact (ho k g hg args H v H' h).1
    · split at h
      case isFalse => cases h
      split at h
      · rename_i T' H1 hbd
        split at h
        case h_2 => cases h
        cases h
        exact (hb c _ _ _ _ _ hbd).1
      · rename_i T' H1 hbd
        split at h
        case h_2 => cases h
        cases h
        exact (hb c _ _ _ _ _ hbd).1
      · cases h

theorem Free.left {ρ : Rm} {H H1 H2 : AH} (h : Free ρ H H2) (hn : H1.next ≤ H2.next) : Free ρ H H1 := fun i a b => h i a (by omega)
theorem Free.right {G : Nat} {ρ ρ1 : Rm} {H H1 H2 : AH} {w w1 : World} (h : Free ρ H H2) (hp : Post N G ρ H w ρ1 H1 w1) : Free ρ1 H1 H2 := fun i a b => by
  have := hp.le
  rw [hp.ext i (.inr a)]; exact h i (by omega) b

theorem aexecF_ok (hmix : P.follows .mixedOrders = true) {orc : Orc} (ho : OrcOk P N orc) {ih : Code → Tm → AH → Option (Ex × Tm × AH)} (hi : CodeOk P N ih) : CodeOk P N (aexecF P orc ih) := by
  obtain ⟨hcall, hnext⟩ := acallW_ok ho hi
  intro c T H e T' H' h
  unfold aexecF at h
  split at h
  · -- skip
    cases h
    exact ⟨Nat.le_refl _, fun ρ a w hr ht hd hf Q hQ => wp_skip (hQ ρ a w ht hd (Post.refl hr)), fun b hb => by cases hb⟩
  · cases h
    exact ⟨Nat.le_refl _, fun ρ a w hr ht hd hf Q hQ => wp_label (hQ ρ a w ht hd (Post.refl hr)), fun b hb => by cases hb⟩
  · -- seq
    rename_i x y
    split at h
    · rename_i T1 H1 h1
      obtain ⟨n1, s1, _⟩ := hi _ _ _ _ _ _ h1
      obtain ⟨n2, s2, _⟩ := hi _ _ _ _ _ _ h
      refine ⟨Nat.le_trans n1 n2, fun ρ a w hr ht hd hf Q hQ => wp_seq ?_, fun b hb => by cases hb⟩
      refine s1 ρ a w hr ht hd (hf.left n2) _ (fun ρ1 a1 w1 ht1 hd1 hp1 => ?_)
      exact s2 ρ1 a1 w1 hp1.rel ht1 hd1 (hf.right hp1) Q (fun ρ2 a2 w2 ht2 hd2 hp2 => hQ ρ2 a2 w2 ht2 hd2 (hp1.trans hp2))
    · rename_i hno
      obtain ⟨n1, s1, _⟩ := hi _ _ _ _ _ _ h
      refine ⟨n1, fun ρ a w hr ht hd hf Q hQ => wp_seq ?_, fun b hb => by cases hb⟩
      refine s1 ρ a w hr ht hd hf _ (fun ρ1 a1 w1 ht1 hd1 hp1 => ?_)
      have := hQ ρ1 a1 w1 ht1 hd1 hp1
      cases e with
      | normal => exact absurd h (hno T' H')
      | exit i => exact this
      | ret => exact this
  · -- cond
    rename_i x p q
    split at h
    · rename_i hx
      obtain ⟨n1, s1, _⟩ := hi _ _ _ _ _ _ h
      exact ⟨n1, fun ρ a w hr ht hd hf Q hQ => wp_cond_true ((aev_sound hr ht hx).plain_eq rfl) (s1 ρ a w hr ht hd hf Q hQ), fun b hb => by cases hb⟩
    · rename_i hx
      obtain ⟨n1, s1, _⟩ := hi _ _ _ _ _ _ h
      exact ⟨n1, fun ρ a w hr ht hd hf Q hQ => wp_cond_false ((aev_sound hr ht hx).plain_eq rfl) (s1 ρ a w hr ht hd hf Q hQ), fun b hb => by cases hb⟩
    · cases h
  · -- block
    rename_i id b
    split at h
    · rename_i i T1 H1 h1
      obtain ⟨n1, s1, _⟩ := hi _ _ _ _ _ _ h1
      split at h
      · rename_i hid
        subst hid
        cases h
        refine ⟨n1, fun ρ a w hr ht hd hf Q hQ => wp_block ?_, fun b hb => by cases hb⟩
        refine s1 ρ a w hr ht hd hf _ (fun ρ1 a1 w1 ht1 hd1 hp1 => ?_)
        have := hQ ρ1 a1 w1 ht1 hd1 hp1
        show (if _ then _ else _)
        rw [if_pos rfl]; exact this
      · rename_i hid
        cases h
        refine ⟨n1, fun ρ a w hr ht hd hf Q hQ => wp_block ?_, fun b hb => by cases hb⟩
        refine s1 ρ a w hr ht hd hf _ (fun ρ1 a1 w1 ht1 hd1 hp1 => ?_)
        have := hQ ρ1 a1 w1 ht1 hd1 hp1
        show (if _ then _ else _)
        rw [if_neg hid]; exact this
    · rename_i hno
      obtain ⟨n1, s1, _⟩ := hi _ _ _ _ _ _ h
      refine ⟨n1, fun ρ a w hr ht hd hf Q hQ => wp_block ?_, fun b hb => by cases hb⟩
      refine s1 ρ a w hr ht hd hf _ (fun ρ1 a1 w1 ht1 hd1 hp1 => ?_)
      have := hQ ρ1 a1 w1 ht1 hd1 hp1
      cases e with
      | normal => exact this
      | exit i => exact absurd h (hno i T' H')
      | ret => exact this
  · -- loop
    rename_i b
    have key : H.next ≤ H'.next ∧ ∃ m, ∀ ρ a w, HRel N P.globals.size ρ H w → TRel ρ T a.tmps → a.defers = [] → Free ρ H H' → ∀ Q : Exit → Act → World → Prop,
        (∀ ρ' a' w', TRel ρ' T' a'.tmps → a'.defers = [] → Post N P.globals.size ρ H w ρ' H' w' → Q (exOf e) a' w') → Code.rounds P b Q m a w := by
      split at h
      · rename_i T1 H1 h1
        obtain ⟨n1, s1, _⟩ := hi _ _ _ _ _ _ h1
        obtain ⟨n2, _, s2⟩ := hi _ _ _ _ _ _ h
        obtain ⟨m, s2⟩ := s2 b rfl
        refine ⟨Nat.le_trans n1 n2, m + 1, fun ρ a w hr ht hd hf Q hQ => ?_⟩
        rw [rounds_succ]
        refine s1 ρ a w hr ht hd (hf.left n2) _ (fun ρ1 a1 w1 ht1 hd1 hp1 => ?_)
        exact s2 ρ1 a1 w1 hp1.rel ht1 hd1 (hf.right hp1) Q (fun ρ2 a2 w2 ht2 hd2 hp2 => hQ ρ2 a2 w2 ht2 hd2 (hp1.trans hp2))
      · rename_i hno
        obtain ⟨n1, s1, _⟩ := hi _ _ _ _ _ _ h
        refine ⟨n1, 1, fun ρ a w hr ht hd hf Q hQ => ?_⟩
        rw [rounds_succ]
        refine s1 ρ a w hr ht hd hf _ (fun ρ1 a1 w1 ht1 hd1 hp1 => ?_)
        have := hQ ρ1 a1 w1 ht1 hd1 hp1
        cases e with
        | normal => exact absurd h (hno T' H')
        | exit i => exact this
        | ret => exact this
    obtain ⟨n1, m, hm⟩ := key
    exact ⟨n1, fun ρ a w hr ht hd hf Q hQ => wp_loop_rounds m (hm ρ a w hr ht hd hf Q hQ), fun b' hb => by cases hb; exact ⟨m, hm⟩⟩
  · cases h
    exact ⟨Nat.le_refl _, fun ρ a w hr ht hd hf Q hQ => wp_exit (hQ ρ a w ht hd (Post.refl hr)), fun b hb => by cases hb⟩
  · cases h
    exact ⟨Nat.le_refl _, fun ρ a w hr ht hd hf Q hQ => wp_ret (hQ ρ a w ht hd (Post.refl hr)), fun b hb => by cases hb⟩
  · -- a region in the order of the text
    split at h
    · rename_i T1 H1 h1
      cases h
      refine ⟨aops_next hnext _ _ _ _ _ h1, fun ρ a w hr ht hd hf Q hQ => wp_region ?_, fun b hb => by cases hb⟩
      exact aops_sound hcall hnext _ _ _ _ _ ρ a w h1 hr ht hf (fun ρ1 a1 w1 ht1 hd1 hp1 => hQ ρ1 a1 w1 ht1 (hd1.trans hd) hp1)
    · cases h
  · -- a region whose order is open
    split at h
    · rename_i T1 H1 h1
      cases h
      refine ⟨adraw_next hnext h1, fun ρ a w hr ht hd hf Q hQ => ?_, fun b hb => by cases hb⟩
      exact adraw_sound hcall hnext hmix h1 hr ht hf _ (fun ρ1 a1 w1 ht1 hd1 hp1 => hQ ρ1 a1 w1 ht1 (hd1.trans hd) hp1)
    · cases h
  · cases h

theorem aexec_ok (hmix : P.follows .mixedOrders = true) {orc : Orc} (ho : OrcOk P N orc) : ∀ n, CodeOk P N (aexec P orc n)
  | 0 => fun c T H e T' H' h => by cases h
  | n + 1 => aexecF_ok hmix ho (aexec_ok hmix ho n)

/-- What a call comes to is what the evaluator says. -/
theorem acall_sound (hmix : P.follows .mixedOrders = true) {orc : Orc} (ho : OrcOk P N orc) {n : Nat} {k : FuncId} {args args' : List Value} {H H' : AH} {v : Value} {ρ : Rm} {w : World}
    (h : acall P orc n k args H = some (v, H')) (hr : HRel N P.globals.size ρ H w) (hl : LRel ρ args args') (hf : Free ρ H H') :
    Calls P k args'.toArray w fun e w' => ∃ v' ρ', e = .returned v' ∧ VRel ρ' v v' ∧ Post N P.globals.size ρ H w ρ' H' w' := by
  unfold acall at h
  split at h
  case h_2 => cases h
  rename_i fn hk
  split at h
  case h_2 => cases h
  rename_i c hc
  exact (acallW_ok ho (aexec_ok hmix ho n)).1 k fn c args H v H' h hk hc ρ w args' hr hl hf
end
end Go.Vi
