/- A part of the proof that sparselaw34.OutcoreNil answers true at every input: an evaluator of Go code over an abstract heap, and that it is right. -/
import Derived.Test.YtpkpcmnpofdohaaGreatDoorViE
/-! The evaluator is right: all operations that change nothing. -/
namespace Go.Vi
open Go

section
variable {P : Program} {N : Nat} {ρ : Rm} {H : AH} {w : World} {T : Tm} {a : Act}

theorem run_equalIn_nilEq {t : TypeId} {x y x' y' : Value} {b : Bool} (hx : VRel ρ x x') (hy : VRel ρ y y') (h : nilEq P t x y = some b) (d : Nat) :
    (Op.equalIn (d + 1) t x' y').run P w = .ok b w := by
  unfold nilEq at h
  split at h
  · rename_i e a hu
    cases h
    cases hx with
    | plain hp => simp [plainS] at hp
    | ptr hb => rw [hy.plain_eq rfl]; simp [Op.equalIn, run_underlying hu]
  · rename_i e a hu
    cases h
    cases hy with
    | plain hp => simp [plainS] at hp
    | ptr hb => rw [hx.plain_eq rfl]; simp [Op.equalIn, run_underlying hu]
  · rename_i e a l c l' c' hu
    cases h
    rw [hy.plain_eq rfl]
    cases hx with
    | plain hp => simp [plainS] at hp
    | slice hb => simp [Op.equalIn, run_underlying hu]
    | sliceO hb => simp [Op.equalIn, run_underlying hu]
  · rename_i e l c a l' c' hu
    cases h
    rw [hx.plain_eq rfl]
    cases hy with
    | plain hp => simp [plainS] at hp
    | slice hb => simp [Op.equalIn, run_underlying hu]
    | sliceO hb => simp [Op.equalIn, run_underlying hu]
  · rename_i e1 e2 e3 f xs ys hu
    cases h
    rw [hy.plain_eq rfl]
    cases hx with
    | plain hp => simp [plainS] at hp
    | func => simp [Op.equalIn, run_underlying hu]
  · rename_i e1 e2 e3 f xs ys hu
    cases h
    rw [hx.plain_eq rfl]
    cases hy with
    | plain hp => simp [plainS] at hp
    | func => simp [Op.equalIn, run_underlying hu]
  · cases h

theorem run_eql_nilEq {t : TypeId} {xo yo : Operand} {x y x' y' : Value} {b : Bool} (hx : VRel ρ x x') (hy : VRel ρ y y') (h : nilEq P t x y = some b) :
    (do eqGuard .eql t xo yo x' y'; binOp .eql t x' y' : Sem Value).run P w = .ok (.bool b) w ∧ (do eqGuard .neq t xo yo x' y'; binOp .neq t x' y' : Sem Value).run P w = .ok (.bool !b) w := by
  have hq : (Op.equal t x' y').run P w = .ok b w := run_equalIn_nilEq hx hy h 9999
  have hk : (∀ op, (op = .eql ∨ op = .neq) → (eqGuard op t xo yo x' y').run P w = .ok () w) ∧ binOp .eql t x' y' = (do pure (.bool (← Op.equal t x' y'))) ∧ binOp .neq t x' y' = (do pure (.bool (!(← Op.equal t x' y')))) := by
    unfold nilEq at h
    split at h
    · cases hx with
      | plain hp => simp [plainS] at hp
      | ptr hb => rw [hy.plain_eq rfl]; exact ⟨by rintro op (rfl | rfl) <;> simp [eqGuard], rfl, rfl⟩
    · cases hy with
      | plain hp => simp [plainS] at hp
      | ptr hb => rw [hx.plain_eq rfl]; exact ⟨by rintro op (rfl | rfl) <;> simp [eqGuard], rfl, rfl⟩
    · rw [hy.plain_eq rfl]
      cases hx with
      | plain hp => simp [plainS] at hp
      | slice hb => exact ⟨by rintro op (rfl | rfl) <;> simp [eqGuard], rfl, rfl⟩
      | sliceO hb => exact ⟨by rintro op (rfl | rfl) <;> simp [eqGuard], rfl, rfl⟩
    · rw [hx.plain_eq rfl]
      cases hy with
      | plain hp => simp [plainS] at hp
      | slice hb => exact ⟨by rintro op (rfl | rfl) <;> simp [eqGuard], rfl, rfl⟩
      | sliceO hb => exact ⟨by rintro op (rfl | rfl) <;> simp [eqGuard], rfl, rfl⟩
    · rw [hy.plain_eq rfl]
      cases hx with
      | plain hp => simp [plainS] at hp
      | func => exact ⟨by rintro op (rfl | rfl) <;> simp [eqGuard], rfl, rfl⟩
    · rw [hx.plain_eq rfl]
      cases hy with
      | plain hp => simp [plainS] at hp
      | func => exact ⟨by rintro op (rfl | rfl) <;> simp [eqGuard], rfl, rfl⟩
    · cases h
  obtain ⟨h1, h2, h3⟩ := hk
  rw [h2, h3]
  exact ⟨by simp [h1 .eql (.inl rfl), hq], by simp [h1 .neq (.inr rfl), hq]⟩

theorem binA_sound {op : BinOp} {t : TypeId} {xo yo : Operand} {x y x' y' u : Value} (hx : VRel ρ x x') (hy : VRel ρ y y') (h : binA P op t xo yo x y = some u) :
    ∃ u', VRel ρ u u' ∧ (do eqGuard op t xo yo x' y'; binOp op t x' y' : Sem Value).run P w = .ok u' w := by
  unfold binA at h
  split at h
  · rename_i hp
    simp only [Bool.and_eq_true] at hp
    rw [hx.plainV_eq hp.1, hy.plainV_eq hp.2]
    split at h
    · rename_i v hv
      split at h
      · rename_i hpv
        cases h
        exact ⟨u, .plain hpv, arun_run hv w⟩
      · cases h
    · cases h
  · split at h
    · rename_i b hb
      obtain ⟨h1, h2⟩ := run_eql_nilEq (P := P) (w := w) (xo := xo) (yo := yo) hx hy hb
      split at h
      · cases h; exact ⟨_, .plain rfl, h1⟩
      · cases h; exact ⟨_, .plain rfl, h2⟩
      · cases h
    · cases h

theorem lenA_sound {ts : Array TypeId} {ty : TypeId} {args args' : List Value} {u : Value} (hx : LRel ρ args args') (h : lenA P ts args = some u) :
    ∃ u', VRel ρ u u' ∧ (Builtin.len_ ts ty args'.toArray).run P w = .ok u' w := by
  unfold lenA at h
  split at h
  · rename_i t b n c ht
    obtain ⟨x', t1, rfl, hv, hn⟩ := hx.uncons
    have := hn.nil_inv; subst this
    split at h
    case h_2 => cases h
    rename_i e hu
    cases h
    have hs : ∃ b' c', x' = .slice b' n c' := by
      cases hv with
      | plain hp => exact ⟨_, _, rfl⟩
      | slice _ _ _ => exact ⟨_, _, rfl⟩
      | sliceO _ _ _ _ => exact ⟨_, _, rfl⟩
    obtain ⟨b', c', rfl⟩ := hs
    exact ⟨.int .i64 n, .plain rfl, by simp [Builtin.len_, ht, run_underlying hu, goInt]⟩
  · rename_i t s ht
    obtain ⟨x', t1, rfl, hv, hn⟩ := hx.uncons
    have := hn.nil_inv; subst this
    rw [hv.plain_eq rfl]
    split at h
    case h_2 => cases h
    rename_i hu
    cases h
    exact ⟨_, .plain rfl, by simp [Builtin.len_, ht, run_underlying hu, goInt]⟩
  · cases h

/-! ### Maps with integer keys -/
theorem keys_rel {k : IntKind} : ∀ (es : List Ent) (es' : List MapEntry), ELRel ρ es es' → keysOk k es = true → ∀ (n : Int) (i : Nat), ∃ r, Instr.findNow (.int k) (.int k n) es' i = some r ∧
    (match findA k n es with
      | some e => ∃ j v', r = some (j, v') ∧ VRel ρ e.val v'
      | none => r = none)
  | [], es', h, _, n, i => by
    have : es' = [] := by cases es' with | nil => rfl | cons _ _ => simp [ELRel] at h
    subst this
    exact ⟨none, rfl, rfl⟩
  | e :: es, es', h, hk, n, i => by
    cases es' with
    | nil => simp [ELRel] at h
    | cons e' es' =>
      have he : ERel ρ e e' := h.2 0 e e' rfl rfl
      have hes : ELRel ρ es es' := ⟨by simpa using h.1, fun i a b ha hb => h.2 (i + 1) a b (by simpa using ha) (by simpa using hb)⟩
      simp only [keysOk, List.all_cons, Bool.and_eq_true] at hk
      obtain ⟨hk1, hk2⟩ := hk
      cases hkey : e.key with
      | int j m =>
        simp only [hkey, decide_eq_true_eq] at hk1
        subst hk1
        have he' : e'.key = .int j m := by have := he.1; rw [hkey] at this; exact this.int_inv
        simp only [Instr.findNow, he', Instr.sameNow, findA, hkey]
        by_cases hnm : n = m
        · simp [hnm]
          exact ⟨_, _, ⟨rfl, rfl⟩, he.2.1⟩
        · have hb : (n == m) = false := by simpa using hnm
          simp only [if_true, hb, hnm, and_false, if_false]
          exact keys_rel es es' hes hk2 n (i + 1)
      | _ => simp [hkey] at hk1

def foundS (et : TypeId) : Option (Nat × Value) → Sem (Value × Bool)
  | some (_, v) => pure (v, true)
  | none => do
    let z ← zeroValue et
    pure (z, false)

theorem lookupA_sound (hr : HRel N P.globals.size ρ H w) {t : TypeId} {m x m' x' u : Value} {ok : Bool} (hm : VRel ρ m m') (hx : VRel ρ x x') (h : lookupA P H t m x ok = some u) :
    ∃ u', VRel ρ u u' ∧ (Instr.lookup t m' x' ok).run P w = .ok u' w := by
  unfold lookupA at h
  split at h
  case h_2 => cases h
  rename_i kt et r k n hu
  rw [hx.int_inv]
  split at h
  case h_2 => cases h
  rename_i k0 z hkt hz
  split at h
  case h_2 => cases h
  rename_i es hes
  split at h
  case isFalse => cases h
  rename_i hkp
  obtain ⟨hk, hp⟩ := hkp
  have hck : ∀ b, (Instr.checkKey b 10000 kt (.int k n)).run P w = .ok () w := fun b => by
    have h1 : ∀ m, (Instr.checkKey b (m + 1) kt (.int k n)).run P w = .ok () w := fun m => by simp [Instr.checkKey, run_underlying hkt]
    exact h1 9999
  have hzero : (zeroValue et).run P w = .ok z w := by
    cases hi : P.info? et with
    | none => simp [hi] at hz
    | some i => simp [hi] at hz; simp [zeroValue, typeInfo, hi, hz]
  have hfind : ∀ (es' : Array MapEntry), ELRel ρ es es'.toList → ∃ q, (Instr.findKey kt (.int k n) es'.toList).run P w = .ok q w ∧ (match findA k n es with
      | some e => ∃ j v', q = some (j, v') ∧ VRel ρ e.val v'
      | none => q = none) := fun es' hel => by
    obtain ⟨q, hq, hval⟩ := keys_rel es es'.toList hel hk n 0
    have hq' : Instr.findNow (.int k0) (.int k n) es'.toList 0 = some q := by
      rw [← hq]
      clear hq hval hel
      generalize es'.toList = l
      generalize 0 = i
      induction l generalizing i with
      | nil => rfl
      | cons e l ih => simp only [Instr.findNow]; cases e.key <;> simp [Instr.sameNow, ih]
    exact ⟨q, by simp [Instr.findKey, run_underlying hkt, hq'], hval⟩
  have hfin : ∀ q, (match findA k n es with
      | some e => ∃ j v', q = some (j, v') ∧ VRel ρ e.val v'
      | none => q = none) → ∃ u' v' b, VRel ρ u u' ∧ (foundS et q).run P w = .ok (v', b) w ∧ u' = (if ok then .tuple #[v', .bool b] else v') := by
    intro q hq
    have hpair : ∀ v v' b, VRel ρ v v' → VRel ρ (.tuple #[v, .bool b]) (.tuple #[v', .bool b]) := fun v v' b hv => .of_tuple (LRel.cons hv (LRel.cons (.plain rfl) (LRel.nil ρ)))
    cases hf : findA k n es with
    | some e =>
      rw [hf] at hq h
      obtain ⟨j, v', rfl, hv⟩ := hq
      simp only [Option.some.injEq] at h
      subst h
      refine ⟨if ok then .tuple #[v', .bool true] else v', v', true, ?_, by simp [foundS], rfl⟩
      cases ok
      · exact hv
      · exact hpair _ _ _ hv
    | none =>
      rw [hf] at hq h
      simp only at hq
      subst hq
      simp only [Option.some.injEq] at h
      subst h
      refine ⟨if ok then .tuple #[z, .bool false] else z, z, false, ?_, by simp [foundS, hzero], rfl⟩
      cases ok
      · exact .refl_plainV hp
      · exact hpair _ _ _ (.refl_plainV hp)
  cases r with
  | none =>
    have := hm.plain_eq rfl
    subst this
    simp at hes
    subst hes
    obtain ⟨q, hq, hval⟩ := hfind #[] ⟨rfl, fun i e e' h _ => by simp at h⟩
    obtain ⟨u', v', b, hrel, hr1, rfl⟩ := hfin q hval
    refine ⟨_, hrel, ?_⟩
    unfold Instr.lookup
    simp only [Sem.run_bind, run_underlying hu, Result.andThen_ok, Sem.run_pure, hck, hq]
    cases q <;> simp_all [foundS]
  | some id =>
    cases hm with
    | plain hp => simp [plainS] at hp
    | map hb =>
      rename_i r
      cases hmb : H.getM id with
      | none => simp [hmb] at hes
      | some mb =>
        simp [hmb] at hes
        subst hes
        obtain ⟨r', hr', es', hC, hel, _⟩ := hr.maps id mb hmb
        rw [hb] at hr'; cases hr'
        obtain ⟨q, hq, hval⟩ := hfind es' hel
        obtain ⟨u', v', b, hrel, hr1, rfl⟩ := hfin q hval
        refine ⟨_, hrel, ?_⟩
        have hg : (getObj r.blk).run P w = .ok (.map es' mb.clock) w := by simp [getObj, Sem.run, hC]
        unfold Instr.lookup
        simp only [Sem.run_bind, run_underlying hu, Result.andThen_ok, Sem.run_pure, hck, hq, hg]
        cases q <;> simp_all [foundS]
end
end Go.Vi
