/- A part of the proof that sparselaw34.OutcoreNil answers true at every input: an evaluator of Go code over an abstract heap, and that it is right. -/
import Derived.Test.YtpkpcmnpofdohaaGreatDoorViK
/-! The evaluator is right: one operation; a region in the order of the text. -/
namespace Go.Vi
open Go

/-! ### The heap's counter never goes down -/
theorem storeCellsA_next {H H' : AH} {b off : Nat} {vs : List Value} (h : storeCellsA H b off vs = some H') : H'.next = H.next := by
  unfold storeCellsA at h
  split at h
  · split at h
    · cases h; rfl
    · cases h
  · cases h

theorem storeA_next {P : Program} {H H' : AH} {t : TypeId} {p v : Value} (h : storeA P H t p v = some H') : H'.next = H.next := by
  unfold storeA at h
  split at h
  · split at h
    · exact storeCellsA_next h
    · cases h
  · cases h

theorem mapUpdateA_next {P : Program} {H H' : AH} {t : TypeId} {m x v : Value} (h : mapUpdateA P H t m x v = some H') : H'.next = H.next := by
  unfold mapUpdateA at h
  split at h
  · split at h
    · split at h
      · cases h; rfl
      · cases h
    · cases h
  · cases h

theorem copyA_next {P : Program} {H H' : AH} {ts : Array TypeId} {args : List Value} {v : Value} (h : copyA P H ts args = some (v, H')) : H'.next = H.next := by
  unfold copyA at h
  split at h
  case h_2 => cases h
  split at h
  case h_2 => cases h
  split at h
  case h_2 => cases h
  split at h
  case h_2 => cases h
  split at h
  case isFalse => cases h
  split at h
  · cases h; rfl
  · split at h
    case h_2 => cases h
    split at h
    case h_2 => cases h
    rename_i hst
    cases h
    exact storeCellsA_next hst

theorem alloc_next {H H' : AH} {b : Blk} {id : Nat} (h : H.alloc b = some (id, H')) : H.next ≤ H'.next := by
  have := (AH.alloc_inv h).2.2.1; omega

theorem appendA_next {P : Program} {H H' : AH} {ts : Array TypeId} {args : List Value} {v : Value} (h : appendA P H ts args = some (v, H')) : H.next ≤ H'.next := by
  unfold appendA at h
  split at h
  case h_2 => cases h
  split at h
  case h_2 => cases h
  split at h
  case h_2 => cases h
  split at h
  case h_2 => cases h
  split at h
  case isFalse => cases h
  split at h
  · split at h
    case isFalse => cases h
    split at h
    · cases h; exact Nat.le_refl _
    · split at h
      case h_2 => cases h
      rename_i ha
      cases h
      exact alloc_next ha
  · split at h
    · split at h
      · cases h; exact Nat.le_refl _
      · split at h
        case h_2 => cases h
        split at h
        case isFalse => cases h
        split at h
        case h_2 => cases h
        rename_i ha
        cases h
        exact alloc_next (H := AH.put H _ none) ha
    · split at h
      · split at h
        · cases h; exact Nat.le_refl _
        · split at h
          case h_2 => cases h
          rename_i hst
          cases h
          exact Nat.le_of_eq (storeCellsA_next hst).symm
      · split at h
        case h_2 => cases h
        split at h
        case isFalse => cases h
        split at h
        case h_2 => cases h
        rename_i ha
        cases h
        exact alloc_next ha
  · cases h

theorem aeff_next {P : Program} {H H' : AH} {T : Tm} {o : Oper} {v : Value} (h : aeff P H T o = some (v, H')) : H.next ≤ H'.next := by
  unfold aeff at h
  split at h
  · split at h
    case h_2 => cases h
    split at h
    case h_2 => cases h
    rename_i hm
    cases h
    exact Nat.le_of_eq (mapUpdateA_next hm).symm
  · split at h
    case h_2 => cases h
    split at h
    case h_2 => cases h
    rename_i hm
    cases h
    exact Nat.le_of_eq (mapUpdateA_next hm).symm
  · split at h
    case h_2 => cases h
    split at h
    case h_2 => cases h
    rename_i hm
    cases h
    exact Nat.le_of_eq (storeA_next hm).symm
  · split at h
    case h_2 => cases h
    exact appendA_next h
  · split at h
    case h_2 => cases h
    exact Nat.le_of_eq (copyA_next h).symm
  · cases h

theorem allocF_next {H H' : AH} {f : Fresh} {id : Nat} (h : H.allocF f = some (id, H')) : id = H.next ∧ H'.next = H.next + 1 := by
  cases f with
  | map => have := AH.allocM_inv h; exact ⟨this.1, this.2.2.1⟩
  | cells cs e sl => have := AH.alloc_inv h; exact ⟨this.1, this.2.2.1⟩

def CallNext (call : CallF) : Prop := ∀ k fn c args H v H', call k fn c args H = some (v, H') → H.next ≤ H'.next

theorem astep_next {P : Program} {call : CallF} (hc : CallNext call) {T : Tm} {H H' : AH} {o : Oper} {v : Value} (h : astep P call T H o = some (v, H')) : H.next ≤ H'.next := by
  have hs := comp_spec P o
  unfold astep at h
  split at h
  · split at h
    · cases h; exact Nat.le_refl _
    · cases h
  · split at h
    · split at h
      · rename_i ha; cases h; have := (allocF_next ha).2; omega
      · cases h
    · cases h
  · rename_i f hf
    rw [hf] at hs
    rw [hs.2] at h
    exact aeff_next h
  · split at h
    · exact hc _ _ _ _ _ _ _ h
    · cases h
  · cases h

theorem aops_nil {P : Program} {call : CallF} {ops : Array Oper} (T : Tm) (H : AH) : aops P call ops [] T H = some (T, H) := rfl
theorem aops_cons {P : Program} {call : CallF} {ops : Array Oper} (i : Nat) (l : List Nat) (T : Tm) (H : AH) : aops P call ops (i :: l) T H = match ops[i]? with
    | none => none
    | some o => if awanted ops T o = true then (match astep P call T H o with
        | some (v, H') => aops P call ops l (putT T o.dst v) H'
        | none => none) else aops P call ops l (putT T o.dst undef) H := by
  show (match ops[i]? with
    | none => none
    | some o => Bool.rec (motive := fun _ => Option (Tm × AH)) (aops P call ops l (putT T o.dst undef) H)
          (match astep P call T H o with
          | some (v, H') => aops P call ops l (putT T o.dst v) H'
          | none => none) (awanted ops T o)) = _
  split
  · rfl
  · rename_i o ho
    cases awanted ops T o <;> rfl

theorem aops_next {P : Program} {call : CallF} (hc : CallNext call) {ops : Array Oper} : ∀ (l : List Nat) (T : Tm) (H : AH) (T' : Tm) (H' : AH), aops P call ops l T H = some (T', H') → H.next ≤ H'.next
  | [], T, H, T', H', h => by rw [aops_nil] at h; simp only [Option.some.injEq, Prod.mk.injEq] at h; rw [h.2]; exact Nat.le_refl _
  | i :: l, T, H, T', H', h => by
    rw [aops_cons] at h
    split at h
    · cases h
    · split at h
      · split at h
        · rename_i hs
          exact Nat.le_trans (astep_next hc hs) (aops_next hc l _ _ _ _ h)
        · cases h
      · exact aops_next hc l _ _ _ _ h

/-! ### One operation -/
section
variable {P : Program} {N : Nat} {ρ : Rm} {H H' : AH} {w : World} {T : Tm} {a : Act}

theorem aeff_sound (hr : HRel N P.globals.size ρ H w) (ht : TRel ρ T a.tmps) {o : Oper} {v : Value} (h : aeff P H T o = some (v, H')) (hf : Free ρ H H') :
    ∃ ρ' w' x', ((execOp a.eval o).run P w = .ok (.value x') w' ∨ ((execOp a.eval o).run P w = .ok .skip w' ∧ x' = undef)) ∧ VRel ρ' v x' ∧ Post N P.globals.size ρ H w ρ' H' w' := by
  unfold aeff at h
  split at h
  · -- mapUpdate
    rename_i t m k x hop
    split at h
    case h_2 => cases h
    rename_i mv kv xv hm hk hx
    split at h
    case h_2 => cases h
    rename_i H1 hu
    cases h
    obtain ⟨w', hrun, hp⟩ := mapUpdateA_sound hr (aev_sound hr ht hm) (aev_sound hr ht hk) (aev_sound hr ht hx) hu
    exact ⟨ρ, w', undef, .inr ⟨by simp [execOp, hop, hrun], rfl⟩, undef_rel ρ, hp⟩
  · rename_i t m k x hop
    split at h
    case h_2 => cases h
    rename_i mv kv xv hm hk hx
    split at h
    case h_2 => cases h
    rename_i H1 hu
    cases h
    obtain ⟨w', hrun, hp⟩ := mapUpdateA_sound hr (aev_sound hr ht hm) (aev_sound hr ht hk) (aev_sound hr ht hx) hu
    exact ⟨ρ, w', undef, .inr ⟨by simp [execOp, hop, hrun], rfl⟩, undef_rel ρ, hp⟩
  · -- store
    rename_i t p x hop
    split at h
    case h_2 => cases h
    rename_i pv xv hp hx
    split at h
    case h_2 => cases h
    rename_i H1 hu
    cases h
    obtain ⟨w', hrun, hp⟩ := storeA_sound (P := P) hr (aev_sound hr ht hp) (aev_sound hr ht hx) hu
    exact ⟨ρ, w', undef, .inr ⟨by simp [execOp, hop, hrun], rfl⟩, undef_rel ρ, hp⟩
  · -- append
    rename_i args ts hop
    split at h
    case h_2 => cases h
    rename_i vs hvs
    obtain ⟨ρ', w', v', hrun, hv, hp⟩ := appendA_sound (P := P) (ty := o.type) hr (aevs_sound hr ht _ _ hvs) h hf
    rw [toArray_map] at hrun
    exact ⟨ρ', w', v', .inl (by simp only [execOp, hop, resolve, invoke, builtin, Sem.run_bind, Sem.run_pure, Result.andThen_ok]; simp [hrun]), hv, hp⟩
  · -- copy
    rename_i args ts hop
    split at h
    case h_2 => cases h
    rename_i vs hvs
    obtain ⟨w', v', hrun, hv, hp⟩ := copyA_sound (P := P) (ty := o.type) hr (aevs_sound hr ht _ _ hvs) h
    rw [toArray_map] at hrun
    exact ⟨ρ, w', v', .inl (by simp only [execOp, hop, resolve, invoke, builtin, Sem.run_bind, Sem.run_pure, Result.andThen_ok]; simp [hrun]), hv, hp⟩
  · cases h

/-- What a call comes to is what the evaluator says. -/
def CallOk (P : Program) (N : Nat) (call : CallF) : Prop :=
  ∀ k fn c args H v H', call k fn c args H = some (v, H') → P.funcs[k]? = some fn → fn.body = some c → ∀ ρ w args', HRel N P.globals.size ρ H w → LRel ρ args args' → Free ρ H H' →
    Calls P k args'.toArray w fun e w' => ∃ v' ρ', e = .returned v' ∧ VRel ρ' v v' ∧ Post N P.globals.size ρ H w ρ' H' w'

theorem acallee_sound (hr : HRel N P.globals.size ρ H w) (ht : TRel ρ T a.tmps) {o : Oper} {k : FuncId} {fn : Func} {c : Code} {args : List Value} (h : acallee P T o = some (k, fn, c, args)) :
    P.funcs[k]? = some fn ∧ fn.body = some c ∧ ∃ args', LRel ρ args args' ∧ (execOp a.eval o).run P w = .ok (.enter k args'.toArray) w := by
  unfold acallee at h
  split at h
  case h_2 => cases h
  rename_i f xs ts hop
  split at h
  case h_2 => cases h
  rename_i k' first captured vs hf hvs
  split at h
  case h_2 => cases h
  rename_i fn' hfn
  split at h
  case h_2 => cases h
  rename_i c' hc
  split at h
  · cases h
  rename_i hname
  cases h
  refine ⟨hfn, hc, ?_⟩
  have hv := aev_sound hr ht hf
  have hl := aevs_sound hr ht _ _ hvs
  have hex : execOp a.eval o = (do let d ← Deferred.ofValue (a.eval f) (xs.map a.eval); invoke d.target d.args) := by
    simp only [execOp, hop, resolve]
  rw [hex]
  generalize a.eval f = y at hv
  cases hv with
  | plain hp => simp [plainS] at hp
  | func h1 h2 h3 h4 =>
    rename_i xs' ys'
    refine ⟨xs'.toList ++ xs.toList.map a.eval ++ ys'.toList, ?_, ?_⟩
    · refine LRel.append (LRel.append ⟨by simpa using h1, fun i v v' e e' => h2 i v v' (by simpa using e) (by simpa using e')⟩ hl) ⟨by simpa using h3, fun i v v' e e' => h4 i v v' (by simpa using e) (by simpa using e')⟩
    · have hb : ¬ (fn.body = none) := by rw [hc]; simp
      have harr : (xs'.toList ++ xs.toList.map a.eval ++ ys'.toList).toArray = xs' ++ xs.map a.eval ++ ys' := by
        apply Array.ext'
        simp
      rw [harr]
      simp [Deferred.ofValue, invoke, callFunc, hfn, hname, hb]

theorem putT_rel {T : Tm} {a : Act} {dst : Option Tmp} {v v' : Value} (ht : TRel ρ T a.tmps) (hv : VRel ρ v v') : TRel ρ (putT T dst v) (a.put dst v').tmps := by
  cases dst with
  | none => exact ht
  | some d => exact ht.set hv d

theorem put_defers (a : Act) (dst : Option Tmp) (v : Value) : (a.put dst v).defers = a.defers := by cases dst <;> rfl

/-- One operation. -/
theorem astep_sound {call : CallF} (hcall : CallOk P N call) (hr : HRel N P.globals.size ρ H w) (ht : TRel ρ T a.tmps) {o : Oper} {v : Value} (h : astep P call T H o = some (v, H')) (hf : Free ρ H H')
    {K : Act → World → Prop} {Q : Exit → Act → World → Prop} (hK : ∀ ρ' x' w', VRel ρ' v x' → Post N P.globals.size ρ H w ρ' H' w' → K (a.put o.dst x') w') : o.wp P a w K Q := by
  have hs := comp_spec P o
  unfold astep at h
  unfold Oper.wp
  split at h
  · rename_i f hc
    rw [hc] at hs
    split at h
    · rename_i u hu
      cases h
      rw [hs.2] at hu
      obtain ⟨x', hv, hrun⟩ := apure_sound hr ht hu
      rw [hrun]
      exact hK ρ x' w hv (Post.refl hr)
    · cases h
  · rename_i f hc
    rw [hc] at hs
    split at h
    · rename_i f hfr
      rw [hs.2] at hfr
      split at h
      · rename_i id H1 ha
        cases h
        obtain ⟨obj, hok, hrun⟩ := aalloc_sound hr ht hfr
        obtain ⟨hid, hnx⟩ := allocF_next ha
        obtain ⟨hp, hv⟩ := allocF_sound hr hok ha (hf id (by omega) (by omega))
        rw [hrun]
        exact hK _ _ _ hv hp
      · cases h
    · cases h
  · rename_i f hc
    rw [hc] at hs
    rw [hs.2] at h
    obtain ⟨ρ', w', x', hrun, hv, hp⟩ := aeff_sound hr ht h hf
    rcases hrun with hrun | ⟨hrun, rfl⟩
    · rw [hrun]; exact hK ρ' x' w' hv hp
    · rw [hrun]; exact hK ρ' undef w' hv hp
  · rename_i f hc
    rw [hc] at hs
    split at h
    · rename_i k fn c args hfc
      rw [hs.2] at hfc
      obtain ⟨h1, h2, args', hl, hrun⟩ := acallee_sound hr ht hfc
      rw [hrun]
      refine (hcall k fn c args H v H' h h1 h2 ρ w args' hr hl hf).mono ?_
      rintro e w' ⟨v', ρ', rfl, hv, hp⟩
      exact hK ρ' v' w' hv hp
    · cases h
  · cases h

theorem awanted_eq {ops : Array Oper} (ht : TRel ρ T a.tmps) (o : Oper) : awanted ops T o = Region.wanted o (yielded ops a.tmps) := by
  unfold awanted Region.wanted yielded
  cases hg : o.guard with
  | none => rfl
  | some jw =>
    obtain ⟨j, want⟩ := jw
    simp only
    cases hd : (ops[j]?).bind (·.dst) with
    | none => simp
    | some t =>
      simp only [Option.bind_some]
      have hv := ht.2.2 t
      generalize T.get t = x at hv
      cases hx : a.tmps[t]? with
      | none =>
        have hu : a.tmps.getD t undef = undef := by
          have hle : a.tmps.size ≤ t := Array.getElem?_eq_none_iff.1 hx
          have : ¬ t < a.tmps.size := Nat.not_lt.2 hle
          simp [Array.getD, this]
        rw [hu] at hv
        cases hv with
        | plain hp => simp [undef, plainS] at hp
        | tuple h1 h2 => simp
      | some y =>
        have hu : a.tmps.getD t undef = y := by
          have hlt := (Array.getElem?_eq_some_iff.1 hx).1
          have := (Array.getElem?_eq_some_iff.1 hx).2
          simp [Array.getD, hlt, this]
        rw [hu] at hv
        cases hv with
        | plain hp => cases x <;> first | (simp [plainS] at hp; done) | simp | (rename_i b; cases b <;> cases want <;> rfl)
        | _ => simp

/-- A region's operations in a given order. -/
theorem aops_sound {call : CallF} (hcall : CallOk P N call) (hnext : CallNext call) {ops : Array Oper} {Q : Exit → Act → World → Prop} : ∀ (l : List Nat) (T : Tm) (H : AH) (T' : Tm) (H' : AH) (ρ : Rm) (a : Act) (w : World),
    aops P call ops l T H = some (T', H') → HRel N P.globals.size ρ H w → TRel ρ T a.tmps → Free ρ H H' →
    (∀ ρ' a' w', TRel ρ' T' a'.tmps → a'.defers = a.defers → Post N P.globals.size ρ H w ρ' H' w' → Q .normal a' w') → wpOps P ops Q l a w
  | [], T, H, T', H', ρ, a, w, h, hr, ht, hf, hQ => by
    rw [aops_nil] at h
    simp only [Option.some.injEq, Prod.mk.injEq] at h
    obtain ⟨rfl, rfl⟩ := h
    exact hQ ρ a w ht rfl (Post.refl hr)
  | i :: l, T, H, T', H', ρ, a, w, h, hr, ht, hf, hQ => by
    rw [aops_cons] at h
    simp only [wpOps]
    split at h
    · cases h
    · rename_i o ho
      simp only [ho]
      rw [← awanted_eq ht]
      split at h
      · rename_i hw
        rw [if_pos hw]
        split at h
        · rename_i v H1 hs
          have h1 := astep_next hnext hs
          have h2 := aops_next hnext l _ _ _ _ h
          refine .inl (astep_sound hcall hr ht hs (fun i hi hi' => hf i hi (by omega)) (fun ρ' x' w' hv hp => ?_))
          have hle := hp.rle (fun i hi hi' => hf i hi (by omega))
          refine aops_sound hcall hnext l _ _ _ _ ρ' _ w' h hp.rel (putT_rel (ht.mono hle) hv) (fun i hi hi' => ?_) (fun ρ2 a2 w2 ht2 hd hp2 => ?_)
          · rw [hp.ext i (.inr hi)]; exact hf i (by omega) hi'
          · exact hQ ρ2 a2 w2 ht2 (hd.trans (put_defers _ _ _)) (hp.trans hp2)
        · cases h
      · rename_i hw
        rw [if_neg hw]
        exact aops_sound hcall hnext l _ _ _ _ ρ _ w h hr (putT_rel ht (undef_rel ρ)) hf (fun ρ2 a2 w2 ht2 hd hp2 => hQ ρ2 a2 w2 ht2 (hd.trans (put_defers _ _ _)) hp2)
end
end Go.Vi
