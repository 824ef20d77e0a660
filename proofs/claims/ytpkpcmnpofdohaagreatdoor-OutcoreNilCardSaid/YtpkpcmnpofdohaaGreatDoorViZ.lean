/- A part of the proof that sparselaw34.OutcoreNil answers true at every input: an evaluator of Go code over an abstract heap, and that it is right. -/
import Derived.Test.YtpkpcmnpofdohaaGreatDoorViX
import Derived.Test.YtpkpcmnpofdohaaGreatDoorViZ0
import Derived.Test.YtpkpcmnpofdohaaGreatDoorViZ1
/-! integer.root at one argument, for the evaluator: the oracle is right. -/
namespace Go.Vi
open Go Go.RowKit Go.Proofs

theorem intsU_eq : ∀ (l : List Value) (zs : List Int), intsU l = some zs → l = u32s zs
  | [], zs, h => by cases h; rfl
  | v :: r, zs, h => by
    unfold intsU at h
    split at h
    · split at h
      · rename_i zs' hz
        cases h
        rw [intsU_eq r zs' hz]; rfl
      · cases h
    · cases h

theorem u32s_get {zs : List Int} {i : Nat} {v : Value} (h : (u32s zs)[i]? = some v) : plainS v = true := by
  unfold u32s at h
  rw [List.getElem?_map] at h
  cases hx : zs[i]? with
  | none => rw [hx] at h; cases h
  | some x => rw [hx] at h; cases h; rfl

section
variable {P : Program} {N : Nat} {ρ : Rm} {H H' : AH} {w w' : World}

/-- A block of cells that a call has laid: known from an offset on. -/
theorem laid_part {G : Nat} (hr : HRel N G ρ H w) (hbw : Below w.heap.size w w') {blk : Blk} {id g off : Nat} (ha : H.alloc blk = some (id, H')) (hro : blk.ro = false) (hf : ρ id = none) (C : Array Value) (esz : Nat)
    (hg : w.heap.size ≤ g) (hC : w'.heap[g]? = some (.cells C blk.elem (0, 0)))
    (hc : ∀ (i : Nat) (v : Value), blk.cells[i]? = some v → ∃ v', C[off + i]? = some v' ∧ VRel ρ v v') (hE : blk.opn = true → esz = blk.esz) :
    Post N G ρ H w (upd ρ id ⟨g, off, C.size, esz⟩) H' w' := by
  obtain ⟨rfl, hlt, hnext, hget, hgetM⟩ := AH.alloc_inv ha
  have hle := upd_rle (⟨g, off, C.size, esz⟩ : Rn) hf
  have hown : ∀ j, H'.own j → j = H.next ∨ (j ≠ H.next ∧ H.own j) := by
    rintro j (⟨b, hb, hb2⟩ | ⟨m, hm⟩)
    · rw [hget] at hb
      by_cases e : j = H.next
      · exact .inl e
      · rw [if_neg e] at hb; exact .inr ⟨e, .inl ⟨b, hb, hb2⟩⟩
    · rw [hgetM] at hm
      exact .inr ⟨by have := hr.oldM j m hm; omega, .inr ⟨m, hm⟩⟩
  refine ⟨by omega, fun i hi => upd_ne ρ _ (by omega), ⟨by omega, by have := hr.glo; omega, ?_, ?_, ?_, ?_, ?_, ?_, Nat.le_trans hr.below hbw.size⟩, hbw.size, ?_, ?_, hbw.os, hbw.tape, hbw.output⟩
  · intro j b hb
    rw [hget] at hb
    by_cases e : j = H.next
    · omega
    · rw [if_neg e] at hb; have := hr.oldC j b hb; omega
  · intro j m hm
    rw [hgetM] at hm; have := hr.oldM j m hm; omega
  · intro j b hb
    rw [hget] at hb
    by_cases e : j = H.next
    · subst e
      rw [if_pos rfl] at hb
      cases hb
      refine ⟨_, upd_same ρ _ _, C, (0, 0), hC, rfl, ?_, fun h => absurd h (by rw [hro]; decide), fun _ => ⟨rfl, Nat.le_trans hr.below hg⟩, hE⟩
      intro i v hv
      obtain ⟨v', h1, h2⟩ := hc i v hv
      exact ⟨v', h1, h2.mono hle⟩
    · rw [if_neg e] at hb
      obtain ⟨r, h1, h2⟩ := hr.cells j b hb
      exact ⟨r, by rw [upd_ne ρ _ e]; exact h1, h2.later hle (hbw.block _ h2.lt)⟩
  · intro j m hm
    rw [hgetM] at hm
    obtain ⟨r, h1, h2⟩ := hr.maps j m hm
    exact ⟨r, by rw [upd_ne ρ _ (by have := hr.oldM j m hm; omega)]; exact h1, h2.later hle (hbw.block _ h2.lt)⟩
  · intro i j r s hi hj hri hsj hb
    rcases hown i hi with rfl | ⟨hi1, hi2⟩ <;> rcases hown j hj with rfl | ⟨hj1, hj2⟩
    · rfl
    · rw [upd_same] at hri; cases hri
      rw [upd_ne ρ _ hj1] at hsj
      have := hr.own_lt hj2 hsj
      simp at hb; omega
    · rw [upd_same] at hsj; cases hsj
      rw [upd_ne ρ _ hi1] at hri
      have := hr.own_lt hi2 hri
      simp at hb; omega
    · rw [upd_ne ρ _ hi1] at hri
      rw [upd_ne ρ _ hj1] at hsj
      exact hr.inj i j r s hi2 hj2 hri hsj hb
  · intro g' hg'
    obtain ⟨r, h1, h2⟩ := hr.glob g' hg'
    exact ⟨r, hle g' r h1, h2⟩
  · intro k hk _
    exact hbw.block k hk
  · rintro k ⟨j, r, hj, hrj, rfl⟩
    rcases hown j hj with rfl | ⟨hj1, hj2⟩
    · rw [upd_same] at hrj; cases hrj
      exact .inr hg
    · rw [upd_ne ρ _ hj1] at hrj
      exact .inl ⟨j, r, hj2, hrj, rfl⟩

/-- Where the one block of such a heap lies. -/
def ρr (G : Nat) (r : Rn) : Rm := fun i => if i < G then some ⟨i, 0, 32, 0⟩ else if i = G then some r else none

theorem rootH_get {G : Nat} {t : TypeId} (hG : G ≤ 33554431) (i : Nat) : (rootH G t).get i = if i = G then some ⟨u32s rootI, t, false, 0, true⟩ else none := by
  show ((Tr.lf : Tr Blk).set G (some ⟨u32s rootI, t, false, 0, true⟩)).get i = _
  rw [Tr.get_set _ _ _ _ (by omega)]
  rfl
theorem rootH_getM {G : Nat} {t : TypeId} (i : Nat) : (rootH G t).getM i = none := by
  unfold rootH AH.getM Tr.get
  exact getP_lf _
theorem rootH_own {G : Nat} {t : TypeId} (hG : G ≤ 33554431) (i : Nat) : ¬ (rootH G t).own i := by
  rintro (⟨b, hb, hro⟩ | ⟨m, hm⟩)
  · rw [rootH_get hG] at hb
    split at hb
    · cases hb; cases hro
    · cases hb
  · rw [rootH_getM] at hm; cases hm

theorem rootH_rel {G : Nat} {t : TypeId} {r : Rn} {C : Array Value} {fr : Nat × Nat} (hG : G ≤ 33554431) (h0 : w.heap[r.blk]? = some (.cells C t fr)) (hs : C.size = r.size)
    (hc : ∀ (i : Nat) (v : Value), (u32s rootI)[i]? = some v → C[r.off + i]? = some v) : HRel w.heap.size G (ρr G r) (rootH G t) w where
  lim := by show G + 1 ≤ _; omega
  glo := by show G ≤ G + 1; omega
  oldC id b hb := by
    rw [rootH_get hG] at hb
    split at hb
    · rename_i e
      subst e; exact Nat.lt_succ_self _
    · cases hb
  oldM id m hm := by rw [rootH_getM] at hm; cases hm
  cells id b hb := by
    rw [rootH_get hG] at hb
    split at hb
    · rename_i e
      subst e
      cases hb
      refine ⟨r, by unfold ρr; rw [if_neg (Nat.lt_irrefl _), if_pos rfl], C, fr, h0, hs, ?_, fun _ => (Array.getElem?_eq_some_iff.1 h0).1, (fun h => nomatch h), (fun h => nomatch h)⟩
      intro i v hv
      exact ⟨v, hc i v hv, .plain (u32s_get hv)⟩
    · cases hb
  maps id m hm := by rw [rootH_getM] at hm; cases hm
  inj id id' r r' h := absurd h (rootH_own hG id)
  glob g hg := ⟨⟨g, 0, 32, 0⟩, if_pos hg, rfl, rfl⟩
  below := Nat.le_refl _

theorem closed_inv {b o l c : Nat} {v' : Value} (hc : c ≠ OPN) (h : VRel ρ (.slice (some ⟨b, o, none⟩) l c) v') : ∃ r o', ρ b = some r ∧ v' = .slice (some ⟨r.blk, o', none⟩) l c ∧ (l ≠ 0 → o' = r.off + o) := by
  cases h with
  | plain hp => simp [plainS] at hp
  | slice hb _ ho => exact ⟨_, _, hb, rfl, fun h => ho (.inl h)⟩
  | sliceO => exact absurd rfl hc

theorem orcN_ok : OrcOk P N orcN := fun k g hk => by cases hk

/-- What the function answers at this argument, wherever it lies. -/
theorem root_calls {k : FuncId} (hmix : P.follows .mixedOrders = true) (hG : P.globals.size ≤ 33554431) {t : TypeId} {r : Rn} {C : Array Value} {fr : Nat × Nat}
    (h0 : w.heap[r.blk]? = some (.cells C t fr)) (hs : C.size = r.size) (hc : ∀ (i : Nat) (v : Value), (u32s rootI)[i]? = some v → C[r.off + i]? = some v)
    (h : (acall P orcN 3000 k [.slice (some ⟨P.globals.size, 0, none⟩) 4 5] (rootH P.globals.size t)).bind rootL = some (2, 2, 251, u32s rootO)) :
    Calls P k #[.slice (some ⟨r.blk, r.off, none⟩) 4 5] w fun e w' => ∃ (g o : Nat) (D : Array Value), e = .returned (.slice (some ⟨g, o, none⟩) 2 2) ∧ Below w.heap.size w w' ∧ w.heap.size ≤ g ∧
      w'.heap[g]? = some (.cells D 251 (0, 0)) ∧ ∀ (i : Nat) (v : Value), (u32s rootO)[i]? = some v → D[o + i]? = some v := by
  obtain ⟨⟨v, H'⟩, hx, hl⟩ := Option.bind_eq_some_iff.1 h
  unfold rootL at hl
  split at hl
  case h_2 => cases hl
  rename_i id o l c hv
  split at hl
  case h_2 => cases hl
  rename_i b hb
  split at hl
  case h_2 => cases hl
  rename_i hro
  have hl := Option.some.inj hl
  simp only [Prod.mk.injEq] at hl
  obtain ⟨rfl, rfl, hel, hcs⟩ := hl
  have hv : v = .slice (some ⟨id, o, none⟩) 2 2 := hv
  subst hv
  have hb : H'.get id = some b := hb
  have hone : OPN ≠ 2 := by decide
  have hfive : (5 : Nat) ≠ OPN := by decide
  have hrel := rootH_rel (w := w) hG h0 hs hc
  refine (acall_sound (N := w.heap.size) hmix orcN_ok hx hrel (args' := [.slice (some ⟨r.blk, r.off, none⟩) 4 5]) ?_ ?_).mono ?_
  · exact LRel.cons (.slice (r := r) (by unfold ρr; rw [if_neg (Nat.lt_irrefl _), if_pos rfl]) hfive (fun _ => rfl)) (LRel.nil _)
  · intro i hi _
    have : P.globals.size + 1 ≤ i := hi
    unfold ρr
    rw [if_neg (by omega), if_neg (by omega)]
  · rintro e w' ⟨v', ρ2, rfl, hvr, hp⟩
    obtain ⟨r2, o2, hr2, rfl, ho2⟩ := closed_inv (fun e => hone e.symm) hvr
    obtain ⟨r3, hr3, D, fr2, hD, _, hcells, _, hN, _⟩ := hp.rel.cells _ _ hb
    rw [hr2] at hr3; cases hr3
    obtain ⟨rfl, hge⟩ := hN hro
    refine ⟨r2.blk, o2, D, rfl, ⟨hp.os, hp.tape, hp.output, hp.size, fun k hk => hp.frame k hk fun ⟨i, _, ho, _, _⟩ => rootH_own hG i ho⟩, hge, by rw [← hel]; exact hD, ?_⟩
    intro i u hu
    rw [← hcs, List.getElem?_take] at hu
    split at hu
    · rw [List.getElem?_drop] at hu
      obtain ⟨u', h1, h2⟩ := hcells _ _ hu
      have hpl : plainS u = true := u32s_get (zs := rootO) (i := i) (by rw [← hcs, List.getElem?_take, if_pos (by assumption), List.getElem?_drop]; exact hu)
      rw [h2.plain_eq hpl] at h1
      rw [ho2 (by decide), Nat.add_assoc]
      exact h1
    · cases hu

theorem rootV2_inv {o : Nat} {l : List Value} {v : Value} (h : rootV2 o l H = some (v, H')) : (l.drop o).take 4 = u32s rootI ∧ ∃ id, H.alloc ⟨u32s rootO, 251, false, 0, false⟩ = some (id, H') ∧ v = .slice (some ⟨id, 0, none⟩) 2 2 := by
  unfold rootV2 at h
  split at h
  case h_2 => cases h
  rename_i zs hz
  split at h
  case isFalse => cases h
  rename_i e
  subst e
  split at h
  case h_2 => cases h
  rename_i id H1 ha
  cases h
  exact ⟨intsU_eq _ _ hz, id, ha, rfl⟩

theorem rootV_ok (hmix : P.follows .mixedOrders = true) (hG : P.globals.size ≤ 33554431) {k : FuncId}
    (hrun : ∀ t, (acall P orcN 3000 k [.slice (some ⟨P.globals.size, 0, none⟩) 4 5] (rootH P.globals.size t)).bind rootL = some (2, 2, 251, u32s rootO)) {args : List Value} {v : Value} (h : rootV args H = some (v, H')) :
    H.next ≤ H'.next ∧ ∀ ρ w args', HRel N P.globals.size ρ H w → LRel ρ args args' → Free ρ H H' →
    Calls P k args'.toArray w fun e w' => ∃ v' ρ', e = .returned v' ∧ VRel ρ' v v' ∧ Post N P.globals.size ρ H w ρ' H' w' := by
  unfold rootV at h
  split at h
  case h_2 => cases h
  rename_i b o
  split at h
  case h_2 => cases h
  rename_i blk hb
  obtain ⟨hcs, id, ha, rfl⟩ := rootV2_inv h
  have hid := AH.alloc_inv ha
  refine ⟨by omega, fun ρ w args' hr hl hf => ?_⟩
  obtain ⟨a1, t1, rfl, h1, hl⟩ := hl.uncons
  have := hl.nil_inv
  subst this
  have hfive : (5 : Nat) ≠ OPN := by decide
  have htwo : (2 : Nat) ≠ OPN := by decide
  obtain ⟨r, o', hρ, rfl, ho⟩ := closed_inv hfive h1
  have ho := ho (by decide)
  subst ho
  obtain ⟨r2, hr2, C, fr, hC, hsz, hcells, _⟩ := hr.cells _ _ hb
  rw [hρ] at hr2; cases hr2
  have hc : ∀ (i : Nat) (v : Value), (u32s rootI)[i]? = some v → C[r.off + o + i]? = some v := by
    intro i u hu
    have hpl := u32s_get hu
    rw [← hcs, List.getElem?_take] at hu
    split at hu
    · rw [List.getElem?_drop] at hu
      obtain ⟨u', h1, h2⟩ := hcells _ _ hu
      rw [h2.plain_eq hpl] at h1
      rw [Nat.add_assoc]
      exact h1
    · cases hu
  refine (root_calls (r := ⟨r.blk, r.off + o, C.size, 0⟩) hmix hG hC rfl hc (hrun _)).mono ?_
  rintro e w' ⟨g, o2, D, rfl, hbl, hge, hD, hcells2⟩
  have hfree : ρ id = none := hf _ (by rw [hid.1]; exact Nat.le_refl _) (by rw [hid.1, hid.2.2.1]; exact Nat.lt_succ_self _)
  refine ⟨_, upd ρ id ⟨g, o2, D.size, 0⟩, rfl, .slice (upd_same ρ _ _) htwo (fun _ => rfl), ?_⟩
  exact laid_part hr hbl ha rfl hfree D 0 hge hD (fun i u hu => ⟨u, hcells2 i u hu, .plain (u32s_get hu)⟩) (fun h => nomatch h)
end

theorem orcW_ok {N : Nat} (hmix : Tryz.prog.follows .mixedOrders = true) (hG : Tryz.prog.globals.size ≤ 33554431) : OrcOk Tryz.prog N orcW := by
  intro k g hk args H v H' h
  unfold orcW at hk
  split at hk
  · rename_i e
    cases hk
    subst e
    exact orcV_ok 261 seqV (by unfold orcV; rw [if_pos rfl]) args H v H' h
  · split at hk
    · rename_i e
      cases hk
      subst e
      exact rootV_ok hmix hG root_runs h
    · cases hk
end Go.Vi
