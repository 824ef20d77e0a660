/- A part of the proof that sparselaw34.OutcoreNil answers true at every input: an evaluator of Go code over an abstract heap, and that it is right. -/
import Derived.Test.YtpkpcmnpofdohaaGreatDoorViS
import Derived.Test.YtpkpcmnpofdohaaGreatDoorViV0
import Derived.Test.YtpkpcmnpofdohaaGreatDoorViU
/-! slices.AppendSeq over slices.Values, for the evaluator. -/
namespace Go.Vi
open Go Go.RowKit Go.Proofs

theorem intsA_eq : ∀ (l : List Value) (zs : List Int), intsA l = some zs → l = zs.map (Value.int .i64)
  | [], zs, h => by cases h; rfl
  | v :: r, zs, h => by
    unfold intsA at h
    split at h
    · split at h
      · rename_i zs' hz
        cases h
        rw [intsA_eq r zs' hz]; rfl
      · cases h
    · cases h

section
variable {P : Program} {N G : Nat} {ρ : Rm} {H H' : AH} {w w' : World}

theorem HRel.of_below (hr : HRel N G ρ H w) (hb : Below w.heap.size w w') : HRel N G ρ H w' :=
  ⟨hr.lim, hr.glo, hr.oldC, hr.oldM,
   fun id b h => let ⟨r, h1, h2⟩ := hr.cells id b h; ⟨r, h1, h2.later (Rle.refl ρ) (hb.block _ h2.lt)⟩,
   fun id m h => let ⟨r, h1, h2⟩ := hr.maps id m h; ⟨r, h1, h2.later (Rle.refl ρ) (hb.block _ h2.lt)⟩,
   hr.inj, hr.glob, Nat.le_trans hr.below hb.size⟩

theorem Post.of_below (hr : HRel N G ρ H w) (hb : Below w.heap.size w w') : Post N G ρ H w ρ H w' :=
  ⟨Nat.le_refl _, fun _ _ => rfl, hr.of_below hb, hb.size, fun k hk _ => hb.block k hk, fun _ h => .inl h, hb.os, hb.tape, hb.output⟩

/-- A block of cells that a call has laid. -/
theorem laid_cells (hr : HRel N G ρ H w) (hbw : Below w.heap.size w w') {blk : Blk} {id g : Nat} (ha : H.alloc blk = some (id, H')) (hro : blk.ro = false) (hf : ρ id = none) (C : Array Value) (esz : Nat)
    (hg : w.heap.size ≤ g) (hC : w'.heap[g]? = some (.cells C blk.elem (0, 0)))
    (hc : ∀ (i : Nat) (v : Value), blk.cells[i]? = some v → ∃ v', C[i]? = some v' ∧ VRel ρ v v') (hE : blk.opn = true → esz = blk.esz) :
    Post N G ρ H w (upd ρ id ⟨g, 0, C.size, esz⟩) H' w' := by
  obtain ⟨rfl, hlt, hnext, hget, hgetM⟩ := AH.alloc_inv ha
  have hle := upd_rle (⟨g, 0, C.size, esz⟩ : Rn) hf
  have hown : ∀ j, H'.own j → j = H.next ∨ (j ≠ H.next ∧ H.own j) := by
    rintro j (⟨b, hb, hb2⟩ | ⟨m, hm⟩)
    · rw [hget] at hb
      by_cases e : j = H.next
      · exact .inl e
      · rw [if_neg e] at hb; exact .inr ⟨e, .inl ⟨b, hb, hb2⟩⟩
    · rw [hgetM] at hm
      exact .inr ⟨by have := hr.oldM j m hm; omega, .inr ⟨m, hm⟩⟩
  refine ⟨by omega, fun i hi => upd_ne ρ _ (by omega), ⟨by omega, by have := hr.glo; omega, ?_, ?_, ?_, ?_, ?_, ?_, Nat.le_trans hr.below hbw.size⟩, hbw.size, ?_, ?_, hbw.os, hbw.tape, hbw.output⟩
  · intro j b hb
    rw [hget] at hb
    by_cases e : j = H.next
    · omega
    · rw [if_neg e] at hb; have := hr.oldC j b hb; omega
  · intro j m hm
    rw [hgetM] at hm; have := hr.oldM j m hm; omega
  · intro j b hb
    rw [hget] at hb
    by_cases e : j = H.next
    · subst e
      rw [if_pos rfl] at hb
      cases hb
      refine ⟨_, upd_same ρ _ _, C, (0, 0), hC, rfl, ?_, fun h => absurd h (by rw [hro]; decide), fun _ => ⟨rfl, Nat.le_trans hr.below hg⟩, hE⟩
      intro i v hv
      obtain ⟨v', h1, h2⟩ := hc i v hv
      exact ⟨v', by rw [Nat.zero_add]; exact h1, h2.mono hle⟩
    · rw [if_neg e] at hb
      obtain ⟨r, h1, h2⟩ := hr.cells j b hb
      exact ⟨r, by rw [upd_ne ρ _ e]; exact h1, h2.later hle (hbw.block _ h2.lt)⟩
  · intro j m hm
    rw [hgetM] at hm
    obtain ⟨r, h1, h2⟩ := hr.maps j m hm
    exact ⟨r, by rw [upd_ne ρ _ (by have := hr.oldM j m hm; omega)]; exact h1, h2.later hle (hbw.block _ h2.lt)⟩
  · intro i j r s hi hj hri hsj hb
    rcases hown i hi with rfl | ⟨hi1, hi2⟩ <;> rcases hown j hj with rfl | ⟨hj1, hj2⟩
    · rfl
    · rw [upd_same] at hri; cases hri
      rw [upd_ne ρ _ hj1] at hsj
      have := hr.own_lt hj2 hsj
      simp at hb; omega
    · rw [upd_same] at hsj; cases hsj
      rw [upd_ne ρ _ hi1] at hri
      have := hr.own_lt hi2 hri
      simp at hb; omega
    · rw [upd_ne ρ _ hi1] at hri
      rw [upd_ne ρ _ hj1] at hsj
      exact hr.inj i j r s hi2 hj2 hri hsj hb
  · intro g' hg'
    obtain ⟨r, h1, h2⟩ := hr.glob g' hg'
    exact ⟨r, hle g' r h1, h2⟩
  · intro k hk _
    exact hbw.block k hk
  · rintro k ⟨j, r, hj, hrj, rfl⟩
    rcases hown j hj with rfl | ⟨hj1, hj2⟩
    · rw [upd_same] at hrj; cases hrj
      exact .inr hg
    · rw [upd_ne ρ _ hj1] at hrj
      exact .inl ⟨j, r, hj2, hrj, rfl⟩

theorem nil_rel {v' : Value} (h : VRel ρ (.slice none 0 0) v') : v' = .slice none 0 0 := h.plain_eq rfl

theorem func_inv {f : FuncId} {xs ys : Array Value} {v' : Value} (h : VRel ρ (.func (.func f) xs ys) v') :
    ∃ xs' ys', v' = .func (.func f) xs' ys' ∧ xs.size = xs'.size ∧ LRel ρ ys.toList ys'.toList := by
  cases h with
  | plain hp => simp [plainS] at hp
  | func h1 h2 h3 h4 => exact ⟨_, _, rfl, h1, by simpa using h3, fun i v v' a b => h4 i v v' (by simpa using a) (by simpa using b)⟩

theorem ptr_inv {b o : Nat} {v' : Value} (h : VRel ρ (.pointer (some ⟨b, o, none⟩)) v') : ∃ r, ρ b = some r ∧ v' = .pointer (some ⟨r.blk, r.off + o, none⟩) := by
  cases h with
  | plain hp => simp [plainS] at hp
  | ptr hb => exact ⟨_, hb, rfl⟩

theorem slice_inv {b o l c : Nat} {v' : Value} (h : VRel ρ (.slice (some ⟨b, o, none⟩) l c) v') : ∃ r o' c', ρ b = some r ∧ v' = .slice (some ⟨r.blk, o', none⟩) l c' ∧ (l ≠ 0 → o' = r.off + o) := by
  cases h with
  | plain hp => simp [plainS] at hp
  | slice hb hc ho => exact ⟨_, _, _, hb, rfl, fun h => ho (.inl h)⟩
  | sliceO hb h1 h2 h3 => exact ⟨_, _, _, hb, rfl, h1⟩
end

section
variable {N : Nat}

/-- What the call is owed, once the cell that the closure holds is known. -/
theorem seq_call {ρ : Rm} {H H' : AH} {w : World} {Bs oB : Nat} {v sv : Value} {zs : List Int} (hr : HRel N Tryz.prog.globals.size ρ H w) (hf : Free ρ H H') (hB : Bs < w.heap.size) (hc : w.cell? ⟨Bs, oB, none⟩ = some sv)
    (hz : zs.length ≤ 1000) (hI : Vu.Ints w.heap.size w sv zs)
    (h : (zs = [] ∧ v = .slice none 0 0 ∧ H' = H) ∨ (zs ≠ [] ∧ ∃ id, H.alloc ⟨zs.map (Value.int .i64), 3, true, 1, false⟩ = some (id, H') ∧ v = .slice (some ⟨id, 0, none⟩) zs.length OPN)) :
    Calls Tryz.prog 261 #[.slice none 0 0, .func (.func 240) #[] #[.pointer (some ⟨Bs, oB, none⟩)]] w fun e w' => ∃ v' ρ', e = .returned v' ∧ VRel ρ' v v' ∧ Post N Tryz.prog.globals.size ρ H w ρ' H' w' := by
  have hm : (1000 : Nat) ≤ maxLen := by decide
  refine ((callsIn_wide (n := 3)).1 (Vu.append_in Fence.wide 3 trivial trivial rfl (Nat.le_refl _) Bs oB sv zs (by omega) (by omega) w hB hc hI)).mono ?_
  rintro e w' ⟨v', rfl, hrow, hnil, hb⟩
  rcases h with ⟨rfl, rfl, rfl⟩ | ⟨hne, id, ha, rfl⟩
  · have := hnil.2 rfl
    subst this
    exact ⟨_, ρ, rfl, .plain rfl, Post.of_below hr hb⟩
  · rcases hrow.2 with ⟨_, h0⟩ | ⟨g, cap, cur, rfl, hg, hgb, hcap, _, hsz, htake⟩
    · exact absurd (List.eq_nil_of_length_eq_zero h0) hne
    · have hid := AH.alloc_inv ha
      refine ⟨_, upd ρ id ⟨g, 0, cur.size, 1⟩, rfl, .sliceO (upd_same ρ _ _) (fun _ => rfl) hcap (by simp only [Nat.zero_add]; rw [hsz]; exact Nat.le_refl _), ?_⟩
      refine laid_cells hr hb ha rfl (hf _ (by rw [hid.1]; exact Nat.le_refl _) (by rw [hid.1, hid.2.2.1]; exact Nat.lt_succ_self _)) cur 1 hg hgb ?_ (fun _ => rfl)
      intro i u hu
      refine ⟨u, ?_, .plain ?_⟩
      · rw [← htake, List.getElem?_take] at hu
        split at hu
        · simpa using hu
        · cases hu
      · simp only [List.getElem?_map] at hu
        cases hx : zs[i]? with
        | none => rw [hx] at hu; cases hu
        | some x => rw [hx] at hu; cases hu; rfl

theorem cell_of {w : World} {b : Nat} {C : Array Value} {e : TypeId} {fr : Nat × Nat} (h : w.heap[b]? = some (.cells C e fr)) (i : Nat) : w.cell? ⟨b, i, none⟩ = C[i]? := by
  simp [World.cell?, h]

theorem seqV2_ok {ρ : Rm} {H H' : AH} {w : World} {Bs oB : Nat} {v sv sv' : Value} (hr : HRel N Tryz.prog.globals.size ρ H w) (h : seqV2 sv H = some (v, H')) (hB : Bs < w.heap.size)
    (hc : w.cell? ⟨Bs, oB, none⟩ = some sv') (hv : VRel ρ sv sv') : H.next ≤ H'.next ∧ (Free ρ H H' →
    Calls Tryz.prog 261 #[.slice none 0 0, .func (.func 240) #[] #[.pointer (some ⟨Bs, oB, none⟩)]] w fun e w' => ∃ v' ρ', e = .returned v' ∧ VRel ρ' v v' ∧ Post N Tryz.prog.globals.size ρ H w ρ' H' w') := by
  unfold seqV2 at h
  split at h
  · cases h
    have := nil_rel hv
    subst this
    exact ⟨Nat.le_refl _, fun hf => seq_call (zs := []) hr hf hB hc (by simp) (.inl ⟨rfl, rfl⟩) (.inl ⟨rfl, rfl, rfl⟩)⟩
  · rename_i b2 o2 n c
    split at h
    · rename_i blk2 hb2
      unfold seqV3 at h
      split at h
      · rename_i zs hz
        split at h
        · rename_i hn
          obtain ⟨hn, hn1⟩ := hn
          have hzl := intsA_eq _ _ hz
          obtain ⟨r, o', c', hρ, rfl, ho⟩ := slice_inv hv
          obtain ⟨r2, hr2, C, fr, hC, _, hcs, _⟩ := hr.cells _ _ hb2
          rw [hρ] at hr2; cases hr2
          have hI : Vu.Ints w.heap.size w (.slice (some ⟨r.blk, o', none⟩) n c') zs := by
            refine .inr ⟨r.blk, o', c', by rw [hn], (Array.getElem?_eq_some_iff.1 hC).1, fun j hj => ?_⟩
            rw [cell_of hC, ho (by omega)]
            have h1 : ((blk2.cells.drop o2).take n)[j]? = some (.int .i64 zs[j]) := by rw [hzl]; simp [hj]
            rw [List.getElem?_take, if_pos (by omega), List.getElem?_drop] at h1
            obtain ⟨u, hu1, hu2⟩ := hcs _ _ h1
            have := hu2.plain_eq rfl
            subst this
            rw [Nat.add_assoc, hu1]
            simp [hj]
          split at h
          · rename_i h0
            cases h
            have : zs = [] := List.eq_nil_of_length_eq_zero (by omega)
            exact ⟨Nat.le_refl _, fun hf => seq_call hr hf hB hc (by omega) hI (.inl ⟨this, rfl, rfl⟩)⟩
          · rename_i h0
            split at h
            · rename_i id H1 ha
              cases h
              have hne : zs ≠ [] := by intro e; rw [e] at hn; simp at hn; omega
              exact ⟨by have := (AH.alloc_inv ha).2.2.1; omega, fun hf => seq_call hr hf hB hc (by omega) hI (.inr ⟨hne, id, ha, by rw [hn]⟩)⟩
            · cases h
        · cases h
      · cases h
    · cases h
  · cases h

theorem seqV3_next {o n : Nat} {l : List Value} {H H' : AH} {v : Value} (h : seqV3 o n l H = some (v, H')) : H.next ≤ H'.next := by
  unfold seqV3 at h
  split at h
  · split at h
    · split at h
      · cases h; exact Nat.le_refl _
      · split at h
        · rename_i ha
          cases h
          have := (AH.alloc_inv ha).2.2.1; omega
        · cases h
    · cases h
  · cases h

theorem seqV2_next {x : Value} {H H' : AH} {v : Value} (h : seqV2 x H = some (v, H')) : H.next ≤ H'.next := by
  unfold seqV2 at h
  split at h
  · cases h; exact Nat.le_refl _
  · split at h
    · exact seqV3_next h
    · cases h
  · cases h

theorem orcV_ok : OrcOk Tryz.prog N orcV := by
  intro k g hk args H v H' h
  unfold orcV at hk
  split at hk
  case isFalse => cases hk
  rename_i e
  cases hk
  subst e
  unfold seqV at h
  split at h
  case h_2 => cases h
  rename_i f fs cs
  split at h
  case isFalse => cases h
  rename_i hff
  obtain ⟨rfl, hfs⟩ := hff
  split at h
  case h_2 => cases h
  rename_i v1 hcs
  unfold seqV1 at h
  split at h
  case h_2 => cases h
  rename_i b
  split at h
  case h_2 => cases h
  rename_i blk hb
  split at h
  case h_2 => cases h
  rename_i v2 hbc
  refine ⟨seqV2_next h, fun ρ w args' hr hl hf => ?_⟩
  obtain ⟨a1, t1, rfl, h1, hl⟩ := hl.uncons
  obtain ⟨a2, t2, rfl, h2, hl⟩ := hl.uncons
  have := hl.nil_inv
  subst this
  have := nil_rel h1
  subst this
  obtain ⟨fs', cs', rfl, hs, hlc⟩ := func_inv h2
  rw [hcs] at hlc
  obtain ⟨p1, t3, e3, h3, hl3⟩ := hlc.uncons
  have := hl3.nil_inv
  subst this
  obtain ⟨r, hρ, rfl⟩ := ptr_inv h3
  obtain ⟨r2, hr2, C, fr, hC, _, hcells, hro1, _⟩ := hr.cells _ _ hb
  rw [hρ] at hr2; cases hr2
  obtain ⟨sv', hsv1, hsv2⟩ := hcells 0 v2 (by rw [hbc]; rfl)
  have hfs' : fs' = #[] := Array.eq_empty_of_size_eq_zero (by omega)
  subst hfs'
  obtain rfl : cs' = #[.pointer (some ⟨r.blk, r.off + 0, none⟩)] := Array.ext' e3
  exact (seqV2_ok hr h (Array.getElem?_eq_some_iff.1 hC).1 (by rw [cell_of hC]; exact hsv1) hsv2).2 hf
end
end Go.Vi
