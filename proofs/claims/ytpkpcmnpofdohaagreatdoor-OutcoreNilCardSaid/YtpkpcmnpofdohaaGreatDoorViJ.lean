/- A part of the proof that sparselaw34.OutcoreNil answers true at every input: an evaluator of Go code over an abstract heap, and that it is right. -/
import Derived.Test.YtpkpcmnpofdohaaGreatDoorViI
/-! The evaluator is right: append, copy, stores. -/
namespace Go.Vi
open Go

section
variable {P : Program} {N G : Nat} {ρ : Rm} {H H' : AH} {w : World} {T : Tm} {a : Act}

theorem lenV_run {x x' : Value} {n : Nat} (hx : VRel ρ x x') (h : lenV x = some n) (w' : World) : (Builtin.lenOf x').run P w' = .ok n w' := by
  unfold lenV at h
  split at h
  · cases h
    cases hx <;> rfl
  · cases h
    rw [hx.plain_eq rfl]; rfl
  · cases h

theorem firstA_sound (hr : HRel N G ρ H w) {size n : Nat} {x x' : Value} {cs : List Value} (hx : VRel ρ x x') (h : firstA H size n x = some cs) (hn : ∀ l, lenV x = some l → n ≤ l) :
    ∃ cs', LRel ρ cs cs' ∧ (∀ w' : World, w'.heap = w.heap → (Builtin.firstCells size n x').run P w' = .ok cs'.toArray w') ∧
      ∀ q l c, x' = .slice (some q) l c → ∀ j v, cs'[j]? = some v → w.cell? (q.add j) = some v := by
  unfold firstA at h
  split at h
  · split at h
    · cases h
      rw [hx.plain_eq rfl]
      exact ⟨[], LRel.nil ρ, fun w' _ => by simp [Builtin.firstCells], fun q l c e => by cases e⟩
    · cases h
  · rename_i b off l c
    obtain ⟨r, o', c', hb, rfl, ho1, ho2, ho3⟩ := hx.slice_inv
    have hnl := hn l rfl
    split at h
    · rename_i h0
      cases h
      exact ⟨[], LRel.nil ρ, fun w' _ => by simp [Builtin.firstCells, h0, loadCells, loadCellsFrom], fun q l c e j v hv => by simp at hv⟩
    · rename_i h0
      split at h
      case h_2 => cases h
      rename_i blk hblk
      split at h
      case isFalse => cases h
      rename_i hle
      cases h
      have hn0 : n ≠ 0 := fun e => h0 (by rw [e, Nat.zero_mul])
      have ho : o' = r.off + off := ho1 (by omega)
      subst ho
      obtain ⟨r', hr', hB⟩ := hr.cells b blk hblk
      rw [hb] at hr'; cases hr'
      obtain ⟨cs', hl, hrange⟩ := read_cells hB hle
      have hlen : cs'.length = n * size := by have := hl.1; simp at this; omega
      refine ⟨cs', hl, fun w' hw => run_firstCells_some w' size n _ l c' cs' hlen (fun j v hv => ?_), fun q l c e j v hv => ?_⟩
      · rw [Addr.add_mid]
        have := hrange j v hv
        rw [← this]
        simp [World.cell?, hw]
      · cases e
        rw [Addr.add_mid]
        exact hrange j v hv
  · rename_i s
    split at h
    · rename_i hs
      cases h
      obtain ⟨rfl, rfl⟩ := hs
      rw [hx.plain_eq rfl]
      refine ⟨byteCells s, LRel.refl_plain ?_, fun w' _ => firstCells_string s w', fun q l c e => by cases e⟩
      rw [List.all_eq_true]
      intro v hv
      obtain ⟨_, _, rfl⟩ := List.mem_map.1 hv
      rfl
    · cases h
  · cases h

theorem src_sound {t : TypeId} {size n : Nat} {x x' : Value} {news news' : List Value} (hx : VRel ρ x x') (hk : srcOk P t x = true) (hl : lenV x = some n)
    (hrel : LRel ρ news news') (hrun : ∀ w' : World, w'.heap = w.heap → (Builtin.firstCells size n x').run P w' = .ok news'.toArray w') (hlen : news.length = n * size) (h1 : news.all (·.oneCell') = true) :
    Src P size t x' n news' w := by
  refine ⟨?_, fun w' => lenV_run hx hl w', hrun w rfl, hrun w.drew rfl, hrel.1.symm.trans hlen, hrel.one h1⟩
  unfold srcOk at hk
  split at hk
  · split at hk
    · rename_i e hu; exact .inl ⟨e, hu⟩
    · cases hk
  · split at hk
    · rename_i hu; exact .inr hu
    · cases hk
  · cases hk

/-- A slice grows in its place: the old block's number is given up. -/
theorem grow_in_place (hr : HRel N G ρ H w) {b id : Nat} {blk : Blk} {r : Rn} {cells news' : List Value} {e : TypeId} {o' p sz : Nat} {C : Array Value}
    (hb : ρ b = some r) (hblk : H.get b = some blk) (hro : blk.ro = false) (_ : blk.elem = e) (hC : w.heap[r.blk]? = some (.cells C e (0, 0))) (hsz : C.size = r.size)
    (ha : (H.put b none).alloc ⟨cells, e, true, sz, false⟩ = some (id, H')) (hf : ρ id = none)
    (hc : ∀ (i : Nat) (v : Value), cells[i]? = some v → ∃ v', (w.setCells r.blk p news').cell? ⟨r.blk, o' + i, none⟩ = some v' ∧ VRel ρ v v') :
    Post N G ρ H w (upd ρ id ⟨r.blk, o', r.size, sz⟩) H' (w.setCells r.blk p news') := by
  obtain ⟨hid, hlt, hnext, hget, hgetM⟩ := AH.alloc_inv ha
  have hlim := hr.lim
  have hbn := hr.oldC b blk hblk
  have hpn : (H.put b none).next = H.next := rfl
  rw [hpn] at hid hlt hnext
  subst hid
  have hget' : ∀ j, H'.get j = if j = H.next then some ⟨cells, e, true, sz, false⟩ else if j = b then none else H.get j := fun j => by
    rw [hget, AH.get_put (by omega)]
  have hgetM' : ∀ j, H'.getM j = H.getM j := fun j => hgetM j
  have hle := upd_rle (⟨r.blk, o', r.size, sz⟩ : Rn) hf
  obtain ⟨C', hC', hCl⟩ := heap_setCells_same news' p w C hC
  obtain ⟨hs1, hs2, hs3, hs4, hs5⟩ := setCells_rest w r.blk news' p w
  have hCsz : C'.size = C.size := by
    rw [← Array.length_toList, hCl, spl_length, Array.length_toList]
  have hownb : H.own b := .inl ⟨blk, hblk, hro⟩
  have hNb : N ≤ r.blk := (Owned.ge hr ⟨b, r, hownb, hb, rfl⟩).1
  have hown' : ∀ j, H'.own j → j = H.next ∨ (j ≠ H.next ∧ j ≠ b ∧ H.own j) := by
    rintro j (⟨x, hx, hx2⟩ | ⟨m, hm⟩)
    · rw [hget'] at hx
      by_cases e1 : j = H.next
      · exact .inl e1
      · rw [if_neg e1] at hx
        by_cases e2 : j = b
        · rw [if_pos e2] at hx; cases hx
        · rw [if_neg e2] at hx; exact .inr ⟨e1, e2, .inl ⟨x, hx, hx2⟩⟩
    · rw [hgetM'] at hm
      refine .inr ⟨by have := hr.oldM j m hm; omega, fun e2 => ?_, .inr ⟨m, hm⟩⟩
      subst e2
      obtain ⟨s, h1, es, h2, _⟩ := hr.maps j m hm
      rw [hb] at h1; cases h1
      rw [hC] at h2; cases h2
  refine ⟨by omega, fun i hi => upd_ne ρ _ (by omega), ⟨by omega, by have := hr.glo; omega, ?_, ?_, ?_, ?_, ?_, ?_, by rw [hs1]; exact hr.below⟩, by rw [hs1]; exact Nat.le_refl _, ?_, ?_, hs2, hs3, hs4⟩
  · intro j x hx
    rw [hget'] at hx
    by_cases e1 : j = H.next
    · omega
    · rw [if_neg e1] at hx
      by_cases e2 : j = b
      · omega
      · rw [if_neg e2] at hx; have := hr.oldC j x hx; omega
  · intro j m hm
    rw [hgetM'] at hm; have := hr.oldM j m hm; omega
  · intro j x hx
    rw [hget'] at hx
    by_cases e1 : j = H.next
    · subst e1
      rw [if_pos rfl] at hx
      cases hx
      refine ⟨_, upd_same ρ _ _, C', (0, 0), hC', hCsz.trans hsz, ?_, (fun h => by cases h), fun _ => ⟨rfl, hNb⟩, fun _ => rfl⟩
      intro i v hi
      obtain ⟨v', h2, h3⟩ := hc i v hi
      rw [cell?_cells hC'] at h2
      exact ⟨v', h2, h3.mono hle⟩
    · rw [if_neg e1] at hx
      by_cases e2 : j = b
      · rw [if_pos e2] at hx; cases hx
      · rw [if_neg e2] at hx
        obtain ⟨s, h2, h3⟩ := hr.cells j x hx
        refine ⟨s, by rw [upd_ne ρ _ e1]; exact h2, h3.later hle (hs5 _ (fun e' => ?_))⟩
        by_cases hxr : x.ro = true
        · obtain ⟨_, _, _, _, _, h4, _⟩ := h3
          have := h4 hxr
          omega
        · exact e2 (hr.inj j b s r (.inl ⟨x, hx, by simpa using hxr⟩) hownb h2 hb e')
  · intro j m hm
    rw [hgetM'] at hm
    obtain ⟨s, h2, h3⟩ := hr.maps j m hm
    refine ⟨s, by rw [upd_ne ρ _ (by have := hr.oldM j m hm; omega)]; exact h2, h3.later hle (hs5 _ (fun e' => ?_))⟩
    obtain ⟨es, h4, _⟩ := h3
    rw [e', hC] at h4
    cases h4
  · intro i j s t hi hj hsi htj hst
    rcases hown' i hi with rfl | ⟨hi1, hi2, hi3⟩ <;> rcases hown' j hj with rfl | ⟨hj1, hj2, hj3⟩
    · rfl
    · rw [upd_same] at hsi; cases hsi
      rw [upd_ne ρ _ hj1] at htj
      exact absurd (hr.inj b j r t hownb hj3 hb htj hst).symm hj2
    · rw [upd_same] at htj; cases htj
      rw [upd_ne ρ _ hi1] at hsi
      exact absurd (hr.inj i b s r hi3 hownb hsi hb hst) hi2
    · rw [upd_ne ρ _ hi1] at hsi
      rw [upd_ne ρ _ hj1] at htj
      exact hr.inj i j s t hi3 hj3 hsi htj hst
  · intro g hg
    obtain ⟨s, h1, h2⟩ := hr.glob g hg
    exact ⟨s, hle g s h1, h2⟩
  · intro k hk hno
    exact hs5 k (fun e => hno ⟨b, r, hownb, hb, e.symm⟩)
  · rintro k ⟨j, s, hj, hs, rfl⟩
    rcases hown' j hj with rfl | ⟨hj1, hj2, hj3⟩
    · rw [upd_same] at hs; cases hs
      exact .inl ⟨b, r, hownb, hb, rfl⟩
    · rw [upd_ne ρ _ hj1] at hs
      exact .inl ⟨j, s, hj3, hs, rfl⟩

/-- A block's number is given up. -/
theorem drop_block (hr : HRel N G ρ H w) (b : Nat) (hb : b < 33554433) : Post N G ρ H w ρ (H.put b none) w := by
  have hget : ∀ j, (H.put b none).get j = if j = b then none else H.get j := AH.get_put hb
  have hown' : ∀ j, (H.put b none).own j → H.own j := by
    rintro j (⟨x, hx, hx2⟩ | ⟨m, hm⟩)
    · rw [hget] at hx
      by_cases e : j = b
      · rw [if_pos e] at hx; cases hx
      · rw [if_neg e] at hx; exact .inl ⟨x, hx, hx2⟩
    · exact .inr ⟨m, hm⟩
  have hin : ∀ j x, (H.put b none).get j = some x → H.get j = some x := fun j x hx => by
    rw [hget] at hx
    by_cases e : j = b
    · rw [if_pos e] at hx; cases hx
    · rw [if_neg e] at hx; exact hx
  exact ⟨Nat.le_refl _, fun _ _ => rfl, ⟨hr.lim, hr.glo, fun j x hx => hr.oldC j x (hin j x hx), hr.oldM, fun j x hx => hr.cells j x (hin j x hx), hr.maps,
    fun i j s t hi hj => hr.inj i j s t (hown' i hi) (hown' j hj), hr.glob, hr.below⟩, Nat.le_refl _, fun _ _ _ => rfl,
    fun k ⟨j, s, hj, hs, e⟩ => .inl ⟨j, s, hown' j hj, hs, e⟩, rfl, rfl, rfl⟩

theorem zeroCells_size (z : Array Value) (n : Nat) : (Builtin.zeroCells z n).size = n * z.size := by simp [Builtin.zeroCells]

/-- The slice that a growing append hands back. -/
theorem grown_sound (hr : HRel N G ρ H w) {e : TypeId} {cells cells' : List Value} {z : Array Value} {len cap sz id : Nat} (ha : H.alloc ⟨cells, e, true, sz, false⟩ = some (id, H')) (hf : ρ id = none)
    (hl : LRel ρ cells cells') (hlen : cells.length = len * sz) (hz : z.size = sz) (hc : len ≤ cap) :
    Post N G ρ H w (upd ρ id ⟨w.heap.size, 0, (cells'.toArray ++ Builtin.zeroCells z (cap - len)).size, sz⟩) H' (w.drew.alloc (.cells (cells'.toArray ++ Builtin.zeroCells z (cap - len)) e)) ∧
    VRel (upd ρ id ⟨w.heap.size, 0, (cells'.toArray ++ Builtin.zeroCells z (cap - len)).size, sz⟩) (.slice (some ⟨id, 0, none⟩) len OPN) (.slice (some ⟨w.heap.size, 0, none⟩) len cap) := by
  have hd : HRel N G ρ H w.drew := (Post.drew hr _).rel
  have hp := alloc_cells (w := w.drew) hd ha rfl hf (cells'.toArray ++ Builtin.zeroCells z (cap - len)) sz (fun i v hv => by
    obtain ⟨v', h1, h2⟩ := hl.some hv
    refine ⟨v', ?_, h2⟩
    have hlt := (List.getElem?_eq_some_iff.1 h1).1
    rw [Array.getElem?_append, if_pos (by simpa using hlt)]
    simpa using h1) (fun _ => rfl)
  refine ⟨(Post.drew hr _).trans hp, ?_⟩
  refine .sliceO (upd_same ρ _ _) (fun _ => rfl) hc ?_
  have : cells'.length = len * sz := hl.1.symm.trans hlen
  simp only [Array.size_append, zeroCells_size, hz, List.size_toArray, this, Nat.zero_add]
  rw [← Nat.add_mul, Nat.add_sub_cancel' hc]
  exact Nat.le_refl _

/-- Growth is asked for less than memory bears. -/
theorem grow_fits {need cap bytes : Nat} (h : cap < need) (hb : (2 * need + 200) * bytes ≤ 140737488355328) : Builtin.nextslicecap need cap * bytes ≤ 281474976710656 := by
  have h1 := nextslicecap_le h
  have h2 : Builtin.nextslicecap need cap * bytes ≤ (2 * need + 200) * bytes := Nat.mul_le_mul_right _ (by omega)
  omega

theorem appendA_sound (hr : HRel N G ρ H w) {ts : Array TypeId} {ty : TypeId} {args args' : List Value} {v : Value} (hx : LRel ρ args args') (h : appendA P H ts args = some (v, H')) (hf : Free ρ H H') :
    ∃ ρ' w' v', (Builtin.append_ ts ty args'.toArray).run P w = .ok v' w' ∧ VRel ρ' v v' ∧ Post N G ρ H w ρ' H' w' := by
  unfold appendA at h
  split at h
  case h_2 => cases h
  rename_i t u base len cap x hts
  have hts' : ts = #[t, u] := by rw [← hts]
  subst hts'
  clear hts
  obtain ⟨s', l1, rfl, hs, hx1⟩ := hx.uncons
  obtain ⟨x', l2, rfl, hxr, hx2⟩ := hx1.uncons
  have := hx2.nil_inv; subst this
  split at h
  case h_2 => cases h
  rename_i e hu
  split at h
  case h_2 => cases h
  rename_i i n hi hlx
  split at h
  case h_2 => cases h
  rename_i news z hfirst hz
  split at h
  case isFalse => cases h
  rename_i hcond
  simp only [Bool.and_eq_true, decide_eq_true_eq] at hcond
  obtain ⟨⟨⟨⟨⟨hsrc, hone⟩, hnl⟩, hbytes⟩, hzs⟩, hneed⟩ := hcond
  obtain ⟨news', hnr, hnrun, _⟩ := firstA_sound hr (P := P) hxr hfirst (fun l hl => by rw [hlx] at hl; cases hl; exact Nat.le_refl _)
  have hS := src_sound (w := w) hxr hsrc hlx hnr hnrun hnl hone
  have hn'l : news'.length = n * i.size := hnr.1.symm.trans hnl
  split at h
  · -- a nil slice
    split at h
    case isFalse => cases h
    rename_i h00
    obtain ⟨rfl, rfl⟩ := h00
    have hs' := hs.plain_eq rfl
    subst hs'
    split at h
    · rename_i hn0
      subst hn0
      cases h
      have hn' : news' = [] := List.length_eq_zero_iff.1 (by rw [hn'l]; simp)
      subst hn'
      refine ⟨ρ, w, .slice none 0 0, ?_, .plain rfl, Post.refl hr⟩
      rcases hS.kind with ⟨e', hk⟩ | hk <;> simp [Builtin.append_, run_underlying hu, run_underlying hk, sizeOf, typeInfo, hi, hS.len, hS.cells]
    · rename_i hn0
      split at h
      case h_2 => cases h
      rename_i id H1 ha
      cases h
      obtain ⟨hid, _, hnx, _, _⟩ := AH.alloc_inv ha
      have hfid : ρ id = none := hf id (by omega) (by omega)
      have hrun := run_append_grow_src (P := P) w t u ty e i z hu hi hz none 0 0 [] (run_firstCells_none w.drew i.size 0 0 0) x' n news' hS (by omega) (by omega) (grow_fits (by omega) (by simpa using hbytes))
      simp only [List.nil_append, Nat.zero_add] at hrun
      have hcap := grownCap_ge w n 0 e
      obtain ⟨hp, hv⟩ := grown_sound (z := z.cells) hr ha hfid hnr hnl hzs hcap
      exact ⟨_, _, _, hrun, hv, hp⟩
  · -- a slice
    rename_i b off
    obtain ⟨r, o', c', hb, rfl, ho1, ho2, ho3⟩ := hs.slice_inv
    split at h
    · -- its capacity is open
      rename_i hO
      subst hO
      obtain ⟨hlc, hroom⟩ := ho3 rfl
      split at h
      · rename_i hn0
        subst hn0
        cases h
        have hn' : news' = [] := List.length_eq_zero_iff.1 (by rw [hn'l]; simp)
        subst hn'
        have hrun := run_append_room_src (P := P) w t u ty e i hu hi r.blk o' len c' x' 0 [] hS (by omega) (fun j hj => by simp at hj) (fun j hj => by simp at hj)
        exact ⟨ρ, w, _, hrun, .sliceO hb ho1 hlc hroom, Post.refl hr⟩
      · rename_i hn0
        split at h
        case h_2 => cases h
        rename_i blk olds hblk holds
        split at h
        case isFalse => cases h
        rename_i hcond
        obtain ⟨hro, hop, hesz, hel, hol⟩ := hcond
        split at h
        case h_2 => cases h
        rename_i id H1 ha
        cases h
        obtain ⟨r', hr', C, fr, hC, hCs, hcell, hroN, hown, hE⟩ := hr.cells b blk hblk
        rw [hb] at hr'; cases hr'
        obtain ⟨rfl, hN⟩ := hown hro
        have hE' : r.esz = i.size := (hE hop).trans hesz
        have hbn := hr.oldC b blk hblk
        have hlim := hr.lim
        obtain ⟨hid, _, hnx, _, _⟩ := AH.alloc_inv ha
        have hpn : (H.put b none).next = H.next := rfl
        rw [hpn] at hid hnx
        have hfid : ρ id = none := hf id (by omega) (by omega)
        obtain ⟨olds', hor, horun, hocell⟩ := firstA_sound hr (P := P) hs holds (fun l hl => by simp [lenV] at hl; omega)
        have hol' : olds'.length = len * i.size := hor.1.symm.trans hol
        by_cases hfit : len + n ≤ c'
        · -- it fits
          have hroom' : o' + (len + n) * i.size ≤ C.size := by
            rw [hE'] at hroom
            have := Nat.mul_le_mul_right i.size hfit
            omega
          have hadd : (len + n) * i.size = len * i.size + n * i.size := Nat.add_mul _ _ _
          have hthere : ∀ j, j < news'.length → (w.cell? ⟨r.blk, o' + len * i.size + j, none⟩).isSome = true := fun j hj => by
            rw [cell?_cells hC, Array.getElem?_eq_getElem (by omega)]; rfl
          have hrun := run_append_room_src (P := P) w t u ty e i hu hi r.blk o' len c' x' n news' hS hfit hthere (fun j hj => by simp [World.frozen?, hC])
          have hp := grow_in_place (sz := i.size) (o' := o') (p := o' + len * i.size) (news' := news') hr hb hblk hro hel (by rw [← hel]; exact hC) hCs ha hfid (fun j v hv => by
            rw [List.getElem?_append] at hv
            split at hv
            · rename_i hj
              obtain ⟨v', hv', hrel⟩ := hor.some hv
              refine ⟨v', ?_, hrel⟩
              rw [World.cell?_setCells_out r.blk news' _ w _ (fun _ _ => .inl (by show o' + j < _; omega))]
              have := hocell _ _ _ rfl j v' hv'
              rwa [Addr.add_mid] at this
            · rename_i hj
              obtain ⟨v', hv', hrel⟩ := hnr.some hv
              have hlt := (List.getElem?_eq_some_iff.1 hv').1
              refine ⟨v', ?_, hrel⟩
              have := World.cell?_setCells_in r.blk news' (o' + len * i.size) w hthere (j - olds.length) hlt
              rw [show o' + len * i.size + (j - olds.length) = o' + j by omega] at this
              rw [this]
              rw [← hv', List.getElem?_eq_getElem hlt])
          refine ⟨_, _, _, hrun, ?_, hp⟩
          refine VRel.sliceO (r := ⟨r.blk, o', r.size, i.size⟩) (upd_same ρ _ _) (fun _ => rfl) hfit ?_
          simp only
          rw [hE'] at hroom
          omega
        · -- it grows
          have hrun := run_append_grow_src (P := P) w t u ty e i z hu hi hz (some ⟨r.blk, o', none⟩) len c' olds' (horun w.drew rfl) x' n news' hS (by omega) (by omega) (grow_fits (by omega) hbytes)
          have hd := drop_block hr b (by omega)
          have hcap := grownCap_ge w (len + n) c' e
          obtain ⟨hp, hv⟩ := grown_sound (z := z.cells) hd.rel ha hfid (hor.append hnr) (by rw [List.length_append, hol, hnl, Nat.add_mul]) hzs hcap
          exact ⟨_, _, _, hrun, hv, hd.trans hp⟩
    · -- its capacity is known
      rename_i hO
      obtain ⟨rfl, ho2⟩ := ho2 hO
      split at h
      · -- it fits
        rename_i hfit
        split at h
        · rename_i hn0
          cases h
          have hn' : news' = [] := List.length_eq_zero_iff.1 (by rw [hn'l]; exact hn0)
          subst hn'
          have hrun := run_append_room_src (P := P) w t u ty e i hu hi r.blk o' len c' x' n [] hS hfit (fun j hj => by simp at hj) (fun j hj => by simp at hj)
          exact ⟨ρ, w, _, hrun, .slice hb hO (fun _ => ho2 (by omega)), Post.refl hr⟩
        · rename_i hn0
          split at h
          case h_2 => cases h
          rename_i H1 hst
          cases h
          have hn1 : n ≠ 0 := fun e => hn0 (by rw [e, Nat.zero_mul])
          have ho := ho2 (by omega)
          subst ho
          obtain ⟨hp, hthere, _⟩ := storeCellsA_sound hr hb hnr hst
          rw [← Nat.add_assoc] at hp hthere
          have hrun := run_append_room_src (P := P) w t u ty e i hu hi r.blk (r.off + off) len c' x' n news' hS hfit (fun j hj => (hthere j hj).1) (fun j hj => (hthere j hj).2)
          exact ⟨ρ, _, _, hrun, .slice hb hO (fun _ => rfl), hp⟩
      · -- it grows
        rename_i hfit
        split at h
        case h_2 => cases h
        rename_i olds holds
        split at h
        case isFalse => cases h
        rename_i hol
        split at h
        case h_2 => cases h
        rename_i id H1 ha
        cases h
        obtain ⟨hid, _, hnx, _, _⟩ := AH.alloc_inv ha
        have hfid : ρ id = none := hf id (by omega) (by omega)
        obtain ⟨olds', hor, horun, _⟩ := firstA_sound hr (P := P) hs holds (fun l hl => by simp [lenV] at hl; omega)
        have hrun := run_append_grow_src (P := P) w t u ty e i z hu hi hz (some ⟨r.blk, o', none⟩) len c' olds' (horun w.drew rfl) x' n news' hS (by omega) (by omega) (grow_fits (by omega) hbytes)
        have hcap := grownCap_ge w (len + n) c' e
        obtain ⟨hp, hv⟩ := grown_sound (z := z.cells) hr ha hfid (hor.append hnr) (by rw [List.length_append, hol, hnl, Nat.add_mul]) hzs hcap
        exact ⟨_, _, _, hrun, hv, hp⟩
  · cases h

theorem copyA_sound (hr : HRel N G ρ H w) {ts : Array TypeId} {ty : TypeId} {args args' : List Value} {v : Value} (hx : LRel ρ args args') (h : copyA P H ts args = some (v, H')) :
    ∃ w' v', (Builtin.copy_ ts ty args'.toArray).run P w = .ok v' w' ∧ VRel ρ v v' ∧ Post N G ρ H w ρ H' w' := by
  unfold copyA at h
  split at h
  case h_2 => cases h
  rename_i t base dLen dCap x ht
  obtain ⟨s', l1, rfl, hs, hx1⟩ := hx.uncons
  obtain ⟨x', l2, rfl, hxr, hx2⟩ := hx1.uncons
  have := hx2.nil_inv; subst this
  split at h
  case h_2 => cases h
  rename_i e hu
  split at h
  case h_2 => cases h
  rename_i i sl hi hlx
  split at h
  case h_2 => cases h
  rename_i cells b1 l1 c1 hfirst
  split at h
  case isFalse => cases h
  rename_i hcond
  obtain ⟨hcl, hone⟩ := hcond
  obtain ⟨cs', hcr, hcrun, _⟩ := firstA_sound hr (P := P) hxr hfirst (fun l hl => by rw [hlx] at hl; cases hl; exact Nat.min_le_left _ _)
  have hc'l : cs'.length = Nat.min sl dLen * i.size := hcr.1.symm.trans hcl
  have hd : ∃ base' dCap', s' = .slice base' dLen dCap' := by
    cases hs with
    | plain hp => exact ⟨_, _, rfl⟩
    | slice _ _ _ => exact ⟨_, _, rfl⟩
    | sliceO _ _ _ _ => exact ⟨_, _, rfl⟩
  split at h
  · rename_i h0
    cases h
    obtain ⟨base', dCap', rfl⟩ := hd
    have hn' : cs' = [] := List.length_eq_zero_iff.1 (hcr.1.symm.trans h0)
    subst hn'
    refine ⟨w, .int .i64 (Nat.min sl dLen : Nat), ?_, .plain rfl, Post.refl hr⟩
    have h1 := lenV_run (P := P) hxr hlx w
    have h2 := hcrun w rfl
    cases base' <;> simp [Builtin.copy_, ht, run_underlying hu, h1, sizeOf, typeInfo, hi, h2, goInt, storeCells]
  · rename_i h0
    split at h
    case h_2 => cases h
    rename_i b off
    split at h
    case h_2 => cases h
    rename_i H1 hst
    cases h
    obtain ⟨r, o', c', hb, rfl, ho1, _, _⟩ := hs.slice_inv
    have hmin : Nat.min sl dLen ≠ 0 := fun e => h0 (by rw [hcl, e, Nat.zero_mul])
    have ho : o' = r.off + off := ho1 (by have h1 : Nat.min sl dLen ≤ dLen := Nat.min_le_right _ _; omega)
    subst ho
    obtain ⟨hp, hthere, hone'⟩ := storeCellsA_sound hr hb hcr hst
    refine ⟨_, .int .i64 (Nat.min sl dLen : Nat), ?_, .plain rfl, hp⟩
    have h1 := lenV_run (P := P) hxr hlx w
    have h2 := hcrun w rfl
    have h3 := run_storeCells_cells (P := P) r.blk (r.off + off) cs' 0 w (fun j hj => by simpa using (hthere j hj).1) (fun j hj => by simpa using (hthere j hj).2) hone'
    simp only [Nat.add_zero] at h3
    simp [Builtin.copy_, ht, run_underlying hu, h1, sizeOf, typeInfo, hi, h2, goInt, h3]

theorem storeA_sound (hr : HRel N G ρ H w) {t : TypeId} {p p' v v' : Value} (hp : VRel ρ p p') (hv : VRel ρ v v') (h : storeA P H t p v = some H') :
    ∃ w', (Instr.storeAt t p' v').run P w = .ok () w' ∧ Post N G ρ H w ρ H' w' := by
  unfold storeA at h
  split at h
  case h_2 => cases h
  rename_i b off i hi
  split at h
  case isFalse => cases h
  rename_i hsz
  obtain ⟨r, hb, rfl⟩ := hp.ptr_inv
  have hcr := hv.cells
  obtain ⟨hpost, hthere, hone⟩ := storeCellsA_sound hr hb hcr h
  refine ⟨_, ?_, hpost⟩
  have hsz' : v'.cells.size = i.size := by have := hcr.1; simp at this; omega
  have h3 := run_storeCells_cells (P := P) r.blk (r.off + off) v'.cells.toList 0 w (fun j hj => by simpa using (hthere j hj).1) (fun j hj => by simpa using (hthere j hj).2) hone
  simp only [Nat.add_zero] at h3
  simp [Instr.storeAt, Instr.sureAddr, storeVar, sizeOf, typeInfo, hi, hsz', h3]
end
end Go.Vi
