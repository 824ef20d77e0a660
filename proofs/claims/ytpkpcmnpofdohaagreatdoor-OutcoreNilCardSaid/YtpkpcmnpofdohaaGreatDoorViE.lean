/- A part of the proof that sparselaw34.OutcoreNil answers true at every input: an evaluator of Go code over an abstract heap, and that it is right. -/
import Derived.Test.YtpkpcmnpofdohaaGreatDoorViD
/-! The evaluator is right: the rest of the operations that change nothing. -/
namespace Go.Vi
open Go

section
variable {P : Program} {N : Nat} {ρ : Rm} {H : AH} {w : World} {T : Tm} {a : Act}

theorem indexA_sound {t : TypeId} {v ix u x y : Value} (hx : VRel ρ v x) (hy : VRel ρ ix y) (h : indexA P t v ix = some u) :
    ∃ u', VRel ρ u u' ∧ (Instr.index t x y).run P w = .ok u' w := by
  unfold indexA at h
  split at h
  · rename_i cs k i
    rw [hy.int_inv]
    obtain ⟨cs', rfl, hl⟩ := hx.agg_inv
    split at h
    case h_2 => cases h
    rename_i len e hu
    split at h
    case h_2 => cases h
    rename_i ti hti
    split at h
    · rename_i hi
      obtain ⟨u', hrel, hrun⟩ := partA_sound (w := w) hl h
      exact ⟨u', hrel, by simp [Instr.index, asIntOf, run_underlying hu, hi, sizeOf, typeInfo, hti, hrun]⟩
    · cases h
  · rename_i s k i
    rw [hy.int_inv, hx.plain_eq rfl]
    split at h
    case h_2 => cases h
    rename_i u0 hu0
    split at h
    case isFalse => cases h
    rename_i hp
    cases h
    exact ⟨u, .plain hp, arun_run hu0 w⟩
  · cases h

theorem boundA_sound {y n : Nat} {v x : Value} {code : BoundsCode} (hx : VRel ρ v x) (h : boundA y v = some n) : n ≤ y ∧ ∀ y', y ≤ y' → (Instr.sliceBound x y' code).run P w = .ok n w := by
  unfold boundA at h
  split at h
  case h_2 => cases h
  rename_i k i
  rw [hx.int_inv]
  split at h
  · rename_i hi
    cases h
    refine ⟨by omega, fun y' hy => ?_⟩
    have : 0 ≤ i ∧ i ≤ (y' : Int) := ⟨hi.1, by omega⟩
    simp [Instr.sliceBound, asIntOf, this]
  · cases h

/-- Optional operands. -/
def ORel (ρ : Rm) : Option Value → Option Value → Prop
  | none, none => True
  | some v, some v' => VRel ρ v v'
  | _, _ => False

def sbM (isSlice : Bool) (cap : Nat) : Option Value → Sem Nat
  | some v => Instr.sliceBound v cap (if isSlice then .slice3Acap else .slice3Alen)
  | none => pure cap
def sbH (isSlice : Bool) (len m : Nat) : Option Value → Option Value → Sem Nat
  | some v, some _ => Instr.sliceBound v m .slice3B
  | some v, none => Instr.sliceBound v m (if isSlice then .sliceAcap else .sliceAlen)
  | none, none => pure len
  | none, some _ => stuck "Slice: max without high"
def sbL (h : Nat) (mx : Option Value) : Option Value → Sem Nat
  | some v => Instr.sliceBound v h (if mx.isSome then .slice3C else .sliceB)
  | none => pure 0

theorem sliceBounds_run {isSlice : Bool} {len cap m h l : Nat} {lo hi mx : Option Value} (h1 : (sbM isSlice cap mx).run P w = .ok m w) (h2 : (sbH isSlice len m hi mx).run P w = .ok h w)
    (h3 : (sbL h mx lo).run P w = .ok l w) : (Instr.sliceBounds isSlice len cap lo hi mx).run P w = .ok (l, h, m) w := by
  unfold Instr.sliceBounds
  cases lo <;> cases hi <;> cases mx <;> simp_all [sbM, sbH, sbL]

theorem boundsA_sound {len cap l h : Nat} {m : Option Nat} {lo hi mx lo' hi' mx' : Option Value} (hlo : ORel ρ lo lo') (hhi : ORel ρ hi hi') (hmx : ORel ρ mx mx')
    (hb : boundsA len cap lo hi mx = some (l, h, m)) (isSlice : Bool) (cap' : Nat) (hcap : cap ≤ cap') (hlen : len ≤ cap) :
    l ≤ h ∧ (m = none → h ≤ cap) ∧ (∀ m', m = some m' → h ≤ m' ∧ m' ≤ cap) ∧
    (Instr.sliceBounds isSlice len cap' lo' hi' mx').run P w = .ok (l, h, m.getD cap') w := by
  unfold boundsA at hb
  split at hb
  · cases hb
  rename_i m0 hm0
  split at hb
  · cases hb
  rename_i h0 hh0
  split at hb
  · cases hb
  rename_i l0 hl0
  cases hb
  have hm : (m = none → mx' = none) ∧ (∀ m', m = some m' → m' ≤ cap) ∧ (sbM isSlice cap' mx').run P w = .ok (m.getD cap') w := by
    cases mx with
    | none =>
      cases mx' with
      | none => simp at hm0; subst hm0; simp [sbM]
      | some v' => exact hmx.elim
    | some v =>
      cases mx' with
      | none => exact hmx.elim
      | some v' =>
        cases hbd : boundA cap v with
        | none => simp [hbd] at hm0
        | some q =>
          simp [hbd] at hm0
          subst hm0
          have := boundA_sound (P := P) (w := w) (code := if isSlice then .slice3Acap else .slice3Alen) hmx hbd
          refine ⟨by simp, fun m' e => by cases e; exact this.1, ?_⟩
          simpa [sbM] using this.2 cap' hcap
  obtain ⟨hm1, hm2, hm3⟩ := hm
  have hmle : m.getD cap ≤ m.getD cap' := by cases m <;> simp [hcap]
  have hh : h ≤ m.getD cap ∧ (sbH isSlice len (m.getD cap') hi' mx').run P w = .ok h w := by
    cases hi with
    | none =>
      cases hi' with
      | some v' => exact hhi.elim
      | none =>
        cases m with
        | some m' => simp at hh0
        | none =>
          simp at hh0
          subst hh0
          rw [hm1 rfl]
          simpa [sbH] using hlen
    | some v =>
      cases hi' with
      | none => exact hhi.elim
      | some v' =>
        simp only at hh0
        have b1 := boundA_sound (P := P) (w := w) (code := .slice3B) hhi hh0
        have b2 := boundA_sound (P := P) (w := w) (code := if isSlice then .sliceAcap else .sliceAlen) hhi hh0
        refine ⟨b1.1, ?_⟩
        cases mx' with
        | none => simpa [sbH] using b2.2 _ hmle
        | some _ => simpa [sbH] using b1.2 _ hmle
  have hl : l ≤ h ∧ (sbL h mx' lo').run P w = .ok l w := by
    cases lo with
    | none =>
      cases lo' with
      | some v' => exact hlo.elim
      | none => simp at hl0; subst hl0; simp [sbL]
    | some v =>
      cases lo' with
      | none => exact hlo.elim
      | some v' =>
        simp only at hl0
        have b1 := boundA_sound (P := P) (w := w) (code := if mx'.isSome then .slice3C else .sliceB) hlo hl0
        exact ⟨b1.1, by simpa [sbL] using b1.2 _ (Nat.le_refl _)⟩
  exact ⟨hl.1, fun e => by subst e; exact hh.1, fun m' e => by subst e; exact ⟨by simpa using hh.1, hm2 m' rfl⟩, sliceBounds_run hm3 hh.2 hl.2⟩

theorem sliceA_sound (hr : HRel N P.globals.size ρ H w) {t : TypeId} {v u x : Value} {lo hi mx lo' hi' mx' : Option Value} (hx : VRel ρ v x) (hlo : ORel ρ lo lo') (hhi : ORel ρ hi hi') (hmx : ORel ρ mx mx')
    (h : sliceA P H t v lo hi mx = some u) :
    ∃ u', VRel ρ u u' ∧ (Instr.sliceAt t x lo' hi' mx').run P w = .ok u' w := by
  unfold sliceA at h
  split at h
  · -- a string
    rename_i s hu
    rw [hx.plain_eq rfl]
    split at h
    case h_2 => cases h
    rename_i l q m hb
    split at h
    · cases h
    · rename_i hmn
      cases h
      cases mx with
      | some _ => simp at hmn
      | none =>
        cases mx' with
        | some _ => exact hmx.elim
        | none =>
          obtain ⟨_, _, _, hrun⟩ := boundsA_sound (P := P) (w := w) hlo hhi (show ORel ρ none none from trivial) hb false s.size (Nat.le_refl _) (Nat.le_refl _)
          exact ⟨.string (s.extract l q), .plain rfl, by simp [Instr.sliceAt, Instr.slice, run_underlying hu, hrun]⟩
  · -- a nil slice
    rename_i e len cap hu
    rw [hx.plain_eq rfl]
    split at h
    case h_2 => cases h
    rename_i l q m ti hb hti
    split at h
    case isFalse => cases h
    rename_i hlc
    cases h
    obtain ⟨_, _, _, hrun⟩ := boundsA_sound (P := P) (w := w) hlo hhi hmx hb true cap (Nat.le_refl _) hlc
    refine ⟨.slice none (q - l) (m.getD cap - l), .plain rfl, ?_⟩
    simp [Instr.sliceAt, Instr.slice, run_underlying hu, hrun, sizeOf, typeInfo, hti]
  · -- a slice
    rename_i e b off len cap hu
    obtain ⟨r, o', c', hρ, rfl, ho1, ho2, ho3⟩ := hx.slice_inv
    split at h
    case h_2 => cases h
    rename_i ti hti
    split at h
    · rename_i hopn
      subst hopn
      obtain ⟨hlc', hroom⟩ := ho3 rfl
      split at h
      · -- a third index
        rename_i l q m hb
        split at h
        case isFalse => cases h
        rename_i hmO
        cases h
        obtain ⟨h1, _, h3, hrun⟩ := boundsA_sound (P := P) (w := w) hlo hhi hmx hb true c' hlc' (Nat.le_refl _)
        obtain ⟨h4, h5⟩ := h3 m rfl
        refine ⟨.slice (some (if m = l then ⟨r.blk, o', none⟩ else ⟨r.blk, o' + l * ti.size, none⟩)) (q - l) (m - l), ?_, ?_⟩
        · by_cases hml : m = l
          · rw [if_pos hml, if_pos hml]
            exact .slice hρ (by omega) (by omega)
          · rw [if_neg hml, if_neg hml]
            rw [ho1 (by omega)]
            exact .slice hρ (by omega) (fun _ => by omega)
        · simp [Instr.sliceAt, Instr.slice, run_underlying hu, hrun, sizeOf, typeInfo, hti, Addr.add_mid]
          split <;> rfl
      · rename_i l q hb
        split at h
        case h_2 => cases h
        rename_i blk hblk
        split at h
        case isFalse => cases h
        rename_i hop
        cases h
        obtain ⟨r', hr', _, _, _, _, _, _, _, hesz⟩ := hr.cells b blk hblk
        rw [hρ] at hr'; cases hr'
        have hE : r.esz = ti.size := (hesz hop.1).trans hop.2
        obtain ⟨h1, h2, _, hrun⟩ := boundsA_sound (P := P) (w := w) hlo hhi hmx hb true c' hlc' (Nat.le_refl _)
        have h2 := h2 rfl
        refine ⟨.slice (some (if c' = l then ⟨r.blk, o', none⟩ else ⟨r.blk, o' + l * ti.size, none⟩)) (q - l) (c' - l), ?_, ?_⟩
        · by_cases hml : c' = l
          · rw [if_pos hml]
            exact .sliceO hρ (fun e => by omega) (by omega) (by rw [hml, Nat.sub_self, Nat.zero_mul]; omega)
          · rw [if_neg hml]
            refine .sliceO hρ (fun e => by rw [ho1 (by omega)]; omega) (by omega) ?_
            rw [hE] at hroom ⊢
            rw [Nat.sub_mul, Nat.add_assoc, Nat.add_sub_cancel' (Nat.mul_le_mul_right _ (by omega))]
            exact hroom
        · simp [Instr.sliceAt, Instr.slice, run_underlying hu, hrun, sizeOf, typeInfo, hti, Addr.add_mid]
          split <;> rfl
      · cases h
    · rename_i hopn
      obtain ⟨rfl, ho2⟩ := ho2 hopn
      split at h
      case h_2 => cases h
      rename_i l q m hb
      split at h
      case isFalse => cases h
      rename_i hlc
      cases h
      obtain ⟨h1, h2, h3, hrun⟩ := boundsA_sound (P := P) (w := w) hlo hhi hmx hb true c' (Nat.le_refl _) hlc.1
      have hmc : m.getD c' ≤ c' ∧ q ≤ m.getD c' := by
        cases m with
        | none => exact ⟨Nat.le_refl _, h2 rfl⟩
        | some m => exact ⟨(h3 m rfl).2, (h3 m rfl).1⟩
      refine ⟨.slice (some (if m.getD c' = l then ⟨r.blk, o', none⟩ else ⟨r.blk, o' + l * ti.size, none⟩)) (q - l) (m.getD c' - l), ?_, ?_⟩
      · by_cases hml : m.getD c' = l
        · rw [if_pos hml, if_pos hml]
          exact .slice hρ (by omega) (by omega)
        · rw [if_neg hml, if_neg hml]
          rw [ho2 (by omega)]
          exact .slice hρ (by omega) (fun _ => by omega)
      · simp [Instr.sliceAt, Instr.slice, run_underlying hu, hrun, sizeOf, typeInfo, hti, Addr.add_mid]
        split <;> rfl
  · -- an array behind a pointer
    rename_i n e b off hu
    obtain ⟨r, hρ, rfl⟩ := hx.ptr_inv
    split at h
    case h_2 => cases h
    rename_i l q m ti hb hti
    split at h
    case isFalse => cases h
    rename_i hnO
    cases h
    obtain ⟨h1, h2, h3, hrun⟩ := boundsA_sound (P := P) (w := w) hlo hhi hmx hb false n (Nat.le_refl _) (Nat.le_refl _)
    have hmc : m.getD n ≤ n ∧ q ≤ m.getD n := by
      cases m with
      | none => exact ⟨Nat.le_refl _, h2 rfl⟩
      | some m => exact ⟨(h3 m rfl).2, (h3 m rfl).1⟩
    refine ⟨.slice (some (if m.getD n = l then ⟨r.blk, r.off + off, none⟩ else ⟨r.blk, r.off + off + l * ti.size, none⟩)) (q - l) (m.getD n - l), ?_, ?_⟩
    · by_cases hml : m.getD n = l
      · rw [if_pos hml, if_pos hml]
        exact .slice hρ (by omega) (by omega)
      · rw [if_neg hml, if_neg hml]
        exact .slice hρ (by omega) (fun _ => by omega)
    · simp [Instr.sliceAt, run_underlying hu, hrun, sizeOf, typeInfo, hti, Addr.add_mid, Instr.sureAddr]
  · cases h

end
end Go.Vi
