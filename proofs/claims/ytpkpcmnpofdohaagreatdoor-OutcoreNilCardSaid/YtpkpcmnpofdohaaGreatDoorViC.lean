/- A part of the proof that sparselaw34.OutcoreNil answers true at every input: an evaluator of Go code over an abstract heap, and that it is right. -/
import Derived.Test.YtpkpcmnpofdohaaGreatDoorViB
/-! The evaluator's relation to real worlds. -/
namespace Go.Vi
open Go

/-- Where a block lies: the real block, the offset of its first cell, the real block's size, the cells of one element. -/
structure Rn where
  blk : Nat
  off : Nat
  size : Nat
  esz : Nat

abbrev Rm := Nat → Option Rn

inductive VRel (ρ : Rm) : Value → Value → Prop where
  | plain {v : Value} : plainS v = true → VRel ρ v v
  | ptr {b o : Nat} {r : Rn} : ρ b = some r → VRel ρ (.pointer (some ⟨b, o, none⟩)) (.pointer (some ⟨r.blk, r.off + o, none⟩))
  | slice {b o o' l c : Nat} {r : Rn} : ρ b = some r → c ≠ OPN → (l ≠ 0 ∨ c ≠ 0 → o' = r.off + o) → VRel ρ (.slice (some ⟨b, o, none⟩) l c) (.slice (some ⟨r.blk, o', none⟩) l c)
  | sliceO {b o l o' c' : Nat} {r : Rn} : ρ b = some r → (l ≠ 0 → o' = r.off + o) → l ≤ c' → o' + c' * r.esz ≤ r.size →
      VRel ρ (.slice (some ⟨b, o, none⟩) l OPN) (.slice (some ⟨r.blk, o', none⟩) l c')
  | map {b : Nat} {r : Rn} : ρ b = some r → VRel ρ (.map (some b)) (.map (some r.blk))
  | func {f : FuncId} {xs xs' ys ys' : Array Value} : xs.size = xs'.size → (∀ (i : Nat) (v v' : Value), xs[i]? = some v → xs'[i]? = some v' → VRel ρ v v') →
      ys.size = ys'.size → (∀ (i : Nat) (v v' : Value), ys[i]? = some v → ys'[i]? = some v' → VRel ρ v v') → VRel ρ (.func (.func f) xs ys) (.func (.func f) xs' ys')
  | agg {xs xs' : Array Value} : xs.size = xs'.size → (∀ (i : Nat) (v v' : Value), xs[i]? = some v → xs'[i]? = some v' → VRel ρ v v') → VRel ρ (.agg xs) (.agg xs')
  | tuple {xs xs' : Array Value} : xs.size = xs'.size → (∀ (i : Nat) (v v' : Value), xs[i]? = some v → xs'[i]? = some v' → VRel ρ v v') → VRel ρ (.tuple xs) (.tuple xs')

def Rle (ρ ρ' : Rm) : Prop := ∀ b r, ρ b = some r → ρ' b = some r

theorem Rle.refl (ρ : Rm) : Rle ρ ρ := fun _ _ h => h
theorem Rle.trans {a b c : Rm} (h : Rle a b) (k : Rle b c) : Rle a c := fun i r e => k i r (h i r e)

theorem VRel.mono {ρ ρ' : Rm} (h : Rle ρ ρ') {v v' : Value} (hv : VRel ρ v v') : VRel ρ' v v' := by
  induction hv with
  | plain hp => exact .plain hp
  | ptr hb => exact .ptr (h _ _ hb)
  | slice hb hc ho => exact .slice (h _ _ hb) hc ho
  | sliceO hb h1 h2 h3 => exact .sliceO (h _ _ hb) h1 h2 h3
  | map hb => exact .map (h _ _ hb)
  | func h1 _ h3 _ ih1 ih2 => exact .func h1 ih1 h3 ih2
  | agg h1 _ ih => exact .agg h1 ih
  | tuple h1 _ ih => exact .tuple h1 ih

/-- Lists, cell by cell. -/
def LRel (ρ : Rm) (l l' : List Value) : Prop := l.length = l'.length ∧ ∀ (i : Nat) (v v' : Value), l[i]? = some v → l'[i]? = some v' → VRel ρ v v'

theorem LRel.mono {ρ ρ' : Rm} (h : Rle ρ ρ') {l l' : List Value} (hl : LRel ρ l l') : LRel ρ' l l' :=
  ⟨hl.1, fun i v v' a b => (hl.2 i v v' a b).mono h⟩

theorem LRel.nil (ρ : Rm) : LRel ρ [] [] := ⟨rfl, fun i v v' a _ => by simp at a⟩

theorem LRel.cons {ρ : Rm} {v v' : Value} {l l' : List Value} (h : VRel ρ v v') (hl : LRel ρ l l') : LRel ρ (v :: l) (v' :: l') := by
  refine ⟨by simp [hl.1], fun i u u' a b => ?_⟩
  cases i with
  | zero => simp at a b; subst a; subst b; exact h
  | succ i => simp at a b; exact hl.2 i u u' a b

theorem LRel.uncons {ρ : Rm} {v : Value} {l l' : List Value} (h : LRel ρ (v :: l) l') : ∃ v' t, l' = v' :: t ∧ VRel ρ v v' ∧ LRel ρ l t := by
  cases l' with
  | nil => simp [LRel] at h
  | cons v' t =>
    refine ⟨v', t, rfl, h.2 0 v v' rfl rfl, ?_, fun i a b ha hb => h.2 (i + 1) a b (by simpa using ha) (by simpa using hb)⟩
    have := h.1
    simpa using this

theorem LRel.nil_inv {ρ : Rm} {l' : List Value} (h : LRel ρ [] l') : l' = [] := by
  cases l' with
  | nil => rfl
  | cons v' t => simp [LRel] at h

theorem LRel.some {ρ : Rm} {l l' : List Value} (h : LRel ρ l l') {i : Nat} {v : Value} (hi : l[i]? = some v) : ∃ v', l'[i]? = Option.some v' ∧ VRel ρ v v' := by
  have hlt : i < l.length := (List.getElem?_eq_some_iff.1 hi).1
  have hlt' : i < l'.length := by rw [← h.1]; exact hlt
  exact ⟨l'[i], List.getElem?_eq_getElem hlt', h.2 i v _ hi (List.getElem?_eq_getElem hlt')⟩

theorem undef_rel (ρ : Rm) : VRel ρ undef undef := .tuple rfl fun i v v' a _ => by simp at a

theorem LRel.getD {ρ : Rm} {l l' : List Value} (h : LRel ρ l l') (i : Nat) : VRel ρ (l.getD i undef) (l'.getD i undef) := by
  cases hi : l[i]? with
  | none =>
    have : l'[i]? = none := by rw [List.getElem?_eq_none_iff] at hi ⊢; rw [← h.1]; exact hi
    simp [List.getD, hi, this]; exact undef_rel ρ
  | some v =>
    obtain ⟨v', hv', hr⟩ := h.some hi
    simp [List.getD, hi, hv']; exact hr

theorem LRel.set {ρ : Rm} {l l' : List Value} (h : LRel ρ l l') {v v' : Value} (hv : VRel ρ v v') (d : Nat) : LRel ρ (l.set d v) (l'.set d v') := by
  refine ⟨by simp [h.1], fun i a b ha hb => ?_⟩
  rw [List.getElem?_set] at ha hb
  by_cases hd : d = i
  · rw [if_pos hd] at ha hb
    split at ha
    · split at hb
      · cases ha; cases hb; exact hv
      · cases hb
    · cases ha
  · rw [if_neg hd] at ha hb; exact h.2 i a b ha hb

theorem LRel.append {ρ : Rm} {a a' b b' : List Value} (h : LRel ρ a a') (k : LRel ρ b b') : LRel ρ (a ++ b) (a' ++ b') := by
  refine ⟨by simp [h.1, k.1], fun i u u' hu hu' => ?_⟩
  rw [List.getElem?_append] at hu hu'
  rw [← h.1] at hu'
  split at hu
  · rename_i hlt; rw [if_pos hlt] at hu'; exact h.2 i u u' hu hu'
  · rename_i hlt; rw [if_neg hlt] at hu'; exact k.2 _ u u' hu hu'

theorem LRel.drop {ρ : Rm} {a a' : List Value} (h : LRel ρ a a') (n : Nat) : LRel ρ (a.drop n) (a'.drop n) :=
  ⟨by simp [h.1], fun i u u' hu hu' => h.2 (n + i) u u' (by simpa [List.getElem?_drop] using hu) (by simpa [List.getElem?_drop] using hu')⟩

theorem LRel.take {ρ : Rm} {a a' : List Value} (h : LRel ρ a a') (n : Nat) : LRel ρ (a.take n) (a'.take n) := by
  refine ⟨by simp [h.1], fun i u u' hu hu' => ?_⟩
  rw [List.getElem?_take] at hu hu'
  split at hu
  · rename_i hlt; rw [if_pos hlt] at hu'; exact h.2 i u u' hu hu'
  · cases hu

theorem LRel.replicate {ρ : Rm} {v v' : Value} (h : VRel ρ v v') (n : Nat) : LRel ρ (List.replicate n v) (List.replicate n v') := by
  refine ⟨by simp, fun i u u' hu hu' => ?_⟩
  simp [List.getElem?_replicate] at hu hu'
  obtain ⟨_, rfl⟩ := hu
  obtain ⟨_, rfl⟩ := hu'
  exact h

theorem LRel.refl_plain {ρ : Rm} {l : List Value} (h : l.all plainS = true) : LRel ρ l l := by
  refine ⟨rfl, fun i u u' hu hu' => ?_⟩
  rw [hu] at hu'; cases hu'
  exact .plain (List.all_eq_true.1 h u (List.mem_of_getElem? hu))

theorem VRel.of_agg {ρ : Rm} {xs xs' : Array Value} (h : LRel ρ xs.toList xs'.toList) : VRel ρ (.agg xs) (.agg xs') :=
  .agg (by simpa using h.1) fun i v v' a b => h.2 i v v' (by simpa using a) (by simpa using b)
theorem VRel.of_tuple {ρ : Rm} {xs xs' : Array Value} (h : LRel ρ xs.toList xs'.toList) : VRel ρ (.tuple xs) (.tuple xs') :=
  .tuple (by simpa using h.1) fun i v v' a b => h.2 i v v' (by simpa using a) (by simpa using b)

theorem VRel.plain_eq {ρ : Rm} {v v' : Value} (h : VRel ρ v v') (hp : plainS v = true) : v' = v := by
  cases h <;> first | rfl | (simp [plainS] at hp)

theorem LRel.plain_eq {ρ : Rm} {l l' : List Value} (h : LRel ρ l l') (hp : l.all plainS = true) : l' = l := by
  apply List.ext_getElem?
  intro i
  cases hi : l[i]? with
  | none => rw [List.getElem?_eq_none_iff] at hi ⊢; rw [← h.1]; exact hi
  | some v =>
    obtain ⟨v', hv', hr⟩ := h.some hi
    rw [hv', hr.plain_eq (List.all_eq_true.1 hp v (List.mem_of_getElem? hi))]

theorem VRel.agg_inv {ρ : Rm} {xs : Array Value} {v' : Value} (h : VRel ρ (.agg xs) v') : ∃ xs', v' = .agg xs' ∧ LRel ρ xs.toList xs'.toList := by
  cases h with
  | plain hp => simp [plainS] at hp
  | agg h1 h2 => exact ⟨_, rfl, by simpa using h1, fun i v v' a b => h2 i v v' (by simpa using a) (by simpa using b)⟩

theorem VRel.tuple_inv {ρ : Rm} {xs : Array Value} {v' : Value} (h : VRel ρ (.tuple xs) v') : ∃ xs', v' = .tuple xs' ∧ LRel ρ xs.toList xs'.toList := by
  cases h with
  | plain hp => simp [plainS] at hp
  | tuple h1 h2 => exact ⟨_, rfl, by simpa using h1, fun i v v' a b => h2 i v v' (by simpa using a) (by simpa using b)⟩

theorem VRel.plainV_eq {ρ : Rm} {v v' : Value} (h : VRel ρ v v') (hp : plainV v = true) : v' = v := by
  cases v with
  | agg cs =>
    obtain ⟨xs', rfl, hl⟩ := h.agg_inv
    have := hl.plain_eq (by simpa [plainV] using hp)
    rw [Array.ext' this]
  | tuple cs =>
    obtain ⟨xs', rfl, hl⟩ := h.tuple_inv
    have := hl.plain_eq (by simpa [plainV] using hp)
    rw [Array.ext' this]
  | _ => exact h.plain_eq (by simpa [plainV] using hp)

theorem VRel.refl_plainV {ρ : Rm} {v : Value} (hp : plainV v = true) : VRel ρ v v := by
  cases v with
  | agg cs => exact .of_agg (.refl_plain (by simpa [plainV] using hp))
  | tuple cs => exact .of_tuple (.refl_plain (by simpa [plainV] using hp))
  | _ => exact .plain (by simpa [plainV] using hp)

theorem VRel.cells {ρ : Rm} {v v' : Value} (h : VRel ρ v v') : LRel ρ v.cells.toList v'.cells.toList := by
  cases h with
  | agg h1 h2 =>
    exact ⟨by simpa [Value.cells] using h1, fun i v v' a b => h2 i v v' (by simpa [Value.cells] using a) (by simpa [Value.cells] using b)⟩
  | plain hp =>
    cases v <;> first | (simp [plainS] at hp; done) | exact LRel.cons (.plain hp) (LRel.nil ρ)
  | ptr hb => exact LRel.cons (.ptr hb) (LRel.nil ρ)
  | slice hb hc ho => exact LRel.cons (.slice hb hc ho) (LRel.nil ρ)
  | sliceO hb h1 h2 h3 => exact LRel.cons (.sliceO hb h1 h2 h3) (LRel.nil ρ)
  | map hb => exact LRel.cons (.map hb) (LRel.nil ρ)
  | func h1 h2 h3 h4 => exact LRel.cons (.func h1 h2 h3 h4) (LRel.nil ρ)
  | tuple h1 h2 => exact LRel.cons (.tuple h1 h2) (LRel.nil ρ)

theorem VRel.one {ρ : Rm} {v v' : Value} (h : VRel ρ v v') : v'.oneCell' = v.oneCell' := by
  cases h <;> rfl

/-! ### The trie -/
theorem posF_succ (f n : Nat) : posF (f + 1) n = if n = 0 then .one else if n % 2 = 1 then .l (posF f (n / 2)) else .r (posF f (n / 2 - 1)) := by
  show Bool.rec (motive := fun _ => Pos) (Bool.rec (motive := fun _ => Pos) (Pos.r (posF f (Nat.sub (Nat.div n 2) 1))) (Pos.l (posF f (Nat.div n 2))) (Nat.beq (Nat.mod n 2) 1)) Pos.one (Nat.beq n 0) = _
  by_cases h : n = 0
  · subst h; rfl
  · have h1 : Nat.beq n 0 = false := by
      cases n with
      | zero => exact absurd rfl h
      | succ n => rfl
    rw [h1, if_neg h]
    by_cases h2 : n % 2 = 1
    · have h3 : Nat.beq (Nat.mod n 2) 1 = true := by
        have : Nat.mod n 2 = 1 := h2
        rw [this]; rfl
      rw [h3, if_pos h2]; rfl
    · have h3 : Nat.beq (Nat.mod n 2) 1 = false := by
        have : Nat.mod n 2 = 0 := by
          have h4 : n % 2 = 0 := by omega
          exact h4
        rw [this]; rfl
      rw [h3, if_neg h2]; rfl

theorem posF_inj : ∀ (f j k : Nat), k + 1 < 2 ^ f → posF f j = posF f k → j = k := by
  intro f
  induction f with
  | zero => intro j k h; simp at h
  | succ f ih =>
    intro j k h e
    have hp : 2 ^ (f + 1) = 2 * 2 ^ f := by rw [Nat.pow_succ]; omega
    rw [posF_succ, posF_succ] at e
    by_cases hk : k = 0
    · rw [if_pos hk] at e
      by_cases hj : j = 0
      · omega
      · rw [if_neg hj] at e
        split at e <;> cases e
    · rw [if_neg hk] at e
      by_cases hj : j = 0
      · rw [if_pos hj] at e
        split at e <;> cases e
      · rw [if_neg hj] at e
        by_cases hk2 : k % 2 = 1
        · rw [if_pos hk2] at e
          by_cases hj2 : j % 2 = 1
          · rw [if_pos hj2] at e
            injection e with e
            have := ih _ _ (by omega) e
            omega
          · rw [if_neg hj2] at e; cases e
        · rw [if_neg hk2] at e
          by_cases hj2 : j % 2 = 1
          · rw [if_pos hj2] at e; cases e
          · rw [if_neg hj2] at e
            injection e with e
            have := ih _ _ (by omega) e
            omega

theorem getP_lf {α : Type} (p : Pos) : getP (Tr.lf : Tr α) p = none := rfl

theorem getP_setP_same {α : Type} : ∀ (p : Pos) (t : Tr α) (v : Option α), getP (setP p t v) p = v
  | .one, t, v => by cases t <;> rfl
  | .l p, t, v => by
    cases t with
    | lf => exact getP_setP_same p .lf v
    | nd l x r => exact getP_setP_same p l v
  | .r p, t, v => by
    cases t with
    | lf => exact getP_setP_same p .lf v
    | nd l x r => exact getP_setP_same p r v

theorem getP_setP_ne {α : Type} : ∀ (p q : Pos) (t : Tr α) (v : Option α), q ≠ p → getP (setP p t v) q = getP t q
  | .one, q, t, v, h => by cases t <;> cases q <;> first | exact absurd rfl h | rfl
  | .l p, q, t, v, h => by
    cases t with
    | lf =>
      cases q with
      | one => rfl
      | l q => exact (getP_setP_ne p q .lf v (fun e => h (by rw [e]))).trans rfl
      | r q => rfl
    | nd l x r =>
      cases q with
      | one => rfl
      | l q => exact getP_setP_ne p q l v (fun e => h (by rw [e]))
      | r q => rfl
  | .r p, q, t, v, h => by
    cases t with
    | lf =>
      cases q with
      | one => rfl
      | r q => exact (getP_setP_ne p q .lf v (fun e => h (by rw [e]))).trans rfl
      | l q => rfl
    | nd l x r =>
      cases q with
      | one => rfl
      | r q => exact getP_setP_ne p q r v (fun e => h (by rw [e]))
      | l q => rfl

theorem Tr.get_set {α : Type} (t : Tr α) (k : Nat) (v : Option α) (j : Nat) (h : k + 1 < 67108864) : (t.set k v).get j = if j = k then v else t.get j := by
  unfold Tr.get Tr.set
  by_cases e : j = k
  · subst e
    rw [if_pos rfl, getP_setP_same]
  · rw [if_neg e, getP_setP_ne]
    exact fun e' => e (posF_inj 26 j k (by omega) e')

/-! ### The temporaries -/
def TRel (ρ : Rm) (T : Tm) (tmps : Array Value) : Prop := T.n = tmps.size ∧ T.n ≤ 65000 ∧ ∀ t, VRel ρ (T.get t) (tmps.getD t undef)

theorem TRel.mono {ρ ρ' : Rm} (h : Rle ρ ρ') {T : Tm} {tmps : Array Value} (ht : TRel ρ T tmps) : TRel ρ' T tmps := ⟨ht.1, ht.2.1, fun t => (ht.2.2 t).mono h⟩

theorem Tm.get_set {T : Tm} (hn : T.n ≤ 65000) (d : Nat) (v : Value) (t : Nat) : (T.set d v).get t = if t = d ∧ d < T.n then v else T.get t := by
  unfold Tm.set
  by_cases hd : d < T.n
  · rw [if_pos hd]
    unfold Tm.get
    simp only
    rw [Tr.get_set T.tr d (some v) t (by omega)]
    by_cases e : t = d
    · rw [if_pos e, if_pos ⟨e, hd⟩]
    · rw [if_neg e, if_neg (fun h => e h.1)]
  · rw [if_neg hd, if_neg (fun h => hd h.2)]

theorem TRel.set {ρ : Rm} {T : Tm} {tmps : Array Value} (ht : TRel ρ T tmps) {v v' : Value} (hv : VRel ρ v v') (d : Nat) : TRel ρ (T.set d v) (tmps.setIfInBounds d v') := by
  have hn : (T.set d v).n = T.n := by unfold Tm.set; split <;> rfl
  refine ⟨by rw [hn]; simpa using ht.1, by rw [hn]; exact ht.2.1, fun t => ?_⟩
  rw [Tm.get_set ht.2.1]
  by_cases e : t = d ∧ d < T.n
  · rw [if_pos e]
    obtain ⟨rfl, hd⟩ := e
    have hd' : t < tmps.size := by rw [← ht.1]; exact hd
    have : (tmps.setIfInBounds t v').getD t undef = v' := by
      simp [Array.getD, hd']
    rw [this]; exact hv
  · rw [if_neg e]
    have : (tmps.setIfInBounds d v').getD t undef = tmps.getD t undef := by
      by_cases e1 : t = d
      · subst e1
        have : ¬ t < tmps.size := fun h => e ⟨rfl, by rw [ht.1]; exact h⟩
        simp [Array.getD, this]
      · simp [Array.getD]
        split
        · rw [Array.getElem_setIfInBounds_ne]
          exact fun h => e1 h.symm
        · rfl
    rw [this]; exact ht.2.2 t

/-! ### The heap -/
/-- Blocks that the evaluator may write. -/
def AH.own (H : AH) (id : Nat) : Prop := (∃ b, H.get id = some b ∧ b.ro = false) ∨ ∃ m, H.getM id = some m

def Owned (ρ : Rm) (H : AH) (k : Nat) : Prop := ∃ id r, H.own id ∧ ρ id = some r ∧ r.blk = k

/-- A block of cells, and what lies in the world. -/
def BRel (N : Nat) (ρ : Rm) (b : Blk) (r : Rn) (w : World) : Prop :=
  ∃ (C : Array Value) (fr : Nat × Nat), w.heap[r.blk]? = some (.cells C b.elem fr) ∧ C.size = r.size ∧
    (∀ (i : Nat) (v : Value), b.cells[i]? = some v → ∃ v', C[r.off + i]? = some v' ∧ VRel ρ v v') ∧
    (b.ro = true → r.blk < N) ∧ (b.ro = false → fr = (0, 0) ∧ N ≤ r.blk) ∧ (b.opn = true → r.esz = b.esz)

def ERel (ρ : Rm) (e : Ent) (e' : MapEntry) : Prop := VRel ρ e.key e'.key ∧ VRel ρ e.val e'.val ∧ e'.born = e.born

def ELRel (ρ : Rm) (l : List Ent) (l' : List MapEntry) : Prop :=
  l.length = l'.length ∧ ∀ (i : Nat) (e : Ent) (e' : MapEntry), l[i]? = some e → l'[i]? = some e' → ERel ρ e e'

def MRel (N : Nat) (ρ : Rm) (m : MBlk) (r : Rn) (w : World) : Prop :=
  ∃ es : Array MapEntry, w.heap[r.blk]? = some (.map es m.clock) ∧ ELRel ρ m.es es.toList ∧ N ≤ r.blk

structure HRel (N G : Nat) (ρ : Rm) (H : AH) (w : World) : Prop where
  lim : H.next ≤ 33554432
  glo : G ≤ H.next
  oldC : ∀ id b, H.get id = some b → id < H.next
  oldM : ∀ id m, H.getM id = some m → id < H.next
  cells : ∀ id b, H.get id = some b → ∃ r, ρ id = some r ∧ BRel N ρ b r w
  maps : ∀ id m, H.getM id = some m → ∃ r, ρ id = some r ∧ MRel N ρ m r w
  inj : ∀ id id' r r', H.own id → H.own id' → ρ id = some r → ρ id' = some r' → r.blk = r'.blk → id = id'
  glob : ∀ g, g < G → ∃ r, ρ g = some r ∧ r.blk = g ∧ r.off = 0
  below : N ≤ w.heap.size

theorem Owned.ge {N G : Nat} {ρ : Rm} {H : AH} {w : World} (h : HRel N G ρ H w) {k : Nat} (ho : Owned ρ H k) : N ≤ k ∧ k < w.heap.size := by
  obtain ⟨id, r, ho, hr, rfl⟩ := ho
  rcases ho with ⟨b, hb, hro⟩ | ⟨m, hm⟩
  · obtain ⟨r', hr', C, fr, hc, _, _, _, hN, _⟩ := h.cells id b hb
    rw [hr] at hr'; cases hr'
    exact ⟨(hN hro).2, (Array.getElem?_eq_some_iff.1 hc).1⟩
  · obtain ⟨r', hr', es, hc, _, hN⟩ := h.maps id m hm
    rw [hr] at hr'; cases hr'
    exact ⟨hN, (Array.getElem?_eq_some_iff.1 hc).1⟩

/-- From one state to a later one. -/
structure Post (N G : Nat) (ρ : Rm) (H : AH) (w : World) (ρ' : Rm) (H' : AH) (w' : World) : Prop where
  le : H.next ≤ H'.next
  ext : ∀ i, i < H.next ∨ H'.next ≤ i → ρ' i = ρ i
  rel : HRel N G ρ' H' w'
  size : w.heap.size ≤ w'.heap.size
  frame : ∀ k, k < w.heap.size → ¬ Owned ρ H k → w'.heap[k]? = w.heap[k]?
  own : ∀ k, Owned ρ' H' k → Owned ρ H k ∨ w.heap.size ≤ k
  os : w'.os = w.os
  tape : w'.tape = w.tape
  output : w'.output = w.output

/-- No block has a place yet that will be made between H and H'. -/
def Free (ρ : Rm) (H H' : AH) : Prop := ∀ i, H.next ≤ i → i < H'.next → ρ i = none

theorem Post.rle {N G : Nat} {ρ ρ' : Rm} {H H' : AH} {w w' : World} (h : Post N G ρ H w ρ' H' w') (hf : Free ρ H H') : Rle ρ ρ' := fun i r hi => by
  by_cases h1 : i < H.next
  · rw [h.ext i (.inl h1)]; exact hi
  · by_cases h2 : H'.next ≤ i
    · rw [h.ext i (.inr h2)]; exact hi
    · rw [hf i (by omega) (by omega)] at hi; cases hi

theorem Post.refl {N G : Nat} {ρ : Rm} {H : AH} {w : World} (h : HRel N G ρ H w) : Post N G ρ H w ρ H w :=
  ⟨Nat.le_refl _, fun _ _ => rfl, h, Nat.le_refl _, fun _ _ _ => rfl, fun _ h => .inl h, rfl, rfl, rfl⟩

theorem Post.trans {N G : Nat} {ρ ρ1 ρ2 : Rm} {H H1 H2 : AH} {w w1 w2 : World} (a : Post N G ρ H w ρ1 H1 w1) (b : Post N G ρ1 H1 w1 ρ2 H2 w2) : Post N G ρ H w ρ2 H2 w2 where
  le := Nat.le_trans a.le b.le
  ext i hi := by
    have := a.le; have := b.le
    rw [b.ext i (by omega), a.ext i (by omega)]
  rel := b.rel
  size := Nat.le_trans a.size b.size
  frame k hk ho := by
    have := a.size
    rw [b.frame k (by omega) (fun h => by rcases a.own k h with h | h; exact ho h; omega), a.frame k hk ho]
  own k hk := by
    have := a.size
    rcases b.own k hk with h | h
    · exact a.own k h
    · exact .inr (by omega)
  os := b.os.trans a.os
  tape := b.tape.trans a.tape
  output := b.output.trans a.output

/-- A world whose heap, streams are the same (a draw). -/
theorem Post.drew {N G : Nat} {ρ : Rm} {H : AH} {w : World} (h : HRel N G ρ H w) (n : Nat) : Post N G ρ H w ρ H { w with drawn := n } :=
  ⟨Nat.le_refl _, fun _ _ => rfl, ⟨h.lim, h.glo, h.oldC, h.oldM, h.cells, h.maps, h.inj, h.glob, h.below⟩, Nat.le_refl _, fun _ _ _ => rfl, fun _ h => .inl h, rfl, rfl, rfl⟩

theorem arun_run {α : Type} {P : Program} {e : Sem α} {a : α} (h : arun P e = some a) (w : World) : e.run P w = .ok a w := by
  induction e generalizing w with
  | pure x => simp [arun] at h; subst h; rfl
  | program k ih => simp only [Sem.run]; exact ih P (by simpa [arun] using h) w
  | mark m k ih => simp only [Sem.run]; exact ih (by simpa [arun] using h) w
  | _ => simp [arun] at h

end Go.Vi
