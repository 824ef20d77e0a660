/- A part of the proof that sparselaw34.OutcoreNil answers true at every input: an evaluator of Go code over an abstract heap, and that it is right. -/
import Derived.Test.YtpkpcmnpofdohaaGreatDoorViL
/-! What the evaluator looks at; the plan of a region. -/
namespace Go.Vi
open Go

section
variable {P : Program} {H : AH} {T T2 : Tm} {o : Oper}

/-- The two lists agree at the operation's operands. -/
def Same (o : Oper) (T T2 : Tm) : Prop := ∀ t ∈ tmpsOf o, T.get t = T2.get t

theorem aev_same (h : Same o T T2) {x : Operand} (hx : x ∈ o.op.operands) : aev P T x = aev P T2 x := by
  cases x with
  | tmp t =>
    have : t ∈ tmpsOf o := by
      unfold tmpsOf
      rw [List.mem_filterMap]
      exact ⟨.tmp t, by simpa using hx, rfl⟩
    simp only [aev, h t this]
  | _ => rfl

theorem aevs_same (h : Same o T T2) : ∀ (xs : List Operand), (∀ x ∈ xs, x ∈ o.op.operands) → aevs P T xs = aevs P T2 xs
  | [], _ => rfl
  | x :: xs, hx => by
    simp only [aevs]
    rw [aev_same h (hx x (by simp)), aevs_same h xs (fun y hy => hx y (by simp [hy]))]

theorem aevParts_same (h : Same o T T2) : ∀ (xs : List (Nat × Operand)), (∀ x ∈ xs, x.2 ∈ o.op.operands) → aevParts P T xs = aevParts P T2 xs
  | [], _ => rfl
  | (i, x) :: xs, hx => by
    simp only [aevParts]
    rw [aev_same h (hx (i, x) (by simp)), aevParts_same h xs (fun y hy => hx y (by simp [hy]))]

theorem opt_same (h : Same o T T2) (x : Option Operand) (hx : ∀ z, x = some z → z ∈ o.op.operands) : aevO P T x = aevO P T2 x := by
  cases x with
  | none => rfl
  | some z => simp only [aevO]; rw [aev_same h (hx z rfl)]

theorem apure_same (h : Same o T T2) : apure P H T o = apure P H T2 o := by
  have key : ∀ x, x ∈ o.op.operands → aev P T x = aev P T2 x := fun x hx => aev_same h hx
  have keys : ∀ (xs : Array Operand), (∀ x ∈ xs.toList, x ∈ o.op.operands) → aevs P T xs.toList = aevs P T2 xs.toList := fun xs hx => aevs_same h xs.toList hx
  have keyp : ∀ (xs : Array (Nat × Operand)), (∀ x ∈ xs.toList, x.2 ∈ o.op.operands) → aevParts P T xs.toList = aevParts P T2 xs.toList := fun xs hx => aevParts_same h xs.toList hx
  have keyo : ∀ (x : Option Operand), (∀ z, x = some z → z ∈ o.op.operands) → aevO P T x = aevO P T2 x := fun x hx => opt_same h x hx
  unfold apure
  cases hop : o.op with
  | move x => simp only [key x (by simp [hop, Op.operands])]
  | assign x => simp only [key x (by simp [hop, Op.operands])]
  | pick c x y => simp only [key c (by simp [hop, Op.operands]), key x (by simp [hop, Op.operands]), key y (by simp [hop, Op.operands])]
  | build t ps => simp only [keyp ps (fun x hx => by simp [hop, Op.operands]; exact ⟨x.1, by simpa using hx⟩)]
  | load t x => simp only [key x (by simp [hop, Op.operands])]
  | nilCheck x => simp only [key x (by simp [hop, Op.operands])]
  | binOp op t x y yt => simp only [key x (by simp [hop, Op.operands]), key y (by simp [hop, Op.operands])]
  | unOp op t x => simp only [key x (by simp [hop, Op.operands])]
  | convert s d x => simp only [key x (by simp [hop, Op.operands])]
  | makeFunc fn xs ys => cases fn <;> simp only [keys xs (fun x hx => by simp [hop, Op.operands]; exact .inl (by simpa using hx)), keys ys (fun x hx => by simp [hop, Op.operands]; exact .inr (by simpa using hx))]
  | slice t x lo hi mx =>
    simp only [key x (by simp [hop, Op.operands]), keyo lo (fun z hz => by subst hz; simp [hop, Op.operands]), keyo hi (fun z hz => by subst hz; simp [hop, Op.operands]), keyo mx (fun z hz => by subst hz; simp [hop, Op.operands])]
  | fieldAddr s x f => simp only [key x (by simp [hop, Op.operands])]
  | field s x f => simp only [key x (by simp [hop, Op.operands])]
  | indexAddr t x ix => simp only [key x (by simp [hop, Op.operands]), key ix (by simp [hop, Op.operands])]
  | index t x ix => simp only [key x (by simp [hop, Op.operands]), key ix (by simp [hop, Op.operands])]
  | lookup t x ix ok => simp only [key x (by simp [hop, Op.operands]), key ix (by simp [hop, Op.operands])]
  | extract t ix => simp only [key t (by simp [hop, Op.operands])]
  | call c =>
    obtain ⟨callee, args, ts⟩ := c
    cases callee with
    | builtin b =>
      have hk := keys args (fun x hx => by simp [hop, Op.operands, Call.operands]; simpa using hx)
      cases b <;> simp only [hk]
    | _ => rfl
  | _ => rfl

theorem aalloc_same (h : Same o T T2) : aalloc P T o = aalloc P T2 o := by
  have key : ∀ x, x ∈ o.op.operands → aev P T x = aev P T2 x := fun x hx => aev_same h hx
  have keyp : ∀ (xs : Array (Nat × Operand)), (∀ x ∈ xs.toList, x.2 ∈ o.op.operands) → aevParts P T xs.toList = aevParts P T2 xs.toList := fun xs hx => aevParts_same h xs.toList hx
  unfold aalloc
  cases hop : o.op with
  | box t x => simp only [key x (by simp [hop, Op.operands])]
  | buildSlice t n ps => simp only [keyp ps (fun x hx => by simp [hop, Op.operands]; exact ⟨x.1, by simpa using hx⟩)]
  | makeSlice t l c => simp only [key l (by simp [hop, Op.operands]), key c (by simp [hop, Op.operands])]
  | makeMap t r => cases r <;> rfl
  | _ => rfl

theorem aeff_same (h : Same o T T2) : aeff P H T o = aeff P H T2 o := by
  have key : ∀ x, x ∈ o.op.operands → aev P T x = aev P T2 x := fun x hx => aev_same h hx
  have keys : ∀ (xs : Array Operand), (∀ x ∈ xs.toList, x ∈ o.op.operands) → aevs P T xs.toList = aevs P T2 xs.toList := fun xs hx => aevs_same h xs.toList hx
  unfold aeff
  cases hop : o.op with
  | mapUpdate t m k x => simp only [key m (by simp [hop, Op.operands]), key k (by simp [hop, Op.operands]), key x (by simp [hop, Op.operands])]
  | insert t m k x => simp only [key m (by simp [hop, Op.operands]), key k (by simp [hop, Op.operands]), key x (by simp [hop, Op.operands])]
  | store t p x => simp only [key p (by simp [hop, Op.operands]), key x (by simp [hop, Op.operands])]
  | call c =>
    obtain ⟨callee, args, ts⟩ := c
    cases callee with
    | builtin b =>
      have hk := keys args (fun x hx => by simp [hop, Op.operands, Call.operands]; simpa using hx)
      cases b <;> simp only [hk]
    | _ => rfl
  | _ => rfl

theorem acallee_same (h : Same o T T2) : acallee P T o = acallee P T2 o := by
  have key : ∀ x, x ∈ o.op.operands → aev P T x = aev P T2 x := fun x hx => aev_same h hx
  have keys : ∀ (xs : Array Operand), (∀ x ∈ xs.toList, x ∈ o.op.operands) → aevs P T xs.toList = aevs P T2 xs.toList := fun xs hx => aevs_same h xs.toList hx
  unfold acallee
  cases hop : o.op with
  | call c =>
    obtain ⟨callee, args, ts⟩ := c
    cases callee with
    | value f => simp only [key f (by simp [hop, Op.operands, Call.operands]), keys args (fun x hx => by simp [hop, Op.operands, Call.operands]; exact .inr (by simpa using hx))]
    | _ => rfl
  | _ => rfl

theorem astep_same {call : CallF} (h : Same o T T2) : astep P call T H o = astep P call T2 H o := by
  have hs := comp_spec P o
  unfold astep
  split
  · rename_i f hc
    rw [hc] at hs
    rw [hs.2, hs.2, apure_same h]
  · rename_i f hc
    rw [hc] at hs
    rw [hs.2, hs.2, aalloc_same h]
  · rename_i f hc
    rw [hc] at hs
    rw [hs.2, hs.2, aeff_same h]
  · rename_i f hc
    rw [hc] at hs
    rw [hs.2, hs.2, acallee_same h]
  · rfl

/-- What does not read the heap is the same in every heap. -/
theorem apure_heap {H2 : AH} (h : readsHeap o.op = false) : apure P H T o = apure P H2 T o := by
  unfold apure
  cases hop : o.op with
  | load t x => simp [hop, readsHeap] at h
  | slice t x lo hi mx => simp [hop, readsHeap] at h
  | lookup t x ix ok => simp [hop, readsHeap] at h
  | call c =>
    obtain ⟨callee, args, ts⟩ := c
    cases callee with
    | builtin b => cases b <;> rfl
    | _ => rfl
  | _ => rfl
end

/-! ### Equal values -/
theorem veqS_eq : ∀ {x y : Value}, veqS x y = true → x = y := by
  intro x y h
  cases x <;> cases y <;> simp_all [veqS]

theorem veqL_eq : ∀ {x y : List Value}, veqL x y = true → x = y
  | [], [], _ => rfl
  | [], _ :: _, h => by simp [veqL] at h
  | _ :: _, [], h => by simp [veqL] at h
  | x :: xs, y :: ys, h => by
    simp only [veqL, Bool.and_eq_true] at h
    rw [veqS_eq h.1, veqL_eq h.2]

theorem veq_eq {x y : Value} (h : veq x y = true) : x = y := by
  unfold veq at h
  split at h
  · rw [Array.ext' (veqL_eq h)]
  · rw [Array.ext' (veqL_eq h)]
  · simp only [Bool.and_eq_true, decide_eq_true_eq] at h
    rw [h.1.1, Array.ext' (veqL_eq h.1.2), Array.ext' (veqL_eq h.2)]
  · exact veqS_eq h

/-! ### The masks -/
theorem testBit_maskOf {ms : List Nat} {o : Oper} {j : Nat} :
    (maskOf ms o).testBit j = true ↔ ∃ e ∈ o.after, Region.binds .any e = true ∧ (j = e.on ∨ (ms.getD e.on 0).testBit j = true) := by
  have key : ∀ (l : List Edge) (s : Nat), (l.foldl (fun s e => if Region.binds .any e then s ||| (2 ^ e.on ||| ms.getD e.on 0) else s) s).testBit j = true ↔
      s.testBit j = true ∨ ∃ e ∈ l, Region.binds .any e = true ∧ (j = e.on ∨ (ms.getD e.on 0).testBit j = true) := by
    intro l
    induction l with
    | nil => intro s; simp
    | cons e l ih =>
      intro s
      rw [List.foldl_cons, ih]
      by_cases hb : Region.binds .any e = true
      · rw [if_pos hb, Nat.testBit_or, Nat.testBit_or, Nat.testBit_two_pow]
        simp only [Bool.or_eq_true, decide_eq_true_eq, List.mem_cons, exists_eq_or_imp]
        constructor
        · rintro ((h | h | h) | h)
          · exact .inl h
          · exact .inr (.inl ⟨hb, .inl h.symm⟩)
          · exact .inr (.inl ⟨hb, .inr h⟩)
          · exact .inr (.inr h)
        · rintro (h | ⟨_, h | h⟩ | h)
          · exact .inl (.inl h)
          · exact .inl (.inr (.inl h.symm))
          · exact .inl (.inr (.inr h))
          · exact .inr h
      · rw [if_neg hb]
        simp only [List.mem_cons, exists_eq_or_imp]
        constructor
        · rintro (h | h)
          · exact .inl h
          · exact .inr (.inr h)
        · rintro (h | ⟨h, _⟩ | h)
          · exact .inl h
          · exact absurd h hb
          · exact .inr h
  unfold maskOf
  rw [key]
  simp

theorem masksFrom_spec : ∀ (l : List Oper) (ms : List Nat), ∃ rest : List Nat, masksFrom l ms = ms ++ rest ∧ rest.length = l.length ∧
    ∀ (i : Nat) (o : Oper), l[i]? = some o → rest[i]? = some (maskOf (ms ++ rest.take i) o)
  | [], ms => ⟨[], by simp [masksFrom], rfl, fun i o h => by simp at h⟩
  | o :: l, ms => by
    obtain ⟨rest, h1, h2, h3⟩ := masksFrom_spec l (ms ++ [maskOf ms o])
    refine ⟨maskOf ms o :: rest, by simp [masksFrom, h1], by simp [h2], fun i x hx => ?_⟩
    cases i with
    | zero => simp at hx; subst hx; simp
    | succ i =>
      simp at hx
      have := h3 i x hx
      simp only [List.getElem?_cons_succ, List.take_succ_cons]
      rw [this]
      simp

theorem masks_spec {ops : Array Oper} {i : Nat} {o : Oper} (h : ops[i]? = some o) : (masks ops).getD i 0 = maskOf ((masks ops).take i) o ∧ (masks ops).length = ops.size := by
  obtain ⟨rest, h1, h2, h3⟩ := masksFrom_spec ops.toList []
  simp only [List.nil_append] at h1 h3
  have h4 : masks ops = rest := h1
  rw [h4]
  refine ⟨?_, by rw [h2]; simp⟩
  have := h3 i o (by simpa using h)
  simp [List.getD, this]

/-- What has been carried out holds all that came ahead of it. -/
def Closed (ops : Array Oper) (L : Nat → Prop) : Prop := ∀ i o, ops[i]? = some o → L i → ∀ e ∈ o.after, Region.binds .any e = true → L e.on

theorem masks_listed {ops : Array Oper} {L : Nat → Prop} (hcl : Closed ops L) : ∀ (i : Nat) (o : Oper), ops[i]? = some o → (∀ e ∈ o.after, Region.binds .any e = true → L e.on) →
    ∀ j, ((masks ops).getD i 0).testBit j = true → L j := by
  intro i
  induction i using Nat.strongRecOn with
  | _ i ih =>
    intro o ho hp j hj
    rw [(masks_spec ho).1, testBit_maskOf] at hj
    obtain ⟨e, he, hb, rfl | hj⟩ := hj
    · exact hp e he hb
    · by_cases hlt : e.on < i
      · have hon := hp e he hb
        have hsz : e.on < ops.size := by
          have := (Array.getElem?_eq_some_iff.1 ho).1; omega
        have ho2 : ops[e.on]? = some ops[e.on] := Array.getElem?_eq_getElem hsz
        refine ih e.on hlt _ ho2 (fun e' he' hb' => hcl e.on _ ho2 hon e' he' hb') j ?_
        have : ((masks ops).take i).getD e.on 0 = (masks ops).getD e.on 0 := by
          simp [List.getD, hlt]
        rwa [this] at hj
      · have : ((masks ops).take i).getD e.on 0 = 0 := by
          simp [List.getD, List.getElem?_take, hlt]
        rw [this] at hj
        simp at hj

theorem masks_direct {ops : Array Oper} {i : Nat} {o : Oper} (ho : ops[i]? = some o) {e : Edge} (he : e ∈ o.after) (hb : Region.binds .any e = true) : ((masks ops).getD i 0).testBit e.on = true := by
  rw [(masks_spec ho).1, testBit_maskOf]
  exact ⟨e, he, hb, .inl rfl⟩

end Go.Vi
