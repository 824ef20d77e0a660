/- A part of the proof that sparselaw34.OutcoreNil answers true at every input: an evaluator of Go code over an abstract heap, and that it is right. -/
import Derived.Test.YtpkpcmnpofdohaaGreatDoorViA
/-! The evaluator: regions whose order is open, code, calls (definitions). -/
namespace Go.Vi
open Go
noncomputable section

def maskOf (ms : List Nat) (o : Oper) : Nat :=
  o.after.toList.foldl (fun s e => if Region.binds .any e then s ||| (2 ^ e.on ||| ms.getD e.on 0) else s) 0

def masksFrom : List Oper → List Nat → List Nat
  | [], ms => ms
  | o :: os, ms => masksFrom os (ms ++ [maskOf ms o])

/-- For each operation, those that come ahead of it in every order (as bits). -/
def masks (ops : Array Oper) : List Nat := masksFrom ops.toList []

def Cls.loud : Cls → Bool
  | .eff | .call => true
  | _ => false

def isPure (o : Oper) : Bool := match clsOf o.op with | .pure => true | _ => false
def isLoud (o : Oper) : Bool := (clsOf o.op).loud
def isAlloc (o : Oper) : Bool := match clsOf o.op with | .alloc => true | _ => false

/-- The first operation of a kind that may come next. -/
def nextOf (f : Oper → Bool) (ms : List Nat) (done : Nat) : Nat → List Oper → Option Nat
  | _, [] => none
  | i, o :: os => if !done.testBit i && f o && (ms.getD i 0 &&& done == ms.getD i 0) then some i else nextOf f ms done (i + 1) os

/-- An order in which new blocks come as late as they may. -/
def orderFrom (ops : List Oper) (ms : List Nat) : Nat → Nat → List Nat
  | 0, _ => []
  | n + 1, done =>
    match nextOf isPure ms done 0 ops with
    | some i => i :: orderFrom ops ms n (done ||| 2 ^ i)
    | none => match nextOf isLoud ms done 0 ops with
      | some i => i :: orderFrom ops ms n (done ||| 2 ^ i)
      | none => match nextOf isAlloc ms done 0 ops with
        | some i => i :: orderFrom ops ms n (done ||| 2 ^ i)
        | none => []

def tmpsOf (o : Oper) : List Tmp := o.op.operands.toList.filterMap fun | .tmp t => some t | _ => none

/-- Who writes t comes ahead of operation i in every order, or is it, or comes behind it in every order. -/
def writersOrd (ops : Array Oper) (ms : List Nat) (i : Nat) (t : Tmp) : Bool :=
  (List.range ops.size).all fun j => match ops[j]? with
    | some o => o.dst != some t || (j == i || (ms.getD i 0).testBit j || (ms.getD j 0).testBit i)
    | none => true

def opOk (ops : Array Oper) (ms : List Nat) (i : Nat) : Bool :=
  match ops[i]? with
  | none => false
  | some o =>
    o.after.toList.all (fun e => decide (e.on < ops.size)) && !(ms.getD i 0).testBit i &&
    (tmpsOf o).all (writersOrd ops ms i) &&
    (match o.guard with
     | none => true
     | some (j, _) => match (ops[j]?).bind (·.dst) with
       | none => true
       | some t => writersOrd ops ms i t) &&
    (List.range ops.size).all fun j => i == j || (match o.dst, (ops[j]?).bind (·.dst) with
      | some d, some d' => d != d'
      | _, _ => true)

/-- What comes later in the order is not asked for earlier; what is loud comes behind all that is loud or new ahead of it. -/
def orderOk (ops : Array Oper) (ms : List Nat) : List Nat → Bool
  | [] => true
  | i :: is =>
    (is.all fun j =>
      j != i && !(ms.getD i 0).testBit j &&
      (match ops[i]?, ops[j]? with
       | some a, some b => !(isLoud b && (isLoud a || isAlloc a)) || (ms.getD j 0).testBit i
       | _, _ => false)) && orderOk ops ms is

def planOk (ops : Array Oper) (ms : List Nat) (ord : List Nat) : Bool :=
  ord.length == ops.size && (List.range ops.size).all (ord.contains ·) && (List.range ops.size).all (opOk ops ms) && orderOk ops ms ord

def planOf (ops : Array Oper) : Option (List Nat × List Nat) :=
  let ms := masks ops
  let ord := orderFrom ops.toList ms ops.size 0
  if planOk ops ms ord then some (ms, ord) else none

/-- What became of an operation. -/
inductive Ac where
  | skip
  | pu (v : Value)
  | al (f : Fresh) (id : Nat)
  | ef (v : Value) (H' : AH)

def Ac.val : Ac → Value
  | .skip => undef
  | .pu v => v
  | .al f id => f.val id
  | .ef v _ => v

/-- The operations in the given order; what became of each. -/
def drun (P : Program) (call : CallF) (ops : Array Oper) : List Nat → Tm → AH → Option (Tm × AH × List (Nat × Ac))
  | [], T, H => some (T, H, [])
  | i :: is, T, H => match ops[i]? with
    | none => none
    | some o =>
      if awanted ops T o then
        match comp P o with
        | .pure f => match f H T with
          | some v => match drun P call ops is (putT T o.dst v) H with
            | some (T', H', tr) => some (T', H', (i, .pu v) :: tr)
            | none => none
          | none => none
        | .alloc f => match f T with
          | some f => match H.allocF f with
            | some (id, H1) => match drun P call ops is (putT T o.dst (f.val id)) H1 with
              | some (T', H', tr) => some (T', H', (i, .al f id) :: tr)
              | none => none
            | none => none
          | none => none
        | _ => match astep P call T H o with
          | some (v, H1) => match drun P call ops is (putT T o.dst v) H1 with
            | some (T', H', tr) => some (T', H', (i, .ef v H1) :: tr)
            | none => none
          | none => none
      else match drun P call ops is (putT T o.dst undef) H with
        | some (T', H', tr) => some (T', H', (i, .skip) :: tr)
        | none => none

def veqS : Value → Value → Bool
  | .bool a, .bool b => a == b
  | .int k a, .int l b => decide (k = l) && decide (a = b)
  | .string a, .string b => decide (a = b)
  | .pointer a, .pointer b => decide (a = b)
  | .slice a l c, .slice b m d => decide (a = b) && decide (l = m) && decide (c = d)
  | .map a, .map b => decide (a = b)
  | .nilFunc, .nilFunc => true
  | .nilIface, .nilIface => true
  | _, _ => false

def veqL : List Value → List Value → Bool
  | [], [] => true
  | x :: xs, y :: ys => veqS x y && veqL xs ys
  | _, _ => false

def veq : Value → Value → Bool
  | .agg a, .agg b => veqL a.toList b.toList
  | .tuple a, .tuple b => veqL a.toList b.toList
  | .func (.func f) a b, .func (.func g) c d => decide (f = g) && veqL a.toList c.toList && veqL b.toList d.toList
  | x, y => veqS x y

def readsHeap : Op → Bool
  | .load .. | .slice .. | .lookup .. => true
  | _ => false

def hereOk (P : Program) (H : AH) (T : Tm) (o : Oper) (v : Value) : Bool :=
  match (match comp P o with | .pure f => f H T | _ => none) with
  | some u => veq v u
  | none => false

/-- Does operation i wait for this one, which is loud? -/
def waitsFor (ms : List Nat) (i : Nat) : Nat × Ac → Bool
  | (e, .ef _ _) => (ms.getD i 0).testBit e
  | _ => false

/-- The value of a reading operation is the same at each stage at which it may be carried out. `seen`: none of the loud operations so far waits for i. -/
def stageOk (P : Program) (ms : List Nat) (T : Tm) (i : Nat) (o : Oper) (v : Value) : AH → List (Nat × Ac) → Bool
  | H, tr =>
    (tr.any (waitsFor ms i) || hereOk P H T o v) &&
    go tr
  where
  go : List (Nat × Ac) → Bool
    | [] => true
    | (e, .ef _ H') :: tr =>
      (ms.getD e 0).testBit i || ((tr.any (waitsFor ms i) || hereOk P H' T o v) && go tr)
    | _ :: tr => go tr

def traceOk (P : Program) (ops : Array Oper) (ms : List Nat) (H : AH) (tr0 : List (Nat × Ac)) : Tm → List (Nat × Ac) → Bool
  | _, [] => true
  | T, (i, ac) :: tr => match ops[i]? with
    | some o => (match ac with
        | .pu v => !readsHeap o.op || stageOk P ms T i o v H tr0
        | _ => true) && traceOk P ops ms H tr0 (putT T o.dst ac.val) tr
    | none => false

/-- A region whose order is open. -/
def adraw (P : Program) (call : CallF) (ops : Array Oper) (T : Tm) (H : AH) : Option (Tm × AH) :=
  match planOf ops with
  | some (ms, ord) => match drun P call ops ord T H with
    | some (T', H', tr) => if traceOk P ops ms H tr T tr then some (T', H') else none
    | none => none
  | none => none

def tmFill : Tr Value → Nat → List Value → Tr Value
  | t, _, [] => t
  | t, i, v :: vs => tmFill (t.set i (some v)) (i + 1) vs

/-- The temporaries of a call at its begin. -/
def tmOf (n : Nat) (args : List Value) : Tm := ⟨n, tmFill .lf 0 args⟩

/-- What is known of some functions without a look at their code. -/
abbrev Orc := FuncId → Option (List Value → AH → Option (Value × AH))

/-- A call, given what its body comes to. -/
def acallW (P : Program) (orc : Orc) (body : Code → Tm → AH → Option (Ex × Tm × AH)) : CallF := fun k fn c args H =>
  match orc k with
  | some g => g args H
  | none => if args.length ≤ fn.ntmps ∧ fn.ntmps ≤ 65000 then
      match body c (tmOf fn.ntmps args) H with
      | some (.normal, T, H') => match resA P H' T fn.results.toList with
        | some vs => some (wrapA vs, H')
        | none => none
      | some (.ret, T, H') => match resA P H' T fn.results.toList with
        | some vs => some (wrapA vs, H')
        | none => none
      | _ => none
    else none

/-- A piece of code, given what smaller rounds come to. -/
def aexecF (P : Program) (orc : Orc) (ih : Code → Tm → AH → Option (Ex × Tm × AH)) (c : Code) (T : Tm) (H : AH) : Option (Ex × Tm × AH) :=
  match c with
  | .skip => some (.normal, T, H)
  | .label _ => some (.normal, T, H)
  | .seq x y => match ih x T H with
    | some (.normal, T1, H1) => ih y T1 H1
    | r => r
  | .cond x a b => match aev P T x with
    | some (.bool true) => ih a T H
    | some (.bool false) => ih b T H
    | _ => none
  | .block id b => match ih b T H with
    | some (.exit i, T1, H1) => if i = id then some (.normal, T1, H1) else some (.exit i, T1, H1)
    | r => r
  | .loop b => match ih b T H with
    | some (.normal, T1, H1) => ih (.loop b) T1 H1
    | r => r
  | .exit id => some (.exit id, T, H)
  | .ret => some (.ret, T, H)
  | .region _ ops false => match aops P (acallW P orc ih) ops (List.range ops.size) T H with
    | some (T1, H1) => some (.normal, T1, H1)
    | none => none
  | .region _ ops true => match adraw P (acallW P orc ih) ops T H with
    | some (T1, H1) => some (.normal, T1, H1)
    | none => none
  | _ => none

def aexec (P : Program) (orc : Orc) (n : Nat) : Code → Tm → AH → Option (Ex × Tm × AH) :=
  Nat.rec (motive := fun _ => Code → Tm → AH → Option (Ex × Tm × AH)) (fun _ _ _ => none) (fun _ ih => aexecF P orc ih) n

/-- A call of function f. -/
def acall (P : Program) (orc : Orc) (n : Nat) (f : FuncId) (args : List Value) (H : AH) : Option (Value × AH) :=
  match P.funcs[f]? with
  | some fn => match fn.body with
    | some c => acallW P orc (aexec P orc n) f fn c args H
    | none => none
  | none => none

/-- The heap at first: a block of its own for each package-level variable; what is known of some of them. -/
def heap0 (P : Program) (l : List (Nat × Blk)) : AH := ⟨P.globals.size, l.foldl (fun t x => t.set x.1 (some x.2)) .lf, .lf⟩
end
end Go.Vi
