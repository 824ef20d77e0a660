/- A part of the proof that sparselaw34.OutcoreNil answers true at every input: an evaluator of Go code over an abstract heap, and that it is right. -/
import Derived.Orders
import Derived.Below
import Derived.Laws.IdiomCopy
import Derived.Deep.AppendSrc
import Derived.Deep.MidRow
import Derived.Deep.Upon
/-! An evaluator of Go code over an abstract heap (definitions). -/
namespace Go.Vi
open Go
noncomputable section

/-- What is known of a block: its first cells (all of them, unless it is open). -/
structure Blk where
  cells : List Value
  elem : TypeId
  opn : Bool
  esz : Nat
  ro : Bool

/-- An entry of a map: key, value, stamp. -/
structure Ent where
  key : Value
  val : Value
  born : Nat

structure MBlk where
  es : List Ent
  clock : Nat

inductive Tr (α : Type) where
  | lf
  | nd (l : Tr α) (v : Option α) (r : Tr α)

/-- Keys as paths. -/
inductive Pos where
  | one
  | l (p : Pos)
  | r (p : Pos)

/-- The path of a number. (By recursors, as the kernel reduces these the soonest.) -/
def posF (f : Nat) : Nat → Pos :=
  Nat.rec (motive := fun _ => Nat → Pos) (fun _ => Pos.one)
    (fun _ ih n => Bool.rec (motive := fun _ => Pos) (Bool.rec (motive := fun _ => Pos) (Pos.r (ih (Nat.sub (Nat.div n 2) 1))) (Pos.l (ih (Nat.div n 2))) (Nat.beq (Nat.mod n 2) 1)) Pos.one (Nat.beq n 0)) f

def getP {α : Type} (t : Tr α) : Pos → Option α :=
  Tr.rec (motive := fun _ => Pos → Option α) (fun _ => none)
    (fun _ v _ ihl ihr p => Pos.rec (motive := fun _ => Option α) v (fun q _ => ihl q) (fun q _ => ihr q) p) t

def setP {α : Type} (p : Pos) : Tr α → Option α → Tr α :=
  Pos.rec (motive := fun _ => Tr α → Option α → Tr α)
    (fun t v => Tr.rec (motive := fun _ => Tr α) (Tr.nd .lf v .lf) (fun l _ r _ _ => Tr.nd l v r) t)
    (fun _ ih t v => Tr.rec (motive := fun _ => Tr α) (Tr.nd (ih .lf v) none .lf) (fun l x r _ _ => Tr.nd (ih l v) x r) t)
    (fun _ ih t v => Tr.rec (motive := fun _ => Tr α) (Tr.nd .lf none (ih .lf v)) (fun l x r _ _ => Tr.nd l x (ih r v)) t) p

def Tr.get {α : Type} (t : Tr α) (k : Nat) : Option α := getP t (posF 26 k)
def Tr.set {α : Type} (t : Tr α) (k : Nat) (v : Option α) : Tr α := setP (posF 26 k) t v

structure AH where
  next : Nat
  tr : Tr Blk
  mp : Tr MBlk

def AH.get (H : AH) (k : Nat) : Option Blk := H.tr.get k
def AH.put (H : AH) (k : Nat) (v : Option Blk) : AH := ⟨H.next, H.tr.set k v, H.mp⟩
def AH.getM (H : AH) (k : Nat) : Option MBlk := H.mp.get k
def AH.putM (H : AH) (k : Nat) (v : MBlk) : AH := ⟨H.next, H.tr, H.mp.set k (some v)⟩
/-- A new block. -/
def AH.alloc (H : AH) (b : Blk) : Option (Nat × AH) :=
  if H.next < 33554432 then some (H.next, ⟨H.next + 1, H.tr.set H.next (some b), H.mp⟩) else none
/-- A new map. -/
def AH.allocM (H : AH) : Option (Nat × AH) :=
  if H.next < 33554432 then some (H.next, ⟨H.next + 1, H.tr, H.mp.set H.next (some ⟨[], 0⟩)⟩) else none

/-- The capacity of a slice that ends where its block ends. -/
def OPN : Nat := 18446744073709551616

/-- Cells from an offset on, overwritten. -/
def spl : List Value → Nat → List Value → List Value
  | cs, _, [] => cs
  | cs, off, v :: vs => spl (cs.set off v) (off + 1) vs

def plainS : Value → Bool
  | .bool _ | .int _ _ | .float _ _ | .complex _ _ _ | .string _ | .nilFunc | .nilIface => true
  | .pointer a => a.isNone
  | .slice a _ _ => a.isNone
  | .map a => a.isNone
  | .chan a => a.isNone
  | _ => false

def plainV : Value → Bool
  | .agg cs => cs.toList.all plainS
  | .tuple cs => cs.toList.all plainS
  | v => plainS v

/-- What a computation that asks for no memory comes to. -/
def arun {α : Type} (P : Program) : Sem α → Option α
  | .pure a => some a
  | .program k => arun P (k P)
  | .mark _ k => arun P k
  | _ => none

/-- The temporaries of a call: how many, what they hold. -/
structure Tm where
  n : Nat
  tr : Tr Value

def Tm.get (T : Tm) (t : Nat) : Value := match T.tr.get t with
  | some v => v
  | none => undef
def Tm.set (T : Tm) (t : Nat) (v : Value) : Tm := if t < T.n then ⟨T.n, T.tr.set t (some v)⟩ else T

def aev (P : Program) (T : Tm) : Operand → Option Value
  | .tmp t => some (T.get t)
  | .const v => if plainV v then some v else none
  | .global g => if g < P.globals.size then some (.pointer (some ⟨g, 0, none⟩)) else none
  | .func f => some (.func (.func f) #[] #[])

def aevs (P : Program) (T : Tm) : List Operand → Option (List Value)
  | [] => some []
  | x :: xs => match aev P T x with
    | none => none
    | some v => match aevs P T xs with
      | none => none
      | some vs => some (v :: vs)

def aevO (P : Program) (T : Tm) : Option Operand → Option (Option Value)
  | none => some none
  | some z => match aev P T z with
    | some v => some (some v)
    | none => none

def aevParts (P : Program) (T : Tm) : List (Nat × Operand) → Option (List (Nat × Value))
  | [] => some []
  | (i, x) :: xs => match aev P T x with
    | none => none
    | some v => match aevParts P T xs with
      | none => none
      | some vs => some ((i, v) :: vs)

def loadA (P : Program) (H : AH) (t : TypeId) : Value → Option Value
  | .pointer (some ⟨b, off, none⟩) => match H.get b with
    | some blk => match P.underlying t, P.info? t with
      | some d, some i =>
        if d.isRow then (if off + i.size ≤ blk.cells.length then some (.agg ((blk.cells.drop off).take i.size).toArray) else none)
        else blk.cells[off]?
      | _, _ => none
    | none => none
  | _ => none

def storeCellsA (H : AH) (b off : Nat) (vs : List Value) : Option AH :=
  match H.get b with
  | some blk => if blk.ro = false ∧ off + vs.length ≤ blk.cells.length ∧ vs.all (·.oneCell') = true then some (H.put b (some { blk with cells := spl blk.cells off vs })) else none
  | none => none

def storeA (P : Program) (H : AH) (t : TypeId) (a v : Value) : Option AH :=
  match a, P.info? t with
  | .pointer (some ⟨b, off, none⟩), some i => if v.cells.size = i.size then storeCellsA H b off v.cells.toList else none
  | _, _ => none

def partA (P : Program) (t : TypeId) (cs : Array Value) (off : Nat) : Option Value :=
  match P.underlying t, P.info? t with
  | some d, some i => if d.isRow then some (.agg (cs.extract off (off + i.size))) else cs[off]?
  | _, _ => none

def fieldAddrA (P : Program) (s : TypeId) (f : Nat) : Value → Option Value
  | .pointer (some ⟨b, off, none⟩) => match P.underlying s with
    | some (.struct fields) => match fields[f]? with
      | some g => match P.info? g.type with
        | some i => if i.size = 0 then none else some (.pointer (some ⟨b, off + g.offset, none⟩))
        | none => none
      | none => none
    | _ => none
  | _ => none

def fieldA (P : Program) (s : TypeId) (f : Nat) : Value → Option Value
  | .agg cs => match P.underlying s with
    | some (.struct fields) => match fields[f]? with
      | some g => partA P g.type cs g.offset
      | none => none
    | _ => none
  | _ => none

def indexAddrA (P : Program) (t : TypeId) : Value → Value → Option Value
  | x, .int _ i => match P.underlying t, x with
    | some (.slice e), .slice (some ⟨b, off, none⟩) len _ => match P.info? e with
      | some ti => if 0 ≤ i ∧ i < len then some (.pointer (some ⟨b, off + i.toNat * ti.size, none⟩)) else none
      | none => none
    | some (.array len e), .pointer (some ⟨b, off, none⟩) => match P.info? e with
      | some ti => if 0 ≤ i ∧ i < len then some (.pointer (some ⟨b, off + i.toNat * ti.size, none⟩)) else none
      | none => none
    | _, _ => none
  | _, _ => none

def indexA (P : Program) (t : TypeId) (x ix : Value) : Option Value :=
  match x, ix with
  | .agg cs, .int _ i => match P.underlying t with
    | some (.array len e) => match P.info? e with
      | some ti => if 0 ≤ i ∧ i < len then partA P e cs (i.toNat * ti.size) else none
      | none => none
    | _ => none
  | .string s, .int k i => match arun P (Instr.index t (.string s) (.int k i)) with
    | some v => if plainS v then some v else none
    | none => none
  | _, _ => none

/-- A bound of a slice expression that lies in 0 .. y. -/
def boundA (y : Nat) : Value → Option Nat
  | .int _ i => if 0 ≤ i ∧ i ≤ y then some i.toNat else none
  | _ => none

/-- low, high and capacity of a slice expression. `cap`: what is known to be there. -/
def boundsA (len cap : Nat) (lo hi mx : Option Value) : Option (Nat × Nat × Option Nat) :=
  match (match mx with | none => some none | some v => (boundA cap v).map some : Option (Option Nat)) with
  | none => none
  | some m => match (match hi with | none => (if m.isSome then none else some len) | some v => boundA (m.getD cap) v : Option Nat) with
    | none => none
    | some h => match (match lo with | none => some 0 | some v => boundA h v : Option Nat) with
      | none => none
      | some l => some (l, h, m)

def sliceA (P : Program) (H : AH) (t : TypeId) (x : Value) (lo hi mx : Option Value) : Option Value :=
  match P.underlying t, x with
  | some .string, .string s => match boundsA s.size s.size lo hi none with
    | some (l, h, _) => if mx.isSome then none else some (.string (s.extract l h))
    | none => none
  | some (.slice e), .slice none len cap => match boundsA len cap lo hi mx, P.info? e with
    | some (l, h, m), some _ => if len ≤ cap then some (.slice none (h - l) (m.getD cap - l)) else none
    | _, _ => none
  | some (.slice e), .slice (some ⟨b, off, none⟩) len cap => match P.info? e with
    | some ti =>
      if cap = OPN then
        match boundsA len len lo hi mx with
        | some (l, h, some m) => if m < OPN then some (.slice (some (if m = l then ⟨b, off, none⟩ else ⟨b, off + l * ti.size, none⟩)) (h - l) (m - l)) else none
        | some (l, h, none) => match H.get b with
          | some blk => if blk.opn = true ∧ blk.esz = ti.size then some (.slice (some ⟨b, off + l * ti.size, none⟩) (h - l) OPN) else none
          | none => none
        | none => none
      else match boundsA len cap lo hi mx with
        | some (l, h, m) => if len ≤ cap ∧ cap < OPN then some (.slice (some (if m.getD cap = l then ⟨b, off, none⟩ else ⟨b, off + l * ti.size, none⟩)) (h - l) (m.getD cap - l)) else none
        | none => none
    | none => none
  | some (.array n e), .pointer (some ⟨b, off, none⟩) => match boundsA n n lo hi mx, P.info? e with
    | some (l, h, m), some ti => if n < OPN then some (.slice (some (if m.getD n = l then ⟨b, off, none⟩ else ⟨b, off + l * ti.size, none⟩)) (h - l) (m.getD n - l)) else none
    | _, _ => none
  | _, _ => none

/-- == of a pointer, a slice, a function with nil. -/
def nilEq (P : Program) (t : TypeId) (x y : Value) : Option Bool :=
  match P.underlying t, x, y with
  | some (.pointer _), .pointer (some _), .pointer none => some false
  | some (.pointer _), .pointer none, .pointer (some _) => some false
  | some (.slice _), .slice (some _) _ _, .slice none _ _ => some false
  | some (.slice _), .slice none _ _, .slice (some _) _ _ => some false
  | some (.func ..), .func _ _ _, .nilFunc => some false
  | some (.func ..), .nilFunc, .func _ _ _ => some false
  | _, _, _ => none

def binA (P : Program) (op : BinOp) (t : TypeId) (xo yo : Operand) (x y : Value) : Option Value :=
  if plainV x && plainV y then
    match arun P (do eqGuard op t xo yo x y; binOp op t x y) with
    | some v => if plainS v then some v else none
    | none => none
  else match nilEq P t x y with
    | some b => match op with
      | .eql => some (.bool b)
      | .neq => some (.bool (!b))
      | _ => none
    | none => none

def lenA (P : Program) (ts : Array TypeId) (args : List Value) : Option Value :=
  match ts[0]?, args with
  | some t, [.slice _ n _] => match P.underlying t with
    | some (.slice _) => some (.int .i64 n)
    | _ => none
  | some t, [.string s] => match P.underlying t with
    | some .string => some (.int .i64 s.size)
    | _ => none
  | _, _ => none

def allPlain (vs : List Value) : Bool := vs.all plainS
def guardS (x : Option Value) : Option Value := match x with | some v => if plainS v then some v else none | none => none

/-- The first entry of a map with an integer key. -/
def findA (k : IntKind) (n : Int) : List Ent → Option Ent
  | [] => none
  | e :: es => match e.key with
    | .int j m => if j = k ∧ n = m then some e else findA k n es
    | _ => findA k n es

/-- Are all keys of the map integers of this kind? -/
def keysOk (k : IntKind) (es : List Ent) : Bool := es.all fun e => match e.key with | .int j _ => decide (j = k) | _ => false

def lookupA (P : Program) (H : AH) (t : TypeId) (m x : Value) (ok : Bool) : Option Value :=
  match P.underlying t, m, x with
  | some (.map kt et), .map r, .int k n => match P.underlying kt, (P.info? et).bind (·.zero) with
    | some (.int _), some z =>
      match (match r with | none => some [] | some id => (H.getM id).map (·.es) : Option (List Ent)) with
      | some es =>
        if keysOk k es ∧ plainV z = true then
          match findA k n es with
          | some e => some (if ok then .tuple #[e.val, .bool true] else e.val)
          | none => some (if ok then .tuple #[z, .bool false] else z)
        else none
      | none => none
    | _, _ => none
  | _, _, _ => none

/-- An entry is stored. -/
def updA (k : IntKind) (n : Int) (v : Value) (clock : Nat) : List Ent → List Ent
  | [] => [⟨.int k n, v, clock⟩]
  | e :: es => match e.key with
    | .int j m => if j = k ∧ n = m then ⟨.int k n, v, e.born⟩ :: es else e :: updA k n v clock es
    | _ => e :: updA k n v clock es

def mapUpdateA (P : Program) (H : AH) (t : TypeId) (m x v : Value) : Option AH :=
  match P.underlying t, m, x with
  | some (.map kt _), .map (some id), .int k n => match P.underlying kt, H.getM id with
    | some (.int _), some b =>
      if keysOk k b.es then some (H.putM id ⟨updA k n v b.clock b.es, if (findA k n b.es).isSome then b.clock else b.clock + 1⟩) else none
    | _, _ => none
  | _, _, _ => none

/-- Operations that change nothing. -/
def apure (P : Program) (H : AH) (T : Tm) (o : Oper) : Option Value :=
  match o.op with
  | .move x | .assign x => aev P T x
  | .pick c a b => match aev P T c with
    | some (.bool true) => aev P T a
    | some (.bool false) => aev P T b
    | _ => none
  | .build t parts => match aevParts P T parts.toList with
    | some ps => match P.info? t, P.underlying t with
      | some i, some (.struct fields) => match i.zero, arun P (fields.mapM fun f => do pure (f.offset, ← sizeOf f.type)) with
        | some z, some places => if z.cells.toList.all plainS then (Instr.fill (places[·]?) z.cells ps).map .agg else none
        | _, _ => none
      | some i, some (.array _ elem) => match i.zero, P.info? elem with
        | some z, some ei => if z.cells.toList.all plainS then (Instr.fill (fun i => some (i * ei.size, ei.size)) z.cells ps).map .agg else none
        | _, _ => none
      | _, _ => none
    | none => none
  | .load t a => match aev P T a with
    | some v => loadA P H t v
    | none => none
  | .nilCheck x => match aev P T x with
    | some (.pointer (some a)) => some (.pointer (some a))
    | some (.func (.func f) x y) => some (.func (.func f) x y)
    | _ => none
  | .binOp op t x y _ => match aev P T x, aev P T y with
    | some a, some b => binA P op t x y a b
    | _, _ => none
  | .unOp op _ x => match aev P T x with
    | some v => if plainS v then guardS (arun P (Op.unary op v)) else none
    | none => none
  | .convert src dst x => match aev P T x with
    | some v => if plainS v then guardS (arun P (convert src dst v)) else none
    | none => none
  | .makeFunc fn first captured => match fn, aevs P T first.toList, aevs P T captured.toList with
    | .func f, some xs, some ys => some (.func (.func f) xs.toArray ys.toArray)
    | _, _, _ => none
  | .slice t x lo hi mx => match aev P T x with
    | some v => match aevO P T lo, aevO P T hi, aevO P T mx with
      | some lo, some hi, some mx => sliceA P H t v lo hi mx
      | _, _, _ => none
    | none => none
  | .fieldAddr s x f => match aev P T x with
    | some v => fieldAddrA P s f v
    | none => none
  | .field s x f => match aev P T x with
    | some v => fieldA P s f v
    | none => none
  | .indexAddr t x ix => match aev P T x, aev P T ix with
    | some v, some i => indexAddrA P t v i
    | _, _ => none
  | .index t x ix => match aev P T x, aev P T ix with
    | some v, some i => indexA P t v i
    | _, _ => none
  | .lookup t m x ok => match aev P T m, aev P T x with
    | some mv, some xv => lookupA P H t mv xv ok
    | _, _ => none
  | .extract t ix => match aev P T t with
    | some (.tuple vs) => vs[ix]?
    | _ => none
  | .call { callee := .builtin .len, args, argTypes } => match aevs P T args.toList with
    | some vs => lenA P argTypes vs
    | none => none
  | .call { callee := .builtin .min, args, argTypes } => match aevs P T args.toList with
    | some vs => if allPlain vs then guardS (arun P (Builtin.min_ argTypes o.type vs.toArray)) else none
    | none => none
  | .call { callee := .builtin .max, args, argTypes } => match aevs P T args.toList with
    | some vs => if allPlain vs then guardS (arun P (Builtin.max_ argTypes o.type vs.toArray)) else none
    | none => none
  | _ => none

/-- What an operation that makes a block makes: a map, or cells, their type, the value out of the block's number. -/
inductive Fresh where
  | map
  | cells (cells : List Value) (elem : TypeId) (sl : Option (Nat × Nat))

def Fresh.val : Fresh → Nat → Value
  | .map, id => .map (some id)
  | .cells _ _ none, id => .pointer (some ⟨id, 0, none⟩)
  | .cells _ _ (some (l, c)), id => .slice (some ⟨id, 0, none⟩) l c

def AH.allocF (H : AH) : Fresh → Option (Nat × AH)
  | .map => H.allocM
  | .cells cs e _ => H.alloc ⟨cs, e, false, 0, false⟩

def repl (zero : Array Value) (n : Nat) : Array Value := (Array.range n).map fun i => zero[i % zero.size]!

def aalloc (P : Program) (T : Tm) (o : Oper) : Option Fresh :=
  match o.op with
  | .alloc elem => match P.info? elem with
    | some i => match i.zero with
      | some z => if z.cells.toList.all plainS then some (.cells z.cells.toList elem none) else none
      | none => none
    | none => none
  | .box elem x => match aev P T x with
    | some v => some (.cells v.cells.toList elem none)
    | none => none
  | .buildSlice t len parts => match aevParts P T parts.toList with
    | some ps => match P.underlying t with
      | some (.slice elem) => match P.info? elem with
        | some i =>
          if len * i.size > 16777216 ∨ OPN ≤ len then none else
          match (if len * i.size = 0 then some #[] else i.zero.map (·.cells) : Option (Array Value)) with
          | some z => if z.toList.all plainS = true ∧ (len * i.size = 0 ∨ 0 < z.size) then
              match Instr.fill (fun j => some (j * i.size, i.size)) (repl z (len * i.size)) ps with
              | some cells => some (.cells cells.toList elem (some (len, len)))
              | none => none
            else none
          | none => none
        | none => none
      | _ => none
    | none => none
  | .makeSlice t l c => match aev P T l, aev P T c, P.underlying t with
    | some (.int _ l), some (.int _ c), some (.slice elem) => match P.info? elem with
      | some i =>
        if 0 ≤ l ∧ l ≤ c ∧ c < 9223372036854775808 ∧ i.bytes * c ≤ 281474976710656 then
          match (if c.toNat * i.size = 0 then some #[] else i.zero.map (·.cells) : Option (Array Value)) with
          | some z => if z.toList.all plainS = true ∧ (c.toNat * i.size = 0 ∨ 0 < z.size) then some (.cells (repl z (c.toNat * i.size)).toList elem (some (l.toNat, c.toNat))) else none
          | none => none
        else none
      | none => none
    | _, _, _ => none
  | .makeMap _ none => some .map
  | _ => none

/-- The cells of a source of append or copy: its first n elements. -/
def firstA (H : AH) (size n : Nat) : Value → Option (List Value)
  | .slice none _ _ => if n = 0 then some [] else none
  | .slice (some ⟨b, off, none⟩) _ _ =>
    if n * size = 0 then some [] else
    match H.get b with
    | some blk => if off + n * size ≤ blk.cells.length then some ((blk.cells.drop off).take (n * size)) else none
    | none => none
  | .string s => if size = 1 ∧ n = s.size then some (byteCells s) else none
  | _ => none

def lenV : Value → Option Nat
  | .slice _ n _ => some n
  | .string s => some s.size
  | _ => none

def srcOk (P : Program) (t : TypeId) : Value → Bool
  | .slice _ _ _ => match P.underlying t with | some (.slice _) => true | _ => false
  | .string _ => match P.underlying t with | some .string => true | _ => false
  | _ => false

def appendA (P : Program) (H : AH) (ts : Array TypeId) (args : List Value) : Option (Value × AH) :=
  match ts.toList, args with
  | [t, u], [.slice base len cap, x] => match P.underlying t with
    | some (.slice e) => match P.info? e, lenV x with
      | some i, some n => match firstA H i.size n x, i.zero with
        | some news, some z =>
          if (srcOk P u x && news.all (·.oneCell') && decide (news.length = n * i.size) && decide ((2 * (len + n) + 200) * i.bytes ≤ 140737488355328) && decide (z.cells.size = i.size) && decide (len + n ≤ 4611686018427387904)) then
            match base with
            | none => if len = 0 ∧ cap = 0 then
                if n = 0 then some (.slice none 0 0, H) else
                match H.alloc ⟨news, e, true, i.size, false⟩ with
                | some (id, H') => some (.slice (some ⟨id, 0, none⟩) n OPN, H')
                | none => none
              else none
            | some ⟨b, off, none⟩ =>
              if cap = OPN then
                if n = 0 then some (.slice (some ⟨b, off, none⟩) len OPN, H) else
                match H.get b, firstA H i.size len (.slice base len cap) with
                | some blk, some olds =>
                  if blk.ro = false ∧ blk.opn = true ∧ blk.esz = i.size ∧ blk.elem = e ∧ olds.length = len * i.size then
                    match (H.put b none).alloc ⟨olds ++ news, e, true, i.size, false⟩ with
                    | some (id, H') => some (.slice (some ⟨id, 0, none⟩) (len + n) OPN, H')
                    | none => none
                  else none
                | _, _ => none
              else if len + n ≤ cap then
                if n * i.size = 0 then some (.slice (some ⟨b, off, none⟩) (len + n) cap, H) else
                match storeCellsA H b (off + len * i.size) news with
                | some H' => some (.slice (some ⟨b, off, none⟩) (len + n) cap, H')
                | none => none
              else match firstA H i.size len (.slice base len cap) with
                | some olds =>
                  if olds.length = len * i.size then
                    match H.alloc ⟨olds ++ news, e, true, i.size, false⟩ with
                    | some (id, H') => some (.slice (some ⟨id, 0, none⟩) (len + n) OPN, H')
                    | none => none
                  else none
                | none => none
            | _ => none
          else none
        | _, _ => none
      | _, _ => none
    | _ => none
  | _, _ => none

def copyA (P : Program) (H : AH) (ts : Array TypeId) (args : List Value) : Option (Value × AH) :=
  match ts[0]?, args with
  | some t, [.slice base dLen _, x] => match P.underlying t with
    | some (.slice e) => match P.info? e, lenV x with
      | some i, some sl =>
        match firstA H i.size (Nat.min sl dLen) x, x with
        | some cells, .slice _ _ _ =>
          if cells.length = Nat.min sl dLen * i.size ∧ cells.all (·.oneCell') = true then
            if cells.length = 0 then some (.int .i64 (Nat.min sl dLen : Nat), H) else
            match base with
            | some ⟨b, off, none⟩ => match storeCellsA H b off cells with
              | some H' => some (.int .i64 (Nat.min sl dLen : Nat), H')
              | none => none
            | _ => none
          else none
        | _, _ => none
      | _, _ => none
    | _ => none
  | _, _ => none

/-- Operations that write. -/
def aeff (P : Program) (H : AH) (T : Tm) (o : Oper) : Option (Value × AH) :=
  match o.op with
  | .mapUpdate t m k x | .insert t m k x => match aev P T m, aev P T k, aev P T x with
    | some mv, some kv, some xv => match mapUpdateA P H t mv kv xv with
      | some H' => some (undef, H')
      | none => none
    | _, _, _ => none
  | .store t a x => match aev P T a, aev P T x with
    | some p, some v => match storeA P H t p v with
      | some H' => some (undef, H')
      | none => none
    | _, _ => none
  | .call { callee := .builtin .append, args, argTypes } => match aevs P T args.toList with
    | some vs => appendA P H argTypes vs
    | none => none
  | .call { callee := .builtin .copy, args, argTypes } => match aevs P T args.toList with
    | some vs => copyA P H argTypes vs
    | none => none
  | _ => none

/-- The function that a call enters, and its arguments. -/
def acallee (P : Program) (T : Tm) (o : Oper) : Option (FuncId × Func × Code × List Value) :=
  match o.op with
  | .call { callee := .value f, args, .. } => match aev P T f, aevs P T args.toList with
    | some (.func (.func k) first captured), some vs => match P.funcs[k]? with
      | some fn => match fn.body with
        | some c => if fn.name = "runtime.NumGoroutine" then none else some (k, fn, c, first.toList ++ vs ++ captured.toList)
        | none => none
      | none => none
    | _, _ => none
  | _ => none

inductive Cls where
  | pure | alloc | eff | call

def clsOf : Op → Cls
  | .alloc _ | .box .. | .buildSlice .. | .makeSlice .. | .makeMap .. => .alloc
  | .mapUpdate .. | .insert .. | .store .. | .call { callee := .builtin .append, .. } | .call { callee := .builtin .copy, .. } => .eff
  | .call { callee := .value _, .. } => .call
  | _ => .pure

/-- An operation, made ready: what it does with the heap and the temporaries. -/
inductive Inst where
  | pure (f : AH → Tm → Option Value)
  | alloc (f : Tm → Option Fresh)
  | eff (f : AH → Tm → Option (Value × AH))
  | call (f : Tm → Option (FuncId × Func × Code × List Value))
  | bad

def isRowT (P : Program) (t : TypeId) : Option (Bool × Nat) :=
  match P.underlying t, P.info? t with
  | some d, some i => some (d.isRow, i.size)
  | _, _ => none

def load1 (H : AH) : Value → Option Value
  | .pointer (some ⟨b, off, none⟩) => match H.get b with
    | some blk => blk.cells[off]?
    | none => none
  | _ => none

def loadN (n : Nat) (H : AH) : Value → Option Value
  | .pointer (some ⟨b, off, none⟩) => match H.get b with
    | some blk => if off + n ≤ blk.cells.length then some (.agg ((blk.cells.drop off).take n).toArray) else none
    | none => none
  | _ => none

def bindV (x : Option Value) (f : Value → Option Value) : Option Value := match x with
  | some v => f v
  | none => none

/-- Integers of one kind, straight. -/
def binI (op : BinOp) (k : IntKind) (a b : Int) : Option Value :=
  match op with
  | .add => some (.int k (k.wrap (a + b)))
  | .sub => some (.int k (k.wrap (a - b)))
  | .mul => some (.int k (k.wrap (a * b)))
  | .eql => some (.bool (a == b))
  | .neq => some (.bool (a != b))
  | .lss => some (.bool (a < b))
  | .leq => some (.bool (a ≤ b))
  | .gtr => some (.bool (a > b))
  | .geq => some (.bool (a ≥ b))
  | _ => none

def binF (P : Program) (op : BinOp) (t : TypeId) (xo yo : Operand) (x y : Value) : Option Value :=
  match x, y with
  | .int k a, .int l b => if k = l then (match binI op k a b with
      | some v => some v
      | none => binA P op t xo yo x y) else binA P op t xo yo x y
  | _, _ => binA P op t xo yo x y

def comp (P : Program) (o : Oper) : Inst :=
  match o.op with
  | .move (.tmp t) | .assign (.tmp t) => .pure fun _ T => some (T.get t)
  | .move x | .assign x => .pure fun _ T => aev P T x
  | .load t a => match isRowT P t with
    | some (false, _) => .pure fun H T => bindV (aev P T a) (load1 H)
    | some (true, n) => .pure fun H T => bindV (aev P T a) (loadN n H)
    | none => .bad
  | .fieldAddr s x f => .pure fun _ T => bindV (aev P T x) (fieldAddrA P s f)
  | .field s x f => .pure fun _ T => bindV (aev P T x) (fieldA P s f)
  | .indexAddr t x ix => .pure fun _ T => match aev P T x, aev P T ix with
    | some v, some i => indexAddrA P t v i
    | _, _ => none
  | .binOp op t x y _ => .pure fun _ T => match aev P T x, aev P T y with
    | some a, some b => binF P op t x y a b
    | _, _ => none
  | .extract t ix => .pure fun _ T => match aev P T t with
    | some (.tuple vs) => vs[ix]?
    | _ => none
  | .call { callee := .builtin .append, .. } | .call { callee := .builtin .copy, .. } | .store .. | .mapUpdate .. | .insert .. => .eff fun H T => aeff P H T o
  | .alloc _ | .box .. | .buildSlice .. | .makeSlice .. | .makeMap .. => .alloc fun T => aalloc P T o
  | .call { callee := .value _, .. } => .call fun T => acallee P T o
  | _ => .pure fun H T => apure P H T o

def putT (T : Tm) (dst : Option Tmp) (v : Value) : Tm :=
  match dst with
  | some d => T.set d v
  | none => T

/-- Is the operation to be carried out? -/
def awanted (ops : Array Oper) (T : Tm) (o : Oper) : Bool :=
  match o.guard with
  | none => true
  | some (j, want) => match (ops[j]?).bind (·.dst) with
    | some t => match T.get t with
      | .bool b => b == want
      | _ => false
    | none => false

abbrev CallF := FuncId → Func → Code → List Value → AH → Option (Value × AH)

/-- One operation. -/
def astep (P : Program) (call : CallF) (T : Tm) (H : AH) (o : Oper) : Option (Value × AH) :=
  match comp P o with
  | .pure f => match f H T with
    | some v => some (v, H)
    | none => none
  | .alloc f => match f T with
    | some f => match H.allocF f with
      | some (id, H') => some (f.val id, H')
      | none => none
    | none => none
  | .eff f => f H T
  | .call f => match f T with
    | some (k, fn, c, args) => call k fn c args H
    | none => none
  | .bad => none

def aops (P : Program) (call : CallF) (ops : Array Oper) (l : List Nat) : Tm → AH → Option (Tm × AH) :=
  List.rec (motive := fun _ => Tm → AH → Option (Tm × AH)) (fun T H => some (T, H))
    (fun i _ ih T H => match ops[i]? with
      | none => none
      | some o =>
        Bool.rec (motive := fun _ => Option (Tm × AH)) (ih (putT T o.dst undef) H)
          (match astep P call T H o with
          | some (v, H') => ih (putT T o.dst v) H'
          | none => none) (awanted ops T o)) l

inductive Ex where
  | normal
  | exit (id : Nat)
  | ret

def resA (P : Program) (H : AH) (T : Tm) : List ResultVar → Option (List Value)
  | [] => some []
  | r :: rs => match (match r with | .tmp t => some (T.get t) | .cell a t => loadA P H t (T.get a) : Option Value) with
    | some v => match resA P H T rs with
      | some vs => some (v :: vs)
      | none => none
    | none => none

def wrapA : List Value → Value
  | [v] => v
  | vs => .tuple vs.toArray

end
end Go.Vi
