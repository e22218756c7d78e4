/- A part of the abstract runs: the program is run over an abstract heap; what holds there holds in every world that looks so. Conditions: none. -/
import Derived.OrdersHeld
import Derived.Below
import Derived.Laws.Tables
import Derived.Great.BuildSlice
namespace Go.Abs
open Go

/-! ### A table of things by number -/
inductive Tr (α : Type) where
  | leaf
  | node (l : Tr α) (v : Option α) (r : Tr α)

def Tr.get {α : Type} : Tr α → Nat → Option α
  | .leaf, _ => none
  | .node l v r, n =>
    match n with
    | 0 => v
    | k + 1 => match k % 2 with
      | 0 => l.get (k / 2)
      | _ => r.get (k / 2)

def Tr.put {α : Type} : Nat → Tr α → Nat → Option α → Tr α
  | 0, t, _, _ => t
  | f + 1, t, n, x =>
    match t with
    | .leaf => match n with
      | 0 => .node .leaf x .leaf
      | k + 1 => match k % 2 with
        | 0 => .node (Tr.put f .leaf (k / 2) x) none .leaf
        | _ => .node .leaf none (Tr.put f .leaf (k / 2) x)
    | .node l v r => match n with
      | 0 => .node l x r
      | k + 1 => match k % 2 with
        | 0 => .node (Tr.put f l (k / 2) x) v r
        | _ => .node l v (Tr.put f r (k / 2) x)

def Tr.set {α : Type} (t : Tr α) (n : Nat) (x : Option α) : Tr α := Tr.put (n + 1) t n x

/-! ### The state -/
inductive AObj where
  | cells (c : List Value) (spare : Nat)
  | map (es : List MapEntry) (clock : Nat)
  | iter (s : ByteArray) (pos : Nat)

structure AW where
  heap : Tr AObj
  next : Nat
  prot : List Nat

def AW.may (σ : AW) (b : Nat) : Bool := !σ.prot.contains b
def AW.alloc (σ : AW) (o : AObj) : AW := { σ with heap := σ.heap.set σ.next (some o), next := σ.next + 1 }
def AW.upd (σ : AW) (b : Nat) (o : Option AObj) : AW := { σ with heap := σ.heap.set b o }

structure AT where
  tr : Tr Value
  sz : Nat

def AT.put (t : AT) (d : Option Nat) (v : Value) : AT :=
  match d with
  | none => t
  | some d => if d < t.sz then { t with tr := t.tr.set d (some v) } else t

/-- no address in it. -/
def clo : Nat → Value → Bool
  | 0, _ => false
  | n + 1, v =>
    match v with
    | .bool _ | .int _ _ | .string _ | .pointer none | .slice none _ _ | .map none | .nilFunc | .nilIface => true
    | .func _ f c => f.toList.all (clo n) && c.toList.all (clo n)
    | .iface _ v => clo n v
    | .agg cs => cs.toList.all (clo n)
    | .tuple cs => cs.toList.all (clo n)
    | _ => false

def cl (v : Value) : Bool := clo 8 v

structure Env where
  P : Program
  nglob : Nat
  prim : Nat → Option (List Value → AW → Option (Value × AW))
  ext : Nat → Option (List Value → AW → Option (Value × AW))

variable (E : Env)

def val (t : AT) : Operand → Option Value
  | .tmp i => some ((t.tr.get i).getD undef)
  | .const v => if cl v then some v else none
  | .global g => if g < E.nglob then some (.pointer (some ⟨g, 0, none⟩)) else none
  | .func f => some (.func (.func f) #[] #[])

def vals (t : AT) : List Operand → Option (List Value)
  | [] => some []
  | x :: xs => match val E t x with
    | none => none
    | some v => match vals t xs with
      | none => none
      | some vs => some (v :: vs)

def OPEN : Nat := 18446744073709551616

/-- a row's second number: the size of an element of its spare room, and, above it, one more than the type of its variables where that is known. -/
def TAGB : Nat := 4294967296
def spz (s : Nat) : Nat := s % TAGB
def tagOf (t : TypeId) (size : Nat) : Nat := (t + 1) * TAGB + size

/-- a computation that asks for the program alone. -/
def runP (P : Program) {α : Type} : Sem α → Option α
  | .pure a => some a
  | .program k => runP P (k P)
  | .mark _ k => runP P k
  | _ => none

/-- .. with a value that holds no address. -/
def runC (P : Program) (m : Sem Value) : Option Value :=
  match runP P m with
  | some v => if cl v then some v else none
  | none => none

def agg? (t : TypeId) : Option Bool :=
  match E.P.underlying t with
  | some (.struct _) => some true
  | some (.array _ _) => some true
  | some _ => some false
  | none => none

def sizeOf? (t : TypeId) : Option Nat := (E.P.info? t).map (·.size)
def zero? (t : TypeId) : Option Value :=
  match E.P.info? t with
  | some i => match i.zero with
    | some z => if cl z then some z else none
    | none => none
  | none => none

def part? (t : TypeId) (cs : Array Value) (off : Nat) : Option Value :=
  match agg? E t with
  | some true => match sizeOf? E t with
    | some n => some (.agg (cs.extract off (off + n)))
    | none => none
  | some false => cs[off]?
  | none => none

/-- the cells of a block that may be read. -/
def AW.cells? (σ : AW) (b : Nat) : Option (List Value × Nat) :=
  match σ.heap.get b with
  | some (.cells c s) => some (c, s)
  | _ => none

def take? (c : List Value) (off n : Nat) : Option (List Value) :=
  if off + n ≤ c.length then some ((c.drop off).take n) else none

def loadVar? (σ : AW) (t : TypeId) (a : Addr) : Option Value :=
  match σ.cells? a.block, agg? E t with
  | some (c, _), some true => match sizeOf? E t with
    | some n => (take? c a.off n).map fun l => .agg l.toArray
    | none => none
  | some (c, _), some false => c[a.off]?
  | _, _ => none

def splice (c : List Value) (off : Nat) (vs : List Value) : List Value := c.take off ++ vs ++ c.drop (off + vs.length)

def flat? : Value → Bool
  | .agg _ | .tuple _ => false
  | _ => true

def storeCells? (σ : AW) (a : Addr) (vs : List Value) : Option AW :=
  match vs with
  | [] => some σ
  | _ =>
    match σ.heap.get a.block with
    | some (.cells c s) =>
      if σ.may a.block && decide (a.off + vs.length ≤ c.length) && vs.all flat? then some (σ.upd a.block (some (.cells (splice c a.off vs) s))) else none
    | _ => none

def storeVar? (σ : AW) (t : TypeId) (a : Addr) (v : Value) : Option AW :=
  let vs := v.cells.toList
  if sizeOf? E t = some vs.length then storeCells? σ a vs else none

/-- a new row of cells. -/
def newRow? (σ : AW) (cells : List Value) (spare : Nat) : Addr × AW := (⟨σ.next, 0, none⟩, σ.alloc (.cells cells spare))

/-! ### What reads, and what only reckons -/
def isNilV : Value → Option Bool
  | .pointer none | .slice none _ _ | .map none | .nilFunc | .nilIface => some true
  | .pointer (some _) | .slice (some _) _ _ | .map (some _) | .func .. | .iface .. => some false
  | _ => none

def wordOf : Value → Nat
  | .pointer _ => 1 | .slice .. => 2 | .map _ => 3 | .nilFunc | .func .. => 4 | .nilIface | .iface .. => 5 | _ => 0

/-- does the type of a test fit the word of its operands? -/
def fitsWord (d : Option TypeDesc) (w : Nat) : Bool :=
  match d, w with
  | some (.pointer _), 1 | some (.slice _), 2 | some (.map ..), 3 | some (.func ..), 4 | some (.interface _), 5 => true
  | _, _ => false

/-- x == y where one of the two is nil. -/
def nilEq0? (t : TypeId) (x y : Value) : Option Bool :=
  match isNilV x, isNilV y with
  | some a, some b =>
    if (a || b) && wordOf x == wordOf y && fitsWord (E.P.underlying t) (wordOf x) then some (a && b) else none
  | _, _ => none

/-- .. or both point into one block. -/
def nilEq? (t : TypeId) (x y : Value) : Option Bool :=
  match x, y with
  | .pointer (some a), .pointer (some b) => match E.P.underlying t with
    | some (.pointer el) => match sizeOf? E el with
      | some n => if n ≠ 0 ∧ a.block = b.block then some (a.off == b.off) else none
      | none => none
    | _ => none
  | x, y => nilEq0? E t x y

def bin? (op : BinOp) (t : TypeId) (x y : Value) : Option Value :=
  match x, y with
  | .int .., .int .. | .string _, .string _ => runC E.P (binOp op t x y)
  | _, _ =>
    match op with
    | .eql => match (if cl x && cl y then runP E.P (Op.equal t x y) else none) with
      | some b => some (.bool b)
      | none => (nilEq? E t x y).map .bool
    | .neq => match (if cl x && cl y then runP E.P (Op.equal t x y) else none) with
      | some b => some (.bool !b)
      | none => (nilEq? E t x y).map fun b => .bool !b
    | _ => none

def guardOk (op : BinOp) (t : TypeId) (x y : Operand) (a b : Value) : Bool :=
  match op with
  | .eql | .neq =>
    match a, b with
    | .nilIface, .nilIface => (x matches .const _) || (y matches .const _)
    | .agg _, .agg _ => !E.P.eqGuardType E.P.depth t
    | _, _ => true
  | _ => true

def natOf : Value → Option Nat
  | .int _ n => if 0 ≤ n then some n.toNat else none
  | _ => none

/-- a bound that may be missing. -/
def boundOf (d : Nat) : Option (Option Value) → Option Nat
  | none => some d
  | some none => none
  | some (some v) => natOf v

def known (cap : Nat) : Nat := if cap < OPEN then cap else cap - OPEN

def sliceOp (u : Option TypeDesc) (x : Option Value) (lo hi mx : Option (Option Value)) : Option (Value × List Nat) :=
  match u, x with
  | some .string, some (.string s) =>
    match boundOf 0 lo, boundOf s.size hi, mx with
    | some l, some h, none => if l ≤ h ∧ h ≤ s.size then some (.string (s.extract l h), []) else none
    | _, _, _ => none
  | some (.slice elem), some (.slice a len cap) =>
    match sizeOf? E elem, boundOf 0 lo, boundOf len hi with
    | some n, some l, some h =>
      match mx with
      | none =>
        if l ≤ h ∧ h ≤ known cap ∧ (cap < OPEN ∨ (a.isSome ∧ l < cap - OPEN)) then
          some (.slice (if cap = l then a else a.map (·.add (l * n))) (h - l) (cap - l), [])
        else none
      | some mx => match mx.bind natOf with
        | some m =>
          if l ≤ h ∧ h ≤ m ∧ m ≤ known cap ∧ m < OPEN ∧ hi.isSome then
            some (.slice (if m = l then a else a.map (·.add (l * n))) (h - l) (m - l), [])
          else none
        | none => none
    | _, _, _ => none
  | some (.array k elem), some (.pointer (some a)) =>
    match sizeOf? E elem, boundOf 0 lo, boundOf k hi, mx with
    | some n, some l, some h, none =>
      if l ≤ h ∧ h ≤ k ∧ k < OPEN then some (.slice (some (if k = l then a else a.add (l * n))) (h - l) (k - l), []) else none
    | _, _, _, _ => none
  | _, _ => none

/-- a pointer turned into an unsafe one, or back. -/
def convPtr? (σ : AW) (S T : TypeId) (p : Option Addr) : Option (Value × List Nat) :=
  match E.P.underlying S, E.P.underlying T, p with
  | some (.pointer _), some .unsafePointer, none | some .unsafePointer, some (.pointer _), none => some (.pointer none, [])
  | some (.pointer t), some .unsafePointer, some a => match σ.cells? a.block, sizeOf? E t with
    | some (c, s), some n => if n ≠ 0 ∧ TAGB ≤ s ∧ a.off < c.length then some (.pointer (some a), [a.block]) else none
    | _, _ => none
  | some .unsafePointer, some (.pointer u), some a => match σ.cells? a.block, sizeOf? E u with
    | some (c, s), some _ =>
      if TAGB ≤ s ∧ spz s = 0 ∧ liesAt E.P E.P.depth (s / TAGB - 1) (c.length / E.P.cellsOf (s / TAGB - 1)) a.off u 1 = true then some (.pointer (some a), [a.block]) else none
    | _, _ => none
  | _, _, _ => none

/-- the entries of a map, and the block that was read. -/
def entries? (σ : AW) : Value → Option (List MapEntry × List Nat)
  | .map none => some ([], [])
  | .map (some r) => match σ.heap.get r with
    | some (.map es _) => some (es, [r])
    | _ => none
  | _ => none

/-- what a look-up yields. -/
def found (ok : Bool) (v : Value) (b : Bool) : Value := if ok then .tuple #[v, .bool b] else v

/-- the operations that only read or reckon: the value, and the blocks that were read. -/
def rop (t : AT) (σ : AW) (o : Oper) : Option (Value × List Nat) :=
  let v := val E t
  let pure' (x : Option Value) : Option (Value × List Nat) := x.map (·, [])
  match o.op with
  | .move x | .assign x => pure' (v x)
  | .pick c a b => match v c with
    | some (.bool true) => pure' (v a)
    | some (.bool false) => pure' (v b)
    | _ => none
  | .load ty a => match v a with
    | some (.pointer (some a)) => (loadVar? E σ ty a).map (·, [a.block])
    | _ => none
  | .nilCheck x => match v x with
    | some (.pointer (some a)) => some (.pointer (some a), [])
    | some (.iface t x) => some (.iface t x, [])
    | some (.func (.func f) a b) => some (.func (.func f) a b, [])
    | _ => none
  | .binOp op ty x y _ => match v x, v y with
    | some a, some b => if guardOk E op ty x y a b then pure' (bin? E op ty a b) else none
    | _, _ => none
  | .unOp op _ x => match v x with
    | some a => if cl a then pure' (runC E.P (Op.unary op a)) else none
    | none => none
  | .convert src dst x => match v x with
    | some (.int k n) => pure' (runC E.P (convert src dst (.int k n)))
    | some (.string s) => match E.P.underlying src, E.P.underlying dst with
      | some _, some .string => pure' (some (.string s))
      | _, _ => none
    | some (.pointer p) => convPtr? E σ src dst p
    | _ => none
  | .makeInterface ty x => match v x, E.P.underlying ty with
    | some _, some (.interface _) => none
    | some a, some _ => some (.iface ty a, [])
    | _, _ => none
  | .makeFunc fn first captured => match vals E t first.toList, vals E t captured.toList with
    | some f, some c => some (.func fn f.toArray c.toArray, [])
    | _, _ => none
  | .fieldAddr s x f => match v x, E.P.underlying s with
    | some (.pointer (some a)), some (.struct fields) => match fields[f]? with
      | some fd => match sizeOf? E fd.type with
        | some n => if n = 0 then none else some (.pointer (some (a.add fd.offset)), [])
        | none => none
      | none => none
    | _, _ => none
  | .field ty x f => match v x, E.P.underlying ty with
    | some (.agg cs), some (.struct fields) => match fields[f]? with
      | some fd => pure' (part? E fd.type cs fd.offset)
      | none => none
    | _, _ => none
  | .indexAddr ty x ix => match E.P.underlying ty, v x, v ix with
    | some (.array len elem), some (.pointer (some a)), some (.int _ i) =>
      if 0 ≤ i ∧ i < len then (sizeOf? E elem).map fun n => (.pointer (some (a.add (i.toNat * n))), []) else none
    | some (.slice elem), some (.slice (some a) len _), some (.int _ i) =>
      if 0 ≤ i ∧ i < len then (sizeOf? E elem).map fun n => (.pointer (some (a.add (i.toNat * n))), []) else none
    | _, _, _ => none
  | .index ty x ix => match E.P.underlying ty, v x, v ix with
    | some (.array len elem), some (.agg cs), some (.int _ i) =>
      if 0 ≤ i ∧ i < len then match sizeOf? E elem with
        | some n => pure' (part? E elem cs (i.toNat * n))
        | none => none
      else none
    | some .string, some (.string s), some (.int _ i) =>
      if 0 ≤ i then (s[i.toNat]?).map fun b => (.int .u8 b.toNat, []) else none
    | _, _, _ => none
  | .extract x i => match v x with
    | some (.tuple vs) => pure' vs[i]?
    | _ => none
  | .typeAssert x _ asserted ok => match v x, E.P.underlying asserted with
    | some (.iface ty y), some (.interface want) => match E.P.info? ty with
      | some i => match Instr.missingMethod want i.methods with
        | none => some ((if ok then .tuple #[.iface ty y, .bool true] else .iface ty y), [])
        | some _ => if ok then (zero? E asserted).map fun z => (.tuple #[z, .bool false], []) else none
      | none => none
    | some .nilIface, some _ => if ok then (zero? E asserted).map fun z => (.tuple #[z, .bool false], []) else none
    | some (.iface ty y), some _ =>
      if ty = asserted then some ((if ok then .tuple #[y, .bool true] else y), [])
      else if ok then (zero? E asserted).map fun z => (.tuple #[z, .bool false], []) else none
    | _, _ => none
  | .build ty parts => match vals E t (parts.toList.map (·.2)), zero? E ty with
    | some vs, some _ => (E.P.built ty ((parts.toList.map (·.1)).zip vs)).map fun cs => (.agg cs, [])
    | _, _ => none
  | .slice ty x lo hi mx => sliceOp E (E.P.underlying ty) (v x) (lo.map v) (hi.map v) (mx.map v)
  | .call { callee := .builtin .len, args, argTypes } => match vals E t args.toList, (argTypes[0]?).bind E.P.underlying with
    | some [.string s], some .string => some (goInt s.size, [])
    | some [.slice _ n _], some (.slice _) => some (goInt n, [])
    | some [_], some (.array n _) => some (goInt n, [])
    | some [.map none], some (.map ..) => some (goInt 0, [])
    | some [.map (some r)], some (.map ..) => match σ.heap.get r with
      | some (.map es _) => some (goInt es.length, [r])
      | _ => none
    | _, _ => none
  | .call { callee := .builtin .cap, args, argTypes } => match vals E t args.toList, (argTypes[0]?).bind E.P.underlying with
    | some [.slice _ _ n], some (.slice _) => if n < OPEN then some (goInt n, []) else none
    | _, _ => none
  | .call { callee := .builtin .unsafeSliceData, args, .. } => match vals E t args.toList with
    | some [.slice none _ _] => some (.pointer none, [])
    | some [.slice (some a) _ c] => if known c ≠ 0 then some (.pointer (some a), []) else none
    | _ => none
  | .call { callee := .builtin .min, args, .. } => match vals E t args.toList with
    | some vs => if vs.all cl then pure' (runC E.P (Builtin.min_ #[] 0 vs.toArray)) else none
    | none => none
  | .call { callee := .builtin .max, args, .. } => match vals E t args.toList with
    | some vs => if vs.all cl then pure' (runC E.P (Builtin.max_ #[] 0 vs.toArray)) else none
    | none => none
  | .lookup ty x ix ok => match E.P.underlying ty, v x, v ix with
    | some (.map key elem), some m, some k =>
      match (if cl k then E.P.underlying key else none), entries? σ m with
      | some d, some (es, bs) =>
        match runP E.P (Instr.checkKey es.isEmpty 10000 key k), Instr.findNow d k es 0 with
        | some _, some (some (_, y)) => some (found ok y true, bs)
        | some _, some none => (zero? E elem).map fun z => (found ok z false, bs)
        | _, _ => none
      | _, _ => none
    | _, _, _ => none
  | _ => none

/-! ### What makes or writes memory -/
/-- n cells of a zero value's. -/
def zeroRow (z : List Value) (n : Nat) : Option (List Value) :=
  if n = 0 then some []
  else if z.isEmpty then none
  else some ((List.range n).map fun i => z.getD (i % z.length) undef)

def fillRow (t : AT) (elem : TypeId) (len : Nat) (parts : Array (Nat × Operand)) : Option (List Value) :=
  match E.P.info? elem, vals E t (parts.toList.map (·.2)), zero? E elem with
  | some ie, some vs, some z =>
    if len * (ie.size + 1) > 2 ^ 24 then none
    else match zeroRow z.cells.toList (len * ie.size) with
      | some cs => (Instr.fill (fun i => some (i * ie.size, ie.size)) cs.toArray ((parts.toList.map (·.1)).zip vs)).map (·.toList)
      | none => none
  | _, _, _ => none

def lenOf? : Value → Option Nat
  | .slice _ n _ => some n
  | .string s => some s.size
  | _ => none

def firstCells? (σ : AW) (size n : Nat) : Value → Option (List Value)
  | .slice none _ _ => some []
  | .slice (some a) _ _ => match σ.cells? a.block with
    | some (c, _) => take? c a.off (n * size)
    | none => none
  | .string s => some ((s.extract 0 n).data.toList.map fun b => Value.int .u8 b.toNat)
  | _ => none

/-- the numbers of bytes. -/
def bytes? : List Value → Option (List Int)
  | [] => some []
  | .int .u8 n :: rest => (bytes? rest).map (n :: ·)
  | _ => none

def isIntD : TypeDesc → Bool
  | .int _ => true
  | _ => false

/-- the cells that are appended. -/
def appended? (σ : AW) (elem : TypeId) (size n : Nat) (zeros : Bool) (x : Value) : Option (List Value) :=
  if zeros then (if n * size = 0 then some [] else (zero? E elem).bind fun z => zeroRow z.cells.toList (n * z.cells.size)) else firstCells? σ size n x

def append? (σ : AW) (elem : TypeId) (size bytes : Nat) (base : Option Addr) (len cap : Nat) (x : Value) (zeros : Bool) (n : Nat) : Option (Value × AW) :=
  let need := len + n
  if need ≤ known cap then
    match appended? E σ elem size n zeros x with
    | some new => match base with
      | some a => (storeCells? σ (a.add (len * size)) new).map fun σ => (.slice (some a) need cap, σ)
      | none => some (.slice none need cap, σ)
    | none => none
  else if size = 0 ∨ TAGB ≤ size ∨ need * (bytes + 1) > 2 ^ 40 then none else
    match firstCells? σ size len (.slice base len cap), appended? E σ elem size n zeros x, zero? E elem with
    | some old, some new, some z =>
      if z.cells.size ≠ size then none else
      if cap < OPEN then some (.slice (some ⟨σ.next, 0, none⟩) need (OPEN + need), σ.alloc (.cells (old ++ new) (tagOf elem size)))
      else match base with
        | some b => match σ.heap.get b.block with
          | some (.cells c sp) =>
            if σ.may b.block && spz sp == size && c.length == b.off + (cap - OPEN) * size && decide (len ≤ cap - OPEN) && new.length == n * size && new.all flat? then
              some (.slice (some ⟨σ.next, 0, none⟩) need (OPEN + need), (σ.upd b.block none).alloc (.cells (old ++ new) (if sp = tagOf elem size ∧ b.off = 0 then sp else size)))
            else none
          | _ => none
        | none => none
    | _, _, _ => none

def wop (t : AT) (σ : AW) (o : Oper) : Option (Value × AW) :=
  let v := val E t
  match o.op with
  | .alloc elem => (zero? E elem).map fun z =>
      let (a, σ) := newRow? σ z.cells.toList (tagOf elem 0)
      (.pointer (some a), σ)
  | .box elem x => (v x).map fun x =>
      let (a, σ) := newRow? σ x.cells.toList (tagOf elem 0)
      (.pointer (some a), σ)
  | .buildSlice ty len parts => match E.P.underlying ty with
    | some (.slice elem) => (fillRow E t elem len parts).map fun cs =>
        let (a, σ) := newRow? σ cs 0
        (.slice (some a) len len, σ)
    | _ => none
  | .store ty a x => match v a, v x with
    | some (.pointer (some a)), some x => (storeVar? E σ ty a x).map (undef, ·)
    | _, _ => none
  | .makeMap ty r =>
    let made : Option (Value × AW) := some (.map (some σ.next), σ.alloc (.map [] 0))
    match r with
    | none => made
    | some x => match E.P.underlying ty, v x with
      | some (.map _ _), some (.int _ _) => made
      | _, _ => none
  | .makeSlice ty l c => match E.P.underlying ty, (v l).bind natOf, (v c).bind natOf with
    | some (.slice elem), some l, some c => match E.P.info? elem, zero? E elem with
      | some i, some z =>
        if l ≤ c ∧ c * (i.bytes + 1) ≤ 2 ^ 40 then
          (zeroRow z.cells.toList (c * i.size)).map fun cs =>
            let (a, σ) := newRow? σ cs 0
            (.slice (some a) l c, σ)
        else none
      | _, _ => none
    | _, _, _ => none
  | .convert src dst x => match E.P.underlying src, E.P.underlying dst, v x with
    | some _, some (.slice e), some (.string s) => match E.P.underlying e with
      | some (.int .u8) =>
        let (a, σ) := newRow? σ (s.data.toList.map fun b => Value.int .u8 b.toNat) 1
        some (.slice (some a) s.size (OPEN + s.size), σ)
      | _ => none
    | some (.slice _), some (.slice e), some (.slice (some a) n c) => match E.P.underlying e, σ.cells? a.block with
      | some (.int .u8), some (_ :: _, sp) => if src == dst && σ.may a.block && decide (sp < TAGB) then some (.slice (some a) n c, σ) else none
      | _, _ => none
    | some (.slice e), some .string, some x => match E.P.underlying e, x with
      | some (.int .u8), .slice ad n cp => match (firstCells? σ 1 n (.slice ad n cp)).bind bytes? with
        | some ns => some (.string ⟨(ns.map fun n => UInt8.ofNat n.toNat).toArray⟩, σ)
        | none => none
      | _, _ => none
    | _, _, _ => none
  | .range ty x => match E.P.underlying ty, v x with
    | some .string, some (.string s) => some (.pointer (some ⟨σ.next, 0, none⟩), σ.alloc (.iter s 0))
    | _, _ => none
  | .next it true => match v it with
    | some (.pointer (some ⟨r, 0, _⟩)) => match σ.heap.get r with
      | some (.iter s pos) =>
        if pos < s.size then
          if σ.may r then some (.tuple #[.bool true, goInt pos, .int .i32 (Utf8.decode s pos).1], σ.upd r (some (.iter s (pos + (Utf8.decode s pos).2))))
          else none
        else some (.tuple #[.bool false], σ)
      | _ => none
    | _ => none
  | .mapUpdate ty m k x => match E.P.underlying ty, v m, v k, v x with
    | some (.map key _), some (.map (some r)), some k, some x =>
      match (if cl k then E.P.underlying key else none), σ.heap.get r with
      | some d, some (.map es clock) =>
        if σ.may r then
          match runP E.P (Instr.checkKey false 10000 key k), Instr.findNow d k es 0 with
          | some _, some (some (i, _)) =>
            if cl (((es[i]?).map (·.key)).getD k) && Instr.sameBits 10000 (((es[i]?).map (·.key)).getD k) k then
              some (undef, σ.upd r (some (.map (es.modify i fun e => { e with key := k, val := x }) clock)))
            else none
          | some _, some none => some (undef, σ.upd r (some (.map (es ++ [{ key := k, val := x, born := clock }]) (clock + 1))))
          | _, _ => none
        else none
      | _, _ => none
    | _, _, _, _ => none
  | .call { callee := .builtin .append, args, argTypes } => match (argTypes[0]?).bind E.P.underlying, vals E t args.toList with
    | some (.slice elem), some [.slice base len cap, x] =>
      match E.P.info? elem, (argTypes[1]?).bind E.P.underlying with
      | some i, some d => match isIntD d with
        | true => match natOf x with
          | some n => if n * (i.bytes + 1) ≤ 2 ^ 40 then append? E σ elem i.size i.bytes base len cap x true n else none
          | none => none
        | false => match lenOf? x with
          | some n => append? E σ elem i.size i.bytes base len cap x false n
          | none => none
      | _, _ => none
    | _, _ => none
  | .call { callee := .builtin .copy, args, argTypes } => match (argTypes[0]?).bind E.P.underlying, vals E t args.toList with
    | some (.slice elem), some [.slice base len _, x] =>
      match sizeOf? E elem, lenOf? x with
      | some size, some m =>
        let n := min m len
        match firstCells? σ size n x with
        | some cs => match base with
          | some a => (storeCells? σ a cs).map fun σ => (goInt n, σ)
          | none => some (goInt n, σ)
        | none => none
      | _, _ => none
    | _, _ => none
  | .call { callee := .builtin .unsafeString, args, argTypes } => match vals E t args.toList, (argTypes[0]?).bind E.P.underlying with
    | some [.pointer p, n], some (.pointer elem) => match natOf n with
      | some k =>
        if k = 0 then some (.string .empty, σ)
        else match p with
          | some a => match σ.heap.get a.block with
            | some (.cells c s) =>
              if σ.may a.block ∧ TAGB ≤ s ∧ k ≤ 2 ^ 40 ∧ liesAt E.P E.P.depth (s / TAGB - 1) (c.length / E.P.cellsOf (s / TAGB - 1)) a.off elem k = true then
                match (take? c a.off k).bind bytes? with
                | some ns => some (.string ⟨(ns.map fun n => UInt8.ofNat n.toNat).toArray⟩, σ.upd a.block none)
                | none => none
              else none
            | _ => none
          | none => none
      | none => none
    | _, _ => none
  | .call { callee := .builtin .delete, args, argTypes } => match (argTypes[0]?).bind E.P.underlying, vals E t args.toList with
    | some (.map key _), some [.map (some r), k] =>
      match (if cl k then E.P.underlying key else none), σ.heap.get r with
      | some d, some (.map es clock) =>
        if σ.may r then
          match runP E.P (Instr.checkKey es.isEmpty 10000 key k), Instr.findNow d k es 0 with
          | some _, some (some (i, _)) => some (undef, σ.upd r (some (.map (es.eraseIdx i) clock)))
          | some _, some none => some (undef, σ)
          | _, _ => none
        else none
      | _, _ => none
    | _, _ => none
  | .slice ty x lo hi none => match E.P.underlying ty, v x with
    | some (.slice elem), some (.slice (some a) len cap) =>
      match sizeOf? E elem, boundOf 0 (lo.map v), boundOf len (hi.map v) with
      | some n, some l, some h =>
        -- the end of an open slice: a new name for what lies behind it
        if OPEN ≤ cap ∧ l = cap - OPEN ∧ h = l then
          match σ.heap.get a.block with
          | some (.cells c sp) =>
            if σ.may a.block && spz sp == n && c.isEmpty && a.off == 0 && cap == OPEN then
              some (.slice (some ⟨σ.next, 0, none⟩) 0 OPEN, (σ.upd a.block none).alloc (.cells [] sp))
            else if σ.may a.block && spz sp == n && c.length == a.off + (cap - OPEN) * n then
              let (b, σ) := newRow? (σ.upd a.block (some (.cells c 0))) [] n
              some (.slice (some b) 0 OPEN, σ)
            else none
          | _ => none
        else none
      | _, _, _ => none
    | _, _ => none
  | _ => none

/-! ### Calls, regions, code -/
/-- who is called, with which arguments. -/
def callee? (t : AT) (c : Call) : Option (Nat × List Value) :=
  match vals E t c.args.toList with
  | none => none
  | some args =>
    match c.callee with
    | .value f => match val E t f with
      | some (.func (.func f) first captured) => some (f, first.toList ++ args ++ captured.toList)
      | _ => none
    | .invoke recv name => match val E t recv with
      | some (.iface ty x) => match E.P.info? ty, E.P.underlying ty with
        | some i, some d => match i.methods.find? (·.name == name) with
          | some m => if m.path.isEmpty then
              match m.func, d with
              | some (f, true), .pointer _ => some (f, x :: args)
              | some (_, false), .pointer _ => none
              | some (f, false), _ => some (f, x :: args)
              | _, _ => none
            else none
          | none => none
        | _, _ => none
      | _ => none
    | .builtin _ => none

inductive AX where
  | normal | exit (id : Nat) | ret

def yielded? (ops : Array Oper) (t : AT) (j : Nat) : Option Bool :=
  match (ops[j]?).bind (·.dst) with
  | some d => match (t.tr.get d).getD undef with
    | .bool b => some b
    | _ => none
  | none => none

abbrev ACall := Nat → List Value → AW → Option (Value × AW)

/-- a call. -/
def callOp? (call : ACall) (t : AT) (σ : AW) (c : Call) : Option (Value × AW) :=
  match callee? E t c with
  | none => none
  | some (f, args) => match E.P.funcs[f]? with
    | none => none
    | some fn => match fn.body with
      | some _ => call f args σ
      | none => match E.ext f with
        | some e => e args σ
        | none => none

/-- one operation. -/
def op? (call : ACall) (t : AT) (σ : AW) (o : Oper) : Option (Value × AW) :=
  match rop E t σ o with
  | some (v, _) => some (v, σ)
  | none => match wop E t σ o with
    | some r => some r
    | none => match o.op with
      | .call c => callOp? E call t σ c
      | _ => none

def ops? (call : ACall) (ops : Array Oper) : List Oper → AT → AW → Option (AT × AW)
  | [], t, σ => some (t, σ)
  | o :: rest, t, σ =>
    if Region.wanted o (yielded? ops t) then
      match op? E call t σ o with
      | some (v, σ) => ops? call ops rest (t.put o.dst v) σ
      | none => none
    else ops? call ops rest (t.put o.dst undef) σ

/-- the first of those that may come up that only reads, and may be taken first. -/
def takeable (t : AT) (σ : AW) (ops : Array Oper) (listed : Array Bool) : List Nat → Option (Nat × Oper × Value × List Nat)
  | [] => none
  | i :: rest =>
    match (if Region.free .any ops listed i then
        match ops[i]? with
        | some o => if Region.wanted o (yielded? ops t) then
            match rop E t σ o with
            | some (v, bs) => if bs.all (fun b => decide (b < σ.next)) then some (i, o, v, bs) else none
            | none => none
          else some (i, o, undef, [])
        | none => none
      else none) with
    | some r => some r
    | none => takeable t σ ops listed rest

/-- the blocks that are to stay as they are while operation 'i' is carried out: read by those taken ahead that need not have come up before it. -/
def guards (bf : Nat) : List (Nat × List Nat) → List Nat
  | [] => []
  | (j, bs) :: rest => if bf.testBit j then guards bf rest else bs ++ guards bf rest

def any? (call : ACall) (ops : Array Oper) (bf : Array Nat) (prot : List Nat) : Nat → Array Bool → Nat → List (Nat × List Nat) → AT → AW → Option (AT × AW)
  | 0, listed, _, _, t, σ => if (Region.ready .any ops listed).isEmpty then some (t, σ) else none
  | n + 1, listed, D, ahead, t, σ =>
    match Region.ready .any ops listed with
    | [] => some (t, σ)
    | i :: more =>
      match takeable E t σ ops listed (i :: more) with
      | some (j, o, v, bs) => any? call ops bf prot n (listed.setIfInBounds j true) D ((j, bs) :: ahead) (t.put o.dst v) σ
      | none =>
        match more, ops[i]? with
        | [], some o =>
          if Region.wanted o (yielded? ops t) then
            match op? E call t { σ with prot := guards (D ||| bf.getD i 0) ahead ++ prot } o with
            | some (v, σ') => any? call ops bf prot n (listed.setIfInBounds i true) (D ||| bf.getD i 0 ||| 2 ^ i) ahead (t.put o.dst v) σ'
            | none => none
          else any? call ops bf prot n (listed.setIfInBounds i true) (D ||| bf.getD i 0 ||| 2 ^ i) ahead (t.put o.dst undef) σ
        | _, _ => none

def region? (call : ACall) (ops : Array Oper) (draw : Bool) (t : AT) (σ : AW) : Option (AT × AW) :=
  if draw then
    if Region.noSelect ops then
      match any? E call ops (Region.before ops) σ.prot ops.size (Array.replicate ops.size false) 0 [] t σ with
      | some (t, σ') => some (t, { σ' with prot := σ.prot })
      | none => none
    else none
  else ops? E call ops ops.toList t σ

def result? (t : AT) (σ : AW) : ResultVar → Option Value
  | .tmp i => some ((t.tr.get i).getD undef)
  | .cell a ty => match (t.tr.get a).getD undef with
    | .pointer (some a) => loadVar? E σ ty a
    | _ => none

def results? (t : AT) (σ : AW) : List ResultVar → Option (List Value)
  | [] => some []
  | x :: xs => match result? E t σ x with
    | none => none
    | some v => match results? t σ xs with
      | none => none
      | some vs => some (v :: vs)

/-- a whole frame. -/
def Tr.gen {α : Type} : Nat → (Nat → α) → Tr α
  | 0, _ => .leaf
  | d + 1, f => .node (Tr.gen d fun k => f (2 * k + 1)) (some (f 0)) (Tr.gen d fun k => f (2 * k + 2))

def AT.of (f : Nat → Value) (n : Nat) : AT := ⟨Tr.gen (n.log2 + 1) f, n⟩

def enter (args : List Value) (n : Nat) : AT := AT.of (fun i => args.getD i undef) (args.length + (n - args.length))

mutual
def exec? : Nat → Code → AT → AW → Option (AX × AT × AW)
  | 0, _, _, _ => none
  | n + 1, c, t, σ =>
    match c with
    | .skip => some (.normal, t, σ)
    | .region _ ops draw => match region? E (call? n) ops draw t σ with
      | some (t, σ) => some (.normal, t, σ)
      | none => none
    | .seq a b => match exec? n a t σ with
      | some (.normal, t, σ) => exec? n b t σ
      | r => r
    | .cond c a b => match val E t c with
      | some (.bool true) => exec? n a t σ
      | some (.bool false) => exec? n b t σ
      | _ => none
    | .block id b => match exec? n b t σ with
      | some (.exit id', t, σ) => if id' = id then some (.normal, t, σ) else some (.exit id', t, σ)
      | r => r
    | .loop b => match exec? n b t σ with
      | some (.normal, t, σ) => exec? n (.loop b) t σ
      | r => r
    | .exit id => some (.exit id, t, σ)
    | .ret => some (.ret, t, σ)
    | _ => none
def call? : Nat → Nat → List Value → AW → Option (Value × AW)
  | 0, _, _, _ => none
  | n + 1, f, args, σ =>
    match E.prim f with
    | some p => p args σ
    | none =>
      match E.P.funcs[f]? with
      | none => none
      | some fn =>
        match fn.body with
        | some c =>
          match exec? n c (enter args fn.ntmps) σ with
          | some (.normal, t, σ) | some (.ret, t, σ) => match results? E t σ fn.results.toList with
            | some [v] => some (v, σ)
            | some vs => some (.tuple vs.toArray, σ)
            | none => none
          | _ => none
        | none => none
end
end Go.Abs
