/-
  E8: The engine, part 8: operators, conversions, places, aggregates, slice expressions.
  E7: The engine, part 7: numbers, comparisons, equality of aggregates, conversions, places.
  E6: The engine, part 6: what one operation does to abstract values, the model's operation does to the world's.
  E5: The engine, part 5: how a world that holds an abstract heap goes on doing so: a new block, a block written, a draw, a block given up.
  E4: The engine, part 4: when a world holds what an abstract heap says.
  E3: The engine, part 3: regions, code and calls on abstract states. A region that draws its order is carried out in the text's order, behind a check that no order makes a difference.
  E2: The engine, part 2: one operation, carried out on abstract values and blocks.
  E1: The engine, part 1: abstract values, the abstract heap, and what one operation does to it.
-/
import Derived.Calls
import Derived.Orders
import Derived.KernelRfl
import Derived.Deep.AppendSrc
import Derived.Laws.CopyRow
import Derived.Laws.Rows
import Derived.Laws.MakeOwn
import Derived.Laws.StructEq
import Derived.ChangeKeysEq
namespace Go.Eng
set_option linter.unusedVariables false

/-- ABSTRACT VALUES: as the model's, but blocks have numbers of their own, and a slice's capacity is the world's (sl = 0), or one that the world's reaches at least (sl: the cells of an element). -/
inductive AV where
  | int (k : IntKind) (n : Int)
  | bool (b : Bool)
  | str (s : ByteArray)
  | ptr (a : Option (Nat × Nat))
  | slc (a : Option (Nat × Nat)) (len cap sl : Nat)
  | map (r : Option Nat)
  | fn (f : FuncId) (first cap : List AV)
  | nilfn
  | agg (cs : List AV)
  | tup (vs : List AV)
  deriving Inhabited

/-- a slot that holds nothing -/
abbrev AV.undef : AV := .tup []

/-- one cell? -/
def AV.one : AV → Bool
  | .agg _ | .tup _ => false
  | _ => true

def AV.cells : AV → List AV
  | .agg cs => cs
  | v => [v]

/-- holds no address -/
def AV.flat1 : AV → Bool
  | .int .. | .bool _ | .str _ | .ptr none | .slc none .. | .map none | .nilfn => true
  | .fn _ [] [] => true
  | _ => false
def AV.flat : AV → Bool
  | .agg cs => cs.all AV.flat1
  | v => v.flat1
def AV.flatT : AV → Bool
  | .tup vs => vs.all AV.flat
  | v => v.flat

/-- ABSTRACT BLOCKS -/
inductive AB where
  | dead
  | cells (cs : List AV) (e : TypeId) (ro : Bool)
  | map (es : List (AV × AV × Nat)) (clock : Nat) (ro : Bool)
  deriving Inhabited

structure AH where
  g : Nat → AB
  n : Nat

def AH.get (H : AH) (b : Nat) : AB := H.g b

/-- function update -/
def upd {α : Type} (f : Nat → α) (i : Nat) (x : α) : Nat → α := fun j => if j = i then x else f j
theorem upd_same {α : Type} (f : Nat → α) (i : Nat) (x : α) : upd f i x i = x := by simp [upd]
theorem upd_ne {α : Type} (f : Nat → α) {i j : Nat} (x : α) (h : j ≠ i) : upd f i x j = f j := by simp [upd, h]

/-- what an operation does: blocks that are written; 'news': one block of the number 'nid' was made -/
structure Eff where
  ws : List (Nat × AB) := []
  new : Option AB := none

def allOf {α β : Type} (f : α → Option β) : List α → Option (List β)
  | [] => some []
  | a :: as => match f a, allOf f as with | some b, some bs => some (b :: bs) | _, _ => none

/-- constants of the code -/
def AV.ofScalar : Value → Option AV
  | .int k n => some (.int k n)
  | .bool b => some (.bool b)
  | .string s => some (.str s)
  | .pointer none => some (.ptr none)
  | .slice none 0 0 => some (.slc none 0 0 0)
  | .map none => some (.map none)
  | .nilFunc => some .nilfn
  | _ => none
def AV.ofConst : Value → Option AV
  | .agg cs => (allOf AV.ofScalar cs.toList).map .agg
  | .tuple vs => if vs.isEmpty then some (.tup []) else none
  | v => AV.ofScalar v

def aeval (T : Nat → AV) : Operand → Option AV
  | .tmp t => some (T t)
  | .const v => AV.ofConst v
  | .global _ => none
  | .func f => some (.fn f [] [])

/-- what is asked of a type -/
structure TI where
  desc : TypeDesc
  agg : Bool
  size : Nat
  bytes : Nat
  zero : Option (List AV)

def isAggD : TypeDesc → Bool
  | .struct _ | .array _ _ => true
  | _ => false

def isAggV : Value → Bool
  | .agg _ => true
  | _ => false

def ti (P : Program) (t : TypeId) : Option TI :=
  match P.info? t, P.underlying t with
  | some i, some d => some
      { desc := d, agg := isAggD d, size := i.size, bytes := i.bytes,
        zero := match i.zero with | some z => if isAggV z = isAggD d then allOf AV.ofScalar z.cells.toList else none | none => none }
  | _, _ => none

/-- a value out of cells -/
def mk (agg : Bool) (cs : List AV) : Option AV :=
  if agg then some (.agg cs) else match cs with | [v] => some v | _ => none

/-- cells of a block -/
def cellsAt (g : Nat → AB) (b o n : Nat) : Option (List AV) :=
  match g b with
  | .cells cs _ _ => if o + n ≤ cs.length then some ((cs.drop o).take n) else none
  | _ => none

def setCells (g : Nat → AB) (b o : Nat) (vs : List AV) : Option AB :=
  match g b with
  | .cells cs e false => if o + vs.length ≤ cs.length then some (.cells (cs.take o ++ vs ++ cs.drop (o + vs.length)) e false) else none
  | _ => none

def fillA (cells : List AV) : List (Nat × Nat × AV) → Option (List AV)
  | [] => some cells
  | (off, size, v) :: rest =>
    if v.cells.length = size ∧ off + size ≤ cells.length then fillA (cells.take off ++ v.cells ++ cells.drop (off + size)) rest else none

/-- scalars that '==' can be asked of -/
def aeq1 : AV → AV → Option Bool
  | .int k a, .int k' b => if k = k' then some (a == b) else none
  | .bool a, .bool b => some (a == b)
  | .str a, .str b => some (a == b)
  | _, _ => none
def aeqs : List AV → List AV → Option Bool
  | [], [] => some true
  | a :: as, b :: bs => match aeq1 a b, aeqs as bs with | some x, some y => some (x && y) | _, _ => none
  | _, _ => none

end Go.Eng
namespace Go.Eng
set_option linter.unusedVariables false

inductive ARes where
  | val (v : AV) (e : Eff)
  | call (f : FuncId) (args : List AV)

def ARes.pure (v : AV) : ARes := .val v {}

/-- integer operations -/
def aint (op : BinOp) (k : IntKind) (x y : Int) : Option AV :=
  match op with
  | .add => some (.int k (k.wrap (x + y)))
  | .sub => some (.int k (k.wrap (x - y)))
  | .mul => some (.int k (k.wrap (x * y)))
  | .quo => if y = 0 then none else some (.int k (k.wrap (x.tdiv y)))
  | .rem => if y = 0 then none else some (.int k (x.tmod y))
  | .and => some (.int k (k.wrap ((BitVec.ofInt k.bits x &&& BitVec.ofInt k.bits y).toNat)))
  | .or => some (.int k (k.wrap ((BitVec.ofInt k.bits x ||| BitVec.ofInt k.bits y).toNat)))
  | .xor => some (.int k (k.wrap ((BitVec.ofInt k.bits x ^^^ BitVec.ofInt k.bits y).toNat)))
  | .andNot => some (.int k (k.wrap ((BitVec.ofInt k.bits x &&& ~~~(BitVec.ofInt k.bits y)).toNat)))
  | .eql => some (.bool (x == y))
  | .neq => some (.bool (x != y))
  | .lss => some (.bool (x < y))
  | .leq => some (.bool (x ≤ y))
  | .gtr => some (.bool (x > y))
  | .geq => some (.bool (x ≥ y))
  | _ => none

def ashift (op : BinOp) (k : IntKind) (x y : Int) : Option AV :=
  if y < 0 then none else
  match op with
  | .shl => some (.int k (k.wrap (x * 2 ^ (min y.toNat k.bits))))
  | .shr => some (.int k (x.fdiv (2 ^ (min y.toNat k.bits))))
  | _ => none

/-- what the cells of a type are, one by one -/
inductive Leaf where | b | i | s
  deriving DecidableEq

def leafFit : Leaf → AV → Bool
  | .b, .bool _ => true
  | .i, .int _ _ => true
  | .s, .str _ => true
  | _, _ => false

def fits : List Leaf → List AV → Bool
  | [], [] => true
  | l :: ls, a :: as => leafFit l a && fits ls as
  | _, _ => false

def leavesF (P : Program) (f : TypeId → Option (List Leaf)) : Nat → List Field → Option (List Leaf)
  | _, [] => some []
  | o, fd :: fs =>
    if fd.offset = o ∧ (fd.name != "_") = true then
      match f fd.type, ti P fd.type with
      | some l, some i => if l.length = i.size ∧ i.size ≠ 0 then (leavesF P f (o + i.size) fs).map (l ++ ·) else none
      | _, _ => none
    else none

/-- the leaves of a type of bools, integers and strings alone (no blank fields) -/
def leaves (P : Program) : Nat → TypeId → Option (List Leaf)
  | 0, _ => none
  | d + 1, t =>
    match ti P t with
    | none => none
    | some i =>
      match i.desc with
      | .bool => if i.size = 1 then some [.b] else none
      | .int _ => if i.size = 1 then some [.i] else none
      | .string => if i.size = 1 then some [.s] else none
      | .struct fs => if P.stoodInHeld t then none else leavesF P (leaves P d) 0 fs.toList
      | .array n e => match leaves P d e, ti P e with
        | some l, some ie => if l.length = ie.size then some (List.replicate n l).flatten else none
        | _, _ => none
      | _ => none

def aeql (P : Program) (t : TypeId) : AV → AV → Option Bool
  | .bool a, .bool b => match ti P t with | some i => (match i.desc with | .bool => some (a == b) | _ => none) | none => none
  | .ptr a, .ptr none => match ti P t with | some i => (match i.desc with | .pointer _ => some a.isNone | _ => none) | none => none
  | .ptr none, .ptr b => match ti P t with | some i => (match i.desc with | .pointer _ => some b.isNone | _ => none) | none => none
  | .slc a _ _ _, .slc none _ _ _ => match ti P t with | some i => (match i.desc with | .slice _ => some a.isNone | _ => none) | none => none
  | .slc none _ _ _, .slc b _ _ _ => match ti P t with | some i => (match i.desc with | .slice _ => some b.isNone | _ => none) | none => none
  | .map a, .map none => match ti P t with | some i => (match i.desc with | .map _ _ => some a.isNone | _ => none) | none => none
  | .nilfn, .nilfn => match ti P t with | some i => (match i.desc with | .func _ _ _ => some true | _ => none) | none => none
  | .agg xs, .agg ys => match ti P t with
    | some i => match leaves P 9 t with
      | some ks => if i.agg = true ∧ P.eqGuardType P.depth t = false ∧ fits ks xs = true ∧ fits ks ys = true then aeqs xs ys else none
      | none => none
    | none => none
  | .fn _ _ _, .nilfn => match ti P t with | some i => (match i.desc with | .func _ _ _ => some false | _ => none) | none => none
  | _, _ => none

def abin (P : Program) (op : BinOp) (t : TypeId) (x y : AV) : Option AV :=
  match x, y with
  | .int k a, .int k' b =>
    match op with
    | .shl | .shr => ashift op k a b
    | _ => if k = k' then aint op k a b else none
  | .str a, .str b =>
    match op with
    | .eql => some (.bool (a == b))
    | .neq => some (.bool (a != b))
    | _ => none
  | x, y =>
    match op with
    | .eql => (aeql P t x y).map .bool
    | .neq => (aeql P t x y).map fun b => .bool (!b)
    | _ => none

def aun (op : UnOp) (x : AV) : Option AV :=
  match op, x with
  | .neg, .int k n => aint .sub k 0 n
  | .xor, .int k n => aint .xor k (if k.signed then -1 else k.max) n
  | .not, .bool b => some (.bool !b)
  | _, _ => none

/-- the part of an aggregate at an offset -/
def apart' (P : Program) (t : TypeId) (cs : List AV) (off : Nat) : Option AV :=
  match ti P t with
  | some i => if i.agg then (if off + i.size ≤ cs.length then some (.agg ((cs.drop off).take i.size)) else none) else cs[off]?
  | none => none

/-- a key that the type's leaves fit -/
def keyOk (P : Program) (t : TypeId) (k : AV) : Bool :=
  match ti P t, leaves P 9 t with
  | some i, some ks => fits ks k.cells && (match k with | .agg _ => i.agg | _ => !i.agg) &&
      (match i.desc with | .struct fs => fs.toList.all (fun f => match ti P f.type with | some j => !j.agg | none => false) | .array _ _ => false | _ => true)
  | _, _ => false

def aeqK : AV → AV → Option Bool
  | .agg xs, .agg ys => aeqs xs ys
  | .agg _, _ => none
  | _, .agg _ => none
  | a, b => aeq1 a b

def findA (k : AV) : List (AV × AV × Nat) → Nat → Option (Option (Nat × AV × Nat))
  | [], _ => some none
  | e :: es, i =>
    match aeqK k e.1 with
    | some true => some (some (i, e.2))
    | some false => findA k es (i + 1)
    | none => none

def mapOf (g : Nat → AB) (m : Option Nat) : Option (List (AV × AV × Nat) × Nat) :=
  match m with
  | none => some ([], 0)
  | some r => match g r with | .map es c _ => some (es, c) | _ => none

def lenOfA : AV → Option Nat
  | .slc _ n _ _ => some n
  | _ => none

def firstCellsA (g : Nat → AB) (size n : Nat) : AV → Option (List AV)
  | .slc (some (b, o)) _ _ _ => cellsAt g b o (n * size)
  | .slc none _ _ _ => some []
  | _ => none

def tooMany : Nat := 2 ^ 40

def aappend (P : Program) (g : Nat → AB) (nid : Nat) (sT xT : TypeId) (s x : AV) : Option ARes :=
  match ti P sT, ti P xT, s, lenOfA x with
  | some ⟨.slice elem, _, _, _, _⟩, some ⟨xd, _, _, _, _⟩, .slc base len cap sl, some n =>
    match xd, ti P elem with
    | .slice _, some ie =>
      match firstCellsA g ie.size n x with
      | none => none
      | some new =>
        if new.all AV.one = false then none
        else if len + n ≤ cap then
          match base with
          | none => some (.pure (.slc none (len + n) cap sl))
          | some (b, o) => (setCells g b (o + len * ie.size) new).map fun blk => .val (.slc (some (b, o)) (len + n) cap sl) { ws := [(b, blk)] }
        else if (len + n) * ie.bytes ≤ tooMany ∧ len + n ≤ tooMany ∧ ie.size ≠ 0 ∧ (ie.zero.map List.length) = some ie.size ∧ (sl = 0 ∨ sl = ie.size) then
          match base with
          | none => if len = 0 then some (.val (.slc (some (nid, 0)) (len + n) (len + n) ie.size) { new := some (.cells new elem false) }) else none
          | some (b, 0) =>
            match g b, cellsAt g b 0 (len * ie.size) with
            | .cells _ e false, some old =>
              if e = elem then some (.val (.slc (some (nid, 0)) (len + n) (len + n) ie.size) { ws := [(b, .dead)], new := some (.cells (old ++ new) elem false) }) else none
            | _, _ => none
          | _ => none
        else none
    | _, _ => none
  | _, _, _, _ => none

def acopy (P : Program) (g : Nat → AB) (dT : TypeId) (d x : AV) : Option ARes :=
  match ti P dT, d, lenOfA x with
  | some ⟨.slice elem, _, _, _, _⟩, .slc base dLen _ _, some xl =>
    match ti P elem with
    | some ie =>
      match firstCellsA g ie.size (Nat.min xl dLen) x, base with
      | some cells, none => some (.pure (.int .i64 (Nat.min xl dLen : Nat)))
      | some cells, some (b, o) => if cells.all AV.one = false then none else (setCells g b o cells).map fun blk => .val (.int .i64 (Nat.min xl dLen : Nat)) { ws := [(b, blk)] }
      | none, _ => none
    | none => none
  | _, _, _ => none

def zerosA (zero : List AV) : Nat → List AV
  | 0 => []
  | n + 1 => zero ++ zerosA zero n

def aclear (P : Program) (g : Nat → AB) (t : TypeId) (x : AV) : Option ARes :=
  match ti P t, x with
  | some ⟨.slice elem, _, _, _, _⟩, .slc base n _ _ =>
    match base, n with
    | none, _ => some (.pure (.tup []))
    | _, 0 => some (.pure (.tup []))
    | some (b, o), n =>
      match ti P elem with
      | some ie => match ie.zero with
        | some z => if z.length = ie.size then (setCells g b o (zerosA z n)).map fun blk => .val (.tup []) { ws := [(b, blk)] } else none
        | none => none
      | none => none
  | _, _ => none

def adelete (P : Program) (g : Nat → AB) (t : TypeId) (m k : AV) : Option ARes :=
  match ti P t, m with
  | some ⟨.map kt _, _, _, _, _⟩, .map (some r) =>
    if keyOk P kt k then
      match g r with
      | .map es c false =>
        match findA k es 0 with
        | some (some (i, _)) => some (.val (.tup []) { ws := [(r, .map (es.eraseIdx i) c false)] })
        | some none => some (.val (.tup []) { ws := [(r, .map es c false)] })
        | none => none
      | _ => none
    else none
  | _, _ => none

def alen (P : Program) (g : Nat → AB) (t : TypeId) (x : AV) : Option AV :=
  match ti P t, x with
  | some ⟨.string, _, _, _, _⟩, .str s => some (.int .i64 s.size)
  | some ⟨.slice _, _, _, _, _⟩, .slc _ n _ _ => some (.int .i64 n)
  | some ⟨.map _ _, _, _, _, _⟩, .map m => (mapOf g m).map fun es => .int .i64 es.1.length
  | _, _ => none

def amin2 (lo : Bool) : AV → AV → Option AV
  | .int k x, .int k' y => if k = k' then some (.int k (if lo then (if y < x then y else x) else (if x < y then y else x))) else none
  | _, _ => none

def abuiltin (P : Program) (g : Nat → AB) (nid : Nat) (b : Builtin) (ts : List TypeId) (args : List AV) : Option ARes :=
  match b, ts, args with
  | .append, [s, x], [v, y] => aappend P g nid s x v y
  | .copy, [d, _], [v, y] => acopy P g d v y
  | .clear, [t], [x] => aclear P g t x
  | .delete, t :: _, [m, k] => adelete P g t m k
  | .len, t :: _, x :: _ => (alen P g t x).map .pure
  | .min, _, [x, y] => (amin2 true x y).map .pure
  | .max, _, [x, y] => (amin2 false x y).map .pure
  | _, _, _ => none

/-- bounds of a slice expression: x[lo:hi:max] -/
def abound (v : Option AV) (dflt top : Nat) : Option Nat :=
  match v with
  | none => some dflt
  | some (.int _ i) => if 0 ≤ i ∧ i ≤ top then some i.toNat else none
  | _ => none

def aslice (P : Program) (t : TypeId) (x : AV) (lo hi mx : Option AV) : Option AV :=
  match ti P t, x with
  | some ⟨.string, _, _, _, _⟩, .str s =>
    match mx, abound hi s.size s.size with
    | none, some h => (abound lo 0 h).map fun l => .str (s.extract l h)
    | _, _ => none
  | some ⟨.slice elem, _, _, _, _⟩, .slc a len cap sl =>
    match ti P elem, abound mx cap cap with
    | some ie, some m =>
      match (if mx.isSome && hi.isNone then none else abound hi len m) with
      | some h =>
        match abound lo 0 h with
        | some l =>
          match a with
          | none => if l = 0 then some (.slc none (h - l) (m - l) 0) else none
          | some (b, o) =>
            if ¬(sl = 0 ∨ sl = ie.size) then none
            else if mx.isSome then some (.slc (some (b, if m = l then o else o + l * ie.size)) (h - l) (m - l) 0)
            else if l = 0 then some (.slc (some (b, o)) h m sl)
            else if l < m ∧ ie.size ≠ 0 then some (.slc (some (b, o + l * ie.size)) (h - l) (m - l) sl)
            else none
        | none => none
      | none => none
    | _, _ => none
  | some ⟨.array n elem, _, _, _, _⟩, .ptr (some (b, o)) =>
    match ti P elem, abound mx n n with
    | some ie, some m =>
      match (if mx.isSome && hi.isNone then none else abound hi n m) with
      | some h =>
        match abound lo 0 h with
        | some l => if l = m then some (.slc (some (b, o)) (h - l) (m - l) 0) else some (.slc (some (b, o + l * ie.size)) (h - l) (m - l) 0)
        | none => none
      | none => none
    | _, _ => none
  | _, _ => none

def aload (P : Program) (g : Nat → AB) (t : TypeId) (a : AV) : Option AV :=
  match ti P t, a with
  | some i, .ptr (some (b, o)) =>
    if i.agg then (cellsAt g b o i.size).map .agg
    else match g b with | .cells cs _ _ => cs[o]? | _ => none
  | _, _ => none

def astore (P : Program) (g : Nat → AB) (t : TypeId) (a v : AV) : Option ARes :=
  match ti P t, a with
  | some i, .ptr (some (b, o)) =>
    if v.cells.length = i.size ∧ v.cells.all AV.one then (setCells g b o v.cells).map fun blk => .val .undef { ws := [(b, blk)] } else none
  | _, _ => none

def abuild (P : Program) (t : TypeId) (parts : List (Nat × AV)) : Option AV :=
  match ti P t with
  | some ⟨.struct fields, _, _, _, some z⟩ =>
    match allOf (fun p : Nat × AV => match fields[p.1]? with | some f => (match ti P f.type with | some i => some (f.offset, i.size, p.2) | none => none) | none => none) parts with
    | some ps => if fields.all (fun f => (ti P f.type).isSome) then (fillA z ps).map .agg else none
    | none => none
  | some ⟨.array _ elem, _, _, _, some z⟩ =>
    match ti P elem with
    | some ie => (fillA z (parts.map fun p => (p.1 * ie.size, ie.size, p.2))).map .agg
    | none => none
  | _ => none

def abuildSlice (P : Program) (nid : Nat) (t : TypeId) (len : Nat) (parts : List (Nat × AV)) : Option ARes :=
  match ti P t with
  | some ⟨.slice elem, _, _, _, _⟩ =>
    match ti P elem with
    | some ie =>
      match ie.zero with
      | some z =>
        if len * ie.size ≤ 2 ^ 24 ∧ z.length = ie.size then
          (fillA (zerosA z len) (parts.map fun p => (p.1 * ie.size, ie.size, p.2))).map fun cs => .val (.slc (some (nid, 0)) len len 0) { new := some (.cells cs elem false) }
        else none
      | none => none
    | none => none
  | _ => none

def amakeSlice (P : Program) (nid : Nat) (t : TypeId) (l c : AV) : Option ARes :=
  match ti P t, l, c with
  | some ⟨.slice elem, _, _, _, _⟩, .int _ l, .int _ c =>
    match ti P elem with
    | some ie =>
      match ie.zero with
      | some z =>
        if 0 ≤ l ∧ l ≤ c ∧ c ≤ tooMany ∧ c * ie.bytes ≤ tooMany ∧ z.length = ie.size then
          some (.val (.slc (some (nid, 0)) l.toNat c.toNat 0) { new := some (.cells (zerosA z c.toNat) elem false) })
        else none
      | none => none
    | none => none
  | _, _, _ => none

def aindexAddr (P : Program) (t : TypeId) (x ix : AV) : Option AV :=
  match ti P t, x, ix with
  | some ⟨.array len elem, _, _, _, _⟩, .ptr (some (b, o)), .int _ i =>
    match ti P elem with
    | some ie => if 0 ≤ i ∧ i < len then some (.ptr (some (b, o + i.toNat * ie.size))) else none
    | none => none
  | some ⟨.slice elem, _, _, _, _⟩, .slc (some (b, o)) len _ _, .int _ i =>
    match ti P elem with
    | some ie => if 0 ≤ i ∧ i < len then some (.ptr (some (b, o + i.toNat * ie.size))) else none
    | none => none
  | _, _, _ => none

def aindex (P : Program) (t : TypeId) (x ix : AV) : Option AV :=
  match ti P t, x, ix with
  | some ⟨.array len elem, _, _, _, _⟩, .agg cs, .int _ i =>
    match ti P elem with
    | some ie => if 0 ≤ i ∧ i < len then apart' P elem cs (i.toNat * ie.size) else none
    | none => none
  | some ⟨.string, _, _, _, _⟩, .str s, .int _ i =>
    if 0 ≤ i then (match s[i.toNat]? with | some b => some (.int .u8 b.toNat) | none => none) else none
  | _, _, _ => none

def afieldAddr (P : Program) (t : TypeId) (x : AV) (f : Nat) : Option AV :=
  match ti P t, x with
  | some ⟨.struct fields, _, _, _, _⟩, .ptr (some (b, o)) =>
    match fields[f]? with
    | some fd => (match ti P fd.type with | some i => if i.size ≠ 0 then some (.ptr (some (b, o + fd.offset))) else none | none => none)
    | none => none
  | _, _ => none

def afield (P : Program) (t : TypeId) (x : AV) (f : Nat) : Option AV :=
  match ti P t, x with
  | some ⟨.struct fields, _, _, _, _⟩, .agg cs => (match fields[f]? with | some fd => apart' P fd.type cs fd.offset | none => none)
  | _, _ => none

def alookup (P : Program) (g : Nat → AB) (t : TypeId) (m k : AV) (ok : Bool) : Option AV :=
  match ti P t, m with
  | some ⟨.map kt et, _, _, _, _⟩, .map r =>
    match mapOf g r, ti P et with
    | some (es, _), some ie =>
      if keyOk P kt k then
        match findA k es 0 with
        | some (some (_, v, _)) => some (if ok then .tup [v, .bool true] else v)
        | some none =>
          match ie.zero with
          | some z => (mk ie.agg z).map fun v => if ok then .tup [v, .bool false] else v
          | none => none
        | none => none
      else none
    | _, _ => none
  | _, _ => none

def amapUpdate (P : Program) (g : Nat → AB) (t : TypeId) (m k v : AV) : Option ARes :=
  match ti P t, m with
  | some ⟨.map kt _, _, _, _, _⟩, .map (some r) =>
    match g r with
    | .map es c false =>
      if keyOk P kt k then
        match findA k es 0 with
        | some (some (i, _, born)) => some (.val .undef { ws := [(r, .map (es.set i (k, v, born)) c false)] })
        | some none => some (.val .undef { ws := [(r, .map (es ++ [(k, v, c)]) (c + 1) false)] })
        | none => none
      else none
    | _ => none
  | _, _ => none

def amapEntry (P : Program) (g : Nat → AB) (t : TypeId) (m k : AV) : Option ARes :=
  match ti P t, m with
  | some ⟨.map kt et, _, _, _, _⟩, .map (some r) =>
    match g r, ti P et with
    | .map es c false, some ie =>
      if keyOk P kt k then
        match findA k es 0 with
        | some (some (i, v, born)) => some (.val (.tup [v, .int .i64 born]) { ws := [(r, .map (es.set i (k, v, born)) c false)] })
        | some none =>
          match ie.zero with
          | some z => (mk ie.agg z).map fun v => .val (.tup [v, .int .i64 c]) { ws := [(r, .map (es ++ [(k, v, c)]) (c + 1) false)] }
          | none => none
        | none => none
      else none
    | _, _ => none
  | _, _ => none

def aentryStore (g : Nat → AB) (m s v : AV) : Option ARes :=
  match m, s with
  | .map (some r), .int _ b =>
    match g r with
    | .map es c false =>
      match es.findIdx? (fun e => (e.2.2 : Int) == b) with
      | some i => some (.val .undef { ws := [(r, .map (es.modify i fun e => (e.1, v, e.2.2)) c false)] })
      | none => none
    | _ => none
  | _, _ => none

def aconvert (P : Program) (src dst : TypeId) (x : AV) : Option AV :=
  match ti P src, ti P dst, x with
  | some _, some ⟨.int k, _, _, _, _⟩, .int _ n => some (.int k (k.wrap n))
  | _, _, _ => none

def optA (ρ : Operand → Option AV) : Option Operand → Option (Option AV)
  | none => some none
  | some o => (ρ o).map some

/-- ONE OPERATION. 'nid': the number that a new block gets. -/
def aop (P : Program) (ρ : Operand → Option AV) (g : Nat → AB) (nid : Nat) (op : Op) : Option ARes :=
  match op with
  | .move x | .assign x => (ρ x).map .pure
  | .pick c a b => match ρ c with | some (.bool t) => ((if t then ρ a else ρ b)).map .pure | _ => none
  | .alloc e => match ti P e with
    | some i => i.zero.map fun z => .val (.ptr (some (nid, 0))) { new := some (.cells z e false) }
    | none => none
  | .box e x => (ρ x).map fun v => .val (.ptr (some (nid, 0))) { new := some (.cells v.cells e false) }
  | .build t ps => match allOf (fun p : Nat × Operand => (ρ p.2).map fun v => (p.1, v)) ps.toList with
    | some ps => (abuild P t ps).map .pure
    | none => none
  | .buildSlice t len ps => match allOf (fun p : Nat × Operand => (ρ p.2).map fun v => (p.1, v)) ps.toList with
    | some ps => abuildSlice P nid t len ps
    | none => none
  | .load t a => match ρ a with | some a => (aload P g t a).map .pure | none => none
  | .store t a v => match ρ a, ρ v with | some a, some v => astore P g t a v | _, _ => none
  | .nilCheck x => match ρ x with
    | some (.ptr (some a)) => some (.pure (.ptr (some a)))
    | some (.fn f a b) => some (.pure (.fn f a b))
    | _ => none
  | .binOp op t x y _ => match ρ x, ρ y with | some x, some y => (abin P op t x y).map .pure | _, _ => none
  | .unOp op _ x => match ρ x with | some x => (aun op x).map .pure | none => none
  | .convert s d x => match ρ x with | some x => (aconvert P s d x).map .pure | none => none
  | .makeFunc (.func f) first cap => match allOf ρ first.toList, allOf ρ cap.toList with | some a, some b => some (.pure (.fn f a b)) | _, _ => none
  | .makeMap _ none => some (.val (.map (some nid)) { new := some (.map [] 0 false) })
  | .makeSlice t l c => match ρ l, ρ c with | some l, some c => amakeSlice P nid t l c | _, _ => none
  | .slice t x lo hi mx =>
    match ρ x, optA ρ lo, optA ρ hi, optA ρ mx with
    | some x, some lo, some hi, some mx => (aslice P t x lo hi mx).map .pure
    | _, _, _, _ => none
  | .fieldAddr t x f => match ρ x with | some x => (afieldAddr P t x f).map .pure | none => none
  | .field t x f => match ρ x with | some x => (afield P t x f).map .pure | none => none
  | .indexAddr t x i => match ρ x, ρ i with | some x, some i => (aindexAddr P t x i).map .pure | _, _ => none
  | .index t x i => match ρ x, ρ i with | some x, some i => (aindex P t x i).map .pure | _, _ => none
  | .lookup t x k ok => match ρ x, ρ k with | some x, some k => (alookup P g t x k ok).map .pure | _, _ => none
  | .mapUpdate t m k v | .insert t m k v => match ρ m, ρ k, ρ v with | some m, some k, some v => amapUpdate P g t m k v | _, _, _ => none
  | .mapEntry t m k => match ρ m, ρ k with | some m, some k => amapEntry P g t m k | _, _ => none
  | .entryStore _ m s v => match ρ m, ρ s, ρ v with | some m, some s, some v => aentryStore g m s v | _, _, _ => none
  | .extract t i => match ρ t with | some (.tup vs) => (vs[i]?).map .pure | _ => none
  | .call { callee := .builtin b, args, argTypes } => match allOf ρ args.toList with | some vs => abuiltin P g nid b argTypes.toList vs | none => none
  | .call { callee := .value f, args, .. } =>
    match ρ f, allOf ρ args.toList with
    | some (.fn f first cap), some vs => some (.call f (first ++ vs ++ cap))
    | _, _ => none
  | _ => none

end Go.Eng
namespace Go.Eng
set_option linter.unusedVariables false

abbrev Slots := Nat → AV

def put (T : Slots) (d : Option Tmp) (v : AV) : Slots := match d with | some d => upd T d v | none => T

def dstOk (sz : Nat) (d : Option Tmp) : Bool := match d with | some d => decide (d < sz) | none => true

def ayield (ops : Array Oper) (T : Slots) (j : Nat) : Option Bool :=
  match (ops[j]?).bind (·.dst) with
  | some d => match T d with | .bool b => some b | _ => none
  | none => none

def applyWs (g : Nat → AB) : List (Nat × AB) → Nat → AB
  | [] => g
  | (b, x) :: ws => applyWs (upd g b x) ws

/-- what an operation leaves; a new block gets the number nid -/
def AH.app (H : AH) (e : Eff) : AH :=
  match e.new with
  | none => { g := applyWs H.g e.ws, n := H.n }
  | some x => { g := upd (applyWs H.g e.ws) H.n x, n := H.n + 1 }

abbrev CallF := FuncId → List AV → AH → Option (AV × AH)

/-- one operation in its turn -/
def ostep (P : Program) (cf : CallF) (sz : Nat) (ops : Array Oper) (o : Oper) (T : Slots) (H : AH) : Option (Slots × AH) :=
  if dstOk sz o.dst then
    if Region.wanted o (ayield ops T) then
      match aop P (aeval T) H.g H.n o.op with
      | some (.val v e) => some (put T o.dst v, H.app e)
      | some (.call f args) => match cf f args H with
        | some (v, H') => some (put T o.dst v, H')
        | none => none
      | none => none
    else some (put T o.dst .undef, H)
  else none

def aops (P : Program) (cf : CallF) (sz : Nat) (ops : Array Oper) : List Oper → Slots → AH → Option (Slots × AH)
  | [], T, H => some (T, H)
  | o :: l, T, H => match ostep P cf sz ops o T H with
    | some (T, H) => aops P cf sz ops l T H
    | none => none

/-! ### regions that draw -/

inductive Kd where | quiet | new | write
  deriving DecidableEq

def kindOf (quiet : FuncId → Bool) : Op → Kd
  | .move _ | .assign _ | .pick .. | .nilCheck _ | .binOp .. | .unOp .. | .convert .. | .makeFunc .. | .slice .. | .fieldAddr .. | .field .. | .indexAddr ..
  | .index .. | .extract .. | .build .. | .load .. | .lookup .. => .quiet
  | .call { callee := .builtin .len, .. } | .call { callee := .builtin .min, .. } | .call { callee := .builtin .max, .. } => .quiet
  | .call { callee := .value (.func f), .. } => if quiet f then .quiet else .write
  | .alloc _ | .box .. | .buildSlice .. | .makeMap .. | .makeSlice .. => .new
  | _ => .write

/-- touches memory? -/
def touches : Op → Bool
  | .load .. | .lookup .. => true
  | .call { callee := .builtin .min, .. } | .call { callee := .builtin .max, .. } => false
  | .call _ => true
  | _ => false

/-- the numbers of the operations ahead of each, by bits -/
def befores (ops : Array Oper) : Array Nat := Region.before ops

def isBefore (bs : Array Nat) (i j : Nat) : Bool := (bs.getD j 0).testBit i

def apartOps (ops : Array Oper) (a b : Oper) : Bool := a.apart ops b && b.apart ops a

def isLoad : Op → Bool
  | .load _ _ => true
  | .call { callee := .builtin .len, .. } => true
  | _ => false

def kindsOk (quiet : FuncId → Bool) (a b : Op) : Bool :=
  match kindOf quiet a, kindOf quiet b with
  | .write, .write => false
  | .write, .quiet => !touches b || isLoad b
  | .quiet, .write => !touches a || isLoad a
  | _, _ => true

/-- no order makes a difference -/
def drawOk (quiet : FuncId → Bool) (ops : Array Oper) : Bool :=
  let bs := befores ops
  (List.range ops.size).all fun j =>
    match ops[j]? with
    | none => true
    | some oj => (oj.after.all fun e => decide (e.on < j) || !Region.binds .any e) && (match oj.op with | .select .. => false | _ => true) &&
      (List.range j).all fun i =>
        match ops[i]? with
        | none => true
        | some oi => isBefore bs i j || (apartOps ops oi oj && kindsOk quiet oi.op oj.op)

/-- how many blocks are made by the operations that make one, ahead of place i -/
def rank (quiet : FuncId → Bool) (ops : Array Oper) (i : Nat) : Nat :=
  ((ops.toList.take i).filter fun o => kindOf quiet o.op = .new).length

def isWriteAt (quiet : FuncId → Bool) (ops : Array Oper) (i : Nat) : Bool :=
  match ops[i]? with
  | some o => kindOf quiet o.op = .write
  | none => false

/-- is block b one that an operation of the region makes which isn't ahead of place i? or, of an operation that writes, one that it keeps off (B)? -/
def hidden (quiet : FuncId → Bool) (ops : Array Oper) (n0 : Nat) (B : Nat → Nat → Bool) (i : Nat) (b : Nat) : Bool :=
  ((List.range ops.size).any fun k =>
    match ops[k]? with
    | some o => kindOf quiet o.op = .new && k != i && b == n0 + rank quiet ops k && !isBefore (befores ops) k i
    | none => false) || (isWriteAt quiet ops i && B i b)

/-- a load: whatever writes, and isn't ahead of it or behind it, keeps off its block -/
def protOk (quiet : FuncId → Bool) (ops : Array Oper) (B : Nat → Nat → Bool) (i : Nat) (ρ : Operand → Option AV) : Op → Bool
  | .load _ a => match ρ a with
    | some (.ptr (some (b, _))) => (List.range ops.size).all fun j => !isWriteAt quiet ops j || isBefore (befores ops) i j || isBefore (befores ops) j i || B j b
    | _ => true
  | .call { callee := .builtin .len, args, .. } => match allOf ρ args.toList with
    | some (.map _ :: _) => (List.range ops.size).all fun j => !isWriteAt quiet ops j || isBefore (befores ops) i j || isBefore (befores ops) j i
    | _ => true
  | _ => true

/-- the slot that an address is reckoned from -/
def rootOf (ops : Array Oper) : Nat → Tmp → Tmp
  | 0, a => a
  | d + 1, a => match ops.toList.find? (fun o => o.dst == some a) with
    | some o => match o.op with
      | .move (.tmp x) | .nilCheck (.tmp x) | .fieldAddr _ (.tmp x) _ => rootOf ops d x
      | _ => a
    | none => a

/-- the blocks that an operation keeps off: those of the loads that don't wait for it -/
def keepOff (ops : Array Oper) (T : Slots) (j b : Nat) : Bool :=
  (List.range ops.size).any fun i => match ops[i]? with
    | some o => match o.op with
      | .load _ (.tmp a) => !isBefore (befores ops) i j && !isBefore (befores ops) j i && (match T (rootOf ops 9 a) with | .ptr (some (b', _)) => b == b' | _ => false)
      | _ => false
    | none => false

def hide (S : Nat → Bool) (g : Nat → AB) : Nat → AB := fun b => if S b then .dead else g b

def AB.ro : AB → AB
  | .cells cs e _ => .cells cs e true
  | .map es c _ => .map es c true
  | .dead => .dead

def roAll (g : Nat → AB) : Nat → AB := fun b => (g b).ro

def restore (S : Nat → Bool) (g g1 : Nat → AB) : Nat → AB := fun b => if S b then g b else g1 b

/-- one operation of a region that draws: whatever has come up ahead of it -/
def dstep (P : Program) (quiet : FuncId → Bool) (cf : CallF) (sz : Nat) (ops : Array Oper) (n0 : Nat) (B : Nat → Nat → Bool) (i : Nat) (o : Oper) (T : Slots) (H : AH) : Option (Slots × AH) :=
  if dstOk sz o.dst then
    if Region.wanted o (ayield ops T) then
      let S := hidden quiet ops n0 B i
      match kindOf quiet o.op with
      | .quiet =>
        match aop P (aeval T) (hide S H.g) H.n o.op with
        | some (.val v e) => if protOk quiet ops B i (aeval T) o.op then some (put T o.dst v, H) else none
        | some (.call f args) => match cf f args { g := roAll (hide S H.g), n := H.n } with
          | some (v, _) => if v.flatT then some (put T o.dst v, H) else none
          | none => none
        | none => none
      | .new =>
        match aop P (aeval T) (hide S H.g) (n0 + rank quiet ops i) o.op with
        | some (.val v { ws := [], new := some x }) => some (put T o.dst v, { g := upd H.g (n0 + rank quiet ops i) x, n := H.n })
        | _ => none
      | .write =>
        match aop P (aeval T) (hide S H.g) H.n o.op with
        | some (.val v e) => let H1 := AH.app { g := hide S H.g, n := H.n } e; some (put T o.dst v, { g := restore S H.g H1.g, n := H1.n })
        | some (.call f args) => match cf f args { g := hide S H.g, n := H.n } with
          | some (v, H1) => some (put T o.dst v, { g := restore S H.g H1.g, n := H1.n })
          | none => none
        | none => none
    else some (put T o.dst .undef, H)
  else none

def dops (P : Program) (quiet : FuncId → Bool) (cf : CallF) (sz : Nat) (ops : Array Oper) (n0 : Nat) (B : Nat → Nat → Bool) : List (Nat × Oper) → Slots → AH → Option (Slots × AH)
  | [], T, H => some (T, H)
  | (i, o) :: l, T, H => match dstep P quiet cf sz ops n0 B i o T H with
    | some (T, H) => dops P quiet cf sz ops n0 B l T H
    | none => none

def numbered (ops : List Oper) (k : Nat) : List (Nat × Oper) :=
  match ops with
  | [] => []
  | o :: l => (k, o) :: numbered l (k + 1)

/-- a new region's first number: its blocks are kept free for it -/
def adraw (P : Program) (quiet : FuncId → Bool) (cf : CallF) (sz : Nat) (ops : Array Oper) (T : Slots) (H : AH) : Option (Slots × AH) :=
  if drawOk quiet ops then dops P quiet cf sz ops H.n (keepOff ops T) (numbered ops.toList 0) T { H with n := H.n + rank quiet ops ops.size } else none

/-! ### code -/
inductive AE where
  | normal
  | exit (id : Nat)
  | ret
  deriving DecidableEq

abbrev Run := Option (AE × Slots × AH)

def aloop (body : Slots → AH → Run) : Nat → Slots → AH → Run
  | 0, _, _ => none
  | k + 1, T, H => match body T H with
    | some (.normal, T, H) => aloop body k T H
    | r => r

def acode (P : Program) (quiet : FuncId → Bool) (cf : CallF) (sz lf : Nat) : Code → Slots → AH → Run
  | .skip, T, H => some (.normal, T, H)
  | .label _, T, H => some (.normal, T, H)
  | .region _ ops draw, T, H => match (if draw then adraw P quiet cf sz ops T H else aops P cf sz ops ops.toList T H) with
    | some (T, H) => some (.normal, T, H)
    | none => none
  | .seq a b, T, H => match acode P quiet cf sz lf a T H with
    | some (.normal, T, H) => acode P quiet cf sz lf b T H
    | r => r
  | .cond c x y, T, H => match aeval T c with
    | some (.bool true) => acode P quiet cf sz lf x T H
    | some (.bool false) => acode P quiet cf sz lf y T H
    | _ => none
  | .block id c, T, H => match acode P quiet cf sz lf c T H with
    | some (.exit i, T, H) => some (if i = id then .normal else .exit i, T, H)
    | r => r
  | .loop c, T, H => aloop (acode P quiet cf sz lf c) lf T H
  | .exit id, T, H => some (.exit id, T, H)
  | .ret, T, H => some (.ret, T, H)
  | _, _, _ => none

def slots0 (args : List AV) : Slots := fun i => args.getD i .undef

def resA (P : Program) (T : Slots) (H : AH) : ResultVar → Option AV
  | .tmp t => some (T t)
  | .cell a t => aload P H.g t (T a)

def aresults (P : Program) (fn : Func) (T : Slots) (H : AH) : Option AV :=
  match allOf (resA P T H) fn.results.toList with
  | some [v] => some v
  | some vs => some (.tup vs)
  | none => none

/-- what is known of some functions: a summary, in the place of the body -/
structure Sums where
  sum : FuncId → Option (List AV → AH → Option (AV × AH)) := fun _ => none
  quiet : FuncId → Bool := fun _ => false

def abody (P : Program) (S : Sums) (cf : CallF) (k : Nat) (fn : Func) (c : Code) (args : List AV) (H : AH) : Option (AV × AH) :=
  if args.length ≤ fn.ntmps then
    match acode P S.quiet cf fn.ntmps k c (slots0 args) H with
    | some (.exit _, _, _) => none
    | some (_, T, H) => (aresults P fn T H).map fun v => (v, H)
    | none => none
  else none

def acall (P : Program) (S : Sums) : Nat → CallF
  | 0, _, _, _ => none
  | k + 1, f, args, H =>
    match S.sum f with
    | some s => s args H
    | none =>
      match P.funcs[f]? with
      | some fn => match fn.body with
        | some c => abody P S (acall P S k) k fn c args H
        | none => none
      | none => none

end Go.Eng
namespace Go.Eng
set_option linter.unusedVariables false

/-- where an abstract block lies: the world's block, from which cell on; how many cells the world's block has -/
structure Loc where
  blk : Nat
  base : Nat
  room : Nat

abbrev Mu := Nat → Loc
abbrev Ok := Nat → Prop

def Loc.at (l : Loc) (o : Nat) : Addr := ⟨l.blk, l.base + o, none⟩

mutual
def VRel (μ : Mu) (ok : Ok) : AV → Value → Prop
  | .int k n, v => v = .int k n
  | .bool b, v => v = .bool b
  | .str s, v => v = .string s
  | .ptr none, v => v = .pointer none
  | .ptr (some a), v => ok a.1 ∧ v = .pointer (some ((μ a.1).at a.2))
  | .slc none l c sl, v => l = 0 ∧ c = 0 ∧ sl = 0 ∧ v = .slice none 0 0
  | .slc (some a) l c sl, v => ok a.1 ∧ ∃ c', v = .slice (some ((μ a.1).at a.2)) l c' ∧ (c' = c ∨ (sl ≠ 0 ∧ c ≤ c' ∧ (μ a.1).base + a.2 + c' * sl ≤ (μ a.1).room))
  | .map none, v => v = .map none
  | .map (some r), v => ok r ∧ v = .map (some (μ r).blk)
  | .fn f xs ys, v => ∃ xs' ys', v = .func (.func f) xs' ys' ∧ VRels μ ok xs xs'.toList ∧ VRels μ ok ys ys'.toList
  | .nilfn, v => v = .nilFunc
  | .agg cs, v => ∃ cs', v = .agg cs' ∧ VRels μ ok cs cs'.toList
  | .tup vs, v => ∃ vs', v = .tuple vs' ∧ VRels μ ok vs vs'.toList
def VRels (μ : Mu) (ok : Ok) : List AV → List Value → Prop
  | [], l => l = []
  | a :: as, l => ∃ v vs, l = v :: vs ∧ VRel μ ok a v ∧ VRels μ ok as vs
end

mutual
theorem VRel.mono {μ μ' : Mu} {ok ok' : Ok} (h : ∀ b, ok b → ok' b ∧ μ' b = μ b) : ∀ {a : AV} {v : Value}, VRel μ ok a v → VRel μ' ok' a v := by
  intro a v r
  cases a with
  | int k n => simpa [VRel] using r
  | bool b => simpa [VRel] using r
  | str s => simpa [VRel] using r
  | ptr a =>
    cases a with
    | none => simpa [VRel] using r
    | some a => simp only [VRel] at r ⊢; obtain ⟨h1, h2⟩ := r; exact ⟨(h _ h1).1, by rw [(h _ h1).2]; exact h2⟩
  | slc a l c sl =>
    cases a with
    | none => simpa [VRel] using r
    | some a => simp only [VRel] at r ⊢; obtain ⟨h1, h2⟩ := r; exact ⟨(h _ h1).1, by rw [(h _ h1).2]; exact h2⟩
  | map a =>
    cases a with
    | none => simpa [VRel] using r
    | some a => simp only [VRel] at r ⊢; obtain ⟨h1, h2⟩ := r; exact ⟨(h _ h1).1, by rw [(h _ h1).2]; exact h2⟩
  | fn f xs ys => simp only [VRel] at r ⊢; obtain ⟨xs', ys', e, h1, h2⟩ := r; exact ⟨xs', ys', e, VRels.mono h h1, VRels.mono h h2⟩
  | nilfn => simpa [VRel] using r
  | agg cs => simp only [VRel] at r ⊢; obtain ⟨cs', e, h1⟩ := r; exact ⟨cs', e, VRels.mono h h1⟩
  | tup vs => simp only [VRel] at r ⊢; obtain ⟨cs', e, h1⟩ := r; exact ⟨cs', e, VRels.mono h h1⟩
theorem VRels.mono {μ μ' : Mu} {ok ok' : Ok} (h : ∀ b, ok b → ok' b ∧ μ' b = μ b) : ∀ {as : List AV} {vs : List Value}, VRels μ ok as vs → VRels μ' ok' as vs := by
  intro as vs r
  cases as with
  | nil => simpa [VRels] using r
  | cons a as => simp only [VRels] at r ⊢; obtain ⟨v, vs, e, h1, h2⟩ := r; exact ⟨v, vs, e, VRel.mono h h1, VRels.mono h h2⟩
end

theorem VRels.length {μ : Mu} {ok : Ok} : ∀ {as : List AV} {vs : List Value}, VRels μ ok as vs → vs.length = as.length
  | [], vs, r => by simp only [VRels] at r; simp [r]
  | a :: as, vs, r => by
    simp only [VRels] at r
    obtain ⟨v, vs, rfl, _, h2⟩ := r
    simp [VRels.length h2]

theorem VRels.get {μ : Mu} {ok : Ok} : ∀ {as : List AV} {vs : List Value}, VRels μ ok as vs → ∀ {i : Nat} {a : AV}, as[i]? = some a → ∃ v, vs[i]? = some v ∧ VRel μ ok a v
  | [], vs, r, i, a, h => by simp at h
  | a :: as, vs, r, i, x, h => by
    simp only [VRels] at r
    obtain ⟨v, vs, rfl, h1, h2⟩ := r
    cases i with
    | zero => simp at h; subst h; exact ⟨v, rfl, h1⟩
    | succ i => simp at h; simpa using VRels.get h2 h

theorem VRels.of_get {μ : Mu} {ok : Ok} : ∀ {as : List AV} {vs : List Value}, vs.length = as.length → (∀ (i : Nat) a v, as[i]? = some a → vs[i]? = some v → VRel μ ok a v) → VRels μ ok as vs
  | [], vs, hl, _ => by simp only [VRels]; exact List.eq_nil_of_length_eq_zero (by simpa using hl)
  | a :: as, [], hl, _ => by simp at hl
  | a :: as, v :: vs, hl, h => by
    simp only [VRels]
    exact ⟨v, vs, rfl, h 0 a v rfl rfl, VRels.of_get (by simpa using hl) fun i x y hx hy => h (i + 1) x y (by simpa using hx) (by simpa using hy)⟩

theorem VRels.append {μ : Mu} {ok : Ok} : ∀ {as : List AV} {vs : List Value} {bs : List AV} {ws : List Value}, VRels μ ok as vs → VRels μ ok bs ws → VRels μ ok (as ++ bs) (vs ++ ws)
  | [], vs, bs, ws, r, s => by simp only [VRels] at r; subst r; simpa using s
  | a :: as, vs, bs, ws, r, s => by
    simp only [VRels] at r
    obtain ⟨v, vs, rfl, h1, h2⟩ := r
    simp only [List.cons_append, VRels]
    exact ⟨v, vs ++ ws, rfl, h1, VRels.append h2 s⟩

theorem VRels.take {μ : Mu} {ok : Ok} (n : Nat) : ∀ {as : List AV} {vs : List Value}, VRels μ ok as vs → VRels μ ok (as.take n) (vs.take n) := by
  intro as vs r
  refine VRels.of_get (by simp [r.length]) fun i a v ha hv => ?_
  rw [List.getElem?_take] at ha hv
  split at ha
  · rename_i hi; rw [if_pos hi] at hv
    obtain ⟨v', h1, h2⟩ := r.get ha
    rw [h1] at hv; cases hv; exact h2
  · cases ha

theorem VRels.drop {μ : Mu} {ok : Ok} (n : Nat) : ∀ {as : List AV} {vs : List Value}, VRels μ ok as vs → VRels μ ok (as.drop n) (vs.drop n) := by
  intro as vs r
  refine VRels.of_get (by simp [r.length]) fun i a v ha hv => ?_
  rw [List.getElem?_drop] at ha hv
  obtain ⟨v', h1, h2⟩ := r.get ha
  rw [h1] at hv; cases hv; exact h2

theorem VRel.cells {μ : Mu} {ok : Ok} {a : AV} {v : Value} (r : VRel μ ok a v) : VRels μ ok a.cells v.cells.toList := by
  cases a with
  | agg cs => simp only [VRel] at r; obtain ⟨cs', rfl, h⟩ := r; simpa [AV.cells, Value.cells] using h
  | ptr a => cases a <;> simp only [VRel] at r
             · subst r; simp [AV.cells, Value.cells, VRels, VRel]
             · obtain ⟨h1, rfl⟩ := r; simp [AV.cells, Value.cells, VRels, VRel, h1]
  | map a => cases a <;> simp only [VRel] at r
             · subst r; simp [AV.cells, Value.cells, VRels, VRel]
             · obtain ⟨h1, rfl⟩ := r; simp [AV.cells, Value.cells, VRels, VRel, h1]
  | slc a l c sl =>
    have r0 := r
    cases a <;> simp only [VRel] at r
    · obtain ⟨rfl, rfl, rfl, rfl⟩ := r; simp [AV.cells, Value.cells, VRels, VRel]
    · obtain ⟨h1, c', rfl, h2⟩ := r; simpa [AV.cells, Value.cells, VRels] using r0
  | fn f xs ys => have r0 := r; simp only [VRel] at r; obtain ⟨_, _, rfl, _, _⟩ := r; simpa [AV.cells, Value.cells, VRels] using r0
  | tup vs => have r0 := r; simp only [VRel] at r; obtain ⟨_, rfl, _⟩ := r; simpa [AV.cells, Value.cells, VRels] using r0
  | _ => simp only [VRel] at r; subst r; simp [AV.cells, Value.cells, VRels, VRel]

/-- what the world's block holds -/
def BRel (μ : Mu) (ok : Ok) (w : World) (l : Loc) : AB → Prop
  | .dead => True
  | .cells cs e ro => ∃ cs' fr, w.heap[l.blk]? = some (.cells cs' e fr) ∧ l.base + cs.length ≤ cs'.size ∧ VRels μ ok cs ((cs'.toList.drop l.base).take cs.length) ∧
      cs'.size = l.room ∧ (ro = false → l.base = 0 ∧ fr = (0, 0))
  | .map es c _ => ∃ es', w.heap[l.blk]? = some (.map es' c) ∧ es'.size = es.length ∧
      ∀ (i : Nat) (e : AV × AV × Nat) (e' : MapEntry), es[i]? = some e → es'[i]? = some e' → VRel μ ok e.1 e'.key ∧ VRel μ ok e.2.1 e'.val ∧ e'.born = e.2.2

def AB.live : AB → Prop
  | .dead => False
  | _ => True
def AB.writable : AB → Prop
  | .cells _ _ ro => ro = false
  | .map _ _ ro => ro = false
  | .dead => False

structure Sim (μ : Mu) (ok : Ok) (H : AH) (w : World) : Prop where
  top : ∀ b, H.n ≤ b → ¬ ok b
  known : ∀ b, (H.g b).live → ok b
  blk : ∀ b, BRel μ ok w (μ b) (H.g b)
  inj : ∀ b b', (H.g b).writable → (H.g b').live → b ≠ b' → (μ b).blk ≠ (μ b').blk

/-- the world's blocks that may be written -/
def Wr (μ : Mu) (H : AH) (c : Nat) : Prop := ∃ b, (H.g b).writable ∧ (μ b).blk = c

/-- from one state to a later one -/
structure Step (N : Nat) (μ : Mu) (ok : Ok) (H : AH) (w : World) (μ' : Mu) (ok' : Ok) (H' : AH) (w' : World) : Prop where
  old : ∀ b, ok b → ok' b ∧ μ' b = μ b
  fresh : ∀ b, ok' b → ok b ∨ N ≤ b
  n : H.n ≤ H'.n
  wr : ∀ c, Wr μ' H' c → Wr μ H c ∨ w.heap.size ≤ c
  ro : ∀ b, (H'.g b).live → ¬ (H'.g b).writable → (H.g b).live ∧ ¬ (H.g b).writable
  os : w'.os = w.os
  tape : w'.tape = w.tape
  output : w'.output = w.output
  drawn : w.drawn ≤ w'.drawn
  size : w.heap.size ≤ w'.heap.size
  keep : ∀ c, c < w.heap.size → ¬ Wr μ H c → w'.heap[c]? = w.heap[c]?

theorem Step.refl (N : Nat) (μ : Mu) (ok : Ok) (H : AH) (w : World) : Step N μ ok H w μ ok H w :=
  ⟨fun b h => ⟨h, rfl⟩, fun b h => .inl h, Nat.le_refl _, fun c h => .inl h, fun b h1 h2 => ⟨h1, h2⟩, rfl, rfl, rfl, Nat.le_refl _, Nat.le_refl _, fun _ _ _ => rfl⟩

theorem Step.trans {N N' μ ok H w μ₁ ok₁ H₁ w₁ μ₂ ok₂ H₂ w₂} (a : Step N μ ok H w μ₁ ok₁ H₁ w₁) (b : Step N' μ₁ ok₁ H₁ w₁ μ₂ ok₂ H₂ w₂) (hN : N ≤ N') : Step N μ ok H w μ₂ ok₂ H₂ w₂ where
  old x h := let h1 := a.old x h; let h2 := b.old x h1.1; ⟨h2.1, h2.2.trans h1.2⟩
  fresh x h := by
    rcases b.fresh x h with h1 | h1
    · exact a.fresh x h1
    · exact .inr (Nat.le_trans hN h1)
  n := Nat.le_trans a.n b.n
  wr c h := by
    rcases b.wr c h with h1 | h1
    · exact a.wr c h1
    · exact .inr (Nat.le_trans a.size h1)
  ro x h1 h2 := let h3 := b.ro x h1 h2; a.ro x h3.1 h3.2
  os := b.os.trans a.os
  tape := b.tape.trans a.tape
  output := b.output.trans a.output
  drawn := Nat.le_trans a.drawn b.drawn
  size := Nat.le_trans a.size b.size
  keep c hc h := by
    have h1 := a.keep c hc h
    have h2 : ¬ Wr μ₁ H₁ c := fun hw => by
      rcases a.wr c hw with h3 | h3
      · exact h h3
      · omega
    exact (b.keep c (Nat.lt_of_lt_of_le hc a.size) h2).trans h1

/-- the slots -/
def TRel (μ : Mu) (ok : Ok) (sz : Nat) (T : Slots) (tmps : Array Value) : Prop :=
  tmps.size = sz ∧ ∀ i, VRel μ ok (T i) (tmps.getD i undef)

theorem VRel.undef {μ : Mu} {ok : Ok} : VRel μ ok AV.undef Go.undef := by
  simp [Go.undef, VRel, VRels]

theorem TRel.mono {μ μ' : Mu} {ok ok' : Ok} {sz : Nat} {T : Slots} {tmps : Array Value} (h : ∀ b, ok b → ok' b ∧ μ' b = μ b) (r : TRel μ ok sz T tmps) : TRel μ' ok' sz T tmps :=
  ⟨r.1, fun i => (r.2 i).mono h⟩

theorem TRel.put {μ : Mu} {ok : Ok} {sz : Nat} {T : Slots} {a : Act} (r : TRel μ ok sz T a.tmps) {d : Option Tmp} (hd : dstOk sz d = true) {x : AV} {v : Value} (hv : VRel μ ok x v) :
    TRel μ ok sz (put T d x) (a.put d v).tmps := by
  cases d with
  | none => simpa [Eng.put, Act.put] using r
  | some d =>
    have hd' : d < sz := by simpa [dstOk] using hd
    refine ⟨by simp [Act.put, r.1], fun i => ?_⟩
    by_cases h : i = d
    · subst h
      simp only [Eng.put, upd_same, Act.put]
      have : (a.tmps.setIfInBounds i v).getD i Go.undef = v := by
        simp [Array.getD_eq_getD_getElem?, r.1, hd']
      rw [this]; exact hv
    · simp only [Eng.put, upd_ne _ _ h, Act.put]
      have : (a.tmps.setIfInBounds d v).getD i Go.undef = a.tmps.getD i Go.undef := by
        simp [Array.getD_eq_getD_getElem?, Ne.symm h]
      rw [this]; exact r.2 i

end Go.Eng
namespace Go.Eng
set_option linter.unusedVariables false

theorem upd_apply {α : Type} (f : Nat → α) (i : Nat) (x : α) (j : Nat) : upd f i x j = if j = i then x else f j := rfl

theorem BRel.lt {μ : Mu} {ok : Ok} {w : World} {l : Loc} {x : AB} (h : BRel μ ok w l x) (hx : x.live) : l.blk < w.heap.size := by
  cases x with
  | dead => exact hx.elim
  | cells cs e ro => obtain ⟨cs', fr, h1, _⟩ := h; exact (Array.getElem?_eq_some_iff.1 h1).1
  | map es c ro => obtain ⟨es', h1, _⟩ := h; exact (Array.getElem?_eq_some_iff.1 h1).1

theorem BRel.mono {μ μ' : Mu} {ok ok' : Ok} {w w' : World} {l : Loc} {x : AB} (h : ∀ b, ok b → ok' b ∧ μ' b = μ b) (hw : x.live → w'.heap[l.blk]? = w.heap[l.blk]?) (r : BRel μ ok w l x) : BRel μ' ok' w' l x := by
  cases x with
  | dead => trivial
  | cells cs e ro => obtain ⟨cs', fr, h1, h2, h3, h4⟩ := r; exact ⟨cs', fr, (hw trivial).trans h1, h2, h3.mono h, h4⟩
  | map es c ro =>
    obtain ⟨es', h1, h2, h3⟩ := r
    exact ⟨es', (hw trivial).trans h1, h2, fun i e e' he he' => let ⟨a, b, d⟩ := h3 i e e' he he'; ⟨a.mono h, b.mono h, d⟩⟩

theorem AB.writable.live {x : AB} (h : x.writable) : x.live := by cases x <;> simp_all [AB.writable, AB.live]

/-- the heap is the same -/
theorem Sim.same {μ : Mu} {ok : Ok} {H : AH} {w w' : World} (S : Sim μ ok H w) (h : w'.heap = w.heap) : Sim μ ok H w' :=
  ⟨S.top, S.known, fun b => (S.blk b).mono (fun b hb => ⟨hb, rfl⟩) (fun _ => by rw [h]), S.inj⟩

theorem Step.same {N : Nat} {μ : Mu} {ok : Ok} {H : AH} {w w' : World} (h : w'.heap = w.heap) (h1 : w'.os = w.os) (h2 : w'.tape = w.tape) (h3 : w'.output = w.output) (h4 : w.drawn ≤ w'.drawn := by first | exact Nat.le_refl _ | exact Nat.le_succ _ | exact Nat.le_add_right _ _) : Step N μ ok H w μ ok H w' :=
  ⟨fun b h => ⟨h, rfl⟩, fun b h => .inl h, Nat.le_refl _, fun c h => .inl h, fun b h1 h2 => ⟨h1, h2⟩, h1, h2, h3, h4, by rw [h]; exact Nat.le_refl _, fun _ _ _ => by rw [h]⟩

/-- A NEW BLOCK. -/
theorem Sim.alloc {μ : Mu} {ok : Ok} {H : AH} {w : World} (S : Sim μ ok H w) {N nid n' : Nat} (hnid : ¬ ok nid) (hN : N ≤ nid) (h1 : H.n ≤ n') (h2 : nid < n') {o : Obj} {x : AB} (hxw : x.writable) {l : Loc} (hl : l.blk = w.heap.size)
    (hb : BRel (upd μ nid l) (fun b => ok b ∨ b = nid) (w.alloc o) l x) :
    Sim (upd μ nid l) (fun b => ok b ∨ b = nid) { g := upd H.g nid x, n := n' } (w.alloc o) ∧
    Step N μ ok H w (upd μ nid l) (fun b => ok b ∨ b = nid) { g := upd H.g nid x, n := n' } (w.alloc o) := by
  have hold : ∀ b, ok b → (ok b ∨ b = nid) ∧ upd μ nid l b = μ b := fun b h => ⟨.inl h, upd_ne _ _ fun e => hnid (e ▸ h)⟩
  have hdead : ¬ (H.g nid).live := fun h => hnid (S.known _ h)
  refine ⟨⟨?_, ?_, ?_, ?_⟩, ⟨hold, ?_, h1, ?_, ?_, rfl, rfl, rfl, Nat.le_refl _, ?_, ?_⟩⟩
  · intro b hb' h
    rcases h with h | h
    · exact S.top b (Nat.le_trans h1 hb') h
    · subst h; exact absurd h2 (Nat.not_lt.2 hb')
  · intro b hl'
    by_cases e : b = nid
    · exact .inr e
    · simp only [upd_ne _ _ e] at hl'; exact .inl (S.known b hl')
  · intro b
    by_cases e : b = nid
    · subst e; simpa only [upd_same] using hb
    · simp only [upd_ne _ _ e]
      refine (S.blk b).mono hold fun hlv => ?_
      exact heap_alloc_old w o _ ((S.blk b).lt hlv)
  · intro b b' hw hlv hne
    by_cases e : b = nid
    · subst e
      have e' : b' ≠ b := Ne.symm hne
      simp only [upd_ne _ _ e'] at hlv ⊢
      simp only [upd_same, hl]
      exact Nat.ne_of_gt ((S.blk b').lt hlv)
    · simp only [upd_ne _ _ e] at hw ⊢
      by_cases e' : b' = nid
      · subst e'; simp only [upd_same, hl]; exact Nat.ne_of_lt ((S.blk b).lt hw.live)
      · simp only [upd_ne _ _ e'] at hlv ⊢; exact S.inj b b' hw hlv hne
  · intro b h
    rcases h with h | h
    · exact .inl h
    · subst h; exact .inr hN
  · rintro c ⟨b, hw, rfl⟩
    by_cases e : b = nid
    · subst e; simp only [upd_same, hl]; exact .inr (Nat.le_refl _)
    · simp only [upd_ne _ _ e] at hw ⊢; exact .inl ⟨b, hw, rfl⟩
  · intro b h1 h2
    by_cases e : b = nid
    · subst e; simp only [upd_same] at h2; exact absurd hxw h2
    · simp only [upd_ne _ _ e] at h1 h2; exact ⟨h1, h2⟩
  · show w.heap.size ≤ (w.heap.push o).size
    simp
  · intro c hc _; exact heap_alloc_old w o c hc

/-- A BLOCK IS WRITTEN: the world's block is another object; all others stay. -/
theorem Sim.write {μ : Mu} {ok : Ok} {H : AH} {w w' : World} (S : Sim μ ok H w) {N b : Nat} (hw : (H.g b).writable) {x : AB} (hx : x.writable)
    (hb : BRel μ ok w' (μ b) x) (hother : ∀ c, c ≠ (μ b).blk → w'.heap[c]? = w.heap[c]?) (hsize : w'.heap.size = w.heap.size) (h1 : w'.os = w.os) (h2 : w'.tape = w.tape) (h3 : w'.output = w.output) (h4 : w.drawn ≤ w'.drawn := by first | exact Nat.le_refl _ | exact Nat.le_succ _ | exact Nat.le_add_right _ _) :
    Sim μ ok { g := upd H.g b x, n := H.n } w' ∧ Step N μ ok H w μ ok { g := upd H.g b x, n := H.n } w' := by
  refine ⟨⟨S.top, ?_, ?_, ?_⟩, ⟨fun b h => ⟨h, rfl⟩, fun b h => .inl h, Nat.le_refl _, ?_, ?_, h1, h2, h3, h4, by rw [hsize]; exact Nat.le_refl _, ?_⟩⟩
  · intro b' hl
    by_cases e : b' = b
    · subst e; exact S.known _ hw.live
    · simp only [upd_ne _ _ e] at hl; exact S.known b' hl
  · intro b'
    by_cases e : b' = b
    · subst e; simpa only [upd_same] using hb
    · simp only [upd_ne _ _ e]
      exact (S.blk b').mono (fun b hb => ⟨hb, rfl⟩) fun hl => hother _ (Ne.symm (S.inj b b' hw hl (Ne.symm e)))
  · intro b1 b2 hw1 hl2 hne
    have hw1' : (H.g b1).writable := by
      by_cases e : b1 = b
      · subst e; exact hw
      · simpa only [upd_ne _ _ e] using hw1
    have hl2' : (H.g b2).live := by
      by_cases e : b2 = b
      · subst e; exact hw.live
      · simpa only [upd_ne _ _ e] using hl2
    exact S.inj b1 b2 hw1' hl2' hne
  · rintro c ⟨b', hw', rfl⟩
    by_cases e : b' = b
    · subst e; exact .inl ⟨b', hw, rfl⟩
    · simp only [upd_ne _ _ e] at hw'; exact .inl ⟨b', hw', rfl⟩
  · intro b' h1 h2
    by_cases e : b' = b
    · subst e; simp only [upd_same] at h2; exact absurd hx h2
    · simp only [upd_ne _ _ e] at h1 h2; exact ⟨h1, h2⟩
  · intro c hc hn
    exact hother c fun e => hn ⟨b, hw, e.symm⟩

/-- A BLOCK IS GIVEN UP. -/
theorem Sim.kill {μ : Mu} {ok : Ok} {H : AH} {w : World} (S : Sim μ ok H w) {N : Nat} (b : Nat) :
    Sim μ ok { g := upd H.g b .dead, n := H.n } w ∧ Step N μ ok H w μ ok { g := upd H.g b .dead, n := H.n } w := by
  have hl : ∀ b', (upd H.g b .dead b').live → (H.g b').live := by
    intro b' h
    by_cases e : b' = b
    · subst e; simp [upd_same, AB.live] at h
    · simpa only [upd_ne _ _ e] using h
  have hw : ∀ b', (upd H.g b .dead b').writable → (H.g b').writable := by
    intro b' h
    by_cases e : b' = b
    · subst e; simp [upd_same, AB.writable] at h
    · simpa only [upd_ne _ _ e] using h
  refine ⟨⟨S.top, fun b' h => S.known b' (hl b' h), ?_, fun b1 b2 h1 h2 hne => S.inj b1 b2 (hw b1 h1) (hl b2 h2) hne⟩,
    ⟨fun b h => ⟨h, rfl⟩, fun b h => .inl h, Nat.le_refl _, ?_, ?_, rfl, rfl, rfl, Nat.le_refl _, Nat.le_refl _, fun _ _ _ => rfl⟩⟩
  · intro b'
    by_cases e : b' = b
    · subst e; simp only [upd_same]; trivial
    · simp only [upd_ne _ _ e]; exact S.blk b'
  · rintro c ⟨b', h, rfl⟩
    exact .inl ⟨b', hw b' h, rfl⟩
  · intro b' h1 h2
    by_cases e : b' = b
    · subst e; simp [upd_same, AB.live] at h1
    · simp only [upd_ne _ _ e] at h1 h2; exact ⟨h1, h2⟩

/-- A BLOCK IS GIVEN UP, AND ANOTHER NUMBER TAKES OVER ITS PLACE. -/
theorem Sim.adopt {μ : Mu} {ok : Ok} {H : AH} {w w' : World} (S : Sim μ ok H w) {N nid n' b : Nat} (hnid : ¬ ok nid) (hN : N ≤ nid) (h1 : H.n ≤ n') (h2 : nid < n') (hw : (H.g b).writable) {x : AB} (hx : x.writable) {l : Loc} (hl : l.blk = (μ b).blk)
    (hb : BRel (upd μ nid l) (fun b => ok b ∨ b = nid) w' l x) (hother : ∀ c, c ≠ (μ b).blk → w'.heap[c]? = w.heap[c]?) (hsize : w'.heap.size = w.heap.size) (e1 : w'.os = w.os) (e2 : w'.tape = w.tape) (e3 : w'.output = w.output) (e4 : w.drawn ≤ w'.drawn := by first | exact Nat.le_refl _ | exact Nat.le_succ _ | exact Nat.le_add_right _ _) :
    Sim (upd μ nid l) (fun b => ok b ∨ b = nid) { g := upd (upd H.g b .dead) nid x, n := n' } w' ∧
    Step N μ ok H w (upd μ nid l) (fun b => ok b ∨ b = nid) { g := upd (upd H.g b .dead) nid x, n := n' } w' := by
  have hold : ∀ b, ok b → (ok b ∨ b = nid) ∧ upd μ nid l b = μ b := fun b h => ⟨.inl h, upd_ne _ _ fun e => hnid (e ▸ h)⟩
  have hbn : b ≠ nid := fun e => hnid (e ▸ S.known _ hw.live)
  have hlv : ∀ b', b' ≠ nid → (upd (upd H.g b .dead) nid x b').live → b' ≠ b ∧ (H.g b').live := by
    intro b' e h
    simp only [upd_ne _ _ e] at h
    by_cases e' : b' = b
    · subst e'; simp [upd_same, AB.live] at h
    · simp only [upd_ne _ _ e'] at h; exact ⟨e', h⟩
  have hwr : ∀ b', b' ≠ nid → (upd (upd H.g b .dead) nid x b').writable → b' ≠ b ∧ (H.g b').writable := by
    intro b' e h
    simp only [upd_ne _ _ e] at h
    by_cases e' : b' = b
    · subst e'; simp [upd_same, AB.writable] at h
    · simp only [upd_ne _ _ e'] at h; exact ⟨e', h⟩
  refine ⟨⟨?_, ?_, ?_, ?_⟩, ⟨hold, ?_, h1, ?_, ?_, e1, e2, e3, e4, by rw [hsize]; exact Nat.le_refl _, ?_⟩⟩
  · intro b' hb' h
    rcases h with h | h
    · exact S.top b' (Nat.le_trans h1 hb') h
    · subst h; exact absurd h2 (Nat.not_lt.2 hb')
  · intro b' h
    by_cases e : b' = nid
    · exact .inr e
    · exact .inl (S.known b' (hlv b' e h).2)
  · intro b'
    by_cases e : b' = nid
    · subst e; simpa only [upd_same] using hb
    · simp only [upd_ne _ _ e]
      by_cases e' : b' = b
      · subst e'; simp only [upd_same]; trivial
      · simp only [upd_ne _ _ e']
        exact (S.blk b').mono hold fun hlv' => hother _ (Ne.symm (S.inj b b' hw hlv' (Ne.symm e')))
  · intro b1 b2 hw1 hl2 hne
    by_cases i1 : b1 = nid
    · subst i1
      have i2 : b2 ≠ b1 := Ne.symm hne
      obtain ⟨j1, j2⟩ := hlv b2 i2 hl2
      simp only [upd_same, upd_ne _ _ i2, hl]
      exact S.inj b b2 hw j2 (Ne.symm j1)
    · obtain ⟨j1, j2⟩ := hwr b1 i1 hw1
      simp only [upd_ne _ _ i1]
      by_cases i2 : b2 = nid
      · subst i2; simp only [upd_same, hl]; exact S.inj b1 b j2 hw.live j1
      · obtain ⟨k1, k2⟩ := hlv b2 i2 hl2
        simp only [upd_ne _ _ i2]; exact S.inj b1 b2 j2 k2 hne
  · intro b' h
    rcases h with h | h
    · exact .inl h
    · subst h; exact .inr hN
  · rintro c ⟨b', hw', rfl⟩
    by_cases e : b' = nid
    · subst e; simp only [upd_same, hl]; exact .inl ⟨b, hw, rfl⟩
    · obtain ⟨j1, j2⟩ := hwr b' e hw'
      simp only [upd_ne _ _ e]; exact .inl ⟨b', j2, rfl⟩
  · intro b' h1 h2
    by_cases e : b' = nid
    · subst e; simp only [upd_same] at h2; exact absurd hx h2
    · obtain ⟨j1, j2⟩ := hlv b' e h1
      simp only [upd_ne _ _ e, upd_ne _ _ j1] at h2
      exact ⟨j2, h2⟩
  · intro c hc hn
    exact hother c fun e => hn ⟨b, hw, e.symm⟩

/-! ### reading -/

theorem cellsAt_rel {μ : Mu} {ok : Ok} {H : AH} {w : World} (S : Sim μ ok H w) {b o n : Nat} {cs : List AV} (h : cellsAt H.g b o n = some cs) :
    ∃ vs : List Value, vs.length = n ∧ cs.length = n ∧ VRels μ ok cs vs ∧ (∀ j v, vs[j]? = some v → w.cell? (((μ b).at o).add j) = some v) := by
  unfold cellsAt at h
  cases hg : H.g b with
  | dead => simp [hg] at h
  | map es c ro => simp [hg] at h
  | cells cs0 e ro =>
    simp only [hg] at h
    split at h
    · rename_i hle
      obtain rfl := Option.some.inj h
      have hB := S.blk b
      rw [hg] at hB
      obtain ⟨cs', fr, h1, h2, h3, _⟩ := hB
      refine ⟨((((cs'.toList.drop (μ b).base).take cs0.length).drop o).take n), ?_, ?_, (h3.drop o).take n, ?_⟩
      · simp; omega
      · simp; omega
      · intro j v hv
        rw [List.getElem?_take] at hv
        split at hv
        · rename_i hj
          rw [List.getElem?_drop, List.getElem?_take] at hv
          split at hv
          · rw [List.getElem?_drop] at hv
            have ha : ((μ b).at o).add j = ⟨(μ b).blk, (μ b).base + (o + j), none⟩ := by
              unfold Loc.at Addr.add
              split
              · rename_i e0; subst e0; rfl
              · simp [Nat.add_assoc]
            rw [ha]
            simp only [World.cell?, h1]
            simpa using hv
          · cases hv
        · cases hv
    · cases h

theorem VRels.one {μ : Mu} {ok : Ok} : ∀ {as : List AV} {vs : List Value}, VRels μ ok as vs → as.all AV.one = true → ∀ u ∈ vs, u.oneCell' = true
  | [], vs, r, _, u, hu => by simp only [VRels] at r; subst r; cases hu
  | a :: as, vs, r, h, u, hu => by
    simp only [VRels] at r
    obtain ⟨v, vs, rfl, h1, h2⟩ := r
    simp only [List.all_cons, Bool.and_eq_true] at h
    rcases List.mem_cons.1 hu with rfl | hu
    · have ha := h.1
      cases a with
      | agg cs => simp [AV.one] at ha
      | tup cs => simp [AV.one] at ha
      | ptr a => cases a <;> simp only [VRel] at h1 <;> first | (subst h1; rfl) | (obtain ⟨_, rfl⟩ := h1; rfl)
      | map a => cases a <;> simp only [VRel] at h1 <;> first | (subst h1; rfl) | (obtain ⟨_, rfl⟩ := h1; rfl)
      | slc a l c sl => cases a <;> simp only [VRel] at h1 <;> first | (obtain ⟨_, _, _, rfl⟩ := h1; rfl) | (obtain ⟨_, _, rfl, _⟩ := h1; rfl)
      | fn f x y => simp only [VRel] at h1; obtain ⟨_, _, rfl, _⟩ := h1; rfl
      | _ => simp only [VRel] at h1; subst h1; rfl
    · exact VRels.one h2 h.2 u hu

/-- cells written into a block: what the world's row holds then -/
theorem setCells_rel {μ : Mu} {ok : Ok} {H : AH} {w : World} (S : Sim μ ok H w) {N b o : Nat} {cs : List AV} {x : AB} (h : setCells H.g b o cs = some x) {vs : List Value} (hr : VRels μ ok cs vs) (h1 : ∀ u ∈ vs, u.oneCell' = true) (P : Program) :
    (μ b).base = 0 ∧ ∃ w', (storeCells ((μ b).at o) vs).run P w = .ok () w' ∧ (Sim μ ok { g := upd H.g b x, n := H.n } w' ∧ Step N μ ok H w μ ok { g := upd H.g b x, n := H.n } w') := by
  unfold setCells at h
  cases hg : H.g b with
  | dead => simp [hg] at h
  | map es c ro => simp [hg] at h
  | cells cs0 e ro =>
    simp only [hg] at h
    cases ro with
    | true => simp at h
    | false =>
      simp only at h
      split at h
      · rename_i hle
        obtain rfl := Option.some.inj h
        have hB := S.blk b
        rw [hg] at hB
        obtain ⟨cs', fr, h2, h3, h4, h5, h6⟩ := hB
        obtain ⟨hb0, rfl⟩ := h6 rfl
        have hlen : vs.length = cs.length := hr.length
        have hst := run_storeCells_at P (μ b).blk o e vs 0 cs' w h2 (by omega) h1
        have hat : (μ b).at o = ⟨(μ b).blk, o, none⟩ := by simp [Loc.at, hb0]
        refine ⟨hb0, _, by rw [hat]; exact hst, ?_⟩
        have hwri : (H.g b).writable := by rw [hg]; rfl
        refine S.write (x := .cells (cs0.take o ++ cs ++ cs0.drop (o + cs.length)) e false) hwri rfl ?_ (fun c hc => setRow_other w _ _ _ hc) (by simp) rfl rfl rfl
        refine ⟨_, (0, 0), setRow_heap w _ cs' _ e (0, 0) h2, ?_, ?_, ?_, fun _ => ⟨hb0, rfl⟩⟩
        · simp [hb0] at h3 ⊢; omega
        · rw [hb0] at h4 ⊢
          simp only [List.drop_zero, Nat.add_zero] at h4 ⊢
          have hA : VRels μ ok (cs0.take o) (cs'.toList.take o) := by
            have := h4.take o
            rwa [List.take_take, Nat.min_eq_left (by omega)] at this
          have hB : VRels μ ok (cs0.drop (o + cs.length)) ((cs'.toList.take cs0.length).drop (o + cs.length)) := h4.drop _
          have := (hA.append hr).append hB
          have e1 : (cs'.toList.take o ++ vs ++ cs'.toList.drop (o + vs.length)).take (cs0.take o ++ cs ++ cs0.drop (o + cs.length)).length = cs'.toList.take o ++ vs ++ (cs'.toList.take cs0.length).drop (o + cs.length) := by
            have l1 : (cs0.take o ++ cs ++ cs0.drop (o + cs.length)).length = cs0.length := by simp; omega
            have l2 : (cs'.toList.take o ++ vs).length = o + cs.length := by simp; omega
            rw [l1, List.take_append, List.take_of_length_le (by omega), l2, List.drop_take, hlen]
          rw [e1]; exact this
        · simp only [Nat.add_zero]
          rw [← h5]
          simp; omega
      · cases h

end Go.Eng
namespace Go.Eng
set_option linter.unusedVariables false
set_option linter.unusedSimpArgs false

theorem ti_parts {P : Program} {t : TypeId} {i : TI} (h : ti P t = some i) : ∃ info, P.info? t = some info ∧ P.underlying t = some i.desc ∧
    i.agg = (match i.desc with | .struct _ | .array _ _ => true | _ => false) ∧ info.size = i.size ∧ info.bytes = i.bytes ∧ (∀ z, i.zero = some z → ∃ zv, info.zero = some zv ∧ allOf AV.ofScalar zv.cells.toList = some z ∧ isAggV zv = i.agg) := by
  unfold ti at h
  split at h
  · rename_i info d h1 h2
    obtain rfl := Option.some.inj h
    refine ⟨info, h1, h2, ?_, rfl, rfl, fun z hz => ?_⟩
    · cases d <;> rfl
    · simp only at hz
      split at hz
      · rename_i zv hzv
        split at hz
        · rename_i ha; exact ⟨zv, hzv, hz, ha⟩
        · cases hz
      · cases hz
  · cases h

theorem ofScalar_rel {v : Value} {a : AV} (h : AV.ofScalar v = some a) (μ : Mu) (ok : Ok) : VRel μ ok a v := by
  unfold AV.ofScalar at h
  split at h <;> first | (obtain rfl := Option.some.inj h; simp [VRel]) | cases h

theorem allOf_scalar {vs : List Value} : ∀ {as : List AV}, allOf AV.ofScalar vs = some as → ∀ (μ : Mu) (ok : Ok), VRels μ ok as vs := by
  induction vs with
  | nil => intro as h μ ok; simp only [allOf] at h; obtain rfl := Option.some.inj h; simp [VRels]
  | cons v vs ih =>
    intro as h μ ok
    simp only [allOf] at h
    split at h
    · rename_i b bs h1 h2
      obtain rfl := Option.some.inj h
      simp only [VRels]
      exact ⟨v, vs, rfl, ofScalar_rel h1 μ ok, ih h2 μ ok⟩
    · cases h

theorem ofConst_rel {v : Value} {a : AV} (h : AV.ofConst v = some a) (μ : Mu) (ok : Ok) : VRel μ ok a v := by
  unfold AV.ofConst at h
  split at h
  · rename_i cs
    cases hc : allOf AV.ofScalar cs.toList with
    | none => simp [hc] at h
    | some as =>
      simp only [hc, Option.map_some, Option.some.injEq] at h; subst h
      simp only [VRel]
      exact ⟨cs, rfl, allOf_scalar hc μ ok⟩
  · rename_i vs
    split at h
    · rename_i he
      obtain rfl := Option.some.inj h
      have : vs = #[] := by simpa using he
      subst this
      simp [VRel, VRels]
    · cases h
  · exact ofScalar_rel h μ ok

/-- operands -/
def ORel (μ : Mu) (ok : Ok) (ρ : Operand → Option AV) (ρc : Operand → Value) : Prop := ∀ x v, ρ x = some v → VRel μ ok v (ρc x)

theorem aeval_rel {μ : Mu} {ok : Ok} {sz : Nat} {T : Slots} {a : Act} (r : TRel μ ok sz T a.tmps) : ORel μ ok (aeval T) a.eval := by
  intro x v h
  cases x with
  | tmp t => simp only [aeval, Option.some.injEq] at h; subst h; exact r.2 t
  | const c => exact ofConst_rel h μ ok
  | global g => cases h
  | func f => simp only [aeval, Option.some.injEq] at h; subst h; simp [Act.eval, VRel, VRels]

theorem allOf_rel {μ : Mu} {ok : Ok} {ρ : Operand → Option AV} {ρc : Operand → Value} (h : ORel μ ok ρ ρc) : ∀ {xs : List Operand} {vs : List AV}, allOf ρ xs = some vs → VRels μ ok vs (xs.map ρc)
  | [], vs, e => by simp only [allOf] at e; obtain rfl := Option.some.inj e; simp [VRels]
  | x :: xs, vs, e => by
    simp only [allOf] at e
    split at e
    · rename_i b bs h1 h2
      obtain rfl := Option.some.inj e
      simp only [List.map_cons, VRels]
      exact ⟨_, _, rfl, h _ _ h1, allOf_rel h h2⟩
    · cases e

/-- what is left behind an operation; a new block gets the number nid -/
def AH.appAt (H : AH) (nid n' : Nat) (e : Eff) : AH :=
  match e.new with
  | none => { g := applyWs H.g e.ws, n := H.n }
  | some x => { g := upd (applyWs H.g e.ws) nid x, n := n' }

/-- THE OUTCOME: a value and a world that fit. -/
def Out (N : Nat) (μ : Mu) (ok : Ok) (H : AH) (w : World) (nid n' : Nat) (v : AV) (e : Eff) (v' : Value) (w' : World) : Prop :=
  ∃ μ' ok', VRel μ' ok' v v' ∧ Sim μ' ok' (H.appAt nid n' e) w' ∧ Step N μ ok H w μ' ok' (H.appAt nid n' e) w' ∧ ∀ b, ok' b → ok b ∨ b = nid

theorem Out.pure {N : Nat} {μ : Mu} {ok : Ok} {H : AH} {w : World} {nid n' : Nat} {v : AV} {v' : Value} (S : Sim μ ok H w) (h : VRel μ ok v v') : Out N μ ok H w nid n' v {} v' w :=
  ⟨μ, ok, h, by simpa [AH.appAt, applyWs] using S, by simpa [AH.appAt, applyWs] using Step.refl N μ ok H w, fun b h => .inl h⟩

/-- what 'aop' gives for an operation that has a value, against the model's -/
def Fits (P : Program) (N : Nat) (μ : Mu) (ok : Ok) (H : AH) (w : World) (nid n' : Nat) (s : Sem Value) (r : ARes) : Prop :=
  match r with
  | .val v e => ∃ v' w', s.run P w = .ok v' w' ∧ Out N μ ok H w nid n' v e v' w'
  | .call _ _ => False

/-- .. and for one that has none -/
def FitsU (P : Program) (N : Nat) (μ : Mu) (ok : Ok) (H : AH) (w : World) (nid n' : Nat) (s : Sem Unit) (r : ARes) : Prop :=
  match r with
  | .val v e => ∃ w', s.run P w = .ok () w' ∧ Out N μ ok H w nid n' v e undef w'
  | .call _ _ => False

section
variable {P : Program} {N : Nat} {μ : Mu} {ok : Ok} {H : AH} {w : World} {nid n' : Nat}

theorem run_isAgg {t : TypeId} {i : TI} (h : ti P t = some i) (w : World) : (isAgg t).run P w = .ok i.agg w := by
  obtain ⟨info, h1, h2, h3, _⟩ := ti_parts h
  unfold isAgg
  simp only [Sem.run_bind, run_underlying h2, Result.andThen_ok, h3]
  generalize i.desc = d
  cases d <;> rfl

theorem run_sizeOf {t : TypeId} {i : TI} (h : ti P t = some i) (w : World) : (sizeOf t).run P w = .ok i.size w := by
  obtain ⟨info, h1, h2, h3, h4, _⟩ := ti_parts h
  simp [sizeOf, typeInfo, h1, h4]

theorem run_info {t : TypeId} {i : TI} (h : ti P t = some i) (w : World) : ∃ info, (typeInfo t).run P w = .ok info w ∧ info.size = i.size ∧ info.bytes = i.bytes := by
  obtain ⟨info, h1, h2, h3, h4, h5, _⟩ := ti_parts h
  exact ⟨info, by simp [typeInfo, h1], h4, h5⟩

theorem run_zero {t : TypeId} {i : TI} (h : ti P t = some i) {z : List AV} (hz : i.zero = some z) (w : World) : ∃ zv, (zeroValue t).run P w = .ok zv w ∧ ∀ μ ok, VRels μ ok z zv.cells.toList := by
  obtain ⟨info, h1, h2, h3, h4, h5, h6⟩ := ti_parts h
  obtain ⟨zv, e1, e2, _⟩ := h6 z hz
  exact ⟨zv, by simp [zeroValue, typeInfo, h1, e1], fun μ ok => allOf_scalar e2 μ ok⟩

theorem under {t : TypeId} {i : TI} (h : ti P t = some i) (w : World) : (underlying t).run P w = .ok i.desc w := by
  obtain ⟨info, h1, h2, _⟩ := ti_parts h
  exact run_underlying h2 w

theorem load_run (S : Sim μ ok H w) {t : TypeId} {a v : AV} {a' : Value} (ha : VRel μ ok a a') (h : aload P H.g t a = some v) : ∃ b v', a' = .pointer (some b) ∧ (loadVar t b).run P w = .ok v' w ∧ VRel μ ok v v' := by
  unfold aload at h
  split at h
  · rename_i i b o hi
    simp only [VRel] at ha
    obtain ⟨hok, rfl⟩ := ha
    refine ⟨(μ b).at o, ?_⟩
    simp only [loadVar, Sem.run_bind, run_isAgg hi, Result.andThen_ok]
    split at h
    · rename_i hagg
      rw [Option.map_eq_some_iff] at h
      obtain ⟨cs, hc, rfl⟩ := h
      obtain ⟨vs, hl, _, hr, hcell⟩ := cellsAt_rel S hc
      have hload := run_loadCells_list (P := P) (w := w) ((μ b).at o) vs hcell
      rw [hl] at hload
      refine ⟨.agg vs.toArray, trivial, ?_, by simp only [VRel]; exact ⟨_, rfl, by simpa using hr⟩⟩
      simp [hagg, run_sizeOf hi, hload]
    · rename_i hagg
      have hcell : ∃ u, w.cell? ((μ b).at o) = some u ∧ VRel μ ok v u := by
        have h1 : cellsAt H.g b o 1 = some [v] := by
          unfold cellsAt
          split at h
          · rename_i cs e ro hg
            try rw [hg]
            have hlt : o < cs.length := (List.getElem?_eq_some_iff.1 h).1
            try simp only
            rw [if_pos (by omega)]
            have := (List.getElem?_eq_some_iff.1 h).2
            rw [List.drop_eq_getElem_cons hlt, this]; rfl
          · cases h
        obtain ⟨vs, hl, _, hr, hcell⟩ := cellsAt_rel S h1
        simp only [VRels] at hr
        obtain ⟨u, us, rfl, hu, rfl⟩ := hr
        exact ⟨u, by simpa [Addr.add] using hcell 0 u rfl, hu⟩
      obtain ⟨u, hu, hr⟩ := hcell
      refine ⟨u, trivial, ?_, hr⟩
      have : i.agg = false := by simpa using hagg
      simp [this, hu]
  · cases h

theorem fits_load (S : Sim μ ok H w) {t : TypeId} {a v : AV} {a' : Value} (ha : VRel μ ok a a') (h : aload P H.g t a = some v) : Fits P N μ ok H w nid n' (Instr.loadAt t a') (.pure v) := by
  obtain ⟨b, v', rfl, h1, h2⟩ := load_run S ha h
  exact ⟨v', w, by simp [Instr.loadAt, Instr.sureAddr, h1], Out.pure S h2⟩

theorem fits_store (S : Sim μ ok H w) {t : TypeId} {a v : AV} {a' v' : Value} (ha : VRel μ ok a a') (hv : VRel μ ok v v') {r : ARes} (h : astore P H.g t a v = some r) : FitsU P N μ ok H w nid n' (Instr.storeAt t a' v') r := by
  unfold astore at h
  split at h
  · rename_i i b o hi
    simp only [VRel] at ha
    obtain ⟨hok, rfl⟩ := ha
    split at h
    · rename_i hc
      rw [Option.map_eq_some_iff] at h
      obtain ⟨blk, hb, rfl⟩ := h
      have hcr := hv.cells
      obtain ⟨hb0, w', hrun, hsim, hstep⟩ := setCells_rel (N := N) S hb hcr (hcr.one hc.2) P
      have hsize : v'.cells.size = i.size := by rw [← hc.1, ← Array.length_toList]; exact hcr.length
      refine ⟨w', ?_, μ, ok, VRel.undef, by simpa [AH.appAt, applyWs] using hsim, by simpa [AH.appAt, applyWs] using hstep, fun b h => .inl h⟩
      simp [Instr.storeAt, Instr.sureAddr, storeVar, run_sizeOf hi, hsize, hrun]
    · cases h
  · cases h

theorem fits_new (S : Sim μ ok H w) (hnid : ¬ ok nid) (hN : N ≤ nid) (h1 : H.n ≤ n') (h2 : nid < n') {cs : List AV} {cs' : Array Value} (hr : VRels μ ok cs cs'.toList) (e : TypeId) :
    Out N μ ok H w nid n' (.ptr (some (nid, 0))) { new := some (.cells cs e false) } (.pointer (some ⟨w.heap.size, 0, none⟩)) (w.alloc (.cells cs' e)) ∧
    ∀ l c c' : Nat, (∀ sl, c' = c ∨ (sl ≠ 0 ∧ c ≤ c' ∧ c' * sl ≤ cs'.size) → Out N μ ok H w nid n' (.slc (some (nid, 0)) l c sl) { new := some (.cells cs e false) } (.slice (some ⟨w.heap.size, 0, none⟩) l c') (w.alloc (.cells cs' e))) := by
  have hb : BRel (upd μ nid ⟨w.heap.size, 0, cs'.size⟩) (fun b => ok b ∨ b = nid) (w.alloc (.cells cs' e)) ⟨w.heap.size, 0, cs'.size⟩ (.cells cs e false) := by
    have hl := hr.length
    refine ⟨cs', (0, 0), heap_alloc_new w _, by simp at hl ⊢; omega, ?_, rfl, fun _ => ⟨rfl, rfl⟩⟩
    have : cs'.toList.take cs.length = cs'.toList := by rw [← hl, List.take_length]
    simp only [List.drop_zero, this]
    exact hr.mono fun b h => ⟨.inl h, upd_ne μ _ fun (he : b = nid) => hnid (he ▸ h)⟩
  obtain ⟨hs, hst⟩ := S.alloc (N := N) hnid hN h1 h2 (x := .cells cs e false) rfl (l := ⟨w.heap.size, 0, cs'.size⟩) rfl hb
  refine ⟨⟨_, _, ?_, by simpa [AH.appAt, applyWs] using hs, by simpa [AH.appAt, applyWs] using hst, fun b h => h⟩, fun l c c' sl hsl => ⟨_, _, ?_, by simpa [AH.appAt, applyWs] using hs, by simpa [AH.appAt, applyWs] using hst, fun b h => h⟩⟩
  · simp [VRel, upd_same, Loc.at]
  · simp only [VRel, upd_same, Loc.at]
    exact ⟨.inr trivial, c', by simp, by simpa using hsl⟩

theorem fits_box (S : Sim μ ok H w) (hnid : ¬ ok nid) (hN : N ≤ nid) (h1 : H.n ≤ n') (h2 : nid < n') {e : TypeId} {v : AV} {v' : Value} (hv : VRel μ ok v v') :
    Fits P N μ ok H w nid n' (Instr.box e v') (.val (.ptr (some (nid, 0))) { new := some (.cells v.cells e false) }) :=
  ⟨_, _, by simp [Instr.box, newVar, newRow], (fits_new S hnid hN h1 h2 hv.cells e).1⟩

theorem fits_alloc (S : Sim μ ok H w) (hnid : ¬ ok nid) (hN : N ≤ nid) (h1 : H.n ≤ n') (h2 : nid < n') {e : TypeId} {i : TI} (hi : ti P e = some i) {z : List AV} (hz : i.zero = some z) :
    Fits P N μ ok H w nid n' (Instr.alloc e true (.tuple #[])) (.val (.ptr (some (nid, 0))) { new := some (.cells z e false) }) := by
  obtain ⟨zv, hr, hrel⟩ := run_zero hi hz w
  exact ⟨_, _, by simp [Instr.alloc, newVar, newRow, hr], (fits_new S hnid hN h1 h2 (hrel μ ok) e).1⟩

end
end Go.Eng
namespace Go.Eng
set_option linter.unusedVariables false
set_option linter.unusedSimpArgs false

section
variable {P : Program} {N : Nat} {μ : Mu} {ok : Ok} {H : AH} {w : World} {nid n' : Nat}

/-- an operation that reads nothing and gives a value -/
def Gives (P : Program) (μ : Mu) (ok : Ok) (w : World) (s : Sem Value) (v : AV) : Prop := ∃ v', s.run P w = .ok v' w ∧ VRel μ ok v v'

theorem Gives.fits (S : Sim μ ok H w) {s : Sem Value} {v : AV} (h : Gives P μ ok w s v) : Fits P N μ ok H w nid n' s (.pure v) :=
  let ⟨v', h1, h2⟩ := h; ⟨v', w, h1, Out.pure S h2⟩

theorem gives_int {op : BinOp} {k : IntKind} {x y : Int} {v : AV} (h : aint op k x y = some v) (hs : op ≠ .shl ∧ op ≠ .shr) (t : TypeId) : Gives P μ ok w (binOp op t (.int k x) (.int k y)) v := by
  cases op <;> simp only [aint] at h <;>
    first
    | (simp only [ite_eq_left_iff, reduceCtorEq, Option.ite_none_left_eq_some] at h
       obtain ⟨hy, h⟩ := h
       obtain rfl := Option.some.inj h
       refine ⟨_, ?_, by simp only [VRel]; rfl⟩
       simp [binOp, Op.intDiv, hy])
    | (obtain rfl := Option.some.inj h
       refine ⟨_, ?_, by simp only [VRel]; rfl⟩
       simp [binOp, Op.intArith, Op.intBits, Op.intCmp])
    | (exact absurd rfl hs.1)
    | (exact absurd rfl hs.2)
    | (cases h)

theorem gives_shift {op : BinOp} {k ky : IntKind} {x y : Int} {v : AV} (h : ashift op k x y = some v) (hs : op = .shl ∨ op = .shr) (t : TypeId) : Gives P μ ok w (binOp op t (.int k x) (.int ky y)) v := by
  unfold ashift at h
  split at h
  · cases h
  · rename_i hy
    rcases hs with rfl | rfl
    · obtain rfl := Option.some.inj h
      exact ⟨.int k (k.wrap (x * 2 ^ (min y.toNat k.bits))), by simp [binOp, Op.shift, hy], by simp only [VRel]⟩
    · obtain rfl := Option.some.inj h
      exact ⟨.int k (x.fdiv (2 ^ (min y.toNat k.bits))), by simp [binOp, Op.shift, hy], by simp only [VRel]⟩

theorem aeq1_rel {a b : AV} {x : Bool} {a' b' : Value} (h : aeq1 a b = some x) (ha : VRel μ ok a a') (hb : VRel μ ok b b') :
    (∃ k m n, a' = .int k m ∧ b' = .int k n ∧ x = (m == n)) ∨ (∃ m n, a' = .bool m ∧ b' = .bool n ∧ x = (m == n)) ∨ (∃ m n, a' = .string m ∧ b' = .string n ∧ x = (m == n)) := by
  unfold aeq1 at h
  split at h
  · rename_i k m k' n
    simp only [VRel] at ha hb
    split at h
    · rename_i hk; subst hk; exact .inl ⟨k, m, n, ha, hb, (Option.some.inj h).symm⟩
    · cases h
  · rename_i m n; simp only [VRel] at ha hb; exact .inr (.inl ⟨m, n, ha, hb, (Option.some.inj h).symm⟩)
  · rename_i m n; simp only [VRel] at ha hb; exact .inr (.inr ⟨m, n, ha, hb, (Option.some.inj h).symm⟩)
  · cases h

theorem aeqs_append {a b c d : List AV} (hl : a.length = b.length) {x : Bool} (h : aeqs (a ++ c) (b ++ d) = some x) : ∃ y z, aeqs a b = some y ∧ aeqs c d = some z ∧ x = (y && z) := by
  induction a generalizing b x with
  | nil =>
    cases b with
    | nil => exact ⟨true, x, rfl, h, by simp⟩
    | cons _ _ => simp at hl
  | cons p a ih =>
    cases b with
    | nil => simp at hl
    | cons q b =>
      simp only [List.cons_append, aeqs] at h ⊢
      split at h
      · rename_i u v h1 h2
        obtain ⟨y, z, e1, e2, rfl⟩ := ih (by simpa using hl) h2
        obtain rfl := Option.some.inj h
        refine ⟨u && y, z, by simp [h1, e1], e2, by simp [Bool.and_assoc]⟩
      · cases h

/-- a value of a type, cell by cell -/
def Fit (μ : Mu) (ok : Ok) (agg : Bool) (xs : List AV) (x' : Value) : Prop :=
  if agg then ∃ a, x' = .agg a ∧ VRels μ ok xs a.toList else ∃ u, xs = [u] ∧ VRel μ ok u x'

theorem fits_length : ∀ {ks : List Leaf} {xs : List AV}, fits ks xs = true → xs.length = ks.length
  | [], [], _ => rfl
  | k :: ks, x :: xs, h => by simp only [fits, Bool.and_eq_true] at h; simp [fits_length h.2]
  | [], _ :: _, h => by simp [fits] at h
  | _ :: _, [], h => by simp [fits] at h

theorem fits_append {l ks : List Leaf} {xs : List AV} (h : fits (l ++ ks) xs = true) : fits l (xs.take l.length) = true ∧ fits ks (xs.drop l.length) = true := by
  induction l generalizing xs with
  | nil => simpa [fits] using h
  | cons a l ih =>
    cases xs with
    | nil => simp [fits] at h
    | cons x xs =>
      simp only [List.cons_append, fits, Bool.and_eq_true] at h
      obtain ⟨h1, h2⟩ := ih h.2
      simp [fits, h.1, h1, h2]

theorem eq_part {t : TypeId} {i : TI} (hi : ti P t = some i) {cs : List AV} {cs' : Array Value} (hr : VRels μ ok cs cs'.toList) {off : Nat} (hle : off + i.size ≤ cs.length) (hsz : i.agg = false → i.size = 1) (w : World) :
    ∃ p', (part t cs' off).run P w = .ok p' w ∧ Fit μ ok i.agg ((cs.drop off).take i.size) p' := by
  unfold part
  cases hagg : i.agg with
  | true =>
    refine ⟨.agg (cs'.extract off (off + i.size)), by simp [run_isAgg hi, hagg, run_sizeOf hi], ?_⟩
    simp only [Fit, if_true]
    refine ⟨_, rfl, ?_⟩
    have := (hr.drop off).take i.size
    simpa [Array.toList_extract, List.extract_eq_take_drop] using this
  | false =>
    have h1 := hsz hagg
    have hlt : off < cs.length := by omega
    obtain ⟨v, hv, hvr⟩ := hr.get (List.getElem?_eq_getElem hlt)
    refine ⟨v, ?_, ?_⟩
    · have : cs'[off]? = some v := by simpa using hv
      simp [run_isAgg hi, hagg, this]
    · simp only [Fit, Bool.false_eq_true, if_false, h1]
      exact ⟨cs[off], by rw [List.drop_eq_getElem_cons hlt]; rfl, hvr⟩

theorem leaves_size : ∀ {d : Nat} {t : TypeId} {i : TI} {ks : List Leaf}, leaves P d t = some ks → ti P t = some i → i.agg = false → i.size = 1 ∧ ∃ k, ks = [k] := by
  intro d t i ks h hi ha
  cases d with
  | zero => simp [leaves] at h
  | succ d =>
    have hagg := (ti_parts hi).choose_spec.2.2.1
    simp only [leaves, hi] at h
    generalize hd : i.desc = dd at h hagg
    cases dd <;> simp only [] at h hagg <;> first
      | (rw [hagg] at ha; cases ha; done)
      | (cases h; done)
      | (split at h
         · rename_i h1; obtain rfl := Option.some.inj h; exact ⟨h1, _, rfl⟩
         · cases h)

/-- '==' cell by cell -/
def EqRun (P : Program) (μ : Mu) (ok : Ok) (w : World) (d : Nat) : Prop :=
  ∀ (D : Nat) (t : TypeId) (i : TI) (ks : List Leaf) (xs ys : List AV) (x' y' : Value) (b : Bool), leaves P d t = some ks → d ≤ D → ti P t = some i → fits ks xs = true → fits ks ys = true → aeqs xs ys = some b →
    Fit μ ok i.agg xs x' → Fit μ ok i.agg ys y' → (Op.equalIn D t x' y').run P w = .ok b w

theorem take_drop_le {α : Type} {xs : List α} {o n : Nat} : (xs.drop o).drop n = xs.drop (o + n) := by rw [List.drop_drop]

theorem eqFields_run {d D : Nat} (IH : EqRun P μ ok w d) (hD : d ≤ D) {xs ys : List AV} {a c : Array Value} (hx : VRels μ ok xs a.toList) (hy : VRels μ ok ys c.toList) :
    ∀ (fs : List Field) (o : Nat) (ks : List Leaf) (b : Bool), leavesF P (leaves P d) o fs = some ks → fits ks (xs.drop o) = true → fits ks (ys.drop o) = true → aeqs (xs.drop o) (ys.drop o) = some b →
      (Op.eqFields D a c fs).run P w = .ok b w
  | [], o, ks, b, hl, h1, h2, h3 => by
    simp only [leavesF] at hl
    obtain rfl := Option.some.inj hl
    have e1 : xs.drop o = [] := List.eq_nil_of_length_eq_zero (by simpa using fits_length h1)
    have e2 : ys.drop o = [] := List.eq_nil_of_length_eq_zero (by simpa using fits_length h2)
    rw [e1, e2] at h3
    simp only [aeqs, Option.some.injEq] at h3
    subst h3
    simp [Op.eqFields]
  | f :: fs, o, ks, b, hl, h1, h2, h3 => by
    simp only [leavesF] at hl
    split at hl
    · rename_i hc
      split at hl
      · rename_i l i hl1 hi
        split at hl
        · rename_i hsz0
          obtain ⟨hsz, hnz⟩ := hsz0
          rw [Option.map_eq_some_iff] at hl
          obtain ⟨ks', hk', rfl⟩ := hl
          obtain ⟨p1, p2⟩ := fits_append h1
          obtain ⟨q1, q2⟩ := fits_append h2
          rw [hsz, take_drop_le] at p2 q2
          rw [hsz] at p1 q1
          have l1 : ((xs.drop o).take i.size).length = i.size := by rw [fits_length p1, hsz]
          have l2 : ((ys.drop o).take i.size).length = i.size := by rw [fits_length q1, hsz]
          have hx' : xs.drop o = (xs.drop o).take i.size ++ xs.drop (o + i.size) := by rw [← take_drop_le, List.take_append_drop]
          have hy' : ys.drop o = (ys.drop o).take i.size ++ ys.drop (o + i.size) := by rw [← take_drop_le, List.take_append_drop]
          rw [hx', hy'] at h3
          obtain ⟨y, z, e1, e2, rfl⟩ := aeqs_append (l1.trans l2.symm) h3
          have len1 : o + i.size ≤ xs.length := by simp at l1; omega
          have len2 : o + i.size ≤ ys.length := by simp at l2; omega
          have hs1 : i.agg = false → i.size = 1 := fun e => (leaves_size hl1 hi e).1
          obtain ⟨u, r1, f1⟩ := eq_part hi hx len1 hs1 w
          obtain ⟨v, r2, f2⟩ := eq_part hi hy len2 hs1 w
          have r3 := IH D f.type i l _ _ u v y hl1 hD hi p1 q1 e1 f1 f2
          have r4 := eqFields_run IH hD hx hy fs (o + i.size) ks' z hk' p2 q2 e2
          have hn : f.name ≠ "_" := by simpa using hc.2
          simp only [Op.eqFields, hn, ne_eq, not_false_eq_true, if_true, Sem.run_bind, hc.1, r1, r2, r3, Result.andThen_ok]
          cases y
          · simp
          · simpa using r4
        · cases hl
      · cases hl
    · cases hl

theorem eqItems_run {d D : Nat} (IH : EqRun P μ ok w d) (hD : d ≤ D) {xs ys : List AV} {a c : Array Value} (hx : VRels μ ok xs a.toList) (hy : VRels μ ok ys c.toList) {e : TypeId} {i : TI} (hi : ti P e = some i) {l : List Leaf} (hl : leaves P d e = some l) (hsz : l.length = i.size) :
    ∀ (m k : Nat) (b : Bool), fits (List.replicate m l).flatten (xs.drop (k * i.size)) = true → fits (List.replicate m l).flatten (ys.drop (k * i.size)) = true → aeqs (xs.drop (k * i.size)) (ys.drop (k * i.size)) = some b →
      (Op.eqItems D e i.size a c (List.range' k m)).run P w = .ok b w
  | 0, k, b, h1, h2, h3 => by
    have e1 : xs.drop (k * i.size) = [] := List.eq_nil_of_length_eq_zero (by simpa using fits_length h1)
    have e2 : ys.drop (k * i.size) = [] := List.eq_nil_of_length_eq_zero (by simpa using fits_length h2)
    rw [e1, e2] at h3
    simp only [aeqs, Option.some.injEq] at h3
    subst h3
    simp [Op.eqItems]
  | m + 1, k, b, h1, h2, h3 => by
    rw [List.replicate_succ, List.flatten_cons] at h1 h2
    obtain ⟨p1, p2⟩ := fits_append h1
    obtain ⟨q1, q2⟩ := fits_append h2
    have hk : k * i.size + i.size = (k + 1) * i.size := by rw [Nat.add_mul, Nat.one_mul]
    rw [hsz, take_drop_le, hk] at p2 q2
    rw [hsz] at p1 q1
    have l1 : ((xs.drop (k * i.size)).take i.size).length = i.size := by rw [fits_length p1, hsz]
    have l2 : ((ys.drop (k * i.size)).take i.size).length = i.size := by rw [fits_length q1, hsz]
    have hx' : xs.drop (k * i.size) = (xs.drop (k * i.size)).take i.size ++ xs.drop ((k + 1) * i.size) := by rw [← hk, ← take_drop_le, List.take_append_drop]
    have hy' : ys.drop (k * i.size) = (ys.drop (k * i.size)).take i.size ++ ys.drop ((k + 1) * i.size) := by rw [← hk, ← take_drop_le, List.take_append_drop]
    rw [hx', hy'] at h3
    obtain ⟨y, z, e1, e2, rfl⟩ := aeqs_append (l1.trans l2.symm) h3
    have hs1 : i.agg = false → i.size = 1 := fun e => (leaves_size hl hi e).1
    by_cases h0 : i.size = 0
    · have hag : i.agg = true := by
        cases h : i.agg with
        | true => rfl
        | false => have := hs1 h; omega
      have pz : ∀ (A : Array Value) (o : Nat), (part e A o).run P w = .ok (.agg (A.extract o (o + 0))) w := by
        intro A o
        unfold part
        simp [run_isAgg hi, hag, run_sizeOf hi, h0]
      have f0 : ∀ (A : Array Value) (o : Nat), Fit μ ok i.agg [] (.agg (A.extract o (o + 0))) := by
        intro A o; simp only [Fit, hag, if_true]; exact ⟨_, rfl, by simp [VRels]⟩
      have e1' : aeqs [] [] = some y := by simpa [h0] using e1
      have r3 := IH D e i l [] [] _ _ y hl hD hi (by simpa [h0] using p1) (by simpa [h0] using q1) e1' (f0 a (k * 0)) (f0 c (k * 0))
      have r4 := eqItems_run IH hD hx hy hi hl hsz m (k + 1) z p2 q2 e2
      rw [h0] at r4 ⊢
      simp only [List.range'_succ, Op.eqItems, Sem.run_bind, pz, r3, Result.andThen_ok]
      cases y
      · simp
      · simpa using r4
    · have len1 : k * i.size + i.size ≤ xs.length := by simp at l1; omega
      have len2 : k * i.size + i.size ≤ ys.length := by simp at l2; omega
      obtain ⟨u, r1, f1⟩ := eq_part hi hx len1 hs1 w
      obtain ⟨v, r2, f2⟩ := eq_part hi hy len2 hs1 w
      have r3 := IH D e i l _ _ u v y hl hD hi p1 q1 e1 f1 f2
      have r4 := eqItems_run IH hD hx hy hi hl hsz m (k + 1) z p2 q2 e2
      simp only [List.range'_succ, Op.eqItems, Sem.run_bind, r1, r2, r3, Result.andThen_ok]
      cases y
      · simp
      · simpa using r4

theorem eq_run : ∀ d, EqRun P μ ok w d := by
  intro d
  induction d with
  | zero => intro D t i ks xs ys x' y' b h; simp [leaves] at h
  | succ d ih =>
    intro D t i ks xs ys x' y' b h hD hi hx hy hb fx fy
    obtain ⟨D, rfl⟩ : ∃ m, D = m + 1 := ⟨D - 1, by omega⟩
    obtain ⟨info, hinfo, hu, hagg, hs, _⟩ := ti_parts hi
    have hh := h
    simp only [leaves, hi] at h
    have scalar : i.agg = false → ∃ k u v, ks = [k] ∧ leafFit k u = true ∧ leafFit k v = true ∧ aeq1 u v = some b ∧ VRel μ ok u x' ∧ VRel μ ok v y' := by
      intro e
      obtain ⟨_, k, rfl⟩ := leaves_size hh hi e
      simp only [Fit, e, Bool.false_eq_true, if_false] at fx fy
      obtain ⟨u, rfl, fu⟩ := fx
      obtain ⟨v, rfl, fv⟩ := fy
      simp only [fits, Bool.and_true] at hx hy
      simp only [aeqs] at hb
      split at hb
      · rename_i p q hp hq
        cases hq
        simp only [Bool.and_true, Option.some.injEq] at hb
        subst hb
        exact ⟨k, u, v, rfl, hx, hy, hp, fu, fv⟩
      · cases hb
    generalize hd : i.desc = dd at h hagg hu
    cases dd <;> simp only [] at h hagg <;> try (cases h; done)
    case bool =>
      obtain ⟨k, u, v, rfl, h1, h2, h3, h4, h5⟩ := scalar hagg
      split at h
      · have hk := Option.some.inj h
        simp only [List.cons.injEq, and_true] at hk
        subst hk
        cases u <;> simp only [leafFit, Bool.false_eq_true] at h1
        cases v <;> simp only [leafFit, Bool.false_eq_true] at h2
        simp only [VRel] at h4 h5
        subst h4; subst h5
        simp only [aeq1, Option.some.injEq] at h3
        subst h3
        exact run_equalIn_bool w D t _ _ hu
      · cases h
    case int =>
      obtain ⟨k, u, v, rfl, h1, h2, h3, h4, h5⟩ := scalar hagg
      split at h
      · have hk := Option.some.inj h
        simp only [List.cons.injEq, and_true] at hk
        subst hk
        cases u <;> simp only [leafFit, Bool.false_eq_true] at h1
        cases v <;> simp only [leafFit, Bool.false_eq_true] at h2
        simp only [VRel] at h4 h5
        subst h4; subst h5
        simp only [aeq1] at h3
        split at h3
        · rename_i hk; subst hk
          simp only [Option.some.injEq] at h3
          subst h3
          exact run_equalIn_int w D t _ _ _ _ hu
        · cases h3
      · cases h
    case string =>
      obtain ⟨k, u, v, rfl, h1, h2, h3, h4, h5⟩ := scalar hagg
      split at h
      · have hk := Option.some.inj h
        simp only [List.cons.injEq, and_true] at hk
        subst hk
        cases u <;> simp only [leafFit, Bool.false_eq_true] at h1
        cases v <;> simp only [leafFit, Bool.false_eq_true] at h2
        simp only [VRel] at h4 h5
        subst h4; subst h5
        simp only [aeq1, Option.some.injEq] at h3
        subst h3
        rw [run_equalIn_string w D t _ _ hu, beq_toListBytes]
      · cases h
    case array n e =>
      simp only [Fit, hagg, if_true] at fx fy
      obtain ⟨a, rfl, ra⟩ := fx
      obtain ⟨c, rfl, rc⟩ := fy
      split at h
      · rename_i l ie hl hie
        split at h
        · rename_i hsz
          obtain rfl := Option.some.inj h
          obtain ⟨infoe, hinfoe, _, _, hse, _⟩ := ti_parts hie
          rw [run_equalIn_array w D a c hu hinfoe]
          have hcell : P.cellsOf e = ie.size := by simp [Program.cellsOf, hinfoe, hse]
          rw [hcell, List.range_eq_range']
          exact eqItems_run ih (by omega) ra rc hie hl hsz n 0 b (by simpa using hx) (by simpa using hy) (by simpa using hb)
        · cases h
      · cases h
    case struct fs =>
      simp only [Fit, hagg, if_true] at fx fy
      obtain ⟨a, rfl, ra⟩ := fx
      obtain ⟨c, rfl, rc⟩ := fy
      split at h
      · cases h
      · rename_i hst
        have hf : P.fieldsOf t = fs := by simp [Program.fieldsOf, hu]
        rw [run_equalIn_struct w D t a c (by rw [hf]; exact hu) (by simpa using hst), hf]
        exact eqFields_run ih (by omega) ra rc fs.toList 0 ks b h (by simpa using hx) (by simpa using hy) (by simpa using hb)

end
end Go.Eng
namespace Go.Eng
set_option linter.unusedVariables false
set_option linter.unusedSimpArgs false

section
variable {P : Program} {N : Nat} {μ : Mu} {ok : Ok} {H : AH} {w : World} {nid n' : Nat}

theorem VRel.agg_inv {cs : List AV} {v : Value} (h : VRel μ ok (.agg cs) v) : ∃ cs', v = .agg cs' ∧ VRels μ ok cs cs'.toList := by simpa only [VRel] using h
theorem VRel.ptr_inv {a : Nat × Nat} {v : Value} (h : VRel μ ok (.ptr (some a)) v) : ok a.1 ∧ v = .pointer (some ((μ a.1).at a.2)) := by simpa only [VRel] using h

theorem agg_of_desc {t : TypeId} {i : TI} (hi : ti P t = some i) : i.agg = (match i.desc with | .struct _ | .array _ _ => true | _ => false) := (ti_parts hi).choose_spec.2.2.1
theorem und {t : TypeId} {i : TI} (hi : ti P t = some i) : P.underlying t = some i.desc := (ti_parts hi).choose_spec.2.1

theorem eqGuard_plain {op : BinOp} {t : TypeId} {o1 o2 : Operand} {x' y' : Value} (h1 : ∀ cs ds, ¬ (x' = .agg cs ∧ y' = .agg ds)) (h2 : ¬ (x' = .nilIface ∧ y' = .nilIface)) : (eqGuard op t o1 o2 x' y').run P w = .ok () w := by
  cases op
  case eql =>
    unfold eqGuard
    simp only [Bool.not_true, Bool.false_eq_true, if_false]
    split
    · exact absurd ⟨rfl, rfl⟩ h2
    · exact absurd ⟨rfl, rfl⟩ (h1 _ _)
    · rfl
  case neq =>
    unfold eqGuard
    simp only [Bool.not_true, Bool.false_eq_true, if_false]
    split
    · exact absurd ⟨rfl, rfl⟩ h2
    · exact absurd ⟨rfl, rfl⟩ (h1 _ _)
    · rfl
  all_goals rfl

theorem eqGuard_agg {op : BinOp} {t : TypeId} {o1 o2 : Operand} {a c : Array Value} (h2 : P.eqGuardType P.depth t = false) : (eqGuard op t o1 o2 (.agg a) (.agg c)).run P w = .ok () w := by
  cases op
  case eql => simp [eqGuard, h2]
  case neq => simp [eqGuard, h2]
  all_goals rfl

/-- no pair of numbers or strings -/
def PlainPair : Value → Value → Prop
  | .int .., .int .. | .float .., .float .. | .complex .., .complex .. | .string _, .string _ => False
  | _, _ => True

theorem binOp_eql {t : TypeId} {x' y' : Value} (h : PlainPair x' y') : binOp .eql t x' y' = (do pure (.bool (← Op.equal t x' y'))) := by
  cases x' <;> cases y' <;> first | rfl | exact h.elim
theorem binOp_neq {t : TypeId} {x' y' : Value} (h : PlainPair x' y') : binOp .neq t x' y' = (do pure (.bool (!(← Op.equal t x' y')))) := by
  cases x' <;> cases y' <;> first | rfl | exact h.elim

def EqFine (P : Program) (w : World) (t : TypeId) (x' y' : Value) (b : Bool) : Prop :=
  (Op.equal t x' y').run P w = .ok b w ∧ (∀ (op : BinOp) (o1 o2 : Operand), (eqGuard op t o1 o2 x' y').run P w = .ok () w) ∧ PlainPair x' y'

theorem eq_ptr {t e : TypeId} {a a' : Option Addr} (hu : P.underlying t = some (.pointer e)) (h : a = none ∨ a' = none) : EqFine P w t (.pointer a) (.pointer a') (a.isNone && a'.isNone) := by
  have key : ∀ d, (Op.equalIn (d + 1) t (.pointer a) (.pointer a')).run P w = .ok (a.isNone && a'.isNone) w := by
    intro d
    rcases h with rfl | rfl
    · cases a' <;> simp [Op.equalIn, run_underlying hu]
    · cases a <;> simp [Op.equalIn, run_underlying hu]
  exact ⟨key 9999, fun _ _ _ => eqGuard_plain (by simp) (by simp), trivial⟩
theorem eq_slc {t e : TypeId} {a a' : Option Addr} {l c l' c' : Nat} (hu : P.underlying t = some (.slice e)) (h : a = none ∨ a' = none) : EqFine P w t (.slice a l c) (.slice a' l' c') (a.isNone && a'.isNone) := by
  have key : ∀ d, (Op.equalIn (d + 1) t (.slice a l c) (.slice a' l' c')).run P w = .ok (a.isNone && a'.isNone) w := by
    intro d
    rcases h with rfl | rfl
    · cases a' <;> simp [Op.equalIn, run_underlying hu]
    · cases a <;> simp [Op.equalIn, run_underlying hu]
  exact ⟨key 9999, fun _ _ _ => eqGuard_plain (by simp) (by simp), trivial⟩
theorem eq_map {t k e : TypeId} {a : Option Nat} (hu : P.underlying t = some (.map k e)) : EqFine P w t (.map a) (.map none) a.isNone := by
  have key : ∀ d, (Op.equalIn (d + 1) t (.map a) (.map none)).run P w = .ok a.isNone w := by
    intro d
    cases a <;> simp [Op.equalIn, run_underlying hu]
  exact ⟨key 9999, fun _ _ _ => eqGuard_plain (by simp) (by simp), trivial⟩

theorem eq_fn {t : TypeId} {ps rs : Array TypeId} {va : Bool} (hu : P.underlying t = some (.func ps rs va)) : EqFine P w t .nilFunc .nilFunc true ∧ ∀ f xs ys, EqFine P w t (.func f xs ys) .nilFunc false := by
  have key : ∀ d, (Op.equalIn (d + 1) t .nilFunc .nilFunc).run P w = .ok true w := by
    intro d
    simp [Op.equalIn, run_underlying hu]
  have key2 : ∀ d f xs ys, (Op.equalIn (d + 1) t (.func f xs ys) .nilFunc).run P w = .ok false w := by
    intro d f xs ys
    simp [Op.equalIn, run_underlying hu]
  exact ⟨⟨key 9999, fun _ _ _ => eqGuard_plain (by simp) (by simp), trivial⟩, fun f xs ys => ⟨key2 9999 f xs ys, fun _ _ _ => eqGuard_plain (by simp) (by simp), trivial⟩⟩

theorem VRel.ptr_form {a : Option (Nat × Nat)} {v : Value} (h : VRel μ ok (.ptr a) v) : ∃ a', v = .pointer a' ∧ a'.isNone = a.isNone := by
  cases a <;> simp only [VRel] at h
  · exact ⟨_, h, rfl⟩
  · exact ⟨_, h.2, rfl⟩
theorem VRel.slc_form {a : Option (Nat × Nat)} {l c sl : Nat} {v : Value} (h : VRel μ ok (.slc a l c sl) v) : ∃ a' c', v = .slice a' l c' ∧ a'.isNone = a.isNone := by
  cases a <;> simp only [VRel] at h
  · obtain ⟨rfl, _, _, rfl⟩ := h; exact ⟨_, _, rfl, rfl⟩
  · obtain ⟨_, c', rfl, _⟩ := h; exact ⟨_, _, rfl, rfl⟩
theorem VRel.map_form {a : Option Nat} {v : Value} (h : VRel μ ok (.map a) v) : ∃ a', v = .map a' ∧ a'.isNone = a.isNone := by
  cases a <;> simp only [VRel] at h
  · exact ⟨_, h, rfl⟩
  · exact ⟨_, h.2, rfl⟩

theorem desc_inv {α : Type} {t : TypeId} {f : TypeDesc → Option α} {b : α} (h : (match ti P t with | some i => f i.desc | none => none) = some b) : ∃ d, P.underlying t = some d ∧ f d = some b := by
  split at h
  · rename_i i hi; exact ⟨_, und hi, h⟩
  · cases h

theorem eql_run {t : TypeId} {x y : AV} {x' y' : Value} {b : Bool} (h : aeql P t x y = some b) (hx : VRel μ ok x x') (hy : VRel μ ok y y') : EqFine P w t x' y' b := by
  unfold aeql at h
  split at h
  · rename_i m n
    obtain ⟨d, hu, hd⟩ := desc_inv (f := fun d => match d with | .bool => some (m == n) | _ => none) h
    simp only [VRel] at hx hy; subst hx; subst hy
    split at hd
    · obtain rfl := Option.some.inj hd
      exact ⟨run_equalIn_bool w 9999 t m n hu, fun _ _ _ => eqGuard_plain (by simp) (by simp), trivial⟩
    · cases hd
  · rename_i a
    obtain ⟨d, hu, hd⟩ := desc_inv (f := fun d => match d with | .pointer _ => some a.isNone | _ => none) h
    obtain ⟨a', rfl, e⟩ := hx.ptr_form
    simp only [VRel] at hy; subst hy
    split at hd
    · obtain rfl := Option.some.inj hd
      rw [← e, ← Bool.and_true a'.isNone]; exact eq_ptr hu (.inr rfl)
    · cases hd
  · rename_i a _
    obtain ⟨d, hu, hd⟩ := desc_inv (f := fun d => match d with | .pointer _ => some a.isNone | _ => none) h
    obtain ⟨a', rfl, e⟩ := hy.ptr_form
    simp only [VRel] at hx; subst hx
    split at hd
    · obtain rfl := Option.some.inj hd
      rw [← e, ← Bool.true_and a'.isNone]; exact eq_ptr hu (.inl rfl)
    · cases hd
  · rename_i a _ _ _ _ _ _
    obtain ⟨d, hu, hd⟩ := desc_inv (f := fun d => match d with | .slice _ => some a.isNone | _ => none) h
    obtain ⟨a', c', rfl, e⟩ := hx.slc_form
    simp only [VRel] at hy; obtain ⟨_, _, _, rfl⟩ := hy
    split at hd
    · obtain rfl := Option.some.inj hd
      rw [← e, ← Bool.and_true a'.isNone]; exact eq_slc hu (.inr rfl)
    · cases hd
  · rename_i a _ _ _ _
    obtain ⟨d, hu, hd⟩ := desc_inv (f := fun d => match d with | .slice _ => some a.isNone | _ => none) h
    obtain ⟨a', c', rfl, e⟩ := hy.slc_form
    simp only [VRel] at hx; obtain ⟨_, _, _, rfl⟩ := hx
    split at hd
    · obtain rfl := Option.some.inj hd
      rw [← e, ← Bool.true_and a'.isNone]; exact eq_slc hu (.inl rfl)
    · cases hd
  · rename_i a
    obtain ⟨d, hu, hd⟩ := desc_inv (f := fun d => match d with | .map _ _ => some a.isNone | _ => none) h
    obtain ⟨a', rfl, e⟩ := hx.map_form
    simp only [VRel] at hy; subst hy
    split at hd
    · obtain rfl := Option.some.inj hd
      rw [← e]; exact eq_map hu
    · cases hd
  · obtain ⟨d, hu, hd⟩ := desc_inv (f := fun d => match d with | .func _ _ _ => some true | _ => none) h
    simp only [VRel] at hx hy; subst hx; subst hy
    split at hd
    · obtain rfl := Option.some.inj hd
      exact (eq_fn hu).1
    · cases hd
  · rename_i xs ys
    obtain ⟨a, rfl, ra⟩ := hx.agg_inv
    obtain ⟨c, rfl, rc⟩ := hy.agg_inv
    split at h
    · rename_i i hi
      split at h
      · rename_i ks hks
        split at h
        · rename_i hc
          obtain ⟨h1, h2, h3, h4⟩ := hc
          refine ⟨eq_run 9 10000 t i ks xs ys _ _ b hks (by omega) hi h3 h4 h (by simp only [Fit, h1, if_true]; exact ⟨_, rfl, ra⟩) (by simp only [Fit, h1, if_true]; exact ⟨_, rfl, rc⟩), fun op o1 o2 => ?_, trivial⟩
          exact eqGuard_agg h2
        · cases h
      · cases h
    · cases h
  · obtain ⟨d, hu, hd⟩ := desc_inv (f := fun d => match d with | .func _ _ _ => some false | _ => none) h
    simp only [VRel] at hx hy; obtain ⟨_, _, rfl, _, _⟩ := hx; subst hy
    split at hd
    · obtain rfl := Option.some.inj hd
      exact (eq_fn hu).2 _ _ _
    · cases hd
  · cases h

theorem gives_bin {op : BinOp} {t : TypeId} {o1 o2 : Operand} {x y v : AV} {x' y' : Value} (h : abin P op t x y = some v) (hx : VRel μ ok x x') (hy : VRel μ ok y y') :
    Gives P μ ok w (do eqGuard op t o1 o2 x' y'; binOp op t x' y') v := by
  have step : (∀ (o1 o2 : Operand), (eqGuard op t o1 o2 x' y').run P w = .ok () w) → Gives P μ ok w (binOp op t x' y') v → Gives P μ ok w (do eqGuard op t o1 o2 x' y'; binOp op t x' y') v := by
    intro h1 ⟨v', h2, h3⟩
    exact ⟨v', by simp [h1, h2], h3⟩
  unfold abin at h
  split at h
  · rename_i k a k' b
    simp only [VRel] at hx hy; subst hx; subst hy
    refine step (fun _ _ => eqGuard_plain (by simp) (by simp)) ?_
    split at h
    · exact gives_shift h (.inl rfl) t
    · exact gives_shift h (.inr rfl) t
    · rename_i h1 h2
      split at h
      · rename_i hk; subst hk; exact gives_int h ⟨fun e => h1 e, fun e => h2 e⟩ t
      · cases h
  · rename_i a b
    simp only [VRel] at hx hy; subst hx; subst hy
    refine step (fun _ _ => eqGuard_plain (by simp) (by simp)) ?_
    split at h
    · obtain rfl := Option.some.inj h
      exact ⟨.bool (a == b), by simp [binOp, Op.stringOp, beq_toListBytes], by simp only [VRel]⟩
    · obtain rfl := Option.some.inj h
      exact ⟨.bool (a != b), by simp [binOp, Op.stringOp, bne, beq_toListBytes], by simp only [VRel]⟩
    · cases h
  · split at h
    · rw [Option.map_eq_some_iff] at h
      obtain ⟨b, hb, rfl⟩ := h
      obtain ⟨e1, e2, e3⟩ := eql_run (w := w) hb hx hy
      exact step (fun o1 o2 => e2 _ o1 o2) ⟨.bool b, by rw [binOp_eql e3]; simp [e1], by simp only [VRel]⟩
    · rw [Option.map_eq_some_iff] at h
      obtain ⟨b, hb, rfl⟩ := h
      obtain ⟨e1, e2, e3⟩ := eql_run (w := w) hb hx hy
      exact step (fun o1 o2 => e2 _ o1 o2) ⟨.bool (!b), by rw [binOp_neq e3]; simp [e1], by simp only [VRel]⟩
    · cases h

theorem gives_un {op : UnOp} {x v : AV} {x' : Value} (h : aun op x = some v) (hx : VRel μ ok x x') : Gives P μ ok w (Op.unary op x') v := by
  unfold aun at h
  split at h
  · simp only [VRel] at hx; subst hx
    simp only [aint] at h
    obtain rfl := Option.some.inj h
    exact ⟨_, rfl, by simp only [VRel]⟩
  · simp only [VRel] at hx; subst hx
    simp only [aint] at h
    obtain rfl := Option.some.inj h
    exact ⟨_, rfl, by simp only [VRel]⟩
  · simp only [VRel] at hx; subst hx
    obtain rfl := Option.some.inj h
    exact ⟨_, rfl, by simp only [VRel]⟩
  · cases h

theorem gives_convert {s d : TypeId} {x v : AV} {x' : Value} (h : aconvert P s d x = some v) (hx : VRel μ ok x x') : Gives P μ ok w (convert s d x') v := by
  unfold aconvert at h
  split at h
  · rename_i i k _ _ _ _ k' n hs hd
    simp only [VRel] at hx; subst hx
    obtain rfl := Option.some.inj h
    exact ⟨.int k (k.wrap n), by simp [convert, run_underlying (und hs), run_underlying (und hd), Conv.intToInt], by simp only [VRel]⟩
  · cases h

end
end Go.Eng
