/-
  M2: The small code, part 2: what the small operations do is what the engine's do.
  M1: The small code, part 1: a function's code with all that hangs on types alone worked out; what it does, and that the engine's code does the same.
-/
import Derived.Test.YtecaahcbbdbpbaaW4
namespace Go.Eng
set_option linter.unusedVariables false
set_option linter.unusedSimpArgs false

/-- an operand: a slot, or a constant -/
inductive MX where
  | t (i : Nat)
  | c (v : AV)
  deriving Inhabited

def MX.val (T : Slots) : MX → AV
  | .t i => T i
  | .c v => v

def MX.vals (T : Slots) : List MX → List AV
  | [] => []
  | x :: xs => x.val T :: MX.vals T xs

def MX.opt (T : Slots) : Option MX → Option AV
  | none => none
  | some x => some (x.val T)

def partsV (T : Slots) : List (Nat × Nat × MX) → List (Nat × Nat × AV)
  | [] => []
  | (o, n, x) :: l => (o, n, x.val T) :: partsV T l

inductive MO where
  | mov (x : MX)
  | pick (c x y : MX)
  | alloc (e : TypeId) (z : List AV)
  | box (e : TypeId) (x : MX)
  | build (z : List AV) (ps : List (Nat × Nat × MX))
  | buildS (e : TypeId) (z : List AV) (len : Nat) (ps : List (Nat × Nat × MX))
  | ld1 (a : MX)
  | ldN (n : Nat) (a : MX)
  | st (n : Nat) (a x : MX)
  | nck (x : MX)
  | bin (op : BinOp) (t : TypeId) (x y : MX)
  | un (op : UnOp) (x : MX)
  | conv (k : IntKind) (x : MX)
  | mkf (f : FuncId) (a b : List MX)
  | mkmap
  | mks (e : TypeId) (z : List AV) (bytes : Nat) (l c : MX)
  | slcS (n : Nat) (x : MX) (lo hi mx : Option MX)
  | slcA (len n : Nat) (x : MX) (lo hi mx : Option MX)
  | slcT (x : MX) (lo hi : Option MX)
  | fa (o : Nat) (x : MX)
  | fld (agg : Bool) (o n : Nat) (x : MX)
  | ixS (n : Nat) (x i : MX)
  | ixP (len n : Nat) (x i : MX)
  | ixA (agg : Bool) (len n : Nat) (x i : MX)
  | ixT (x i : MX)
  | look (ks : List Leaf) (kagg : Bool) (z : AV) (ok : Bool) (x k : MX)
  | mset (ks : List Leaf) (kagg : Bool) (m k v : MX)
  | ment (ks : List Leaf) (kagg : Bool) (z : AV) (m k : MX)
  | mst (m s v : MX)
  | mdel (ks : List Leaf) (kagg : Bool) (m k : MX)
  | ext (x : MX) (i : Nat)
  | lenS (x : MX)
  | lenM (x : MX)
  | lenT (x : MX)
  | app (e : TypeId) (size bytes : Nat) (s x : MX)
  | cpy (size : Nat) (d x : MX)
  | clrS (z : List AV) (x : MX)
  | mm (lo : Bool) (x y : MX)
  | call (f : FuncId) (args : List MX)
  | callq (f : FuncId) (args : List MX)
  | callv (x : MX) (args : List MX)
  deriving Inhabited

def keyM (ks : List Leaf) (kagg : Bool) (k : AV) : Bool := fits ks k.cells && (match k with | .agg _ => kagg | _ => !kagg)

def afld (agg : Bool) (o n : Nat) (x : AV) : Option AV :=
  match x with
  | .agg cs => if agg then (if o + n ≤ cs.length then some (.agg ((cs.drop o).take n)) else none) else cs[o]?
  | _ => none

def aixS (n : Nat) (x i : AV) : Option AV :=
  match x, i with
  | .slc (some (b, o)) len _ _, .int _ i => if 0 ≤ i ∧ i < len then some (.ptr (some (b, o + i.toNat * n))) else none
  | _, _ => none
def aixP (len n : Nat) (x i : AV) : Option AV :=
  match x, i with
  | .ptr (some (b, o)), .int _ i => if 0 ≤ i ∧ i < len then some (.ptr (some (b, o + i.toNat * n))) else none
  | _, _ => none
def aixA (agg : Bool) (len n : Nat) (x i : AV) : Option AV :=
  match x, i with
  | .agg cs, .int _ i => if 0 ≤ i ∧ i < len then afld agg (i.toNat * n) n (.agg cs) else none
  | _, _ => none
def aixT (x i : AV) : Option AV :=
  match x, i with
  | .str s, .int _ i => if 0 ≤ i then (match s[i.toNat]? with | some b => some (.int .u8 b.toNat) | none => none) else none
  | _, _ => none
def aldN (g : Nat → AB) (n : Nat) (a : AV) : Option AV :=
  match a with
  | .ptr (some (b, o)) => (cellsAt g b o n).map .agg
  | _ => none
def ald1 (g : Nat → AB) (a : AV) : Option AV :=
  match a with
  | .ptr (some (b, o)) => match g b with | .cells cs _ _ => cs[o]? | _ => none
  | _ => none
def ast (g : Nat → AB) (n : Nat) (a v : AV) : Option ARes :=
  match a with
  | .ptr (some (b, o)) => if v.cells.length = n ∧ v.cells.all AV.one then (setCells g b o v.cells).map fun blk => .val .undef { ws := [(b, blk)] } else none
  | _ => none
def aslcS (n : Nat) (x : AV) (lo hi mx : Option AV) : Option AV :=
  match x with
  | .slc a len cap sl =>
    match abound mx cap cap with
    | some m =>
      match (if mx.isSome && hi.isNone then none else abound hi len m) with
      | some h =>
        match abound lo 0 h with
        | some l =>
          match a with
          | none => if l = 0 then some (.slc none (h - l) (m - l) 0) else none
          | some (b, o) =>
            if ¬(sl = 0 ∨ sl = n) then none
            else if mx.isSome then some (.slc (some (b, if m = l then o else o + l * n)) (h - l) (m - l) 0)
            else if l = 0 then some (.slc (some (b, o)) h m sl)
            else if l < m ∧ n ≠ 0 then some (.slc (some (b, o + l * n)) (h - l) (m - l) sl)
            else none
        | none => none
      | none => none
    | none => none
  | _ => none
def aslcA (len n : Nat) (x : AV) (lo hi mx : Option AV) : Option AV :=
  match x with
  | .ptr (some (b, o)) =>
    match abound mx len len with
    | some m =>
      match (if mx.isSome && hi.isNone then none else abound hi len m) with
      | some h =>
        match abound lo 0 h with
        | some l => if l = m then some (.slc (some (b, o)) (h - l) (m - l) 0) else some (.slc (some (b, o + l * n)) (h - l) (m - l) 0)
        | none => none
      | none => none
    | none => none
  | _ => none
def aslcT (x : AV) (lo hi : Option AV) : Option AV :=
  match x with
  | .str s =>
    match abound hi s.size s.size with
    | some h => (abound lo 0 h).map fun l => .str (s.extract l h)
    | none => none
  | _ => none
def alook (g : Nat → AB) (ks : List Leaf) (kagg : Bool) (z : AV) (ok : Bool) (m k : AV) : Option AV :=
  match m with
  | .map r =>
    match mapOf g r with
    | some (es, _) =>
      if keyM ks kagg k then
        match findA k es 0 with
        | some (some (_, v, _)) => some (if ok then .tup [v, .bool true] else v)
        | some none => some (if ok then .tup [z, .bool false] else z)
        | none => none
      else none
    | none => none
  | _ => none
def amset (g : Nat → AB) (ks : List Leaf) (kagg : Bool) (m k v : AV) : Option ARes :=
  match m with
  | .map (some r) =>
    match g r with
    | .map es c false =>
      if keyM ks kagg k then
        match findA k es 0 with
        | some (some (i, _, born)) => some (.val .undef { ws := [(r, .map (es.set i (k, v, born)) c false)] })
        | some none => some (.val .undef { ws := [(r, .map (es ++ [(k, v, c)]) (c + 1) false)] })
        | none => none
      else none
    | _ => none
  | _ => none
def ament (g : Nat → AB) (ks : List Leaf) (kagg : Bool) (z : AV) (m k : AV) : Option ARes :=
  match m with
  | .map (some r) =>
    match g r with
    | .map es c false =>
      if keyM ks kagg k then
        match findA k es 0 with
        | some (some (i, v, born)) => some (.val (.tup [v, .int .i64 born]) { ws := [(r, .map (es.set i (k, v, born)) c false)] })
        | some none => some (.val (.tup [z, .int .i64 c]) { ws := [(r, .map (es ++ [(k, z, c)]) (c + 1) false)] })
        | none => none
      else none
    | _ => none
  | _ => none
def amdel (g : Nat → AB) (ks : List Leaf) (kagg : Bool) (m k : AV) : Option ARes :=
  match m with
  | .map (some r) =>
    if keyM ks kagg k then
      match g r with
      | .map es c false =>
        match findA k es 0 with
        | some (some (i, _)) => some (.val (.tup []) { ws := [(r, .map (es.eraseIdx i) c false)] })
        | some none => some (.val (.tup []) { ws := [(r, .map es c false)] })
        | none => none
      | _ => none
    else none
  | _ => none
def aapp (g : Nat → AB) (nid : Nat) (elem : TypeId) (size bytes : Nat) (s x : AV) : Option ARes :=
  match s, lenOfA x with
  | .slc base len cap sl, some n =>
    match firstCellsA g size n x with
    | none => none
    | some new =>
      if new.all AV.one = false then none
      else if len + n ≤ cap then
        match base with
        | none => some (.pure (.slc none (len + n) cap sl))
        | some (b, o) => (setCells g b (o + len * size) new).map fun blk => .val (.slc (some (b, o)) (len + n) cap sl) { ws := [(b, blk)] }
      else if (len + n) * bytes ≤ tooMany ∧ len + n ≤ tooMany ∧ (sl = 0 ∨ sl = size) then
        match base with
        | none => if len = 0 then some (.val (.slc (some (nid, 0)) (len + n) (len + n) size) { new := some (.cells new elem false) }) else none
        | some (b, 0) =>
          match g b, cellsAt g b 0 (len * size) with
          | .cells _ e false, some old =>
            if e = elem then some (.val (.slc (some (nid, 0)) (len + n) (len + n) size) { ws := [(b, .dead)], new := some (.cells (old ++ new) elem false) }) else none
          | _, _ => none
        | _ => none
      else none
  | _, _ => none
def acpy (g : Nat → AB) (size : Nat) (d x : AV) : Option ARes :=
  match d, lenOfA x with
  | .slc base dLen _ _, some xl =>
    match firstCellsA g size (Nat.min xl dLen) x, base with
    | some cells, none => some (.pure (.int .i64 (Nat.min xl dLen : Nat)))
    | some cells, some (b, o) => if cells.all AV.one = false then none else (setCells g b o cells).map fun blk => .val (.int .i64 (Nat.min xl dLen : Nat)) { ws := [(b, blk)] }
    | none, _ => none
  | _, _ => none
def aclrS (g : Nat → AB) (z : List AV) (x : AV) : Option ARes :=
  match x with
  | .slc base n _ _ =>
    match base, n with
    | none, _ => some (.pure (.tup []))
    | _, 0 => some (.pure (.tup []))
    | some (b, o), n => (setCells g b o (zerosA z n)).map fun blk => .val (.tup []) { ws := [(b, blk)] }
  | _ => none
def amks (nid : Nat) (e : TypeId) (z : List AV) (bytes : Nat) (l c : AV) : Option ARes :=
  match l, c with
  | .int _ l, .int _ c =>
    if 0 ≤ l ∧ l ≤ c ∧ c ≤ tooMany ∧ c * bytes ≤ tooMany then
      some (.val (.slc (some (nid, 0)) l.toNat c.toNat 0) { new := some (.cells (zerosA z c.toNat) e false) })
    else none
  | _, _ => none

/-- what a small operation does (no call) -/
def mop (P : Program) (T : Slots) (g : Nat → AB) (nid : Nat) : MO → Option ARes
  | .mov x => some (.pure (x.val T))
  | .pick c x y => match c.val T with | .bool b => some (.pure (if b then x.val T else y.val T)) | _ => none
  | .alloc e z => some (.val (.ptr (some (nid, 0))) { new := some (.cells z e false) })
  | .box e x => some (.val (.ptr (some (nid, 0))) { new := some (.cells (x.val T).cells e false) })
  | .build z ps => (fillA z (partsV T ps)).map fun cs => .pure (.agg cs)
  | .buildS e z len ps => (fillA (zerosA z len) (partsV T ps)).map fun cs => .val (.slc (some (nid, 0)) len len 0) { new := some (.cells cs e false) }
  | .ld1 a => (ald1 g (a.val T)).map .pure
  | .ldN n a => (aldN g n (a.val T)).map .pure
  | .st n a x => ast g n (a.val T) (x.val T)
  | .nck x => match x.val T with
    | .ptr (some a) => some (.pure (.ptr (some a)))
    | .fn f a b => some (.pure (.fn f a b))
    | _ => none
  | .bin op t x y => (abin P op t (x.val T) (y.val T)).map .pure
  | .un op x => (aun op (x.val T)).map .pure
  | .conv k x => match x.val T with | .int _ n => some (.pure (.int k (k.wrap n))) | _ => none
  | .mkf f a b => some (.pure (.fn f (MX.vals T a) (MX.vals T b)))
  | .mkmap => some (.val (.map (some nid)) { new := some (.map [] 0 false) })
  | .mks e z bytes l c => amks nid e z bytes (l.val T) (c.val T)
  | .slcS n x lo hi mx => (aslcS n (x.val T) (MX.opt T lo) (MX.opt T hi) (MX.opt T mx)).map .pure
  | .slcA len n x lo hi mx => (aslcA len n (x.val T) (MX.opt T lo) (MX.opt T hi) (MX.opt T mx)).map .pure
  | .slcT x lo hi => (aslcT (x.val T) (MX.opt T lo) (MX.opt T hi)).map .pure
  | .fa o x => match x.val T with | .ptr (some (b, p)) => some (.pure (.ptr (some (b, p + o)))) | _ => none
  | .fld agg o n x => (afld agg o n (x.val T)).map .pure
  | .ixS n x i => (aixS n (x.val T) (i.val T)).map .pure
  | .ixP len n x i => (aixP len n (x.val T) (i.val T)).map .pure
  | .ixA agg len n x i => (aixA agg len n (x.val T) (i.val T)).map .pure
  | .ixT x i => (aixT (x.val T) (i.val T)).map .pure
  | .look ks kagg z ok x k => (alook g ks kagg z ok (x.val T) (k.val T)).map .pure
  | .mset ks kagg m k v => amset g ks kagg (m.val T) (k.val T) (v.val T)
  | .ment ks kagg z m k => ament g ks kagg z (m.val T) (k.val T)
  | .mst m s v => aentryStore g (m.val T) (s.val T) (v.val T)
  | .mdel ks kagg m k => amdel g ks kagg (m.val T) (k.val T)
  | .ext x i => match x.val T with | .tup vs => (vs[i]?).map .pure | _ => none
  | .lenS x => match x.val T with | .slc _ n _ _ => some (.pure (.int .i64 n)) | _ => none
  | .lenM x => match x.val T with | .map m => (mapOf g m).map fun es => .pure (.int .i64 es.1.length) | _ => none
  | .lenT x => match x.val T with | .str s => some (.pure (.int .i64 s.size)) | _ => none
  | .app e size bytes s x => aapp g nid e size bytes (s.val T) (x.val T)
  | .cpy size d x => acpy g size (d.val T) (x.val T)
  | .clrS z x => aclrS g z (x.val T)
  | .mm lo x y => (amin2 lo (x.val T) (y.val T)).map .pure
  | .call .. | .callq .. | .callv .. => none

/-! ### out of the code -/

def cX : Operand → Option MX
  | .tmp t => some (.t t)
  | .const v => (AV.ofConst v).map .c
  | .global _ => none
  | .func f => some (.c (.fn f [] []))
def cO : Option Operand → Option (Option MX)
  | none => some none
  | some x => (cX x).map some

def cParts (P : Program) (fields : Array Field) : List (Nat × Operand) → Option (List (Nat × Nat × MX))
  | [] => some []
  | (i, x) :: l =>
    match fields[i]?, cX x, cParts P fields l with
    | some f, some x, some l => (ti P f.type).map fun i => (f.offset, i.size, x) :: l
    | _, _, _ => none
def cElems (size : Nat) : List (Nat × Operand) → Option (List (Nat × Nat × MX))
  | [] => some []
  | (i, x) :: l =>
    match cX x, cElems size l with
    | some x, some l => some ((i * size, size, x) :: l)
    | _, _ => none

def keyDesc (P : Program) (d : TypeDesc) : Bool :=
  match d with
  | .struct fs => fs.toList.all (fun f => match ti P f.type with | some j => !j.agg | none => false)
  | .array _ _ => false
  | _ => true
/-- a key's leaves -/
def cKey (P : Program) (t : TypeId) : Option (List Leaf × Bool) :=
  match ti P t, leaves P 9 t with
  | some i, some ks =>
    if keyDesc P i.desc then some (ks, i.agg) else none
  | _, _ => none

def cOp (P : Program) : Op → Option MO
  | .move x | .assign x => (cX x).map .mov
  | .pick c a b => match cX c, cX a, cX b with | some c, some a, some b => some (.pick c a b) | _, _, _ => none
  | .alloc e => match ti P e with | some i => i.zero.map (.alloc e) | none => none
  | .box e x => (cX x).map (.box e)
  | .build t ps => match ti P t with
    | some ⟨.struct fields, _, _, _, some z⟩ => if fields.all (fun f => (ti P f.type).isSome) then (cParts P fields ps.toList).map (.build z) else none
    | some ⟨.array _ elem, _, _, _, some z⟩ => match ti P elem with | some ie => (cElems ie.size ps.toList).map (.build z) | none => none
    | _ => none
  | .buildSlice t len ps => match ti P t with
    | some ⟨.slice elem, _, _, _, _⟩ => match ti P elem with
      | some ie => match ie.zero with
        | some z => if len * ie.size ≤ 2 ^ 24 ∧ z.length = ie.size then (cElems ie.size ps.toList).map (.buildS elem z len) else none
        | none => none
      | none => none
    | _ => none
  | .load t a => match ti P t, cX a with | some i, some a => some (if i.agg then .ldN i.size a else .ld1 a) | _, _ => none
  | .store t a v => match ti P t, cX a, cX v with | some i, some a, some v => some (.st i.size a v) | _, _, _ => none
  | .nilCheck x => (cX x).map .nck
  | .binOp op t x y _ => match cX x, cX y with | some x, some y => some (.bin op t x y) | _, _ => none
  | .unOp op _ x => (cX x).map (.un op)
  | .convert s d x => match ti P s, ti P d, cX x with | some _, some ⟨.int k, _, _, _, _⟩, some x => some (.conv k x) | _, _, _ => none
  | .makeFunc (.func f) first cap => match allOf cX first.toList, allOf cX cap.toList with | some a, some b => some (.mkf f a b) | _, _ => none
  | .makeMap _ none => some .mkmap
  | .makeSlice t l c => match ti P t, cX l, cX c with
    | some ⟨.slice elem, _, _, _, _⟩, some l, some c => match ti P elem with
      | some ie => match ie.zero with | some z => if z.length = ie.size then some (.mks elem z ie.bytes l c) else none | none => none
      | none => none
    | _, _, _ => none
  | .slice t x lo hi mx => match ti P t, cX x, cO lo, cO hi, cO mx with
    | some ⟨.slice elem, _, _, _, _⟩, some x, some lo, some hi, some mx => (ti P elem).map fun ie => .slcS ie.size x lo hi mx
    | some ⟨.array n elem, _, _, _, _⟩, some x, some lo, some hi, some mx => (ti P elem).map fun ie => .slcA n ie.size x lo hi mx
    | some ⟨.string, _, _, _, _⟩, some x, some lo, some hi, some none => some (.slcT x lo hi)
    | _, _, _, _, _ => none
  | .fieldAddr t x f => match ti P t, cX x with
    | some ⟨.struct fields, _, _, _, _⟩, some x => match fields[f]? with
      | some fd => match ti P fd.type with | some i => if i.size ≠ 0 then some (.fa fd.offset x) else none | none => none
      | none => none
    | _, _ => none
  | .field t x f => match ti P t, cX x with
    | some ⟨.struct fields, _, _, _, _⟩, some x => match fields[f]? with
      | some fd => (ti P fd.type).map fun i => .fld i.agg fd.offset i.size x
      | none => none
    | _, _ => none
  | .indexAddr t x i => match ti P t, cX x, cX i with
    | some ⟨.array len elem, _, _, _, _⟩, some x, some i => (ti P elem).map fun ie => .ixP len ie.size x i
    | some ⟨.slice elem, _, _, _, _⟩, some x, some i => (ti P elem).map fun ie => .ixS ie.size x i
    | _, _, _ => none
  | .index t x i => match ti P t, cX x, cX i with
    | some ⟨.array len elem, _, _, _, _⟩, some x, some i => (ti P elem).map fun ie => .ixA ie.agg len ie.size x i
    | some ⟨.string, _, _, _, _⟩, some x, some i => some (.ixT x i)
    | _, _, _ => none
  | .lookup t x k ok => match ti P t, cX x, cX k with
    | some ⟨.map kt et, _, _, _, _⟩, some x, some k => match cKey P kt, ti P et with
      | some (ks, kagg), some ie => match ie.zero with | some z => (mk ie.agg z).map fun z => .look ks kagg z ok x k | none => none
      | _, _ => none
    | _, _, _ => none
  | .mapUpdate t m k v | .insert t m k v => match ti P t, cX m, cX k, cX v with
    | some ⟨.map kt _, _, _, _, _⟩, some m, some k, some v => (cKey P kt).map fun c => .mset c.1 c.2 m k v
    | _, _, _, _ => none
  | .mapEntry t m k => match ti P t, cX m, cX k with
    | some ⟨.map kt et, _, _, _, _⟩, some m, some k => match cKey P kt, ti P et with
      | some (ks, kagg), some ie => match ie.zero with | some z => (mk ie.agg z).map fun z => .ment ks kagg z m k | none => none
      | _, _ => none
    | _, _, _ => none
  | .entryStore _ m s v => match cX m, cX s, cX v with | some m, some s, some v => some (.mst m s v) | _, _, _ => none
  | .extract t i => (cX t).map fun x => .ext x i
  | .call { callee := .builtin b, args, argTypes } =>
    match b, argTypes.toList, allOf cX args.toList with
    | .append, [s, x], some [v, y] => match ti P s, ti P x with
      | some ⟨.slice elem, _, _, _, _⟩, some ⟨.slice _, _, _, _, _⟩ => match ti P elem with
        | some ie => if ie.size ≠ 0 ∧ (ie.zero.map List.length) = some ie.size then some (.app elem ie.size ie.bytes v y) else none
        | none => none
      | _, _ => none
    | .copy, [d, _], some [v, y] => match ti P d with
      | some ⟨.slice elem, _, _, _, _⟩ => (ti P elem).map fun ie => .cpy ie.size v y
      | _ => none
    | .clear, [t], some [x] => match ti P t with
      | some ⟨.slice elem, _, _, _, _⟩ => match ti P elem with
        | some ie => match ie.zero with | some z => if z.length = ie.size then some (.clrS z x) else none | none => none
        | none => none
      | _ => none
    | .delete, t :: _, some [m, k] => match ti P t with
      | some ⟨.map kt _, _, _, _, _⟩ => (cKey P kt).map fun c => .mdel c.1 c.2 m k
      | _ => none
    | .len, t :: _, some (x :: _) => match ti P t with
      | some ⟨.slice _, _, _, _, _⟩ => some (.lenS x)
      | some ⟨.map _ _, _, _, _, _⟩ => some (.lenM x)
      | some ⟨.string, _, _, _, _⟩ => some (.lenT x)
      | _ => none
    | .min, _, some [x, y] => some (.mm true x y)
    | .max, _, some [x, y] => some (.mm false x y)
    | _, _, _ => none
  | _ => none

def MO.isCall : MO → Bool
  | .call .. | .callq .. | .callv .. => true
  | _ => false

/-- .. calls, too: 'q': the quiet ones -/
def cOpc (P : Program) (q : FuncId → Bool) (op : Op) : Option MO :=
  match op with
  | .call { callee := .value f, args, .. } =>
    match allOf cX args.toList with
    | some a => match f with
      | .func f => some (if q f then .callq f a else .call f a)
      | f => (cX f).map fun x => .callv x a
    | none => none
  | op => match cOp P op with
    | some m => if m.isCall then none else some m
    | none => none

structure MI where
  d : Option Nat
  g : Option (Nat × Bool)
  m : MO
  deriving Inhabited

/-- an operation of a region with blocks of its own: what it is (new: which block), the blocks that aren't there for it (by their ranks), the slots whose blocks a write keeps off, the slot that a loose load's address comes from -/
inductive DK where | quiet | new (r : Nat) | write
  deriving Inhabited
structure DI where
  kd : DK
  hid : List Nat
  roots : List Nat
  prot : Option Nat
  it : MI
  deriving Inhabited

inductive MC where
  | skip
  | ops (l : List MI)
  | dops (R : Nat) (l : List DI)
  | seq (a b : MC)
  | cond (x : MX) (a b : MC)
  | block (id : Nat) (c : MC)
  | loop (c : MC)
  | exit (id : Nat)
  | ret
  | raw (c : Code)
  deriving Inhabited

def cOper (P : Program) (q : FuncId → Bool) (sz : Nat) (ops : Array Oper) (o : Oper) : Option MI :=
  if dstOk sz o.dst then
    match o.guard with
    | none => (cOpc P q o.op).map fun m => ⟨o.dst, none, m⟩
    | some (j, w) => match (ops[j]?).bind (·.dst), cOpc P q o.op with
      | some d, some m => some ⟨o.dst, some (d, w), m⟩
      | _, _ => none
  else none

def looseAt (ops : Array Oper) (i j : Nat) : Bool := !isBefore (befores ops) i j && !isBefore (befores ops) j i
def hidRanks (quiet : FuncId → Bool) (ops : Array Oper) (i : Nat) : List Nat :=
  ((List.range ops.size).filter fun k => match ops[k]? with | some o => kindOf quiet o.op = .new && k != i && !isBefore (befores ops) k i | none => false).map (rank quiet ops)
def looseRoots (ops : Array Oper) (j : Nat) : List Nat :=
  (List.range ops.size).filterMap fun i => match ops[i]? with
    | some o => match o.op with
      | .load _ (.tmp a) => if looseAt ops i j then some (rootOf ops 9 a) else none
      | _ => none
    | none => none
def needProt (quiet : FuncId → Bool) (ops : Array Oper) (i : Nat) : Bool := (List.range ops.size).any fun j => isWriteAt quiet ops j && looseAt ops i j
def cProt (quiet : FuncId → Bool) (ops : Array Oper) (i : Nat) : Op → Option (Option Nat)
  | .load _ (.tmp a) => some (if needProt quiet ops i then some (rootOf ops 9 a) else none)
  | .load _ _ => none
  | .call { callee := .builtin .len, .. } => if needProt quiet ops i then none else some none
  | _ => some none
def cDItem (P : Program) (S : Sums) (sz : Nat) (ops : Array Oper) (p : Nat × Oper) : Option DI :=
  match cOper P S.quiet sz ops p.2, cProt S.quiet ops p.1 p.2.op with
  | some mi, some pr => some ⟨match kindOf S.quiet p.2.op with | .quiet => .quiet | .new => .new (rank S.quiet ops p.1) | .write => .write, hidRanks S.quiet ops p.1, if isWriteAt S.quiet ops p.1 then looseRoots ops p.1 else [], pr, mi⟩
  | _, _ => none

/-- the code; a region that draws is kept where an order could make a difference to the numbers of blocks -/
def cCode (P : Program) (S : Sums) (sz : Nat) : Code → Option MC
  | .skip => some .skip
  | .label _ => some .skip
  | .region id ops draw =>
    if draw then
      if drawOk S.quiet ops && plainOps S.quiet ops then (allOf (cOper P S.quiet sz ops) ops.toList).map .ops
      else if drawOk S.quiet ops then
        match allOf (cDItem P S sz ops) (numbered ops.toList 0) with
        | some l => some (.dops (rank S.quiet ops ops.size) l)
        | none => some (.raw (.region id ops true))
      else some (.raw (.region id ops true))
    else (allOf (cOper P (fun _ => false) sz ops) ops.toList).map .ops
  | .seq a b => match cCode P S sz a, cCode P S sz b with | some a, some b => some (.seq a b) | _, _ => none
  | .cond c a b => match cX c, cCode P S sz a, cCode P S sz b with | some c, some a, some b => some (.cond c a b) | _, _, _ => none
  | .block id c => (cCode P S sz c).map (.block id)
  | .loop c => (cCode P S sz c).map .loop
  | .exit id => some (.exit id)
  | .ret => some .ret
  | _ => none

/-- what a function answers: slots, or what slots lead to (agg; how many cells) -/
inductive MR where
  | t (i : Nat)
  | l (i : Nat) (agg : Bool) (n : Nat)

def cRes (P : Program) : ResultVar → Option MR
  | .tmp t => some (.t t)
  | .cell a t => (ti P t).map fun i => .l a i.agg i.size

structure MF where
  np : Nat
  body : MC
  res : List MR

def cFn (P : Program) (S : Sums) (f : FuncId) : Option MF :=
  match S.sum f, P.funcs[f]? with
  | none, some fn => match fn.body with
    | some c => match cCode P S fn.ntmps c, allOf (cRes P) fn.results.toList with
      | some b, some r => some ⟨fn.ntmps, b, r⟩
      | _, _ => none
    | none => none
  | _, _ => none

end Go.Eng
namespace Go.Eng
set_option linter.unusedVariables false
set_option linter.unusedSimpArgs false

theorem cX_ok {x : Operand} {m : MX} (h : cX x = some m) (T : Slots) : aeval T x = some (m.val T) := by
  cases x with
  | tmp t => simp only [cX, Option.some.injEq] at h; subst h; rfl
  | const v =>
    simp only [cX, Option.map_eq_some_iff] at h
    obtain ⟨a, h1, rfl⟩ := h
    simpa [aeval, MX.val] using h1
  | global g => simp [cX] at h
  | func f => simp only [cX, Option.some.injEq] at h; subst h; rfl

theorem cXs_ok : ∀ {l : List Operand} {ms : List MX}, allOf cX l = some ms → ∀ T : Slots, allOf (aeval T) l = some (MX.vals T ms)
  | [], ms, h, T => by simp only [allOf, Option.some.injEq] at h; subst h; rfl
  | x :: l, ms, h, T => by
    simp only [allOf] at h
    cases hx : cX x with
    | none => rw [hx] at h; cases h
    | some m =>
      cases hl : allOf cX l with
      | none => rw [hx, hl] at h; cases h
      | some ms' =>
        rw [hx, hl] at h
        simp only [Option.some.injEq] at h; subst h
        simp only [allOf, cX_ok hx T, cXs_ok hl T, MX.vals]

theorem cO_ok {x : Option Operand} {m : Option MX} (h : cO x = some m) (T : Slots) : optA (aeval T) x = some (MX.opt T m) := by
  cases x with
  | none => simp only [cO, Option.some.injEq] at h; subst h; rfl
  | some x =>
    simp only [cO, Option.map_eq_some_iff] at h
    obtain ⟨a, h1, rfl⟩ := h
    simp [optA, cX_ok h1 T, MX.opt]

section
variable {P : Program}

theorem cElems_ok {size : Nat} : ∀ {l : List (Nat × Operand)} {ps : List (Nat × Nat × MX)}, cElems size l = some ps → ∀ T : Slots,
    ∃ vs, allOf (fun p : Nat × Operand => (aeval T p.2).map fun v => (p.1, v)) l = some vs ∧ vs.map (fun p => (p.1 * size, size, p.2)) = partsV T ps
  | [], ps, h, T => by simp only [cElems, Option.some.injEq] at h; subst h; exact ⟨[], rfl, rfl⟩
  | (i, x) :: l, ps, h, T => by
    simp only [cElems] at h
    cases hx : cX x with
    | none => rw [hx] at h; cases h
    | some m =>
      cases hl : cElems size l with
      | none => rw [hx, hl] at h; cases h
      | some ms' =>
        rw [hx, hl] at h
        simp only [Option.some.injEq] at h; subst h
        obtain ⟨vs, h1, h2⟩ := cElems_ok hl T
        refine ⟨(i, m.val T) :: vs, ?_, ?_⟩
        · simp only [allOf, cX_ok hx T, Option.map_some, h1]
        · simp only [List.map_cons, h2, partsV]

theorem cParts_ok {fields : Array Field} : ∀ {l : List (Nat × Operand)} {ps : List (Nat × Nat × MX)}, cParts P fields l = some ps → ∀ T : Slots,
    ∃ vs, allOf (fun p : Nat × Operand => (aeval T p.2).map fun v => (p.1, v)) l = some vs ∧
      allOf (fun p : Nat × AV => match fields[p.1]? with | some f => (match ti P f.type with | some i => some (f.offset, i.size, p.2) | none => none) | none => none) vs = some (partsV T ps)
  | [], ps, h, T => by simp only [cParts, Option.some.injEq] at h; subst h; exact ⟨[], rfl, rfl⟩
  | (i, x) :: l, ps, h, T => by
    simp only [cParts] at h
    cases hf : fields[i]? with
    | none => rw [hf] at h; simp at h
    | some f =>
      cases hx : cX x with
      | none => rw [hf, hx] at h; simp at h
      | some m =>
        cases hl : cParts P fields l with
        | none => rw [hf, hx, hl] at h; simp at h
        | some ms' =>
          rw [hf, hx, hl] at h
          simp only [Option.map_eq_some_iff] at h
          obtain ⟨j, hj, rfl⟩ := h
          obtain ⟨vs, h1, h2⟩ := cParts_ok hl T
          refine ⟨(i, m.val T) :: vs, ?_, ?_⟩
          · simp only [allOf, cX_ok hx T, Option.map_some, h1]
          · simp only [allOf, hf, hj, h2, partsV]

theorem cKey_ok {t : TypeId} {c : List Leaf × Bool} (h : cKey P t = some c) (k : AV) : keyOk P t k = keyM c.1 c.2 k := by
  unfold cKey at h
  split at h
  · rename_i i ks hi hk
    split at h
    · rename_i hc
      simp only [Option.some.injEq] at h; subst h
      have e : keyOk P t k = (fits ks k.cells && (match k with | .agg _ => i.agg | _ => !i.agg) && keyDesc P i.desc) := by
        unfold keyOk keyDesc
        rw [hi, hk]
        rfl
      rw [e, hc, Bool.and_true]
      rfl
    · cases h
  · cases h

end
end Go.Eng
