/- The abstract machine D, part C: its values, its operations, its code. -/
import Derived.Test.YtmdnddoiopgboaaDoorDB
namespace Go.D

/-- is it a row's header? -/
def Ty.isOwn : Ty → Bool
  | .own _ => true
  | _ => false

inductive DV where
  | any | und | nilsl
  | data (d : DVal)
  | tup (l : List DVal)
  | ptr (k : Nat) (p : List Step)
  | asl (k : Nat) (p : List Step)
  | ref (k : Nat)
  | rop (d : DVal)
  /-- the row whose header lies at a place of an object -/
  | rref (k : Nat) (p : List Step)

/-- an object: what it holds; is it a row whose header lies in the frame ('vir'); how many of its elements are frozen -/
structure DObj where
  t : Ty
  x : t.den
  vir : Bool
  fz : Nat := 0

abbrev St := List (Nat × DObj)
/-- the key of what was handed in -/
def pinKey : Nat := 4000000
def St.get (k : Nat) : St → Option DObj
  | [] => none
  | (j, o) :: r => if j = k then some o else St.get k r
def St.put (k : Nat) (o : DObj) : St → St
  | [] => [(k, o)]
  | (j, q) :: r => if j = k then (k, o) :: r else (j, q) :: St.put k o r
def St.keep (ks : List Nat) : St → St
  | [] => []
  | (j, q) :: r => if ks.contains j then (j, q) :: St.keep ks r else St.keep ks r

structure S where
  fr : List DV
  st : St

/-! ### Commands: what an operation asks of numbers -/
inductive Cmd (α : Type) : Type 1 where
  | ret (a : α)
  | fail
  | lift (β : Type) (x : Option β) (k : β → Cmd α)
  | guard (c : Bool) (k : Cmd α)
def Cmd.run {α R : Type} : Cmd α → (α → Option R) → Option R
  | .ret a, K => K a
  | .fail, _ => none
  | .lift _ x k, K => x.bind fun b => (k b).run K
  | .guard c k, K => bif c then k.run K else none
def Cmd.bind {α β : Type} : Cmd α → (α → Cmd β) → Cmd β
  | .ret a, f => f a
  | .fail, _ => .fail
  | .lift γ x k, f => .lift γ x fun b => (k b).bind f
  | .guard c k, f => .guard c (k.bind f)
def Cmd.val {α : Type} (c : Cmd α) : Option α := c.run some
def Cmd.map {α β : Type} (f : α → β) (c : Cmd α) : Cmd β := c.bind fun a => .ret (f a)
def Cmd.of {α : Type} : Option α → Cmd α
  | some a => .ret a
  | none => .fail

/-! ### Types -/
def tyFields (ty : TypeId → Option Ty) : List Field → Option Ty
  | [] => some .unit
  | f :: r => match ty f.type, tyFields ty r with
    | some a, some b => some (.pair a b)
    | _, _ => none
def tyOf (P : Program) : Nat → TypeId → Option Ty
  | 0, _ => none
  | n + 1, t => match P.underlying t with
    | some .bool => some .bool
    | some (.int k) => some (.int k)
    | some .string => some .str
    | some (.slice e) => (tyOf P n e).map .sl
    | some (.array k e) => (tyOf P n e).map (.arr k)
    | some (.struct fs) => tyFields (tyOf P n) fs.toList
    | _ => none
def sizeP (P : Program) (t : TypeId) : Option Nat := (P.info? t).map (·.size)
def bytesP (P : Program) (t : TypeId) : Option Nat := (P.info? t).map (·.bytes)
def aggP (P : Program) (t : TypeId) : Option Bool := match P.underlying t with
  | some (.struct _) | some (.array _ _) => some true
  | some _ => some false
  | none => none
/-- a value of the D-type u lies as one of the Go type t does -/
def fits (P : Program) (t : TypeId) (u : Ty) : Bool := aggP P t == some u.isAgg && sizeP P t == some u.size
def sized (P : Program) (t : TypeId) (u : Ty) : Bool := sizeP P t == some u.size
/-- reads cells as data of a type -/
def parseL (f : List Value → Option (DVal × List Value)) (t : Ty) : Nat → List Value → Option (List t.den × List Value)
  | 0, cs => some ([], cs)
  | n + 1, cs => match f cs with
    | some (d, r) => if h : d.t = t then (parseL f t n r).map fun (l, r') => ((h ▸ d.x) :: l, r') else none
    | none => none
def parse : (t : Ty) → List Value → Option (DVal × List Value)
  | .int k, .int k' n :: r => if k = k' then some (⟨.int k, n⟩, r) else none
  | .bool, .bool b :: r => some (⟨.bool, b⟩, r)
  | .str, .string s :: r => some (⟨.str, s⟩, r)
  | .unit, r => some (⟨.unit, ()⟩, r)
  | .pair a b, cs => match parse a cs with
    | some (d, r) => match parse b r with
      | some (e, r') => some (⟨.pair d.t e.t, (d.x, e.x)⟩, r')
      | none => none
    | none => none
  | .arr n t, cs => (parseL (parse t) t n cs).map fun (l, r) => (⟨.arr n t, l⟩, r)
  | .sl t, .slice none 0 0 :: r => some (⟨.sl t, []⟩, r)
  | _, _ => none
/-- the zero value of a Go type -/
def zeroP (P : Program) (t : TypeId) : Option DVal :=
  match tyOf P 20 t, P.info? t with
  | some u, some i => match i.zero with
    | some z => match parse u z.cells.toList with
      | some (d, []) => if d.t = u && u.pure then some d else none
      | _ => none
    | none => none
  | _, _ => none

/-! ### What operands are -/
inductive RV where
  | any | und | nilsl
  | data (d : DVal)
  | tup (l : List DVal)
  | ptr (k : Nat) (p : List Step) (o : DObj)
  | asl (k : Nat) (p : List Step) (o : DObj)
  | ref (k : Nat) (o : DObj)
  | rop (d : DVal)
  | rref (k : Nat) (p : List Step) (o : DObj)
  /-- a name of what isn't there -/
  | nam (k : Nat)

def constV : Value → DV
  | .int k n => .data ⟨.int k, n⟩
  | .bool b => .data ⟨.bool, b⟩
  | .string s => .data ⟨.str, s⟩
  | .slice none 0 0 => .nilsl
  | _ => .any
def dval (fr : List DV) : Operand → DV
  | .tmp t => fr.getD t .any
  | .const v => constV v
  | .global g => match gvars.lookup g with
    | some d => .rop d
    | none => .any
  | _ => .any
def resolve (st : St) : DV → RV
  | .any => .any
  | .und => .und
  | .nilsl => .nilsl
  | .data d => .data d
  | .tup l => .tup l
  | .rop d => .rop d
  | .ptr k p => match st.get k with | some o => .ptr k p o | none => .any
  | .asl k p => match st.get k with | some o => .asl k p o | none => .any
  | .ref k => match st.get k with | some o => .ref k o | none => .nam k
  | .rref k p => match st.get k with | some o => .rref k p o | none => .any
def RV.dv : RV → DV
  | .any => .any
  | .und => .und
  | .nilsl => .nilsl
  | .data d => .data d
  | .tup l => .tup l
  | .rop d => .rop d
  | .ptr k p _ => .ptr k p
  | .asl k p _ => .asl k p
  | .ref k _ => .ref k
  | .rref k p _ => .rref k p
  | .nam k => .ref k
def RV.keys : RV → List Nat
  | .ptr k _ _ | .asl k _ _ | .ref k _ | .rref k _ _ | .nam k => [k]
  | _ => []

/-- what an operation does beside its value -/
inductive Eff where
  | none
  | new (o : DObj)
  | upd (l : List (Nat × DObj))
  | app (k : Nat) (o : DObj)
  /-- objects become others (b), rows are frozen (l); what spoke of the insides of the former is forgotten -/
  | chg (b l : List (Nat × DObj))
  /-- a new object is made of others, which are gone -/
  | mk (o : DObj) (ks : List Nat)

/-! ### Pure operations -/
def eqTy (P : Program) : Nat → TypeId → Ty → Bool
  | 0, _, _ => false
  | n + 1, t, u => match P.underlying t, u with
    | some .bool, .bool => true
    | some (.int k), .int k' => k == k'
    | some .string, .str => true
    | some (.array m e), .arr m' u' => m == m' && sized P e u' && aggP P e == some u'.isAgg && eqTy P n e u'
    | some (.struct fs), u => !P.stoodInHeld t && eqFields (eqTy P n) (sized P) (fun t u => aggP P t == some u.isAgg) 0 fs.toList u
    | _, _ => false
where
  eqFields (eq sz ag : TypeId → Ty → Bool) : Nat → List Field → Ty → Bool
    | _, [], .unit => true
    | off, f :: r, .pair a b => f.name != "_" && f.offset == off && sz f.type a && ag f.type a && eq f.type a && eqFields eq sz ag (off + a.size) r b
    | _, _, _ => false

def eqL {α : Type} (f : α → α → Bool) : List α → List α → Bool
  | [], [] => true
  | a :: x, b :: y => f a b && eqL f x y
  | _, _ => false
def eqD : (t : Ty) → t.den → t.den → Bool
  | .int _, a, b => (a : Int) == b
  | .bool, a, b => (a : Bool) == b
  | .str, a, b => (a : ByteArray).toList == (b : ByteArray).toList
  | .unit, _, _ => true
  | .pair a b, x, y => eqD a x.1 y.1 && eqD b x.2 y.2
  | .arr _ t, x, y => eqL (eqD t) x y
  | _, _, _ => false

def bitop (op : BinOp) (k : IntKind) (x y : Int) : Int :=
  match op with
  | .and => k.wrap (BitVec.ofInt k.bits x &&& BitVec.ofInt k.bits y).toNat
  | .or => k.wrap (BitVec.ofInt k.bits x ||| BitVec.ofInt k.bits y).toNat
  | .xor => k.wrap (BitVec.ofInt k.bits x ^^^ BitVec.ofInt k.bits y).toNat
  | .andNot => k.wrap (BitVec.ofInt k.bits x &&& ~~~BitVec.ofInt k.bits y).toNat
  | _ => 0
def shl (k : IntKind) (x y : Int) : Int := k.wrap (x * 2 ^ (min y.toNat k.bits))
def shr (k : IntKind) (x y : Int) : Int := x.fdiv (2 ^ (min y.toNat k.bits))

def bool (b : Bool) : DVal := ⟨.bool, b⟩
def binInt (op : BinOp) (k : IntKind) (x y : Int) : Cmd DVal :=
  match op with
  | .add => .ret ⟨.int k, k.wrap (x + y)⟩
  | .sub => .ret ⟨.int k, k.wrap (x - y)⟩
  | .mul => .ret ⟨.int k, k.wrap (x * y)⟩
  | .quo => .guard (y != 0) (.ret ⟨.int k, k.wrap (x.tdiv y)⟩)
  | .rem => .guard (y != 0) (.ret ⟨.int k, x.tmod y⟩)
  | .and => .ret ⟨.int k, bitop .and k x y⟩
  | .or => .ret ⟨.int k, bitop .or k x y⟩
  | .xor => .ret ⟨.int k, bitop .xor k x y⟩
  | .andNot => .ret ⟨.int k, bitop .andNot k x y⟩
  | .eql => .ret (bool (x == y))
  | .neq => .ret (bool (x != y))
  | .lss => .ret (bool (x < y))
  | .leq => .ret (bool (x ≤ y))
  | .gtr => .ret (bool (x > y))
  | .geq => .ret (bool (x ≥ y))
  | _ => .fail
def binStr (op : BinOp) (x y : ByteArray) : Cmd DVal :=
  match op with
  | .add => .guard (decide (x.size + y.size ≤ 9223372036854775807)) (.ret ⟨.str, x ++ y⟩)
  | .eql => .ret (bool (x.toList == y.toList))
  | .neq => .ret (bool (!(x.toList == y.toList)))
  | .lss => .ret (bool (Op.bytesLess x.toList y.toList))
  | .leq => .ret (bool (Op.bytesLess x.toList y.toList || x.toList == y.toList))
  | .gtr => .ret (bool (!(Op.bytesLess x.toList y.toList || x.toList == y.toList)))
  | .geq => .ret (bool (!(Op.bytesLess x.toList y.toList)))
  | _ => .fail
def binEq (P : Program) (op : BinOp) (T : TypeId) (t : Ty) (x y : t.den) : Cmd DVal :=
  match op with
  | .eql => .guard (eqTy P 20 T t && !P.eqGuardType P.depth T) (.ret (bool (eqD t x y)))
  | .neq => .guard (eqTy P 20 T t && !P.eqGuardType P.depth T) (.ret (bool (!eqD t x y)))
  | _ => .fail
def binop (P : Program) (op : BinOp) (T : TypeId) : DVal → DVal → Cmd DVal
  | ⟨.int k, x⟩, ⟨.int k', y⟩ =>
    match op with
    | .shl => .guard (decide (0 ≤ y)) (.ret ⟨.int k, shl k x y⟩)
    | .shr => .guard (decide (0 ≤ y)) (.ret ⟨.int k, shr k x y⟩)
    | op => if k = k' then binInt op k x y else .fail
  | ⟨.str, x⟩, ⟨.str, y⟩ => binStr op x y
  | ⟨.bool, x⟩, ⟨.bool, y⟩ => binEq P op T .bool x y
  | ⟨.pair a b, x⟩, ⟨u, y⟩ => if h : u = .pair a b then binEq P op T (.pair a b) x (h ▸ y) else .fail
  | ⟨.arr n t, x⟩, ⟨u, y⟩ => if h : u = .arr n t then binEq P op T (.arr n t) x (h ▸ y) else .fail
  | _, _ => .fail
def unop (op : UnOp) : DVal → Cmd DVal
  | ⟨.bool, b⟩ => match op with | .not => .ret (bool (!b)) | _ => .fail
  | ⟨.int k, n⟩ => match op with
    | .neg => .ret ⟨.int k, k.wrap (0 - n)⟩
    | .xor => .ret ⟨.int k, bitop .xor k (if k.signed then -1 else k.max) n⟩
    | _ => .fail
  | _ => .fail

def bytesOf (xs : List Int) : ByteArray := ⟨(xs.map fun n => UInt8.ofNat n.toNat).toArray⟩
def ofBytes (s : ByteArray) : List Int := s.data.toList.map fun b => (b.toNat : Int)

/-- the elements of a slice, as data -/
def RV.elems : RV → Option ((t : Ty) × List t.den)
  | .data ⟨.sl t, xs⟩ => some ⟨t, xs⟩
  | .ref _ ⟨.own t, xs, true, _⟩ => some ⟨t, xs⟩
  | .ref _ ⟨.sl t, xs, true, _⟩ => some ⟨t, xs⟩
  | .asl _ p o => match get p o.t o.x with
    | some ⟨.arr _ t, xs⟩ => if t.pure then some ⟨t, xs⟩ else none
    | _ => none
  | .rref _ p o => match get p o.t o.x with
    | some ⟨.own t, xs⟩ => if t.pure then some ⟨t, xs⟩ else none
    | _ => none
  | _ => none
/-- an operand as data; the rows that are frozen for it -/
def RV.datum : RV → Option (DVal × List (Nat × DObj))
  | .data d => some (d, [])
  | .ref k ⟨.own t, xs, true, _⟩ => some (⟨.sl t, xs⟩, [(k, ⟨.own t, xs, true, List.length xs⟩)])
  | .ref k ⟨.sl t, xs, true, z⟩ => some (⟨.sl t, xs⟩, [(k, ⟨.sl t, xs, true, z⟩)])
  | _ => none
/-- an operand as data of a type -/
def RV.datumAs (t : Ty) : RV → Option (DVal × List (Nat × DObj))
  | .nilsl => match t with | .sl u => some (⟨.sl u, []⟩, []) | _ => none
  | r => match r.datum with
    | some (d, l) => if d.t = t then some (d, l) else none
    | none => none

def fieldSteps (i : Nat) : List Step := List.replicate i .snd ++ [.fst]
/-- the cell at which a field begins, its type -/
def fieldAt : Nat → Ty → Option (Nat × Ty)
  | 0, .pair a _ => some (0, a)
  | i + 1, .pair a b => (fieldAt i b).map fun (o, t) => (o + a.size, t)
  | _, _ => none
def fieldOk (P : Program) (T : TypeId) (i : Nat) (t : Ty) : Bool :=
  match P.underlying T with
  | some (.struct fs) => match fs[i]?, fieldAt i t with
    | some f, some (o, u) => f.offset == o && sized P f.type u && u.size != 0 && aggP P f.type == some u.isAgg
    | _, _ => false
  | _ => false

/-- the lengths that an append, a make may come to -/
def roomOk (n bytes : Nat) : Bool := decide (n * bytes ≤ 140737488355328) && decide (n ≤ 9223372036854775807)

/-- places an aggregate's parts -/
def place (isArr : Bool) : List (Nat × DVal) → (t : Ty) → t.den → Option t.den
  | [], _, x => some x
  | (i, d) :: r, t, x => match set (if isArr then [.idx i] else fieldSteps i) t x d with
    | some y => place isArr r t y
    | none => none

/-- the parts as data, and what is frozen for them; t: of which type each is -/
def partsAs (ty : Nat → Option Ty) : List (Nat × RV) → Option (List (Nat × DVal) × List (Nat × DObj))
  | [] => some ([], [])
  | (i, v) :: r => match ty i with
    | some t => match v.datumAs t, partsAs ty r with
      | some (d, l), some (ds, l') => some ((i, d) :: ds, l ++ l')
      | _, _ => none
    | none => none

/-- a function's contract: of which types its parameters are, what it answers -/
structure Ctr where
  ins : List Ty
  run : List DVal → Cmd (List DVal)
abbrev Env := FuncId → Option Ctr

/-- its data have no slices: they hang on no memory -/
def Ty.flat : Ty → Bool
  | .int _ | .bool | .str | .unit => true
  | .pair a b => a.flat && b.flat
  | .arr _ t => t.flat
  | _ => false
/-- an argument as data of a type; a pointer to what is only read is handed on -/
def argAs (t : Ty) : RV → Option (DVal × List (Nat × DObj))
  | .rop d => match t with
    | .pt u => if d.t = u then some (⟨.pt d.t, d.x⟩, []) else none
    | _ => none
  | v => v.datumAs t
def argsAs : List Ty → List RV → Option (List DVal × List (Nat × DObj))
  | [], [] => some ([], [])
  | t :: ts, v :: vs => match argAs t v, argsAs ts vs with
    | some (d, l), some (ds, l') => some (d :: ds, l ++ l')
    | _, _ => none
  | _, _ => none

structure Cfg where
  /-- the tmps whose slice literals are rows that are written -/
  rows : List Tmp := []
  /-- what is kept at the head of a loop in block 'id': the frame's places, the objects -/
  keep : List (Nat × List Nat × List Nat) := []
  /-- in block 'id': the frame's place where a nil slice becomes an empty row, the row's key, its elements' type -/
  adopt : List (Nat × Nat × Nat × Ty) := []
  /-- the appends that leave their row as it was, as data -/
  share : List Tmp := []
  /-- the structs that are built of rows, their types -/
  owns : List (Tmp × Ty) := []
  /-- the row that it answers is handed over -/
  ownR : Bool := false

def callEff (ds : List DVal) (l : List (Nat × DObj)) : Eff := if ds.all (fun d => d.t.flat) then .none else .upd l
def resDV : List DVal → DV
  | [d] => .data d
  | r => .tup r
/-- a call that is handed data alone -/
def dcallP (c : Ctr) (args : List RV) : Cmd (DV × Eff) :=
  match argsAs c.ins args with
  | some (ds, l) => (c.run ds).bind fun r => match r with
    | [⟨.box u, x⟩] => if l.isEmpty then .ret (.ref 0, .new ⟨.box u, x, true, 0⟩) else .fail
    | [⟨.own u, x⟩] => if l.isEmpty && u.pure then .ret (.ref 0, .new ⟨.own u, x, true, 0⟩) else .fail
    | r => .ret (resDV r, callEff r l)
  | none => .fail
/-- a call whose first argument is an object that is handed over, and comes back -/
def dcallB (c : Ctr) (t : Ty) (ts : List Ty) : List RV → Cmd (DV × Eff)
  | .ref k ⟨.box t', x, true, _⟩ :: as => if h : t' = t then match argsAs ts as with
      | some (ds, l) => (c.run (⟨.box t, h ▸ x⟩ :: ds)).bind fun r => match r with
        | ⟨.box t2, x2⟩ :: rs => if t2 = t then .ret (resDV rs, .chg [(k, ⟨.box t2, x2, true, 0⟩)] l) else .fail
        | _ => .fail
      | none => .fail
    else .fail
  | _ => .fail
/-- what is only read of an object that owns its rows -/
def frz : Ty → Ty
  | .int k => .int k
  | .bool => .bool
  | .str => .str
  | .unit => .unit
  | .pair a b => .pair (frz a) (frz b)
  | .arr n t => .arr n t
  | .sl t => .sl t
  | .own t => .sl t
  | .box t => .box t
  | .pt t => .pt t
def frzOk : Ty → Bool
  | .pair a b => frzOk a && frzOk b
  | .own t => t.pure
  | .box _ => false
  | t => t.pure
def frzD : (t : Ty) → t.den → (frz t).den
  | .int _, x => x
  | .bool, x => x
  | .str, x => x
  | .unit, x => x
  | .pair a b, x => (frzD a x.1, frzD b x.2)
  | .arr _ _, x => x
  | .sl _, x => x
  | .own _, x => x
  | .box _, x => x
  | .pt _, x => x
/-- a call that only reads the object that is its first argument -/
def dcallL (c : Ctr) (u : Ty) (ts : List Ty) : List RV → Cmd (DV × Eff)
  | .ref _ ⟨.box t, x, true, _⟩ :: as => if frz t = u && frzOk t then match argsAs ts as with
      | some (ds, _) => (c.run (⟨.pt (frz t), frzD t x⟩ :: ds)).bind fun rs => match rs with
        | [⟨.own u, y⟩] => if u.flat && u.pure then .ret (.ref 0, .new ⟨.own u, y, true, 0⟩) else .fail
        | rs => if rs.all (fun d => d.t.flat) then .ret (resDV rs, .none) else .fail
      | none => .fail
    else .fail
  | as => dcallP c as
def dcall (env : Env) (f : FuncId) (args : List RV) : Cmd (DV × Eff) :=
  match env f with
  | some c => match c.ins with
    | .box t :: ts => dcallB c t ts args
    | .pt u :: ts => dcallL c u ts args
    | _ => dcallP c args
  | none => .fail

/-- how long an operand is -/
def dlen (P : Program) (T : Option TypeId) (v : RV) : Option Int :=
  match T.bind P.underlying, v with
  | some .string, .data ⟨.str, s⟩ => some (s.size : Int)
  | some (.array n _), _ => some (n : Int)
  | some (.slice _), .nilsl => some 0
  | some (.slice _), .data ⟨.sl _, xs⟩ => some (List.length xs : Int)
  | some (.slice _), .ref _ ⟨.own _, xs, true, _⟩ => some (List.length xs : Int)
  | some (.slice _), .rref _ p o => match get p o.t o.x with
    | some ⟨.own _, xs⟩ => some (List.length xs : Int)
    | _ => none
  | _, _ => none
/-- what is appended -/
def elemsAs (t : Ty) : RV → Option (List t.den)
  | .nilsl => some []
  | v => match v.elems with
    | some ⟨t', ys⟩ => if h : t' = t then some (h ▸ ys) else none
    | none => none
def dappend (P : Program) (ts : Array TypeId) (sh : Bool) (s v : RV) : Cmd (DV × Eff) :=
  match ts[0]?, ts[1]? with
  | some T, some T1 => if T1 = T then match P.underlying T with
    | some (.slice e) =>
      match bytesP P e, zeroP P e with
      | some by_, some z =>
        if sized P e z.t && z.t.size != 0 then
        match elemsAs z.t v with
        | some ys => match s with
          | .nilsl => .guard (roomOk (List.length ys) by_) (.ret (.ref 0, .new ⟨.own z.t, ys, true, 0⟩))
          | .ref k ⟨.own t', xs, true, f⟩ => if k = pinKey then .fail else if h : t' = z.t then (if sh then .guard (roomOk (List.length xs + List.length ys) by_) (.ret (.data ⟨.sl z.t, (h ▸ xs) ++ ys⟩, .chg [(k, ⟨.sl t', xs, true, 0⟩)] []))
            else .guard (roomOk (List.length xs + List.length ys) by_) (.ret (.ref k, .app k ⟨.own z.t, (h ▸ xs) ++ ys, true, f⟩))) else .fail
          | _ => .fail
        | none => .fail
        else .fail
      | _, _ => .fail
    | _ => .fail
    else .fail
  | _, _ => .fail
def dcopy (P : Program) (T : Option TypeId) (s v : RV) : Cmd (DV × Eff) :=
  match s with
  | .asl k p o => match T.bind P.underlying with
    | some (.slice e) => match get p o.t o.x with
      | some ⟨.arr n t, xs⟩ => match elemsAs t v with
        | some ys =>
          if sized P e t && t.pure then
            match set p o.t o.x ⟨.arr n t, ys.take n ++ xs.drop (List.length (ys.take n))⟩ with
            | some x' => if o.vir then .fail else .ret (.data ⟨.int .i64, (min (List.length ys) n : Nat)⟩, .upd [(k, { o with x := x' })])
            | none => .fail
          else .fail
        | none => .fail
      | _ => .fail
    | _ => .fail
  | _ => .fail
def iminmax (mx : Bool) (x y : Int) : Int := if mx then (if y > x then y else x) else (if y < x then y else x)
def dminmax (mx : Bool) : RV → RV → Cmd (DV × Eff)
  | .data ⟨.int k, x⟩, .data ⟨.int k', y⟩ => if k = k' then .ret (.data ⟨.int k, iminmax mx x y⟩, .none) else .fail
  | _, _ => .fail
def dbuiltin (P : Program) (sh : Bool) (b : Builtin) (ts : Array TypeId) (args : List RV) : Cmd (DV × Eff) :=
  match args with
  | [x] => match b with
    | .len => match dlen P ts[0]? x with
      | some n => .ret (.data ⟨.int .i64, n⟩, .none)
      | none => .fail
    | _ => .fail
  | [x, y] => match b with
    | .append => dappend P ts sh x y
    | .copy => dcopy P ts[0]? x y
    | .min => dminmax false x y
    | .max => dminmax true x y
    | _ => .fail
  | _ => .fail

/-- are the cells those of a type's zero? (those behind them) -/
def zeroCells? : Ty → List Value → Option (List Value)
  | .int k, cs => match cs with
    | .int k' n :: r => if k = k' ∧ n = 0 then some r else none
    | _ => none
  | .bool, cs => match cs with
    | .bool b :: r => if b then none else some r
    | _ => none
  | .unit, r => some r
  | .pair a b, cs => (zeroCells? a cs).bind (zeroCells? b)
  | .own _, cs => match cs with
    | .slice none 0 0 :: r => some r
    | _ => none
  | .sl _, cs => match cs with
    | .slice none 0 0 :: r => some r
    | _ => none
  | _, _ => none
/-- the parts of a struct that is built of rows; the rows -/
def partsOwn (U : Ty) : List (Nat × RV) → Option (List (Nat × DVal) × List Nat)
  | [] => some ([], [])
  | (i, .ref k ⟨.own u, xs, true, z⟩) :: r => match fieldAt i U, partsOwn U r with
    | some (_, t), some (ds, ks) => if t = .own u ∧ z = 0 then some ((i, ⟨.own u, xs⟩) :: ds, k :: ks) else none
    | _, _ => none
  | (i, .data d) :: r => match fieldAt i U, partsOwn U r with
    | some (_, t), some (ds, ks) => if t = d.t ∧ d.t.pure = true then some ((i, d) :: ds, ks) else none
    | _, _ => none
  | _ => none
def dbuildO (P : Program) (T : TypeId) (U : Ty) (parts : List (Nat × RV)) : Cmd (DV × Eff) :=
  match P.info? T, P.underlying T, U with
  | some i, some (.struct fs), .pair a b => match i.zero with
    | some z => match zeroCells? (.pair a b) z.cells.toList, partsOwn (.pair a b) parts with
      | some [], some (ds, ks) => if ds.all (fun p => fieldOk P T p.1 (.pair a b)) && fs.toList.all (fun f => (P.info? f.type).isSome) && decide ks.Nodup then
          match place false ds (.pair a b) (Ty.pair a b).dflt with
          | some x => .ret (.ref 0, .mk ⟨.pair a b, x, true, 0⟩ ks)
          | none => .fail
        else .fail
      | _, _ => .fail
    | none => .fail
  | _, _, _ => .fail

def bndOf (rv : Operand → RV) : Option Operand → Nat → Option Int
  | none, d => some (d : Int)
  | some y, _ => match rv y with
    | .data ⟨.int _, n⟩ => some n
    | _ => none

/-- a pointer that isn't nil, against nil -/
def nilEq (P : Program) (op : BinOp) (T : TypeId) (y : Operand) : Cmd (DV × Eff) :=
  match y, P.underlying T, op with
  | .const (.pointer none), some (.pointer _), .eql => .ret (.data ⟨.bool, false⟩, .none)
  | .const (.pointer none), some (.pointer _), .neq => .ret (.data ⟨.bool, true⟩, .none)
  | _, _, _ => .fail
def dop (P : Program) (C : Cfg) (env : Env) (o : Oper) (rv : Operand → RV) : Cmd (DV × Eff) :=
  match o.op with
  | .move x | .assign x => .ret ((rv x).dv, .none)
  | .pick c a b => match rv c with
    | .data ⟨.bool, true⟩ => .ret ((rv a).dv, .none)
    | .data ⟨.bool, false⟩ => .ret ((rv b).dv, .none)
    | _ => .fail
  | .box _ v => match rv v with
    | .ref k ⟨.pair a b, x, true, _⟩ => .ret (.ref 0, .mk ⟨.box (.pair a b), x, true, 0⟩ [k])
    | v => match v.datum with
    | some (d, l) => if l.isEmpty && d.t.pure then .ret (.ptr 0 [], .new ⟨d.t, d.x, false, 0⟩) else .fail
    | none => .fail
  | .alloc T => match zeroP P T with
    | some d => .ret (.ptr 0 [], .new ⟨d.t, d.x, false, 0⟩)
    | none => .fail
  | .load T a => match rv a with
    | .rop d => if fits P T d.t then .ret (.data d, .none) else .fail
    | .ptr k p o => match get p o.t o.x with
      | some d => if fits P T d.t && d.t.pure then .ret (.data d, .none) else if fits P T d.t && d.t.isOwn then .ret (.rref k p, .none) else .fail
      | none => .fail
    | _ => .fail
  | .store T a v => match rv a with
    | .ptr k p o => match get p o.t o.x with
      | some d => if sized P T d.t && d.t.pure then
          match (rv v).datumAs d.t with
          | some (e, []) => match set p o.t o.x e with
            | some x' => match o.vir, p with
              | true, .idx i :: _ => .guard (decide (o.fz ≤ i)) (.ret (.und, .upd [(k, { o with x := x' })]))
              | true, .de :: _ => .ret (.und, .upd [(k, { o with x := x' })])
              | false, _ => .ret (.und, .upd [(k, { o with x := x' })])
              | _, _ => .fail
            | none => .fail
          | _ => .fail
        else .fail
      | none => .fail
    | _ => .fail
  | .nilCheck x => match rv x with
    | .ptr k p _ => .ret (.ptr k p, .none)
    | .rop d => .ret (.rop d, .none)
    | .ref k ⟨.box _, _, true, _⟩ => .ret (.ref k, .none)
    | _ => .fail
  | .binOp op T x y _ => match rv x, rv y with
    | .data a, .data b => (binop P op T a b).map fun d => (.data d, .none)
    | .ref _ ⟨.box _, _, true, _⟩, .any => nilEq P op T y
    | .rop _, .any => nilEq P op T y
    | _, _ => .fail
  | .unOp op _ x => match rv x with
    | .data a => (unop op a).map fun d => (.data d, .none)
    | _ => .fail
  | .convert src dst x => match P.underlying src, P.underlying dst, rv x with
    | some _, some (.int k), .data ⟨.int _, n⟩ => .ret (.data ⟨.int k, k.wrap n⟩, .none)
    | some _, some .string, .data ⟨.str, s⟩ => .ret (.data ⟨.str, s⟩, .none)
    | some (.slice e), some .string, v => match P.underlying e, v with
      | some (.int .u8), .nilsl => .ret (.data ⟨.str, ByteArray.empty⟩, .none)
      | some (.int .u8), v => match v.elems with
        | some ⟨.int .u8, xs⟩ => .ret (.data ⟨.str, bytesOf xs⟩, .none)
        | _ => .fail
      | _, _ => .fail
    | _, _, _ => .fail
  | .build T parts => match C.owns.find? (fun p => p.1 == o.dst.getD 0) with
    | some (_, U) => dbuildO P T U (parts.toList.map fun (i, x) => (i, rv x))
    | none => match zeroP P T with
    | some z =>
      match P.underlying T with
      | some (.struct fs) =>
        match partsAs (fun i => (fieldAt i z.t).map (·.2)) (parts.toList.map fun (i, x) => (i, rv x)) with
        | some (ds, l) =>
          if ds.all (fun p => fieldOk P T p.1 z.t) && z.t.isAgg && fs.toList.all (fun f => (P.info? f.type).isSome) then
          match place false ds z.t z.x with
          | some x => .ret (.data ⟨z.t, x⟩, .upd l)
          | none => .fail
          else .fail
        | none => .fail
      | some (.array _ e) => match z.t, z.x with
        | .arr n t, zx =>
          match partsAs (fun i => if i < n then some t else none) (parts.toList.map fun (i, x) => (i, rv x)) with
          | some (ds, l) => if sized P e t then
            match place true ds (.arr n t) zx with
            | some x => .ret (.data ⟨.arr n t, x⟩, .upd l)
            | none => .fail
            else .fail
          | none => .fail
        | _, _ => .fail
      | _ => .fail
    | none => .fail
  | .buildSlice T n parts => match P.underlying T with
    | some (.slice e) => match zeroP P e with
      | some z =>
        match partsAs (fun i => if i < n then some z.t else none) (parts.toList.map fun (i, x) => (i, rv x)) with
        | some (ds, l) => if sized P e z.t && z.t.size != 0 && decide (n * z.t.size ≤ 16777216) then
          match place true ds (.arr n z.t) (List.replicate n z.x) with
          | some xs => if C.rows.contains (o.dst.getD 0) then (if l.isEmpty then .ret (.ref 0, .new ⟨.own z.t, xs, true, 0⟩) else .fail)
            else .ret (.data ⟨.sl z.t, xs⟩, .upd l)
          | none => .fail
          else .fail
        | none => .fail
      | none => .fail
    | _ => .fail
  | .makeSlice T l c => match P.underlying T with
    | some (.slice e) => match zeroP P e, bytesP P e, rv l, rv c with
      | some z, some by_, .data ⟨.int .i64, n⟩, .data ⟨.int .i64, m⟩ =>
        if sized P e z.t && z.t.size != 0 then
          .guard (decide (0 ≤ n) && decide (n ≤ m) && decide (m ≤ 9223372036854775807) && decide (m * by_ ≤ 140737488355328)) (.ret (.ref 0, .new ⟨.own z.t, List.replicate n.toNat z.x, true, 0⟩))
        else .fail
      | _, _, _, _ => .fail
    | _ => .fail
  | .slice T x lo hi mx => match mx with
    | some _ => .fail
    | none =>
      match P.underlying T, rv x with
      | some (.array n e), .ptr k p o => match lo, hi, get p o.t o.x with
        | none, none, some ⟨.arr m t, _⟩ => if m = n && sized P e t then .ret (.asl k p, .none) else .fail
        | _, _, _ => .fail
      | some .string, .data ⟨.str, s⟩ =>
        match bndOf rv lo 0, bndOf rv hi s.size with
        | some l, some h => .guard (decide (0 ≤ l) && decide (l ≤ h) && decide (h ≤ s.size)) (.ret (.data ⟨.str, s.extract l.toNat h.toNat⟩, .none))
        | _, _ => .fail
      | some (.slice e), v => match v.datum with
        | some (⟨.sl t, xs⟩, fz) =>
          if sized P e t then
          match bndOf rv lo 0, bndOf rv hi (List.length xs) with
          | some l, some h => .guard (decide (0 ≤ l) && decide (l ≤ h) && decide (h ≤ (List.length xs : Int))) (.ret (.data ⟨.sl t, (xs.drop l.toNat).take (h.toNat - l.toNat)⟩, .upd fz))
          | _, _ => .fail
          else .fail
        | _ => .fail
      | _, _ => .fail
  | .fieldAddr T x i => match rv x with
    | .ptr k p o => match get p o.t o.x with
      | some d => if fieldOk P T i d.t then .ret (.ptr k (p ++ fieldSteps i), .none) else .fail
      | none => .fail
    | .rop d => if fieldOk P T i d.t then match get (fieldSteps i) d.t d.x with
        | some e => .ret (.rop e, .none)
        | none => .fail
      else .fail
    | .ref k ⟨.box t, _, true, _⟩ => if fieldOk P T i t then .ret (.ptr k (.de :: fieldSteps i), .none) else .fail
    | _ => .fail
  | .field T x i => match rv x with
    | .data d => if fieldOk P T i d.t then match get (fieldSteps i) d.t d.x with
        | some e => .ret (.data e, .none)
        | none => .fail
      else .fail
    | _ => .fail
  | .indexAddr T x y => match rv y with
    | .data ⟨.int _, i⟩ => match P.underlying T, rv x with
      | some (.array n e), .ptr k p o => match get p o.t o.x with
        | some ⟨.arr m t, _⟩ => if m = n && sized P e t then .guard (decide (0 ≤ i) && decide (i < (n : Int))) (.ret (.ptr k (p ++ [.idx i.toNat]), .none)) else .fail
        | _ => .fail
      | some (.array n e), .rop ⟨.arr m t, xs⟩ => if m = n && sized P e t then .guard (decide (0 ≤ i) && decide (i < (n : Int))) (.ret (.rop ⟨t, List.getD xs i.toNat t.dflt⟩, .none)) else .fail
      | some (.slice e), .data ⟨.sl t, xs⟩ => if sized P e t then .guard (decide (0 ≤ i) && decide (i < (List.length xs : Int))) (.ret (.rop ⟨t, List.getD xs i.toNat t.dflt⟩, .none)) else .fail
      | some (.slice e), .ref k ⟨.own t, xs, true, _⟩ => if sized P e t then .guard (decide (0 ≤ i) && decide (i < (List.length xs : Int))) (.ret (.ptr k [.idx i.toNat], .none)) else .fail
      | some (.slice e), .rref k p o => match get p o.t o.x with
        | some ⟨.own t, xs⟩ => if sized P e t then .guard (decide (0 ≤ i) && decide (i < (List.length xs : Int))) (.ret (.ptr k (p ++ [.idx i.toNat]), .none)) else .fail
        | _ => .fail
      | _, _ => .fail
    | _ => .fail
  | .index T x y => match rv y with
    | .data ⟨.int _, i⟩ => match P.underlying T, rv x with
      | some (.array n e), .data ⟨.arr m t, xs⟩ => if m = n && fits P e t then .guard (decide (0 ≤ i) && decide (i < (n : Int))) (.ret (.data ⟨t, List.getD xs i.toNat t.dflt⟩, .none)) else .fail
      | some .string, .data ⟨.str, s⟩ => .guard (decide (0 ≤ i) && decide (i < (s.size : Int))) (.ret (.data ⟨.int .u8, (ofBytes s).getD i.toNat 0⟩, .none))
      | _, _ => .fail
    | _ => .fail
  | .extract x i => match rv x with
    | .tup l => match l[i]? with
      | some d => .ret (.data d, .none)
      | none => .fail
    | _ => .fail
  | .call { callee := .value (.func f), args, .. } => dcall env f (args.toList.map rv)
  | .call { callee := .builtin b, args, argTypes } => dbuiltin P (C.share.contains (o.dst.getD 0)) b argTypes (args.toList.map rv)
  | _ => .fail

/-! ### Steps -/
/-- after the row k has grown: what spoke of its old self is forgotten -/
def forget (k : Nat) : DV → DV
  | .ptr j p => if j = k then .any else .ptr j p
  | .asl j p => if j = k then .any else .asl j p
  | .ref j => if j = k then .any else .ref j
  | .rref j p => if j = k then .any else .rref j p
  | d => d
/-- what spoke of the objects ks is forgotten -/
def forgets (ks : List Nat) (d : DV) : DV := match d with
  | .ptr j p => if ks.contains j then .any else .ptr j p
  | .asl j p => if ks.contains j then .any else .asl j p
  | .ref j => if ks.contains j then .any else .ref j
  | .rref j p => if ks.contains j then .any else .rref j p
  | d => d
/-- an object that is gone -/
def deadObj : DObj := ⟨.unit, (), true, 0⟩
/-- what spoke of the insides of the objects ks is forgotten -/
def dim (ks : List Nat) : DV → DV
  | .ptr j p => if ks.contains j then .any else .ptr j p
  | .asl j p => if ks.contains j then .any else .asl j p
  | .rref j p => if ks.contains j then .any else .rref j p
  | d => d
def putAll : List (Nat × DObj) → St → St
  | [], st => st
  | (k, o) :: r, st => putAll r (st.put k o)
/-- the value with its key -/
def keyed (k : Nat) : DV → DV
  | .ptr _ p => .ptr k p
  | .ref _ => .ref k
  | d => d
def setFr (fr : List DV) : Option Tmp → DV → List DV
  | some d, v => fr.set d v
  | none, _ => fr
def apply (dst : Option Tmp) (s : S) : DV × Eff → Option S
  | (v, .none) => some ⟨setFr s.fr dst v, s.st⟩
  | (v, .upd l) => some ⟨setFr s.fr dst v, putAll l s.st⟩
  | (v, .new o) => match dst with
    | some d => if d = pinKey then none else some ⟨(s.fr.map (forget d)).set d (keyed d v), s.st.put d o⟩
    | none => none
  | (v, .app k o) => some ⟨setFr (s.fr.map (forget k)) dst v, s.st.put k o⟩
  | (v, .mk o ks) => match dst with
    | some d => if d = pinKey || ks.contains d then none else some ⟨(s.fr.map (forgets (d :: ks))).set d (keyed d v), (putAll (ks.map fun k => (k, deadObj)) s.st).put d o⟩
    | none => none
  | (v, .chg b l) => some ⟨setFr (s.fr.map (dim (b.map (·.1)))) dst v, putAll (l ++ b) s.st⟩

/-- the operands' keys, the keys that are written -/
def DV.keys : DV → List Nat
  | .ptr k _ | .asl k _ | .ref k | .rref k _ => [k]
  | _ => []
def touched (o : Oper) (fr : List DV) : List Nat := o.op.operands.toList.flatMap fun x => (dval fr x).keys
/-- the value as it lies in the frame -/
def landed (dst : Option Tmp) : DV × Eff → DV
  | (v, .new _) | (v, .mk _ _) => keyed (dst.getD 0) v
  | (v, _) => v
def written (dst : Option Tmp) : Eff → List Nat
  | .none => []
  | .upd l => l.map (·.1)
  | .new _ => dst.toList
  | .app k _ => [k]
  | .chg b l => (l ++ b).map (·.1)
  | .mk _ ks => ks ++ dst.toList

/-- the objects of which everything is forgotten -/
def whole (dst : Option Tmp) : Eff → List Nat
  | .new _ => dst.toList
  | .app k _ => [k]
  | .mk _ ks => ks ++ dst.toList
  | _ => []
/-- an operation that hands on an object's name, and doesn't look at it -/
def nameOf (o : Oper) (fr : List DV) : Option Nat :=
  match o.op with
  | .move x | .assign x => match dval fr x with | .ref k => some k | _ => none
  | _ => none

/-- of an operation that was done: its place, the keys that it touched, that it wrote, that it named, of which it forgot all -/
structure Did where
  i : Nat
  t : List Nat
  w : List Nat
  n : List Nat := []
  g : List Nat := []
def didOf (i : Nat) (o : Oper) (fr : List DV) (ve : DV × Eff) : Did :=
  match nameOf o fr with
  | some k => ⟨i, [], written o.dst ve.2, [k], whole o.dst ve.2⟩
  | none => ⟨i, touched o fr ++ (landed o.dst ve).keys, written o.dst ve.2, [], whole o.dst ve.2⟩
def apartK (a b : List Nat) : Bool := a.all fun k => !b.contains k
/-- may the two be done in either order? -/
def Did.free (a b : Did) : Bool := apartK a.w (b.t ++ b.w) && apartK b.w (a.t ++ a.w) && apartK a.g b.n && apartK b.g a.n

section
variable {R : Type} (P : Program) (C : Cfg) (env : Env) (ops : Array Oper)
/-- is it done? (true: yes; the frame, in which the guard's value is known) -/
def wantK (o : Oper) (s : S) (K : Bool → S → Option R) : Option R :=
  match o.guard with
  | none => K true s
  | some (j, want) => match (ops[j]?).bind (·.dst) with
    | some d => match s.fr.getD d .any with
      | .data ⟨.bool, b⟩ => bif b then K want ⟨s.fr.set d (.data ⟨.bool, true⟩), s.st⟩ else K (!want) ⟨s.fr.set d (.data ⟨.bool, false⟩), s.st⟩
      | .und => K false s
      | _ => none
    | none => none
/-- a list, laid out -/
noncomputable def force {α β : Type} (l : List α) : (List α → β) → β := List.rec (fun k => k []) (fun x _ ih k => ih fun l' => k (x :: l')) l
noncomputable def forceS {β : Type} (s : S) (k : S → β) : β := k s
noncomputable def stepK (i : Nat) (o : Oper) (s : S) (K : Did → S → Option R) : Option R :=
  wantK ops o s fun yes s =>
    if yes then
      let rv := fun x => resolve s.st (dval s.fr x)
      (dop P C env o rv).run fun (v, e) => match apply o.dst s (v, e) with
        | some s' => forceS s' fun s' => K (didOf i o s.fr (v, e)) s'
        | none => none
    else forceS ⟨setFr s.fr o.dst .und, s.st⟩ fun s' => K ⟨i, touched o s.fr, [], [], []⟩ s'
/-- one after another -/
noncomputable def opsK : Nat → List Oper → S → (S → Option R) → Option R
  | _, [], s, K => K s
  | i, o :: r, s, K => stepK P C env ops i o s fun _ s' => opsK (i + 1) r s' K
/-- the masks of what must be done before each -/
def bits : List Edge → Array Nat → Nat
  | [], _ => 0
  | e :: r, acc => if Region.binds .any e then 2 ^ e.on ||| acc.getD e.on 0 ||| bits r acc else bits r acc
def masks : List Oper → Array Nat → Array Nat
  | [], acc => acc
  | o :: r, acc => masks r (acc.push (bits o.after.toList acc))
/-- nothing that it looks at has been lost -/
def known (o : Oper) (fr : List DV) : Bool := o.op.operands.toList.all fun
  | .tmp t => match fr.getD t .any with | .any => false | _ => true
  | _ => true
/-- those that are done in any order: each that isn't bound to come behind must be free of this one -/
noncomputable def drawK (bf : Array Nat) : Nat → List Oper → List Did → S → (S → Option R) → Option R
  | _, [], _, s, K => K s
  | i, o :: r, log, s, K =>
    if known o s.fr && o.after.toList.all (fun e => !Region.binds .any e || decide (e.on < i)) then
    stepK P C env ops i o s fun d s' =>
    if log.all (fun e => (bf.getD i 0).testBit e.i || (e.free d && match ops[e.i]? with | some p => Oper.apart ops p o | none => false)) then drawK bf (i + 1) r (d :: log) s' K else none
    else none
end

inductive Ex where
  | normal | ret | exit (id : Nat)

def keepFr (ks ko : List Nat) : Nat → List DV → List DV
  | _, [] => []
  | i, d :: r => (if ks.contains i then (match d with
      | .ptr k p => if ko.contains k then .ptr k p else .any
      | .asl k p => if ko.contains k then .asl k p else .any
      | .ref k => if ko.contains k then .ref k else .any
      | .rref k p => if ko.contains k then .rref k p else .any
      | d => d) else .any) :: keepFr ks ko (i + 1) r
def adopt1 (s : S) (slot key : Nat) (t : Ty) : S :=
  match s.fr.getD slot .any, s.st.get key with
  | .nilsl, none => if t.pure && key != pinKey then ⟨s.fr.set slot (.ref key), s.st.put key ⟨.own t, [], true, 0⟩⟩ else s
  | _, _ => s
def adopts (id : Nat) : List (Nat × Nat × Nat × Ty) → S → S
  | [], s => s
  | (i, slot, key, t) :: r, s => if i = id then adopts id r (adopt1 s slot key t) else adopts id r s
def trim (C : Cfg) (id : Nat) (s : S) : S :=
  adopts id C.adopt (match C.keep.find? (fun e => e.1 == id) with
  | some (_, ks, ko) => ⟨keepFr ks ko 0 s.fr, s.st.keep ko⟩
  | none => s)

def rounds {R : Type} (tr : S → S) (B : S → (Ex → S → Option R) → Option R) : Nat → S → (Ex → S → Option R) → Option R
  | 0, _, _ => none
  | n + 1, s, K => B s fun e s' => match e with
    | .normal => rounds tr B n (tr s') K
    | e => K e s'

/-- what is known of a loop: where it comes to -/
abbrev Sum := S → (Ex → S → Option (List DVal)) → Option (List DVal)
/-- the number of the first region -/
def tagOf : Code → Option Nat
  | .region rid _ _ => some rid
  | .seq a b => match tagOf a with
    | some n => some n
    | none => tagOf b
  | .cond _ a b => match tagOf a with
    | some n => some n
    | none => tagOf b
  | .block _ c => tagOf c
  | .loop c => tagOf c
  | _ => none
/-- what is known of a condition, by its number -/
def condL (L : Nat → Option Sum) : Option Nat → Option Sum
  | some n => L (3000000 + n)
  | none => none
noncomputable def exec (P : Program) (C : Cfg) (env : Env) (L : Nat → Option Sum) : Nat → Code → S → (Ex → S → Option (List DVal)) → Option (List DVal)
  | _, .skip, s, K => K .normal s
  | _, .region rid ops draw, s, K => match L (2000000 + rid) with
    | some f => f (trim C (2000000 + rid) s) K
    | none => if draw then drawK P C env ops (masks ops.toList #[]) 0 ops.toList [] s fun s' => K .normal s'
      else opsK P C env ops 0 ops.toList s fun s' => K .normal s'
  | id, .seq a b, s, K => exec P C env L id a s fun e s' => match e with
    | .normal => exec P C env L id b s' K
    | e => K e s'
  | id, .cond c a b, s, K => match condL L (tagOf (.cond c a b)) with
    | some f => f (trim C (3000000 + (tagOf (.cond c a b)).getD 0) s) K
    | none => match dval s.fr c with
      | .data ⟨.bool, t⟩ => bif t then exec P C env L id a s K else exec P C env L id b s K
      | _ => none
  | _, .block id c, s, K => match L (4000000 + id) with
    | some f => f (trim C (4000000 + id) s) K
    | none => exec P C env L id c s fun e s' => match e with
      | .exit i => if i = id then K .normal s' else K (.exit i) s'
      | e => K e s'
  | id, .loop _, s, K => match L id with
    | some f => f (trim C id s) K
    | none => none
  | _, .exit i, s, K => K (.exit i) s
  | _, .ret, s, K => K .ret s
  | _, _, _, _ => none
/-- a place itself, whatever is known of it -/
noncomputable def exec1 (P : Program) (C : Cfg) (env : Env) (L : Nat → Option Sum) (id : Nat) (c : Code) (s : S) (K : Ex → S → Option (List DVal)) : Option (List DVal) :=
  match c with
  | .region _ ops draw => if draw then drawK P C env ops (masks ops.toList #[]) 0 ops.toList [] s fun s' => K .normal s'
      else opsK P C env ops 0 ops.toList s fun s' => K .normal s'
  | .cond c a b => match dval s.fr c with
      | .data ⟨.bool, t⟩ => bif t then exec P C env L id a s K else exec P C env L id b s K
      | _ => none
  | .block id c => exec P C env L id c s fun e s' => match e with
      | .exit i => if i = id then K .normal s' else K (.exit i) s'
      | e => K e s'
  | _ => none
/-- the places of which something may be known: number, block, code -/
def spotsIn : Nat → Code → List (Nat × Nat × Code)
  | id, .seq a b => spotsIn id a ++ spotsIn id b
  | id, .cond c a b => (match tagOf (.cond c a b) with | some n => [(3000000 + n, id, .cond c a b)] | none => []) ++ (spotsIn id a ++ spotsIn id b)
  | id, .block bid c => (4000000 + bid, id, .block bid c) :: spotsIn bid c
  | id, .loop c => spotsIn id c
  | id, .region rid ops draw => [(2000000 + rid, id, .region rid ops draw)]
  | _, _ => []
/-- the loops of a code, each with its block's number -/
def loopsIn : Nat → Code → List (Nat × Code)
  | id, .seq a b => loopsIn id a ++ loopsIn id b
  | id, .cond _ a b => loopsIn id a ++ loopsIn id b
  | _, .block id c => loopsIn id c
  | id, .loop c => (id, c) :: loopsIn id c
  | _, _ => []

/-- the results, as data -/
def resultsD (P : Program) (s : S) : List ResultVar → List TypeId → Option (List DVal)
  | [], [] => some []
  | .tmp t :: r, T :: ts => match tyOf P 20 T with
    | some u => match (resolve s.st (s.fr.getD t .any)).datumAs u, resultsD P s r ts with
      | some (d, _), some l => some (d :: l)
      | _, _ => none
    | none => none
  | .cell a T :: r, _ :: ts => match resolve s.st (s.fr.getD a .any) with
    | .ptr _ p o => match get p o.t o.x, resultsD P s r ts with
      | some d, some l => if fits P T d.t && d.t.pure then some (d :: l) else none
      | _, _ => none
    | _ => none
  | _, _ => none

/-- what is handed in, as it stands in the frame, in the store -/
def argDV : DVal → DV
  | ⟨.pt t, x⟩ => .rop ⟨t, x⟩
  | d => .data d
def argFr : List DVal → List DV
  | ⟨.box _, _⟩ :: r => .ref pinKey :: r.map argDV
  | r => r.map argDV
def argSt : List DVal → St
  | ⟨.box t, x⟩ :: _ => [(pinKey, ⟨.box t, x, true, 0⟩)]
  | _ => []
/-- the results: a new object, or data -/
def outR (P : Program) (own : Bool) (fn : Func) (s : S) : Option (List DVal) :=
  match fn.results.toList with
  | [.tmp t] => match resolve s.st (s.fr.getD t .any) with
    | .ref _ ⟨.box u, x, true, _⟩ => some [⟨.box u, x⟩]
    | .ref _ ⟨.own u, x, true, 0⟩ => if own then some [⟨.own u, x⟩] else resultsD P s fn.results.toList fn.resultTypes.toList
    | _ => resultsD P s fn.results.toList fn.resultTypes.toList
  | _ => resultsD P s fn.results.toList fn.resultTypes.toList
/-- what was handed in comes back first -/
def outD (P : Program) (own : Bool) (fn : Func) (s : S) : List DVal → Option (List DVal)
  | ⟨.box t, _⟩ :: _ => match s.st.get pinKey with
    | some ⟨.box t2, x2, true, _⟩ => if t2 = t then (resultsD P s fn.results.toList fn.resultTypes.toList).map (⟨.box t2, x2⟩ :: ·) else none
    | _ => none
  | _ => outR P own fn s
/-- what a function answers -/
noncomputable def body (P : Program) (C : Cfg) (env : Env) (L : Nat → Option Sum) (fn : Func) (args : List DVal) : Option (List DVal) :=
  match fn.body with
  | some c => exec P C env L 0 c ⟨argFr args ++ List.replicate (fn.ntmps - args.length) .und, argSt args⟩ fun e s => match e with
    | .exit _ => none
    | _ => outD P C.ownR fn s args
  | none => none
end Go.D
