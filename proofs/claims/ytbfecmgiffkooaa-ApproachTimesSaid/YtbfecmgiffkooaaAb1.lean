/- The abstract machine: values, shared objects, and what the operations of a region do to them; conditions: none. -/
import GoSem.Step
namespace Go.Ab
set_option linter.unusedVariables false
set_option linter.unusedSimpArgs false

/-- What is known of a slice's place: it is nil; it has no capacity; nothing. -/
inductive Fl where
  | nil | cap0 | any

inductive V where
  | undef
  | skip
  | bool (b : Bool)
  | int (k : IntKind) (n : Int)
  | str (s : ByteArray)
  | nilp
  | ptr (id off : Nat)
  | rptr (row : List V) (off : Nat)
  | eptr (id len sz i off : Nat)
  | adr (slot off : Nat)
  | box (cells : List V)
  | slice (fl : Fl) (rows : List (List V))
  | arr (id len sz : Nat)
  | nilmap
  | map (id : Nat)
  | fn (f : Fn) (first cap : List V)
  | nilfn
  | iface (t : TypeId) (v : V)
  | nili
  | agg (cells : List V)
  | tuple (vs : List V)
  deriving Inhabited

inductive Ex where
  | normal
  | exit (id : Nat)
  | ret

/-- The record of a range over a function. -/
structure LoopA where
  st : LoopState
  pend : Option Ex
  t : List V
  fn : FuncId
  ps : List Nat
  assign : Code
  body : Code

inductive Ob where
  | cells (cs : List V)
  | arr (wr : Bool) (sz : Nat) (rows : List (List V))
  | loop (l : LoopA)
  | dead

structure St where
  t : List V
  h : List Ob

/-- What is told to the machine beside the program: which slots' variables are shared; which slots gather elements; which functions share their objects with the caller. -/
structure Cfg where
  P : Program
  esc : FuncId → List Nat
  acc : FuncId → List Nat
  sh : FuncId → Nat → Option (V × List Ob)

/-- What is known of callees: a call by value (its own objects end with it), a call that shares objects. -/
structure CallT where
  w : (St → Option (Ex × St)) → St → Option (Ex × St)
  p : Fn → List V → Option V
  s : Fn → List V → List Ob → Option (V × List Ob)

def nth : List V → Nat → V
  | [], _ => .undef
  | v :: _, 0 => v
  | _ :: l, n + 1 => nth l n

def upd : List V → Nat → V → List V
  | [], _, _ => []
  | _ :: l, 0, v => v :: l
  | x :: l, n + 1, v => x :: upd l n v

def hget : List Ob → Nat → Option Ob
  | [], _ => none
  | v :: _, 0 => some v
  | _ :: l, n + 1 => hget l n

def hset : List Ob → Nat → Ob → List Ob
  | [], _, _ => []
  | _ :: l, 0, v => v :: l
  | x :: l, n + 1, v => x :: hset l n v

def lmem (n : Nat) : List Nat → Bool
  | [] => false
  | m :: l => if Nat.beq n m then true else lmem n l

def takeL : Nat → List V → List V
  | 0, _ => []
  | _ + 1, [] => []
  | n + 1, v :: l => v :: takeL n l
def dropL : Nat → List V → List V
  | 0, l => l
  | _ + 1, [] => []
  | n + 1, _ :: l => dropL n l

def one : Value → Bool
  | .agg _ | .tuple _ => false
  | _ => true
/-- A constant as an abstract value. -/
def lift : Value → V
  | .bool b => .bool b
  | .int k n => .int k n
  | .string s => .str s
  | .pointer none => .nilp
  | .slice none 0 0 => .slice .nil []
  | .map none => .nilmap
  | .nilFunc => .nilfn
  | .nilIface => .nili
  | .func f ⟨[]⟩ ⟨[]⟩ => match f with
    | .func g => .fn (.func g) [] []
    | _ => .undef
  | _ => .undef
/-- A zero value's cells. -/
def liftCells : Value → List V
  | .agg ⟨cs⟩ => cs.map lift
  | v => [lift v]
def liftAgg : Value → V
  | .agg ⟨cs⟩ => match cs.all one with
    | true => .agg (cs.map lift)
    | false => .undef
  | v => lift v

def getV (s : St) : Operand → V
  | .tmp i => nth s.t i
  | .const v => liftAgg v
  | .func f => .fn (.func f) [] []
  | .global _ => .undef

/-- A copy: the address of a slot's own variable isn't handed on. -/
def view : V → V
  | .box _ => .undef
  | .adr _ _ => .undef
  | v => v

def killadr (i : Nat) : V → V
  | .adr j o => if Nat.beq i j then .undef else .adr j o
  | v => v

/-- Is a type's value an aggregate, and how many cells has it? -/
def typeSize (P : Program) (t : TypeId) : Option (Bool × Nat) :=
  match P.info? t with
  | none => none
  | some i => match P.underlying t with
    | some (.struct _) | some (.array ..) => some (true, i.size)
    | some _ => some (false, i.size)
    | none => none
def zeroCells (P : Program) (t : TypeId) : Option (List V) :=
  match P.info? t with
  | some i => match i.zero with
    | some z => match z.cells.toList.all one with
      | true => some (liftCells z)
      | false => none
    | none => none
  | none => none
/-- A field's offset. -/
def fieldAt (P : Program) (t : TypeId) (f : Nat) : Option (Nat × TypeId) :=
  match P.underlying t with
  | some (.struct fs) => match fs[f]? with
    | some x => some (x.offset, x.type)
    | none => none
  | _ => none
def sliceElem (P : Program) (t : TypeId) : Option (TypeId × Nat × Nat) :=
  match P.underlying t with
  | some (.slice e) => match P.info? e with
    | some i => some (e, i.size, i.bytes)
    | none => none
  | _ => none

/-- The shapes of a type's cells. -/
inductive Sh where
  | bool | int (k : IntKind) | str | slice | any
def shOf : TypeDesc → Sh
  | .bool => .bool
  | .int k => .int k
  | .string => .str
  | .slice _ => .slice
  | _ => .any
def leafs (P : Program) : Nat → TypeId → List Sh
  | 0, _ => []
  | d + 1, t => match P.underlying t with
    | some (.struct fs) => fs.toList.flatMap fun f => leafs P d f.type
    | some (.array n e) => (List.replicate n (leafs P d e)).flatten
    | some u => [shOf u]
    | none => []

def asInt (k : IntKind) : V → Option Int
  | .int k' n => if k' = k then some n else none
  | _ => none
def asBool : V → Option Bool
  | .bool b => some b
  | _ => none
def asStr : V → Option ByteArray
  | .str s => some s
  | _ => none
def asRows : V → Option (List (List V))
  | .slice _ rows => some rows
  | _ => none
def asCells : V → Option (List V)
  | .agg cs => some cs
  | _ => none
def asTuple : V → Option (List V)
  | .tuple cs => some cs
  | _ => none
def isNil : List V → Option Unit
  | [] => some ()
  | _ => none
def uncons : List V → Option (V × List V)
  | [] => none
  | v :: l => some (v, l)

variable {R : Type}

/-- A value under its shape: its parts become visible. -/
def shK (sh : Sh) (v : V) (k : V → Option R) : Option R :=
  match sh with
  | .bool => (asBool v).bind fun b => k (.bool b)
  | .int q => (asInt q v).bind fun n => k (.int q n)
  | .str => (asStr v).bind fun s => k (.str s)
  | .slice => (asRows v).bind fun r => k (.slice .any r)
  | .any => k v
def shsK : List Sh → List V → (List V → Option R) → Option R
  | [], vs, k => (isNil vs).bind fun _ => k []
  | sh :: l, vs, k => (uncons vs).bind fun p => shK sh p.1 fun v => shsK l p.2 fun vs => k (v :: vs)
/-- A value of type t. -/
def shapeK (P : Program) (t : TypeId) (v : V) (k : V → Option R) : Option R :=
  match P.underlying t with
  | some (.struct _) | some (.array ..) => (asCells v).bind fun cs => shsK (leafs P 8 t) cs fun cs => k (.agg cs)
  | some u => shK (shOf u) v k
  | none => k v
def shapesK (P : Program) : List TypeId → List V → (List V → Option R) → Option R
  | [], vs, k => (isNil vs).bind fun _ => k []
  | t :: l, vs, k => (uncons vs).bind fun p => shapeK P t p.1 fun v => shapesK P l p.2 fun vs => k (v :: vs)
/-- A call's result of type t. -/
def resultK (P : Program) (t : TypeId) (v : V) (k : V → Option R) : Option R :=
  match P.underlying t with
  | some (.tuple ts) => (asTuple v).bind fun vs => shapesK P ts.toList vs fun vs => k (.tuple vs)
  | _ => shapeK P t v k

def asBox : V → Option (List V)
  | .box cs => some cs
  | _ => none
def fnEq : Fn → Fn → Bool
  | .func a, .func b => Nat.beq a b
  | .yield a, .yield b => Nat.beq a b
  | _, _ => false
def asFn (g : Fn) : V → Option (List V × List V)
  | .fn g' a b => match fnEq g g' with
    | true => some (a, b)
    | false => none
  | _ => none
def asArr (id sz : Nat) : V → Option Nat
  | .arr id' len sz' => match Nat.beq id id' && Nat.beq sz sz' with
    | true => some len
    | false => none
  | _ => none
def asPtr (id off : Nat) : V → Option Unit
  | .ptr id' off' => match Nat.beq id id' && Nat.beq off off' with
    | true => some ()
    | false => none
  | _ => none
def asAdr (j off : Nat) : V → Option Unit
  | .adr j' off' => match Nat.beq j j' && Nat.beq off off' with
    | true => some ()
    | false => none
  | _ => none
mutual
/-- A value of another's shape. -/
def likeK : V → V → (V → Option R) → Option R
  | .int q _, v, k => (asInt q v).bind fun n => k (.int q n)
  | .bool _, v, k => (asBool v).bind fun b => k (.bool b)
  | .str _, v, k => (asStr v).bind fun s => k (.str s)
  | .slice _ _, v, k => (asRows v).bind fun r => k (.slice .any r)
  | .agg cs0, v, k => (asCells v).bind fun cs => likesK cs0 cs fun cs => k (.agg cs)
  | .box cs0, v, k => (asBox v).bind fun cs => likesK cs0 cs fun cs => k (.box cs)
  | .fn g a0 b0, v, k => (asFn g v).bind fun p => likesK a0 p.1 fun a => likesK b0 p.2 fun b => k (.fn g a b)
  | .arr id _ sz, v, k => (asArr id sz v).bind fun n => k (.arr id n sz)
  | .ptr id off, v, k => (asPtr id off v).bind fun _ => k (.ptr id off)
  | .adr j off, v, k => (asAdr j off v).bind fun _ => k (.adr j off)
  | _, _, k => k .undef
def likesK : List V → List V → (List V → Option R) → Option R
  | [], vs, k => (isNil vs).bind fun _ => k []
  | t :: l, vs, k => (uncons vs).bind fun p => likeK t p.1 fun v => likesK l p.2 fun vs => k (v :: vs)
end
def isUndef : V → Bool
  | .undef => true
  | _ => false
/-- Slots of others' shapes. -/
def slotsK (ts : List V) : List V → Nat → (List V → Option R) → Option R
  | [], _, k => k []
  | t :: l, i, k => match isUndef t with
    | true => slotsK ts l (i + 1) fun l => k (.undef :: l)
    | false => likeK t (nth ts i) fun v => slotsK ts l (i + 1) fun l => k (v :: l)
def unconsO : List Ob → Option (Ob × List Ob)
  | [] => none
  | o :: l => some (o, l)
def asObCells : Ob → Option (List V)
  | .cells cs => some cs
  | _ => none
def asObArr (wr : Bool) (sz : Nat) : Ob → Option (List (List V))
  | .arr wr' sz' rows => match (wr == wr') && Nat.beq sz sz' with
    | true => some rows
    | false => none
  | _ => none
def asLoop : Ob → Option LoopA
  | .loop l => some l
  | _ => none
def likeObK : Ob → Ob → (Ob → Option R) → Option R
  | .cells cs0, o, k => (asObCells o).bind fun cs => likesK cs0 cs fun cs => k (.cells cs)
  | .arr wr sz _, o, k => (asObArr wr sz o).bind fun rows => k (.arr wr sz rows)
  | .loop _, o, k => (asLoop o).bind fun l => k (.loop l)
  | .dead, _, k => k .dead
/-- Objects of others' shapes; what came behind them is dropped. -/
def heapK : List Ob → List Ob → (List Ob → Option R) → Option R
  | [], _, k => k []
  | t :: l, h, k => (unconsO h).bind fun p => likeObK t p.1 fun o => heapK l p.2 fun h => k (o :: h)

/-- Row i of rows, if its cells are sz. -/
def getRow (rows : List (List V)) (i : Int) (sz : Nat) : Option (List V) :=
  if 0 ≤ i then match rows[i.toNat]? with
    | some r => if r.length = sz then some r else none
    | none => none
  else none

def part (agg : Bool) (n : Nat) (cs : List V) (off : Nat) : Option V :=
  match dropL off cs with
  | [] => if agg then (if Nat.beq n 0 then some (.agg []) else none) else none
  | c :: l => if agg then (if Nat.ble n (l.length + 1) then some (.agg (takeL n (c :: l))) else none) else some c

def splice (cs : List V) (off : Nat) (new : List V) : List V := takeL off cs ++ (new ++ dropL (off + new.length) cs)

/-- A string's byte. -/
def strAt (s : ByteArray) (i : Int) : Option Int := if 0 ≤ i ∧ i < s.size then some ((s.get! i.toNat).toNat : Int) else none
/-- May a value be a cell's? -/
def okCell : V → Bool
  | .undef | .skip | .tuple _ | .agg _ | .box _ | .adr .. => false
  | _ => true
/-- The cells of a value that is stored. -/
def cellsOf : V → List V
  | .agg cs => cs
  | v => match okCell v with
    | true => [v]
    | false => []

mutual
/-- Holds a value no address of a shared object? -/
def refFree : V → Bool
  | .undef | .skip | .ptr .. | .rptr .. | .eptr .. | .adr .. | .box _ | .arr .. | .map _ => false
  | .fn f first cap => (match f with | .yield _ => false | _ => true) && refFrees first && refFrees cap
  | .iface _ v => refFree v
  | .agg cs => refFrees cs
  | .tuple cs => refFrees cs
  | _ => true
def refFrees : List V → Bool
  | [] => true
  | v :: l => refFree v && refFrees l
end

mutual
/-- Does a value lead to none but the first n objects? -/
def below (n : Nat) : V → Bool
  | .ptr id _ => Nat.blt id n
  | .eptr id _ _ _ _ => Nat.blt id n
  | .arr id _ _ => Nat.blt id n
  | .map id => Nat.blt id n
  | .fn f first cap => (match f with
    | .yield id => Nat.blt id n
    | _ => true) && (belows n first && belows n cap)
  | .iface _ v => below n v
  | .agg cs => belows n cs
  | .tuple cs => belows n cs
  | .box cs => belows n cs
  | _ => true
def belows (n : Nat) : List V → Bool
  | [] => true
  | v :: l => below n v && belows n l
end
def belowObs (n : Nat) : List Ob → Bool
  | [] => true
  | .cells cs :: l => belows n cs && belowObs n l
  | _ :: l => belowObs n l
def takeH : Nat → List Ob → List Ob
  | 0, _ => []
  | _ + 1, [] => []
  | n + 1, o :: l => o :: takeH n l
/-- The first n objects are kept. -/
def trimK (n : Nat) (s : St) (k : St → Option R) : Option R := match Nat.ble s.h.length n with
  | true => k s
  | false => match belows n s.t && belowObs n (takeH n s.h) with
    | true => k ⟨s.t, takeH n s.h⟩
    | false => none

/-- The rows of a shared array, if the slice is the whole of it as it now stands. -/
def arrRows (h : List Ob) (id len : Nat) : Option (List (List V)) :=
  match hget h id with
  | some (.arr _ _ rows) => if len = rows.length then some rows else none
  | _ => none
def ifK (b : Bool) (k : Option R) : Option R := match b with
  | true => k
  | false => none
/-- A value by itself, without the shared objects: one cell. -/
def normK1 (h : List Ob) (v : V) (k : V → Option R) : Option R :=
  match v with
  | .arr id len _ => (arrRows h id len).bind fun rows => k (.slice .any rows)
  | .slice _ rows => k (.slice .any rows)
  | v => ifK (refFree v) (k v)
def normsK (h : List Ob) : List V → (List V → Option R) → Option R
  | [], k => k []
  | v :: l, k => normK1 h v fun v => normsK h l fun l => k (v :: l)
def normK (h : List Ob) (v : V) (k : V → Option R) : Option R :=
  match v with
  | .agg cs => normsK h cs fun cs => k (.agg cs)
  | v => normK1 h v k
def normArgsK (h : List Ob) : List V → (List V → Option R) → Option R
  | [], k => k []
  | v :: l, k => normK h v fun v => normArgsK h l fun l => k (v :: l)
def normResK (h : List Ob) (v : V) (k : V → Option R) : Option R :=
  match v with
  | .tuple vs => normArgsK h vs fun vs => k (.tuple vs)
  | v => normK h v k

/-- The arrays that values lead to are written no more. -/
def fix1 (h : List Ob) : V → List Ob
  | .arr id _ _ => match hget h id with
    | some (.arr _ sz rows) => hset h id (.arr false sz rows)
    | _ => h
  | _ => h
def fixs (h : List Ob) : List V → List Ob
  | [] => h
  | v :: l => fixs (fix1 h v) l
def fixV (h : List Ob) : V → List Ob
  | .agg cs => fixs h cs
  | v => fix1 h v
def fixArgs (h : List Ob) : List V → List Ob
  | [] => h
  | v :: l => fixArgs (fixV h v) l
/-- A result: an array is read out. -/
def retK (h : List Ob) (v : V) (k : V → List Ob → Option R) : Option R :=
  match v with
  | .arr id len sz => normK1 h (.arr id len sz) fun u => k u (fix1 h (.arr id len sz))
  | v => k v h
/-- Is an array's slice among the values (one step deep)? -/
def hasArr : V → Bool
  | .arr .. => true
  | .agg cs => cs.any fun v => match v with
    | .arr .. => true
    | _ => false
  | _ => false

def arith (op : BinOp) (k : IntKind) (x y : Int) : Option V :=
  match op with
  | .add => some (.int k (k.wrap (x + y)))
  | .sub => some (.int k (k.wrap (x - y)))
  | .mul => some (.int k (k.wrap (x * y)))
  | .eql => some (.bool (x == y))
  | .neq => some (.bool (x != y))
  | .lss => some (.bool (decide (x < y)))
  | .leq => some (.bool (decide (x ≤ y)))
  | .gtr => some (.bool (decide (x > y)))
  | .geq => some (.bool (decide (x ≥ y)))
  | .and => some (.int k (k.wrap ((BitVec.ofInt k.bits x &&& BitVec.ofInt k.bits y).toNat)))
  | .or => some (.int k (k.wrap ((BitVec.ofInt k.bits x ||| BitVec.ofInt k.bits y).toNat)))
  | .xor => some (.int k (k.wrap ((BitVec.ofInt k.bits x ^^^ BitVec.ofInt k.bits y).toNat)))
  | .andNot => some (.int k (k.wrap ((BitVec.ofInt k.bits x &&& ~~~BitVec.ofInt k.bits y).toNat)))
  | _ => none

def kEq (k k' : IntKind) : Bool := match k, k' with
  | .i8, .i8 | .i16, .i16 | .i32, .i32 | .i64, .i64 | .u8, .u8 | .u16, .u16 | .u32, .u32 | .u64, .u64 => true
  | _, _ => false

/-- '==' of cells. -/
def cellEq : TypeDesc → V → V → Option Bool
  | .bool, .bool a, .bool b => some (a == b)
  | .int _, .int k a, .int k' b => if kEq k k' then some (a == b) else none
  | .string, .str a, .str b => some (a == b)
  | _, _, _ => none
def cellEqL (u : TypeDesc) : List V → List V → Option Bool
  | [x], [y] => cellEq u x y
  | _, _ => none
/-- '==' of a struct's fields. -/
def eqFs (P : Program) (E : TypeId → List V → List V → Option Bool) (xs ys : List V) : List Field → Option Bool
  | [] => some true
  | f :: fs => match f.name == "_" with
    | true => none
    | false => match typeSize P f.type with
      | some (ag, n) => (part ag n xs f.offset).bind fun x => (part ag n ys f.offset).bind fun y => (E f.type (cellsOf x) (cellsOf y)).bind fun r => (eqFs P E xs ys fs).bind fun q => some (r && q)
      | none => none
def eqT (P : Program) : Nat → TypeId → List V → List V → Option Bool
  | 0, _, _, _ => none
  | d + 1, t, xs, ys => match P.underlying t with
    | some (.struct fs) => match P.stoodInHeld t with
      | true => none
      | false => eqFs P (eqT P d) xs ys fs.toList
    | some u => cellEqL u xs ys
    | none => none

/-- n cells of a row. -/
def cellsAt (row : List V) (off n : Nat) : Option (List V) := if off + n ≤ row.length then some ((row.drop off).take n) else none
def mkV (ag : Bool) (cs : List V) : V := match ag with
  | true => .agg cs
  | false => match cs with
    | [v] => v
    | _ => .undef

/-- The cells at an address are read. -/
def loadK (s : St) (a : V) (ag : Bool) (n : Nat) (sh : List Sh) (k : V → Option R) : Option R :=
  match a with
  | .box cs => (part ag n cs 0).bind k
  | .adr j off => match nth s.t j with
    | .box cs => (part ag n cs off).bind k
    | _ => none
  | .rptr row off => (part ag n row off).bind k
  | .ptr id off => match hget s.h id with
    | some (.cells cs) => (part ag n cs off).bind k
    | _ => none
  | .eptr id len sz i off => ifK (Nat.beq sh.length n && Nat.blt 0 n) <| (arrRows s.h id len).bind fun rows => (getRow rows i sz).bind fun row => (cellsAt row off n).bind fun cs => shsK sh cs fun cs => k (mkV ag cs)
  | _ => none

def fits (cs : List V) (off : Nat) (new : List V) : Bool := Nat.ble (off + new.length) cs.length

/-- The cells at an address are written. -/
def storeK (s : St) (slot : Nat) (a : V) (new : List V) (k : St → Option R) : Option R :=
  match a with
  | .box cs => ifK (fits cs 0 new) (k ⟨upd s.t slot (.box (splice cs 0 new)), s.h⟩)
  | .adr j off => match nth s.t j with
    | .box cs => ifK (fits cs off new) (k ⟨upd s.t j (.box (splice cs off new)), s.h⟩)
    | _ => none
  | .ptr id off => match hget s.h id with
    | some (.cells cs) => ifK (fits cs off new) (k ⟨s.t, hset s.h id (.cells (splice cs off new))⟩)
    | _ => none
  | .eptr id len sz i off => match hget s.h id with
    | some (.arr true sz' rows) => ifK (Nat.beq sz sz' && Nat.ble (off + new.length) sz && refFrees new) <| cond (decide (len = rows.length)) (k ⟨s.t, hset s.h id (.arr true sz' (rows.set i (splice (rows.getD i []) off new)))⟩) none
    | _ => none
  | _ => none

def St.put (s : St) (d : Option Nat) (v : V) : St :=
  match d with
  | none => s
  | some i => ⟨upd s.t i v, s.h⟩

def room : Nat := 140737488355328

/-- The elements of what is appended. -/
def srcRowsK (h : List Ob) (v : V) (k : List (List V) → Option R) : Option R :=
  match v with
  | .slice _ rows => k rows
  | .arr id len _ => (arrRows h id len).bind k
  | _ => none

/-- Has a row sz cells? -/
def headIs (sz : Nat) : List (List V) → Bool
  | [] => true
  | r :: _ => Nat.beq r.length sz

/-- append(x, y...): sz cells, b bytes an element; the elements' shapes are kept. -/
def appTo (s : St) (sz b : Nat) (x : V) (new : List (List V)) (k : V → List Ob → Option R) : Option R :=
  match x with
  | .slice .nil [] | .slice .cap0 [] =>
    cond (decide (new.length * b ≤ room)) (k (.arr s.h.length new.length sz) (s.h ++ [.arr true sz new])) none
  | .arr id len sz' => match hget s.h id with
    | some (.arr w q rows) => ifK (Nat.beq sz sz' && Nat.beq sz q) <| cond (decide (len = rows.length)) (cond (decide ((rows.length + new.length) * b ≤ room)) (k (.arr id (len + new.length) sz) (hset s.h id (.arr w sz (rows ++ new)))) none) none
    | _ => none
  | _ => none
def appendK (s : St) (sz b : Nat) (x y : V) (k : V → List Ob → Option R) : Option R :=
  srcRowsK s.h y fun new => cond (headIs sz new) (appTo s sz b x new k) none

def asLen : V → Option Nat
  | .slice _ rows => some rows.length
  | .arr _ len _ => some len
  | .str s => some s.size
  | _ => none

def min2 : V → V → Option V
  | .int k x, .int k' y => if kEq k k' then some (.int k (if y < x then y else x)) else none
  | _, _ => none
def max2 : V → V → Option V
  | .int k x, .int k' y => if kEq k k' then some (.int k (if y > x then y else x)) else none
  | _, _ => none
def foldV (f : V → V → Option V) : V → List V → Option V
  | v, [] => some v
  | v, x :: l => match f v x with
    | some u => foldV f u l
    | none => none

/-- The place of a slice's slice. -/
def slFl : Fl → Fl
  | .nil => .nil
  | _ => .any
/-- A bound of a slice expression. -/
def boundK (v : Option V) (dflt top : Nat) (k : Nat → Option R) : Option R :=
  match v with
  | none => k dflt
  | some (.int _ i) => cond (decide (0 ≤ i)) (cond (decide (i.toNat ≤ top)) (k i.toNat) none) none
  | some _ => none

/-- Parts laid into zero cells. -/
def fillV (s : St) (place : Nat → Option (Nat × Nat)) : List (Nat × Operand) → List V → Option (List V)
  | [], cs => some cs
  | (i, x) :: l, cs => match place i with
    | some (off, n) =>
      let new := cellsOf (getV s x)
      if Nat.beq new.length n && Nat.blt 0 n && fits cs off new then fillV s place l (splice cs off new) else none
    | none => none
/-- A literal's place. -/
def litFl : Nat → Fl
  | 0 => .cap0
  | _ + 1 => .any
def chunk (sz : Nat) : Nat → List V → List (List V)
  | 0, _ => []
  | n + 1, cs => takeL sz cs :: chunk sz n (dropL sz cs)

/-- What does a callee that shares objects with its caller hand back (by shape), what does it lay behind them? -/
def handsOf (G : Cfg) (n : Nat) : Fn → Option (V × List Ob)
  | .func f => G.sh f n
  | _ => none
def shares (G : Cfg) : Fn → Bool
  | .func n => match G.sh n 0 with
    | some _ => true
    | none => false
  | _ => true
/-- A yield captures nothing. -/
def capOk : Fn → List V → Bool
  | .yield _, _ :: _ => false
  | _, _ => true

def stepK (G : Cfg) (C : CallT) (f : FuncId) (dr : Bool) (o : Oper) (s : St) (k : St → Option R) : Option R :=
  match o.op with
  | .move x => k (s.put o.dst (view (getV s x)))
  | .assign x => match o.dst with
    | some d => match lmem d (G.acc f), getV s x, sliceElem G.P o.type with
      | true, .slice .nil [], some (_, sz, _) | true, .slice .cap0 [], some (_, sz, _) => ifK (!dr && Nat.blt 0 sz) (k ⟨upd s.t d (.arr s.h.length 0 sz), s.h ++ [.arr true sz []]⟩)
      | _, v, _ => k (s.put o.dst (view v))
    | none => k s
  | .pick c a b => match getV s c with
    | .bool q => cond q (k (s.put o.dst (view (getV s a)))) (k (s.put o.dst (view (getV s b))))
    | _ => none
  | .alloc t => match o.dst, zeroCells G.P t with
    | some d, some z => match lmem d (G.esc f) with
      | false => k ⟨upd (s.t.map (killadr d)) d (.box z), s.h⟩
      | true => ifK (!dr) <| match lmem d (G.acc f), z, sliceElem G.P t with
        | true, [.slice .nil []], some (_, sz, _) => ifK (Nat.blt 0 sz) (k ⟨upd (s.t.map (killadr d)) d (.ptr (s.h.length + 1) 0), s.h ++ [.arr true sz [], .cells [.arr s.h.length 0 sz]]⟩)
        | _, z, _ => k ⟨upd (s.t.map (killadr d)) d (.ptr s.h.length 0), s.h ++ [.cells z]⟩
    | _, _ => none
  | .box t x => match o.dst with
    | some d => ifK (Nat.blt 0 (cellsOf (getV s x)).length) <| match lmem d (G.esc f) with
      | false => k ⟨upd (s.t.map (killadr d)) d (.box (cellsOf (getV s x))), s.h⟩
      | true => ifK (!dr) <| match lmem d (G.acc f), getV s x, sliceElem G.P t with
        | true, .slice .nil [], some (_, sz, _) => ifK (Nat.blt 0 sz) (k ⟨upd (s.t.map (killadr d)) d (.ptr (s.h.length + 1) 0), s.h ++ [.arr true sz [], .cells [.arr s.h.length 0 sz]]⟩)
        | _, v, _ => k ⟨upd (s.t.map (killadr d)) d (.ptr s.h.length 0), s.h ++ [.cells (cellsOf v)]⟩
    | none => none
  | .build t parts => match zeroCells G.P t, G.P.underlying t with
    | some z, some (.struct fs) => match fs.toList.mapM (fun f => (G.P.info? f.type).map fun i => (f.offset, i.size)) with
      | some places => (fillV s (fun i => places[i]?) parts.toList z).bind fun cs => ifK (!dr || !hasArr (.agg cs)) <| normK s.h (.agg cs) fun v => k ⟨(s.put o.dst v).t, fixV s.h (.agg cs)⟩
      | none => none
    | some z, some (.array _ e) => match G.P.info? e with
      | some ie => (fillV s (fun i => some (i * ie.size, ie.size)) parts.toList z).bind fun cs => ifK (!dr || !hasArr (.agg cs)) <| normK s.h (.agg cs) fun v => k ⟨(s.put o.dst v).t, fixV s.h (.agg cs)⟩
      | none => none
    | _, _ => none
  | .buildSlice t len parts => match sliceElem G.P t with
    | some (e, n, _) => match zeroCells G.P e with
      | some z => ifK (Nat.beq z.length n && Nat.blt 0 n && Nat.ble (len * n) 16777216) <|
        (fillV s (fun i => some (i * n, n)) parts.toList ((List.replicate len z).flatten)).bind fun cs => ifK (!dr || !hasArr (.agg cs)) <|
          normK s.h (.agg cs) fun v => k ⟨(s.put o.dst (.slice (litFl len) (chunk n len (cellsOf v)))).t, fixV s.h (.agg cs)⟩
      | none => none
    | none => none
  | .load t a => match typeSize G.P t with
    | some (ag, n) => loadK s (getV s a) ag n (leafs G.P 8 t) fun v => k (s.put o.dst (view v))
    | none => none
  | .store t a x => match typeSize G.P t, a, o.dst with
    | some (_, n), .tmp i, none =>
      let new := cellsOf (getV s x)
      ifK (Nat.beq new.length n && Nat.blt 0 n) (storeK s i (nth s.t i) new k)
    | _, _, _ => none
  | .nilCheck x => match getV s x, x with
    | .box _, .tmp i => k (s.put o.dst (.adr i 0))
    | .adr i off, _ => k (s.put o.dst (.adr i off))
    | .ptr id off, _ => k (s.put o.dst (.ptr id off))
    | .rptr row off, _ => k (s.put o.dst (.rptr row off))
    | .fn (.func g) first cap, _ => k (s.put o.dst (.fn (.func g) first cap))
    | _, _ => none
  | .binOp op t x y _ => match getV s x, getV s y with
    | .int k1 a, .int k2 b => match op with
      | .quo => ifK (kEq k1 k2) (cond (b == 0) none (k (s.put o.dst (.int k1 (k1.wrap (a.tdiv b))))))
      | .rem => ifK (kEq k1 k2) (cond (b == 0) none (k (s.put o.dst (.int k1 (a.tmod b)))))
      | .shl => cond (decide (b < 0)) none (k (s.put o.dst (.int k1 (k1.wrap (a * 2 ^ (min b.toNat k1.bits))))))
      | .shr => cond (decide (b < 0)) none (k (s.put o.dst (.int k1 (a.fdiv (2 ^ (min b.toNat k1.bits))))))
      | op => ifK (kEq k1 k2) ((arith op k1 a b).bind fun v => k (s.put o.dst v))
    | .bool a, .bool b => match op, G.P.underlying t with
      | .eql, some .bool => k (s.put o.dst (.bool (a == b)))
      | .neq, some .bool => k (s.put o.dst (.bool (!(a == b))))
      | _, _ => none
    | .agg xs, .agg ys => ifK (!G.P.eqGuardType G.P.depth t && (match G.P.underlying t with | some (.struct _) => true | _ => false)) <| match op with
      | .eql => (eqT G.P 8 t xs ys).bind fun b => k (s.put o.dst (.bool b))
      | .neq => (eqT G.P 8 t xs ys).bind fun b => k (s.put o.dst (.bool (!b)))
      | _ => none
    | _, _ => none
  | .unOp op _ x => match op, getV s x with
    | .neg, .int q n => k (s.put o.dst (.int q (q.wrap (0 - n))))
    | .not, .bool b => k (s.put o.dst (.bool (!b)))
    | _, _ => none
  | .convert src dst x => match G.P.underlying src, G.P.underlying dst, getV s x with
    | some _, some (.int q), .int _ n => k (s.put o.dst (.int q (q.wrap n)))
    | _, _, _ => none
  | .makeFunc (.func g) first captured => k (s.put o.dst (.fn (.func g) (first.toList.map fun x => view (getV s x)) (captured.toList.map fun x => view (getV s x))))
  | .fieldAddr t x fd => match fieldAt G.P t fd with
    | some (off, ft) => match typeSize G.P ft with
      | some (_, n) => ifK (Nat.blt 0 n) <| match getV s x, x with
        | .box _, .tmp i => k (s.put o.dst (.adr i off))
        | .adr i o', _ => k (s.put o.dst (.adr i (o' + off)))
        | .ptr id o', _ => k (s.put o.dst (.ptr id (o' + off)))
        | .rptr row o', _ => k (s.put o.dst (.rptr row (o' + off)))
        | .eptr id len sz i o', _ => k (s.put o.dst (.eptr id len sz i (o' + off)))
        | _, _ => none
      | none => none
    | none => none
  | .field t x fd => match fieldAt G.P t fd, getV s x with
    | some (off, ft), .agg cs => match typeSize G.P ft with
      | some (ag, n) => (part ag n cs off).bind fun v => k (s.put o.dst (view v))
      | none => none
    | _, _ => none
  | .indexAddr t x ix => match getV s ix with
    | .int _ i => match sliceElem G.P t with
      | some (e, sz, _) => ifK (Nat.blt 0 sz) <| match getV s x with
        | .slice _ rows => (getRow rows i sz).bind fun row => shsK (leafs G.P 8 e) row fun row => k (s.put o.dst (.rptr row 0))
        | .arr id len sz' => ifK (Nat.beq sz sz') <| cond (decide (0 ≤ i)) (cond (decide (i.toNat < len)) (k (s.put o.dst (.eptr id len sz i.toNat 0))) none) none
        | _ => none
      | none => none
    | _ => none
  | .slice t x lo hi none => match sliceElem G.P t, getV s x with
    | some (_, sz, _), .slice fl rows =>
      boundK (hi.map (getV s)) rows.length rows.length fun h => boundK (lo.map (getV s)) 0 h fun l => cond (match lo with | none => true | some _ => headIs sz rows)
        (k (s.put o.dst (.slice (slFl fl) ((rows.take h).drop l)))) none
    | _, _ => none
  | .index t x ix => match G.P.underlying t, getV s x, getV s ix with
    | some .string, .str b, .int _ i => (strAt b i).bind fun n => k (s.put o.dst (.int .u8 n))
    | _, _, _ => none
  | .extract x i => match getV s x with
    | .tuple vs => match hgetV vs i with
      | some v => k (s.put o.dst (view v))
      | none => none
    | _ => none
  | .call c => match c.callee with
    | .builtin .len => match c.args.toList, c.argTypes.toList with
      | [x], [t] => ifK (match G.P.underlying t, getV s x with
        | some (.slice _), .slice .. | some (.slice _), .arr .. | some .string, .str _ => true
        | _, _ => false) <| (asLen (getV s x)).bind fun n => k (s.put o.dst (.int .i64 n))
      | _, _ => none
    | .builtin .min => match c.args.toList.map fun x => view (getV s x) with
      | x :: l => (foldV min2 x l).bind fun v => k (s.put o.dst v)
      | [] => none
    | .builtin .max => match c.args.toList.map fun x => view (getV s x) with
      | x :: l => (foldV max2 x l).bind fun v => k (s.put o.dst v)
      | [] => none
    | .builtin .append => match c.args.toList.map (fun x => view (getV s x)), c.argTypes.toList with
      | [x, y], [t, t'] => match sliceElem G.P t, sliceElem G.P t' with
        | some (e, sz, b), some _ => match zeroCells G.P e with
          | some z => ifK (Nat.beq z.length sz && Nat.blt 0 sz && Nat.blt 0 b && !dr) <| appendK s sz b x y fun v h => k ⟨(s.put o.dst v).t, h⟩
          | none => none
        | _, _ => none
      | _, _ => none
    | .value fx => match getV s fx with
      | .fn g first cap =>
        let args := first ++ ((c.args.toList.map fun x => view (getV s x)) ++ cap)
        ifK (capOk g cap) <| match (shares G g) || !(args.all fun v => refFree v || hasArr v) with
        | true => ifK (!dr) <| (C.s g args s.h).bind fun r => match handsOf G s.h.length g with
          | some (tv, tl) => likeK tv r.1 fun v => heapK (s.h ++ tl) r.2 fun h => ifK (below h.length v && belowObs h.length h) <| k ⟨(s.put o.dst (view v)).t, h⟩
          | none => resultK G.P o.type r.1 fun v => heapK s.h r.2 fun h => ifK (below h.length v && belowObs h.length h) <| k ⟨(s.put o.dst (view v)).t, h⟩
        | false => ifK (!dr || !args.any hasArr) <| normArgsK s.h args fun args' => (C.p g args').bind fun v => resultK G.P o.type v fun v => k ⟨(s.put o.dst (view v)).t, fixArgs s.h args⟩
      | _ => none
    | _ => none
  | _ => none
where
  hgetV : List V → Nat → Option V
    | [], _ => none
    | v :: _, 0 => some v
    | _ :: l, n + 1 => hgetV l n

/-! Regions whose order is drawn. -/
def bindsAny (e : Edge) : Bool := match e.ground with
  | .textOnly _ => false
  | .gcOnly _ => false
  | _ => true
def tmpOf : Operand → List Nat
  | .tmp i => [i]
  | _ => []
def guardSlot (all : List Oper) (o : Oper) : List Nat := match o.guard with
  | none => []
  | some (j, _) => match all[j]? with
    | some g => match g.dst with
      | some d => [d]
      | none => []
    | none => []
/-- The slots that an operation looks at. -/
def readsOf (all : List Oper) (o : Oper) : List Nat := o.op.operands.toList.flatMap tmpOf ++ guardSlot all o
/-- The slot that it turns. -/
def writeOf (o : Oper) : Option Nat := match o.op with
  | .store _ (.tmp i) _ => some i
  | _ => o.dst
def clash (w : Option Nat) (l : List Nat) : Bool := match w with
  | some d => lmem d l
  | none => false
def meets (w w' : Option Nat) : Bool := match w, w' with
  | some d, some d' => Nat.beq d d'
  | _, _ => false
def isStore (o : Oper) : Bool := match o.op with
  | .store .. => true
  | _ => false
def indep (all : List Oper) (y x : Oper) : Bool :=
  !(clash (writeOf y) (readsOf all x)) && (!(clash (writeOf x) (readsOf all y)) && (!(meets (writeOf y) (writeOf x)) && !(isStore y && isStore x)))
def edgeTo (j : Nat) : List Edge → Bool
  | [] => false
  | e :: l => (bindsAny e && Nat.beq e.on j) || edgeTo j l
def direct (x : Oper) (j : Nat) : Bool := edgeTo j x.after.toList
def edgeVia (r : Oper → Bool) (all : List Oper) (j : Nat) : List Edge → Bool
  | [] => false
  | e :: l => (bindsAny e && (Nat.blt j e.on && (match all[e.on]? with
    | some z => r z
    | none => false))) || edgeVia r all j l
/-- Does an operation wait for operation j, by some steps? -/
def reach (all : List Oper) (j : Nat) : Nat → Oper → Bool
  | 0, x => direct x j
  | n + 1, x => direct x j || edgeVia (reach all j n) all j x.after.toList
def before (all : List Oper) (x : Oper) (j : Nat) : Bool := reach all j 16 x
def edgesBack (i : Nat) : List Edge → Bool
  | [] => true
  | e :: l => (!bindsAny e || Nat.blt e.on i) && edgesBack i l
def pairsOk (all : List Oper) (x : Oper) : List Oper → Nat → Bool
  | [], _ => true
  | y :: l, j => (direct x j || (indep all y x || before all x j)) && pairsOk all x l (j + 1)
def commAux (all : List Oper) : List Oper → List Oper → Nat → Bool
  | [], _, _ => true
  | x :: l, done, i => edgesBack i x.after.toList && ((!isStore x || x.dst.isNone) && !(clash x.dst (readsOf all x)) && (pairsOk all x done 0 && commAux all l (done ++ [x]) (i + 1)))
/-- Whatever order is drawn comes to the text's. -/
def commOk (all : List Oper) : Bool := commAux all all [] 0
def soloOne (all : List Oper) (x : Oper) (i : Nat) : List Oper → Nat → Bool
  | [], _ => true
  | y :: l, j => (Nat.beq j i || (match Nat.blt j i with
    | true => before all x j
    | false => before all y i)) && soloOne all x i l (j + 1)
def soloAux (all : List Oper) : List Oper → Nat → Bool
  | [], _ => true
  | x :: l, i => (!isStore x || soloOne all x i all 0) && soloAux all l (i + 1)
def isValCall (o : Oper) : Bool := match o.op with
  | .call c => match c.callee with
    | .value _ => true
    | .builtin .append => true
    | _ => false
  | _ => false
def sameDst (x o : Oper) : Bool := match x.dst, o.dst with
  | some d, some e => Nat.beq d e
  | none, none => true
  | _, _ => false
def soloCAux (all : List Oper) (o : Oper) : List Oper → Nat → Bool
  | [], _ => true
  | x :: l, i => (!(isValCall x && sameDst x o) || soloOne all x i all 0) && soloCAux all o l (i + 1)
/-- A call whose place among the others is fixed. -/
def soloCall (all : List Oper) (o : Oper) : Bool := isValCall o && soloCAux all o all 0
/-- Is an operation's place drawn? -/
def drOf (dr : Bool) (all : List Oper) (o : Oper) : Bool := match dr with
  | false => false
  | true => !soloCall all o
/-- No address of slot d's variable is about. -/
def noadr (d : Nat) : List V → Bool
  | [] => true
  | .adr j _ :: l => !(Nat.beq d j) && noadr d l
  | _ :: l => noadr d l
def plain : V → Bool
  | .box _ => false
  | .adr _ _ => false
  | _ => true
def plainAt (s : St) (d : Option Nat) : Bool := match d with
  | some d => plain (nth s.t d)
  | none => true
def notAdr : V → Bool
  | .adr _ _ => false
  | _ => true
def okDr (all : List Oper) (o : Oper) (s : St) : Bool := match o.op with
  | .alloc _ => match o.dst with
    | some d => noadr d s.t && notAdr (nth s.t d)
    | none => true
  | .box _ _ => match o.dst with
    | some d => noadr d s.t && notAdr (nth s.t d)
    | none => true
  | .store _ (.tmp i) _ => match nth s.t i with
    | .box _ => noadr i s.t
    | _ => soloAux all all 0
  | _ => plainAt s o.dst
def pre (dr : Bool) (all : List Oper) (o : Oper) (s : St) : Bool := match dr with
  | false => true
  | true => okDr all o s
def preSkip (dr : Bool) (o : Oper) (s : St) : Bool := match dr with
  | false => true
  | true => plainAt s o.dst

def opsK (G : Cfg) (C : CallT) (f : FuncId) (dr : Bool) (all : List Oper) : List Oper → St → (St → Option R) → Option R
  | [], s, k => k s
  | o :: rest, s, k => match o.guard with
    | none => ifK (pre (drOf dr all o) all o s) (stepK G C f (drOf dr all o) o s fun s => opsK G C f dr all rest s k)
    | some (j, want) => match all[j]? with
      | some g => match g.dst with
        | some d => match nth s.t d with
          | .bool b => cond b
            (match want with
             | true => ifK (pre (drOf dr all o) all o ⟨upd s.t d (.bool true), s.h⟩) (stepK G C f (drOf dr all o) o ⟨upd s.t d (.bool true), s.h⟩ fun s => opsK G C f dr all rest s k)
             | false => ifK (preSkip (drOf dr all o) o ⟨upd s.t d (.bool true), s.h⟩) (opsK G C f dr all rest (St.put ⟨upd s.t d (.bool true), s.h⟩ o.dst .skip) k))
            (match want with
             | false => ifK (pre (drOf dr all o) all o ⟨upd s.t d (.bool false), s.h⟩) (stepK G C f (drOf dr all o) o ⟨upd s.t d (.bool false), s.h⟩ fun s => opsK G C f dr all rest s k)
             | true => ifK (preSkip (drOf dr all o) o ⟨upd s.t d (.bool false), s.h⟩) (opsK G C f dr all rest (St.put ⟨upd s.t d (.bool false), s.h⟩ o.dst .skip) k))
          | .skip => ifK (preSkip (drOf dr all o) o s) (opsK G C f dr all rest (s.put o.dst .skip) k)
          | _ => none
        | none => none
      | none => none

end Go.Ab
