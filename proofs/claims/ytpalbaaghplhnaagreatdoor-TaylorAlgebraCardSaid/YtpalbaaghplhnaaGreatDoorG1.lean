/- The abstract machine: values, shared objects, and what the operations of a region do to them; conditions: none. -/
import GoSem.Step
import Derived.CallsIn
import Derived.Deep.AppendSrc
import Derived.Deep.Upon
import Derived.RangeFuncRecord
import Derived.Laws.Strings
import Derived.Laws.Tables
import Derived.Laws.CopyRow
set_option linter.unusedVariables false
set_option linter.unusedSimpArgs false
namespace Go.Ab
inductive Fl where
 | nil | cap0 | any | nn
inductive V where
 | undef
 | skip
 | bool (b : Bool)
 | int (k : IntKind) (n : Int)
 | str (s : ByteArray)
 | nilp
 | ptr (id off : Nat)
 | rptr (row : List V) (off : Nat)
 | eptr (id len sz i off : Nat)
 | adr (slot off : Nat)
 | box (cells : List V)
 | slice (fl : Fl) (rows : List (List V))
 | arr (id len sz : Nat)
 | nilmap
 | map (id : Nat)
 | fn (f : Fn) (first cap : List V)
 | nilfn
 | iface (t : TypeId) (v : V)
 | nili
 | agg (cells : List V)
 | tuple (vs : List V)
 deriving Inhabited
inductive Ex where
 | normal
 | exit (id : Nat)
 | ret
structure LoopA where
 st : LoopState
 pend : Option Ex
 t : List V
 fn : FuncId
 ps : List Nat
 assign : Code
 body : Code
inductive Ob where
 | cells (cs : List V)
 | arr (wr : Bool) (sz : Nat) (rows : List (List V))
 | loop (l : LoopA)
 | dead
 | map (ka va : Bool) (kn : Nat) (es : List (List V × List V))
structure St where
 t : List V
 h : List Ob
structure Cfg where
 P : Program
 esc : FuncId → List Nat
 acc : FuncId → List Nat
 sh : FuncId → Nat → Option (V × List Ob)
 gl : Nat → List V := fun _ => []
 sp : FuncId → Option (List V → List Ob → Option (V × List Ob)) := fun _ => none
structure CallT where
 w : (St → Option (Ex × St)) → St → Option (Ex × St)
 p : Fn → List V → Option V
 s : Fn → List V → List Ob → Option (V × List Ob)
def nth : List V → Nat → V
 | [], _ => .undef
 | v :: _, 0 => v
 | _ :: l, n + 1 => nth l n
def upd : List V → Nat → V → List V
 | [], _, _ => []
 | _ :: l, 0, v => v :: l
 | x :: l, n + 1, v => x :: upd l n v
def zav : List Ob → Nat → Option Ob
 | [], _ => none
 | v :: _, 0 => some v
 | _ :: l, n + 1 => zav l n
def zah : List Ob → Nat → Ob → List Ob
 | [], _, _ => []
 | _ :: l, 0, v => v :: l
 | x :: l, n + 1, v => x :: zah l n v
def zeF (n : Nat) : List Nat → Bool
 | [] => false
 | m :: l => if Nat.beq n m then true else zeF n l
def zi4 : Nat → List V → List V
 | 0, _ => []
 | _ + 1, [] => []
 | n + 1, v :: l => v :: zi4 n l
def zek : Nat → List V → List V
 | 0, l => l
 | _ + 1, [] => []
 | n + 1, _ :: l => zek n l
def one : Value → Bool
 | .agg _ | .tuple _ => false
 | _ => true
def zj8 : Value → V
 | .bool b => .bool b
 | .int k n => .int k n
 | .string s => .str s
 | .pointer none => .nilp
 | .slice none 0 0 => .slice .nil []
 | .map none => .nilmap
 | .nilFunc => .nilfn
 | .nilIface => .nili
 | .func f ⟨[]⟩ ⟨[]⟩ => match f with
  | .func g => .fn (.func g) [] []
  | _ => .undef
 | _ => .undef
def zim : Value → List V
 | .agg ⟨cs⟩ => cs.map zj8
 | v => [zj8 v]
def zi5 : Value → V
 | .agg ⟨cs⟩ => match cs.all one with
  | true => .agg (cs.map zj8)
  | false => .undef
 | v => zj8 v
def zo (s : St) : Operand → V
 | .tmp i => nth s.t i
 | .const v => zi5 v
 | .func f => .fn (.func f) [] []
 | .global _ => .undef
def zc5 (G : Cfg) (s : St) : Operand → V
 | .global g => match G.gl g with
  | [] => .undef
  | v :: l => .rptr (v :: l) 0
 | x => zo s x
def view : V → V
 | .box _ => .undef
 | .adr _ _ => .undef
 | v => v
def zbk (i : Nat) : V → V
 | .adr j o => if Nat.beq i j then .undef else .adr j o
 | v => v
def zab (P : Program) (t : TypeId) : Option (Bool × Nat) :=
 match P.info? t with
 | none => none
 | some i => match P.underlying t with
  | some (.struct _) | some (.array ..) => some (true, i.size)
  | some _ => some (false, i.size)
  | none => none
def zeroCells (P : Program) (t : TypeId) : Option (List V) :=
 match P.info? t with
 | some i => match i.zero with
  | some z => match z.cells.toList.all one with
   | true => some (zim z)
   | false => none
  | none => none
 | none => none
def fieldAt (P : Program) (t : TypeId) (f : Nat) : Option (Nat × TypeId) :=
 match P.underlying t with
 | some (.struct fs) => match fs[f]? with
  | some x => some (x.offset, x.type)
  | none => none
 | _ => none
def zaW (P : Program) (t : TypeId) : Option (TypeId × Nat × Nat) :=
 match P.underlying t with
 | some (.slice e) => match P.info? e with
  | some i => some (e, i.size, i.bytes)
  | none => none
 | _ => none
def zdP (P : Program) (t : TypeId) : Option (TypeId × Nat × Nat) :=
 match P.underlying t with
 | some (.array n e) => match P.info? e with
  | some i => some (e, i.size, n)
  | none => none
 | _ => none
inductive Sh where
 | bool | int (k : IntKind) | str | slice | any
def shOf : TypeDesc → Sh
 | .bool => .bool
 | .int k => .int k
 | .string => .str
 | .slice _ => .slice
 | _ => .any
def zdQ (P : Program) : Nat → TypeId → List Sh
 | 0, _ => []
 | d + 1, t => match P.underlying t with
  | some (.struct fs) => fs.toList.flatMap fun f => zdQ P d f.type
  | some (.array n e) => (List.replicate n (zdQ P d e)).flatten
  | some u => [shOf u]
  | none => []
def asInt (k : IntKind) : V → Option Int
 | .int k' n => if k' = k then some n else none
 | _ => none
def asBool : V → Option Bool
 | .bool b => some b
 | _ => none
def zi6 : V → Option ByteArray
 | .str s => some s
 | _ => none
def zl : V → Option (List (List V))
 | .slice _ rows => some rows
 | _ => none
def zi : V → Option (List V)
 | .agg cs => some cs
 | _ => none
def zy : V → Option (List V)
 | .tuple cs => some cs
 | _ => none
def zh : List V → Option Unit
 | [] => some ()
 | _ => none
def zg : List V → Option (V × List V)
 | [] => none
 | v :: l => some (v, l)
variable {R : Type}
def shK (sh : Sh) (v : V) (k : V → Option R) : Option R :=
 match sh with
 | .bool => (asBool v).bind fun b => k (.bool b)
 | .int q => (asInt q v).bind fun n => k (.int q n)
 | .str => (zi6 v).bind fun s => k (.str s)
 | .slice => (zl v).bind fun r => k (.slice .any r)
 | .any => k v
def zbS : List Sh → List V → (List V → Option R) → Option R
 | [], vs, k => (zh vs).bind fun _ => k []
 | sh :: l, vs, k => (zg vs).bind fun p => shK sh p.1 fun v => zbS l p.2 fun vs => k (v :: vs)
def zec (P : Program) (t : TypeId) (v : V) (k : V → Option R) : Option R :=
 match P.underlying t with
 | some (.struct _) | some (.array ..) => (zi v).bind fun cs => zbS (zdQ P 8 t) cs fun cs => k (.agg cs)
 | some u => shK (shOf u) v k
 | none => k v
def zc6 (P : Program) : List TypeId → List V → (List V → Option R) → Option R
 | [], vs, k => (zh vs).bind fun _ => k []
 | t :: l, vs, k => (zg vs).bind fun p => zec P t p.1 fun v => zc6 P l p.2 fun vs => k (v :: vs)
def zc7 (P : Program) (t : TypeId) (v : V) (k : V → Option R) : Option R :=
 match P.underlying t with
 | some (.tuple ts) => (zy v).bind fun vs => zc6 P ts.toList vs fun vs => k (.tuple vs)
 | _ => zec P t v k
def zai : V → Option (List V)
 | .box cs => some cs
 | _ => none
def fnEq : Fn → Fn → Bool
 | .func a, .func b => Nat.beq a b
 | .yield a, .yield b => Nat.beq a b
 | _, _ => false
def zcm (g : Fn) : V → Option (List V × List V)
 | .fn g' a b => match fnEq g g' with
  | true => some (a, b)
  | false => none
 | _ => none
def zcn (id sz : Nat) : V → Option Nat
 | .arr id' len sz' => match Nat.beq id id' && Nat.beq sz sz' with
  | true => some len
  | false => none
 | _ => none
def zaj (id off : Nat) : V → Option Unit
 | .ptr id' off' => match Nat.beq id id' && Nat.beq off off' with
  | true => some ()
  | false => none
 | _ => none
def znb (j off : Nat) : V → Option Unit
 | .adr j' off' => match Nat.beq j j' && Nat.beq off off' with
  | true => some ()
  | false => none
 | _ => none
def zbm (id : Nat) : V → Option Unit
 | .map id' => match Nat.beq id id' with
  | true => some ()
  | false => none
 | _ => none
mutual
def z7 : V → V → (V → Option R) → Option R
 | .int q _, v, k => (asInt q v).bind fun n => k (.int q n)
 | .bool _, v, k => (asBool v).bind fun b => k (.bool b)
 | .str _, v, k => (zi6 v).bind fun s => k (.str s)
 | .slice _ _, v, k => (zl v).bind fun r => k (.slice .any r)
 | .agg cs0, v, k => (zi v).bind fun cs => zbq cs0 cs fun cs => k (.agg cs)
 | .box cs0, v, k => (zai v).bind fun cs => zbq cs0 cs fun cs => k (.box cs)
 | .fn g a0 b0, v, k => (zcm g v).bind fun p => zbq a0 p.1 fun a => zbq b0 p.2 fun b => k (.fn g a b)
 | .arr id _ sz, v, k => (zcn id sz v).bind fun n => k (.arr id n sz)
 | .ptr id off, v, k => (zaj id off v).bind fun _ => k (.ptr id off)
 | .adr j off, v, k => (znb j off v).bind fun _ => k (.adr j off)
 | .map id, v, k => (zbm id v).bind fun _ => k (.map id)
 | _, _, k => k .undef
def zbq : List V → List V → (List V → Option R) → Option R
 | [], vs, k => (zh vs).bind fun _ => k []
 | t :: l, vs, k => (zg vs).bind fun p => z7 t p.1 fun v => zbq l p.2 fun vs => k (v :: vs)
end
def zt1 : V → Bool
 | .undef => true
 | _ => false
def zdq (ts : List V) : List V → Nat → (List V → Option R) → Option R
 | [], _, k => k []
 | t :: l, i, k => match zt1 t with
  | true => zdq ts l (i + 1) fun l => k (.undef :: l)
  | false => z7 t (nth ts i) fun v => zdq ts l (i + 1) fun l => k (v :: l)
def zJ : List Ob → Option (Ob × List Ob)
 | [] => none
 | o :: l => some (o, l)
def zX : Ob → Option (List V)
 | .cells cs => some cs
 | _ => none
def zaU (wr : Bool) (sz : Nat) : Ob → Option (List (List V))
 | .arr wr' sz' rows => match (wr == wr') && Nat.beq sz sz' with
  | true => some rows
  | false => none
 | _ => none
def znk : Ob → Option LoopA
 | .loop l => some l
 | _ => none
def zbU (ka va : Bool) (kn : Nat) : Ob → Option (List (List V × List V))
 | .map ka' va' kn' es => match (ka == ka') && ((va == va') && Nat.beq kn kn') with
  | true => some es
  | false => none
 | _ => none
def zcb : Ob → Ob → (Ob → Option R) → Option R
 | .cells cs0, o, k => (zX o).bind fun cs => zbq cs0 cs fun cs => k (.cells cs)
 | .arr wr sz _, o, k => (zaU wr sz o).bind fun rows => k (.arr wr sz rows)
 | .loop _, o, k => (znk o).bind fun l => k (.loop l)
 | .map ka va kn _, o, k => (zbU ka va kn o).bind fun es => k (.map ka va kn es)
 | .dead, _, k => k .dead
def zcj : List Ob → List Ob → (List Ob → Option R) → Option R
 | [], _, k => k []
 | t :: l, h, k => (zJ h).bind fun p => zcb t p.1 fun o => zcj l p.2 fun h => k (o :: h)
def zS (rows : List (List V)) (i : Int) (sz : Nat) : Option (List V) :=
 if 0 ≤ i then match rows[i.toNat]? with
  | some r => if r.length = sz then some r else none
  | none => none
 else none
def part (agg : Bool) (n : Nat) (cs : List V) (off : Nat) : Option V :=
 match zek off cs with
 | [] => if agg then (if Nat.beq n 0 then some (.agg []) else none) else none
 | c :: l => if agg then (if Nat.ble n (l.length + 1) then some (.agg (zi4 n (c :: l))) else none) else some c
def kEq (k k' : IntKind) : Bool := match k, k' with
 | .i8, .i8 | .i16, .i16 | .i32, .i32 | .i64, .i64 | .u8, .u8 | .u16, .u16 | .u32, .u32 | .u64, .u64 => true
 | _, _ => false
def zg0 : List V → Option (IntKind × List Int)
 | [] => none
 | .int k n :: l => match l with
  | [] => some (k, [n])
  | _ :: _ => match zg0 l with
   | some (k', ns) => match kEq k k' with
    | true => some (k, n :: ns)
    | false => none
   | none => none
 | _ :: _ => none
def za5 : List Int → Nat → Option Int
 | [], _ => none
 | n :: _, 0 => some n
 | _ :: l, i + 1 => za5 l i
def zgL (k : IntKind) (ns : List Int) : Nat → Nat → Option (List V)
 | _, 0 => some []
 | off, n + 1 => (za5 ns off).bind fun x => (zgL k ns (off + 1) n).bind fun l => some (.int k x :: l)
def zi7 (ag : Bool) (n : Nat) (cs : List V) (off : Nat) : Option V :=
 match zg0 cs with
 | some (k, ns) => match ag with
  | true => match n with
   | 0 => none
   | n + 1 => (zgL k ns off (n + 1)).bind fun l => some (.agg l)
  | false => (za5 ns off).bind fun x => some (.int k x)
 | none => part ag n cs off
def znc {R : Type} (kd : IntKind) (ns : List Int) : Nat → Nat → (List V → Option R) → Option R
 | _, 0, k => k []
 | off, n + 1, k => (za5 ns off).bind fun x => znc kd ns (off + 1) n fun l => k (.int kd x :: l)
def zdR {R : Type} (ag : Bool) (n : Nat) (cs : List V) (off : Nat) (k : V → Option R) : Option R :=
 match zg0 cs with
 | some (kd, ns) => match ag with
  | true => match n with
   | 0 => none
   | n + 1 => znc kd ns off (n + 1) fun l => k (.agg l)
  | false => (za5 ns off).bind fun x => k (.int kd x)
 | none => (part ag n cs off).bind k
theorem zkD {R : Type} (kd : IntKind) (ns : List Int) : ∀ (n off : Nat) (k : List V → Option R), znc kd ns off n k = (zgL kd ns off n).bind k
 | 0, _, _ => rfl
 | n + 1, off, k => by
  simp only [znc, zgL]
  rw [Option.bind_assoc]
  congr 1; funext x
  rw [zkD kd ns n (off + 1), Option.bind_assoc]
  rfl
theorem zcc {R : Type} (ag : Bool) (n : Nat) (cs : List V) (off : Nat) (k : V → Option R) : zdR ag n cs off k = (zi7 ag n cs off).bind k := by
 unfold zdR zi7
 split
 ·split
  ·split
   ·rfl
   ·rw [zkD, Option.bind_assoc]; rfl
  ·rw [Option.bind_assoc]; rfl
 ·rfl
def zel (q : IntKind) (off : Nat) : Nat → List V → Bool
 | _, [] => false
 | j, .int k _ :: l => (kEq q k && Nat.beq off j) || zel q off (j + 1) l
 | j, _ :: l => zel q off (j + 1) l
def zgg : List V → Option (List Int)
 | [] => some []
 | .int _ n :: l => (zgg l).map (n :: ·)
 | _ :: _ => none
def zhz (k' : IntKind) (x : Int) (off : Nat) : Nat → List V → List V
 | _, [] => []
 | j, .int k n :: l => .int k (match kEq k' k with
  | true => cond (Nat.beq off j) x n
  | false => n) :: zhz k' x off (j + 1) l
 | j, v :: l => v :: zhz k' x off (j + 1) l
def zj9 (k : IntKind) (x : Int) (off : Nat) : Nat → List Int → List V
 | _, [] => []
 | j, n :: l => .int k (cond (Nat.beq off j) x n) :: zj9 k x off (j + 1) l
def splice (cs : List V) (off : Nat) (new : List V) : List V := zi4 off cs ++ (new ++ zek (off + new.length) cs)
def strAt (s : ByteArray) (i : Int) : Option Int := if 0 ≤ i ∧ i < s.size then some ((s.get! i.toNat).toNat : Int) else none
def zgh : V → Bool
 | .undef | .skip | .tuple _ | .agg _ | .box _ | .adr .. => false
 | _ => true
def cellsOf : V → List V
 | .agg cs => cs
 | v => match zgh v with
  | true => [v]
  | false => []
mutual
def za6 : V → Bool
 | .undef | .skip | .ptr .. | .rptr .. | .eptr .. | .adr .. | .box _ | .arr .. | .map _ => false
 | .fn f first cap => (match f with | .yield _ => false | _ => true) && zaM first && zaM cap
 | .iface _ v => za6 v
 | .agg cs => zaM cs
 | .tuple cs => zaM cs
 | _ => true
def zaM : List V → Bool
 | [] => true
 | v :: l => za6 v && zaM l
end
mutual
def below (n : Nat) : V → Bool
 | .ptr id _ => Nat.blt id n
 | .eptr id _ _ _ _ => Nat.blt id n
 | .arr id _ _ => Nat.blt id n
 | .map id => Nat.blt id n
 | .fn f first cap => (match f with
  | .yield id => Nat.blt id n
  | _ => true) && (zbK n first && zbK n cap)
 | .iface _ v => below n v
 | .agg cs => zbK n cs
 | .tuple cs => zbK n cs
 | .box cs => zbK n cs
 | _ => true
def zbK (n : Nat) : List V → Bool
 | [] => true
 | v :: l => below n v && zbK n l
end
def za8 (n : Nat) : List Ob → Bool
 | [] => true
 | .cells cs :: l => zbK n cs && za8 n l
 | _ :: l => za8 n l
def zdS : Nat → List Ob → List Ob
 | 0, _ => []
 | _ + 1, [] => []
 | n + 1, o :: l => o :: zdS n l
def zfW (n : Nat) (s : St) (k : St → Option R) : Option R := match Nat.ble s.h.length n with
 | true => k s
 | false => match zbK n s.t && za8 n (zdS n s.h) with
  | true => k ⟨s.t, zdS n s.h⟩
  | false => none
def zak (h : List Ob) (id len : Nat) : Option (List (List V)) :=
 match zav h id with
 | some (.arr _ _ rows) => if len = rows.length then some rows else none
 | _ => none
def ifK (b : Bool) (k : Option R) : Option R := match b with
 | true => k
 | false => none
def zby (h : List Ob) (v : V) (k : V → Option R) : Option R :=
 match v with
 | .arr id len _ => (zak h id len).bind fun rows => k (.slice .any rows)
 | .slice _ rows => k (.slice .any rows)
 | v => ifK (za6 v) (k v)
def zbV (h : List Ob) : List V → (List V → Option R) → Option R
 | [], k => k []
 | v :: l, k => zby h v fun v => zbV h l fun l => k (v :: l)
def zbg (h : List Ob) (v : V) (k : V → Option R) : Option R :=
 match v with
 | .agg cs => zbV h cs fun cs => k (.agg cs)
 | v => zby h v k
def zaX (h : List Ob) : List V → (List V → Option R) → Option R
 | [], k => k []
 | v :: l, k => zbg h v fun v => zaX h l fun l => k (v :: l)
def zbG (h : List Ob) (v : V) (k : V → Option R) : Option R :=
 match v with
 | .tuple vs => zaX h vs fun vs => k (.tuple vs)
 | v => zbg h v k
def zea (h : List Ob) : V → List Ob
 | .arr id _ _ => match zav h id with
  | some (.arr _ sz rows) => zah h id (.arr false sz rows)
  | _ => h
 | _ => h
def zhA (h : List Ob) : List V → List Ob
 | [] => h
 | v :: l => zhA (zea h v) l
def zer (h : List Ob) : V → List Ob
 | .agg cs => zhA h cs
 | v => zea h v
def zhe (h : List Ob) : List V → List Ob
 | [] => h
 | v :: l => zhe (zer h v) l
def retK (h : List Ob) (v : V) (k : V → List Ob → Option R) : Option R :=
 match v with
 | .arr id len sz => zby h (.arr id len sz) fun u => k u (zea h (.arr id len sz))
 | v => k v h
def zc8 : V → Bool
 | .arr .. => true
 | .agg cs => cs.any fun v => match v with
  | .arr .. => true
  | _ => false
 | _ => false
def zi8 (op : BinOp) (k : IntKind) (x y : Int) : Option V :=
 match op with
 | .add => some (.int k (k.wrap (x + y)))
 | .sub => some (.int k (k.wrap (x - y)))
 | .mul => some (.int k (k.wrap (x * y)))
 | .eql => some (.bool (x == y))
 | .neq => some (.bool (x != y))
 | .lss => some (.bool (decide (x < y)))
 | .leq => some (.bool (decide (x ≤ y)))
 | .gtr => some (.bool (decide (x > y)))
 | .geq => some (.bool (decide (x ≥ y)))
 | .and => some (.int k (k.wrap ((BitVec.ofInt k.bits x &&& BitVec.ofInt k.bits y).toNat)))
 | .or => some (.int k (k.wrap ((BitVec.ofInt k.bits x ||| BitVec.ofInt k.bits y).toNat)))
 | .xor => some (.int k (k.wrap ((BitVec.ofInt k.bits x ^^^ BitVec.ofInt k.bits y).toNat)))
 | .andNot => some (.int k (k.wrap ((BitVec.ofInt k.bits x &&& ~~~BitVec.ofInt k.bits y).toNat)))
 | _ => none
def zdD : TypeDesc → V → V → Option Bool
 | .bool, .bool a, .bool b => some (a == b)
 | .int _, .int k a, .int k' b => if kEq k k' then some (a == b) else none
 | .string, .str a, .str b => some (a == b)
 | _, _, _ => none
def zb3 (u : TypeDesc) : List V → List V → Option Bool
 | [x], [y] => zdD u x y
 | _, _ => none
def zhB (P : Program) (E : TypeId → List V → List V → Option Bool) (xs ys : List V) : List Field → Option Bool
  | [] => some true
  | f :: fs => match f.name == "_" with
    | true => none
    | false => match zab P f.type with
      | some (ag, n) => (part ag n xs f.offset).bind fun x => (part ag n ys f.offset).bind fun y => (E f.type (cellsOf x) (cellsOf y)).bind fun r => (zhB P E xs ys fs).bind fun q => some (r && q)
      | none => none
def ze7 (E : List V → List V → Option Bool) (ag : Bool) (n : Nat) (xs ys : List V) : Nat → Nat → Option Bool
 | 0, _ => some true
 | m + 1, i => (part ag n xs (i * n)).bind fun x => (part ag n ys (i * n)).bind fun y => (E (cellsOf x) (cellsOf y)).bind fun r => (ze7 E ag n xs ys m (i + 1)).bind fun q => some (r && q)
def eqT (P : Program) : Nat → TypeId → List V → List V → Option Bool
 | 0, _, _, _ => none
 | d + 1, t, xs, ys => match P.underlying t with
  | some (.struct fs) => match P.stoodInHeld t with
   | true => none
   | false => zhB P (eqT P d) xs ys fs.toList
  | some (.array len e) => match zab P e with
   | some (ag, n) => ze7 (eqT P d e) ag n xs ys len 0
   | none => none
  | some u => zb3 u xs ys
  | none => none
def ze8 (P : Program) (t : TypeId) : Option (TypeId × Bool × Nat × TypeId × Bool × Nat) :=
 match P.underlying t with
 | some (.map kt vt) => match zab P kt, zab P vt with
  | some (ka, kn), some (va, n) => some (kt, ka, kn, vt, va, n)
  | _, _ => none
 | _ => none
def zaw (eq : List V → List V → Option Bool) (key : List V) : List (List V × List V) → Option (Option Nat)
 | [] => some none
 | e :: l => (eq key e.1).bind fun b => cond b (some (some 0)) ((zaw eq key l).bind fun r => some (r.map (· + 1)))
def zeG (es : List (List V × List V)) (i : Nat) : Option (List V) := (es[i]?).map (·.2)
def zeH (es : List (List V × List V)) (r : Option Nat) (key new : List V) : List (List V × List V) := match r with
 | some i => es.set i (key, new)
 | none => es ++ [(key, new)]
def zcV (es : List (List V × List V)) (r : Option Nat) (key z : List V) : List (List V × List V) := match r with
 | some _ => es
 | none => es ++ [(key, z)]
def zbW (es : List (List V × List V)) (r : Option Nat) : Nat := match r with
 | some i => i
 | none => es.length
def zfS (es : List (List V × List V)) (i : Nat) (new : List V) : List (List V × List V) := es.modify i fun e => (e.1, new)
def zgi (P : Program) : Nat → TypeId → Nat → List Nat
 | 0, _, _ => []
 | d + 1, t, off => match P.underlying t with
  | some (.struct fs) => fs.toList.flatMap fun f => zgi P d f.type (off + f.offset)
  | some (.array len e) => match zab P e with
   | some (_, n) => (List.range len).flatMap fun i => zgi P d e (off + i * n)
   | none => []
  | some _ => [off]
  | none => []
def zi9 (l : List Nat) : Nat → Bool
 | 0 => true
 | n + 1 => zeF n l && zi9 l n
def zdr (P : Program) (kt : TypeId) (ka : Bool) (kn : Nat) (v : V) : Bool := (eqT P 8 kt (cellsOf v) (cellsOf v)).isSome && (zaM (cellsOf v) && (Nat.beq (cellsOf v).length kn && (zi9 (zgi P 8 kt 0) kn && (match v with
 | .agg _ => ka
 | _ => !ka))))
def zja (P : Program) (t : TypeId) (ag : Bool) : Bool := match P.info? t with
 | some i => match i.zero with
  | some (.agg _) => ag
  | some _ => !ag
  | none => false
 | none => false
def zcx (h : List Ob) (id : Nat) (ka va : Bool) (kn : Nat) : Option (List (List V × List V)) := match zav h id with
 | some (.map ka' va' kn' es) => match (ka == ka') && ((va == va') && Nat.beq kn kn') with
  | true => some es
  | false => none
 | _ => none
def zkE : V → Option Bool
 | .slice .nil _ => some true
 | .slice .nn _ => some false
 | .slice _ (_ :: _) => some false
 | _ => none
def zfs {R : Type} (i : Int) (k : Nat → Option R) : Nat → Nat → Option R
 | 0, _ => none
 | m + 1, j => cond (decide (i = (j : Int))) (k j) (zfs i k m (j + 1))
def hasFn : List V → Bool
 | [] => false
 | .fn .. :: _ => true
 | _ :: l => hasFn l
def zjb (row : List V) (off n : Nat) : Option (List V) := if off + n ≤ row.length then some ((row.drop off).take n) else none
def mkV (ag : Bool) (cs : List V) : V := match ag with
 | true => .agg cs
 | false => match cs with
  | [v] => v
  | _ => .undef
def zhC {R : Type} (sh : List Sh) (ag : Bool) (n : Nat) (cs : List V) (off : Nat) (k : V → Option R) : Option R :=
 match zg0 cs with
 | some _ => zdR ag n cs off k
 | none => match sh, ag, zgg cs with
  | [.int q], false, some ns => cond (zel q off 0 cs) ((za5 ns off).bind fun x => k (.int q x)) none
  | _, _, _ => zdR ag n cs off k
theorem zfX {R : Type} (sh : List Sh) (ag : Bool) (n : Nat) (cs : List V) (off : Nat) (k : V → Option R) : zhC sh ag n cs off k = (zhC sh ag n cs off some).bind k := by
 have h1 : zdR ag n cs off k = (zdR ag n cs off some).bind k := by
  rw [zcc, zcc]; cases zi7 ag n cs off <;> rfl
 unfold zhC
 split
 ·exact h1
 ·split
  ·cases zel _ off 0 cs
   ·rfl
   ·simp only [cond_true]; rw [Option.bind_assoc]; rfl
  ·exact h1
def zbP (s : St) (a : V) (ag : Bool) (n : Nat) (sh : List Sh) (k : V → Option R) : Option R :=
 match a with
 | .box cs => (part ag n cs 0).bind k
 | .adr j off => match nth s.t j with
  | .box cs => zhC sh ag n cs off k
  | _ => none
 | .rptr row off => zhC sh ag n row off k
 | .ptr id off => match zav s.h id with
  | some (.cells cs) => (part ag n cs off).bind k
  | _ => none
 | .eptr id len sz i off => ifK (Nat.beq sh.length n && Nat.blt 0 n) <| (zak s.h id len).bind fun rows => (zS rows i sz).bind fun row => (zjb row off n).bind fun cs => zbS sh cs fun cs => k (mkV ag cs)
 | _ => none
def zeI (cs : List V) (off : Nat) (new : List V) : Bool := Nat.ble (off + new.length) cs.length
def zjc (cs : List V) (off : Nat) (new : List V) : Option (List V) :=
 match new with
 | [.int k' x] => match zg0 cs with
  | some (k, ns) => match kEq k k' with
   | true => cond (Nat.blt off ns.length) (some (zj9 k x off 0 ns)) none
   | false => none
  | none => match zgg cs with
   | some _ => cond (zel k' off 0 cs) (some (zhz k' x off 0 cs)) none
   | none => cond (zeI cs off new) (some (splice cs off new)) none
 | _ => cond (zeI cs off new) (some (splice cs off new)) none
def zlE {R : Type} (cs : List V) (off : Nat) (new : List V) (k : List V → Option R) : Option R :=
 match new with
 | [.int k' x] => match zg0 cs with
  | some (kd, ns) => match kEq kd k' with
   | true => cond (Nat.blt off ns.length) (k (zj9 kd x off 0 ns)) none
   | false => none
  | none => match zgg cs with
   | some _ => cond (zel k' off 0 cs) (k (zhz k' x off 0 cs)) none
   | none => cond (zeI cs off new) (k (splice cs off new)) none
 | _ => cond (zeI cs off new) (k (splice cs off new)) none
theorem zdE {R : Type} (cs : List V) (off : Nat) (new : List V) (k : List V → Option R) : zlE cs off new k = (zjc cs off new).bind k := by
 have hc : ∀ (b : Bool) (r : List V), cond b (k r) none = (cond b (some r) none).bind k := fun b r => by cases b <;> rfl
 unfold zlE zjc
 split
 ·split
  ·split
   ·exact hc _ _
   ·rfl
  ·split
   ·exact hc _ _
   ·exact hc _ _
 ·exact hc _ _
def zb9 (s : St) (slot : Nat) (a : V) (new : List V) (k : St → Option R) : Option R :=
 match a with
 | .box cs => ifK (zeI cs 0 new) (k ⟨upd s.t slot (.box (splice cs 0 new)), s.h⟩)
 | .adr j off => match nth s.t j with
  | .box cs => zlE cs off new fun r => k ⟨upd s.t j (.box r), s.h⟩
  | _ => none
 | .ptr id off => match zav s.h id with
  | some (.cells cs) => ifK (zeI cs off new) (k ⟨s.t, zah s.h id (.cells (splice cs off new))⟩)
  | _ => none
 | .eptr id len sz i off => match zav s.h id with
  | some (.arr true sz' rows) => ifK (Nat.beq sz sz' && Nat.ble (off + new.length) sz && zaM new) <| cond (decide (len = rows.length)) (k ⟨s.t, zah s.h id (.arr true sz' (rows.set i (splice (rows.getD i []) off new)))⟩) none
  | _ => none
 | _ => none
def St.put (s : St) (d : Option Nat) (v : V) : St :=
 match d with
 | none => s
 | some i => ⟨upd s.t i v, s.h⟩
def zag : Nat := 140737488355328
def zcW (h : List Ob) (v : V) (k : List (List V) → Option R) : Option R :=
 match v with
 | .slice _ rows => k rows
 | .arr id len _ => (zak h id len).bind k
 | _ => none
def zaN (sz : Nat) : List (List V) → Bool
 | [] => true
 | r :: _ => Nat.beq r.length sz
def zeJ (s : St) (sz b : Nat) (x : V) (new : List (List V)) (k : V → List Ob → Option R) : Option R :=
 match x with
 | .slice .nil [] | .slice .cap0 [] =>
  cond (decide (new.length * b ≤ zag)) (k (.arr s.h.length new.length sz) (s.h ++ [.arr true sz new])) none
 | .arr id len sz' => match zav s.h id with
  | some (.arr w q rows) => ifK (Nat.beq sz sz' && Nat.beq sz q) <| cond (decide (len = rows.length)) (cond (decide ((rows.length + new.length) * b ≤ zag)) (k (.arr id (len + new.length) sz) (zah s.h id (.arr w sz (rows ++ new)))) none) none
  | _ => none
 | _ => none
def zbL (s : St) (sz b : Nat) (x y : V) (k : V → List Ob → Option R) : Option R :=
 zcW s.h y fun new => cond (zaN sz new) (zeJ s sz b x new k) none
def zpP : V → Option Nat
 | .slice _ rows => some rows.length
 | .arr _ len _ => some len
 | .str s => some s.size
 | _ => none
def min2 : V → V → Option V
 | .int k x, .int k' y => if kEq k k' then some (.int k (if y < x then y else x)) else none
 | _, _ => none
def max2 : V → V → Option V
 | .int k x, .int k' y => if kEq k k' then some (.int k (if y > x then y else x)) else none
 | _, _ => none
def zgM (f : V → V → Option V) : V → List V → Option V
 | v, [] => some v
 | v, x :: l => match f v x with
  | some u => zgM f u l
  | none => none
def slFl : Fl → Fl
 | .nil => .nil
 | _ => .any
def zdF (v : Option V) (dflt top : Nat) (k : Nat → Option R) : Option R :=
 match v with
 | none => k dflt
 | some (.int _ i) => cond (decide (0 ≤ i)) (cond (decide (i.toNat ≤ top)) (k i.toNat) none) none
 | some _ => none
def zdT (s : St) (place : Nat → Option (Nat × Nat)) : List (Nat × Operand) → List V → Option (List V)
 | [], cs => some cs
 | (i, x) :: l, cs => match place i with
  | some (off, n) =>
   let new := cellsOf (zo s x)
   if Nat.beq new.length n && Nat.blt 0 n && zeI cs off new then zdT s place l (splice cs off new) else none
  | none => none
def znd : Nat → Fl
 | 0 => .cap0
 | _ + 1 => .any
def zdU (sz : Nat) : Nat → List V → List (List V)
 | 0, _ => []
 | n + 1, cs => zi4 sz cs :: zdU sz n (zek sz cs)
def zt2 (G : Cfg) (n : Nat) : Fn → Option (V × List Ob)
 | .func f => G.sh f n
 | _ => none
def shares (G : Cfg) : Fn → Bool
 | .func n => match G.sh n 0 with
  | some _ => true
  | none => false
 | _ => true
def capOk : Fn → List V → Bool
 | .yield _, _ :: _ => false
 | _, _ => true
def zA (G : Cfg) (C : CallT) (f : FuncId) (dr : Bool) (o : Oper) (s : St) (k : St → Option R) : Option R :=
 match o.op with
 | .move x => k (s.put o.dst (view (zo s x)))
 | .assign x => match o.dst with
  | some d => match zeF d (G.acc f), zo s x, zaW G.P o.type with
   | true, .slice .nil [], some (_, sz, _) | true, .slice .cap0 [], some (_, sz, _) => ifK (!dr && Nat.blt 0 sz) (k ⟨upd s.t d (.arr s.h.length 0 sz), s.h ++ [.arr true sz []]⟩)
   | _, v, _ => k (s.put o.dst (view v))
  | none => k s
 | .pick c a b => match zo s c with
  | .bool q => cond q (k (s.put o.dst (view (zo s a)))) (k (s.put o.dst (view (zo s b))))
  | _ => none
 | .alloc t => match o.dst, zeroCells G.P t with
  | some d, some z => match zeF d (G.esc f) with
   | false => k ⟨upd (s.t.map (zbk d)) d (.box z), s.h⟩
   | true => ifK (!dr) <| match zeF d (G.acc f), z, zaW G.P t with
    | true, [.slice .nil []], some (_, sz, _) => ifK (Nat.blt 0 sz) (k ⟨upd (s.t.map (zbk d)) d (.ptr (s.h.length + 1) 0), s.h ++ [.arr true sz [], .cells [.arr s.h.length 0 sz]]⟩)
    | _, z, _ => k ⟨upd (s.t.map (zbk d)) d (.ptr s.h.length 0), s.h ++ [.cells z]⟩
  | _, _ => none
 | .box t x => match o.dst with
  | some d => ifK (Nat.blt 0 (cellsOf (zo s x)).length) <| match zeF d (G.esc f) with
   | false => k ⟨upd (s.t.map (zbk d)) d (.box (cellsOf (zo s x))), s.h⟩
   | true => ifK (!dr) <| match zeF d (G.acc f), zo s x, zaW G.P t with
    | true, .slice .nil [], some (_, sz, _) => ifK (Nat.blt 0 sz) (k ⟨upd (s.t.map (zbk d)) d (.ptr (s.h.length + 1) 0), s.h ++ [.arr true sz [], .cells [.arr s.h.length 0 sz]]⟩)
    | true, .agg cs, none => match zdP G.P t with
     | some (_, sz, n) => ifK (Nat.blt 0 sz && (Nat.blt 0 n && (Nat.beq cs.length (n * sz) && zaM cs))) (k ⟨upd (s.t.map (zbk d)) d (.eptr s.h.length n sz 0 0), s.h ++ [.arr true sz (zdU sz n cs)]⟩)
     | none => none
    | _, v, _ => k ⟨upd (s.t.map (zbk d)) d (.ptr s.h.length 0), s.h ++ [.cells (cellsOf v)]⟩
  | none => none
 | .build t parts => match zeroCells G.P t, G.P.underlying t with
  | some z, some (.struct fs) => match fs.toList.mapM (fun f => (G.P.info? f.type).map fun i => (f.offset, i.size)) with
   | some places => (zdT s (fun i => places[i]?) parts.toList z).bind fun cs => ifK (!dr || !zc8 (.agg cs)) <| zbg s.h (.agg cs) fun v => k ⟨(s.put o.dst v).t, zer s.h (.agg cs)⟩
   | none => none
  | some z, some (.array _ e) => match G.P.info? e with
   | some ie => (zdT s (fun i => some (i * ie.size, ie.size)) parts.toList z).bind fun cs => ifK (!dr || !zc8 (.agg cs)) <| zbg s.h (.agg cs) fun v => k ⟨(s.put o.dst v).t, zer s.h (.agg cs)⟩
   | none => none
  | _, _ => none
 | .buildSlice t len parts => match zaW G.P t with
  | some (e, n, _) => match zeroCells G.P e with
   | some z => ifK (Nat.beq z.length n && Nat.blt 0 n && Nat.ble (len * n) 16777216) <|
    (zdT s (fun i => some (i * n, n)) parts.toList ((List.replicate len z).flatten)).bind fun cs => ifK (!dr || !zc8 (.agg cs)) <|
     zbg s.h (.agg cs) fun v => k ⟨(s.put o.dst (.slice (znd len) (zdU n len (cellsOf v)))).t, zer s.h (.agg cs)⟩
   | none => none
  | none => none
 | .load t a => match zab G.P t with
  | some (ag, n) => zbP s (zc5 G s a) ag n (zdQ G.P 8 t) fun v => k (s.put o.dst (view v))
  | none => none
 | .store t a x => match zab G.P t, a, o.dst with
  | some (_, n), .tmp i, none =>
   let new := cellsOf (zo s x)
   ifK (Nat.beq new.length n && Nat.blt 0 n) (zb9 s i (nth s.t i) new k)
  | _, _, _ => none
 | .nilCheck x => match zo s x, x with
  | .box _, .tmp i => k (s.put o.dst (.adr i 0))
  | .adr i off, _ => k (s.put o.dst (.adr i off))
  | .ptr id off, _ => k (s.put o.dst (.ptr id off))
  | .rptr row off, _ => k (s.put o.dst (.rptr row off))
  | .fn (.func g) first cap, _ => k (s.put o.dst (.fn (.func g) first cap))
  | _, _ => none
 | .binOp op t x y _ => match zo s x, zo s y with
  | .int k1 a, .int k2 b => match op with
   | .quo => ifK (kEq k1 k2) (cond (b == 0) none (k (s.put o.dst (.int k1 (k1.wrap (a.tdiv b))))))
   | .rem => ifK (kEq k1 k2) (cond (b == 0) none (k (s.put o.dst (.int k1 (a.tmod b)))))
   | .shl => cond (decide (b < 0)) none (k (s.put o.dst (.int k1 (k1.wrap (a * 2 ^ (min b.toNat k1.bits))))))
   | .shr => cond (decide (b < 0)) none (k (s.put o.dst (.int k1 (a.fdiv (2 ^ (min b.toNat k1.bits))))))
   | op => ifK (kEq k1 k2) ((zi8 op k1 a b).bind fun v => k (s.put o.dst v))
  | .bool a, .bool b => match op, G.P.underlying t with
   | .eql, some .bool => k (s.put o.dst (.bool (a == b)))
   | .neq, some .bool => k (s.put o.dst (.bool (!(a == b))))
   | _, _ => none
  | .slice fl rows, .slice .nil [] => ifK (match G.P.underlying t with | some (.slice _) => true | _ => false) <| match op with
   | .eql => (zkE (.slice fl rows)).bind fun b => k (s.put o.dst (.bool b))
   | .neq => (zkE (.slice fl rows)).bind fun b => k (s.put o.dst (.bool (!b)))
   | _ => none
  | .agg xs, .agg ys => ifK (!G.P.eqGuardType G.P.depth t && (match G.P.underlying t with | some (.struct _) | some (.array ..) => true | _ => false)) <| match op with
   | .eql => (eqT G.P 8 t xs ys).bind fun b => k (s.put o.dst (.bool b))
   | .neq => (eqT G.P 8 t xs ys).bind fun b => k (s.put o.dst (.bool (!b)))
   | _ => none
  | _, _ => none
 | .unOp op _ x => match op, zo s x with
  | .neg, .int q n => k (s.put o.dst (.int q (q.wrap (0 - n))))
  | .not, .bool b => k (s.put o.dst (.bool (!b)))
  | _, _ => none
 | .convert src dst x => match G.P.underlying src, G.P.underlying dst, zo s x with
  | some _, some (.int q), .int _ n => k (s.put o.dst (.int q (q.wrap n)))
  | _, _, _ => none
 | .makeFunc (.func g) first captured => k (s.put o.dst (.fn (.func g) (first.toList.map fun x => view (zo s x)) (captured.toList.map fun x => view (zo s x))))
 | .fieldAddr t x fd => match fieldAt G.P t fd with
  | some (off, ft) => match zab G.P ft with
   | some (_, n) => ifK (Nat.blt 0 n) <| match zc5 G s x, x with
    | .box _, .tmp i => k (s.put o.dst (.adr i off))
    | .adr i o', _ => k (s.put o.dst (.adr i (o' + off)))
    | .ptr id o', _ => k (s.put o.dst (.ptr id (o' + off)))
    | .rptr row o', _ => k (s.put o.dst (.rptr row (o' + off)))
    | .eptr id len sz i o', _ => k (s.put o.dst (.eptr id len sz i (o' + off)))
    | _, _ => none
   | none => none
  | none => none
 | .field t x fd => match fieldAt G.P t fd, zo s x with
  | some (off, ft), .agg cs => match zab G.P ft with
   | some (ag, n) => (part ag n cs off).bind fun v => k (s.put o.dst (view v))
   | none => none
  | _, _ => none
 | .indexAddr t x ix => match zo s ix with
  | .int _ i => match zaW G.P t with
   | some (e, sz, _) => ifK (Nat.blt 0 sz) <| match zo s x with
    | .slice _ rows => (zS rows i sz).bind fun row => zbS (zdQ G.P 8 e) row fun row => k (s.put o.dst (.rptr row 0))
    | .arr id len sz' => ifK (Nat.beq sz sz') <| cond (decide (0 ≤ i)) (cond (decide (i.toNat < len)) (k (s.put o.dst (.eptr id len sz i.toNat 0))) none) none
    | _ => none
   | none => match zdP G.P t with
    | some (_, sz, n) => ifK (Nat.blt 0 sz) <| match zc5 G s x, x with
     | .box _, .tmp j => cond (decide (0 ≤ i)) (cond (decide (i.toNat < n)) (k (s.put o.dst (.adr j (i.toNat * sz)))) none) none
     | .adr j o', _ => cond (decide (0 ≤ i)) (cond (decide (i.toNat < n)) (k (s.put o.dst (.adr j (o' + i.toNat * sz)))) none) none
     | .rptr row o', _ => match hasFn row with
      | true => zfs i (fun j => k (s.put o.dst (.rptr row (o' + j * sz)))) n 0
      | false => cond (decide (0 ≤ i)) (cond (decide (i.toNat < n)) (k (s.put o.dst (.rptr row (o' + i.toNat * sz)))) none) none
     | _, _ => none
    | none => none
  | _ => none
 | .slice t x lo hi none => match zaW G.P t, zo s x with
  | some (_, sz, _), .slice fl rows =>
   zdF (hi.map (zo s)) rows.length rows.length fun h => zdF (lo.map (zo s)) 0 h fun l => cond (match lo with | none => true | some _ => zaN sz rows)
    (k (s.put o.dst (.slice (slFl fl) ((rows.take h).drop l)))) none
  | none, .eptr id len sz 0 0 => match lo, hi, zdP G.P t with
   | none, none, some (_, sz', n) => ifK (Nat.beq sz sz' && (Nat.beq len n && (Nat.blt 0 sz && Nat.blt 0 len))) <| match zav s.h id with
    | some (.arr _ sz2 rows) => ifK (Nat.beq sz sz2) <| cond (decide (len = rows.length)) (k (s.put o.dst (.arr id len sz))) none
    | _ => none
   | _, _, _ => none
  | _, _ => none
 | .index t x ix => match G.P.underlying t, zo s x, zo s ix with
  | some .string, .str b, .int _ i => (strAt b i).bind fun n => k (s.put o.dst (.int .u8 n))
  | some (.array n e), .agg cs, .int _ i => match zab G.P e with
   | some (ag, sz) => cond (decide (0 ≤ i)) (cond (decide (i.toNat < n)) (zdR ag sz cs (i.toNat * sz) fun v => k (s.put o.dst (view v))) none) none
   | none => none
  | _, _, _ => none
 | .makeMap t none => match o.dst, ze8 G.P t with
  | some _, some (_, ka, kn, _, va, _) => ifK (!dr) (k ⟨(s.put o.dst (.map s.h.length)).t, s.h ++ [.map ka va kn []]⟩)
  | _, _ => none
 | .lookup t x ix ok => match ze8 G.P t, zo s x with
  | some (kt, ka, kn, vt, va, n), .map id => (zcx s.h id ka va kn).bind fun es => ifK (Nat.blt 0 n && (zdr G.P kt ka kn (zo s ix) && (zja G.P vt va && Nat.beq (zdQ G.P 8 vt).length n))) <|
   (zaw (eqT G.P 8 kt) (cellsOf (zo s ix)) es).bind fun r => match r with
    | some i => (zeG es i).bind fun row => zbS (zdQ G.P 8 vt) row fun row => k (s.put o.dst (match ok with
     | true => .tuple [mkV va row, .bool true]
     | false => view (mkV va row)))
    | none => match zeroCells G.P vt with
     | some z => zbS (zdQ G.P 8 vt) z fun row => k (s.put o.dst (match ok with
      | true => .tuple [mkV va row, .bool false]
      | false => view (mkV va row)))
     | none => none
  | _, _ => none
 | .mapUpdate t x ix v => match ze8 G.P t, zo s x, o.dst with
  | some (kt, ka, kn, _, va, n), .map id, none => (zcx s.h id ka va kn).bind fun es => ifK (!dr && (Nat.blt 0 n && (zdr G.P kt ka kn (zo s ix) && (Nat.beq (cellsOf (zo s v)).length n && (zaM (cellsOf (zo s v)) && (match zo s v with
   | .agg _ => va
   | _ => !va)))))) <|
   (zaw (eqT G.P 8 kt) (cellsOf (zo s ix)) es).bind fun r => k ⟨s.t, zah s.h id (.map ka va kn (zeH es r (cellsOf (zo s ix)) (cellsOf (zo s v))))⟩
  | _, _, _ => none
 | .mapEntry t x ix => match ze8 G.P t, zo s x with
  | some (kt, ka, kn, vt, va, n), .map id => (zcx s.h id ka va kn).bind fun es => match zeroCells G.P vt with
   | some z => ifK (!dr && (Nat.blt 0 n && (zdr G.P kt ka kn (zo s ix) && (zja G.P vt va && (Nat.beq z.length n && zaM z))))) <|
    (zaw (eqT G.P 8 kt) (cellsOf (zo s ix)) es).bind fun r => k ⟨(s.put o.dst (.tuple [.undef, .int .i64 ((zbW es r : Nat) : Int)])).t, zah s.h id (.map ka va kn (zcV es r (cellsOf (zo s ix)) z))⟩
   | none => none
  | _, _ => none
 | .entryStore t x st v => match ze8 G.P t, zo s x, zo s st, o.dst with
  | some (_, ka, kn, _, va, n), .map id, .int .i64 i, none => (zcx s.h id ka va kn).bind fun es => ifK (!dr && (Nat.blt 0 n && (Nat.beq (cellsOf (zo s v)).length n && (zaM (cellsOf (zo s v)) && (match zo s v with
   | .agg _ => va
   | _ => !va))))) <|
   cond (decide (0 ≤ i)) (cond (decide (i.toNat < es.length)) (k ⟨s.t, zah s.h id (.map ka va kn (zfS es i.toNat (cellsOf (zo s v))))⟩) none) none
  | _, _, _, _ => none
 | .extract x i => match zo s x with
  | .tuple vs => match hgetV vs i with
   | some v => k (s.put o.dst (view v))
   | none => none
  | _ => none
 | .call c => match c.callee with
  | .builtin .len => match c.args.toList, c.argTypes.toList with
   | [x], [t] => ifK (match G.P.underlying t, zo s x with
    | some (.slice _), .slice .. | some (.slice _), .arr .. | some .string, .str _ => true
    | _, _ => false) <| (zpP (zo s x)).bind fun n => k (s.put o.dst (.int .i64 n))
   | _, _ => none
  | .builtin .min => match c.args.toList.map fun x => view (zo s x) with
   | x :: l => (zgM min2 x l).bind fun v => k (s.put o.dst v)
   | [] => none
  | .builtin .max => match c.args.toList.map fun x => view (zo s x) with
   | x :: l => (zgM max2 x l).bind fun v => k (s.put o.dst v)
   | [] => none
  | .builtin .append => match c.args.toList.map (fun x => view (zo s x)), c.argTypes.toList with
   | [x, y], [t, t'] => match zaW G.P t, zaW G.P t' with
    | some (e, sz, b), some _ => match zeroCells G.P e with
     | some z => ifK (Nat.beq z.length sz && Nat.blt 0 sz && Nat.blt 0 b && !dr) <| zbL s sz b x y fun v h => k ⟨(s.put o.dst v).t, h⟩
     | none => none
    | _, _ => none
   | _, _ => none
  | .value fx => match zo s fx with
   | .fn g first cap =>
    let args := first ++ ((c.args.toList.map fun x => view (zo s x)) ++ cap)
    ifK (capOk g cap) <| match (shares G g) || !(args.all fun v => za6 v || zc8 v) with
    | true => ifK (!dr) <| (C.s g args s.h).bind fun r => match zt2 G s.h.length g with
     | some (tv, tl) => z7 tv r.1 fun v => zcj (s.h ++ tl) r.2 fun h => ifK (below h.length v && za8 h.length h) <| k ⟨(s.put o.dst (view v)).t, h⟩
     | none => zc7 G.P o.type r.1 fun v => zcj s.h r.2 fun h => ifK (below h.length v && za8 h.length h) <| k ⟨(s.put o.dst (view v)).t, h⟩
    | false => ifK (!dr || !args.any zc8) <| zaX s.h args fun args' => (C.p g args').bind fun v => zc7 G.P o.type v fun v => k ⟨(s.put o.dst (view v)).t, zhe s.h args⟩
   | _ => none
  | _ => none
 | _ => none
where
 hgetV : List V → Nat → Option V
  | [], _ => none
  | v :: _, 0 => some v
  | _ :: l, n + 1 => hgetV l n
def zbX (e : Edge) : Bool := match e.ground with
 | .textOnly _ => false
 | .gcOnly _ => false
 | _ => true
def tmpOf : Operand → List Nat
 | .tmp i => [i]
 | _ => []
def zmf (all : List Oper) (o : Oper) : List Nat := match o.guard with
 | none => []
 | some (j, _) => match all[j]? with
  | some g => match g.dst with
   | some d => [d]
   | none => []
  | none => []
def zaE (all : List Oper) (o : Oper) : List Nat := o.op.operands.toList.flatMap tmpOf ++ zmf all o
def zaK (o : Oper) : Option Nat := match o.op with
 | .store _ (.tmp i) _ => some i
 | _ => o.dst
def zeK (w : Option Nat) (l : List Nat) : Bool := match w with
 | some d => zeF d l
 | none => false
def zkF (w w' : Option Nat) : Bool := match w, w' with
 | some d, some d' => Nat.beq d d'
 | _, _ => false
def zaF (o : Oper) : Bool := match o.op with
 | .store .. => true
 | _ => false
def zdV (all : List Oper) (y x : Oper) : Bool :=
 !(zeK (zaK y) (zaE all x)) && (!(zeK (zaK x) (zaE all y)) && (!(zkF (zaK y) (zaK x)) && !(zaF y && zaF x)))
def zin (j : Nat) : List Edge → Bool
 | [] => false
 | e :: l => (zbX e && Nat.beq e.on j) || zin j l
def zhf (x : Oper) (j : Nat) : Bool := zin j x.after.toList
def zjd (r : Oper → Bool) (all : List Oper) (j : Nat) : List Edge → Bool
 | [] => false
 | e :: l => (zbX e && (Nat.blt j e.on && (match all[e.on]? with
  | some z => r z
  | none => false))) || zjd r all j l
def zje (all : List Oper) (j : Nat) : Nat → Oper → Bool
 | 0, x => zhf x j
 | n + 1, x => zhf x j || zjd (zje all j n) all j x.after.toList
def zap (all : List Oper) (x : Oper) (j : Nat) : Bool := zje all j 16 x
def zgN (i : Nat) : List Edge → Bool
 | [] => true
 | e :: l => (!zbX e || Nat.blt e.on i) && zgN i l
def zjf (all : List Oper) (x : Oper) : List Oper → Nat → Bool
 | [], _ => true
 | y :: l, j => (zhf x j || (zdV all y x || zap all x j)) && zjf all x l (j + 1)
def zjg (all : List Oper) : List Oper → List Oper → Nat → Bool
 | [], _, _ => true
 | x :: l, done, i => zgN i x.after.toList && ((!zaF x || x.dst.isNone) && !(zeK x.dst (zaE all x)) && (zjf all x done 0 && zjg all l (done ++ [x]) (i + 1)))
def zio (all : List Oper) : Bool := zjg all all [] 0
def zdu (all : List Oper) (x : Oper) (i : Nat) : List Oper → Nat → Bool
 | [], _ => true
 | y :: l, j => (Nat.beq j i || (match Nat.blt j i with
  | true => zap all x j
  | false => zap all y i)) && zdu all x i l (j + 1)
def zcJ (all : List Oper) : List Oper → Nat → Bool
 | [], _ => true
 | x :: l, i => (!zaF x || zdu all x i all 0) && zcJ all l (i + 1)
def zaY (o : Oper) : Bool := match o.op with
 | .call c => match c.callee with
  | .value _ => true
  | .builtin .append => true
  | _ => false
 | .mapUpdate .. => true
 | .entryStore .. => true
 | _ => false
def zcK (x o : Oper) : Bool := match x.dst, o.dst with
 | some d, some e => Nat.beq d e
 | none, none => true
 | _, _ => false
def zhD (all : List Oper) (o : Oper) : List Oper → Nat → Bool
 | [], _ => true
 | x :: l, i => (!(zaY x && zcK x o) || zdu all x i all 0) && zhD all o l (i + 1)
def zdd (all : List Oper) (o : Oper) : Bool := zaY o && zhD all o all 0
def ze9 (o : Oper) : Bool := match o.op with
 | .mapEntry .. => true
 | _ => false
def opEq : Operand → Operand → Bool
 | .tmp i, .tmp j => Nat.beq i j
 | _, _ => false
def mate (y x : Oper) : Bool := match x.guard, y.guard, x.op, y.op with
 | none, none, .mapEntry t m a, .lookup t' m' a' false => Nat.beq t t' && (opEq m m' && opEq a a')
 | none, none, .mapEntry _ _ _, .binOp .add _ _ _ _ => true
 | none, none, .mapEntry _ _ _, .binOp .sub _ _ _ _ => true
 | _, _, _, _ => false
def zfa (all : List Oper) (x : Oper) (i : Nat) : List Oper → Nat → Bool
 | [], _ => true
 | y :: l, j => (Nat.beq j i || (match Nat.blt j i with
  | true => zap all x j || mate y x
  | false => zap all y i)) && zfa all x i l (j + 1)
def zhE (all : List Oper) (o : Oper) : List Oper → Nat → Bool
 | [], _ => true
 | x :: l, i => (!(ze9 x && zcK x o) || zfa all x i all 0) && zhE all o l (i + 1)
def zb4 (all : List Oper) (o : Oper) : Bool := ze9 o && zhE all o all 0
def zaZ (o : Oper) : Bool := match o.op with
 | .move _ | .convert .. | .unOp .. | .binOp .. | .extract .. | .fieldAddr .. | .index .. | .indexAddr .. => true
 | .load _ (.tmp _) => true
 | .nilCheck _ => true
 | .call c => match c.callee with
  | .builtin .min => true
  | .builtin .max => true
  | _ => false
 | _ => false
def zaH (o : Oper) : Option Nat := match o.op with
 | .load _ (.tmp a) => some a
 | _ => none
def zjh (o : Oper) : Option Nat := match o.op with
 | .store .. => none
 | _ => o.dst
def zfB (a : Nat) : List Oper → Bool
 | [] => true
 | y :: l => !(zeK (zjh y) [a]) && zfB a l
def zgO (all : List Oper) (y : Oper) : Bool := y.guard.isNone && (zaZ y && (match zaH y with
 | some a => zfB a all
 | none => true))
def zgj (all : List Oper) (x : Oper) (i : Nat) : List Oper → Nat → Bool
 | [], _ => true
 | y :: l, j => (Nat.beq j i || ((match Nat.blt j i with
  | true => zap all x j
  | false => zap all y i) || zgO all y)) && zgj all x i l (j + 1)
def zgk (all : List Oper) (o : Oper) : List Oper → Nat → Bool
 | [], _ => true
 | x :: l, i => (!(zaY x && zcK x o) || zgj all x i all 0) && zgk all o l (i + 1)
def zbx (all : List Oper) (o : Oper) : Bool := zaY o && (o.guard.isNone && zgk all o all 0)
def zkG : V → V → Bool
 | .ptr i o, .ptr i' o' => Nat.beq i i' && Nat.beq o o'
 | .map i, .map i' => Nat.beq i i'
 | _, _ => false
def zgb : List V → List V → Bool
 | [], [] => true
 | v :: l, v' :: l' => zkG v v' && zgb l l'
 | _, _ => false
def vEq : V → V → Bool
 | .fn (.func f) [] b, .fn (.func f') [] b' => Nat.beq f f' && zgb b b'
 | v, v' => zkG v v'
def zlF : List V → List V → Bool
 | [], [] => true
 | v :: l, v' :: l' => vEq v v' && zlF l l'
 | _, _ => false
def zcM : V → Bool
 | .box _ => false
 | .adr _ _ => false
 | _ => true
def zbM (s : St) (d : Option Nat) : Bool := match d with
 | some d => zcM (nth s.t d)
 | none => true
def zcy (y : Oper) (s s' : St) : Bool := match zaH y with
 | none => true
 | some a => match nth s.t a with
  | .box _ => true
  | .adr _ _ => true
  | .rptr _ _ => true
  | .ptr id _ => match zav s.h id, zav s'.h id with
   | some (.cells cs), some (.cells cs') => zlF cs cs'
   | _, _ => false
  | _ => false
def zfC (all : List Oper) (x : Oper) (i : Nat) (s s' : St) : List Oper → Nat → Bool
 | [], _ => true
 | y :: l, j => (Nat.beq j i || ((match Nat.blt j i with
  | true => zap all x j
  | false => zap all y i) || zcy y s s')) && zfC all x i s s' l (j + 1)
def zeL (all : List Oper) (o : Oper) (s s' : St) : List Oper → Nat → Bool
 | [], _ => true
 | x :: l, i => (!(zaY x && zcK x o) || zfC all x i s s' all 0) && zeL all o s s' l (i + 1)
def post (dr : Bool) (all : List Oper) (o : Oper) (s s' : St) : Bool := match dr with
 | false => true
 | true => !zbx all o || (zbM s o.dst && zeL all o s s' all 0)
def zce (dr : Bool) (all : List Oper) (o : Oper) : Bool := match dr with
 | false => false
 | true => !(zdd all o || (zbx all o || zb4 all o))
def zde (d : Nat) : List V → Bool
 | [] => true
 | .adr j _ :: l => !(Nat.beq d j) && zde d l
 | _ :: l => zde d l
def ziq (all : List Oper) (x : Oper) (i : Nat) : List Oper → Nat → Bool
 | [], _ => true
 | y :: l, j => (Nat.beq j i || (match Nat.blt j i with
  | true => zap all x j || (y.guard.isNone && zaZ y)
  | false => zap all y i)) && ziq all x i l (j + 1)
def zkH (all : List Oper) : List Oper → Nat → Bool
 | [], _ => true
 | x :: l, i => (!zaF x || (x.guard.isNone && ziq all x i all 0)) && zkH all l (i + 1)
def zkI (all : List Oper) : Bool := zkH all all 0
def zdG (id off : Nat) (s : St) (y : Oper) : Bool := match zaH y with
 | none => true
 | some a => match nth s.t a with
  | .ptr id' off' => !(Nat.beq id id') || Nat.blt off off'
  | .eptr _ _ _ _ _ => false
  | _ => true
def zfD (all : List Oper) (x : Oper) (i id off : Nat) (s : St) : List Oper → Nat → Bool
 | [], _ => true
 | y :: l, j => (!(Nat.blt j i) || (zap all x j || zdG id off s y)) && zfD all x i id off s l (j + 1)
def zji (x o : Oper) : Bool := match x.op, o.op with
 | .store _ (.tmp a) _, .store _ (.tmp b) _ => Nat.beq a b
 | _, _ => false
def zgl (all : List Oper) (o : Oper) (id off : Nat) (s : St) : List Oper → Nat → Bool
 | [], _ => true
 | x :: l, i => (!(zji x o) || zfD all x i id off s all 0) && zgl all o id off s l (i + 1)
def zir (d : Nat) : List Oper → Bool
 | [] => false
 | y :: l => (match zaH y with
  | some a => Nat.beq d a
  | none => false) || zir d l
def zjj (all : List Oper) (s : St) (d : Option Nat) : Bool := match d with
 | none => true
 | some d => match nth s.t d with
  | .ptr _ _ => !(zir d all) || (zcJ all all 0 || !(zkI all))
  | .eptr _ _ _ _ _ => !(zir d all) || (zcJ all all 0 || !(zkI all))
  | _ => true
def zc9 (all : List Oper) (s : St) (d : Option Nat) : Bool := zbM s d && zjj all s d
def zkJ : V → Bool
 | .adr _ _ => false
 | _ => true
def zdy (all : List Oper) (o : Oper) (s : St) : Bool := match o.op with
 | .alloc _ => match o.dst with
  | some d => zde d s.t && zkJ (nth s.t d)
  | none => true
 | .box _ _ => match o.dst with
  | some d => zde d s.t && zkJ (nth s.t d)
  | none => true
 | .store _ (.tmp i) v => match nth s.t i with
  | .box _ => zde i s.t
  | .ptr id off => zcJ all all 0 || (zkI all && (Nat.beq (cellsOf (zo s v)).length 1 && zgl all o id off s all 0))
  | _ => zcJ all all 0
 | _ => zc9 all s o.dst
def pre (dr : Bool) (all : List Oper) (o : Oper) (s : St) : Bool := match dr with
 | false => true
 | true => zdy all o s
def zdW (dr : Bool) (o : Oper) (s : St) : Bool := match dr with
 | false => true
 | true => zbM s o.dst
def zes (G : Cfg) (C : CallT) (f : FuncId) (dr : Bool) (all : List Oper) : List Oper → St → (St → Option R) → Option R
  | [], s, k => k s
  | o :: rest, s, k => match o.guard with
    | none => ifK (pre (zce dr all o) all o s) (zA G C f (zce dr all o) o s fun s' => ifK (post dr all o s s') (zes G C f dr all rest s' k))
    | some (j, want) => match all[j]? with
      | some g => match g.dst with
        | some d => match nth s.t d with
          | .bool b => cond b
            (match want with
             | true => ifK (pre (zce dr all o) all o ⟨upd s.t d (.bool true), s.h⟩) (zA G C f (zce dr all o) o ⟨upd s.t d (.bool true), s.h⟩ fun s => zes G C f dr all rest s k)
             | false => ifK (zdW (zce dr all o) o ⟨upd s.t d (.bool true), s.h⟩) (zes G C f dr all rest (St.put ⟨upd s.t d (.bool true), s.h⟩ o.dst .skip) k))
            (match want with
             | false => ifK (pre (zce dr all o) all o ⟨upd s.t d (.bool false), s.h⟩) (zA G C f (zce dr all o) o ⟨upd s.t d (.bool false), s.h⟩ fun s => zes G C f dr all rest s k)
             | true => ifK (zdW (zce dr all o) o ⟨upd s.t d (.bool false), s.h⟩) (zes G C f dr all rest (St.put ⟨upd s.t d (.bool false), s.h⟩ o.dst .skip) k))
          | .skip => ifK (zdW (zce dr all o) o s) (zes G C f dr all rest (s.put o.dst .skip) k)
          | _ => none
        | none => none
      | none => none
end Go.Ab
namespace Go.Ab
def LeO {R : Type} (a b : Option R) : Prop := ∀ r, a = some r → b = some r
theorem LeO.refl {R : Type} (a : Option R) : LeO a a := fun _ h => h
theorem LeO.none {R : Type} (b : Option R) : LeO Option.none b := fun _ h => by cases h
theorem LeO.trans {R : Type} {a b c : Option R} (h : LeO a b) (h' : LeO b c) : LeO a c := fun r hr => h' r (h r hr)
theorem LeO.bind {R S : Type} {a a' : Option R} {k k' : R → Option S} (h : LeO a a') (hk : ∀ r, LeO (k r) (k' r)) : LeO (a.bind k) (a'.bind k') := by
 intro r hr
 cases ha : a with
 | none => rw [ha] at hr; cases hr
 | some x =>
  rw [ha] at hr
  rw [h x ha]
  exact hk x r hr
theorem LeO.cond {R : Type} {b : Bool} {x x' y y' : Option R} (h : LeO x x') (h' : LeO y y') : LeO (cond b x y) (cond b x' y') := by cases b <;> assumption
theorem LeO.ifK {R : Type} {b : Bool} {x x' : Option R} (h : LeO x x') : LeO (Ab.ifK b x) (Ab.ifK b x') := by
 cases b
 ·exact LeO.none _
 ·exact h
def zdf (b : St → Option (Ex × St)) : Nat → St → Option (Ex × St)
 | 0, _ => none
 | n + 1, s => match b s with
  | some (.normal, s') => zdf b n s'
  | some (.exit id, s') => some (.exit id, s')
  | some (.ret, s') => some (.ret, s')
  | none => none
theorem zsO {b b' : St → Option (Ex × St)} (h : ∀ s, LeO (b s) (b' s)) : ∀ (n : Nat) (s : St), LeO (zdf b n s) (zdf b' n s) := by
 intro n
 induction n with
 | zero => intro s; exact LeO.none _
 | succ n ih =>
  intro s r hr
  simp only [zdf] at hr ⊢
  cases hb : b s with
  | none => rw [hb] at hr; cases hr
  | some p =>
   obtain ⟨e, s'⟩ := p
   rw [hb] at hr
   rw [h s _ hb]
   cases e with
   | normal => exact ih s' r hr
   | exit id => exact hr
   | ret => exact hr
theorem zkK {b : St → Option (Ex × St)} : ∀ (n m : Nat) (s : St), n ≤ m → LeO (zdf b n s) (zdf b m s) := by
 intro n
 induction n with
 | zero => intro m s _; exact LeO.none _
 | succ n ih =>
  intro m s hm r hr
  obtain ⟨m, rfl⟩ : ∃ k, m = k + 1 := ⟨m - 1, by omega⟩
  simp only [zdf] at hr ⊢
  cases hb : b s with
  | none => rw [hb] at hr; cases hr
  | some p =>
   obtain ⟨e, s'⟩ := p
   rw [hb] at hr
   cases e with
   | normal => exact ih m s' (by omega) r hr
   | exit id => exact hr
   | ret => exact hr
open Classical in
noncomputable def zal (b : St → Option (Ex × St)) (s : St) : Option (Ex × St) :=
 if h : ∃ r n, zdf b n s = some r then some (Classical.choose h) else none
theorem zdX {b : St → Option (Ex × St)} {s : St} {r : Ex × St} : zal b s = some r ↔ ∃ n, zdf b n s = some r := by
 unfold zal
 split
 ·rename_i h
  obtain ⟨n, hn⟩ := Classical.choose_spec h
  constructor
  ·intro e; cases e; exact ⟨n, hn⟩
  ·rintro ⟨m, hm⟩
   have h1 := zkK n (max n m) s (Nat.le_max_left _ _) _ hn
   have h2 := zkK m (max n m) s (Nat.le_max_right _ _) _ hm
   rw [h1] at h2; exact h2
 ·rename_i h
  constructor
  ·intro e; cases e
  ·rintro ⟨n, hn⟩; exact absurd ⟨r, n, hn⟩ h
theorem znl {b b' : St → Option (Ex × St)} (h : ∀ s, LeO (b s) (b' s)) (s : St) : LeO (zal b s) (zal b' s) := fun r hr => by
 obtain ⟨n, hn⟩ := zdX.1 hr
 exact zdX.2 ⟨n, zsO h n s r hn⟩
theorem zdg (b : St → Option (Ex × St)) (s : St) : zal b s = match b s with
  | some (.normal, s') => zal b s'
  | some (.exit id, s') => some (.exit id, s')
  | some (.ret, s') => some (.ret, s')
  | none => none := by
 apply Option.ext
 intro r
 rw [zdX]
 constructor
 ·rintro ⟨n, hn⟩
  cases n with
  | zero => cases hn
  | succ n =>
   simp only [zdf] at hn
   cases hb : b s with
   | none => rw [hb] at hn; cases hn
   | some p =>
    obtain ⟨e, s'⟩ := p
    rw [hb] at hn
    cases e with
    | normal => exact zdX.2 ⟨n, hn⟩
    | exit id => exact hn
    | ret => exact hn
 ·intro hr
  cases hb : b s with
  | none => rw [hb] at hr; cases hr
  | some p =>
   obtain ⟨e, s'⟩ := p
   rw [hb] at hr
   cases e with
   | normal => obtain ⟨n, hn⟩ := zdX.1 hr; exact ⟨n + 1, by simp only [zdf, hb]; exact hn⟩
   | exit id => exact ⟨1, by simp only [zdf, hb]; exact hr⟩
   | ret => exact ⟨1, by simp only [zdf, hb]; exact hr⟩
def zfE (live : List Nat) : Nat → List V → List V
 | _, [] => []
 | i, v :: l => (if zeF i live then v else .undef) :: zfE live (i + 1) l
def purge (live : Option (List Nat)) (s : St) : St :=
 match live with
 | some l => ⟨zfE l 0 s.t, s.h⟩
 | none => s
def znm : V → V
 | .slice _ r => .slice .any r
 | v => v
def zfb : List V → List V
 | [] => []
 | v :: l => znm v :: zfb l
def zkL : V → V
 | .box cs => .box (zfb cs)
 | .agg cs => .agg (zfb cs)
 | v => znm v
def zex : List V → List V
 | [] => []
 | v :: l => zkL v :: zex l
def zbz : List Ob → List Ob
 | [] => []
 | .cells cs :: l => .cells (zfb cs) :: zbz l
 | o :: l => o :: zbz l
def loose (s : St) : St := ⟨zex s.t, zbz s.h⟩
def zeb (n : Nat) : List (Nat × List Nat) → Option (List Nat)
 | [] => none
 | (m, l) :: r => if Nat.beq n m then some l else zeb n r
def zau : Code → Nat
 | .region id _ _ => id
 | .seq a _ => zau a
 | .block _ c => zau c
 | .scope c => zau c
 | .loop c => zau c
 | .cond _ a _ => zau a
 | _ => 0
structure Lv where
 loops : FuncId → List (Nat × List Nat)
 blocks : FuncId → List (Nat × List Nat)
 dead : FuncId → List Nat
 fz : FuncId → Nat → List Nat := fun _ _ => []
def zhF : List Nat → List V → List V → Option (List V)
 | [], [], t => some t
 | p :: ps, v :: vs, t => zhF ps vs (upd t p v)
 | _, _, _ => none
def zlG (i : Nat) : List Nat → List Nat
 | [] => []
 | j :: l => match Nat.beq i j with
  | true => zlG i l
  | false => j :: zlG i l
def zeM : Code → List Nat
 | .seq a b => zeM a ++ zeM b
 | .cond _ a b => zeM a ++ zeM b
 | .block i c => zlG i (zeM c)
 | .scope c => zeM c
 | .loop c => zeM c
 | .rangeFunc _ _ a c => zeM a ++ zeM c
 | .exit id => [id]
 | _ => []
def zgm : Code → Bool
 | .seq a b => zgm a || zgm b
 | .cond _ a b => zgm a || zgm b
 | .block _ c => zgm c
 | .scope c => zgm c
 | .loop c => zgm c
 | .rangeFunc _ _ a c => zgm a || zgm c
 | .ret => true
 | _ => false
def zjk {R : Type} (id : Nat) (k : Ex → Option R) : List Nat → Option R
 | [] => none
 | i :: l => cond (Nat.beq id i) (k (.exit i)) (zjk id k l)
def exK {R : Type} (rt : Bool) (ids : List Nat) (e : Ex) (k : Ex → Option R) : Option R := match e with
 | .normal => none
 | .ret => ifK rt (k .ret)
 | .exit id => zjk id k ids
def zfF {R : Type} (s0 s : St) (k : St → Option R) : Option R := zdq s.t s0.t 0 fun t => zcj s0.h s.h fun h => k ⟨t, h⟩
def zpQ (l : LoopA) : Option (Option Ex) := match l.st with
 | .busy => none
 | _ => some l.pend
def endK {R : Type} (rt : Bool) (ids : List Nat) (pe : Option Ex) (k : Ex → Option R) : Option R := match pe with
 | none => k .normal
 | some e => exK rt ids e k
def zey {R : Type} : List Nat → St → (St → Option R) → Option R
 | [], s, k => k s
 | i :: l, s, k => match nth s.t i with
  | .arr id len sz => (zak s.h id len).bind fun rows => zey l ⟨upd s.t i (.slice .any rows), zea s.h (.arr id len sz)⟩ k
  | _ => zey l s k
theorem zhG {R : Type} : ∀ (l : List Nat) (s : St) {k k' : St → Option R} (_ : ∀ s, LeO (k s) (k' s)), LeO (zey l s k) (zey l s k')
 | [], _, _, _, h => h _
 | i :: l, s, k, k', h => by
  unfold zey
  split
  ·exact LeO.bind (LeO.refl _) fun rows => zhG l _ h
  ·exact zhG l s h
noncomputable def zbQ (G : Cfg) (L : Lv) (C : CallT) (f : FuncId) (rd : Option Nat) : Code → (R : Type) → St → (Ex → St → Option R) → Option R
 | .skip, _, s, k => k .normal s
 | .scope c, R, s, k => zbQ G L C f rd c R s k
 | .label _, _, s, k => k .normal s
 | .region id ops d, _, s, k => ifK (!(zeF id (L.dead f)) && (!d || zio ops.toList)) (zey (L.fz f id) s fun s => zes G C f d ops.toList ops.toList s fun s => k .normal s)
 | .seq a b, R, s, k => zbQ G L C f rd a R s fun e s => match e with
  | .normal => zbQ G L C f rd b R s k
  | .exit id => k (.exit id) s
  | .ret => k .ret s
 | .cond c a b, R, s, k => match zo s c with
  | .bool t => cond t (zbQ G L C f rd a R s k) (zbQ G L C f rd b R s k)
  | _ => none
 | .block id c, R, s, k => zbQ G L C f rd c R s fun e s => match e with
  | .normal => k .normal (purge (zeb id (L.blocks f)) s)
  | .exit j => match Nat.beq j id with
   | true => k .normal (purge (zeb id (L.blocks f)) s)
   | false => k (.exit j) s
  | .ret => k .ret s
 | .loop c, _, s, k => (C.w (fun s => zbQ G L C f rd c (Ex × St) s fun e s1 => zfW s.h.length (purge (zeb (zau c) (L.loops f)) s1) fun s2 => some (e, s2)) (loose (purge (zeb (zau c) (L.loops f)) s))).bind fun p => exK (zgm c) (zeM c) p.1 fun e => zfF (purge (zeb (zau c) (L.loops f)) s) p.2 fun s => k e s
 | .exit id, _, s, k => k (.exit id) s
 | .ret, _, s, k => k .ret s
 | .rangeFunc x ps assign body, _, s, k => match zo s x with
  | .fn (.func g) first cap =>
   let ok := match rd with
    | none => true
    | some l => match zav s.h l with
     | some (.loop _) => true
     | _ => false
   ifK ok <| (C.s (.func g) (first ++ ([.fn (.yield s.h.length) [] []] ++ cap)) (s.h ++ [.loop ⟨.ready, none, s.t.map view, f, ps.toList, assign, body⟩])).bind fun r =>
    zcj (s.h ++ [.loop ⟨.ready, none, s.t.map view, f, ps.toList, assign, body⟩]) r.2 fun h => ifK (za8 h.length h) <| match zav h s.h.length with
    | some (.loop lp) => (zpQ lp).bind fun pe => endK (zgm body) (zeM body) pe fun e => ifK (za8 s.h.length (zdS s.h.length h)) <| k e ⟨s.t, zdS s.h.length h⟩
    | _ => none
  | _ => none
 | _, _, _, _ => none
def zdh (n : Nat) : Code → Option Code
 | .loop c => match Nat.beq (zau c) n with
  | true => some c
  | false => zdh n c
 | .seq a b => match zdh n a with
  | some c => some c
  | none => zdh n b
 | .cond _ a b => match zdh n a with
  | some c => some c
  | none => zdh n b
 | .block _ c => zdh n c
 | .scope c => zdh n c
 | .rangeFunc _ _ _ c => zdh n c
 | _ => none
def znn (P : Program) (f : FuncId) : Code := match P.funcs[f]? with
 | some fn => match fn.body with
  | some c => c
  | none => .skip
 | none => .skip
noncomputable def zp (G : Cfg) (L : Lv) (C : CallT) (f : FuncId) (rd : Option Nat) (n : Nat) : St → Option (Ex × St) :=
 match zdh n (znn G.P f) with
 | some c => fun s => zbQ G L C f rd c (Ex × St) s fun e s1 => zfW s.h.length (purge (zeb (zau c) (L.loops f)) s1) fun s2 => some (e, s2)
 | none => fun _ => none
def zcv (n : Nat) : Code → Option (Code × Code)
 | .rangeFunc _ _ a c => match Nat.beq (zau c) n with
  | true => some (a, c)
  | false => zcv n c
 | .loop c => zcv n c
 | .seq a b => match zcv n a with
  | some c => some c
  | none => zcv n b
 | .cond _ a b => match zcv n a with
  | some c => some c
  | none => zcv n b
 | .block _ c => zcv n c
 | .scope c => zcv n c
 | _ => none
def zu3 (P : Program) (f : FuncId) (n : Nat) : Code := match zcv n (znn P f) with
 | some p => p.1
 | none => .skip
def rangeBody (P : Program) (f : FuncId) (n : Nat) : Code := match zcv n (znn P f) with
 | some p => p.2
 | none => .skip
def sp : Nat → Nat → List (Nat × V) → List V
 | _, 0, _ => []
 | i, n + 1, [] => .undef :: sp (i + 1) n []
 | i, n + 1, (j, v) :: l => match Nat.beq i j with
  | true => v :: sp (i + 1) n l
  | false => .undef :: sp (i + 1) n ((j, v) :: l)
def resV (P : Program) (s : St) : ResultVar → Option V
 | .tmp i => some (view (nth s.t i))
 | .cell i t => match zab P t with
  | some (ag, n) => match nth s.t i with
   | .box cs => part ag n cs 0
   | .ptr id 0 => match zav s.h id with
    | some (.cells cs) => part ag n cs 0
    | _ => none
   | _ => none
  | none => none
def zne (P : Program) (s : St) : List ResultVar → Option (List V)
 | [] => some []
 | r :: l => (resV P s r).bind fun v => (zne P s l).bind fun vs => some (v :: vs)
def zhH (P : Program) (fn : Func) (s : St) : Option V :=
 (zne P s fn.results.toList).bind fun vs => match vs with
  | [v] => some v
  | vs => some (.tuple vs)
noncomputable def runF (G : Cfg) (L : Lv) (C : CallT) (f : FuncId) (fn : Func) (args : List V) (h : List Ob) : Option (V × List Ob) :=
  match fn.body with
  | some c => ifK (fn.name != "runtime.NumGoroutine" && Nat.ble args.length fn.ntmps) <|
    zbQ G L C f none c _ ⟨args ++ List.replicate (fn.ntmps - args.length) .undef, h⟩ fun e s => match e with
      | .exit _ => none
      | _ => (zhH G.P fn s).bind fun v => retK s.h v fun v h => some (v, h)
  | none => none
def zpm : LoopState → Option Unit
 | .ready => some ()
 | _ => none
def zqR : LoopState → Option Unit
 | .busy => some ()
 | _ => none
noncomputable def runY (G : Cfg) (L : Lv) (C : CallT) (id : Nat) (args : List V) (h : List Ob) : Option (V × List Ob) :=
 match zav h id with
 | some (.loop lp) => (zhF lp.ps args lp.t).bind fun t =>
  zbQ G L C lp.fn (some id) lp.assign _ ⟨t, h⟩ fun e s => match e with
   | .normal => match zav s.h id with
    | some (.loop lp1) => (zpm lp1.st).bind fun _ => zbQ G L C lp.fn (some id) lp.body _ ⟨s.t, zah s.h id (.loop { lp1 with st := .busy })⟩ fun e s => match zav s.h id with
      | some (.loop lp') => (zqR lp'.st).bind fun _ => match e with
        | .normal => some (.bool true, zah s.h id (.loop { lp' with st := .ready, pend := none }))
        | e => some (.bool false, zah s.h id (.loop { lp' with st := .done, pend := some e }))
      | _ => none
    | _ => none
   | _ => none
 | _ => none
noncomputable def zO (G : Cfg) (L : Lv) (C : CallT) (g : Fn) (args : List V) (h : List Ob) : Option (V × List Ob) :=
 match g with
 | .func f => match G.sp f with
  | some S => S args h
  | none => match G.P.funcs[f]? with
   | some fn => runF G L C f fn args h
   | none => none
 | .yield id => runY G L C id args h
 | _ => none
inductive BS (G : Cfg) (L : Lv) : Fn → List V → List Ob → V × List Ob → Prop
 | mk (C : CallT) (rp : Fn → List V → V × List Ob) (g : Fn) (args : List V) (h : List Ob) (r : V × List Ob) (hw : C.w = zal)
   (hs : ∀ g args h r, C.s g args h = some r → BS G L g args h r)
   (hp : ∀ g args v, C.p g args = some v → BS G L g args [] (rp g args))
   (hn : ∀ g args v, C.p g args = some v → zbG (rp g args).2 (rp g args).1 some = some v)
   (hr : zO G L C g args h = some r) : BS G L g args h r
structure CLe (C C' : CallT) : Prop where
 w : ∀ (b b' : St → Option (Ex × St)), (∀ s, LeO (b s) (b' s)) → ∀ s, LeO (C.w b s) (C'.w b' s)
 p : ∀ g args, LeO (C.p g args) (C'.p g args)
 s : ∀ g args h, LeO (C.s g args h) (C'.s g args h)
section mono
variable {R : Type}
theorem zno (sh : Sh) (v : V) {k k' : V → Option R} (hk : ∀ v, LeO (k v) (k' v)) : LeO (shK sh v k) (shK sh v k') := by
 cases sh <;> simp only [shK] <;> first | exact hk _ | exact LeO.bind (LeO.refl _) fun _ => hk _
theorem zjl (l : List Sh) : ∀ (vs : List V) {k k' : List V → Option R} (_ : ∀ v, LeO (k v) (k' v)), LeO (zbS l vs k) (zbS l vs k') := by
 induction l with
 | nil => intro vs k k' hk; exact LeO.bind (LeO.refl _) fun _ => hk _
 | cons sh l ih => intro vs k k' hk; exact LeO.bind (LeO.refl _) fun p => zno _ _ fun v => ih _ fun vs => hk _
theorem zmg (P : Program) (t : TypeId) (v : V) {k k' : V → Option R} (hk : ∀ v, LeO (k v) (k' v)) : LeO (zec P t v k) (zec P t v k') := by
 unfold zec
 split
 ·exact LeO.bind (LeO.refl _) fun _ => zjl _ _ fun _ => hk _
 ·exact LeO.bind (LeO.refl _) fun _ => zjl _ _ fun _ => hk _
 ·exact zno _ _ hk
 ·exact hk _
theorem zpR (P : Program) (l : List TypeId) : ∀ (vs : List V) {k k' : List V → Option R} (_ : ∀ v, LeO (k v) (k' v)), LeO (zc6 P l vs k) (zc6 P l vs k') := by
 induction l with
 | nil => intro vs k k' hk; exact LeO.bind (LeO.refl _) fun _ => hk _
 | cons sh l ih => intro vs k k' hk; exact LeO.bind (LeO.refl _) fun p => zmg _ _ _ fun v => ih _ fun vs => hk _
theorem zpS (P : Program) (t : TypeId) (v : V) {k k' : V → Option R} (hk : ∀ v, LeO (k v) (k' v)) : LeO (zc7 P t v k) (zc7 P t v k') := by
 unfold zc7
 split
 ·exact LeO.bind (LeO.refl _) fun _ => zpR _ _ _ fun _ => hk _
 ·exact zmg _ _ _ hk
theorem zmh (h : List Ob) (v : V) {k k' : V → Option R} (hk : ∀ v, LeO (k v) (k' v)) : LeO (zby h v k) (zby h v k') := by
 unfold zby
 split
 ·exact LeO.bind (LeO.refl _) fun _ => hk _
 ·exact hk _
 ·exact LeO.ifK (hk _)
theorem zqS (h : List Ob) (l : List V) : ∀ {k k' : List V → Option R} (_ : ∀ v, LeO (k v) (k' v)), LeO (zbV h l k) (zbV h l k') := by
 induction l with
 | nil => intro k k' hk; exact hk _
 | cons v l ih => intro k k' hk; exact zmh _ _ fun v => ih fun l => hk _
theorem znp (h : List Ob) (v : V) {k k' : V → Option R} (hk : ∀ v, LeO (k v) (k' v)) : LeO (zbg h v k) (zbg h v k') := by
 unfold zbg
 split
 ·exact zqS _ _ fun _ => hk _
 ·exact zmh _ _ hk
theorem znq (h : List Ob) (l : List V) : ∀ {k k' : List V → Option R} (_ : ∀ v, LeO (k v) (k' v)), LeO (zaX h l k) (zaX h l k') := by
 induction l with
 | nil => intro k k' hk; exact hk _
 | cons v l ih => intro k k' hk; exact znp _ _ fun v => ih fun l => hk _
theorem zsP (s : St) (a : V) (ag : Bool) (n : Nat) (sh : List Sh) {k k' : V → Option R} (hk : ∀ v, LeO (k v) (k' v)) : LeO (zbP s a ag n sh k) (zbP s a ag n sh k') := by
 unfold zbP
 repeat' (first
  | exact LeO.none _
  | (rw [zfX, zfX (k := k')]; exact LeO.bind (LeO.refl _) hk)
  | exact LeO.bind (LeO.refl _) hk
  | refine LeO.ifK ?_
  | exact zjl _ _ fun _ => hk _
  | exact zno _ _ hk
  | (refine LeO.bind (LeO.refl _) fun _ => ?_)
  | split)
theorem zqT (s : St) (i : Nat) (a : V) (new : List V) {k k' : St → Option R} (hk : ∀ v, LeO (k v) (k' v)) : LeO (zb9 s i a new k) (zb9 s i a new k') := by
 unfold zb9
 (repeat' split) <;> first
  | exact LeO.none _
  | (rw [zdE, zdE]; exact LeO.bind (LeO.refl _) fun _ => hk _)
  | exact LeO.ifK (hk _)
  | exact LeO.ifK (LeO.cond (hk _) (LeO.refl _))
theorem znr (s : St) (sz b : Nat) (x : V) (new : List (List V)) {k k' : V → List Ob → Option R} (hk : ∀ v h, LeO (k v h) (k' v h)) : LeO (zeJ s sz b x new k) (zeJ s sz b x new k') := by
 unfold zeJ
 (repeat' split) <;> first
  | exact LeO.none _
  | exact LeO.cond (hk _ _) (LeO.refl _)
  | exact LeO.ifK (LeO.cond (LeO.cond (hk _ _) (LeO.refl _)) (LeO.refl _))
theorem zpT (s : St) (sz b : Nat) (x y : V) {k k' : V → List Ob → Option R} (hk : ∀ v h, LeO (k v h) (k' v h)) : LeO (zbL s sz b x y k) (zbL s sz b x y k') := by
 unfold zbL zcW
 split
 ·exact LeO.cond (znr _ _ _ _ _ hk) (LeO.refl _)
 ·exact LeO.bind (LeO.refl _) fun new => LeO.cond (znr _ _ _ _ _ hk) (LeO.refl _)
 ·exact LeO.none _
theorem zqU (v : Option V) (d t : Nat) {k k' : Nat → Option R} (hk : ∀ v, LeO (k v) (k' v)) : LeO (zdF v d t k) (zdF v d t k') := by
 unfold zdF
 split
 ·exact hk _
 ·exact LeO.cond (LeO.cond (hk _) (LeO.refl _)) (LeO.refl _)
 ·exact LeO.none _
mutual
theorem zka : ∀ (t v : V) {k k' : V → Option R} (_ : ∀ v, LeO (k v) (k' v)), LeO (z7 t v k) (z7 t v k')
 | .int _ _, _, _, _, hk => by simp only [z7]; exact LeO.bind (LeO.refl _) fun _ => hk _
 | .bool _, _, _, _, hk => by simp only [z7]; exact LeO.bind (LeO.refl _) fun _ => hk _
 | .str _, _, _, _, hk => by simp only [z7]; exact LeO.bind (LeO.refl _) fun _ => hk _
 | .slice _ _, _, _, _, hk => by simp only [z7]; exact LeO.bind (LeO.refl _) fun _ => hk _
 | .agg _, _, _, _, hk => by simp only [z7]; exact LeO.bind (LeO.refl _) fun _ => zez _ _ fun _ => hk _
 | .box _, _, _, _, hk => by simp only [z7]; exact LeO.bind (LeO.refl _) fun _ => zez _ _ fun _ => hk _
 | .fn _ _ _, _, _, _, hk => by simp only [z7]; exact LeO.bind (LeO.refl _) fun _ => zez _ _ fun _ => zez _ _ fun _ => hk _
 | .arr _ _ _, _, _, _, hk => by simp only [z7]; exact LeO.bind (LeO.refl _) fun _ => hk _
 | .ptr _ _, _, _, _, hk => by simp only [z7]; exact LeO.bind (LeO.refl _) fun _ => hk _
 | .adr _ _, _, _, _, hk => by simp only [z7]; exact LeO.bind (LeO.refl _) fun _ => hk _
 | .undef, _, _, _, hk => by simp only [z7]; exact hk _
 | .skip, _, _, _, hk => by simp only [z7]; exact hk _
 | .nilp, _, _, _, hk => by simp only [z7]; exact hk _
 | .rptr _ _, _, _, _, hk => by simp only [z7]; exact hk _
 | .eptr _ _ _ _ _, _, _, _, hk => by simp only [z7]; exact hk _
 | .nilmap, _, _, _, hk => by simp only [z7]; exact hk _
 | .map _, _, _, _, hk => by simp only [z7]; exact LeO.bind (LeO.refl _) fun _ => hk _
 | .nilfn, _, _, _, hk => by simp only [z7]; exact hk _
 | .iface _ _, _, _, _, hk => by simp only [z7]; exact hk _
 | .nili, _, _, _, hk => by simp only [z7]; exact hk _
 | .tuple _, _, _, _, hk => by simp only [z7]; exact hk _
theorem zez : ∀ (t vs : List V) {k k' : List V → Option R} (_ : ∀ v, LeO (k v) (k' v)), LeO (zbq t vs k) (zbq t vs k')
 | [], _, _, _, hk => by simp only [zbq]; exact LeO.bind (LeO.refl _) fun _ => hk _
 | t :: l, vs, _, _, hk => by simp only [zbq]; exact LeO.bind (LeO.refl _) fun p => zka t p.1 fun _ => zez l p.2 fun _ => hk _
end
theorem zqV (ts : List V) : ∀ (l : List V) (i : Nat) {k k' : List V → Option R} (_ : ∀ v, LeO (k v) (k' v)), LeO (zdq ts l i k) (zdq ts l i k') := by
 intro l
 induction l with
 | nil => intro i k k' hk; exact hk _
 | cons t l ih =>
  intro i k k' hk
  simp only [zdq]
  split
  ·exact ih _ fun _ => hk _
  ·exact zka _ _ fun _ => ih _ fun _ => hk _
theorem zns (i : Int) {k k' : Nat → Option R} (hk : ∀ v, LeO (k v) (k' v)) : ∀ m j, LeO (zfs i k m j) (zfs i k' m j)
 | 0, _ => LeO.none _
 | m + 1, j => LeO.cond (hk _) (zns i hk m (j + 1))
theorem zsQ (ag : Bool) (n : Nat) (cs : List V) (off : Nat) {k k' : V → Option R} (hk : ∀ v, LeO (k v) (k' v)) : LeO (zdR ag n cs off k) (zdR ag n cs off k') := by
 rw [zcc, zcc]; exact LeO.bind (LeO.refl _) hk
theorem zpU (t o : Ob) {k k' : Ob → Option R} (hk : ∀ v, LeO (k v) (k' v)) : LeO (zcb t o k) (zcb t o k') := by
 cases t <;> simp only [zcb]
 ·exact LeO.bind (LeO.refl _) fun _ => zez _ _ fun _ => hk _
 ·exact LeO.bind (LeO.refl _) fun _ => hk _
 ·exact LeO.bind (LeO.refl _) fun _ => hk _
 ·exact hk _
 ·exact LeO.bind (LeO.refl _) fun _ => hk _
theorem zkb : ∀ (t h : List Ob) {k k' : List Ob → Option R} (_ : ∀ v, LeO (k v) (k' v)), LeO (zcj t h k) (zcj t h k') := by
 intro t
 induction t with
 | nil => intro h k k' hk; exact hk _
 | cons o t ih => intro h k k' hk; exact LeO.bind (LeO.refl _) fun p => zpU _ _ fun _ => ih _ fun _ => hk _
theorem zqW (s0 s : St) {k k' : St → Option R} (hk : ∀ v, LeO (k v) (k' v)) : LeO (zfF s0 s k) (zfF s0 s k') := zqV _ _ _ fun _ => zkb _ _ fun _ => hk _
theorem znt (id : Nat) {k k' : Ex → Option R} (hk : ∀ v, LeO (k v) (k' v)) : ∀ l, LeO (zjk id k l) (zjk id k' l)
 | [] => LeO.none _
 | _ :: l => LeO.cond (hk _) (znt id hk l)
theorem zqX (rt : Bool) (ids : List Nat) (e : Ex) {k k' : Ex → Option R} (hk : ∀ v, LeO (k v) (k' v)) : LeO (exK rt ids e k) (exK rt ids e k') := by
 cases e
 ·exact LeO.none _
 ·exact znt _ hk _
 ·exact LeO.ifK (hk _)
theorem zt3 (rt : Bool) (ids : List Nat) (e : Option Ex) {k k' : Ex → Option R} (hk : ∀ v, LeO (k v) (k' v)) : LeO (endK rt ids e k) (endK rt ids e k') := by
 cases e
 ·exact hk _
 ·exact zqX _ _ _ hk
theorem znu (G : Cfg) {C C' : CallT} (hC : CLe C C') (f : FuncId) (dr : Bool) (o : Oper) (s : St) {k k' : St → Option R} (hk : ∀ s, LeO (k s) (k' s)) :
  LeO (zA G C f dr o s k) (zA G C' f dr o s k') := by
 unfold zA
 split
 all_goals try (first
  | exact hk _
  | exact LeO.none _)
 all_goals (repeat' (first
  | exact hk _
  | exact LeO.none _
  | exact LeO.refl _
  | (refine LeO.ifK ?_)
  | (refine LeO.cond ?_ ?_)
  | (refine LeO.bind (hC.s _ _ _) fun _ => ?_)
  | (refine zkb _ _ fun _ => ?_)
  | (refine zka _ _ fun _ => ?_)
  | (refine LeO.bind (hC.p _ _) fun _ => ?_)
  | (refine LeO.bind (LeO.refl _) fun _ => ?_)
  | (refine znq _ _ fun _ => ?_)
  | (refine znp _ _ fun _ => ?_)
  | (refine zpS _ _ _ fun _ => ?_)
  | (refine zsP _ _ _ _ _ fun _ => ?_)
  | (refine zqT _ _ _ _ fun _ => ?_)
  | (refine zpT _ _ _ _ _ fun _ _ => ?_)
  | (refine zqU _ _ _ fun _ => ?_)
  | (refine zns _ (fun _ => ?_) _ _)
  | (refine zsQ _ _ _ _ fun _ => ?_)
  | (refine zjl _ _ fun _ => ?_)
  | split))
theorem zt4 (G : Cfg) {C C' : CallT} (hC : CLe C C') (f : FuncId) (dr : Bool) (all l : List Oper) : ∀ (s : St) {k k' : St → Option R} (_ : ∀ s, LeO (k s) (k' s)),
  LeO (zes G C f dr all l s k) (zes G C' f dr all l s k') := by
 induction l with
 | nil => intro s k k' hk; exact hk _
 | cons o l ih =>
  intro s k k' hk
  unfold zes
  repeat' (first
   | exact LeO.none _
   | exact znu G hC f _ o _ fun s => ih s hk
   | exact znu G hC f _ o _ fun s => LeO.ifK (ih s hk)
   | exact ih _ hk
   | refine LeO.ifK ?_
   | refine LeO.cond ?_ ?_
   | split)
end mono
theorem zkc (G : Cfg) (L : Lv) {C C' : CallT} (hC : CLe C C') (f : FuncId) (rd : Option Nat) (c : Code) : ∀ (R : Type) (s : St) {k k' : Ex → St → Option R} (_ : ∀ e s, LeO (k e s) (k' e s)),
  LeO (zbQ G L C f rd c R s k) (zbQ G L C' f rd c R s k') := by
 induction c with
 | skip => intro R s k k' hk; exact hk _ _
 | label l => intro R s k k' hk; exact hk _ _
 | exit id => intro R s k k' hk; exact hk _ _
 | ret => intro R s k k' hk; exact hk _ _
 | goto l => intro R s k k' hk; exact LeO.none _
 | refuse l => intro R s k k' hk; exact LeO.none _
 | scope c ih => intro R s k k' hk; exact ih R s hk
 | region id ops d => intro R s k k' hk; exact LeO.ifK (zhG _ s fun s => zt4 G hC f d _ _ s fun s => hk _ _)
 | seq a b iha ihb =>
  intro R s k k' hk
  refine iha R s fun e s => ?_
  cases e with
  | normal => exact ihb R s hk
  | exit id => exact hk _ _
  | ret => exact hk _ _
 | cond c a b iha ihb =>
  intro R s k k' hk
  simp only [zbQ]
  split
  ·exact LeO.cond (iha R s hk) (ihb R s hk)
  ·exact LeO.none _
 | block id c ih =>
  intro R s k k' hk
  refine ih R s fun e s => ?_
  cases e with
  | normal => exact hk _ _
  | exit j => simp only; split <;> exact hk _ _
  | ret => exact hk _ _
 | loop c ih =>
  intro R s k k' hk
  refine LeO.bind (hC.w _ _ (fun s => ih _ _ fun e s => LeO.refl _) _) fun p => zqX _ _ _ fun _ => zqW _ _ fun _ => hk _ _
 | rangeFunc x ps assign body _ _ =>
  intro R s k k' hk
  simp only [zbQ]
  repeat' (first
   | exact LeO.none _
   | exact hk _ _
   | refine LeO.ifK ?_
   | (refine LeO.bind (hC.s _ _ _) fun _ => ?_)
   | (refine zkb _ _ fun _ => ?_)
   | (refine LeO.bind (LeO.refl _) fun _ => ?_)
   | (refine zt3 _ _ _ fun _ => ?_)
   | split)
theorem zpn (G : Cfg) (L : Lv) {C C' : CallT} (hC : CLe C C') (g : Fn) (args : List V) (h : List Ob) : LeO (zO G L C g args h) (zO G L C' g args h) := by
 unfold zO
 split
 ·split
  ·exact LeO.refl _
  ·split
   ·unfold runF
    split
    ·refine LeO.ifK (zkc G L hC _ _ _ _ _ fun e s => ?_)
     cases e <;> exact LeO.refl _
    ·exact LeO.none _
   ·exact LeO.none _
 ·unfold runY
  split
  ·refine LeO.bind (LeO.refl _) fun t => zkc G L hC _ _ _ _ _ fun e s => ?_
   cases e with
   | normal =>
    simp only
    split
    ·exact LeO.bind (LeO.refl _) fun _ => zkc G L hC _ _ _ _ _ fun e s => LeO.refl _
    ·exact LeO.none _
   | _ => exact LeO.none _
  ·exact LeO.none _
 ·exact LeO.none _
theorem BS.det {G : Cfg} {L : Lv} {g : Fn} {args : List V} {h : List Ob} {r : V × List Ob} (b : BS G L g args h r) : ∀ r', BS G L g args h r' → r = r' := by
 induction b with
 | mk C rp g args h r hw hs hp hn hr ihs ihp =>
  intro r' b'
  cases b' with
  | mk C' rp' _ _ _ _ hw' hs' hp' hn' hr' =>
   let D : CallT := {
    w := zal
    p := fun g args => match C.p g args with
     | some v => some v
     | none => C'.p g args
    s := fun g args h => match C.s g args h with
     | some v => some v
     | none => C'.s g args h }
   have h1 : CLe C D := ⟨fun b b' hb s => by rw [hw]; exact znl hb s, fun g args r hr => by simp only [D, hr], fun g args h r hr => by simp only [D, hr]⟩
   have h2 : CLe C' D := by
    refine ⟨fun b b' hb s => by rw [hw']; exact znl hb s, fun g args v hv => ?_, fun g args h v hv => ?_⟩
    ·simp only [D]
     split
     ·rename_i u hu
      have e := ihp g args u hu _ (hp' g args v hv)
      have n1 := hn g args u hu
      have n2 := hn' g args v hv
      rw [e] at n1
      rw [← n1, ← n2]
     ·exact hv
    ·simp only [D]
     split
     ·rename_i u hu
      rw [ihs g args h u hu v (hs' g args h v hv)]
     ·exact hv
   have e1 := zpn G L h1 g args h _ hr
   have e2 := zpn G L h2 g args h _ hr'
   rw [e1] at e2
   exact Option.some.inj e2
open Classical in
noncomputable def CW (G : Cfg) (L : Lv) : CallT where
 w := zal
 p := fun g args => if h : ∃ v r, BS G L g args [] r ∧ zbG r.2 r.1 some = some v then some (Classical.choose h) else none
 s := fun g args h => if hh : ∃ r, BS G L g args h r then some (Classical.choose hh) else none
theorem CW_s {G : Cfg} {L : Lv} {g : Fn} {args : List V} {h : List Ob} {r : V × List Ob} : (CW G L).s g args h = some r ↔ BS G L g args h r := by
 unfold CW
 simp only
 split
 ·rename_i hh
  constructor
  ·intro e; cases e; exact Classical.choose_spec hh
  ·intro b; rw [BS.det b _ (Classical.choose_spec hh)]
 ·rename_i hh
  constructor
  ·intro e; cases e
  ·intro b; exact absurd ⟨r, b⟩ hh
theorem CW_p {G : Cfg} {L : Lv} {g : Fn} {args : List V} {v : V} : (CW G L).p g args = some v ↔ ∃ r, BS G L g args [] r ∧ zbG r.2 r.1 some = some v := by
 unfold CW
 simp only
 split
 ·rename_i hh
  obtain ⟨r, b, hn⟩ := Classical.choose_spec hh
  constructor
  ·intro e; cases e; exact ⟨r, b, hn⟩
  ·rintro ⟨r', b', hn'⟩
   rw [BS.det b _ b', hn'] at hn
   rw [← Option.some.inj hn]
 ·rename_i hh
  constructor
  ·intro e; cases e
  ·rintro ⟨r, b, hn⟩; exact absurd ⟨v, r, b, hn⟩ hh
open Classical in
theorem zed {G : Cfg} {L : Lv} {g : Fn} {args : List V} {h : List Ob} {r : V × List Ob} (hr : zO G L (CW G L) g args h = some r) : (CW G L).s g args h = some r := by
 refine CW_s.2 ?_
 refine BS.mk (CW G L) (fun g args => if hh : ∃ r v, BS G L g args [] r ∧ zbG r.2 r.1 some = some v then Classical.choose hh else (.undef, [])) g args h r rfl (fun g args h r e => CW_s.1 e) ?_ ?_ hr
 ·intro g args v e
  obtain ⟨r, b, hn⟩ := CW_p.1 e
  have hh : ∃ r v, BS G L g args [] r ∧ zbG r.2 r.1 some = some v := ⟨r, v, b, hn⟩
  simp only [dif_pos hh]
  exact (Classical.choose_spec hh).choose_spec.1
 ·intro g args v e
  obtain ⟨r, b, hn⟩ := CW_p.1 e
  have hh : ∃ r v, BS G L g args [] r ∧ zbG r.2 r.1 some = some v := ⟨r, v, b, hn⟩
  simp only [dif_pos hh]
  obtain ⟨v', b', hn'⟩ := Classical.choose_spec hh
  rw [BS.det b _ b', hn'] at hn
  rw [hn', hn]
theorem zt5 {G : Cfg} {L : Lv} {g : Fn} {args : List V} {v : V} (hr : (zO G L (CW G L) g args []).bind (fun r => zbG r.2 r.1 some) = some v) : (CW G L).p g args = some v := by
 cases h : zO G L (CW G L) g args [] with
 | none => rw [h] at hr; cases hr
 | some r =>
  rw [h] at hr
  exact CW_p.2 ⟨r, CW_s.1 (zed h), hr⟩
end Go.Ab
namespace Go.Ab
variable {R : Type}
theorem zdi {A : Type} (x : Option A) : x.bind some = x := by cases x <;> rfl
theorem zfc {A : Type} (b : Bool) (x : Option A) (k : A → Option R) : ifK b (x.bind k) = (ifK b x).bind k := by cases b <;> rfl
theorem zcw {A : Type} (b : Bool) (x : Option A) (k : A → Option R) : cond b (x.bind k) none = (cond b x none).bind k := by cases b <;> rfl
theorem zfd (sh : Sh) (v : V) (k : V → Option R) : shK sh v k = (shK sh v some).bind k := by
 cases sh <;> simp only [shK] <;> first | rfl | (rw [Option.bind_assoc]; rfl)
theorem zat (l : List Sh) : ∀ {R : Type} (vs : List V) (k : List V → Option R), zbS l vs k = (zbS l vs some).bind k := by
 induction l with
 | nil => intro R vs k; simp only [zbS]; rw [Option.bind_assoc]; rfl
 | cons sh l ih =>
  intro R vs k
  simp only [zbS]
  rw [Option.bind_assoc]
  congr 1; funext p
  rw [zfd, zfd (R := List V), Option.bind_assoc]
  congr 1; funext v
  rw [ih _ (fun vs => k (v :: vs)), ih _ (fun vs => some (v :: vs)), Option.bind_assoc]
  rfl
theorem zft (P : Program) (t : TypeId) (v : V) (k : V → Option R) : zec P t v k = (zec P t v some).bind k := by
 unfold zec
 split
 ·rw [Option.bind_assoc]; congr 1; funext cs; rw [zat, zat (R := V), Option.bind_assoc]; rfl
 ·rw [Option.bind_assoc]; congr 1; funext cs; rw [zat, zat (R := V), Option.bind_assoc]; rfl
 ·exact zfd _ _ _
 ·rfl
theorem zeN (P : Program) (l : List TypeId) : ∀ {R : Type} (vs : List V) (k : List V → Option R), zc6 P l vs k = (zc6 P l vs some).bind k := by
 induction l with
 | nil => intro R vs k; simp only [zc6]; rw [Option.bind_assoc]; rfl
 | cons t l ih =>
  intro R vs k
  simp only [zc6]
  rw [Option.bind_assoc]
  congr 1; funext p
  rw [zft, zft (R := List V), Option.bind_assoc]
  congr 1; funext v
  rw [ih _ (fun vs => k (v :: vs)), ih _ (fun vs => some (v :: vs)), Option.bind_assoc]
  rfl
theorem zbY (P : Program) (t : TypeId) (v : V) (k : V → Option R) : zc7 P t v k = (zc7 P t v some).bind k := by
 unfold zc7
 split
 ·rw [Option.bind_assoc]; congr 1; funext cs; rw [zeN, zeN (R := V), Option.bind_assoc]; rfl
 ·exact zft _ _ _ _
theorem zee (h : List Ob) (v : V) (k : V → Option R) : zby h v k = (zby h v some).bind k := by
 unfold zby
 split
 ·rw [Option.bind_assoc]; rfl
 ·rfl
 ·rw [← zfc]; rfl
theorem zdv (h : List Ob) (l : List V) : ∀ {R : Type} (k : List V → Option R), zbV h l k = (zbV h l some).bind k := by
 induction l with
 | nil => intro R k; rfl
 | cons v l ih =>
  intro R k
  simp only [zbV]
  rw [zee, zee (R := List V), Option.bind_assoc]
  congr 1; funext v
  rw [ih (fun l => k (v :: l)), ih (fun l => some (v :: l)), Option.bind_assoc]; rfl
theorem zbZ (h : List Ob) (v : V) (k : V → Option R) : zbg h v k = (zbg h v some).bind k := by
 unfold zbg
 split
 ·rw [zdv, zdv (R := V), Option.bind_assoc]; rfl
 ·exact zee _ _ _
theorem zbN (h : List Ob) (l : List V) : ∀ {R : Type} (k : List V → Option R), zaX h l k = (zaX h l some).bind k := by
 induction l with
 | nil => intro R k; rfl
 | cons v l ih =>
  intro R k
  simp only [zaX]
  rw [zbZ, zbZ (R := List V), Option.bind_assoc]
  congr 1; funext v
  rw [ih (fun l => k (v :: l)), ih (fun l => some (v :: l)), Option.bind_assoc]; rfl
theorem zfY (s : St) (a : V) (ag : Bool) (n : Nat) (sh : List Sh) (k : V → Option R) : zbP s a ag n sh k = (zbP s a ag n sh some).bind k := by
 unfold zbP
 split
 ·rw [zdi]
 ·split <;> first | rfl | exact zfX _ _ _ _ _ _
 ·exact zfX _ _ _ _ _ _
 ·split <;> first | rfl | rw [zdi]
 ·rw [← zfc]; congr 1
  rw [Option.bind_assoc]; congr 1; funext rows
  rw [Option.bind_assoc]; congr 1; funext row
  rw [Option.bind_assoc]; congr 1; funext cs
  rw [zat, zat (R := V), Option.bind_assoc]; rfl
 ·rfl
theorem zoJ (s : St) (i : Nat) (a : V) (new : List V) (k : St → Option R) : zb9 s i a new k = (zb9 s i a new some).bind k := by
 unfold zb9
 (repeat' split) <;> first
  | rfl
  | (rw [← zfc]; rfl)
  | (rw [zdE, zdE, Option.bind_assoc]; rfl)
  | (rw [← zfc, ← zcw]; rfl)
theorem zkM (s : St) (sz b : Nat) (x : V) (new : List (List V)) (k : V → List Ob → Option R) : zeJ s sz b x new k = (zeJ s sz b x new fun v h => some (v, h)).bind fun p => k p.1 p.2 := by
 unfold zeJ
 (repeat' split) <;> first
  | rfl
  | (rw [← zcw]; rfl)
  | (rw [← zfc, ← zcw, ← zcw]; rfl)
theorem zeO (s : St) (sz b : Nat) (x y : V) (k : V → List Ob → Option R) : zbL s sz b x y k = (zbL s sz b x y fun v h => some (v, h)).bind fun p => k p.1 p.2 := by
 unfold zbL zcW
 split
 ·show cond _ _ _ = _
  rw [zkM, zcw]
 ·rw [Option.bind_assoc]; congr 1; funext new
  rw [zkM, zcw]
 ·rfl
theorem zef (v : Option V) (d t : Nat) (k : Nat → Option R) : zdF v d t k = (zdF v d t some).bind k := by
 unfold zdF
 split
 ·rfl
 ·rw [← zcw, ← zcw]; rfl
 ·rfl
mutual
theorem zb0 : ∀ (t v : V) {R : Type} (k : V → Option R), z7 t v k = (z7 t v some).bind k
 | .int _ _, _, _, k => by simp only [z7]; rw [Option.bind_assoc]; rfl
 | .bool _, _, _, k => by simp only [z7]; rw [Option.bind_assoc]; rfl
 | .str _, _, _, k => by simp only [z7]; rw [Option.bind_assoc]; rfl
 | .slice _ _, _, _, k => by simp only [z7]; rw [Option.bind_assoc]; rfl
 | .agg cs0, _, _, k => by
  simp only [z7]; rw [Option.bind_assoc]; congr 1; funext cs
  rw [zax, zax cs0 cs (fun cs => some (V.agg cs)), Option.bind_assoc]; rfl
 | .box cs0, _, _, k => by
  simp only [z7]; rw [Option.bind_assoc]; congr 1; funext cs
  rw [zax, zax cs0 cs (fun cs => some (V.box cs)), Option.bind_assoc]; rfl
 | .fn g a0 b0, _, _, k => by
  simp only [z7]; rw [Option.bind_assoc]; congr 1; funext p
  rw [zax, zax a0 p.1 (fun a => zbq b0 p.2 fun b => some (V.fn g a b)), Option.bind_assoc]; congr 1; funext a
  rw [zax, zax b0 p.2 (fun b => some (V.fn g a b)), Option.bind_assoc]; rfl
 | .arr _ _ _, _, _, k => by simp only [z7]; rw [Option.bind_assoc]; rfl
 | .ptr _ _, _, _, k => by simp only [z7]; rw [Option.bind_assoc]; rfl
 | .adr _ _, _, _, k => by simp only [z7]; rw [Option.bind_assoc]; rfl
 | .undef, _, _, k => by simp only [z7]; rfl
 | .skip, _, _, k => by simp only [z7]; rfl
 | .nilp, _, _, k => by simp only [z7]; rfl
 | .rptr _ _, _, _, k => by simp only [z7]; rfl
 | .eptr _ _ _ _ _, _, _, k => by simp only [z7]; rfl
 | .nilmap, _, _, k => by simp only [z7]; rfl
 | .map _, _, _, k => by simp only [z7]; rw [Option.bind_assoc]; rfl
 | .nilfn, _, _, k => by simp only [z7]; rfl
 | .iface _ _, _, _, k => by simp only [z7]; rfl
 | .nili, _, _, k => by simp only [z7]; rfl
 | .tuple _, _, _, k => by simp only [z7]; rfl
theorem zax : ∀ (t vs : List V) {R : Type} (k : List V → Option R), zbq t vs k = (zbq t vs some).bind k
 | [], _, _, k => by simp only [zbq]; rw [Option.bind_assoc]; rfl
 | t :: l, vs, _, k => by
  simp only [zbq]; rw [Option.bind_assoc]; congr 1; funext p
  rw [zb0, zb0 t p.1 (fun v => zbq l p.2 fun vs => some (v :: vs)), Option.bind_assoc]; congr 1; funext v
  rw [zax, zax l p.2 (fun vs => some (v :: vs)), Option.bind_assoc]; rfl
end
theorem zeg (ts : List V) : ∀ (l : List V) (i : Nat) {R : Type} (k : List V → Option R), zdq ts l i k = (zdq ts l i some).bind k := by
 intro l
 induction l with
 | nil => intro i R k; rfl
 | cons t l ih =>
  intro i R k
  simp only [zdq]
  split
  ·rw [ih _ (fun l => k (.undef :: l)), ih _ (fun l => some (.undef :: l)), Option.bind_assoc]; rfl
  ·rw [zb0, zb0 _ _ (fun v => zdq ts l (i + 1) fun l => some (v :: l)), Option.bind_assoc]; congr 1; funext v
   rw [ih _ (fun l => k (v :: l)), ih _ (fun l => some (v :: l)), Option.bind_assoc]; rfl
theorem zgn (t o : Ob) {R : Type} (k : Ob → Option R) : zcb t o k = (zcb t o some).bind k := by
 cases t with
 | cells cs0 =>
  simp only [zcb]; rw [Option.bind_assoc]; congr 1; funext cs
  rw [zax, zax cs0 cs (fun cs => some (Ob.cells cs)), Option.bind_assoc]; rfl
 | arr wr sz rows => simp only [zcb]; rw [Option.bind_assoc]; rfl
 | loop l => simp only [zcb]; rw [Option.bind_assoc]; rfl
 | map ka va kn es => simp only [zcb]; rw [Option.bind_assoc]; rfl
 | dead => rfl
theorem zbD : ∀ (t h : List Ob) {R : Type} (k : List Ob → Option R), zcj t h k = (zcj t h some).bind k := by
 intro t
 induction t with
 | nil => intro h R k; rfl
 | cons o t ih =>
  intro h R k
  simp only [zcj]; rw [Option.bind_assoc]; congr 1; funext p
  rw [zgn, zgn _ _ (fun o => zcj t p.2 fun h => some (o :: h)), Option.bind_assoc]; congr 1; funext o
  rw [ih _ (fun h => k (o :: h)), ih _ (fun h => some (o :: h)), Option.bind_assoc]; rfl
theorem zjE (s0 s : St) {R : Type} (k : St → Option R) : zfF s0 s k = (zfF s0 s some).bind k := by
 unfold zfF
 rw [zeg, zeg s.t s0.t 0 (fun t => zcj s0.h s.h fun h => some (St.mk t h)), Option.bind_assoc]; congr 1; funext t
 rw [zbD, zbD s0.h s.h (fun h => some (St.mk t h)), Option.bind_assoc]; rfl
def zaq {A : Type} (F : (R : Type) → (A → Option R) → Option R) : Prop := (∀ (R : Type) (k : A → Option R), F R k = none) ∨ ∃ x, ∀ (R : Type) (k : A → Option R), F R k = k x
theorem zaq.none {A : Type} : zaq (A := A) (fun _ _ => none) := .inl fun _ _ => rfl
theorem zaq.it {A : Type} (x : A) : zaq (A := A) (fun _ k => k x) := .inr ⟨x, fun _ _ => rfl⟩
theorem zaq.opt {A B : Type} (x : Option B) {F : B → (R : Type) → (A → Option R) → Option R} (h : ∀ b, zaq (A := A) (F b)) : zaq (A := A) (fun R k => x.bind fun b => F b R k) := by
 cases x with
 | none => exact .inl fun _ _ => rfl
 | some b => exact h b
theorem zaq.ifK {A : Type} (b : Bool) {F : (R : Type) → (A → Option R) → Option R} (h : zaq (A := A) F) : zaq (A := A) (fun R k => Ab.ifK b (F R k)) := by
 cases b
 ·exact .inl fun _ _ => rfl
 ·exact h
theorem zaq.cond {A : Type} (b : Bool) {F F' : (R : Type) → (A → Option R) → Option R} (h : zaq (A := A) F) (h' : zaq (A := A) F') : zaq (A := A) (fun R k => _root_.cond b (F R k) (F' R k)) := by
 cases b
 ·exact h'
 ·exact h
theorem zaq.via {A B : Type} {F : (R : Type) → (B → Option R) → Option R} (x : Option B) (hx : ∀ (R : Type) (k : B → Option R), F R k = x.bind k) {H : B → (R : Type) → (A → Option R) → Option R} (h : ∀ b, zaq (A := A) (H b)) :
  zaq (A := A) (fun R k => F R fun b => H b R k) := by
 have e : (fun (R : Type) (k : A → Option R) => F R fun b => H b R k) = fun (R : Type) (k : A → Option R) => x.bind fun b => H b R k := by
  funext R k; exact hx R _
 rw [e]
 exact zaq.opt x h
theorem zaq.spec {A : Type} {F : (R : Type) → (A → Option R) → Option R} (h : zaq (A := A) F) (R : Type) (k : A → Option R) : F R k = (F A some).bind k := by
 rcases h with h | ⟨x, h⟩
 ·rw [h, h]; rfl
 ·rw [h, h]; rfl
theorem zaq.append (s : St) (sz b : Nat) (x y : V) (F : V → List Ob → St) : zaq (A := St) (fun R k => zbL (R := R) s sz b x y fun v h => k (F v h)) := by
 have h : ∀ (R : Type) (k : St → Option R), zbL (R := R) s sz b x y (fun v h => k (F v h)) = (zbL s sz b x y fun v h => some (v, h)).bind fun p => k (F p.1 p.2) := fun R k => zeO _ _ _ _ _ _
 cases he : zbL s sz b x y (fun v h => some (v, h)) with
 | none => exact .inl fun R k => (h R k).trans (by rw [he]; rfl)
 | some p => exact .inr ⟨F p.1 p.2, fun R k => (h R k).trans (by rw [he]; rfl)⟩
theorem zaq.pick {A : Type} (i : Int) {F : Nat → A} : ∀ (m j : Nat), zaq (A := A) (fun R k => zfs (R := R) i (fun j => k (F j)) m j)
 | 0, _ => zaq.none
 | m + 1, j => zaq.cond _ (zaq.it _) (zaq.pick i m (j + 1))
theorem zoK (ag : Bool) (n : Nat) (cs : List V) (off : Nat) (k : V → Option R) : zdR ag n cs off k = (zdR ag n cs off some).bind k := by
 rw [zcc, zcc, zdi]
theorem zoL (G : Cfg) (C : CallT) (f : FuncId) (dr : Bool) (o : Oper) (s : St) : zaq (A := St) (fun R k => zA (R := R) G C f dr o s k) := by
 unfold zA
 split
 all_goals try (first
  | exact zaq.it _
  | exact zaq.none)
 all_goals (repeat' (first
  | exact zaq.it _
  | exact zaq.none
  | (refine zaq.ifK _ ?_)
  | (refine zaq.cond _ ?_ ?_)
  | (refine zaq.opt _ fun _ => ?_)
  | (refine zaq.via (F := fun R k => zaX (R := R) _ _ k) _ (fun R k => zbN _ _ k) fun _ => ?_)
  | (refine zaq.via (F := fun R k => zbg (R := R) _ _ k) _ (fun R k => zbZ _ _ k) fun _ => ?_)
  | (refine zaq.via (F := fun R k => zcj (R := R) _ _ k) _ (fun R k => zbD _ _ k) fun _ => ?_)
  | (refine zaq.via (F := fun R k => z7 (R := R) _ _ k) _ (fun R k => zb0 _ _ k) fun _ => ?_)
  | (refine zaq.via (F := fun R k => zc7 (R := R) _ _ _ k) _ (fun R k => zbY _ _ _ k) fun _ => ?_)
  | (refine zaq.via (F := fun R k => zbP (R := R) _ _ _ _ _ k) _ (fun R k => zfY _ _ _ _ _ k) fun _ => ?_)
  | (refine zaq.via (F := fun R k => zb9 (R := R) _ _ _ _ k) _ (fun R k => zoJ _ _ _ _ k) fun _ => ?_)
  | exact zaq.append s _ _ _ _ (fun v h => ⟨(s.put o.dst v).t, h⟩)
  | (refine zaq.via (F := fun R k => zdF (R := R) _ _ _ k) _ (fun R k => zef _ _ _ k) fun _ => ?_)
  | (refine zaq.via (F := fun R k => zbS (R := R) _ _ k) _ (fun R k => zat _ _ k) fun _ => ?_)
  | exact zaq.pick _ _ _
  | (refine zaq.via (F := fun R k => zdR (R := R) _ _ _ _ k) _ (fun R k => zoK _ _ _ _ k) fun _ => ?_)
  | split))
def zq (G : Cfg) (C : CallT) (f : FuncId) (dr : Bool) (o : Oper) (s : St) : Option St := zA G C f dr o s some
theorem zgo (G : Cfg) (C : CallT) (f : FuncId) (dr : Bool) (o : Oper) (s : St) (k : St → Option R) : zA G C f dr o s k = (zq G C f dr o s).bind k :=
 (zoL G C f dr o s).spec R k
theorem zt6 (l : List V) (i : Nat) (v : V) (h : nth l i = v) (hv : v ≠ .undef) : upd l i v = l := by
 induction l generalizing i with
 | nil => simp only [nth] at h; exact absurd h.symm hv
 | cons x l ih =>
  cases i with
  | zero => simp only [nth] at h; simp only [upd, h]
  | succ i => simp only [nth] at h; simp only [upd, ih i h]
def zay (G : Cfg) (C : CallT) (f : FuncId) (dr : Bool) (all : List Oper) (o : Oper) (s : St) : Option St :=
 match o.guard with
 | none => ifK (pre (zce dr all o) all o s) ((zq G C f (zce dr all o) o s).bind fun s' => ifK (post dr all o s s') (some s'))
 | some (j, want) => match all[j]? with
  | some g => match g.dst with
   | some d => match nth s.t d with
    | .bool b => if b = want then ifK (pre (zce dr all o) all o s) (zq G C f (zce dr all o) o s) else ifK (zdW (zce dr all o) o s) (some (s.put o.dst .skip))
    | .skip => ifK (zdW (zce dr all o) o s) (some (s.put o.dst .skip))
    | _ => none
   | none => none
  | none => none
def zgp (G : Cfg) (C : CallT) (f : FuncId) (dr : Bool) (all : List Oper) : List Oper → St → Option St
 | [], s => some s
 | o :: l, s => (zay G C f dr all o s).bind fun s => zgp G C f dr all l s
theorem zt7 (G : Cfg) (C : CallT) (f : FuncId) (dr : Bool) (all l : List Oper) : ∀ (s : St) (k : St → Option R), zes G C f dr all l s k = (zgp G C f dr all l s).bind k := by
 induction l with
 | nil => intro s k; rfl
 | cons o l ih =>
  intro s k
  have hstep : ∀ (q b : Bool) (s : St) (k : St → Option R), ifK b (zA G C f q o s fun s => zes G C f dr all l s k) = ((ifK b (zq G C f q o s)).bind fun s => zgp G C f dr all l s).bind k := by
   intro q b s k
   rw [zgo, zfc, Option.bind_assoc]; congr 1; funext s; exact ih s k
  have hskip : ∀ (b : Bool) (s : St) (k : St → Option R), ifK b (zes G C f dr all l s k) = ((ifK b (some s)).bind fun s => zgp G C f dr all l s).bind k := by
   intro b s k
   cases b
   ·rfl
   ·exact ih s k
  unfold zes zgp zay
  cases hg : o.guard with
  | none =>
   simp only
   rw [zgo]
   have e : ∀ (x : Option St) (b : Bool) (P : St → Bool), ifK b (x.bind fun s' => ifK (P s') (zes G C f dr all l s' k)) = ((ifK b (x.bind fun s' => ifK (P s') (some s'))).bind fun s => zgp G C f dr all l s).bind k := by
    intro x b P
    cases b
    ·rfl
    ·cases x with
     | none => rfl
     | some s' =>
      simp only [Option.bind_some, ifK]
      cases P s'
      ·rfl
      ·exact ih s' k
   exact e _ _ _
  | some p =>
   obtain ⟨j, want⟩ := p
   simp only
   cases ha : all[j]? with
   | none => rfl
   | some g =>
    simp only
    cases hd : g.dst with
    | none => rfl
    | some d =>
     simp only
     cases hb : nth s.t d <;> simp only <;> first
      | rfl
      | exact hskip _ _ k
      | skip
     rename_i b
     have e : (⟨upd s.t d (.bool b), s.h⟩ : St) = s := by rw [zt6 _ _ _ hb (by simp)]
     cases b <;> cases want <;> simp only [cond_true, cond_false, e, if_true, if_false, Bool.false_eq_true, Bool.true_eq_false]
     ·exact hstep _ _ s k
     ·exact hskip _ _ k
     ·exact hskip _ _ k
     ·exact hstep _ _ s k
end Go.Ab
namespace Go.Ab
structure Mem where
 M : Nat → Nat → Option Value
 Z : Nat → Option Nat
 J : List (Nat × Option Nat)
def Mem.alone (m : Mem) : Mem := { m with J := [] }
def Mem.cut (m : Mem) (n : Nat) : Mem := { m with J := m.J.take n }
mutual
def VR : V → Mem → Value → Prop
  | .undef, _, _ => True
  | .skip, _, c => c = Go.undef
  | .bool b, _, c => c = .bool b
  | .int k n, _, c => c = .int k n
  | .str s, _, c => c = .string s
  | .nilp, _, c => c = .pointer none
  | .ptr id off, m, c => ∃ b, m.J[id]? = some (b, none) ∧ c = .pointer (some ⟨b, off, none⟩)
  | .rptr row off, m, c => ∃ b o, c = .pointer (some ⟨b, o + off, none⟩) ∧ VRc row m.alone b o
  | .eptr id len sz i off, m, c => ∃ b l ad, m.J[id]? = some (b, some l) ∧ c = .pointer (some ad) ∧ len ≤ l ∧ i < len ∧ (l = len → ad = ⟨b, i * sz + off, none⟩)
  | .adr _ _, _, _ => False
  | .box _, _, _ => False
  | .slice fl rows, m, c => ∃ a cap, c = .slice a rows.length cap ∧ rows.length ≤ cap ∧
      (match fl with
       | .nil => a = none ∧ cap = 0
       | .cap0 => cap = 0
       | .nn => a ≠ none
       | .any => True) ∧
      (a = none → cap = 0) ∧ (rows ≠ [] → ∃ b o sz, a = some ⟨b, o, none⟩ ∧ VRr rows m.alone b o sz)
  | .arr id len sz, m, c => ∃ a cap b l, m.J[id]? = some (b, some l) ∧ c = .slice a len cap ∧ len ≤ cap ∧ len ≤ l ∧ (a = none → cap = 0) ∧
      (len = 0 → cap = 0) ∧ (len ≠ 0 → l = len → a = some ⟨b, 0, none⟩ ∧ ∃ n, m.Z b = some n ∧ cap * sz ≤ n)
  | .nilmap, _, c => c = .map none
  | .map id, m, c => ∃ b, m.J[id]? = some (b, none) ∧ c = .map (some b)
  | .fn f first cap, m, c => ∃ f' first' cap', c = .func f' ⟨first'⟩ ⟨cap'⟩ ∧ VRs first m first' ∧ VRs cap m cap' ∧
      (match f with
       | .yield id => ∃ b, m.J[id]? = some (b, none) ∧ f' = .yield b
       | f => f' = f)
  | .nilfn, _, c => c = .nilFunc
  | .iface t v, m, c => ∃ c', c = .iface t c' ∧ VR v m c'
  | .nili, _, c => c = .nilIface
  | .agg cells, m, c => ∃ cs, c = .agg ⟨cs⟩ ∧ VRl cells m cs
  | .tuple vs, m, c => ∃ cs, c = .tuple ⟨cs⟩ ∧ VRs vs m cs
def VRl : List V → Mem → List Value → Prop
 | [], _, cs => cs = []
 | v :: l, m, cs => ∃ c cs', cs = c :: cs' ∧ (VR v m c ∧ one c = true) ∧ VRl l m cs'
def VRs : List V → Mem → List Value → Prop
 | [], _, cs => cs = []
 | v :: l, m, cs => ∃ c cs', cs = c :: cs' ∧ VR v m c ∧ VRs l m cs'
def VRc : List V → Mem → Nat → Nat → Prop
 | [], _, _, _ => True
 | v :: l, m, b, o => (∃ c, m.M b o = some c ∧ VR v m c ∧ one c = true) ∧ VRc l m b (o + 1)
def VRr : List (List V) → Mem → Nat → Nat → Nat → Prop
 | [], _, _, _, _ => True
 | r :: l, m, b, o, sz => r.length = sz ∧ VRc r m b o ∧ VRr l m b (o + sz) sz
end
structure Mem.le (m m' : Mem) : Prop where
 M : ∀ b j c, m.M b j = some c → m'.M b j = some c
 Z : ∀ (b n : Nat), m.Z b = some n → m'.Z b = some n
 J : ∀ (id b : Nat), m.J[id]? = some (b, none) → m'.J[id]? = some (b, none)
 L : ∀ (id b l : Nat), m.J[id]? = some (b, some l) → ∃ b' l', m'.J[id]? = some (b', some l') ∧ l ≤ l' ∧ (l' = l → b' = b)
theorem Mem.le.refl (m : Mem) : m.le m := ⟨fun _ _ _ h => h, fun _ _ h => h, fun _ _ h => h, fun _ b l h => ⟨b, l, h, Nat.le_refl _, fun _ => rfl⟩⟩
theorem Mem.le.trans {a b c : Mem} (h : a.le b) (k : b.le c) : a.le c :=
 ⟨fun _ _ _ x => k.M _ _ _ (h.M _ _ _ x), fun _ _ x => k.Z _ _ (h.Z _ _ x), fun _ _ x => k.J _ _ (h.J _ _ x), fun id b l x => by
  obtain ⟨b1, l1, h1, h2, h3⟩ := h.L id b l x
  obtain ⟨b2, l2, k1, k2, k3⟩ := k.L id b1 l1 h1
  exact ⟨b2, l2, k1, Nat.le_trans h2 k2, fun e => by
   have e1 : l1 = l := by omega
   have e2 : l2 = l1 := by omega
   rw [k3 e2, h3 e1]⟩⟩
theorem Mem.le.alone {m m' : Mem} (h : m.le m') : m.alone.le m'.alone := ⟨h.M, h.Z, fun _ _ x => by simp [Mem.alone] at x, fun _ _ _ x => by simp [Mem.alone] at x⟩
mutual
theorem VR.mono : ∀ (v : V) {m m' : Mem} {c : Value}, m.le m' → VR v m c → VR v m' c
 | .undef, _, _, _, _, h => by simp only [VR]
 | .skip, _, _, _, _, h => by simpa only [VR] using h
 | .bool _, _, _, _, _, h => by simpa only [VR] using h
 | .int _ _, _, _, _, _, h => by simpa only [VR] using h
 | .str _, _, _, _, _, h => by simpa only [VR] using h
 | .nilp, _, _, _, _, h => by simpa only [VR] using h
 | .ptr id off, m, m', c, hm, h => by
  simp only [VR] at h ⊢
  obtain ⟨b, h1, h2⟩ := h
  exact ⟨b, hm.J _ _ h1, h2⟩
 | .rptr row off, m, m', c, hm, h => by
  simp only [VR] at h ⊢
  obtain ⟨b, o, h1, h2⟩ := h
  exact ⟨b, o, h1, VRc.mono row hm.alone h2⟩
 | .eptr id len sz i off, m, m', c, hm, h => by
  simp only [VR] at h ⊢
  obtain ⟨b, l, ad, h1, h0, h2, h3, h4⟩ := h
  obtain ⟨b', l', k1, k2, k3⟩ := hm.L _ _ _ h1
  exact ⟨b', l', ad, k1, h0, by omega, h3, fun e => by
   have e1 : l = len := by omega
   rw [k3 (by omega)]; exact h4 e1⟩
 | .adr _ _, _, _, _, _, h => by simp only [VR] at h
 | .box _, _, _, _, _, h => by simp only [VR] at h
 | .slice fl rows, m, m', c, hm, h => by
  simp only [VR] at h ⊢
  obtain ⟨a, cap, h1, h2, h3, h4, h5⟩ := h
  refine ⟨a, cap, h1, h2, h3, h4, fun hr => ?_⟩
  obtain ⟨b, o, sz, k1, k2⟩ := h5 hr
  exact ⟨b, o, sz, k1, VRr.mono rows hm.alone k2⟩
 | .arr id len sz, m, m', c, hm, h => by
  simp only [VR] at h ⊢
  obtain ⟨a, cap, b, l, h1, h2, h3, h4, h5, h6, h7⟩ := h
  obtain ⟨b', l', k1, k2, k3⟩ := hm.L _ _ _ h1
  refine ⟨a, cap, b', l', k1, h2, h3, by omega, h5, h6, fun h0 e => ?_⟩
  have e1 : l = len := by omega
  obtain ⟨g1, n, g2, g3⟩ := h7 h0 e1
  rw [k3 (by omega)]
  exact ⟨g1, n, hm.Z _ _ g2, g3⟩
 | .nilmap, _, _, _, _, h => by simpa only [VR] using h
 | .map id, m, m', c, hm, h => by
  simp only [VR] at h ⊢
  obtain ⟨b, h1, h2⟩ := h
  exact ⟨b, hm.J _ _ h1, h2⟩
 | .fn f first cap, m, m', c, hm, h => by
  simp only [VR] at h ⊢
  obtain ⟨f', first', cap', h1, h2, h3, h4⟩ := h
  refine ⟨f', first', cap', h1, VRs.mono first hm h2, VRs.mono cap hm h3, ?_⟩
  cases f with
  | yield id => obtain ⟨b, g1, g2⟩ := h4; exact ⟨b, hm.J _ _ g1, g2⟩
  | _ => exact h4
 | .nilfn, _, _, _, _, h => by simpa only [VR] using h
 | .iface t v, m, m', c, hm, h => by
  simp only [VR] at h ⊢
  obtain ⟨c', h1, h2⟩ := h
  exact ⟨c', h1, VR.mono v hm h2⟩
 | .nili, _, _, _, _, h => by simpa only [VR] using h
 | .agg cells, m, m', c, hm, h => by
  simp only [VR] at h ⊢
  obtain ⟨cs, h1, h2⟩ := h
  exact ⟨cs, h1, VRl.mono cells hm h2⟩
 | .tuple vs, m, m', c, hm, h => by
  simp only [VR] at h ⊢
  obtain ⟨cs, h1, h2⟩ := h
  exact ⟨cs, h1, VRs.mono vs hm h2⟩
theorem VRs.mono : ∀ (l : List V) {m m' : Mem} {cs : List Value}, m.le m' → VRs l m cs → VRs l m' cs
 | [], _, _, _, _, h => by simpa only [VRs] using h
 | v :: l, m, m', cs, hm, h => by
  simp only [VRs] at h ⊢
  obtain ⟨c, cs', h1, h2, h3⟩ := h
  exact ⟨c, cs', h1, VR.mono v hm h2, VRs.mono l hm h3⟩
theorem VRl.mono : ∀ (l : List V) {m m' : Mem} {cs : List Value}, m.le m' → VRl l m cs → VRl l m' cs
 | [], _, _, _, _, h => by simpa only [VRl] using h
 | v :: l, m, m', cs, hm, h => by
  simp only [VRl] at h ⊢
  obtain ⟨c, cs', h1, ⟨h2, h4⟩, h3⟩ := h
  exact ⟨c, cs', h1, ⟨VR.mono v hm h2, h4⟩, VRl.mono l hm h3⟩
theorem VRc.mono : ∀ (l : List V) {m m' : Mem} {b o : Nat}, m.le m' → VRc l m b o → VRc l m' b o
 | [], _, _, _, _, _, _ => by simp only [VRc]
 | v :: l, m, m', b, o, hm, h => by
  simp only [VRc] at h ⊢
  obtain ⟨⟨c, h1, h2, h4⟩, h3⟩ := h
  exact ⟨⟨c, hm.M _ _ _ h1, VR.mono v hm h2, h4⟩, VRc.mono l hm h3⟩
theorem VRr.mono : ∀ (l : List (List V)) {m m' : Mem} {b o sz : Nat}, m.le m' → VRr l m b o sz → VRr l m' b o sz
 | [], _, _, _, _, _, _, _ => by simp only [VRr]
 | r :: l, m, m', b, o, sz, hm, h => by
  simp only [VRr] at h ⊢
  obtain ⟨h1, h2, h3⟩ := h
  exact ⟨h1, VRc.mono r hm h2, VRr.mono l hm h3⟩
end
theorem Mem.cut_le (m : Mem) (n : Nat) : (m.cut n).le m where
 M _ _ _ h := h
 Z _ _ h := h
 J id b h := by
  simp only [Mem.cut, List.getElem?_take] at h
  split at h
  ·exact h
  ·cases h
 L id b l h := by
  simp only [Mem.cut, List.getElem?_take] at h
  split at h
  ·exact ⟨b, l, h, Nat.le_refl _, fun _ => rfl⟩
  ·cases h
theorem Mem.le.cut {m m' : Mem} (h : m.le m') (n : Nat) : (m.cut n).le (m'.cut n) where
 M := h.M
 Z := h.Z
 J id b e := by
  simp only [Mem.cut, List.getElem?_take] at e ⊢
  split at e
  ·rename_i hid; rw [if_pos hid]; exact h.J _ _ e
  ·cases e
 L id b l e := by
  simp only [Mem.cut, List.getElem?_take] at e ⊢
  split at e
  ·rename_i hid; rw [if_pos hid]; exact h.L _ _ _ e
  ·cases e
theorem Mem.cut_cut (m : Mem) {n k : Nat} (h : k ≤ n) : (m.cut n).cut k = m.cut k := by
 simp only [Mem.cut, List.take_take, Nat.min_eq_left h]
theorem Mem.cut_all (m : Mem) {n : Nat} (h : m.J.length ≤ n) : m.cut n = m := by
 simp only [Mem.cut, List.take_of_length_le h]
theorem Mem.cut_get (m : Mem) {n id : Nat} (h : id < n) : (m.cut n).J[id]? = m.J[id]? := by
 simp only [Mem.cut, List.getElem?_take, if_pos h]
mutual
theorem VR.below {n : Nat} : ∀ (v : V) {m : Mem} {c : Value}, below n v = true → VR v m c → VR v (m.cut n) c
 | .undef, _, _, _, h => by simp only [VR]
 | .skip, _, _, _, h => by simpa only [VR] using h
 | .bool _, _, _, _, h => by simpa only [VR] using h
 | .int _ _, _, _, _, h => by simpa only [VR] using h
 | .str _, _, _, _, h => by simpa only [VR] using h
 | .nilp, _, _, _, h => by simpa only [VR] using h
 | .ptr id off, m, c, hb, h => by
  simp only [Ab.below] at hb
  simp only [VR] at h ⊢
  rw [Mem.cut_get _ (Nat.le_of_ble_eq_true hb)]; exact h
 | .rptr row off, m, c, _, h => by
  simp only [VR] at h ⊢
  exact h
 | .eptr id len sz i off, m, c, hb, h => by
  simp only [Ab.below] at hb
  simp only [VR] at h ⊢
  rw [Mem.cut_get _ (Nat.le_of_ble_eq_true hb)]; exact h
 | .adr _ _, _, _, _, h => by simp only [VR] at h
 | .box _, _, _, _, h => by simp only [VR] at h
 | .slice fl rows, m, c, _, h => by
  simp only [VR] at h ⊢
  exact h
 | .arr id len sz, m, c, hb, h => by
  simp only [Ab.below] at hb
  simp only [VR] at h ⊢
  rw [Mem.cut_get _ (Nat.le_of_ble_eq_true hb)]; exact h
 | .nilmap, _, _, _, h => by simpa only [VR] using h
 | .map id, m, c, hb, h => by
  simp only [Ab.below] at hb
  simp only [VR] at h ⊢
  rw [Mem.cut_get _ (Nat.le_of_ble_eq_true hb)]; exact h
 | .fn f first cap, m, c, hb, h => by
  simp only [Ab.below, Bool.and_eq_true] at hb
  simp only [VR] at h ⊢
  obtain ⟨f', first', cap', h1, h2, h3, h4⟩ := h
  refine ⟨f', first', cap', h1, VRs.below first hb.2.1 h2, VRs.below cap hb.2.2 h3, ?_⟩
  cases f with
  | yield id => simp only at hb h4 ⊢; rw [Mem.cut_get _ (Nat.le_of_ble_eq_true hb.1)]; exact h4
  | _ => exact h4
 | .nilfn, _, _, _, h => by simpa only [VR] using h
 | .iface t v, m, c, hb, h => by
  simp only [Ab.below] at hb
  simp only [VR] at h ⊢
  obtain ⟨c', h1, h2⟩ := h
  exact ⟨c', h1, VR.below v hb h2⟩
 | .nili, _, _, _, h => by simpa only [VR] using h
 | .agg cells, m, c, hb, h => by
  simp only [Ab.below] at hb
  simp only [VR] at h ⊢
  obtain ⟨cs, h1, h2⟩ := h
  exact ⟨cs, h1, VRl.below cells hb h2⟩
 | .tuple vs, m, c, hb, h => by
  simp only [Ab.below] at hb
  simp only [VR] at h ⊢
  obtain ⟨cs, h1, h2⟩ := h
  exact ⟨cs, h1, VRs.below vs hb h2⟩
theorem VRs.below {n : Nat} : ∀ (l : List V) {m : Mem} {cs : List Value}, zbK n l = true → VRs l m cs → VRs l (m.cut n) cs
 | [], _, _, _, h => by simpa only [VRs] using h
 | v :: l, m, cs, hb, h => by
  simp only [zbK, Bool.and_eq_true] at hb
  simp only [VRs] at h ⊢
  obtain ⟨c, cs', h1, h2, h3⟩ := h
  exact ⟨c, cs', h1, VR.below v hb.1 h2, VRs.below l hb.2 h3⟩
theorem VRl.below {n : Nat} : ∀ (l : List V) {m : Mem} {cs : List Value}, zbK n l = true → VRl l m cs → VRl l (m.cut n) cs
 | [], _, _, _, h => by simpa only [VRl] using h
 | v :: l, m, cs, hb, h => by
  simp only [zbK, Bool.and_eq_true] at hb
  simp only [VRl] at h ⊢
  obtain ⟨c, cs', h1, ⟨h2, h4⟩, h3⟩ := h
  exact ⟨c, cs', h1, ⟨VR.below v hb.1 h2, h4⟩, VRl.below l hb.2 h3⟩
end
mutual
theorem VR.isBelow : ∀ (v : V) {m : Mem} {c : Value}, VR v m c → below m.J.length v = true
 | .undef, _, _, _ => rfl
 | .skip, _, _, _ => rfl
 | .bool _, _, _, _ => rfl
 | .int _ _, _, _, _ => rfl
 | .str _, _, _, _ => rfl
 | .nilp, _, _, _ => rfl
 | .ptr id off, m, c, h => by
  simp only [VR] at h
  obtain ⟨b, h1, _⟩ := h
  exact Nat.ble_eq_true_of_le (List.getElem?_eq_some_iff.1 h1).1
 | .rptr _ _, _, _, _ => rfl
 | .eptr id len sz i off, m, c, h => by
  simp only [VR] at h
  obtain ⟨b, l, ad, h1, _⟩ := h
  exact Nat.ble_eq_true_of_le (List.getElem?_eq_some_iff.1 h1).1
 | .adr _ _, _, _, h => by simp only [VR] at h
 | .box _, _, _, h => by simp only [VR] at h
 | .slice _ _, _, _, _ => rfl
 | .arr id len sz, m, c, h => by
  simp only [VR] at h
  obtain ⟨a, cap, b, l, h1, _⟩ := h
  exact Nat.ble_eq_true_of_le (List.getElem?_eq_some_iff.1 h1).1
 | .nilmap, _, _, _ => rfl
 | .map id, m, c, h => by
  simp only [VR] at h
  obtain ⟨b, h1, _⟩ := h
  exact Nat.ble_eq_true_of_le (List.getElem?_eq_some_iff.1 h1).1
 | .fn f first cap, m, c, h => by
  simp only [VR] at h
  obtain ⟨f', first', cap', h1, h2, h3, h4⟩ := h
  simp only [below, VRs.isBelow first h2, VRs.isBelow cap h3, Bool.and_true]
  cases f with
  | yield id => obtain ⟨b, g1, _⟩ := h4; exact Nat.ble_eq_true_of_le (List.getElem?_eq_some_iff.1 g1).1
  | _ => rfl
 | .nilfn, _, _, _ => rfl
 | .iface t v, m, c, h => by
  simp only [VR] at h
  obtain ⟨c', _, h2⟩ := h
  simp only [below]; exact VR.isBelow v h2
 | .nili, _, _, _ => rfl
 | .agg cells, m, c, h => by
  simp only [VR] at h
  obtain ⟨cs, _, h2⟩ := h
  simp only [below]; exact VRl.isBelow cells h2
 | .tuple vs, m, c, h => by
  simp only [VR] at h
  obtain ⟨cs, _, h2⟩ := h
  simp only [below]; exact VRs.isBelow vs h2
theorem VRs.isBelow : ∀ (l : List V) {m : Mem} {cs : List Value}, VRs l m cs → zbK m.J.length l = true
 | [], _, _, _ => rfl
 | v :: l, m, cs, h => by
  simp only [VRs] at h
  obtain ⟨c, cs', _, h2, h3⟩ := h
  simp only [zbK, VR.isBelow v h2, VRs.isBelow l h3, Bool.and_true]
theorem VRl.isBelow : ∀ (l : List V) {m : Mem} {cs : List Value}, VRl l m cs → zbK m.J.length l = true
 | [], _, _, _ => rfl
 | v :: l, m, cs, h => by
  simp only [VRl] at h
  obtain ⟨c, cs', _, ⟨h2, _⟩, h3⟩ := h
  simp only [zbK, VR.isBelow v h2, VRl.isBelow l h3, Bool.and_true]
end
theorem VRl.length : ∀ (l : List V) {m : Mem} {cs : List Value}, VRl l m cs → l.length = cs.length
 | [], _, _, h => by simp only [VRl] at h; subst h; rfl
 | v :: l, m, cs, h => by
  simp only [VRl] at h
  obtain ⟨c, cs', rfl, _, h3⟩ := h
  simp [VRl.length l h3]
theorem VRl.get : ∀ (l : List V) {m : Mem} {cs : List Value}, VRl l m cs → ∀ (j : Nat) (v : V), l[j]? = some v → ∃ c, cs[j]? = some c ∧ VR v m c ∧ one c = true
 | [], _, _, _, j, v, hv => by simp at hv
 | u :: l, m, cs, h, j, v, hv => by
  simp only [VRl] at h
  obtain ⟨c, cs', rfl, h2, h3⟩ := h
  cases j with
  | zero => simp at hv; subst hv; exact ⟨c, rfl, h2⟩
  | succ j => simp at hv; obtain ⟨c', h4, h5⟩ := VRl.get l h3 j v hv; exact ⟨c', by simpa using h4, h5⟩
theorem VRl.of_get : ∀ (l : List V) {m : Mem} {cs : List Value}, l.length = cs.length → (∀ (j : Nat) (v : V) (c : Value), l[j]? = some v → cs[j]? = some c → VR v m c ∧ one c = true) → VRl l m cs
 | [], _, cs, hl, _ => by simp only [VRl]; cases cs with | nil => rfl | cons _ _ => simp at hl
 | u :: l, m, cs, hl, h => by
  cases cs with
  | nil => simp at hl
  | cons c cs =>
   simp only [VRl]
   exact ⟨c, cs, rfl, h 0 u c rfl rfl, VRl.of_get l (by simpa using hl) fun j v c hv hc => h (j + 1) v c (by simpa using hv) (by simpa using hc)⟩
theorem VRl.append {l l' : List V} {m : Mem} {cs cs' : List Value} (h : VRl l m cs) (h' : VRl l' m cs') : VRl (l ++ l') m (cs ++ cs') := by
 induction l generalizing cs with
 | nil => simp only [VRl] at h; subst h; simpa using h'
 | cons v l ih =>
  simp only [VRl] at h
  obtain ⟨c, cs1, rfl, h2, h3⟩ := h
  simp only [List.cons_append, VRl]
  exact ⟨c, cs1 ++ cs', rfl, h2, ih h3⟩
theorem VRs.length : ∀ (l : List V) {m : Mem} {cs : List Value}, VRs l m cs → l.length = cs.length
 | [], _, _, h => by simp only [VRs] at h; subst h; rfl
 | v :: l, m, cs, h => by
  simp only [VRs] at h
  obtain ⟨c, cs', rfl, _, h3⟩ := h
  simp [VRs.length l h3]
theorem VRs.get : ∀ (l : List V) {m : Mem} {cs : List Value}, VRs l m cs → ∀ (j : Nat) (v : V), l[j]? = some v → ∃ c, cs[j]? = some c ∧ VR v m c
 | [], _, _, _, j, v, hv => by simp at hv
 | u :: l, m, cs, h, j, v, hv => by
  simp only [VRs] at h
  obtain ⟨c, cs', rfl, h2, h3⟩ := h
  cases j with
  | zero => simp at hv; subst hv; exact ⟨c, rfl, h2⟩
  | succ j => simp at hv; obtain ⟨c', h4, h5⟩ := VRs.get l h3 j v hv; exact ⟨c', by simpa using h4, h5⟩
theorem VRs.append {l l' : List V} {m : Mem} {cs cs' : List Value} (h : VRs l m cs) (h' : VRs l' m cs') : VRs (l ++ l') m (cs ++ cs') := by
 induction l generalizing cs with
 | nil => simp only [VRs] at h; subst h; simpa using h'
 | cons v l ih =>
  simp only [VRs] at h
  obtain ⟨c, cs1, rfl, h2, h3⟩ := h
  simp only [List.cons_append, VRs]
  exact ⟨c, cs1 ++ cs', rfl, h2, ih h3⟩
theorem VRc.get : ∀ (l : List V) {m : Mem} {b o : Nat}, VRc l m b o → ∀ (j : Nat) (v : V), l[j]? = some v → ∃ c, m.M b (o + j) = some c ∧ VR v m c ∧ one c = true
 | [], _, _, _, _, j, v, hv => by simp at hv
 | u :: l, m, b, o, h, j, v, hv => by
  simp only [VRc] at h
  obtain ⟨⟨c, h1, h2⟩, h3⟩ := h
  cases j with
  | zero => simp at hv; subst hv; exact ⟨c, h1, h2⟩
  | succ j =>
   simp at hv
   obtain ⟨c', h4, h5⟩ := VRc.get l h3 j v hv
   exact ⟨c', by rw [show o + (j + 1) = o + 1 + j by omega]; exact h4, h5⟩
theorem VRc.of_get : ∀ (l : List V) {m : Mem} {b o : Nat}, (∀ (j : Nat) (v : V), l[j]? = some v → ∃ c, m.M b (o + j) = some c ∧ VR v m c ∧ one c = true) → VRc l m b o
 | [], _, _, _, _ => by simp only [VRc]
 | u :: l, m, b, o, h => by
  simp only [VRc]
  refine ⟨h 0 u rfl, VRc.of_get l fun j v hv => ?_⟩
  obtain ⟨c, h1, h2⟩ := h (j + 1) v (by simpa using hv)
  exact ⟨c, by rw [show o + 1 + j = o + (j + 1) by omega]; exact h1, h2⟩
theorem VRr.get : ∀ (l : List (List V)) {m : Mem} {b o sz : Nat}, VRr l m b o sz → ∀ (i : Nat) (r : List V), l[i]? = some r → r.length = sz ∧ VRc r m b (o + i * sz)
 | [], _, _, _, _, _, i, r, hr => by simp at hr
 | u :: l, m, b, o, sz, h, i, r, hr => by
  simp only [VRr] at h
  obtain ⟨h1, h2, h3⟩ := h
  cases i with
  | zero => simp at hr; subst hr; exact ⟨h1, by simpa using h2⟩
  | succ i =>
   simp at hr
   obtain ⟨g1, g2⟩ := VRr.get l h3 i r hr
   exact ⟨g1, by rw [show o + (i + 1) * sz = o + sz + i * sz by rw [Nat.add_mul]; omega]; exact g2⟩
theorem VRr.of_get : ∀ (l : List (List V)) {m : Mem} {b o sz : Nat}, (∀ (i : Nat) (r : List V), l[i]? = some r → r.length = sz ∧ VRc r m b (o + i * sz)) → VRr l m b o sz
 | [], _, _, _, _, _ => by simp only [VRr]
 | u :: l, m, b, o, sz, h => by
  simp only [VRr]
  refine ⟨(h 0 u rfl).1, by simpa using (h 0 u rfl).2, VRr.of_get l fun i r hr => ?_⟩
  obtain ⟨g1, g2⟩ := h (i + 1) r (by simpa using hr)
  exact ⟨g1, by rw [show o + sz + i * sz = o + (i + 1) * sz by rw [Nat.add_mul]; omega]; exact g2⟩
end Go.Ab
namespace Go.Ab
inductive Owner where
 | slot (a i : Nat)
 | mark (a d : Nat)
 | ob (h id : Nat)
 deriving DecidableEq
def Owner.name : Owner → Nat
 | .slot a _ => a
 | .mark a _ => a
 | .ob h _ => h
structure Gh where
 K : Nat → Nat
 own : Nat → Option Owner
 J : List (Nat × Option Nat)
 nx : Nat
def zca (o : Option Obj) (j : Nat) : Option Value :=
 match o with
 | some (.cells c _ _) => c[j]?
 | _ => none
def zds (o : Option Obj) : Option Nat :=
 match o with
 | some (.cells c _ (0, 0)) => some c.size
 | _ => none
theorem zcX (w : World) (b j : Nat) : w.cell? ⟨b, j, none⟩ = zca w.heap[b]? j := by
 unfold World.cell? zca
 cases h : w.heap[b]? with
 | none => rfl
 | some o => cases o <;> rfl
def zn (w : World) (g : Gh) : Mem where
 M b j := if g.own b = none ∨ j < g.K b then zca w.heap[b]? j else none
 Z b := zds w.heap[b]?
 J := g.J
structure WF (w : World) (g : Gh) : Prop where
 new : ∀ b, w.heap.size ≤ b → g.own b = none
 inj : ∀ b b' p, g.own b = some p → g.own b' = some p → b = b'
 nx : ∀ b p, g.own b = some p → p.name < g.nx
def zdH : Ex → Code
 | .normal => .skip
 | .exit id => .exit id
 | .ret => .ret
def zb8 (ag : Bool) (cs : List Value) : Value := match ag with
 | true => .agg ⟨cs⟩
 | false => match cs with
  | [c] => c
  | _ => Go.undef
def OR (w : World) (g : Gh) (hn id : Nat) : Ob → Prop
 | .cells cs => ∃ b cells e, g.J[id]? = some (b, none) ∧ g.own b = some (.ob hn id) ∧ g.K b = 0 ∧ w.heap[b]? = some (.cells cells e (0, 0)) ∧ VRl cs (zn w g) cells.toList
 | .arr wr sz rows => ∃ b, g.J[id]? = some (b, some rows.length) ∧ 0 < sz ∧ (rows ≠ [] → ∃ cells e, g.own b = some (.ob hn id) ∧ w.heap[b]? = some (.cells cells e (0, 0)) ∧
   (∀ (i : Nat) (r : List V), rows[i]? = some r → r.length = sz ∧ ∀ (j : Nat) (v : V), r[j]? = some v → ∃ c, cells[i * sz + j]? = some c ∧ VR v (zn w g).alone c ∧ one c = true) ∧
   g.K b ≤ rows.length * sz ∧ (wr = true → g.K b = 0))
 | .loop lp => ∃ b lc, g.J[id]? = some (b, none) ∧ g.own b = some (.ob hn id) ∧ w.heap[b]? = some (.loop lc) ∧ lc.state = lp.st ∧ lc.pending = lp.pend.map zdH ∧
   lc.params.toList = lp.ps ∧ lc.assign = lp.assign ∧ lc.body = lp.body ∧ VRs lp.t ((zn w g).cut id) lc.tmps.toList ∧ lp.pend ≠ some .normal
 | .dead => True
 | .map ka va kn es => (∀ e ∈ es, e.1.length = kn) ∧ ∃ b ents, g.J[id]? = some (b, none) ∧ g.own b = some (.ob hn id) ∧ w.heap[b]? = some (.map ents ents.size) ∧ ents.size = es.length ∧
   ∀ (i : Nat) (e : List V × List V), es[i]? = some e → ∃ x : MapEntry, ents[i]? = some x ∧ x.born = i ∧ (∃ cs, VRl e.1 (zn w g).alone cs ∧ x.key = zb8 ka cs) ∧ ∃ cs, VRl e.2 (zn w g).alone cs ∧ x.val = zb8 va cs
def TR (w : World) (g : Gh) (act i : Nat) (v : V) (c : Value) : Prop :=
 match v with
 | .box cells => ∃ b cs e, c = .pointer (some ⟨b, 0, none⟩) ∧ g.own b = some (.slot act i) ∧ g.K b = 0 ∧ w.heap[b]? = some (.cells cs e (0, 0)) ∧ VRl cells (zn w g) cs.toList
 | .adr j off => ∃ b, g.own b = some (.slot act j) ∧ c = .pointer (some ⟨b, off, none⟩)
 | v => VR v (zn w g) c
def zbd (act hn : Nat) (p : Owner) : Prop := (∃ i, p = .slot act i) ∨ (∃ d, p = .mark act d) ∨ ∃ id, p = .ob hn id
structure SR (act hn : Nat) (s : St) (a : Act) (w : World) (g : Gh) : Prop where
 wf : WF w g
 size : s.t.length = a.tmps.size
 tmp : ∀ (i : Nat) (v : V), s.t[i]? = some v → ∃ c, a.tmps[i]? = some c ∧ TR w g act i v c
 jl : g.J.length = s.h.length
 obj : ∀ (id : Nat) (ob : Ob), s.h[id]? = some ob → OR w g hn id ob
 dfr : ∀ d ∈ a.defers, ∃ D, d = { target := .collected D, args := #[] } ∧ g.own D = some (.mark act D) ∧ w.heap[D]? = some (.deferred (some []))
 an : act < g.nx
 hm : hn < g.nx
structure Ext (ok : Owner → Prop) (w : World) (g : Gh) (w' : World) (g' : Gh) : Prop where
 size : w.heap.size ≤ w'.heap.size
 keep : ∀ b, b < w.heap.size → (∀ p, g.own b = some p → ¬ ok p) → w'.heap[b]? = w.heap[b]? ∧ g'.own b = g.own b ∧ g'.K b = g.K b
 le : (zn w g).le (zn w' g')
 nx : g.nx ≤ g'.nx
 os : w'.os = w.os
 tape : w'.tape = w.tape
 output : w'.output = w.output
 dr : w.drawn ≤ w'.drawn
theorem Ext.refl (ok : Owner → Prop) (w : World) (g : Gh) : Ext ok w g w g := ⟨Nat.le_refl _, fun _ _ _ => ⟨rfl, rfl, rfl⟩, Mem.le.refl _, Nat.le_refl _, rfl, rfl, rfl, Nat.le_refl _⟩
theorem Ext.trans {ok : Owner → Prop} {w w1 w2 : World} {g g1 g2 : Gh} (h : Ext ok w g w1 g1) (k : Ext ok w1 g1 w2 g2) : Ext ok w g w2 g2 :=
 ⟨Nat.le_trans h.size k.size, fun b hb hp => by
  obtain ⟨e1, e2, e3⟩ := h.keep b hb hp
  obtain ⟨k1, k2, k3⟩ := k.keep b (Nat.lt_of_lt_of_le hb h.size) (fun p e => hp p (e2 ▸ e))
  exact ⟨k1.trans e1, k2.trans e2, k3.trans e3⟩, h.le.trans k.le, Nat.le_trans h.nx k.nx, k.os.trans h.os, k.tape.trans h.tape, k.output.trans h.output, Nat.le_trans h.dr k.dr⟩
theorem Ext.weaken {ok ok' : Owner → Prop} {w w1 : World} {g g1 : Gh} (h : Ext ok w g w1 g1) (hk : ∀ p, ok p → ok' p) : Ext ok' w g w1 g1 :=
 ⟨h.size, fun b hb hp => h.keep b hb fun p e k => hp p e (hk p k), h.le, h.nx, h.os, h.tape, h.output, h.dr⟩
theorem zdY (l : List V) (i : Nat) : nth l i = (l[i]?).getD .undef := by
 induction l generalizing i with
 | nil => rfl
 | cons x l ih => cases i with
  | zero => rfl
  | succ i => simpa [nth] using ih i
theorem zfe (l : List V) (i j : Nat) (v : V) : (upd l i v)[j]? = if j = i then (l[j]?).map (fun _ => v) else l[j]? := by
 induction l generalizing i j with
 | nil => simp [upd]
 | cons x l ih =>
  cases i with
  | zero => cases j with
   | zero => simp [upd]
   | succ j => simp [upd]
  | succ i => cases j with
   | zero => simp [upd]
   | succ j => simp only [upd, List.getElem?_cons_succ, ih]; simp
theorem zfZ (l : List V) (i : Nat) (v : V) : (upd l i v).length = l.length := by
 induction l generalizing i with
 | nil => rfl
 | cons x l ih => cases i with
  | zero => rfl
  | succ i => simp [upd, ih]
theorem zaG (l : List Ob) (i : Nat) : zav l i = l[i]? := by
 induction l generalizing i with
 | nil => rfl
 | cons x l ih => cases i with
  | zero => rfl
  | succ i => simpa [zav] using ih i
theorem zdZ (l : List Ob) (i : Nat) (o : Ob) : zah l i o = l.set i o := by
 induction l generalizing i with
 | nil => rfl
 | cons x l ih => cases i with
  | zero => rfl
  | succ i => simp [zah, ih]
theorem znv (n : Nat) (l : List Nat) : zeF n l = true ↔ n ∈ l := by
 induction l with
 | nil => simp [zeF]
 | cons m l ih =>
  simp only [zeF, List.mem_cons]
  cases h : Nat.beq n m with
  | true => have := Nat.eq_of_beq_eq_true h; simp [this]
  | false => simp [ih, Nat.ne_of_beq_eq_false h]
theorem zcB (n : Nat) (l : List V) : zi4 n l = l.take n := by
 induction n generalizing l with
 | zero => rfl
 | succ n ih => cases l with
  | nil => rfl
  | cons v l => simp [zi4, ih]
theorem zbr (n : Nat) (l : List V) : zek n l = l.drop n := by
 induction n generalizing l with
 | zero => rfl
 | succ n ih => cases l with
  | nil => rfl
  | cons v l => simp [zek, ih]
theorem TR.of_VR {w : World} {g : Gh} {act i : Nat} {v : V} {c : Value} (h : VR v (zn w g) c) : TR w g act i v c := by
 cases v <;> first
  | exact h
  | (simp only [VR] at h)
theorem TR.view {w : World} {g : Gh} {act i : Nat} {v : V} {c : Value} (h : TR w g act i v c) : VR (view v) (zn w g) c := by
 cases v <;> first
  | exact h
  | (simp only [Ab.view, VR])
theorem VR.view {m : Mem} {v : V} {c : Value} (h : VR v m c) : VR (view v) m c := by
 cases v <;> first
  | exact h
  | (simp only [Ab.view, VR])
theorem TR.VR {w : World} {g : Gh} {act i : Nat} {v : V} {c : Value} (h : TR w g act i v c) (h1 : ∀ cs, v ≠ .box cs) (h2 : ∀ j o, v ≠ .adr j o) : VR v (zn w g) c := by
 cases v <;> first
  | exact h
  | exact absurd rfl (h1 _)
  | exact absurd rfl (h2 _ _)
variable {act hn : Nat} {s : St} {a : Act} {w : World} {g : Gh}
theorem SR.slot (h : SR act hn s a w g) (i : Nat) : TR w g act i (nth s.t i) (a.tmps.getD i Go.undef) := by
 rw [zdY]
 cases hv : s.t[i]? with
 | none => exact TR.of_VR (by simp only [Option.getD_none, Ab.VR])
 | some v =>
  obtain ⟨c, hc, ht⟩ := h.tmp i v hv
  simpa [Array.getD_eq_getD_getElem?, hc] using ht
theorem zlH (m : Mem) (c : Value) : VR (zj8 c) m c := by
 unfold zj8
 split <;> (try simp only [VR]) <;> try trivial
 ·exact ⟨none, 0, rfl, Nat.le_refl _, ⟨rfl, rfl⟩, fun _ => rfl, fun h => absurd rfl h⟩
 ·rename_i f
  split
  ·simp only [VR, VRs]
   exact ⟨_, [], [], rfl, rfl, rfl, rfl⟩
  ·simp only [VR]
theorem zkd (m : Mem) : ∀ (cs : List Value), cs.all one = true → VRl (cs.map zj8) m cs
 | [], _ => by simp only [List.map_nil, VRl]
 | c :: cs, h => by
  simp only [List.all_cons, Bool.and_eq_true] at h
  simp only [List.map_cons, VRl]
  exact ⟨c, cs, rfl, ⟨zlH m c, h.1⟩, zkd m cs h.2⟩
theorem zdj (m : Mem) (c : Value) : VR (zi5 c) m c := by
 unfold zi5
 split
 ·split
  ·rename_i h
   simp only [VR]
   exact ⟨_, rfl, zkd m _ h⟩
  ·simp only [VR]
 ·exact zlH m c
theorem zmW {m : Mem} {z : Value} (h : z.cells.toList.all one = true) : VRl (zim z) m z.cells.toList := by
 unfold zim
 split
 ·rename_i cs
  exact zkd m cs (by simpa [Value.cells] using h)
 ·rename_i hz
  have e : z.cells = #[z] := by
   cases z <;> first
    | rfl
    | exact absurd rfl (hz _)
  rw [e] at h ⊢
  simp only [List.all_cons, List.all_nil, Bool.and_true] at h
  simp only [VRl]
  exact ⟨z, [], rfl, ⟨zlH m z, h⟩, rfl⟩
theorem SR.evalT (h : SR act hn s a w g) (i : Nat) : TR w g act i (zo s (.tmp i)) (a.eval (.tmp i)) := h.slot i
theorem SR.evalV (h : SR act hn s a w g) (x : Operand) : VR (view (zo s x)) (zn w g) (a.eval x) := by
 cases x with
 | tmp i => exact (h.slot i).view
 | const v => exact (zdj _ v).view
 | func f => simp only [zo, view, VR, VRs, Act.eval]; exact ⟨_, [], [], rfl, rfl, rfl, rfl⟩
 | global n => simp only [zo, view, VR]
theorem SR.evalN (h : SR act hn s a w g) {x : Operand} {v : V} (e : zo s x = v) (h1 : view v = v) : VR v (zn w g) (a.eval x) := by
 have := h.evalV x
 rwa [e, h1] at this
theorem Act.put_none (a : Act) (c : Value) : a.put none c = a := rfl
theorem OR.frame {id : Nat} {ob : Ob} {w' : World} {g' : Gh} (h : OR w g hn id ob) (hJ : g'.J[id]? = g.J[id]?) (le : (zn w g).le (zn w' g'))
  (hb : ∀ b, g.own b = some (.ob hn id) → w'.heap[b]? = w.heap[b]? ∧ g'.own b = g.own b ∧ g'.K b = g.K b) : OR w' g' hn id ob := by
 cases ob with
 | dead => trivial
 | cells cs =>
  obtain ⟨b, cells, e, h1, h2, h3, h4, h5⟩ := h
  obtain ⟨k1, k2, k3⟩ := hb b h2
  exact ⟨b, cells, e, by rw [hJ, h1], by rw [k2, h2], by rw [k3, h3], by rw [k1, h4], VRl.mono _ le h5⟩
 | arr wr sz rows =>
  obtain ⟨b, h1, h0, h2⟩ := h
  refine ⟨b, by rw [hJ, h1], h0, fun hr => ?_⟩
  obtain ⟨cells, e, g1, g2, g3, g4, g5⟩ := h2 hr
  obtain ⟨k1, k2, k3⟩ := hb b g1
  exact ⟨cells, e, by rw [k2, g1], by rw [k1, g2], fun i r hi => ⟨(g3 i r hi).1, fun j v hv => by
   obtain ⟨c, c1, c2, c3⟩ := (g3 i r hi).2 j v hv
   exact ⟨c, c1, VR.mono _ le.alone c2, c3⟩⟩, by rw [k3]; exact g4, by rw [k3]; exact g5⟩
 | loop lp =>
  obtain ⟨b, lc, h1, h2, h4, h5, h6, h7, h8, h9, h10, h11⟩ := h
  obtain ⟨k1, k2, k3⟩ := hb b h2
  exact ⟨b, lc, by rw [hJ, h1], by rw [k2, h2], by rw [k1, h4], h5, h6, h7, h8, h9, VRs.mono _ (le.cut id) h10, h11⟩
 | map ka va kn es =>
  obtain ⟨h0, b, ents, h1, h2, h3, h4, h5⟩ := h
  obtain ⟨k1, k2, k3⟩ := hb b h2
  exact ⟨h0, b, ents, by rw [hJ, h1], by rw [k2, h2], by rw [k1, h3], h4, fun i e he => by
   obtain ⟨x, g1, g2, ⟨cs, g3, g4⟩, ds, g5, g6⟩ := h5 i e he
   exact ⟨x, g1, g2, ⟨cs, VRl.mono _ le.alone g3, g4⟩, ds, VRl.mono _ le.alone g5, g6⟩⟩
theorem TR.frame {i : Nat} {v : V} {c : Value} {w' : World} {g' : Gh} (h : TR w g act i v c) (le : (zn w g).le (zn w' g'))
  (hb : ∀ b j, g.own b = some (.slot act j) → w'.heap[b]? = w.heap[b]? ∧ g'.own b = g.own b ∧ g'.K b = g.K b) : TR w' g' act i v c := by
 cases v with
 | box cells =>
  obtain ⟨b, cs, e, h1, h2, h3, h4, h5⟩ := h
  obtain ⟨k1, k2, k3⟩ := hb b _ h2
  exact ⟨b, cs, e, h1, by rw [k2, h2], by rw [k3, h3], by rw [k1, h4], VRl.mono _ le h5⟩
 | adr j off =>
  obtain ⟨b, h1, h2⟩ := h
  obtain ⟨k1, k2, k3⟩ := hb b _ h1
  exact ⟨b, by rw [k2, h1], h2⟩
 | _ => exact VR.mono _ le h
theorem SR.frame {w' : World} {g' : Gh} (h : SR act hn s a w g) (wf : WF w' g') (hJ : g'.J = g.J) (le : (zn w g).le (zn w' g'))
  (hb : ∀ b p, g.own b = some p → zbd act hn p → w'.heap[b]? = w.heap[b]? ∧ g'.own b = g.own b ∧ g'.K b = g.K b) (nx : g.nx ≤ g'.nx) : SR act hn s a w' g' where
 wf := wf
 size := h.size
 tmp i v hv := by
  obtain ⟨c, hc, ht⟩ := h.tmp i v hv
  exact ⟨c, hc, ht.frame le fun b j e => hb b _ e (.inl ⟨j, rfl⟩)⟩
 jl := by rw [hJ]; exact h.jl
 obj id ob e := (h.obj id ob e).frame (by rw [hJ]) le fun b e => hb b _ e (.inr (.inr ⟨id, rfl⟩))
 dfr d hd := by
  obtain ⟨D, h1, h2, h3⟩ := h.dfr d hd
  obtain ⟨k1, k2, _⟩ := hb D _ h2 (.inr (.inl ⟨D, rfl⟩))
  exact ⟨D, h1, by rw [k2, h2], by rw [k1, h3]⟩
 an := Nat.lt_of_lt_of_le h.an nx
 hm := Nat.lt_of_lt_of_le h.hm nx
def Gh.cut (g : Gh) (n : Nat) : Gh := { g with J := g.J.take n }
theorem zqY (w : World) (g : Gh) (n : Nat) : zn w (g.cut n) = (zn w g).cut n := rfl
theorem zke (n : Nat) (h : List Ob) : zdS n h = h.take n := by
 induction n generalizing h with
 | zero => rfl
 | succ n ih => cases h with
  | nil => rfl
  | cons o l => simp [zdS, ih]
theorem zcC {n : Nat} : ∀ {h : List Ob} (_ : za8 n h = true) {id : Nat} {cs : List V} (_ : h[id]? = some (.cells cs)), zbK n cs = true
 | [], _, id, cs, e => by simp at e
 | .cells ds :: l, hb, id, cs, e => by
  simp only [za8, Bool.and_eq_true] at hb
  cases id with
  | zero => simp at e; subst e; exact hb.1
  | succ id => exact zcC hb.2 (by simpa using e)
 | .arr _ _ _ :: l, hb, id, cs, e => by
  simp only [za8] at hb
  cases id with
  | zero => simp at e
  | succ id => exact zcC hb (by simpa using e)
 | .loop _ :: l, hb, id, cs, e => by
  simp only [za8] at hb
  cases id with
  | zero => simp at e
  | succ id => exact zcC hb (by simpa using e)
 | .dead :: l, hb, id, cs, e => by
  simp only [za8] at hb
  cases id with
  | zero => simp at e
  | succ id => exact zcC hb (by simpa using e)
 | .map _ _ _ _ :: l, hb, id, cs, e => by
  simp only [za8] at hb
  cases id with
  | zero => simp at e
  | succ id => exact zcC hb (by simpa using e)
theorem OR.cut {n id : Nat} {ob : Ob} (h : OR w g hn id ob) (hid : id < n) (hb : ∀ cs, ob = .cells cs → zbK n cs = true) : OR w (g.cut n) hn id ob := by
 have e : ((g.cut n).J)[id]? = g.J[id]? := Mem.cut_get (zn w g) hid
 cases ob with
 | dead => trivial
 | cells cs =>
  obtain ⟨b, cells, ty, h1, h2, h3, h4, h5⟩ := h
  exact ⟨b, cells, ty, by rw [e, h1], h2, h3, h4, VRl.below _ (hb _ rfl) h5⟩
 | arr wr sz rows =>
  obtain ⟨b, h1, h2⟩ := h
  exact ⟨b, by rw [e, h1], h2⟩
 | loop lp =>
  obtain ⟨b, lc, h1, h2, h4, h5, h6, h7, h8, h9, h10, h11⟩ := h
  refine ⟨b, lc, by rw [e, h1], h2, h4, h5, h6, h7, h8, h9, ?_, h11⟩
  rw [zqY, Mem.cut_cut _ (Nat.le_of_lt hid)]; exact h10
 | map ka va kn es =>
  obtain ⟨h0, b, ents, h1, h2⟩ := h
  exact ⟨h0, b, ents, by rw [e, h1], h2⟩
theorem SR.cut (h : SR act hn s a w g) {n : Nat} (hs : ∀ (i : Nat) (v : V) (c : Value), s.t[i]? = some v → a.tmps[i]? = some c → TR w (g.cut n) act i v c) (ho : za8 n (s.h.take n) = true) : SR act hn ⟨s.t, s.h.take n⟩ a w (g.cut n) where
 wf := ⟨h.wf.new, h.wf.inj, h.wf.nx⟩
 size := h.size
 tmp i v hv := by
  obtain ⟨c, hc, _⟩ := h.tmp i v hv
  exact ⟨c, hc, hs i v c hv hc⟩
 jl := by simp [Gh.cut, h.jl]
 obj id ob e := by
  have e0 := e
  simp only [List.getElem?_take] at e
  split at e
  ·rename_i hid; exact (h.obj id ob e).cut hid fun cs hc => by subst hc; exact zcC ho e0
  ·cases e
 dfr := h.dfr
 an := h.an
 hm := h.hm
theorem TR.below {i n : Nat} {v : V} {c : Value} (hb : below n v = true) (h : TR w g act i v c) : TR w (g.cut n) act i v c := by
 cases v with
 | box cells =>
  obtain ⟨b, cs, e, h1, h2, h3, h4, h5⟩ := h
  exact ⟨b, cs, e, h1, h2, h3, h4, VRl.below _ (by simpa only [Ab.below] using hb) h5⟩
 | adr j off => exact h
 | _ => exact VR.below (m := zn w g) (c := c) _ hb h
theorem TR.isBelow {i : Nat} {v : V} {c : Value} (h : TR w g act i v c) : Ab.below g.J.length v = true := by
 cases v with
 | box cells =>
  obtain ⟨b, cs, e, h1, h2, h3, h4, h5⟩ := h
  simp only [Ab.below]; exact VRl.isBelow _ h5
 | adr j off => rfl
 | _ => exact VR.isBelow (m := zn w g) (c := c) _ h
theorem zkN {n : Nat} : ∀ {l : List V} (_ : zbK n l = true) {i : Nat} {v : V} (_ : l[i]? = some v), below n v = true
 | [], _, i, v, e => by simp at e
 | u :: l, hb, i, v, e => by
  simp only [zbK, Bool.and_eq_true] at hb
  cases i with
  | zero => simp at e; subst e; exact hb.1
  | succ i => exact zkN hb.2 (by simpa using e)
theorem SR.trim (h : SR act hn s a w g) {n : Nat} {s' : St} (hk : zfW n s some = some s') : s'.t = s.t ∧ s'.h.length ≤ n ∧ ∃ g', SR act hn s' a w g' ∧ (g' = g ∨ g' = g.cut n) := by
 unfold zfW at hk
 cases hb : Nat.ble s.h.length n with
 | true =>
  rw [hb] at hk; cases hk
  exact ⟨rfl, Nat.le_of_ble_eq_true hb, g, h, .inl rfl⟩
 | false =>
  rw [hb] at hk
  simp only at hk
  split at hk
  ·rename_i hc
   simp only [Bool.and_eq_true, zke] at hc
   cases hk
   rw [zke]
   refine ⟨rfl, by simp; omega, _, h.cut (fun i v c hv hcc => ?_) hc.2, .inr rfl⟩
   obtain ⟨c', hc', ht⟩ := h.tmp i v hv
   rw [hcc] at hc'; cases hc'
   exact ht.below (zkN hc.1 hv)
  ·cases hk
theorem zsR {R : Type} (n : Nat) (s : St) (k : St → Option R) : zfW n s k = (zfW n s some).bind k := by
 unfold zfW
 split
 ·rfl
 ·split <;> rfl
theorem Ext.cut {ok : Owner → Prop} {w' : World} {g' : Gh} (h : Ext ok w g w' g') {n : Nat} (hn : g.J.length ≤ n) : Ext ok w g w' (g'.cut n) where
 size := h.size
 keep := h.keep
 le := by
  have := h.le.cut n
  rwa [Mem.cut_all _ hn] at this
 nx := h.nx
 os := h.os
 tape := h.tape
 output := h.output
 dr := h.dr
theorem Ext.jlen {ok : Owner → Prop} {w' : World} {g' : Gh} (h : Ext ok w g w' g') : g.J.length ≤ g'.J.length := by
 apply Nat.le_of_not_lt
 intro hlt
 have hg : g.J[g'.J.length]? = some g.J[g'.J.length] := List.getElem?_eq_getElem hlt
 have hn : g'.J[g'.J.length]? = none := by simp
 rcases hx : g.J[g'.J.length] with ⟨b, _ | l⟩
 ·rw [hx] at hg
  have := h.le.J _ _ hg
  have this : g'.J[g'.J.length]? = some (b, none) := this
  rw [hn] at this; cases this
 ·rw [hx] at hg
  obtain ⟨b', l', this, _⟩ := h.le.L _ _ _ hg
  have this : g'.J[g'.J.length]? = some (b', some l') := this
  rw [hn] at this; cases this
theorem znw (a : Act) (d : Nat) (c : Value) (i : Nat) : (a.put (some d) c).tmps[i]? = if i = d then (a.tmps[i]?).map (fun _ => c) else a.tmps[i]? := by
 simp only [Act.put, Array.getElem?_setIfInBounds]
 by_cases e : d = i
 ·subst e
  by_cases hd : d < a.tmps.size
  ·simp [hd]
  ·simp [hd]
 ·have e' : ¬ i = d := fun h => e h.symm
  simp [e, e']
theorem SR.put (h : SR act hn s a w g) (d : Option Nat) {v : V} {c : Value} (hv : ∀ i, d = some i → TR w g act i v c) : SR act hn (s.put d v) (a.put d c) w g := by
 cases d with
 | none => exact h
 | some d =>
  refine { h with size := ?_, tmp := ?_ }
  ·simp only [St.put, zfZ, Act.put, Array.size_setIfInBounds]; exact h.size
  ·intro i u hu
   simp only [St.put, zfe] at hu
   rw [znw]
   by_cases e : i = d
   ·subst e
    simp only [if_true] at hu ⊢
    cases hs : s.t[i]? with
    | none => rw [hs] at hu; cases hu
    | some u' =>
     rw [hs] at hu
     cases hu
     obtain ⟨c', hc', _⟩ := h.tmp i u' hs
     exact ⟨c, by rw [hc']; rfl, hv i rfl⟩
   ·rw [if_neg e] at hu ⊢
    exact h.tmp i u hu
theorem SR.putV (h : SR act hn s a w g) (d : Option Nat) {v : V} {c : Value} (hv : VR v (zn w g) c) : SR act hn (s.put d v) (a.put d c) w g := h.put d fun _ _ => TR.of_VR hv
def Gh.grab (g : Gh) (b : Nat) (p : Owner) : Gh :=
 { g with own := fun x => if x = b then some p else if g.own x = some p then none else g.own x, K := fun x => if x = b then 0 else g.K x }
theorem zao (w : World) (o : Obj) (b : Nat) : (w.alloc o).heap[b]? = if b = w.heap.size then some o else w.heap[b]? := by
 show (w.heap.push o)[b]? = _
 rw [Array.getElem?_push]
theorem WF.grab (wf : WF w g) (o : Obj) (p : Owner) (hp : p.name < g.nx) (J : List (Nat × Option Nat)) : WF (w.alloc o) { g.grab w.heap.size p with J := J } where
 new b hb := by
  have hb' : w.heap.size + 1 ≤ b := by simpa [World.size_alloc] using hb
  have h1 : b ≠ w.heap.size := by omega
  simp only [Gh.grab, h1, if_false, wf.new b (by omega)]
  simp
 inj b b' q h1 h2 := by
  simp only [Gh.grab] at h1 h2
  by_cases e1 : b = w.heap.size
  ·by_cases e2 : b' = w.heap.size
   ·omega
   ·simp only [e1, if_true, e2, if_false] at h1 h2
    split at h2
    ·cases h2
    ·rename_i hne; cases h1; exact absurd h2 hne
  ·by_cases e2 : b' = w.heap.size
   ·simp only [e1, if_false, e2, if_true] at h1 h2
    split at h1
    ·cases h1
    ·rename_i hne; cases h2; exact absurd h1 hne
   ·simp only [e1, e2, if_false] at h1 h2
    split at h1
    ·cases h1
    ·split at h2
     ·cases h2
     ·exact wf.inj b b' q h1 h2
 nx b q h1 := by
  simp only [Gh.grab] at h1 ⊢
  split at h1
  ·cases h1; exact hp
  ·split at h1
   ·cases h1
   ·exact wf.nx b q h1
theorem zhg (wf : WF w g) (o : Obj) (p : Owner) (J : List (Nat × Option Nat)) (hJ : ∀ (id : Nat) (x : Nat × Option Nat), g.J[id]? = some x → J[id]? = some x) :
  (zn w g).le (zn (w.alloc o) { g.grab w.heap.size p with J := J }) where
 M b j c h := by
  simp only [zn, Gh.grab] at h ⊢
  rw [zao]
  split at h
  ·rename_i hc
   have hne : b ≠ w.heap.size := by
    intro e
    rw [e] at h
    have : w.heap[w.heap.size]? = none := by simp
    rw [this] at h; simp [zca] at h
   simp only [hne, if_false]
   rw [if_pos, h]
   rcases hc with hc | hc
   ·left; simp [hc]
   ·right; exact hc
  ·cases h
 Z b n h := by
  simp only [zn] at h ⊢
  rw [zao]
  split
  ·rename_i e; rw [e] at h; simp [zds] at h
  ·exact h
 J id b h := hJ id _ h
 L id b l h := ⟨b, l, hJ id _ h, Nat.le_refl _, fun _ => rfl⟩
theorem Ext.grab (wf : WF w g) (o : Obj) (p : Owner) (ok : Owner → Prop) (hok : ok p) (J : List (Nat × Option Nat)) (hJ : ∀ (id : Nat) (x : Nat × Option Nat), g.J[id]? = some x → J[id]? = some x) :
  Ext ok w g (w.alloc o) { g.grab w.heap.size p with J := J } where
 size := by simp
 keep b hb hp := by
  have hne : b ≠ w.heap.size := by omega
  refine ⟨by rw [zao, if_neg hne], ?_, by simp [Gh.grab, hne]⟩
  simp only [Gh.grab, hne, if_false]
  split
  ·rename_i e; exact absurd hok (hp p e)
  ·rfl
 le := zhg wf o p J hJ
 nx := Nat.le_refl _
 os := rfl
 tape := rfl
 output := rfl
 dr := Nat.le_refl _
theorem zjF (l : List V) (d i : Nat) : (l.map (zbk d))[i]? = (l[i]?).map (zbk d) := by simp
theorem SR.allocSlot (h : SR act hn s a w g) (d : Nat) {cells : List V} {cs : Array Value} (e : TypeId) (hc : VRl cells (zn w g) cs.toList) :
  SR act hn ⟨upd (s.t.map (zbk d)) d (.box cells), s.h⟩ (a.put (some d) (.pointer (some ⟨w.heap.size, 0, none⟩))) (w.alloc (.cells cs e)) (g.grab w.heap.size (.slot act d)) ∧
  Ext (zbd act hn) w g (w.alloc (.cells cs e)) (g.grab w.heap.size (.slot act d)) := by
 have wf' : WF (w.alloc (.cells cs e)) (g.grab w.heap.size (.slot act d)) := h.wf.grab _ (.slot act d) h.an g.J
 have le' : (zn w g).le (zn (w.alloc (.cells cs e)) (g.grab w.heap.size (.slot act d))) := zhg h.wf _ _ g.J fun _ _ x => x
 have hlt : ∀ b p, g.own b = some p → b ≠ w.heap.size := fun b p hp e => by rw [h.wf.new b (by omega)] at hp; cases hp
 have keep : ∀ b p, g.own b = some p → p ≠ .slot act d → (w.alloc (.cells cs e)).heap[b]? = w.heap[b]? ∧ (g.grab w.heap.size (.slot act d)).own b = g.own b ∧ (g.grab w.heap.size (.slot act d)).K b = g.K b := by
  intro b p hp hne
  have h1 := hlt b p hp
  refine ⟨by rw [zao, if_neg h1], ?_, by simp [Gh.grab, h1]⟩
  have h2 : ¬ g.own b = some (.slot act d) := by rw [hp]; intro e; cases e; exact hne rfl
  simp only [Gh.grab, h1, if_false, h2]
 refine ⟨?_, Ext.grab h.wf _ _ _ (.inl ⟨d, rfl⟩) g.J fun _ _ x => x⟩
 refine { wf := wf', size := ?_, tmp := ?_, jl := h.jl, obj := ?_, dfr := ?_, an := h.an, hm := h.hm }
 ·simp only [zfZ, List.length_map, Act.put, Array.size_setIfInBounds]; exact h.size
 ·intro i u hu
  rw [znw]
  simp only [zfe, zjF] at hu
  by_cases hid : i = d
  ·subst hid
   simp only [if_true] at hu ⊢
   cases hs : s.t[i]? with
   | none => rw [hs] at hu; cases hu
   | some u' =>
    rw [hs] at hu
    simp at hu; subst hu
    obtain ⟨c', hc', _⟩ := h.tmp i u' hs
    refine ⟨_, by rw [hc']; rfl, w.heap.size, cs, e, rfl, by simp [Gh.grab], by simp [Gh.grab], by rw [zao, if_pos rfl], VRl.mono _ le' hc⟩
  ·rw [if_neg hid] at hu ⊢
   cases hs : s.t[i]? with
   | none => rw [hs] at hu; cases hu
   | some u' =>
    rw [hs] at hu
    simp at hu; subst hu
    obtain ⟨c', hc', ht⟩ := h.tmp i u' hs
    refine ⟨c', hc', ?_⟩
    cases u' with
    | adr j off =>
     simp only [zbk]
     cases hj : Nat.beq d j with
     | true => simp only [if_true]; exact TR.of_VR (by simp only [VR])
     | false =>
      simp only [if_false, Bool.false_eq_true]
      have hjd : j ≠ d := fun e => Nat.ne_of_beq_eq_false hj e.symm
      obtain ⟨b, h1, h2⟩ := ht
      exact ⟨b, by rw [(keep b _ h1 (by intro e; cases e; exact hjd rfl)).2.1, h1], h2⟩
    | box cells' =>
     obtain ⟨b, cs', e', h1, h2, h3, h4, h5⟩ := ht
     obtain ⟨k1, k2, k3⟩ := keep b _ h2 (by intro e; cases e; exact hid rfl)
     exact ⟨b, cs', e', h1, by rw [k2, h2], by rw [k3, h3], by rw [k1, h4], VRl.mono _ le' h5⟩
    | _ => exact VR.mono _ le' ht
 ·intro id ob ho
  exact (h.obj id ob ho).frame rfl le' fun b hb => keep b _ hb (by intro e; cases e)
 ·intro x hx
  obtain ⟨D, h1, h2, h3⟩ := h.dfr x hx
  obtain ⟨k1, k2, _⟩ := keep D _ h2 (by intro e; cases e)
  exact ⟨D, h1, by rw [k2, h2], by rw [k1, h3]⟩
theorem SR.allocOb (h : SR act hn s a w g) {o : Obj} {ob : Ob} (len : Option Nat)
  (ho : ∀ g', g' = { g.grab w.heap.size (.ob hn s.h.length) with J := g.J ++ [(w.heap.size, len)] } → (zn w g).le (zn (w.alloc o) g') → OR (w.alloc o) g' hn s.h.length ob) :
  SR act hn ⟨s.t, s.h ++ [ob]⟩ a (w.alloc o) { g.grab w.heap.size (.ob hn s.h.length) with J := g.J ++ [(w.heap.size, len)] } ∧
  Ext (zbd act hn) w g (w.alloc o) { g.grab w.heap.size (.ob hn s.h.length) with J := g.J ++ [(w.heap.size, len)] } := by
 have hJ : ∀ (id : Nat) (x : Nat × Option Nat), g.J[id]? = some x → (g.J ++ [(w.heap.size, len)])[id]? = some x := fun id x hx => by
  rw [List.getElem?_append_left (List.getElem?_eq_some_iff.1 hx).1]; exact hx
 have wf' := h.wf.grab o (.ob hn s.h.length) h.hm (g.J ++ [(w.heap.size, len)])
 have le' := zhg h.wf o (.ob hn s.h.length) (g.J ++ [(w.heap.size, len)]) hJ
 have hlt : ∀ b p, g.own b = some p → b ≠ w.heap.size := fun b p hp e => by rw [h.wf.new b (by omega)] at hp; cases hp
 have keep : ∀ b p, g.own b = some p → p ≠ .ob hn s.h.length → (w.alloc o).heap[b]? = w.heap[b]? ∧ (g.grab w.heap.size (.ob hn s.h.length)).own b = g.own b ∧ (g.grab w.heap.size (.ob hn s.h.length)).K b = g.K b := by
  intro b p hp hne
  have h1 := hlt b p hp
  refine ⟨by rw [zao, if_neg h1], ?_, by simp [Gh.grab, h1]⟩
  have h2 : ¬ g.own b = some (.ob hn s.h.length) := by rw [hp]; intro e; cases e; exact hne rfl
  simp only [Gh.grab, h1, if_false, h2]
 refine ⟨?_, Ext.grab h.wf _ _ _ (.inr (.inr ⟨_, rfl⟩)) _ hJ⟩
 refine { wf := wf', size := h.size, tmp := ?_, jl := by simp [h.jl], obj := ?_, dfr := ?_, an := h.an, hm := h.hm }
 ·intro i v hv
  obtain ⟨c, hc, ht⟩ := h.tmp i v hv
  exact ⟨c, hc, ht.frame le' fun b j e => keep b _ e (by intro e; cases e)⟩
 ·intro id ob' ho'
  by_cases hid : id < s.h.length
  ·rw [List.getElem?_append_left hid] at ho'
   refine (h.obj id ob' ho').frame ?_ le' fun b hb => keep b _ hb (by intro e; cases e; omega)
   exact List.getElem?_append_left (by rw [h.jl]; exact hid)
  ·have : id = s.h.length := by
    have := (List.getElem?_eq_some_iff.1 ho').1
    simp at this; omega
   subst this
   simp at ho'; subst ho'
   exact ho _ rfl le'
 ·intro x hx
  obtain ⟨D, h1, h2, h3⟩ := h.dfr x hx
  obtain ⟨k1, k2, _⟩ := keep D _ h2 (by intro e; cases e)
  exact ⟨D, h1, by rw [← h2]; exact k2, by rw [k1, h3]⟩
theorem zlI (wf : WF w g) (o : Obj) : (zn w g).le (zn (w.alloc o) g) where
 M b j c h := by
  simp only [zn] at h ⊢
  rw [zao]
  split at h
  ·rename_i hc
   have hne : b ≠ w.heap.size := by
    intro e
    rw [e] at h
    have : w.heap[w.heap.size]? = none := by simp
    rw [this] at h; simp [zca] at h
   rw [if_pos hc, if_neg hne, h]
  ·cases h
 Z b n h := by
  simp only [zn] at h ⊢
  rw [zao]
  split
  ·rename_i e; rw [e] at h; simp [zds] at h
  ·exact h
 J id b h := h
 L id b l h := ⟨b, l, h, Nat.le_refl _, fun _ => rfl⟩
theorem WF.free (wf : WF w g) (o : Obj) : WF (w.alloc o) g := ⟨fun b hb => wf.new b (by simp at hb; omega), wf.inj, wf.nx⟩
theorem Ext.free (wf : WF w g) (o : Obj) (ok : Owner → Prop) : Ext ok w g (w.alloc o) g :=
 ⟨by simp, fun b hb _ => ⟨by rw [zao, if_neg (by omega)], rfl, rfl⟩, zlI wf o, Nat.le_refl _, rfl, rfl, rfl, Nat.le_refl _⟩
theorem WF.ne_new (wf : WF w g) {b : Nat} {p : Owner} (hp : g.own b = some p) : b ≠ w.heap.size := fun e => by
 rw [wf.new b (by omega)] at hp
 cases hp
theorem SR.allocFree (h : SR act hn s a w g) (o : Obj) : SR act hn s a (w.alloc o) g ∧ Ext (zbd act hn) w g (w.alloc o) g :=
 ⟨h.frame (h.wf.free o) rfl (zlI h.wf o) (fun b p hp _ => ⟨by rw [zao, if_neg (h.wf.ne_new hp)], rfl, rfl⟩) (Nat.le_refl _), Ext.free h.wf o _⟩
theorem SR.drew (h : SR act hn s a w g) : SR act hn s a w.drew g :=
 h.frame ⟨h.wf.new, h.wf.inj, h.wf.nx⟩ rfl (Mem.le.refl _) (fun _ _ _ _ => ⟨rfl, rfl, rfl⟩) (Nat.le_refl _)
theorem Ext.drew (ok : Owner → Prop) (w : World) (g : Gh) : Ext ok w g w.drew g := ⟨Nat.le_refl _, fun _ _ _ => ⟨rfl, rfl, rfl⟩, Mem.le.refl _, Nat.le_refl _, rfl, rfl, rfl, Nat.le_succ _⟩
end Go.Ab
