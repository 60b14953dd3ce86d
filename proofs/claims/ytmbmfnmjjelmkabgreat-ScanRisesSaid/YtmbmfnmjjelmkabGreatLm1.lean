/- What functions of the program come to, each proved from its code. -/
import Derived.CallsIn
import Derived.Laws.Strings
import Derived.Laws.Sem
import Derived.Laws.CopyRow
import Derived.Laws.Rows
import Derived.Laws.Append
import Derived.Laws.AppendOwn
import Derived.Laws.CopyOwn
import Derived.Laws.StructEq
import Derived.Laws.Slices
import Derived.OrdersIn
import Derived.ScopeJumps
import Derived.Laws.BytesString
import Derived.ChangeKeysEq
set_option linter.unusedVariables false
set_option linter.unusedSimpArgs false
set_option linter.unnecessarySimpa false
set_option linter.unusedSectionVars false
open Nat (reduceEqDiff reduceAdd reduceSub reduceLeDiff)
open Int (reduceToNat reduceEq reduceLE reduceLT)
open List (reduceReplicate)
set_option maxRecDepth 20000
namespace Lam
open Go

/-! ### Data of the program -/
abbrev bF := List UInt8

structure Pend where
  at_ : Int
  val : Int
  fl : Bool
  deriving DecidableEq, Inhabited
structure Mic where
  kind : Int
  at_ : Int
  val : Int
  deriving DecidableEq, Inhabited
structure RecT where
  kind : Int
  key : bF
  val : bF
  child : Int
  deriving DecidableEq, Inhabited
structure kZ where
  key : bF
  val : bF
  deriving DecidableEq, Inhabited
structure aAf where
  at_ : Int
  val : Int
  deriving DecidableEq, Inhabited

inductive VK where
  | mem | op | task | client | event | era | told | frm | ints | mics | ph
  deriving DecidableEq

def VK.size : VK → Nat
  | .mem | .task | .era => 3
  | .op => 5
  | .client => 45
  | .event => 11
  | .told | .frm => 2
  | .ints | .mics | .ph => 1

def VK.isAgg : VK → Bool
  | .ints | .mics => false
  | _ => true

inductive LK where
  | int (k : IntKind) | bool | str | pend | mic | rcd | pair | slot | fnk | val (k : VK)
  deriving DecidableEq

inductive PS where
  | f (idx off : Nat)
  | i (ver idx sz : Nat)
  deriving DecidableEq

mutual
inductive Lst where
  | ints (k : IntKind) (xs : List Int)
  | bools (xs : List Bool)
  | strs (xs : List bF)
  | pends (xs : List Pend)
  | mics (xs : List Mic)
  | recs (xs : List RecT)
  | pairs (xs : List kZ)
  | slots (xs : List aAf)
  | fns (xs : List (Option FuncId))
  | vals (k : VK) (xs : List AV)

inductive AV where
  | top
  | und
  | int (k : IntKind) (n : Int)
  | bool (b : Bool)
  | str (s : bF)
  | agg (vs : List AV)
  | arr (l : Lst)
  | tup (vs : List AV)
  | sl (x : Bool) (l : Lst)
  | sref (x : Bool) (id ver off len : Nat)
  | ep (l : Lst) (i : Nat) (fs : List PS)
  | nilp
  | ptr (id : Nat) (p : List PS)
  | map (id : Nat)
  | fn (f : Fn) (first cap : List AV)
  | nilfn
  | iface (t : TypeId) (v : AV)
  | niliface
end
instance : Inhabited AV := ⟨.top⟩

inductive MapC where
  | ib (m : Int → Bool)
  | ii (m : Int → Int)
  | sb (m : bF → Bool)
  | ifn (m : Int → Option FuncId)

inductive RK where
  | own | arr | fro
  deriving DecidableEq

inductive AObj where
  | box (v : AV)
  | row (k : RK) (ver : Nat) (l : Lst)
  | map (m : MapC)
  | lp (st : LoopState) (pd : Option Code) (r : Loop)
  | dead

inductive MK where
  | ib | ii | sb | ifn

inductive TyD where
  | int (k : IntKind) | bool | str
  | slice (e : LK)
  | strct (fs : List TyD)
  | arr (n : Nat) (e : LK)
  | ptr | map (m : MK) | func | iface | tup (ts : List TyD) | other
  deriving Inhabited

def LK.size : LK → Nat
  | .int _ | .bool | .str | .fnk => 1
  | .val k => k.size
  | .pend | .mic => 3
  | .rcd => 4
  | .pair | .slot => 2

mutual
def TyD.size : TyD → Nat
  | .strct fs => TyD.sizes fs
  | .arr n e => n * e.size
  | _ => 1
def TyD.sizes : List TyD → Nat
  | [] => 0
  | t :: r => t.size + TyD.sizes r
end

def LK.empty : LK → Lst
  | .int k => .ints k []
  | .bool => .bools []
  | .str => .strs []
  | .pend => .pends []
  | .mic => .mics []
  | .rcd => .recs []
  | .pair => .pairs []
  | .slot => .slots []
  | .fnk => .fns []
  | .val k => .vals k []

def ival (n : Int) : AV := .int .i64 n
def islc : AV := .sl false (.ints .i64 [])
def aLl : AV := .agg [ival 0, ival 0, ival 0, islc, .bool false]
def zop : AV := .agg [ival 0, .str [], .str [], .str [], ival 0]
def aLm : AV := .agg [ival 0, .str [], ival 0]
def aLH : AV := .agg [.str [], ival 0, ival 0, ival 0, aLl, .str [], .bool false]
def aKo : AV := .agg [.str [], .str [], ival 0, ival 0, ival 0, ival 0, aLl, .str [], .sl false (.pairs [])]
def aLI : AV := .agg [.bool false, .str [], .str [], ival 0, ival 0, ival 0, aLm, .sl false (.vals .task []), .sl false (.mics []), ival 0, ival 0, .bool false, ival 0]
def VK.zero : VK → AV
  | .mem => .agg [islc, islc, .sl false (.pends [])]
  | .op => zop
  | .task => aLm
  | .client => .agg [.bool false, zop, aLH, aKo, aLI]
  | .event => .agg [ival 0, ival 0, zop, .str [], .bool false, ival 0, .sl false (.pairs [])]
  | .era => .agg [.sl false (.ints .u8 []), islc, islc]
  | .told => .agg [.sl false (.vals .event []), islc]
  | .frm => .agg [ival 0, .str []]
  | .ints => islc
  | .mics => .sl false (.mics [])
  | .ph => .agg [.nilfn]

def LK.zeros (n : Nat) : LK → Lst
  | .int k => .ints k (List.replicate n 0)
  | .bool => .bools (List.replicate n false)
  | .str => .strs (List.replicate n [])
  | .pend => .pends (List.replicate n ⟨0, 0, false⟩)
  | .mic => .mics (List.replicate n ⟨0, 0, 0⟩)
  | .rcd => .recs (List.replicate n ⟨0, [], [], 0⟩)
  | .pair => .pairs (List.replicate n ⟨[], []⟩)
  | .slot => .slots (List.replicate n ⟨0, 0⟩)
  | .fnk => .fns (List.replicate n none)
  | .val k => .vals k (List.replicate n k.zero)

def Lst.kind : Lst → LK
  | .ints k _ => .int k
  | .bools _ => .bool
  | .strs _ => .str
  | .pends _ => .pend
  | .mics _ => .mic
  | .recs _ => .rcd
  | .pairs _ => .pair
  | .slots _ => .slot
  | .fns _ => .fnk
  | .vals k _ => .val k

def Lst.plain : Lst → Bool
  | .vals _ _ => false
  | _ => true

def Lst.len : Lst → Nat
  | .ints _ xs => xs.length
  | .bools xs => xs.length
  | .strs xs => xs.length
  | .pends xs => xs.length
  | .mics xs => xs.length
  | .recs xs => xs.length
  | .pairs xs => xs.length
  | .slots xs => xs.length
  | .fns xs => xs.length
  | .vals _ xs => xs.length

def vK (p : Pend) : AV := .agg [.int .i64 p.at_, .int .i64 p.val, .bool p.fl]
def aEN (p : Mic) : AV := .agg [.int .i64 p.kind, .int .i64 p.at_, .int .i64 p.val]
def aIQ (p : RecT) : AV := .agg [.int .i64 p.kind, .str p.key, .str p.val, .int .i64 p.child]
def aGQ (p : kZ) : AV := .agg [.str p.key, .str p.val]
def fnA : Option FuncId → AV
  | some f => .fn (.func f) [] []
  | none => .nilfn
def aGR (p : aAf) : AV := .agg [.int .i64 p.at_, .int .i64 p.val]

def Lst.nth (l : Lst) (i : Nat) : AV :=
  match l with
  | .ints k xs => .int k (xs.getD i 0)
  | .bools xs => .bool (xs.getD i false)
  | .strs xs => .str (xs.getD i [])
  | .pends xs => vK (xs.getD i ⟨0, 0, false⟩)
  | .mics xs => aEN (xs.getD i ⟨0, 0, 0⟩)
  | .recs xs => aIQ (xs.getD i ⟨0, [], [], 0⟩)
  | .pairs xs => aGQ (xs.getD i ⟨[], []⟩)
  | .slots xs => aGR (xs.getD i ⟨0, 0⟩)
  | .fns xs => fnA (xs.getD i none)
  | .vals k xs => xs.getD i k.zero

def Lst.cut (l : Lst) (lo n : Nat) : Lst :=
  match l with
  | .ints k xs => .ints k ((xs.drop lo).take n)
  | .bools xs => .bools ((xs.drop lo).take n)
  | .strs xs => .strs ((xs.drop lo).take n)
  | .pends xs => .pends ((xs.drop lo).take n)
  | .mics xs => .mics ((xs.drop lo).take n)
  | .recs xs => .recs ((xs.drop lo).take n)
  | .pairs xs => .pairs ((xs.drop lo).take n)
  | .slots xs => .slots ((xs.drop lo).take n)
  | .fns xs => .fns ((xs.drop lo).take n)
  | .vals k xs => .vals k ((xs.drop lo).take n)

def Lst.app : Lst → Lst → Option Lst
  | .ints k xs, .ints k' ys => if k = k' then some (.ints k (xs ++ ys)) else none
  | .bools xs, .bools ys => some (.bools (xs ++ ys))
  | .strs xs, .strs ys => some (.strs (xs ++ ys))
  | .pends xs, .pends ys => some (.pends (xs ++ ys))
  | .mics xs, .mics ys => some (.mics (xs ++ ys))
  | .recs xs, .recs ys => some (.recs (xs ++ ys))
  | .pairs xs, .pairs ys => some (.pairs (xs ++ ys))
  | .slots xs, .slots ys => some (.slots (xs ++ ys))
  | .fns xs, .fns ys => some (.fns (xs ++ ys))
  | .vals k xs, .vals k' ys => if k = k' then some (.vals k (xs ++ ys)) else none
  | _, _ => none

mutual
def AV.size : AV → Nat
  | .agg vs => AV.sizes vs
  | .arr l => l.len * l.kind.size
  | _ => 1
def AV.sizes : List AV → Nat
  | [] => 0
  | v :: r => v.size + AV.sizes r
end

def AV.scalar : AV → Bool
  | .agg _ | .arr _ | .tup _ => false
  | _ => true

-- values that may be elements
mutual
def AV.elem : AV → Bool
  | .int _ _ | .bool _ | .str _ | .nilfn => true
  | .sl x _ => !x
  | .fn (.func _) first cap => first.isEmpty && cap.isEmpty
  | .agg vs => AV.elems vs
  | _ => false
def AV.elems : List AV → Bool
  | [] => true
  | v :: r => v.elem && AV.elems r
end

-- no more told of capacities
mutual
def AV.dull : AV → AV
  | .sl _ l => .sl false l
  | .agg vs => .agg (AV.dulls vs)
  | v => v
def AV.dulls : List AV → List AV
  | [] => []
  | v :: r => v.dull :: AV.dulls r
end

def Lst.set : Lst → Nat → AV → Option Lst
  | .ints k xs, i, .int k' n => if k = k' then some (.ints k (xs.set i n)) else none
  | .bools xs, i, .bool b => some (.bools (xs.set i b))
  | .strs xs, i, .str s => some (.strs (xs.set i s))
  | .pends xs, i, .agg [.int .i64 a, .int .i64 b, .bool c] => some (.pends (xs.set i ⟨a, b, c⟩))
  | .mics xs, i, .agg [.int .i64 a, .int .i64 b, .int .i64 c] => some (.mics (xs.set i ⟨a, b, c⟩))
  | .recs xs, i, .agg [.int .i64 a, .str b, .str c, .int .i64 d] => some (.recs (xs.set i ⟨a, b, c, d⟩))
  | .pairs xs, i, .agg [.str a, .str b] => some (.pairs (xs.set i ⟨a, b⟩))
  | .slots xs, i, .agg [.int .i64 a, .int .i64 b] => some (.slots (xs.set i ⟨a, b⟩))
  | .fns xs, i, .fn (.func f) [] [] => some (.fns (xs.set i (some f)))
  | .fns xs, i, .nilfn => some (.fns (xs.set i none))
  | .vals k xs, i, v => if v.dull.elem = true ∧ v.dull.size = k.size ∧ v.dull.scalar = !k.isAgg then some (.vals k (xs.set i v.dull)) else none
  | _, _, _ => none

mutual
def TyD.zero : TyD → AV
  | .int k => .int k 0
  | .bool => .bool false
  | .str => .str []
  | .slice e => .sl true e.empty
  | .strct fs => .agg (TyD.zeros fs)
  | .arr n e => .arr (e.zeros n)
  | .ptr => .nilp
  | .map _ => .top
  | .func => .nilfn
  | .iface => .niliface
  | .tup ts => .tup (TyD.zeros ts)
  | .other => .top
def TyD.zeros : List TyD → List AV
  | [] => []
  | t :: r => t.zero :: TyD.zeros r
end

def AV.solid : AV → Bool
  | .top | .und | .tup _ => false
  | _ => true

def AV.at_ : AV → List PS → Option AV
  | v, [] => some v
  | .agg vs, .f k off :: p => if AV.sizes (vs.take k) = off then (vs[k]?).bind fun v => v.at_ p else none
  | _, _ => none

def AV.setAt : AV → List PS → AV → Option AV
  | u, [], v => if u.size = v.size then some v else none
  | .agg vs, .f k off :: p, v => if AV.sizes (vs.take k) = off then (vs[k]?).bind fun u => (u.setAt p v).map fun u' => .agg (vs.set k u') else none
  | _, _, _ => none

/-! ### States, contracts -/
structure St where
  t : List (Nat × AV)
  h : List AObj

def get : List (Nat × AV) → Nat → AV
  | [], _ => .top
  | (j, v) :: r, i => match Nat.beq i j with
    | true => v
    | false => get r i

def put (i : Nat) (v : AV) (t : List (Nat × AV)) : List (Nat × AV) := (i, v) :: t

inductive AOut where
  | ret (v : AV)
  | pan (v : AV)

abbrev D := Option (Prop × AV × List AObj)
abbrev Con := List AV → List AObj → (AOut → List AObj → Prop) → Prop

structure bX where
  live : List Nat
  prom : List Bool
  const : List Nat
  cut : List (Nat × Option (List Nat)) := []
  box : List Nat := []
  keep : List Nat := []

structure Ctx where
  tab : TypeId → TyD
  envF : FuncId → List AV → Option (Bool × D)
  envS : FuncId → Con
  iterS : FuncId → Con → Con
  loop : Nat → bX
  drawn : Bool := false
  envY : Nat → Con := fun _ _ _ _ => False

def AV.ofConst (d : TyD) : Value → AV
  | .bool b => .bool b
  | .int k n => .int k n
  | .string s => .str s.data.toList
  | .pointer none => .nilp
  | .slice none 0 0 => match d with | .slice e => .sl true e.empty | _ => .top
  | .nilFunc => .nilfn
  | .nilIface => .niliface
  | _ => .top

def ev (t : List (Nat × AV)) (d : TyD) : Operand → AV
  | .tmp i => get t i
  | .const v => .ofConst d v
  | .global _ => .top
  | .func f => .fn (.func f) [] []

inductive rD where
  | normal
  | exit (id : Nat)
  | goto (l : Nat)
  | ret
  | pan (v : AV)

/-! ### Operations -/
def pD (S : Prop) (v : AV) : D := some (S, v, [])

def gU (op : BinOp) (k : IntKind) (a b : Int) : D :=
  match op with
  | .add => pD True (.int k (k.wrap (a + b)))
  | .sub => pD True (.int k (k.wrap (a - b)))
  | .mul => pD True (.int k (k.wrap (a * b)))
  | .quo => pD (b ≠ 0) (.int k (k.wrap (a.tdiv b)))
  | .rem => pD (b ≠ 0) (.int k (a.tmod b))
  | .and => pD True (.int k (k.wrap (BitVec.ofInt k.bits a &&& BitVec.ofInt k.bits b).toNat))
  | .or => pD True (.int k (k.wrap (BitVec.ofInt k.bits a ||| BitVec.ofInt k.bits b).toNat))
  | .xor => pD True (.int k (k.wrap (BitVec.ofInt k.bits a ^^^ BitVec.ofInt k.bits b).toNat))
  | .andNot => pD True (.int k (k.wrap (BitVec.ofInt k.bits a &&& ~~~ BitVec.ofInt k.bits b).toNat))
  | .shl => pD (0 ≤ b) (.int k (k.wrap (a * 2 ^ (min b.toNat k.bits))))
  | .shr => pD (0 ≤ b) (.int k (a.fdiv (2 ^ (min b.toNat k.bits))))
  | .eql => pD True (.bool (decide (a = b)))
  | .neq => pD True (.bool (!decide (a = b)))
  | .lss => pD True (.bool (decide (a < b)))
  | .leq => pD True (.bool (decide (a ≤ b)))
  | .gtr => pD True (.bool (decide (b < a)))
  | .geq => pD True (.bool (decide (b ≤ a)))

def ltB : bF → bF → Bool
  | _, [] => false
  | [], _ :: _ => true
  | a :: x, b :: y => a < b || (a == b && ltB x y)

def mA (op : BinOp) (a b : bF) : D :=
  match op with
  | .add => pD (a.length + b.length ≤ 1099511627776) (.str (a ++ b))
  | .eql => pD True (.bool (decide (a = b)))
  | .neq => pD True (.bool (!decide (a = b)))
  | .lss => pD True (.bool (ltB a b))
  | .gtr => pD True (.bool (ltB b a))
  | .leq => pD True (.bool (!ltB b a))
  | .geq => pD True (.bool (!ltB a b))
  | _ => none

def vL : BinOp → Bool
  | .shl | .shr => true
  | _ => false

def mJ : Operand → Bool
  | .const (.slice none 0 0) => true
  | _ => false

-- equality of plain values, and of structs and arrays of such
def jM (d : TyD) (x y : AV) : Option Bool :=
  match x, y with
  | .int k a, .int k' b => match d with
    | .int _ => if k = k' then some (decide (a = b)) else none
    | _ => none
  | .str a, .str b => match d with
    | .str => some (decide (a = b))
    | _ => none
  | .bool a, .bool b => match d with
    | .bool => some (a == b)
    | _ => none
  | .nilfn, .nilfn => match d with
    | .func => some true
    | _ => none
  | .arr (.ints k xs), .arr (.ints k' ys) => match d with
    | .arr n (.int k0) => if k0 = k ∧ k = k' ∧ xs.length = n ∧ ys.length = n then some (decide (xs = ys)) else none
    | _ => none
  | _, _ => none

mutual
def AV.eqD : TyD → AV → AV → Option Bool
  | .strct fs, x, y => match x, y with
    | .agg xs, .agg ys => AV.eqsD fs xs ys
    | _, _ => none
  | .int k, x, y => jM (.int k) x y
  | .bool, x, y => jM .bool x y
  | .str, x, y => jM .str x y
  | .slice e, x, y => jM (.slice e) x y
  | .arr n e, x, y => jM (.arr n e) x y
  | .ptr, x, y => jM .ptr x y
  | .map m, x, y => jM (.map m) x y
  | .func, x, y => jM .func x y
  | .iface, x, y => jM .iface x y
  | .tup ts, x, y => jM (.tup ts) x y
  | .other, x, y => jM .other x y
def AV.eqsD : List TyD → List AV → List AV → Option Bool
  | [], xs, ys => match xs, ys with
    | [], [] => some true
    | _, _ => none
  | d :: ds, xs, ys => match xs, ys with
    | x :: xs, y :: ys => match AV.eqD d x y, AV.eqsD ds xs ys with
      | some a, some b => some (a && b)
      | _, _ => none
    | _, _ => none
end

def sK (op : BinOp) (b : Option Bool) : D :=
  match op, b with
  | .eql, some b => pD True (.bool b)
  | .neq, some b => pD True (.bool (!b))
  | _, _ => none

def binD (d : TyD) (op : BinOp) (x y : AV) : D :=
  match x, y with
  | .int k a, .int k' b => if k = k' ∨ vL op = true then gU op k a b else none
  | .str a, .str b => mA op a b
  | x, y => sK op (AV.eqD d x y)

def lL (o : Option AObj) (ver off len : Nat) : Option Lst :=
  match o with
  | some (.row _ ver' l) => if ver = ver' then some (l.cut off len) else none
  | _ => none

def AV.list (h : List AObj) : AV → Option Lst
  | .sl _ l => some l
  | .sref _ id ver off len => lL (h[id]?) ver off len
  | _ => none

def lenO (o : Option AObj) (ver len : Nat) : Option Nat :=
  match o with
  | some (.row _ ver' _) => if ver = ver' then some len else none
  | _ => none

def AV.len (d : TyD) (h : List AObj) (v : AV) : Option Nat :=
  match d, v with
  | .slice _, .sl _ l => some l.len
  | .slice _, .sref _ id ver _ len => lenO (h[id]?) ver len
  | .str, .str s => some s.length
  | .arr n _, _ => some n
  | _, _ => none

-- closed values: no reference to the heap
mutual
def AV.closed : AV → Bool
  | .int _ _ | .bool _ | .str _ | .nilp | .nilfn | .niliface | .arr _ | .sl _ _ => true
  | .agg vs | .tup vs => AV.closeds vs
  | .fn _ first cap => AV.closeds first && AV.closeds cap
  | _ => false
def AV.closeds : List AV → Bool
  | [] => true
  | v :: r => v.closed && AV.closeds r
end

-- slices by value, and no more told of their capacity
mutual
def AV.val (h : List AObj) : AV → Option AV
  | .sref _ id ver off len => (lL (h[id]?) ver off len).map fun l => .sl false l
  | .sl _ l => some (.sl false l)
  | .agg vs => (AV.vals h vs).map .agg
  | .tup vs => (AV.vals h vs).map .tup
  | v => some v
def AV.vals (h : List AObj) : List AV → Option (List AV)
  | [] => some []
  | v :: r => match v.val h, AV.vals h r with
    | some a, some b => some (a :: b)
    | _, _ => none
end

mutual
def AV.shift (s : Nat) : AV → AV
  | .sref x id ver off len => .sref x (s + id) ver off len
  | .ptr id p => .ptr (s + id) p
  | .map id => .map (s + id)
  | .agg vs => .agg (AV.shifts s vs)
  | .tup vs => .tup (AV.shifts s vs)
  | v => v
def AV.shifts (s : Nat) : List AV → List AV
  | [] => []
  | v :: r => v.shift s :: AV.shifts s r
end

def roomy (n : Nat) : Prop := n ≤ 68719476736

def eN {α : Type} (x : Option α) (f : α → D) : D :=
  match x with
  | some a => f a
  | none => none

def kR (xs ys : Lst) (s : Nat) : D := eN (xs.app ys) fun zs => some ((0 < ys.len ∨ xs.len = 0) ∧ roomy zs.len, .sref false s 0 0 zs.len, [.row .own 0 zs])

def lenD (d : TyD) (h : List AObj) (v : AV) : D := eN (v.len d h) fun n => pD True (.int .i64 n)

def minD (x y : AV) : D :=
  match x, y with
  | .int k a, .int k' b => if k = k' then pD True (.int k (if b < a then b else a)) else none
  | _, _ => none
def maxD (x y : AV) : D :=
  match x, y with
  | .int k a, .int k' b => if k = k' then pD True (.int k (if b > a then b else a)) else none
  | .str a, .str b => pD True (.str (if ltB a b then b else a))
  | _, _ => none

def aAg (o : Option AObj) (p : List PS) : D :=
  match o with
  | some (.box v) => eN (v.at_ p) fun u => pD True u
  | some (.row k ver l) => match p with
    | [] => match k with
      | .arr => pD True (.arr l)
      | _ => none
    | .i v i sz :: p' => if v = ver ∧ sz = l.kind.size then eN ((l.nth i).at_ p') fun v => pD (i < l.len) v else none
    | _ => none
  | _ => none

def aD (h : List AObj) (a : AV) : D :=
  match a with
  | .ep l i fs => eN ((l.nth i).at_ fs) fun v => pD True v
  | .ptr id p => aAg (h[id]?) p
  | _ => none

def fitP (d : TyD) (v : AV) : Prop :=
  match d, v with
  | .strct fs, .agg vs => AV.sizes vs = TyD.sizes fs
  | .arr n e, .arr l => l.len = n ∧ l.kind = e
  | .strct _, _ => False
  | .arr _ _, _ => False
  | .tup _, _ => False
  | .other, _ => False
  | _, .agg _ => False
  | _, .arr _ => False
  | _, .tup _ => False
  | _, .top => False
  | _, .und => False
  | _, _ => True

def fitD (d : TyD) (x : D) : D :=
  match x with
  | some (S, v, news) => some (S ∧ fitP d v, v, news)
  | none => none

def nB (o : Option AObj) (p : List PS) (v : AV) : Option (Prop × AObj) :=
  match o with
  | some (.box u) => match u.setAt p v with
    | some u' => some (True, .box u')
    | none => none
  | some (.row k ver l) => match p with
    | [] => match k, v with
      | .arr, .arr l' => if l'.kind = l.kind then some (l'.len = l.len, .row .arr ver l') else none
      | _, _ => none
    | .i vr i sz :: p' => if vr = ver ∧ sz = l.kind.size ∧ k ≠ .fro then
        match (l.nth i).setAt p' v with
        | some u => match l.set i u with
          | some l' => some (i < l.len, .row k ver l')
          | none => none
        | none => none
      else none
    | _ => none
  | _ => none

def aQ (d : TyD) (h : List AObj) (a v : AV) : Option (Prop × Nat × AObj) :=
  match a with
  | .ptr id p => match nB (h[id]?) p v with
    | some (S, o) => some (S ∧ fitP d v, id, o)
    | none => none
  | _ => none

def mU (vs : List AV) : List (Nat × AV) → Option (List AV)
  | [] => some vs
  | (i, v) :: r => if i < vs.length ∧ (vs.getD i .top).size = v.size ∧ v.solid = true then mU (vs.set i v) r else none

def iZ (l : Lst) : List (Nat × AV) → Option Lst
  | [] => some l
  | (i, v) :: r => if i < l.len then match l.set i v with
    | some l' => iZ l' r
    | none => none
    else none

def gC (d : TyD) (parts : List (Nat × AV)) : D :=
  match d with
  | .strct fs => eN (mU (TyD.zeros fs) parts) fun vs => pD True (.agg vs)
  | .arr n e => eN (iZ (e.zeros n) parts) fun l => pD True (.arr l)
  | _ => none

def fD (d : TyD) (n : Nat) (parts : List (Nat × AV)) (s : Nat) : D :=
  match d with
  | .slice e => eN (iZ (e.zeros n) parts) fun l => some (n ≤ 262144, .sref true s 0 0 n, [.row .own 0 l])
  | _ => none

def TyD.isSlice (d : TyD) (k : LK) : Bool :=
  match d with
  | .slice e => decide (e = k)
  | _ => false

def TyD.isArr (d : TyD) (n : Nat) (k : LK) : Bool :=
  match d with
  | .arr m e => decide (m = n) && decide (e = k)
  | _ => false

def iH (o : Option AObj) : Option LK :=
  match o with
  | some (.row _ _ l) => some l.kind
  | _ => none

def AV.kind (h : List AObj) : AV → Option LK
  | .sl _ l => some l.kind
  | .sref _ id _ _ _ => iH (h[id]?)
  | _ => none

def TyD.fitsRow (d : TyD) (k : Option LK) : Bool :=
  match d, k with
  | .slice e, some k => decide (e = k)
  | _, _ => false

def eZ (b : Bool) (x : D) : D :=
  match b with
  | true => x
  | false => none

def sL (b : Bool) (x : Prop) : Prop :=
  match b with
  | true => x
  | false => False

def verB (o : Option AObj) (ver : Nat) : Bool :=
  match o with
  | some (.row _ v _) => decide (ver = v)
  | _ => false

def yI (s : bF) (lo hi mx : Option AV) : D :=
  match lo, hi, mx with
  | none, some (.int _ b), none => pD (0 ≤ b ∧ b ≤ s.length) (.str (s.take b.toNat))
  | some (.int _ a), none, none => pD (0 ≤ a ∧ a ≤ s.length) (.str (s.drop a.toNat))
  | some (.int _ a), some (.int _ b), none => pD (0 ≤ a ∧ a ≤ b ∧ b ≤ s.length) (.str ((s.drop a.toNat).take (b.toNat - a.toNat)))
  | _, _, _ => none

def aBa (x : Bool) (l : Lst) (lo hi mx : Option AV) : D :=
  match lo, hi, mx with
  | none, none, none => pD True (.sl x l)
  | none, some (.int _ b), none => pD (0 ≤ b ∧ b ≤ l.len) (.sl false (l.cut 0 b.toNat))
  | some (.int _ a), none, none => pD (0 ≤ a ∧ a ≤ l.len) (.sl x (l.cut a.toNat (l.len - a.toNat)))
  | some (.int _ a), some (.int _ b), none => pD (0 ≤ a ∧ a ≤ b ∧ b ≤ l.len) (.sl false (l.cut a.toNat (b.toNat - a.toNat)))
  | none, some (.int _ b), some (.int _ c) => pD (0 ≤ b ∧ b ≤ l.len ∧ b = c) (.sl true (l.cut 0 b.toNat))
  | some (.int _ a), some (.int _ b), some (.int _ c) => pD (0 ≤ a ∧ a ≤ b ∧ b ≤ l.len ∧ b = c) (.sl true (l.cut a.toNat (b.toNat - a.toNat)))
  | _, _, _ => none

def nC (x : Bool) (id ver off len : Nat) (lo hi mx : Option AV) : D :=
  match lo.getD (.int .i64 0), hi.getD (.int .i64 len), mx with
  | .int _ a, .int _ b, none => pD (0 ≤ a ∧ a ≤ b ∧ b ≤ len) (.sref (x && hi.isNone) id ver (off + a.toNat) (b.toNat - a.toNat))
  | .int _ a, .int _ b, some (.int _ c) => pD (hi.isSome = true ∧ 0 ≤ a ∧ a ≤ b ∧ b ≤ len ∧ b = c) (.sref true id ver (off + a.toNat) (b.toNat - a.toNat))
  | _, _, _ => none

def jL (o : Option AObj) (id : Nat) (d : TyD) (lo hi mx : Option AV) : D :=
  match o, mx with
  | some (.row .arr ver l), none => eZ (d.isArr l.len l.kind)
    (match lo.getD (.int .i64 0), hi.getD (.int .i64 l.len) with
    | .int _ a, .int _ b => pD (0 ≤ a ∧ a ≤ b ∧ b ≤ l.len) (.sref hi.isNone id ver a.toNat (b.toNat - a.toNat))
    | _, _ => none)
  | _, _ => none

def TyD.isStr : TyD → Bool
  | .str => true
  | _ => false

def dO (d : TyD) (h : List AObj) (x : AV) (lo hi mx : Option AV) : D :=
  match x with
  | .str s => eZ d.isStr (yI s lo hi mx)
  | .sl x l => eZ (d.isSlice l.kind) (aBa x l lo hi mx)
  | .sref x id ver off len => eZ (d.fitsRow (iH (h[id]?))) (eZ (verB (h[id]?) ver) (nC x id ver off len lo hi mx))
  | .ptr id [] => jL (h[id]?) id d lo hi mx
  | _ => none

def uB (o : Option AObj) (d : TyD) (id ver off len : Nat) (i : Int) : D :=
  match o with
  | some (.row _ ver' l) => eZ (d.isSlice l.kind) (if ver = ver' then pD (0 ≤ i ∧ i < len) (.ptr id [.i ver (off + i.toNat) l.kind.size]) else none)
  | _ => none

def uC (o : Option AObj) (d : TyD) (id : Nat) (i : Int) : D :=
  match o with
  | some (.row .arr ver l) => eZ (d.isArr l.len l.kind) (pD (0 ≤ i ∧ i < l.len) (.ptr id [.i ver i.toNat l.kind.size]))
  | _ => none

def aH (d : TyD) (h : List AObj) (x i : AV) : D :=
  match i with
  | .int _ i => match x with
    | .sl _ l => eZ (d.isSlice l.kind) (pD (0 ≤ i ∧ i < l.len) (.ep l i.toNat []))
    | .sref _ id ver off len => uB (h[id]?) d id ver off len i
    | .ptr id [] => uC (h[id]?) d id i
    | _ => none
  | _ => none

def rM (d : TyD) (x i : AV) : D :=
  match x, i with
  | .str s, .int _ n => eZ d.isStr (pD (0 ≤ n ∧ n < s.length) (.int .u8 (s.getD n.toNat 0).toNat))
  | .arr l, .int _ n => eZ (d.isArr l.len l.kind) (pD (0 ≤ n ∧ n < l.len) (l.nth n.toNat))
  | _, _ => none

def aBH : Option FuncId → AV
  | some f => .fn (.func f) [] []
  | none => .nilfn

def TyD.isMap (d : TyD) (m : MK) : Bool :=
  match d, m with
  | .map .ib, .ib => true
  | .map .ii, .ii => true
  | .map .sb, .sb => true
  | .map .ifn, .ifn => true
  | _, _ => false

def qU (d : TyD) (o : Option AObj) (k : AV) : D :=
  match o, k with
  | some (.map (.ib m)), .int .i64 n => eZ (d.isMap .ib) (pD True (.bool (m n)))
  | some (.map (.ii m)), .int .i64 n => eZ (d.isMap .ii) (pD True (.int .i64 (m n)))
  | some (.map (.ifn m)), .int .i64 n => eZ (d.isMap .ifn) (pD True (aBH (m n)))
  | some (.map (.sb m)), .str s => eZ (d.isMap .sb) (pD True (.bool (m s)))
  | _, _ => none

def kS (d : TyD) (h : List AObj) (x k : AV) : D :=
  match x with
  | .map id => qU d (h[id]?) k
  | _ => none

def nV (d : TyD) (o : Option AObj) (k v : AV) : Option MapC :=
  match o, k, v with
  | some (.map (.ib m)), .int .i64 n, .bool b => if d.isMap .ib = true then some (.ib fun j => if j = n then b else m j) else none
  | some (.map (.ii m)), .int .i64 n, .int .i64 b => if d.isMap .ii = true then some (.ii fun j => if j = n then b else m j) else none
  | some (.map (.ifn m)), .int .i64 n, .fn (.func f) [] [] => if d.isMap .ifn = true then some (.ifn fun j => if j = n then some f else m j) else none
  | some (.map (.sb m)), .str s, .bool b => if d.isMap .sb = true then some (.sb fun j => if j = s then b else m j) else none
  | _, _, _ => none

def iQ (d : TyD) (h : List AObj) (x k v : AV) : Option (Prop × Nat × AObj) :=
  match x with
  | .map id => match nV d (h[id]?) k v with
    | some m => some (True, id, .map m)
    | none => none
  | _ => none

def tB (o : Option AObj) (id ver off len : Nat) (ys : Option Lst) : Option (Prop × AV × Nat × AObj) :=
  match o, ys with
  | some (.row .own ver' l), some ys => if ver = ver' then match l.app ys with
      | some zs => some (off = 0 ∧ len = l.len ∧ roomy zs.len, .sref false id (ver + 1) 0 zs.len, id, .row .own (ver + 1) zs)
      | none => none
    else none
  | _, _ => none

def gJ (d : TyD) (h : List AObj) (s x : AV) : Option (Prop × AV × Nat × AObj) :=
  match s with
  | .sref _ id ver off len => if d.fitsRow (iH (h[id]?)) = true then tB (h[id]?) id ver off len (x.list h) else none
  | _ => none

def vM (o : Option AObj) : Bool := match o with
  | some (.row .own _ _) => true
  | _ => false
def fT (d : TyD) (h : List AObj) (s x : AV) (n : Nat) : D :=
  match s with
  | .sl true xs => eZ (d.isSlice xs.kind) (eN (x.list h) fun ys => kR xs ys n)
  | .sref true id ver off len => if len = 0 ∨ vM (h[id]?) = false then eZ (d.fitsRow (iH (h[id]?))) (eN (lL (h[id]?) ver off len) fun xs => eN (x.list h) fun ys => kR xs ys n) else none
  | _ => none

def Lst.over (l : Lst) (off len : Nat) (ys : Lst) : Option Lst :=
  match (l.cut 0 off).app (ys.cut 0 len) with
  | some z => z.app (l.cut (off + min len ys.len) (l.len - (off + min len ys.len)))
  | none => none

def wW (o : Option AObj) (id ver off len : Nat) (ys : Option Lst) : Option (Prop × AV × Nat × AObj) :=
  match o, ys with
  | some (.row k ver' l), some ys => if ver = ver' ∧ k ≠ .fro then match l.over off len ys with
      | some l' => some (True, .int .i64 (min len ys.len : Nat), id, .row k ver' l')
      | none => none
    else none
  | _, _ => none

def lA (ty : TyD) (h : List AObj) (d s : AV) : Option (Prop × AV × Nat × AObj) :=
  match d with
  | .sref _ id ver off len => if ty.fitsRow (iH (h[id]?)) = true then wW (h[id]?) id ver off len (s.list h) else none
  | _ => none

def aEO (o : Option AObj) (id ver off len : Nat) : Option (Prop × AV × Nat × AObj) :=
  match o with
  | some (.row k ver' l) => if ver = ver' ∧ k ≠ .fro then match l.over off len (l.kind.zeros len) with
      | some l' => some (True, .tup [], id, .row k ver' l')
      | none => none
    else none
  | _ => none

def pP (ty : TyD) (h : List AObj) (d : AV) : Option (Prop × AV × Nat × AObj) :=
  match d with
  | .sref _ id ver off len => if ty.fitsRow (iH (h[id]?)) = true then aEO (h[id]?) id ver off len else none
  | _ => none

def unD (op : UnOp) (x : AV) : D :=
  match op, x with
  | .not, .bool b => pD True (.bool (!b))
  | .neg, .int k n => pD True (.int k (k.wrap (0 - n)))
  | .xor, .int k n => pD True (.int k (k.wrap (BitVec.ofInt k.bits (if k.signed then -1 else k.max) ^^^ BitVec.ofInt k.bits n).toNat))
  | _, _ => none

def tM (x : Option Lst) : D :=
  match x with
  | some (.ints .u8 xs) => pD True (.str (xs.map fun n => UInt8.ofNat n.toNat))
  | _ => none

def iI (h : List AObj) (src d : TyD) (x : AV) : D :=
  match src, d, x with
  | .int _, .int k, .int _ n => pD True (.int k (k.wrap n))
  | .str, .str, .str s => pD True (.str s)
  | .slice (.int .u8), .str, .sl b l => tM ((AV.sl b l).list h)
  | .slice (.int .u8), .str, .sref b id ver off len => tM ((AV.sref b id ver off len).list h)
  | _, _, _ => none

def yJ (d : TyD) (x : AV) (f : Nat) : D :=
  match d, x with
  | .strct fs, .agg vs => if AV.sizes (vs.take f) = TyD.sizes (fs.take f) ∧ f < fs.length ∧ f < vs.length then pD (fitP (fs.getD f .other) (vs.getD f .top)) (vs.getD f .top) else none
  | _, _ => none

def aC (d : TyD) (x : AV) (f : Nat) : D :=
  match d, x with
  | .strct fs, .ptr id p => if f < fs.length then pD True (.ptr id (p ++ [.f f (TyD.sizes (fs.take f))])) else none
  | .strct fs, .ep l i p => if f < fs.length then pD True (.ep l i (p ++ [.f f (TyD.sizes (fs.take f))])) else none
  | _, _ => none

def jD (d : TyD) (l c : AV) (s : Nat) : D :=
  match d, l, c with
  | .slice e, .int .i64 n, .int .i64 m => some (0 ≤ n ∧ n ≤ m ∧ roomy m.toNat, .sref (decide (n = m)) s 0 0 n.toNat, [.row .own 0 (e.zeros n.toNat)])
  | _, _, _ => none

def jP (d : TyD) (s : Nat) : D :=
  match d with
  | .map .ib => some (True, .map s, [.map (.ib fun _ => false)])
  | .map .ii => some (True, .map s, [.map (.ii fun _ => 0)])
  | .map .sb => some (True, .map s, [.map (.sb fun _ => false)])
  | .map .ifn => some (True, .map s, [.map (.ifn fun _ => none)])
  | _ => none

def cJ (x : AV) : D :=
  match x with
  | .ptr id p => pD True (.ptr id p)
  | .ep l i p => pD True (.ep l i p)
  | _ => none

def bM (x : AV) (i : Nat) : D :=
  match x with
  | .tup vs => if i < vs.length then pD True (vs.getD i .top) else none
  | _ => none

def bP (c a b : AV) : D :=
  match c with
  | .bool v => pD True (match v with | true => a | false => b)
  | _ => none

/-! ### Outcomes go on -/
def runD (x : D) (h : List AObj) (K : AV → List AObj → Prop) : Prop :=
  match x with
  | some (S, v, news) => S ∧ K v (h ++ news)
  | none => False

def runH (x : Option (Prop × Nat × AObj)) (h : List AObj) (K : AV → List AObj → Prop) : Prop :=
  match x with
  | some (S, id, o) => S ∧ K .und (h.set id o)
  | none => False

def runM (x : Option (Prop × AV × Nat × AObj)) (h : List AObj) (K : AV → List AObj → Prop) : Prop :=
  match x with
  | some (S, v, id, o) => S ∧ K v (h.set id o)
  | none => False

def jE (x : D) (y : Option (Prop × AV × Nat × AObj)) (h : List AObj) (K : AV → List AObj → Prop) : Prop :=
  match x with
  | some (S, v, news) => S ∧ K v (h ++ news)
  | none => runM y h K

def pQ (n : Option Nat) (h : List AObj) (K : AV → List AObj → Prop) : Prop :=
  match n with
  | some n => ∀ b : Bool, (b = true → n = 0) → K (.bool b) h
  | none => False

def boxO (v : AV) : AObj :=
  match v with
  | .arr l => .row .arr 0 l
  | v => .box v

def mZ (d : TyD) : Prop :=
  match d with
  | .map _ => True
  | d => fitP d d.zero
def cK (d : TyD) (h : List AObj) (K : AV → List AObj → Prop) : Prop := mZ d ∧ K (.ptr h.length []) (h ++ [boxO d.zero])
def boxW (d : TyD) (v : AV) (h : List AObj) (K : AV → List AObj → Prop) : Prop := fitP d v ∧ K (.ptr h.length []) (h ++ [boxO v])

-- the ids that a value's slices are rows of
mutual
def AV.rows : AV → List Nat
  | .sref _ id _ _ _ => [id]
  | .agg vs | .tup vs => AV.rowss vs
  | _ => []
def AV.rowss : List AV → List Nat
  | [] => []
  | v :: r => v.rows ++ AV.rowss r
end

def froO : AObj → AObj
  | .row _ ver l => .row .fro ver l
  | o => o

-- values without slices
mutual
def AV.noSl : AV → Bool
  | .int _ _ | .bool _ | .str _ | .nilp | .nilfn | .niliface => true
  | .arr l => l.plain
  | .agg vs | .tup vs => AV.noSls vs
  | .fn _ first cap => AV.noSls first && AV.noSls cap
  | _ => false
def AV.noSls : List AV → Bool
  | [] => true
  | v :: r => v.noSl && AV.noSls r
end

def fZ : List Nat → List AObj → List AObj
  | [], h => h
  | id :: r, h => fZ r (h.modify id froO)

def mS (mt : Bool) (args : List AV) : Option Nat :=
  match mt, args.getLast? with
  | true, some (.sref _ id _ _ _) => some id
  | _, _ => none

def lB (la : Option Nat) (dr : Bool) (x : Option (Bool × D)) (rows : List Nat) (h : List AObj) (K : AV → List AObj → Prop) (els : Prop) : Prop :=
  match x with
  | some (true, some (S, v, news)) => S ∧ K (v.shift h.length) (h ++ news)
  | some (false, some (S, v, _)) => match v.noSl with
    | true => S ∧ K v h
    | false => (dr = true → rows = [] ∨ la.toList = rows) ∧ S ∧ K v (fZ rows h)
  | some (_, none) => False
  | none => els

def nD (c : Ctx) (f : FuncId) (vs : Option (List AV)) : Option (Bool × D) :=
  match vs with
  | some vs => match AV.closeds vs with
    | true => c.envF f vs
    | false => none
  | none => none

def outW (K KP : AV → List AObj → Prop) (r : AOut) (h : List AObj) : Prop :=
  match r with
  | .ret v => K v h
  | .pan v => KP v h

def bB (mt : Bool) (c : Ctx) (f : AV) (args : List AV) (h : List AObj) (K KP : AV → List AObj → Prop) : Prop :=
  match f with
  | .fn (.func f) first cap =>
    lB (mS mt args) c.drawn (nD c f (AV.vals h (first ++ args ++ cap))) (AV.rowss (first ++ args ++ cap)) h K
      (c.envS f (first ++ args ++ cap) h (outW K KP))
  | .fn (.yield l) [] [] => c.envY l args h (outW K KP)
  | _ => False

def TyD.slc : TyD → Bool
  | .slice _ => true
  | _ => false

def jX (d : TyD) (n : Int) : AV :=
  match d with
  | .slice (.val _) => .top
  | .slice e => .sl true (e.zeros n.toNat)
  | _ => .top

def vN (d e : TyD) (s x : AV) (h : List AObj) (K : AV → List AObj → Prop) : Prop :=
  match e with
  | .slice _ => jE (fT d h s x h.length) (gJ d h s x) h K
  | .int _ => match x with
    | .int .i64 n => (0 ≤ n ∧ n ≤ 68719476736) ∧ jE (fT d h s (jX d n) h.length) (gJ d h s (jX d n)) h K
    | _ => False
  | _ => False

def aBb (b : Builtin) (ds : List TyD) (args : List AV) (h : List AObj) (K : AV → List AObj → Prop) : Prop :=
  match b, ds, args with
  | .len, [d], [v] => runD (lenD d h v) h K
  | .min, _, [x, y] => runD (minD x y) h K
  | .max, _, [x, y] => runD (maxD x y) h K
  | .append, [d, e], [s, x] => vN d e s x h K
  | .copy, [ty, _], [d, s] => runM (lA ty h d s) h K
  | .clear, [ty], [d] => runM (pP ty h d) h K
  | _, _, _ => False

def TyD.known : TyD → Bool
  | .other | .iface | .tup _ => false
  | _ => true

def TyD.field (d : TyD) (i : Nat) : TyD :=
  match d with
  | .strct fs => fs.getD i .other
  | _ => .other

def panW (v : AV) (h : List AObj) (KP : AV → List AObj → Prop) : Prop :=
  match v with
  | .iface t u => KP (.iface t u) h
  | _ => False

def vO (apps : List Nat) (args : List Operand) : Bool :=
  match args.getLast? with
  | some (.tmp i) => apps.contains i
  | _ => false

def opW (c : Ctx) (apps : List Nat) (t : List (Nat × AV)) (h : List AObj) (op : Op) (type : TypeId) (K : AV → List AObj → Prop) (KP : AV → List AObj → Prop) : Prop :=
  match op with
  | .move x => K (ev t (c.tab type) x) h
  | .assign x => K (ev t (c.tab type) x) h
  | .pick cnd a b => runD (bP (ev t .bool cnd) (ev t .bool a) (ev t .bool b)) h K
  | .alloc T => cK (c.tab T) h K
  | .box T x => boxW (c.tab T) (ev t (c.tab T) x) h K
  | .build T parts => runD (gC (c.tab T) (parts.toList.map fun p => (p.1, ev t ((c.tab T).field p.1) p.2))) h K
  | .buildSlice T n parts => runD (fD (c.tab T) n (parts.toList.map fun p => (p.1, ev t .other p.2)) h.length) h K
  | .load T a => runD (fitD (c.tab T) (aD h (ev t .ptr a))) h K
  | .store T a v => runH (aQ (c.tab T) h (ev t .ptr a) (ev t (c.tab T) v)) h K
  | .nilCheck x => runD (cJ (ev t .ptr x)) h K
  | .binOp op xt x y _ => match mJ y, op with
    | true, .eql => sL (c.tab xt).slc (pQ ((ev t (c.tab xt) x).len (c.tab xt) h) h K)
    | _, _ => runD (binD (c.tab xt) op (ev t (c.tab xt) x) (ev t (c.tab xt) y)) h K
  | .unOp op _ x => runD (unD op (ev t .bool x)) h K
  | .convert s d x => runD (iI h (c.tab s) (c.tab d) (ev t (c.tab s) x)) h K
  | .makeInterface T x => sL (c.tab T).known (K (.iface T (ev t (c.tab T) x)) h)
  | .makeFunc fn first cap => K (.fn fn (first.toList.map (ev t .other)) (cap.toList.map (ev t .other))) h
  | .makeMap T none => runD (jP (c.tab T) h.length) h K
  | .makeSlice T l cp => runD (jD (c.tab T) (ev t (.int .i64) l) (ev t (.int .i64) cp) h.length) h K
  | .slice T x lo hi mx => runD (dO (c.tab T) h (ev t (c.tab T) x) (lo.map (ev t (.int .i64))) (hi.map (ev t (.int .i64))) (mx.map (ev t (.int .i64)))) h K
  | .fieldAddr T x f => runD (aC (c.tab T) (ev t .ptr x) f) h K
  | .field T x f => runD (yJ (c.tab T) (ev t (c.tab T) x) f) h K
  | .indexAddr T x i => runD (aH (c.tab T) h (ev t (c.tab T) x) (ev t (.int .i64) i)) h K
  | .index T x i => runD (rM (c.tab T) (ev t (c.tab T) x) (ev t (.int .i64) i)) h K
  | .lookup T x k false => runD (kS (c.tab T) h (ev t .other x) (ev t (.int .i64) k)) h K
  | .mapUpdate T x k v => runH (iQ (c.tab T) h (ev t .other x) (ev t (.int .i64) k) (ev t .other v)) h K
  | .insert T x k v => runH (iQ (c.tab T) h (ev t .other x) (ev t (.int .i64) k) (ev t .other v)) h K
  | .extract x i => runD (bM (ev t .other x) i) h K
  | .panic x => panW (ev t .iface x) h KP
  | .call cl => match Nat.beq cl.args.toList.length cl.argTypes.toList.length with
    | false => False
    | true => match cl.callee with
      | .builtin b => aBb b (cl.argTypes.toList.map c.tab) ((cl.args.toList.zip cl.argTypes.toList).map fun p => ev t (c.tab p.2) p.1) h K
      | .value f => bB (vO apps cl.args.toList) c (ev t .func f) ((cl.args.toList.zip cl.argTypes.toList).map fun p => ev t (c.tab p.2) p.1) h K KP
      | _ => False
  | _ => False

/-! ### Regions -/
def putO (d : Option Nat) (v : AV) (t : List (Nat × AV)) : List (Nat × AV) :=
  match d with
  | some i => put i v t
  | none => t

def iX (ops : List Oper) (j : Nat) : Option Nat := (ops[j]?).bind (·.dst)

def aX (v : AV) (want : Bool) (A B : Prop) : Prop :=
  match v with
  | .bool b => (b = want → A) ∧ (b = (!want) → B)
  | _ => False

def aZ (v : AV) (A B : Prop) : Prop :=
  match v with
  | .bool b => (b = true → A) ∧ (b = false → B)
  | _ => False

def known (g : Nat) : List (Nat × Option Bool) → Option (Option Bool)
  | [] => none
  | (i, b) :: r => match Nat.beq g i with
    | true => some b
    | false => known g r

def unknow (d : Option Nat) (kn : List (Nat × Option Bool)) : List (Nat × Option Bool) :=
  match d with
  | none => kn
  | some i => match known i kn with
    | none => kn
    | some _ => []

def passed (d : Option Nat) (kn : List (Nat × Option Bool)) : List (Nat × Option Bool) :=
  match d with
  | none => kn
  | some i => match known i kn with
    | none => (i, none) :: kn
    | some _ => []

def opsW (c : Ctx) (apps : List Nat) (ops : List Oper) (KP : List (Nat × AV) → AV → List AObj → Prop) (κ : List (Nat × AV) → List AObj → Prop) : List Oper → List (Nat × Option Bool) → List (Nat × AV) → List AObj → Prop
  | [], _, t, h => κ t h
  | o :: r, kn, t, h =>
    match o.guard with
    | none => opW c apps t h o.op o.type (fun v h' => opsW c apps ops KP κ r (unknow o.dst kn) (putO o.dst v t) h') (KP t)
    | some (j, want) => match iX ops j with
      | none => False
      | some g => match known g kn with
        | some (some b) => match b == want with
          | true => opW c apps t h o.op o.type (fun v h' => opsW c apps ops KP κ r (unknow o.dst kn) (putO o.dst v t) h') (KP t)
          | false => opsW c apps ops KP κ r (passed o.dst kn) (putO o.dst .und t) h
        | some none => opsW c apps ops KP κ r (passed o.dst kn) (putO o.dst .und t) h
        | none => aX (get t g) want
          (opW c apps (put g (.bool want) t) h o.op o.type (fun v h' => opsW c apps ops KP κ r (unknow o.dst ((g, some want) :: kn)) (putO o.dst v (put g (.bool want) t)) h') (KP (put g (.bool want) t)))
          (opsW c apps ops KP κ r (passed o.dst ((g, some (!want)) :: kn)) (putO o.dst .und (put g (.bool (!want)) t)) h)

def aM {α : Type} (A : α → Prop) (k : α) : Prop := A k

def JTy : List Nat → Type
  | [] => List AObj → Prop
  | _ :: L => AV → JTy L

def appJ : (L : List Nat) → JTy L → List (Nat × AV) → List AObj → Prop
  | [], J, _, h => J h
  | i :: L, J, t, h => appJ L (J (get t i)) t h

def mkJ : (L : List Nat) → (List (Nat × AV) → List AObj → Prop) → List (Nat × AV) → JTy L
  | [], f, t => fun h => f t h
  | i :: L, f, t => fun v => mkJ L f (put i v t)

def topD : List Oper → List (Nat × AV) → List (Nat × AV)
  | [], t => t
  | o :: r, t => match o.dst with
    | some i => put i .top (topD r t)
    | none => topD r t

def aBI (c : Ctx) (ops : List Oper) (KP : List (Nat × AV) → AV → List AObj → Prop) (κ : List (Nat × AV) → List AObj → Prop) : List (Nat × Option (List Nat)) → List Oper → List (Nat × AV) → List AObj → Prop
  | [], r, t, h => opsW c [] ops KP κ r [] t h
  | (n, L) :: cs, r, t, h => match L with
    | none => opsW c [] ops KP (fun t h => aBI c ops KP κ cs (r.drop n) t h) (r.take n) [] t h
    | some L => aM (fun J : JTy L => opsW c [] ops KP (fun t' h' => appJ L J t' h') (r.take n) [] t h) (mkJ L (fun t h => aBI c ops KP κ cs (r.drop n) t h) (topD (r.take n) t))

/-! ### Regions that draw their order -/
def nE (o : Oper) : List Nat := o.op.operands.toList.filterMap fun x => match x with | .tmp i => some i | _ => none

def gA : List Oper → List Nat → List Nat
  | [], acc => acc
  | o :: r, acc => gA r (acc ++ [o.after.foldl (fun s e => match Region.binds .any e with
      | true => s ||| ((1 <<< e.on) ||| acc.getD e.on 0)
      | false => s) 0])

def lW (apps : List Nat) (o : Oper) : Option Operand :=
  match o.op with
  | .store _ a _ => some a
  | .mapUpdate _ m _ _ => some m
  | .insert _ m _ _ => some m
  | .call { callee := .builtin .append, args, .. } => args[0]?
  | .call { callee := .builtin .copy, args, .. } => args[0]?
  | .call { callee := .builtin .clear, args, .. } => args[0]?
  | .call { callee := .value _, args, .. } => match vO apps args.toList with
    | true => args.toList.getLast?
    | false => none
  | _ => none

def iB (ops : List Oper) : List Nat := ops.filterMap fun o => match o.op with
  | .call { callee := .builtin .append, .. } => o.dst
  | _ => none

def lM (o : Oper) : Bool :=
  match o.op with
  | .load .. | .store .. | .lookup .. | .mapUpdate .. | .insert .. | .call _ | .convert .. | .slice .. | .indexAddr .. => true
  | .binOp op _ _ y _ => match mJ y, op with
    | true, .eql => true
    | _, _ => false
  | _ => false

def aAh (ops : List Oper) (b : List Nat) : List (Nat × Nat) :=
  (List.range ops.length).flatMap fun j => (List.range j).flatMap fun i =>
    match (b.getD j 0).testBit i with
    | true => []
    | false => match ops[i]?, ops[j]? with
      | some oi, some oj =>
        (if (lW (iB ops) oi).isSome && lM oj then [(i, j)] else []) ++ (if (lW (iB ops) oj).isSome && lM oi then [(j, i)] else [])
      | _, _ => []

-- the objects that a value names
mutual
def AV.ids : AV → List Nat
  | .sref _ id _ _ _ => [id]
  | .ptr id _ => [id]
  | .map id => [id]
  | .agg vs | .tup vs => AV.idss vs
  | .fn _ a b => AV.idss a ++ AV.idss b
  | .iface _ v => v.ids
  | _ => []
def AV.idss : List AV → List Nat
  | [] => []
  | v :: r => v.ids ++ AV.idss r
end

def sepB (v : AV) (vs : List AV) : Bool := v.ids.all fun i => (AV.idss vs).all fun j => !Nat.beq i j

def sepW (t : List (Nat × AV)) : List (Option Operand × List Operand) → Prop → Prop
  | [], A => A
  | (some x, ys) :: r, A => sepB (ev t .other x) (ys.map (ev t .other)) = true ∧ sepW t r A
  | (none, _) :: _, _ => False

def rN (ops : List Oper) (b : List Nat) : List (Option Operand × List Operand) :=
  (aAh ops b).map fun p => match ops[p.1]?, ops[p.2]? with
    | some oi, some oj => (lW (iB ops) oi, oj.op.operands.toList)
    | _, _ => (none, [])

def yK (o : Op) : Bool :=
  match o with
  | .binOp op _ _ y _ => match mJ y, op with
    | true, .eql => true
    | _, _ => false
  | _ => false

def vP (ops : List Oper) (b : List Nat) : Bool :=
  let n := ops.length
  ((List.range n).all fun i => match ops[i]? with
    | none => false
    | some o =>
      !yK o.op &&
      o.after.all (fun e => !Region.binds .any e || Nat.blt e.on i) &&
      (match o.guard with
        | none => true
        | some (j, _) => (b.getD i 0).testBit j && Nat.blt j i) &&
      ((List.range n).all fun j => match ops[j]? with
        | none => false
        | some o' => match o'.dst with
          | none => true
          | some d => (Nat.beq i j || !(o.dst == some d)) &&
            (!(nE o).contains d || (b.getD i 0).testBit j || (!Nat.beq i j && (b.getD j 0).testBit i) || (Nat.beq i j && !lM o)))) &&
  ((aAh ops b).all fun p => match ops[p.1]?, ops[p.2]? with
    | some oi, some oj => (List.range n).all fun k => match (ops[k]?).bind (·.dst) with
      | none => true
      | some d => (!(nE oi).contains d || (b.getD p.1 0).testBit k) && (!(nE oj).contains d || (b.getD p.2 0).testBit k)
    | _, _ => false)

def Ctx.noS (c : Ctx) : Ctx := { c with envS := fun _ _ _ _ => False, drawn := true, envY := fun _ _ _ _ => False }

def Ctx.withY (c : Ctx) (l : Nat) (Y : Con) : Ctx := { c with envY := fun l' args h K => l' = l ∧ Y args h K }

def Ctx.noI (c : Ctx) : Ctx := { c with iterS := fun _ _ _ _ _ => False }

/-! ### Loops -/
def mK (l : Lst) (n : Nat) : AV × List Lst :=
  match l.len with
  | 0 => (.sref false n 0 0 0, [l])
  | _ => (.sl true l, [])

mutual
def gK : AV → Nat → AV × List Lst
  | .sl true l, n => mK l n
  | .agg vs, n => (.agg (kW vs n).1, (kW vs n).2)
  | v, _ => (v, [])
def kW : List AV → Nat → List AV × List Lst
  | [], _ => ([], [])
  | v :: r, n => ((gK v n).1 :: (kW r (n + (gK v n).2.length)).1, (gK v n).2 ++ (kW r (n + (gK v n).2.length)).2)
end

def lN (ls : List Lst) : List AObj := ls.map fun l => .row .own 0 l

def aBJ (i : Nat) (x : AV × List Lst) (h : List AObj) : List AObj :=
  match x.2 with
  | [] => h
  | _ :: _ => (h ++ lN x.2).set i (.box x.1)

def pR (i : Nat) (o : AObj) (h : List AObj) : List AObj :=
  match o with
  | .box v => aBJ i (gK v h.length) h
  | _ => h

def aEw : List AObj → Nat → List AObj → List AObj
  | [], _, h => h
  | o :: r, i, h => aEw r (i + 1) (pR i o h)

def aBK (a : AV) (h : List AObj) : List AObj :=
  match a with
  | .ptr id [] => pR id (h.getD id .dead) h
  | _ => h

def boxH : List AV → List AObj → List AObj
  | [], h => h
  | a :: r, h => boxH r (aBK a h)

def aCQ : List Nat → (List (Nat × AV) → List AV → Prop) → Prop
  | [], P => P [] []
  | i :: L, P => ∀ v, aCQ L fun t vs => P ((i, v) :: t) (v :: vs)

def oT (n : Nat) (o : Option AObj) (id ver off len : Nat) : AV :=
  match o with
  | some (.row _ ver' l) => if ver = ver' then (if id < n then .sref false id ver off len else .sl false (l.cut off len)) else .top
  | _ => .top

-- values at the head of a loop
mutual
def AV.norm (n : Nat) (h : List AObj) : AV → AV
  | .sref _ id ver off len => oT n (h[id]?) id ver off len
  | .sl _ l => .sl false l
  | .ptr id p => if id < n then .ptr id p else .top
  | .map id => if id < n then .map id else .top
  | .agg vs => .agg (AV.norms n h vs)
  | .tup vs => .tup (AV.norms n h vs)
  | .fn f first cap => .fn f (AV.norms n h first) (AV.norms n h cap)
  | .iface t v => .iface t (v.norm n h)
  | v => v
def AV.norms (n : Nat) (h : List AObj) : List AV → List AV
  | [] => []
  | v :: r => v.norm n h :: AV.norms n h r
end

def pS (n : Nat) (h : List AObj) : AObj → AObj
  | .box v => .box (v.norm n h)
  | o => o

def cG (n : Nat) (h : List AObj) : List AObj := (h.take n).map (pS n h)

def dE : List Bool → List AV → List AObj → (List AV → List AObj → Prop) → Prop
  | true :: fs, v :: vs, h, K => match v with
    | .sl true l => l.len = 0 ∧ dE fs vs (h ++ [.row .own 0 l]) fun us h' => K (.sref false h.length 0 0 0 :: us) h'
    | v => dE fs vs h fun us h' => K (v :: us) h'
  | false :: fs, v :: vs, h, K => dE fs vs h fun us h' => K (v :: us) h'
  | _, vs, h, K => K vs h

def dJ : Code → Nat
  | .region id _ _ => id
  | .seq a _ => dJ a
  | .block _ b => dJ b
  | .loop b => dJ b + 1000
  | .scope b => dJ b
  | _ => 0

def aLn (L : List Nat) (lv : List AV) (h0 : List AObj) (kv : List AV) (n0 : Nat) (body : List (Nat × AV) → List AObj → (List AV → List AV → List AObj → Prop) → Prop) : Prop :=
  ∃ I : Nat → List AV → List AObj → Prop, (∃ n, I n lv h0) ∧
    ∀ n h, aCQ L fun t vs => I n vs h → body t h fun lv' kv' h' => (∃ m, m < n ∧ I m (AV.norms n0 h' lv') (cG n0 h')) ∧ AV.norms n0 h' kv' = kv

def gets (t : List (Nat × AV)) : List Nat → List AV
  | [] => []
  | i :: r => get t i :: gets t r

def zipT : List Nat → List AV → List (Nat × AV)
  | i :: L, v :: vs => (i, v) :: zipT L vs
  | _, _ => []

def pA : Code → Nat → Bool
  | .seq a b, l => pA a l || pA b l
  | .label l', l => Nat.beq l' l
  | _, _ => false

/-! ### Ranges over functions -/
def yL : List Nat → List AV → List (Nat × AV) → List (Nat × AV)
  | i :: L, v :: vs, t => yL L vs (put i v t)
  | _, _, t => t

def aHy : List Nat → List AV → List (Nat × AV) → (List (Nat × AV) → Prop) → Prop
  | [], vs, t, A => match vs with
    | [] => A t
    | _ :: _ => False
  | i :: L, vs, t, A => match vs with
    | [] => False
    | v :: vs => aHy L vs (put i v t) A

def aHz (vs : List AV) (A : Prop) : Prop :=
  match vs with
  | [] => A
  | _ :: _ => False
def aAi (vs : List AV) (A : AV → Prop) : Prop :=
  match vs with
  | [] => False
  | v :: vs => aHz vs (A v)
def aOy (vs : List AV) (A : AV → AV → Prop) : Prop :=
  match vs with
  | [] => False
  | v :: vs => aAi vs (A v)

def lpIs (h : List AObj) (id : Nat) (st : LoopState) (r : Loop) : Prop := h[id]? = some (.lp st none r)

def aIR (ps : List Nat) (wa wb : List (Nat × AV) → List AObj → (rD → List (Nat × AV) → List AObj → Prop) → Prop) (t : List (Nat × AV)) (id : Nat) (r : Loop) (args : List AV) (h : List AObj) (K : AOut → List AObj → Prop) : Prop :=
  lpIs h id .ready r ∧ aHy ps args t fun t => wa t h fun e t' h' => match e with
    | .normal => lpIs h' id .ready r ∧ wb t' (h'.set id (.lp .busy none r)) fun e _ h'' => match e with
      | .normal => lpIs h'' id .busy r ∧ K (.ret (.bool true)) (h''.set id (.lp .ready none r))
      | .ret => lpIs h'' id .busy r ∧ K (.ret (.bool false)) (h''.set id (.lp .done (some .ret) r))
      | .exit i => lpIs h'' id .busy r ∧ K (.ret (.bool false)) (h''.set id (.lp .done (some (.exit i)) r))
      | .goto l => lpIs h'' id .busy r ∧ K (.ret (.bool false)) (h''.set id (.lp .done (some (.goto l)) r))
      | .pan _ => False
    | _ => False

def endO (o : Option AObj) (id : Nat) (r : Loop) (h : List AObj) (kn kr : List AObj → Prop) (ke kg : Nat → List AObj → Prop) : Prop :=
  match o with
  | some (.lp .ready none r') => r' = r ∧ kn (h.set id (.lp .exhausted none r))
  | some (.lp .done (some .ret) r') => r' = r ∧ kr (h.set id (.lp .exhausted (some .ret) r))
  | some (.lp .done (some (.exit i)) r') => r' = r ∧ ke i (h.set id (.lp .exhausted (some (.exit i)) r))
  | some (.lp .done (some (.goto l)) r') => r' = r ∧ kg l (h.set id (.lp .exhausted (some (.goto l)) r))
  | _ => False

def endX (id : Nat) (r : Loop) (ao : AOut) (h : List AObj) (kn kr : List AObj → Prop) (ke kg : Nat → List AObj → Prop) (kp : AV → List AObj → Prop) : Prop :=
  match ao with
  | .pan v => kp v h
  | .ret _ => endO (h[id]?) id r h kn kr ke kg

def aEP (t : List (Nat × AV)) (id : Nat) (r : Loop) (κ : rD → List (Nat × AV) → List AObj → Prop) (ao : AOut) (h : List AObj) : Prop :=
  endX id r ao h (fun h => κ .normal t h) (fun h => κ .ret t h) (fun i h => κ (.exit i) t h) (fun l h => κ (.goto l) t h) (fun v h => κ (.pan v) t h)

def aBL (iterS : FuncId → Con → Con) (f : FuncId) (cap : List AV) (h : List AObj) (rd : Nat → Loop → Con) (fin : Nat → Loop → AOut → List AObj → Prop) : Prop :=
  ∀ (l : Nat) (r : Loop), iterS f (rd h.length r) (.fn (.yield l) [] [] :: cap) (h ++ [.lp .ready none r]) (fin h.length r)

def vQ (iterS : FuncId → Con → Con) (g : AV) (h : List AObj) (rd : Nat → Loop → Con) (fin : Nat → Loop → AOut → List AObj → Prop) : Prop :=
  match g with
  | .fn (.func f) [] cap => aBL iterS f cap h rd fin
  | _ => False

def aEx (i id : Nat) (A B : Prop) : Prop :=
  match Nat.beq i id with
  | true => A
  | false => B

def aIS (iterS : FuncId → Con → Con) (g : AV) (ps : List Nat) (wa wb : List (Nat × AV) → List AObj → (rD → List (Nat × AV) → List AObj → Prop) → Prop) (t : List (Nat × AV)) (h : List AObj) (κ : rD → List (Nat × AV) → List AObj → Prop) : Prop :=
  vQ iterS g h (fun id r args h' K => aIR ps wa wb t id r args h' K) (fun id r ao h => aEP t id r κ ao h)

def aCR (ops : List Oper) : Option (List Oper × Oper) :=
  match ops.reverse with
  | [] => none
  | o :: r => match o.op, o.guard with
    | .call { callee := .value (.tmp _), .. }, none =>
      match (List.range r.length).all (fun i => ((gA ops []).getD r.length 0).testBit i) && o.after.toList.all (fun e => !Region.binds .any e || Nat.blt e.on r.length) with
      | true => some (r.reverse, o)
      | false => none
    | _, _ => none

def W (c : Ctx) : Option Nat → Code → St → (rD → St → Prop) → Prop
  | g, .seq a b, st, κ => match g with
    | none => W c none a st fun e st' => match e with
      | .normal => W c none b st' κ
      | e => κ e st'
    | some l => match pA a l with
      | true => W c (some l) a st fun e st' => match e with
        | .normal => W c none b st' κ
        | e => κ e st'
      | false => W c (some l) b st κ
  | some _, .label _, st, κ => κ .normal st
  | none, .skip, st, κ => κ .normal st
  | none, .label _, st, κ => κ .normal st
  | none, .ret, st, κ => κ .ret st
  | none, .exit id, st, κ => κ (.exit id) st
  | none, .goto l, st, κ => κ (.goto l) st
  | none, .cond x a b, st, κ => aZ (ev st.t .bool x) (W c none a st κ) (W c none b st κ)
  | none, .block id b, st, κ => W c none b st fun e st' => match e with
    | .exit id' => match Nat.beq id' id with
      | true => κ .normal st'
      | false => κ (.exit id') st'
    | e => κ e st'
  | none, .scope b, st, κ => W c none b st fun e st' => match e with
    | .goto l => match pA b l with
      | true => W c (some l) b st' fun e st' => match e with
        | .goto _ => False
        | e => κ e st'
      | false => κ (.goto l) st'
    | e => κ e st'
  | none, .loop b, st, κ =>
    let i := c.loop (dJ b)
    dE i.prom (gets st.t i.live) (boxH (gets st.t i.box) st.h) fun lv h => match i.keep with
      | [] => aLn i.live (AV.norms h.length h lv) (cG h.length h) (AV.norms h.length h (gets st.t i.const)) h.length fun t h' N =>
        W c none b ⟨t ++ zipT i.const (AV.norms h.length h (gets st.t i.const)), h'⟩ fun e s' => match e with
          | .normal => N (gets s'.t i.live) (gets s'.t i.const) s'.h
          | e => κ e s'
      | k :: ks => AV.closeds (gets st.t (k :: ks)) = true ∧ aLn i.live (AV.norms h.length h lv) (cG h.length h) (AV.norms h.length h (gets st.t i.const)) h.length fun t h' N =>
        W c none b ⟨t ++ (zipT i.const (AV.norms h.length h (gets st.t i.const)) ++ zipT (k :: ks) (gets st.t (k :: ks))), h'⟩ fun e s' => match e with
          | .normal => N (gets s'.t i.live) (gets s'.t i.const) s'.h ∧ gets s'.t (k :: ks) = gets st.t (k :: ks)
          | e => κ e s'
  | none, .rangeFunc g ps assign body, st, κ =>
    aIS c.iterS (ev st.t .func g) ps.toList (fun t h k => W c.noI none assign ⟨t, h⟩ fun e s => k e s.t s.h) (fun t h k => W c.noI none body ⟨t, h⟩ fun e s => k e s.t s.h) st.t (boxH (gets st.t (c.loop (dJ assign)).box) st.h) fun e t h => κ e ⟨t, h⟩
  | none, .region id ops draw, st, κ => match draw with
    | false => aBI c ops.toList (fun t v h => κ (.pan v) ⟨t, h⟩) (fun t h => κ .normal ⟨t, h⟩) (c.loop id).cut ops.toList st.t st.h
    | true => match aCR ops.toList with
      | none => match vP ops.toList (gA ops.toList []) with
        | false => False
        | true => opsW c.noS (iB ops.toList) ops.toList (fun _ _ _ => False) (fun t h => sepW t (rN ops.toList (gA ops.toList [])) (κ .normal ⟨t, h⟩)) ops.toList [] st.t st.h
      | some (l, o) => match vP l (gA l []) with
        | false => False
        | true => opsW c.noS (iB l) l (fun _ _ _ => False) (fun t h => sepW t (rN l (gA l [])) (opW c [] t h o.op o.type (fun v h' => κ .normal ⟨putO o.dst v t, h'⟩) (fun v h' => κ (.pan v) ⟨t, h'⟩))) l [] st.t st.h
  | _, _, _, _ => False

/-! ### Functions -/
def cL (x : D) (K : AV → Prop) : Prop :=
  match x with
  | some (S, v, _) => S ∧ K v
  | none => False

def resW (c : Ctx) (h : List AObj) (t : List (Nat × AV)) : List ResultVar → (List AV → Prop) → Prop
  | [], K => K []
  | .tmp i :: r, K => resW c h t r fun vs => K (get t i :: vs)
  | .cell a T :: r, K => cL (fitD (c.tab T) (aD h (get t a))) fun v => resW c h t r fun vs => K (v :: vs)

def rO : List AV → AV
  | [v] => v
  | vs => .tup vs

def init : Nat → List AV → List (Nat × AV)
  | _, [] => []
  | i, v :: r => (i, v) :: init (i + 1) r

def kB (n : Nat) : Code → Bool
  | .region _ ops _ => ops.toList.all fun o => match o.dst with
    | none => true
    | some d => Nat.blt d n
  | .seq a b => kB n a && kB n b
  | .cond _ a b => kB n a && kB n b
  | .block _ b => kB n b
  | .loop b => kB n b
  | .scope b => kB n b
  | .rangeFunc _ ps a b => (ps.toList.all fun i => Nat.blt i n) && kB n a && kB n b
  | _ => true

def aOz (c : Ctx) (fn : Func) (b : Code) (args : List AV) (h : List AObj) (K : AOut → List AObj → Prop) : Prop :=
  W c none b ⟨init 0 args, h⟩ fun e st => match e with
    | .ret => resW c st.h st.t fn.results.toList fun vs => K (.ret (rO vs)) st.h
    | .normal => resW c st.h st.t fn.results.toList fun vs => K (.ret (rO vs)) st.h
    | .pan v => K (.pan v) st.h
    | _ => False

def funW (c : Ctx) (fn : Func) (args : List AV) (h : List AObj) (K : AOut → List AObj → Prop) : Prop :=
  match fn.body with
  | none => False
  | some b => match kB fn.ntmps b && Nat.ble args.length fn.ntmps with
    | true => aOz c fn b args h K
    | false => False

end Lam
namespace Lam
open Go

def bstr (s : bF) : ByteArray := ⟨s.toArray⟩
theorem bstr_data (b : ByteArray) : bstr b.data.toList = b := by cases b; simp [bstr]
@[simp] theorem aIT (s : bF) : (bstr s).size = s.length := by simp [bstr, ByteArray.size]
theorem iS (s : bF) : (bstr s).toList = s := by
  rw [Go.ByteArray.toList_eq]; simp [bstr]

def fnV : Option FuncId → Value
  | some f => .func (.func f) #[] #[]
  | none => .nilFunc

def Lst.cell (l : Lst) (i : Nat) : List Value :=
  match l with
  | .ints k xs => [.int k (xs.getD i 0)]
  | .bools xs => [.bool (xs.getD i false)]
  | .strs xs => [.string (bstr (xs.getD i []))]
  | .pends xs => let p := xs.getD i ⟨0, 0, false⟩; [.int .i64 p.at_, .int .i64 p.val, .bool p.fl]
  | .mics xs => let p := xs.getD i ⟨0, 0, 0⟩; [.int .i64 p.kind, .int .i64 p.at_, .int .i64 p.val]
  | .recs xs => let p := xs.getD i ⟨0, [], [], 0⟩; [.int .i64 p.kind, .string (bstr p.key), .string (bstr p.val), .int .i64 p.child]
  | .pairs xs => let p := xs.getD i ⟨[], []⟩; [.string (bstr p.key), .string (bstr p.val)]
  | .slots xs => let p := xs.getD i ⟨0, 0⟩; [.int .i64 p.at_, .int .i64 p.val]
  | .fns xs => [fnV (xs.getD i none)]
  | .vals k _ => List.replicate k.size .nilFunc

theorem Lst.cell_length (l : Lst) (i : Nat) : (l.cell i).length = l.kind.size := by cases l <;> first | rfl | simp [Lst.cell, Lst.kind, LK.size]
theorem LK.size_pos (k : LK) : 0 < k.size := by cases k <;> simp [LK.size]; rename_i k; cases k <;> simp [VK.size]

def Lst.flat (l : Lst) : List Value := (List.range l.len).flatMap l.cell

theorem iJ (f : Nat → List Value) (s : Nat) (hf : ∀ i, (f i).length = s) : ∀ n, ((List.range n).flatMap f).length = n * s
  | 0 => by simp
  | n + 1 => by rw [List.range_succ, List.flatMap_append, List.length_append, iJ f s hf n]; simp [hf, Nat.succ_mul]

theorem Lst.flat_length (l : Lst) : l.flat.length = l.len * l.kind.size := iJ _ _ l.cell_length _

theorem lX (f : Nat → List Value) (s : Nat) (hf : ∀ i, (f i).length = s) : ∀ n i j, i < n → j < s → ((List.range n).flatMap f)[i * s + j]? = (f i)[j]?
  | 0, _, _, h, _ => absurd h (Nat.not_lt_zero _)
  | n + 1, i, j, hi, hj => by
    rw [List.range_succ, List.flatMap_append]
    by_cases h : i < n
    · have hl := iJ f s hf n
      have : i * s + j < n * s := by
        have : (i + 1) * s ≤ n * s := Nat.mul_le_mul_right _ h
        rw [Nat.succ_mul] at this; omega
      rw [List.getElem?_append_left (by omega)]
      exact lX f s hf n i j h hj
    · have hin : i = n := by omega
      subst hin
      have hl := iJ f s hf i
      rw [List.getElem?_append_right (by omega), hl]
      simp

theorem Lst.flat_get (l : Lst) {i j : Nat} (hi : i < l.len) (hj : j < l.kind.size) : l.flat[i * l.kind.size + j]? = (l.cell i)[j]? :=
  lX _ _ l.cell_length _ _ _ hi hj

def kC (w : World) (b off : Nat) (cs : List Value) : Prop := ∀ (j : Nat) (v : Value), cs[j]? = some v → w.cell? ⟨b, off + j, none⟩ = some v

structure Cx where
  S : Nat → Prop
  μ : List (Option Nat)
  h : List AObj
  w : World

instance : Inhabited Cx := ⟨⟨fun _ => False, [], [], default⟩⟩

def offs : List PS → Nat
  | [] => 0
  | .f _ o :: p => o + offs p
  | .i _ k s :: p => k * s + offs p

theorem aAC (p q : List PS) : offs (p ++ q) = offs p + offs q := by
  induction p with
  | nil => simp [offs]
  | cons x r ih => cases x <;> simp [offs, ih] <;> omega

def dZ (w : World) (b : Nat) : Nat :=
  match w.heap[b]? with
  | some (.cells cs _ _) => cs.size
  | _ => 0

def LK.isAgg : LK → Bool
  | .int _ | .bool | .str | .fnk => false
  | .val k => k.isAgg
  | _ => true

-- the cells of elements, and of rows
mutual
def EC (X : Cx) : AV → List Value → Prop
  | .int k n, cs => cs = [.int k n]
  | .bool b, cs => cs = [.bool b]
  | .str s, cs => cs = [.string (bstr s)]
  | .nilfn, cs => cs = [.nilFunc]
  | .fn f first cap, cs => (∃ g, f = .func g) ∧ first = [] ∧ cap = [] ∧ cs = [.func f #[] #[]]
  | .agg vs, cs => ECs X vs cs
  | .sl x l, cs => x = false ∧ ∃ a cap ds, cs = [.slice a l.len cap] ∧ l.len ≤ cap ∧ (a = none → cap = 0) ∧ LR X l ds ∧
    (l.len ≠ 0 → ∃ ad : Addr, a = some ad ∧ ad.spot = none ∧ X.S ad.block ∧ kC X.w ad.block ad.off ds)
  | _, _ => False
def ECs (X : Cx) : List AV → List Value → Prop
  | [], cs => cs = []
  | v :: r, cs => ∃ a b, cs = a ++ b ∧ EC X v a ∧ ECs X r b
def LR (X : Cx) : Lst → List Value → Prop
  | .vals k xs, cs => (∀ v ∈ xs, v.size = k.size ∧ v.scalar = !k.isAgg) ∧ ECs X xs cs
  | l, cs => cs = l.flat
end

def SlV (X : Cx) (x : Bool) (l : Lst) (c : Value) : Prop :=
  ∃ a cap, c = .slice a l.len cap ∧ l.len ≤ cap ∧ (x = true → cap = l.len) ∧ (a = none → cap = 0) ∧
    (l.len ≠ 0 → ∃ ad : Addr, a = some ad ∧ ad.spot = none ∧ X.S ad.block ∧ ∃ cs, LR X l cs ∧ kC X.w ad.block ad.off cs)

def rowO : Option AObj → Option (RK × Nat × Lst)
  | some (.row k ver l) => some (k, ver, l)
  | _ => none

def SrV (X : Cx) (x : Bool) (id ver off len : Nat) (c : Value) : Prop :=
  ∃ a n cap, c = .slice a n cap ∧ ∃ k ver' l, rowO (X.h[id]?) = some (k, ver', l) ∧ ver ≤ ver' ∧ (ver = ver' → n = len ∧ len ≤ cap ∧ off + len ≤ l.len ∧ (x = true → cap = len) ∧ (a = none → cap = 0) ∧
    (cap ≠ 0 → ∃ b, X.μ[id]? = some (some b) ∧ a = some ⟨b, off * l.kind.size, none⟩ ∧ (off + cap) * l.kind.size ≤ dZ X.w b))

def PtV (X : Cx) (id : Nat) (p : List PS) (c : Value) : Prop :=
  match p with
  | .i ver _ _ :: _ => ∃ k ver' l, rowO (X.h[id]?) = some (k, ver', l) ∧ ver ≤ ver' ∧ (∃ o, c = .pointer (some o)) ∧ (ver = ver' → ∃ b, X.μ[id]? = some (some b) ∧ c = .pointer (some ⟨b, offs p, none⟩))
  | p => ∃ b, X.μ[id]? = some (some b) ∧ c = .pointer (some ⟨b, offs p, none⟩) ∧ ∀ k ver l, rowO (X.h[id]?) = some (k, ver, l) → k ≠ .own

def EpV (X : Cx) (l : Lst) (i : Nat) (fs : List PS) (c : Value) : Prop :=
  ∃ b o, c = .pointer (some ⟨b, o + offs fs, none⟩) ∧ i < l.len ∧ X.S b ∧ ∃ us, EC X (l.nth i) us ∧ kC X.w b o us

def VB (X : Cx) : AV → Value → Prop
  | .top, _ => True
  | .und, c => c = undef
  | .int k n, c => c = .int k n
  | .bool b, c => c = .bool b
  | .str s, c => c = .string (bstr s)
  | .sl x l, c => SlV X x l c
  | .sref x id ver off len, c => SrV X x id ver off len c
  | .ep l i fs, c => EpV X l i fs c
  | .nilp, c => c = .pointer none
  | .ptr id p, c => PtV X id p c
  | .map id, c => ∃ b, X.μ[id]? = some (some b) ∧ c = .map (some b) ∧ rowO (X.h[id]?) = none
  | .nilfn, c => c = .nilFunc
  | .niliface, c => c = .nilIface
  | _, _ => False

mutual
def VV (X : Cx) : AV → Value → Prop
  | .agg vs, c => ∃ cs, c = .agg cs ∧ VCs X vs cs.toList
  | .arr l, c => ∃ cs, c = .agg cs ∧ LR X l cs.toList
  | .tup vs, c => ∃ cs, c = .tuple cs ∧ VVs X vs cs.toList
  | .fn f first cap, c => ∃ a d, c = .func f a d ∧ VVs X first a.toList ∧ VVs X cap d.toList
  | .iface t v, c => ∃ u, c = .iface t u ∧ VV X v u
  | v, c => VB X v c
def VVs (X : Cx) : List AV → List Value → Prop
  | [], cs => cs = []
  | v :: r, cs => ∃ c d, cs = c :: d ∧ VV X v c ∧ VVs X r d
def VC (X : Cx) : AV → List Value → Prop
  | .agg vs, cs => VCs X vs cs
  | .arr l, cs => LR X l cs
  | .tup _, _ => False
  | .und, _ => False
  | .top, cs => ∃ c, cs = [c] ∧ c.oneCell' = true
  | .fn f first cap, cs => ∃ a d, cs = [.func f a d] ∧ VVs X first a.toList ∧ VVs X cap d.toList
  | .iface t v, cs => ∃ u, cs = [.iface t u] ∧ VV X v u
  | v, cs => ∃ c, cs = [c] ∧ VB X v c
def VCs (X : Cx) : List AV → List Value → Prop
  | [], cs => cs = []
  | v :: r, cs => ∃ a b, cs = a ++ b ∧ VC X v a ∧ VCs X r b
end

def jF : Value → Value → Bool
  | .int _ a, .int _ b => decide (a = b)
  | .string a, .string b => decide (a.data.toList = b.data.toList)
  | _, _ => false

def iV (k z : Value) : List MapEntry → Value
  | [] => z
  | e :: r => if jF k e.key = true then e.val else iV k z r

def MapR : MapC → Array MapEntry → Prop
  | .ib m, es => (∀ e ∈ es.toList, ∃ k, e.key = .int .i64 k) ∧ ∀ n, iV (.int .i64 n) (.bool false) es.toList = .bool (m n)
  | .ii m, es => (∀ e ∈ es.toList, ∃ k, e.key = .int .i64 k) ∧ ∀ n, iV (.int .i64 n) (.int .i64 0) es.toList = .int .i64 (m n)
  | .sb m, es => (∀ e ∈ es.toList, ∃ k, e.key = .string (bstr k)) ∧ ∀ n, iV (.string (bstr n)) (.bool false) es.toList = .bool (m n)
  | .ifn m, es => (∀ e ∈ es.toList, ∃ k, e.key = .int .i64 k) ∧ ∀ n, iV (.int .i64 n) .nilFunc es.toList = fnV (m n)

def OR (X : Cx) (b : Option Nat) : AObj → Prop
  | .box v => ∃ b' cs elem, b = some b' ∧ X.w.heap[b']? = some (.cells cs elem (0, 0)) ∧ VC X v cs.toList
  | .row k _ l => (b = none ∧ l.len = 0 ∧ k ≠ .arr) ∨ ∃ b' cs elem, b = some b' ∧ X.w.heap[b']? = some (.cells cs elem (0, 0)) ∧ (∃ a r, cs.toList = a ++ r ∧ LR X l a) ∧ (k = .fro → X.S b')
  | .map m => ∃ b' es clock, b = some b' ∧ X.w.heap[b']? = some (.map es clock) ∧ MapR m es
  | .lp st pd r => ∃ b', b = some b' ∧ X.w.heap[b']? = some (.loop { r with state := st, pending := pd })
  | .dead => b = none

structure HR (X : Cx) : Prop where
  len : X.μ.length = X.h.length
  obj : ∀ (i : Nat) (o : AObj), X.h[i]? = some o → ∃ b, X.μ[i]? = some b ∧ OR X b o
  apart : ∀ (i j b : Nat), X.μ[i]? = some (some b) → X.μ[j]? = some (some b) → i = j
  live : ∀ (i b : Nat), X.μ[i]? = some (some b) → b < X.w.heap.size ∧ (X.S b → ∃ ver l, X.h[i]? = some (.row .fro ver l))
  old : ∀ (b : Nat), X.S b → b < X.w.heap.size


/-! ### Elements, rows -/
theorem iY {X : Cx} {l : Lst} {cs : List Value} (h : l.plain = true) : LR X l cs ↔ cs = l.flat := by
  cases l <;> first | rfl | cases h
theorem uD {X : Cx} {l : Lst} {cs : List Value} (h : l.plain = true) (e : cs = l.flat) : LR X l cs := (iY h).2 e
theorem jQ {X : Cx} {k : VK} {xs : List AV} {cs : List Value} : LR X (.vals k xs) cs ↔ (∀ v ∈ xs, v.size = k.size ∧ v.scalar = !k.isAgg) ∧ ECs X xs cs := by simp only [LR]
mutual
theorem pT {X : Cx} : ∀ {v : AV} {cs : List Value}, EC X v cs → cs.length = v.size
  | .int _ _, cs, h => by simp only [EC] at h; subst h; rfl
  | .bool _, cs, h => by simp only [EC] at h; subst h; rfl
  | .str _, cs, h => by simp only [EC] at h; subst h; rfl
  | .nilfn, cs, h => by simp only [EC] at h; subst h; rfl
  | .fn _ _ _, cs, h => by simp only [EC] at h; obtain ⟨_, _, _, rfl⟩ := h; rfl
  | .agg vs, cs, h => by simp only [EC] at h; simp only [AV.size]; exact vR h
  | .sl _ _, cs, h => by simp only [EC] at h; obtain ⟨_, _, _, _, rfl, _⟩ := h; rfl
  | .top, _, h | .und, _, h | .arr _, _, h | .tup _, _, h | .sref _ _ _ _ _, _, h | .ep _ _ _, _, h | .nilp, _, h | .ptr _ _, _, h | .map _, _, h | .iface _ _, _, h | .niliface, _, h => by simp only [EC] at h
theorem vR {X : Cx} : ∀ {vs : List AV} {cs : List Value}, ECs X vs cs → cs.length = AV.sizes vs
  | [], cs, h => by simp only [ECs] at h; subst h; rfl
  | v :: r, cs, h => by
    simp only [ECs] at h
    obtain ⟨a, b, rfl, h1, h2⟩ := h
    simp only [AV.sizes, List.length_append, pT h1, vR h2]
end
theorem uE {s : Nat} : ∀ {xs : List AV}, (∀ v ∈ xs, v.size = s) → AV.sizes xs = xs.length * s
  | [], _ => by simp [AV.sizes]
  | v :: r, h => by
    simp only [AV.sizes, List.length_cons, Nat.succ_mul, h v (by simp), uE (xs := r) fun u hu => h u (by simp [hu])]
    omega
theorem jN {X : Cx} {l : Lst} {cs : List Value} (h : LR X l cs) : cs.length = l.len * l.kind.size := by
  cases hp : l.plain with
  | true => rw [(iY hp).1 h]; exact l.flat_length
  | false =>
    cases l <;> simp only [Lst.plain, Bool.true_eq_false] at hp
    obtain ⟨h1, h2⟩ := jQ.1 h
    rw [vR h2, uE fun v hv => (h1 v hv).1]; rfl
theorem uF {X : Cx} : ∀ {vs : List AV} {cs : List Value} (k : Nat), ECs X vs cs → ∃ a b, cs = a ++ b ∧ ECs X (vs.take k) a ∧ ECs X (vs.drop k) b
  | vs, cs, 0, h => ⟨[], cs, rfl, by simp [ECs], by simpa using h⟩
  | [], cs, k + 1, h => ⟨cs, [], by simp, by simpa using h, by simp [ECs]⟩
  | v :: r, cs, k + 1, h => by
    simp only [ECs] at h
    obtain ⟨a, b, rfl, h1, h2⟩ := h
    obtain ⟨a2, b2, rfl, h3, h4⟩ := uF k h2
    exact ⟨a ++ a2, b2, by simp, by simp only [List.take_succ_cons, ECs]; exact ⟨a, a2, rfl, h1, h3⟩, by simpa using h4⟩
theorem sM {X : Cx} : ∀ {vs us : List AV} {a b : List Value}, ECs X vs a → ECs X us b → ECs X (vs ++ us) (a ++ b)
  | [], _, _, _, h, h2 => by simp only [ECs] at h; subst h; simpa using h2
  | v :: r, us, a, b, h, h2 => by
    simp only [ECs] at h
    obtain ⟨x, y, rfl, h1, h3⟩ := h
    simp only [List.cons_append, ECs]
    exact ⟨x, y ++ b, by simp, h1, sM h3 h2⟩
theorem aIU (X : Cx) {l : Lst} (i : Nat) (h : l.plain = true) : EC X (l.nth i) (l.cell i) := by
  cases l with
  | ints k xs => simp only [Lst.nth, Lst.cell, EC]
  | bools xs => simp only [Lst.nth, Lst.cell, EC]
  | strs xs => simp only [Lst.nth, Lst.cell, EC]
  | pends xs => exact ⟨[_], [_, _], rfl, rfl, [_], [_], rfl, rfl, [_], [], rfl, rfl, rfl⟩
  | mics xs => exact ⟨[_], [_, _], rfl, rfl, [_], [_], rfl, rfl, [_], [], rfl, rfl, rfl⟩
  | recs xs => exact ⟨[_], [_, _, _], rfl, rfl, [_], [_, _], rfl, rfl, [_], [_], rfl, rfl, [_], [], rfl, rfl, rfl⟩
  | pairs xs => exact ⟨[_], [_], rfl, rfl, [_], [], rfl, rfl, rfl⟩
  | slots xs => exact ⟨[_], [_], rfl, rfl, [_], [], rfl, rfl, rfl⟩
  | fns xs =>
    show EC X (fnA (xs.getD i none)) [fnV (xs.getD i none)]
    cases xs.getD i none with
    | none => exact rfl
    | some f => exact ⟨⟨f, rfl⟩, rfl, rfl, rfl⟩
  | vals k xs => cases h
theorem pU (l : Lst) {i : Nat} (hi : i < l.len) : ∃ a r, l.flat = a ++ (l.cell i ++ r) ∧ a.length = i * l.kind.size := by
  refine ⟨l.flat.take (i * l.kind.size), l.flat.drop (i * l.kind.size + l.kind.size), ?_, ?_⟩
  · apply List.ext_getElem?
    intro j
    have hlen := l.flat_length
    have hle : i * l.kind.size + l.kind.size ≤ l.len * l.kind.size := by rw [← Nat.succ_mul]; exact Nat.mul_le_mul_right _ hi
    by_cases h1 : j < i * l.kind.size
    · rw [List.getElem?_append_left (by simp; omega), List.getElem?_take]; simp [h1]
    · rw [List.getElem?_append_right (by simp; omega)]
      have e1 : (l.flat.take (i * l.kind.size)).length = i * l.kind.size := by simp; omega
      rw [e1]
      by_cases h2 : j < i * l.kind.size + l.kind.size
      · rw [List.getElem?_append_left (by rw [Lst.cell_length]; omega)]
        have := l.flat_get hi (j := j - i * l.kind.size) (by omega)
        rw [← this]; congr 1; omega
      · rw [List.getElem?_append_right (by rw [Lst.cell_length]; omega), Lst.cell_length, List.getElem?_drop]
        congr 1; omega
  · have hlen := l.flat_length
    have hle : i * l.kind.size + l.kind.size ≤ l.len * l.kind.size := by rw [← Nat.succ_mul]; exact Nat.mul_le_mul_right _ hi
    simp; omega
theorem wX {X : Cx} {l : Lst} {cs : List Value} {i : Nat} (h : LR X l cs) (hi : i < l.len) :
    ∃ a u r, cs = a ++ (u ++ r) ∧ a.length = i * l.kind.size ∧ u.length = l.kind.size ∧ EC X (l.nth i) u ∧ (l.nth i).scalar = !l.kind.isAgg := by
  cases hp : l.plain with
  | true =>
    obtain ⟨a, r, h1, h2⟩ := pU l hi
    refine ⟨a, l.cell i, r, ((iY hp).1 h).trans h1, h2, l.cell_length i, aIU X i hp, ?_⟩
    cases l <;> first | rfl | skip
    · rename_i xs
      show (fnA (xs.getD i none)).scalar = true
      cases xs.getD i none <;> rfl
    · cases hp
  | false =>
    cases l <;> simp only [Lst.plain, Bool.true_eq_false] at hp
    rename_i k xs
    obtain ⟨h1, h2⟩ := jQ.1 h
    obtain ⟨a, b, rfl, h3, h4⟩ := uF i h2
    have hi : i < xs.length := hi
    rw [List.drop_eq_getElem_cons hi] at h4
    simp only [ECs] at h4
    obtain ⟨u, r, rfl, h5, h6⟩ := h4
    have e : (Lst.vals k xs).nth i = xs[i] := by simp [Lst.nth, List.getD, hi]
    refine ⟨a, u, r, rfl, ?_, ?_, by rw [e]; exact h5, by rw [e]; exact (h1 _ (List.getElem_mem hi)).2⟩
    · rw [vR h3, uE fun v hv => (h1 v (List.mem_of_mem_take hv)).1, List.length_take, Nat.min_eq_left (Nat.le_of_lt hi)]; rfl
    · rw [pT h5]; exact (h1 _ (List.getElem_mem hi)).1

/-! ### Sizes -/
mutual
theorem tN {X : Cx} : ∀ {v : AV} {cs : List Value}, VC X v cs → cs.length = v.size
  | .agg vs, cs, h => by simp only [VC] at h; simp only [AV.size]; exact aCS h
  | .arr l, cs, h => by simp only [VC] at h; simp only [AV.size]; exact jN h
  | .tup _, _, h => by simp only [VC] at h
  | .fn _ _ _, cs, h => by simp only [VC] at h; obtain ⟨a, d, rfl, _⟩ := h; rfl
  | .iface _ _, cs, h => by simp only [VC] at h; obtain ⟨u, rfl, _⟩ := h; rfl
  | .top, cs, h => by simp only [VC] at h; obtain ⟨c, rfl, _⟩ := h; rfl
  | .und, cs, h => by simp only [VC] at h
  | .int _ _, cs, h => by simp only [VC] at h; obtain ⟨c, rfl, _⟩ := h; rfl
  | .bool _, cs, h => by simp only [VC] at h; obtain ⟨c, rfl, _⟩ := h; rfl
  | .str _, cs, h => by simp only [VC] at h; obtain ⟨c, rfl, _⟩ := h; rfl
  | .sl _ _, cs, h => by simp only [VC] at h; obtain ⟨c, rfl, _⟩ := h; rfl
  | .sref _ _ _ _ _, cs, h => by simp only [VC] at h; obtain ⟨c, rfl, _⟩ := h; rfl
  | .ep _ _ _, cs, h => by simp only [VC] at h; obtain ⟨c, rfl, _⟩ := h; rfl
  | .nilp, cs, h => by simp only [VC] at h; obtain ⟨c, rfl, _⟩ := h; rfl
  | .ptr _ _, cs, h => by simp only [VC] at h; obtain ⟨c, rfl, _⟩ := h; rfl
  | .map _, cs, h => by simp only [VC] at h; obtain ⟨c, rfl, _⟩ := h; rfl
  | .nilfn, cs, h => by simp only [VC] at h; obtain ⟨c, rfl, _⟩ := h; rfl
  | .niliface, cs, h => by simp only [VC] at h; obtain ⟨c, rfl, _⟩ := h; rfl
theorem aCS {X : Cx} : ∀ {vs : List AV} {cs : List Value}, VCs X vs cs → cs.length = AV.sizes vs
  | [], cs, h => by simp only [VCs] at h; subst h; rfl
  | v :: r, cs, h => by
    simp only [VCs] at h
    obtain ⟨a, b, rfl, h1, h2⟩ := h
    simp only [AV.sizes, List.length_append, tN h1, aCS h2]
end

theorem aDn {X : Cx} {v : AV} {cs : List Value} (hs : v.scalar = true) (hsol : v.solid = true) : VC X v cs ↔ ∃ c, cs = [c] ∧ VV X v c := by
  cases v <;> simp only [AV.scalar, AV.solid, Bool.false_eq_true] at hs hsol <;> simp only [VC, VV]
  · constructor
    · rintro ⟨a, d, rfl, h⟩; exact ⟨_, rfl, a, d, rfl, h⟩
    · rintro ⟨c, rfl, a, d, rfl, h⟩; exact ⟨a, d, rfl, h⟩
  · constructor
    · rintro ⟨u, rfl, h⟩; exact ⟨_, rfl, u, rfl, h⟩
    · rintro ⟨c, rfl, u, rfl, h⟩; exact ⟨u, rfl, h⟩

theorem aKp {X : Cx} {v : AV} {c : Value} (h : VV X v c) (hsol : v.solid = true) (ha : v.scalar = true → ∀ cs, c ≠ .agg cs) : VC X v c.cells.toList := by
  by_cases hs : v.scalar = true
  · rw [aDn hs hsol]
    refine ⟨c, ?_, h⟩
    cases c <;> first | rfl | exact absurd rfl (ha hs _)
  · cases v <;> simp [AV.scalar] at hs
    · simp only [VV] at h; obtain ⟨cs, rfl, h⟩ := h; simpa [VC, Value.cells] using h
    · simp only [VV] at h; obtain ⟨cs, rfl, h⟩ := h; simpa [VC, Value.cells] using h
    · cases hsol

theorem aCT {X : Cx} {id : Nat} {p : List PS} {c : Value} (h : PtV X id p c) : ∃ o, c = .pointer (some o) := by
  unfold PtV at h
  split at h
  · obtain ⟨_, _, _, _, _, ho, _⟩ := h; exact ho
  · obtain ⟨b, _, rfl, _⟩ := h; exact ⟨_, rfl⟩

theorem aFY {X : Cx} {id : Nat} {p : List PS} (cs : Array Value) (h : PtV X id p (.agg cs)) : False := by
  obtain ⟨o, h⟩ := aCT h; cases h

theorem aHA {X : Cx} {v : AV} {c : Value} (h : VB X v c) (hv : v ≠ .top) (cs : Array Value) : c ≠ .agg cs := by
  rintro rfl
  cases v with
  | top => exact hv rfl
  | sl x l => obtain ⟨_, _, h, _⟩ := h; cases h
  | sref x id ver off len => obtain ⟨_, _, _, h, _⟩ := h; cases h
  | ep l i fs => obtain ⟨_, _, h, _⟩ := h; cases h
  | ptr id p => exact aFY cs h
  | map id => obtain ⟨_, _, h, _⟩ := h; cases h
  | _ => first | exact h.elim | cases h

theorem aAA {X : Cx} {v : AV} {c : Value} (hs : v.scalar = true) (h : VV X v c) (hv : v ≠ .top) (cs : Array Value) : c ≠ .agg cs := by
  cases v <;> simp only [AV.scalar, Bool.false_eq_true] at hs <;> simp only [VV] at h <;> first
    | exact aHA h hv cs
    | (obtain ⟨_, _, rfl, _⟩ := h; simp)
    | (obtain ⟨_, rfl, _⟩ := h; simp)

theorem aKq {X : Cx} {v : AV} {c : Value} (h : VV X v c) (hs : v.solid = true) : VC X v c.cells.toList :=
  aKp h hs fun hsc cs => aAA hsc h (by rintro rfl; cases hs) cs

theorem aBc {X : Cx} {v : AV} {cs : List Value} (h : VC X v cs) (hs : v.scalar = true) : ∃ c, cs = [c] ∧ VV X v c := by
  cases hsol : v.solid with
  | true => exact (aDn hs hsol).1 h
  | false =>
    cases v <;> simp only [AV.solid, Bool.true_eq_false] at hsol
    · simp only [VC] at h; obtain ⟨c, rfl, _⟩ := h; exact ⟨c, rfl, trivial⟩
    · simp only [VC] at h
    · cases hs

theorem aDo {X : Cx} {v : AV} {cs : Array Value} (h : VC X v cs.toList) (hs : v.scalar = false) : VV X v (.agg cs) := by
  cases v <;> simp only [AV.scalar, Bool.true_eq_false] at hs
  · simp only [VC] at h; exact ⟨cs, rfl, h⟩
  · simp only [VC] at h; exact ⟨cs, rfl, h⟩
  · simp only [VC] at h

def Ones (cs : List Value) : Prop := ∀ u ∈ cs, u.oneCell' = true
theorem Ones.append {a b : List Value} (h : Ones a) (k : Ones b) : Ones (a ++ b) := fun u hu => (List.mem_append.1 hu).elim (h u) (k u)
theorem Ones.one {c : Value} (h : c.oneCell' = true) : Ones [c] := fun u hu => by rw [List.mem_singleton.1 hu]; exact h

theorem aKr (o : Option FuncId) : (fnV o).oneCell' = true := by cases o <;> rfl
theorem aIV (l : Lst) (i : Nat) : Ones (l.cell i) := by
  cases l with
  | fns xs =>
    intro u hu
    rw [show (Lst.fns xs).cell i = [fnV (xs.getD i none)] from rfl, List.mem_singleton] at hu
    subst hu
    exact aKr _
  | vals k xs => intro u hu; simp only [Lst.cell, List.mem_replicate] at hu; rw [hu.2]; rfl
  | _ => intro u hu <;> simp [Lst.cell] at hu <;> (repeat' (rcases hu with rfl | hu)) <;> first | rfl | (subst hu; rfl)
theorem aIW (l : Lst) : Ones l.flat := fun u hu => by
  obtain ⟨i, _, hi⟩ := List.mem_flatMap.1 hu
  exact aIV l i u hi

mutual
theorem aLJ {X : Cx} : ∀ {v : AV} {cs : List Value}, EC X v cs → Ones cs
  | .int _ _, cs, h => by simp only [EC] at h; subst h; exact Ones.one rfl
  | .bool _, cs, h => by simp only [EC] at h; subst h; exact Ones.one rfl
  | .str _, cs, h => by simp only [EC] at h; subst h; exact Ones.one rfl
  | .nilfn, cs, h => by simp only [EC] at h; subst h; exact Ones.one rfl
  | .fn _ _ _, cs, h => by simp only [EC] at h; obtain ⟨_, _, _, rfl⟩ := h; exact Ones.one rfl
  | .agg vs, cs, h => by simp only [EC] at h; exact aBd h
  | .sl _ _, cs, h => by simp only [EC] at h; obtain ⟨_, _, _, _, rfl, _⟩ := h; exact Ones.one rfl
  | .top, _, h | .und, _, h | .arr _, _, h | .tup _, _, h | .sref _ _ _ _ _, _, h | .ep _ _ _, _, h | .nilp, _, h | .ptr _ _, _, h | .map _, _, h | .iface _ _, _, h | .niliface, _, h => by simp only [EC] at h
theorem aBd {X : Cx} : ∀ {vs : List AV} {cs : List Value}, ECs X vs cs → Ones cs
  | [], cs, h => by simp only [ECs] at h; subst h; exact fun u hu => by simp at hu
  | v :: r, cs, h => by
    simp only [ECs] at h
    obtain ⟨a, b, rfl, h1, h2⟩ := h
    exact (aLJ h1).append (aBd h2)
end
theorem aCU {X : Cx} {l : Lst} {cs : List Value} (h : LR X l cs) : Ones cs := by
  cases hp : l.plain with
  | true => rw [(iY hp).1 h]; exact aIW l
  | false =>
    cases l <;> simp only [Lst.plain, Bool.true_eq_false] at hp
    exact aBd (jQ.1 h).2

theorem kD {X : Cx} {v : AV} {c : Value} (h : VB X v c) (hs : v.solid = true) : c.oneCell' = true := by
  cases v with
  | top => cases hs
  | und => cases hs
  | sl x l => obtain ⟨_, _, rfl, _⟩ := h; rfl
  | sref x id ver off len => obtain ⟨_, _, _, rfl, _⟩ := h; rfl
  | ep l i fs => obtain ⟨_, _, rfl, _⟩ := h; rfl
  | ptr id p => obtain ⟨_, rfl⟩ := aCT h; rfl
  | map id => obtain ⟨_, _, rfl, _⟩ := h; rfl
  | int k n => rw [show c = _ from h]; rfl
  | bool b => rw [show c = _ from h]; rfl
  | str s => rw [show c = _ from h]; rfl
  | nilp => rw [show c = _ from h]; rfl
  | nilfn => rw [show c = _ from h]; rfl
  | niliface => rw [show c = _ from h]; rfl
  | _ => exact h.elim

mutual
theorem aGS {X : Cx} : ∀ {v : AV} {cs : List Value}, VC X v cs → Ones cs
  | .agg vs, cs, h => by simp only [VC] at h; exact aEQ h
  | .arr l, cs, h => by simp only [VC] at h; exact aCU h
  | .tup _, _, h => by simp only [VC] at h
  | .und, _, h => by simp only [VC] at h
  | .top, cs, h => by simp only [VC] at h; obtain ⟨c, rfl, h⟩ := h; exact Ones.one h
  | .fn _ _ _, cs, h => by simp only [VC] at h; obtain ⟨a, d, rfl, _⟩ := h; exact Ones.one rfl
  | .iface _ _, cs, h => by simp only [VC] at h; obtain ⟨u, rfl, _⟩ := h; exact Ones.one rfl
  | .int _ _, cs, h => by simp only [VC] at h; obtain ⟨c, rfl, h⟩ := h; exact Ones.one (kD h rfl)
  | .bool _, cs, h => by simp only [VC] at h; obtain ⟨c, rfl, h⟩ := h; exact Ones.one (kD h rfl)
  | .str _, cs, h => by simp only [VC] at h; obtain ⟨c, rfl, h⟩ := h; exact Ones.one (kD h rfl)
  | .sl _ _, cs, h => by simp only [VC] at h; obtain ⟨c, rfl, h⟩ := h; exact Ones.one (kD h rfl)
  | .sref _ _ _ _ _, cs, h => by simp only [VC] at h; obtain ⟨c, rfl, h⟩ := h; exact Ones.one (kD h rfl)
  | .ep _ _ _, cs, h => by simp only [VC] at h; obtain ⟨c, rfl, h⟩ := h; exact Ones.one (kD h rfl)
  | .nilp, cs, h => by simp only [VC] at h; obtain ⟨c, rfl, h⟩ := h; exact Ones.one (kD h rfl)
  | .ptr _ _, cs, h => by simp only [VC] at h; obtain ⟨c, rfl, h⟩ := h; exact Ones.one (kD h rfl)
  | .map _, cs, h => by simp only [VC] at h; obtain ⟨c, rfl, h⟩ := h; exact Ones.one (kD h rfl)
  | .nilfn, cs, h => by simp only [VC] at h; obtain ⟨c, rfl, h⟩ := h; exact Ones.one (kD h rfl)
  | .niliface, cs, h => by simp only [VC] at h; obtain ⟨c, rfl, h⟩ := h; exact Ones.one (kD h rfl)
theorem aEQ {X : Cx} : ∀ {vs : List AV} {cs : List Value}, VCs X vs cs → Ones cs
  | [], cs, h => by simp only [VCs] at h; subst h; exact fun u hu => by simp at hu
  | v :: r, cs, h => by
    simp only [VCs] at h
    obtain ⟨a, b, rfl, h1, h2⟩ := h
    exact (aGS h1).append (aEQ h2)
end

mutual
theorem aAj {X : Cx} : ∀ {v : AV} {cs : List Value}, EC X v cs → VC X v cs
  | .int _ _, cs, h => by simp only [EC] at h; exact ⟨_, h, rfl⟩
  | .bool _, cs, h => by simp only [EC] at h; exact ⟨_, h, rfl⟩
  | .str _, cs, h => by simp only [EC] at h; exact ⟨_, h, rfl⟩
  | .nilfn, cs, h => by simp only [EC] at h; exact ⟨_, h, rfl⟩
  | .fn _ _ _, cs, h => by simp only [EC] at h; obtain ⟨_, rfl, rfl, rfl⟩ := h; exact ⟨#[], #[], rfl, rfl, rfl⟩
  | .agg vs, cs, h => by simp only [EC] at h; simp only [VC]; exact aGT h
  | .sl _ _, cs, h => by
    simp only [EC] at h
    obtain ⟨rfl, a, cap, ds, rfl, h1, h2, h3, h4⟩ := h
    exact ⟨_, rfl, a, cap, rfl, h1, fun e => (by cases e), h2, fun hn => by obtain ⟨ad, p, q, r, t⟩ := h4 hn; exact ⟨ad, p, q, r, ds, h3, t⟩⟩
  | .top, _, h | .und, _, h | .arr _, _, h | .tup _, _, h | .sref _ _ _ _ _, _, h | .ep _ _ _, _, h | .nilp, _, h | .ptr _ _, _, h | .map _, _, h | .iface _ _, _, h | .niliface, _, h => by simp only [EC] at h
theorem aGT {X : Cx} : ∀ {vs : List AV} {cs : List Value}, ECs X vs cs → VCs X vs cs
  | [], cs, h => by simpa only [ECs, VCs] using h
  | v :: r, cs, h => by
    simp only [ECs] at h
    obtain ⟨a, b, rfl, h1, h2⟩ := h
    simp only [VCs]
    exact ⟨a, b, rfl, aAj h1, aGT h2⟩
end
theorem rP (X : Cx) {l : Lst} (h : l.len = 0) : LR X l [] := by
  cases l with
  | vals k xs =>
    have h : xs.length = 0 := h
    obtain rfl := List.length_eq_zero_iff.1 h
    refine jQ.2 ⟨fun _ hv => ?_, ?_⟩
    · cases hv
    · simp only [ECs]
  | _ => refine uD rfl ?_; unfold Lst.flat; rw [h]; rfl
mutual
theorem aHB {X : Cx} : ∀ {v : AV} {cs : List Value}, v.elem = true → VC X v cs → EC X v cs
  | .int _ _, cs, _, h => by simp only [VC] at h; obtain ⟨c, rfl, h⟩ := h; rw [show c = _ from h]; simp only [EC]
  | .bool _, cs, _, h => by simp only [VC] at h; obtain ⟨c, rfl, h⟩ := h; rw [show c = _ from h]; simp only [EC]
  | .str _, cs, _, h => by simp only [VC] at h; obtain ⟨c, rfl, h⟩ := h; rw [show c = _ from h]; simp only [EC]
  | .nilfn, cs, _, h => by simp only [VC] at h; obtain ⟨c, rfl, h⟩ := h; rw [show c = _ from h]; simp only [EC]
  | .fn f first cap, cs, he, h => by
    simp only [VC] at h
    obtain ⟨a, d, rfl, h1, h2⟩ := h
    cases f <;> simp only [AV.elem, Bool.and_eq_true, List.isEmpty_iff, Bool.false_eq_true] at he
    obtain ⟨rfl, rfl⟩ := he
    simp only [VVs] at h1 h2
    simp only [EC]
    refine ⟨⟨_, rfl⟩, trivial, trivial, ?_⟩
    rw [Array.toList_eq_nil_iff.1 h1, Array.toList_eq_nil_iff.1 h2]
  | .agg vs, cs, he, h => by simp only [VC] at h; simp only [AV.elem] at he; simp only [EC]; exact aGU he h
  | .sl x l, cs, he, h => by
    simp only [VC] at h
    obtain ⟨c, rfl, a, cap, rfl, h1, _, h2, h3⟩ := h
    simp only [AV.elem, Bool.not_eq_true'] at he
    simp only [EC]
    by_cases hn : l.len = 0
    · exact ⟨he, a, cap, [], rfl, h1, h2, rP X hn, fun h => absurd hn h⟩
    · obtain ⟨ad, p, q, r, ds, h4, t⟩ := h3 hn
      exact ⟨he, a, cap, ds, rfl, h1, h2, h4, fun _ => ⟨ad, p, q, r, t⟩⟩
  | .top, _, he, _ | .und, _, he, _ | .arr _, _, he, _ | .tup _, _, he, _ | .sref _ _ _ _ _, _, he, _ | .ep _ _ _, _, he, _ | .nilp, _, he, _ | .ptr _ _, _, he, _ | .map _, _, he, _ | .iface _ _, _, he, _ | .niliface, _, he, _ => by cases he
theorem aGU {X : Cx} : ∀ {vs : List AV} {cs : List Value}, AV.elems vs = true → VCs X vs cs → ECs X vs cs
  | [], cs, _, h => by simpa only [ECs, VCs] using h
  | v :: r, cs, he, h => by
    simp only [VCs] at h
    simp only [AV.elems, Bool.and_eq_true] at he
    obtain ⟨a, b, rfl, h1, h2⟩ := h
    simp only [ECs]
    exact ⟨a, b, rfl, aHB he.1 h1, aGU he.2 h2⟩
end
-- no more told of capacities
mutual
theorem aGV {X : Cx} : ∀ {v : AV} {cs : List Value}, VC X v cs → VC X v.dull cs
  | .sl x l, cs, h => by
    simp only [VC] at h
    obtain ⟨c, rfl, a, cap, rfl, h1, _, h2, h3⟩ := h
    exact ⟨_, rfl, a, cap, rfl, h1, fun e => (by cases e), h2, h3⟩
  | .agg vs, cs, h => by simp only [VC] at h; simp only [AV.dull, VC]; exact aER h
  | .int _ _, _, h | .bool _, _, h | .str _, _, h | .nilfn, _, h | .fn _ _ _, _, h | .top, _, h | .und, _, h | .arr _, _, h | .tup _, _, h | .sref _ _ _ _ _, _, h | .ep _ _ _, _, h | .nilp, _, h | .ptr _ _, _, h | .map _, _, h | .iface _ _, _, h | .niliface, _, h => h
theorem aER {X : Cx} : ∀ {vs : List AV} {cs : List Value}, VCs X vs cs → VCs X (AV.dulls vs) cs
  | [], cs, h => h
  | v :: r, cs, h => by
    simp only [VCs] at h
    obtain ⟨a, b, rfl, h1, h2⟩ := h
    simp only [AV.dulls, VCs]
    exact ⟨a, b, rfl, aGV h1, aER h2⟩
end

/-! ### sP -/
theorem aDp {X : Cx} : ∀ {vs : List AV} {cs : List Value} (k : Nat), VCs X vs cs → ∃ a b, cs = a ++ b ∧ VCs X (vs.take k) a ∧ VCs X (vs.drop k) b
  | vs, cs, 0, h => ⟨[], cs, rfl, by simp [VCs], by simpa using h⟩
  | [], cs, k + 1, h => ⟨cs, [], by simp, by simpa using h, by simp [VCs]⟩
  | v :: r, cs, k + 1, h => by
    simp only [VCs] at h
    obtain ⟨a, b, rfl, h1, h2⟩ := h
    obtain ⟨a2, b2, rfl, h3, h4⟩ := aDp k h2
    exact ⟨a ++ a2, b2, by simp, by simp only [List.take_succ_cons, VCs]; exact ⟨a, a2, rfl, h1, h3⟩, by simpa using h4⟩

theorem aBM {X : Cx} : ∀ {vs us : List AV} {a b : List Value}, VCs X vs a → VCs X us b → VCs X (vs ++ us) (a ++ b)
  | [], _, _, _, h, h2 => by simp only [VCs] at h; subst h; simpa using h2
  | v :: r, us, a, b, h, h2 => by
    simp only [VCs] at h
    obtain ⟨x, y, rfl, h1, h3⟩ := h
    simp only [List.cons_append, VCs]
    exact ⟨x, y ++ b, by simp, h1, aBM h3 h2⟩

theorem aBN {X : Cx} {vs : List AV} {cs : List Value} {k : Nat} {v : AV} (h : VCs X vs cs) (hk : vs[k]? = some v) :
    ∃ a u b, cs = a ++ (u ++ b) ∧ a.length = AV.sizes (vs.take k) ∧ VC X v u ∧ VCs X (vs.take k) a ∧ VCs X (vs.drop (k + 1)) b := by
  obtain ⟨a, r, rfl, h1, h2⟩ := aDp k h
  have hd : vs.drop k = v :: vs.drop (k + 1) := by
    obtain ⟨hlt, rfl⟩ := List.getElem?_eq_some_iff.1 hk
    exact List.drop_eq_getElem_cons hlt
  rw [hd] at h2
  simp only [VCs] at h2
  obtain ⟨u, b, rfl, h3, h4⟩ := h2
  exact ⟨a, u, b, rfl, aCS h1, h3, h1, h4⟩

theorem aGW {X : Cx} {vs : List AV} {k : Nat} {v : AV} {a u b : List Value} (hk : k < vs.length) (h1 : VCs X (vs.take k) a) (h2 : VC X v u) (h3 : VCs X (vs.drop (k + 1)) b) :
    VCs X (vs.set k v) (a ++ (u ++ b)) := by
  rw [List.set_eq_take_append_cons_drop, if_pos hk]
  refine aBM h1 ?_
  simp only [VCs]
  exact ⟨u, b, rfl, h2, h3⟩

theorem aEy {X : Cx} : ∀ {p : List PS} {v u : AV} {cs : List Value}, VC X v cs → v.at_ p = some u → ∃ a us b, cs = a ++ (us ++ b) ∧ a.length = offs p ∧ VC X u us
  | [], v, u, cs, h, hp => by
    have : v.at_ [] = some v := by cases v <;> rfl
    rw [this] at hp; obtain rfl := Option.some.inj hp
    exact ⟨[], cs, [], by simp, rfl, h⟩
  | .f k off :: p, .agg vs, u, cs, h, hp => by
    simp only [VC] at h
    simp only [AV.at_] at hp
    split at hp
    · rename_i ho
      cases hv : vs[k]? with
      | none => simp [hv] at hp
      | some v =>
        simp only [hv, Option.bind_some] at hp
        obtain ⟨a, us, b, rfl, ha, h1, _, _⟩ := aBN h hv
        obtain ⟨a2, us2, b2, rfl, ha2, h2⟩ := aEy h1 hp
        exact ⟨a ++ a2, us2, b2 ++ b, by simp, by simp [ha, ha2, offs, ho], h2⟩
    · cases hp
  | .f _ _ :: _, .top, _, _, _, hp | .f _ _ :: _, .und, _, _, _, hp | .f _ _ :: _, .int _ _, _, _, _, hp | .f _ _ :: _, .bool _, _, _, _, hp | .f _ _ :: _, .str _, _, _, _, hp
  | .f _ _ :: _, .arr _, _, _, _, hp | .f _ _ :: _, .tup _, _, _, _, hp | .f _ _ :: _, .sl _ _, _, _, _, hp | .f _ _ :: _, .sref _ _ _ _ _, _, _, _, hp | .f _ _ :: _, .ep _ _ _, _, _, _, hp
  | .f _ _ :: _, .nilp, _, _, _, hp | .f _ _ :: _, .ptr _ _, _, _, _, hp | .f _ _ :: _, .map _, _, _, _, hp | .f _ _ :: _, .fn _ _ _, _, _, _, hp | .f _ _ :: _, .nilfn, _, _, _, hp
  | .f _ _ :: _, .iface _ _, _, _, _, hp | .f _ _ :: _, .niliface, _, _, _, hp => by cases hp
  | .i _ _ _ :: _, v, _, _, _, hp => by cases v <;> cases hp

theorem aES {X : Cx} : ∀ {p : List PS} {v v' u : AV} {cs us' : List Value}, VC X v cs → v.setAt p u = some v' → VC X u us' →
    ∃ a us b, cs = a ++ (us ++ b) ∧ a.length = offs p ∧ us.length = us'.length ∧ VC X v' (a ++ (us' ++ b))
  | [], v, v', u, cs, us', h, hp, hu => by
    have : v.setAt [] u = if v.size = u.size then some u else none := by cases v <;> rfl
    rw [this] at hp
    split at hp
    · rename_i hs
      obtain rfl := Option.some.inj hp
      exact ⟨[], cs, [], by simp, rfl, by rw [tN h, tN hu, hs], by simpa using hu⟩
    · cases hp
  | .f k off :: p, .agg vs, v', u, cs, us', h, hp, hu => by
    simp only [VC] at h
    simp only [AV.setAt] at hp
    split at hp
    · rename_i ho
      cases hv : vs[k]? with
      | none => simp [hv] at hp
      | some v =>
        simp only [hv, Option.bind_some] at hp
        cases hw : v.setAt p u with
        | none => simp [hw] at hp
        | some w =>
          simp only [hw, Option.map_some, Option.some.injEq] at hp
          subst hp
          obtain ⟨a, us, b, rfl, ha, h1, h2, h3⟩ := aBN h hv
          obtain ⟨a2, us2, b2, rfl, ha2, hl, h4⟩ := aES h1 hw hu
          refine ⟨a ++ a2, us2, b2 ++ b, by simp, by simp [ha, ha2, offs, ho], hl, ?_⟩
          have hk : k < vs.length := (List.getElem?_eq_some_iff.1 hv).1
          have := aGW hk h2 h4 h3
          simp only [VC]
          simpa using this
    · cases hp
  | .f _ _ :: _, .top, _, _, _, _, _, hp, _ | .f _ _ :: _, .und, _, _, _, _, _, hp, _ | .f _ _ :: _, .int _ _, _, _, _, _, _, hp, _ | .f _ _ :: _, .bool _, _, _, _, _, _, hp, _ | .f _ _ :: _, .str _, _, _, _, _, _, hp, _
  | .f _ _ :: _, .arr _, _, _, _, _, _, hp, _ | .f _ _ :: _, .tup _, _, _, _, _, _, hp, _ | .f _ _ :: _, .sl _ _, _, _, _, _, _, hp, _ | .f _ _ :: _, .sref _ _ _ _ _, _, _, _, _, _, hp, _ | .f _ _ :: _, .ep _ _ _, _, _, _, _, _, hp, _
  | .f _ _ :: _, .nilp, _, _, _, _, _, hp, _ | .f _ _ :: _, .ptr _ _, _, _, _, _, _, hp, _ | .f _ _ :: _, .map _, _, _, _, _, _, hp, _ | .f _ _ :: _, .fn _ _ _, _, _, _, _, _, hp, _ | .f _ _ :: _, .nilfn, _, _, _, _, _, hp, _
  | .f _ _ :: _, .iface _ _, _, _, _, _, _, hp, _ | .f _ _ :: _, .niliface, _, _, _, _, _, hp, _ => by cases hp
  | .i _ _ _ :: _, v, _, _, _, _, _, hp, _ => by cases v <;> cases hp


/-! ### What keeps the relation -/
def jI (w w' : World) : Prop := w'.os = w.os ∧ w'.tape = w.tape ∧ w'.output = w.output
theorem jI.refl (w : World) : jI w w := ⟨rfl, rfl, rfl⟩
theorem jI.trans {a b c : World} (h : jI a b) (k : jI b c) : jI a c := ⟨k.1.trans h.1, k.2.1.trans h.2.1, k.2.2.trans h.2.2⟩
def yM (w w' : World) (o : Obj) : Prop := w'.heap = w.heap.push o ∧ jI w w'

structure Ext (X Y : Cx) : Prop where
  S : ∀ b, X.S b → Y.S b
  cells : ∀ b, X.S b → Y.w.heap[b]? = X.w.heap[b]?
  new : ∀ b, Y.S b → X.S b ∨ (∃ i : Nat, X.μ[i]? = some (some b)) ∨ X.w.heap.size ≤ b
  muinv : ∀ (i b : Nat), Y.μ[i]? = some (some b) → (X.μ[i]? = some (some b)) ∨ X.w.heap.size ≤ b
  keep : ∀ b, b < X.w.heap.size → (∀ i : Nat, X.μ[i]? ≠ some (some b)) → Y.w.heap[b]? = X.w.heap[b]?
  grow : X.w.heap.size ≤ Y.w.heap.size
  row : ∀ (i : Nat) (k : RK) (ver : Nat) (l : Lst), rowO (X.h[i]?) = some (k, ver, l) → ∃ k' ver' l', rowO (Y.h[i]?) = some (k', ver', l') ∧ ver ≤ ver' ∧
    (ver = ver' → l'.len = l.len ∧ l'.kind = l.kind ∧ ∀ b, X.μ[i]? = some (some b) → Y.μ[i]? = some (some b) ∧ dZ X.w b ≤ dZ Y.w b) ∧ (k ≠ .own → k' ≠ .own ∧ ver = ver')
  oth : ∀ (i b : Nat), rowO (X.h[i]?) = none → X.μ[i]? = some (some b) → Y.μ[i]? = some (some b) ∧ rowO (Y.h[i]?) = none
  env : jI X.w Y.w

structure ExtV (X Y : Cx) : Prop where
  S : ∀ b, X.S b → Y.S b
  cells : ∀ b, X.S b → Y.w.heap[b]? = X.w.heap[b]?
  row : ∀ (i : Nat) (k : RK) (ver : Nat) (l : Lst), rowO (X.h[i]?) = some (k, ver, l) → ∃ k' ver' l', rowO (Y.h[i]?) = some (k', ver', l') ∧ ver ≤ ver' ∧
    (ver = ver' → l'.len = l.len ∧ l'.kind = l.kind ∧ ∀ b, X.μ[i]? = some (some b) → Y.μ[i]? = some (some b) ∧ dZ X.w b ≤ dZ Y.w b) ∧ (k ≠ .own → k' ≠ .own ∧ ver = ver')
  oth : ∀ (i b : Nat), rowO (X.h[i]?) = none → X.μ[i]? = some (some b) → Y.μ[i]? = some (some b) ∧ rowO (Y.h[i]?) = none

theorem Ext.v {X Y : Cx} (E : Ext X Y) : ExtV X Y := ⟨E.S, E.cells, E.row, E.oth⟩

theorem Ext.refl (X : Cx) : Ext X X where
  S _ h := h
  cells _ _ := rfl
  new _ h := .inl h
  muinv _ _ h := .inl h
  keep _ _ _ := rfl
  grow := Nat.le_refl _
  row _ k ver l h := ⟨k, ver, l, h, Nat.le_refl _, fun _ => ⟨rfl, rfl, fun _ h => ⟨h, Nat.le_refl _⟩⟩, fun h => ⟨h, rfl⟩⟩
  oth _ _ h k := ⟨k, h⟩
  env := jI.refl _

theorem Ext.trans {X Y Z : Cx} (h : Ext X Y) (k : Ext Y Z) : Ext X Z where
  S b hb := k.S b (h.S b hb)
  cells b hb := (k.cells b (h.S b hb)).trans (h.cells b hb)
  new b hb := by
    rcases k.new b hb with h1 | ⟨i, h1⟩ | h1
    · exact h.new b h1
    · rcases h.muinv i b h1 with h2 | h2
      · exact .inr (.inl ⟨i, h2⟩)
      · exact .inr (.inr h2)
    · exact .inr (.inr (Nat.le_trans h.grow h1))
  muinv i b hb := by
    rcases k.muinv i b hb with h1 | h1
    · exact h.muinv i b h1
    · exact .inr (Nat.le_trans h.grow h1)
  keep b hb hn := by
    have h1 := h.keep b hb hn
    rw [← h1]
    refine k.keep b (Nat.lt_of_lt_of_le hb h.grow) fun i hi => ?_
    rcases h.muinv i b hi with h2 | h2
    · exact hn i h2
    · omega
  grow := Nat.le_trans h.grow k.grow
  row i r ver l hl := by
    obtain ⟨r1, v1, l1, h1, le1, e1, o1⟩ := h.row i r ver l hl
    obtain ⟨r2, v2, l2, h2, le2, e2, o2⟩ := k.row i r1 v1 l1 h1
    refine ⟨r2, v2, l2, h2, Nat.le_trans le1 le2, fun e => ?_, fun hr => ?_⟩
    · have a := e1 (by omega)
      have b := e2 (by omega)
      refine ⟨b.1.trans a.1, b.2.1.trans a.2.1, fun x hx => ?_⟩
      have c := a.2.2 x hx
      have d := b.2.2 x c.1
      exact ⟨d.1, Nat.le_trans c.2 d.2⟩
    · have a := o1 hr
      have b := o2 a.1
      exact ⟨b.1, a.2.trans b.2⟩
  oth i b hn hb := by
    have a := h.oth i b hn hb
    exact k.oth i b a.2 a.1
  env := h.env.trans k.env

theorem ExtV.trans {X Y Z : Cx} (h : ExtV X Y) (k : ExtV Y Z) : ExtV X Z where
  S b hb := k.S b (h.S b hb)
  cells b hb := (k.cells b (h.S b hb)).trans (h.cells b hb)
  row i r ver l hl := by
    obtain ⟨r', ver', l', a1, a2, a3, a4⟩ := h.row i r ver l hl
    obtain ⟨r'', ver'', l'', b1, b2, b3, b4⟩ := k.row i r' ver' l' a1
    refine ⟨r'', ver'', l'', b1, Nat.le_trans a2 b2, fun e => ?_, fun hr => ?_⟩
    · have e1 : ver = ver' := by omega
      have e2 : ver' = ver'' := by omega
      obtain ⟨p1, p2, p3⟩ := a3 e1
      obtain ⟨q1, q2, q3⟩ := b3 e2
      refine ⟨q1.trans p1, q2.trans p2, fun b hb => ?_⟩
      obtain ⟨x1, x2⟩ := p3 b hb
      obtain ⟨y1, y2⟩ := q3 b x1
      exact ⟨y1, Nat.le_trans x2 y2⟩
    · obtain ⟨p1, p2⟩ := a4 hr
      obtain ⟨q1, q2⟩ := b4 p1
      exact ⟨q1, p2.trans q2⟩
  oth i b h1 h2 := by
    obtain ⟨a1, a2⟩ := h.oth i b h1 h2
    exact k.oth i b a2 a1

theorem kC.of_heap {w w' : World} {b off : Nat} {cs : List Value} (h : kC w b off cs) (e : w'.heap[b]? = w.heap[b]?) : kC w' b off cs := by
  intro j v hj
  have := h j v hj
  unfold World.cell? at *
  simp only [e]
  exact this

mutual
theorem EC.tr {X Y : Cx} (hS : ∀ b, X.S b → Y.S b) (hw : ∀ b, X.S b → Y.w.heap[b]? = X.w.heap[b]?) : ∀ {v : AV} {cs : List Value}, EC X v cs → EC Y v cs
  | .int _ _, cs, h => by simpa only [EC] using h
  | .bool _, cs, h => by simpa only [EC] using h
  | .str _, cs, h => by simpa only [EC] using h
  | .nilfn, cs, h => by simpa only [EC] using h
  | .fn _ _ _, cs, h => by simpa only [EC] using h
  | .agg vs, cs, h => by simp only [EC] at h ⊢; exact ECs.tr hS hw h
  | .sl _ _, cs, h => by
    simp only [EC] at h ⊢
    obtain ⟨e, a, cap, ds, rfl, h1, h2, h3, h4⟩ := h
    exact ⟨e, a, cap, ds, rfl, h1, h2, LR.tr hS hw h3, fun hn => by obtain ⟨ad, p, q, r, t⟩ := h4 hn; exact ⟨ad, p, q, hS _ r, t.of_heap (hw _ r)⟩⟩
  | .top, _, h | .und, _, h | .arr _, _, h | .tup _, _, h | .sref _ _ _ _ _, _, h | .ep _ _ _, _, h | .nilp, _, h | .ptr _ _, _, h | .map _, _, h | .iface _ _, _, h | .niliface, _, h => by simp only [EC] at h
theorem ECs.tr {X Y : Cx} (hS : ∀ b, X.S b → Y.S b) (hw : ∀ b, X.S b → Y.w.heap[b]? = X.w.heap[b]?) : ∀ {vs : List AV} {cs : List Value}, ECs X vs cs → ECs Y vs cs
  | [], cs, h => by simpa only [ECs] using h
  | v :: r, cs, h => by
    simp only [ECs] at h ⊢
    obtain ⟨a, b, rfl, h1, h2⟩ := h
    exact ⟨a, b, rfl, EC.tr hS hw h1, ECs.tr hS hw h2⟩
theorem LR.tr {X Y : Cx} (hS : ∀ b, X.S b → Y.S b) (hw : ∀ b, X.S b → Y.w.heap[b]? = X.w.heap[b]?) : ∀ {l : Lst} {cs : List Value}, LR X l cs → LR Y l cs
  | .vals k xs, cs, h => by simp only [LR] at h ⊢; exact ⟨h.1, ECs.tr hS hw h.2⟩
  | .ints _ _, cs, h | .bools _, cs, h | .strs _, cs, h | .pends _, cs, h | .mics _, cs, h | .recs _, cs, h | .pairs _, cs, h | .slots _, cs, h | .fns _, cs, h => h
end
theorem LR.ext {X Y : Cx} (E : ExtV X Y) {l : Lst} {cs : List Value} (h : LR X l cs) : LR Y l cs := LR.tr E.S E.cells h

theorem PtV.extV {X Y : Cx} (E : ExtV X Y) {id : Nat} {p : List PS} {c : Value} (h : PtV X id p c) : PtV Y id p c := by
  have base : ∀ q : List PS, (∃ b, X.μ[id]? = some (some b) ∧ c = .pointer (some ⟨b, offs q, none⟩) ∧ ∀ k ver l, rowO (X.h[id]?) = some (k, ver, l) → k ≠ .own) →
      (∃ b, Y.μ[id]? = some (some b) ∧ c = .pointer (some ⟨b, offs q, none⟩) ∧ ∀ k ver l, rowO (Y.h[id]?) = some (k, ver, l) → k ≠ .own) := by
    rintro q ⟨b, hb, rfl, hk⟩
    cases hr : rowO (X.h[id]?) with
    | none =>
      have := E.oth _ _ hr hb
      exact ⟨b, this.1, rfl, fun k ver l h => by rw [this.2] at h; cases h⟩
    | some r =>
      obtain ⟨k, ver, l⟩ := r
      obtain ⟨k2, v2, l2, hl2, hle2, e2, e3⟩ := E.row id k ver l hr
      have h3 := e3 (hk _ _ _ hr)
      have h4 := e2 h3.2
      exact ⟨b, (h4.2.2 b hb).1, rfl, fun k ver l h => by rw [hl2] at h; cases h; exact h3.1⟩
  cases p with
  | nil => exact base [] h
  | cons x r => cases x with
    | f i o => exact base _ h
    | i ver i sz =>
      obtain ⟨k, ver', l, hl, hle, ho, h1⟩ := h
      obtain ⟨k2, v2, l2, hl2, hle2, e2, _⟩ := E.row id k ver' l hl
      refine ⟨k2, v2, l2, hl2, Nat.le_trans hle hle2, ho, fun e => ?_⟩
      obtain ⟨b, hb, hc⟩ := h1 (by omega)
      exact ⟨b, ((e2 (by omega)).2.2 b hb).1, hc⟩

theorem VB.extV {X Y : Cx} (E : ExtV X Y) : ∀ {v : AV} {c : Value}, VB X v c → VB Y v c := by
  intro v c h
  cases v with
  | sl x l =>
    obtain ⟨a, cap, rfl, h1, h2, h3, h4⟩ := h
    refine ⟨a, cap, rfl, h1, h2, h3, fun hl => ?_⟩
    obtain ⟨ad, rfl, hs, hS, cs, hq, hr⟩ := h4 hl
    exact ⟨ad, rfl, hs, E.S _ hS, cs, LR.ext E hq, hr.of_heap (E.cells _ hS)⟩
  | sref x id ver off len =>
    obtain ⟨a, n, cap, rfl, k, ver', l, hl, hle, h1⟩ := h
    obtain ⟨k2, v2, l2, hl2, hle2, e2, _⟩ := E.row id k ver' l hl
    refine ⟨a, n, cap, rfl, k2, v2, l2, hl2, Nat.le_trans hle hle2, fun e => ?_⟩
    have e1 : ver = ver' := by omega
    obtain ⟨h2, h3, h4, h5, h6, h7⟩ := h1 e1
    obtain ⟨el, ek, em⟩ := e2 (by omega)
    refine ⟨h2, h3, by rw [el]; exact h4, h5, h6, fun hc => ?_⟩
    obtain ⟨b, hb, ha, hz⟩ := h7 hc
    obtain ⟨hb', hz'⟩ := em b hb
    exact ⟨b, hb', by rw [ek]; exact ha, by rw [ek]; exact Nat.le_trans hz hz'⟩
  | ep l i fs =>
    obtain ⟨b, o, rfl, hi, hS, us, hq, hr⟩ := h
    exact ⟨b, o, rfl, hi, E.S _ hS, us, EC.tr E.S E.cells hq, hr.of_heap (E.cells _ hS)⟩
  | ptr id p => exact PtV.extV E h
  | map id => obtain ⟨b, hb, rfl, hn⟩ := h; have := E.oth _ _ hn hb; exact ⟨b, this.1, rfl, this.2⟩
  | _ => exact h

mutual
theorem VV.extV {X Y : Cx} (E : ExtV X Y) : ∀ {v : AV} {c : Value}, VV X v c → VV Y v c
  | .agg vs, c, h => by simp only [VV] at *; obtain ⟨cs, rfl, h⟩ := h; exact ⟨cs, rfl, VCs.extV E h⟩
  | .arr l, c, h => by simp only [VV] at *; obtain ⟨cs, rfl, h⟩ := h; exact ⟨cs, rfl, LR.ext E h⟩
  | .tup vs, c, h => by simp only [VV] at *; obtain ⟨cs, rfl, h⟩ := h; exact ⟨cs, rfl, VVs.extV E h⟩
  | .fn _ _ _, c, h => by simp only [VV] at *; obtain ⟨a, d, rfl, h1, h2⟩ := h; exact ⟨a, d, rfl, VVs.extV E h1, VVs.extV E h2⟩
  | .iface _ _, c, h => by simp only [VV] at *; obtain ⟨u, rfl, h⟩ := h; exact ⟨u, rfl, VV.extV E h⟩
  | .top, c, h => VB.extV E (v := .top) h
  | .und, c, h => VB.extV E (v := .und) h
  | .int _ _, c, h => VB.extV E (v := .int _ _) h
  | .bool _, c, h => VB.extV E (v := .bool _) h
  | .str _, c, h => VB.extV E (v := .str _) h
  | .sl _ _, c, h => VB.extV E (v := .sl _ _) h
  | .sref _ _ _ _ _, c, h => VB.extV E (v := .sref _ _ _ _ _) h
  | .ep _ _ _, c, h => VB.extV E (v := .ep _ _ _) h
  | .nilp, c, h => VB.extV E (v := .nilp) h
  | .ptr _ _, c, h => VB.extV E (v := .ptr _ _) h
  | .map _, c, h => VB.extV E (v := .map _) h
  | .nilfn, c, h => VB.extV E (v := .nilfn) h
  | .niliface, c, h => VB.extV E (v := .niliface) h
theorem VVs.extV {X Y : Cx} (E : ExtV X Y) : ∀ {vs : List AV} {cs : List Value}, VVs X vs cs → VVs Y vs cs
  | [], cs, h => by simp only [VVs] at *; exact h
  | v :: r, cs, h => by simp only [VVs] at *; obtain ⟨c, d, rfl, h1, h2⟩ := h; exact ⟨c, d, rfl, VV.extV E h1, VVs.extV E h2⟩
theorem VC.extV {X Y : Cx} (E : ExtV X Y) : ∀ {v : AV} {cs : List Value}, VC X v cs → VC Y v cs
  | .agg vs, c, h => by simp only [VC] at *; exact VCs.extV E h
  | .arr l, c, h => by simp only [VC] at *; exact LR.ext E h
  | .tup vs, c, h => by simp only [VC] at h
  | .fn _ _ _, c, h => by simp only [VC] at *; obtain ⟨a, d, rfl, h1, h2⟩ := h; exact ⟨a, d, rfl, VVs.extV E h1, VVs.extV E h2⟩
  | .iface _ _, c, h => by simp only [VC] at *; obtain ⟨u, rfl, h⟩ := h; exact ⟨u, rfl, VV.extV E h⟩
  | .top, c, h => by simp only [VC] at *; exact h
  | .und, c, h => by simp only [VC] at h
  | .int _ _, c, h => by simp only [VC] at *; obtain ⟨c, rfl, h⟩ := h; exact ⟨c, rfl, VB.extV E h⟩
  | .bool _, c, h => by simp only [VC] at *; obtain ⟨c, rfl, h⟩ := h; exact ⟨c, rfl, VB.extV E h⟩
  | .str _, c, h => by simp only [VC] at *; obtain ⟨c, rfl, h⟩ := h; exact ⟨c, rfl, VB.extV E h⟩
  | .sl _ _, c, h => by simp only [VC] at *; obtain ⟨c, rfl, h⟩ := h; exact ⟨c, rfl, VB.extV E h⟩
  | .sref _ _ _ _ _, c, h => by simp only [VC] at *; obtain ⟨c, rfl, h⟩ := h; exact ⟨c, rfl, VB.extV E h⟩
  | .ep _ _ _, c, h => by simp only [VC] at *; obtain ⟨c, rfl, h⟩ := h; exact ⟨c, rfl, VB.extV E h⟩
  | .nilp, c, h => by simp only [VC] at *; obtain ⟨c, rfl, h⟩ := h; exact ⟨c, rfl, VB.extV E h⟩
  | .ptr _ _, c, h => by simp only [VC] at *; obtain ⟨c, rfl, h⟩ := h; exact ⟨c, rfl, VB.extV E h⟩
  | .map _, c, h => by simp only [VC] at *; obtain ⟨c, rfl, h⟩ := h; exact ⟨c, rfl, VB.extV E h⟩
  | .nilfn, c, h => by simp only [VC] at *; obtain ⟨c, rfl, h⟩ := h; exact ⟨c, rfl, VB.extV E h⟩
  | .niliface, c, h => by simp only [VC] at *; obtain ⟨c, rfl, h⟩ := h; exact ⟨c, rfl, VB.extV E h⟩
theorem VCs.extV {X Y : Cx} (E : ExtV X Y) : ∀ {vs : List AV} {cs : List Value}, VCs X vs cs → VCs Y vs cs
  | [], cs, h => by simp only [VCs] at *; exact h
  | v :: r, cs, h => by simp only [VCs] at *; obtain ⟨a, b, rfl, h1, h2⟩ := h; exact ⟨a, b, rfl, VC.extV E h1, VCs.extV E h2⟩
end

theorem VB.ext {X Y : Cx} (E : Ext X Y) {v : AV} {c : Value} (h : VB X v c) : VB Y v c := VB.extV E.v h
theorem VV.ext {X Y : Cx} (E : Ext X Y) {v : AV} {c : Value} (h : VV X v c) : VV Y v c := VV.extV E.v h
theorem VVs.ext {X Y : Cx} (E : Ext X Y) {vs : List AV} {cs : List Value} (h : VVs X vs cs) : VVs Y vs cs := VVs.extV E.v h
theorem VC.ext {X Y : Cx} (E : Ext X Y) {v : AV} {cs : List Value} (h : VC X v cs) : VC Y v cs := VC.extV E.v h
theorem VCs.ext {X Y : Cx} (E : Ext X Y) {vs : List AV} {cs : List Value} (h : VCs X vs cs) : VCs Y vs cs := VCs.extV E.v h

end Lam
namespace Lam
open Go

def tSlI : TyD := .slice (.int .i64)
def aLo : TyD := .strct [.int .i64, .int .i64, .int .i64, tSlI, .bool]
def tOp : TyD := .strct [.int .i64, .str, .str, .str, .int .i64]
def aLp : TyD := .strct [.int .i64, .str, .int .i64]
def VK.ty : VK → TyD
  | .mem => .strct [tSlI, tSlI, .slice .pend]
  | .op => tOp
  | .task => aLp
  | .client => .strct [.bool, tOp, .strct [.str, .int .i64, .int .i64, .int .i64, aLo, .str, .bool],
      .strct [.str, .str, .int .i64, .int .i64, .int .i64, .int .i64, aLo, .str, .slice .pair],
      .strct [.bool, .str, .str, .int .i64, .int .i64, .int .i64, aLp, .slice (.val .task), .slice .mic, .int .i64, .int .i64, .bool, .int .i64]]
  | .event => .strct [.int .i64, .int .i64, tOp, .str, .bool, .int .i64, .slice .pair]
  | .era => .strct [.slice (.int .u8), tSlI, tSlI]
  | .told => .strct [.slice (.val .event), tSlI]
  | .frm => .strct [.int .i64, .str]
  | .ints => tSlI
  | .mics => .slice .mic
  | .ph => .strct [.func]

def LK.ty : LK → TyD
  | .int k => .int k
  | .bool => .bool
  | .str => .str
  | .pend => .strct [.int .i64, .int .i64, .bool]
  | .mic => .strct [.int .i64, .int .i64, .int .i64]
  | .rcd => .strct [.int .i64, .str, .str, .int .i64]
  | .pair => .strct [.str, .str]
  | .slot => .strct [.int .i64, .int .i64]
  | .fnk => .func
  | .val k => k.ty

theorem VK.zero_size (k : VK) : k.zero.size = k.size := by cases k <;> rfl

def LK.zero1 (e : LK) : AV := (e.zeros 1).nth 0

mutual
def nF : AV → List Value → Option (List Value)
  | .agg vs, l => vS vs l
  | .int k n, l => match l with
    | .int k' n' :: r => if k = k' ∧ n = n' then some r else none
    | _ => none
  | .bool b, l => match l with
    | .bool b' :: r => if b = b' then some r else none
    | _ => none
  | .str s, l => match l with
    | .string s' :: r => if s.length = 0 ∧ s'.size = 0 then some r else none
    | _ => none
  | .sl x l', l => match l with
    | .slice none 0 0 :: r => if x = false ∧ l'.len = 0 then some r else none
    | _ => none
  | .nilfn, l => match l with
    | .nilFunc :: r => some r
    | _ => none
  | _, _ => none
def vS : List AV → List Value → Option (List Value)
  | [], l => some l
  | v :: vs, l => match nF v l with
    | some r => vS vs r
    | none => none
end

def yN (f : List Value → Option (List Value)) : Nat → List Value → Option (List Value)
  | 0, l => some l
  | n + 1, l => match f l with
    | some r => yN f n r
    | none => none

def vT : LK → List Value → Option (List Value)
  | .int k, .int k' n :: r => if k = k' ∧ n = 0 then some r else none
  | .bool, .bool b :: r => if b = false then some r else none
  | .str, .string s :: r => if s.size = 0 then some r else none
  | .pend, .int .i64 0 :: .int .i64 0 :: .bool false :: r => some r
  | .mic, .int .i64 0 :: .int .i64 0 :: .int .i64 0 :: r => some r
  | .rcd, .int .i64 0 :: .string s :: .string s' :: .int .i64 0 :: r => if s.size = 0 ∧ s'.size = 0 then some r else none
  | .pair, .string s :: .string s' :: r => if s.size = 0 ∧ s'.size = 0 then some r else none
  | .slot, .int .i64 0 :: .int .i64 0 :: r => some r
  | .fnk, .nilFunc :: r => some r
  | .val k, l => nF k.zero l
  | _, _ => none

def aHC : TyD → Value → Bool
  | .int k, .int k' n => decide (k = k' ∧ n = 0)
  | .bool, .bool b => !b
  | .str, .string s => decide (s.size = 0)
  | .slice _, .slice a n c => a.isNone && decide (n = 0) && decide (c = 0)
  | .ptr, .pointer a => a.isNone
  | .map _, .map a => a.isNone
  | .func, .nilFunc => true
  | .iface, .nilIface => true
  | .other, v => v.oneCell'
  | _, _ => false

def pV (d : TyD) : List Value → Option (List Value)
  | [] => none
  | v :: l => match aHC d v with
    | true => some l
    | false => none

mutual
def kK : TyD → List Value → Option (List Value)
  | .arr n e, l => yN (vT e) n l
  | .strct fs, l => vU fs l
  | .int k, l => pV (.int k) l
  | .bool, l => pV .bool l
  | .str, l => pV .str l
  | .slice e, l => pV (.slice e) l
  | .ptr, l => pV .ptr l
  | .map m, l => pV (.map m) l
  | .func, l => pV .func l
  | .iface, l => pV .iface l
  | .other, l => pV .other l
  | .tup _, _ => none
def vU : List TyD → List Value → Option (List Value)
  | [], l => some l
  | d :: ds, l => match kK d l with
    | some r => vU ds r
    | none => none
end

theorem pB {s : ByteArray} (h : s.size = 0) : s = bstr [] := by
  cases s with | mk d => simp [ByteArray.size] at h; simp [bstr, h]

mutual
theorem aAD (X : Cx) : ∀ {v : AV} {l r : List Value}, nF v l = some r → ∃ a, l = a ++ r ∧ EC X v a
  | .agg vs, l, r, h => by simp only [nF] at h; obtain ⟨a, rfl, h2⟩ := yO X h; exact ⟨a, rfl, by simpa only [EC] using h2⟩
  | .int k n, l, r, h => by
    simp only [nF] at h
    split at h
    · split at h
      · rename_i hh; obtain ⟨rfl, rfl⟩ := hh; cases h; exact ⟨[_], rfl, by simp only [EC]⟩
      · cases h
    · cases h
  | .bool n, l, r, h => by
    simp only [nF] at h
    split at h
    · split at h
      · rename_i hh; subst hh; cases h; exact ⟨[_], rfl, by simp only [EC]⟩
      · cases h
    · cases h
  | .str n, l, r, h => by
    simp only [nF] at h
    split at h
    · split at h
      · rename_i hh; cases h; refine ⟨[_], rfl, ?_⟩; rw [pB hh.2, List.length_eq_zero_iff.1 hh.1]; simp only [EC]
      · cases h
    · cases h
  | .nilfn, l, r, h => by
    simp only [nF] at h
    split at h
    · cases h; exact ⟨[_], rfl, by simp only [EC]⟩
    · cases h
  | .sl x l', l, r, h => by
    simp only [nF] at h
    split at h
    · split at h
      · rename_i hh; cases h
        refine ⟨[_], rfl, ?_⟩
        simp only [EC]
        exact ⟨hh.1, none, 0, [], by rw [hh.2], by omega, fun _ => rfl, rP X hh.2, fun h => absurd hh.2 h⟩
      · cases h
    · cases h
  | .fn _ _ _, _, _, h | .top, _, _, h | .und, _, _, h | .arr _, _, _, h | .tup _, _, _, h | .sref _ _ _ _ _, _, _, h | .ep _ _ _, _, _, h | .nilp, _, _, h | .ptr _ _, _, _, h | .map _, _, _, h | .iface _ _, _, _, h | .niliface, _, _, h => by simp only [nF] at h; cases h
theorem yO (X : Cx) : ∀ {vs : List AV} {l r : List Value}, vS vs l = some r → ∃ a, l = a ++ r ∧ ECs X vs a
  | [], l, r, h => by simp only [vS, Option.some.injEq] at h; subst h; exact ⟨[], rfl, by simp only [ECs]⟩
  | v :: vs, l, r, h => by
    simp only [vS] at h
    cases h1 : nF v l with
    | none => simp [h1] at h
    | some x =>
      simp only [h1] at h
      obtain ⟨a, rfl, h2⟩ := aAD X h1
      obtain ⟨b, rfl, h3⟩ := yO X h
      exact ⟨a ++ b, by simp, by simp only [ECs]; exact ⟨a, b, rfl, h2, h3⟩⟩
end

theorem aAE (X : Cx) {e : LK} {l r : List Value} (h : vT e l = some r) : ∃ a, l = a ++ r ∧ EC X e.zero1 a := by
  have fin : ∀ e : LK, (e.zeros 1).plain = true → l = (e.zeros 1).cell 0 ++ r → ∃ a, l = a ++ r ∧ EC X e.zero1 a := fun e hp h => ⟨_, h, aIU X 0 hp⟩
  unfold vT at h
  split at h
  · split at h
    · rename_i hh; obtain ⟨rfl, rfl⟩ := hh; cases h; exact fin (.int _) rfl rfl
    · cases h
  · split at h
    · rename_i hh; subst hh; cases h; exact fin .bool rfl rfl
    · cases h
  · split at h
    · rename_i hh; cases h; exact fin .str rfl (by rw [pB hh]; rfl)
    · cases h
  · cases h; exact fin .pend rfl rfl
  · cases h; exact fin .mic rfl rfl
  · split at h
    · rename_i hh; cases h; exact fin .rcd rfl (by rw [pB hh.1, pB hh.2]; rfl)
    · cases h
  · split at h
    · rename_i hh; cases h; exact fin .pair rfl (by rw [pB hh.1, pB hh.2]; rfl)
    · cases h
  · cases h; exact fin .slot rfl rfl
  · cases h; exact fin .fnk rfl rfl
  · exact aAD X h
  · cases h

theorem aHD (e : LK) {n i : Nat} (hi : i < n) : (e.zeros n).cell i = (e.zeros 1).cell 0 := by
  cases e <;> simp [LK.zeros, Lst.cell, List.getD, hi]

theorem iO (e : LK) (n : Nat) : (e.zeros n).len = n := by cases e <;> simp [LK.zeros, Lst.len]
theorem kM (e : LK) (n : Nat) : (e.zeros n).kind = e := by cases e <;> simp [LK.zeros, Lst.kind]

theorem wY (e : LK) (n : Nat) : (e.zeros n).flat = (List.replicate n ((e.zeros 1).cell 0)).flatten := by
  unfold Lst.flat
  rw [iO, List.flatMap_def]
  congr 1
  apply List.ext_getElem
  · simp
  · intro i h1 h2
    simp at h1
    simp [aHD e h1]

theorem aIX {X : Cx} {e : LK} {a : List Value} (hp : (e.zeros 1).plain = true) (h : EC X e.zero1 a) : a = (e.zeros 1).cell 0 := by
  cases e <;> simp only [LK.zero1, LK.zeros, List.replicate, Lst.nth, List.getD_cons_zero, vK, aEN, aIQ, aGQ, aGR, fnA, EC, ECs] at h <;> simp only [LK.zeros, List.replicate, Lst.cell, List.getD_cons_zero, fnV]
  all_goals first
    | exact h
    | (obtain ⟨_, _, rfl, rfl, _, _, rfl, rfl, _, _, rfl, rfl, _, _, rfl, rfl, rfl⟩ := h; rfl)
    | (obtain ⟨_, _, rfl, rfl, _, _, rfl, rfl, _, _, rfl, rfl, rfl⟩ := h; rfl)
    | (obtain ⟨_, _, rfl, rfl, _, _, rfl, rfl, rfl⟩ := h; rfl)
    | cases hp

theorem aGX (X : Cx) {e : LK} {n : Nat} {a b : List Value} (h : EC X e.zero1 a) (k : LR X (e.zeros n) b) : LR X (e.zeros (n + 1)) (a ++ b) := by
  have fin : ∀ m, (e.zeros m).plain = (e.zeros 1).plain := fun m => by cases e <;> rfl
  cases hp : (e.zeros 1).plain with
  | true =>
    have h1 := (iY ((fin _).trans hp)).1 k
    refine uD ((fin _).trans hp) ?_
    rw [h1, aIX hp h, wY, wY, List.replicate_succ, List.flatten_cons]
  | false =>
    cases e <;> simp only [LK.zeros, Lst.plain, Bool.true_eq_false] at hp
    rename_i k'
    obtain ⟨h1, h2⟩ := jQ.1 k
    refine jQ.2 ⟨fun v hv => ?_, ?_⟩
    · rw [(List.mem_replicate.1 hv).2]; exact ⟨k'.zero_size, by cases k' <;> rfl⟩
    · rw [List.replicate_succ]; simp only [ECs]; exact ⟨a, b, rfl, h, h2⟩

theorem wZ (X : Cx) {e : LK} {z : List Value} (h : EC X e.zero1 z) : ∀ n, LR X (e.zeros n) (List.replicate n z).flatten
  | 0 => rP X (iO e 0)
  | n + 1 => by rw [List.replicate_succ, List.flatten_cons]; exact aGX X h (wZ X h n)

theorem aAF (X : Cx) {e : LK} : ∀ {n : Nat} {l r : List Value}, yN (vT e) n l = some r → ∃ a, l = a ++ r ∧ LR X (e.zeros n) a
  | 0, l, r, h => by simp [yN] at h; exact ⟨[], by simp [h], rP X (iO e 0)⟩
  | n + 1, l, r, h => by
    simp only [yN] at h
    cases h1 : vT e l with
    | none => simp [h1] at h
    | some x =>
      simp only [h1] at h
      obtain ⟨a, rfl, h2⟩ := aAE X h1
      obtain ⟨b, rfl, h3⟩ := aAF X h
      exact ⟨a ++ b, by simp, aGX X h2 h3⟩

theorem aHE (X : Cx) {d : TyD} {v : Value} (h : aHC d v = true) : VC X d.zero [v] := by
  cases d <;> cases v <;> simp [aHC, Value.oneCell'] at h
  all_goals first
    | exact ⟨_, rfl, rfl⟩
    | exact ⟨_, rfl, trivial⟩
    | (obtain rfl := h; exact ⟨_, rfl, rfl⟩)
    | (obtain ⟨rfl, rfl⟩ := h; exact ⟨_, rfl, rfl⟩)
    | (subst h; exact ⟨_, rfl, rfl⟩)
    | exact ⟨_, rfl, rfl⟩
    | (refine ⟨_, rfl, ?_⟩; rw [pB h]; rfl)
    | skip
  rename_i e a n c
  obtain ⟨⟨rfl, rfl⟩, rfl⟩ := h
  refine ⟨_, rfl, none, 0, ?_, ?_, fun _ => ?_, fun _ => rfl, ?_⟩ <;> cases e <;> first | rfl | exact Nat.le_refl _ | exact fun h => absurd rfl h

theorem kN (X : Cx) {d : TyD} {l r : List Value} (h : pV d l = some r) : ∃ a, l = a ++ r ∧ VC X d.zero a := by
  cases l with
  | nil => cases h
  | cons v l =>
    simp only [pV] at h
    split at h
    · rename_i hz; cases h; exact ⟨[v], rfl, aHE X hz⟩
    · cases h

mutual
theorem aAG (X : Cx) : ∀ {d : TyD} {l r : List Value}, kK d l = some r → ∃ a, l = a ++ r ∧ VC X d.zero a
  | .strct fs, l, r, h => by
    simp only [kK] at h
    obtain ⟨a, rfl, ha⟩ := yP X h
    exact ⟨a, rfl, by simpa [TyD.zero, VC] using ha⟩
  | .arr n e, l, r, h => by
    simp only [kK] at h
    obtain ⟨a, rfl, h2⟩ := aAF X h
    exact ⟨a, rfl, by simpa only [TyD.zero, VC] using h2⟩
  | .tup _, l, r, h => by simp [kK] at h
  | .int k, l, r, h => by simp only [kK] at h; exact kN X h
  | .bool, l, r, h => by simp only [kK] at h; exact kN X h
  | .str, l, r, h => by simp only [kK] at h; exact kN X h
  | .slice e, l, r, h => by simp only [kK] at h; exact kN X h
  | .ptr, l, r, h => by simp only [kK] at h; exact kN X h
  | .map _, l, r, h => by simp only [kK] at h; exact kN X h
  | .func, l, r, h => by simp only [kK] at h; exact kN X h
  | .iface, l, r, h => by simp only [kK] at h; exact kN X h
  | .other, l, r, h => by simp only [kK] at h; exact kN X h
theorem yP (X : Cx) : ∀ {ds : List TyD} {l r : List Value}, vU ds l = some r → ∃ a, l = a ++ r ∧ VCs X (TyD.zeros ds) a
  | [], l, r, h => by simp [vU] at h; exact ⟨[], by simp [h], by simp [TyD.zeros, VCs]⟩
  | d :: ds, l, r, h => by
    simp only [vU] at h
    cases h1 : kK d l with
    | none => simp [h1] at h
    | some x =>
      simp only [h1] at h
      obtain ⟨a, rfl, ha⟩ := aAG X h1
      obtain ⟨b, rfl, hb⟩ := yP X h
      exact ⟨a ++ b, by simp, by simp only [TyD.zeros, VCs]; exact ⟨a, b, rfl, ha, hb⟩⟩
end

/-! ### The check -/
def aEz : Option (List Value) → Bool
  | some [] => true
  | _ => false

def elB (P : Program) (E : TypeId) (e : LK) : Bool :=
  match P.info? E with
  | none => false
  | some i => Nat.beq i.size e.size && Nat.ble i.bytes 1024 && (match i.zero with | some z => aEz (vT e z.cells.toList) | none => false) &&
    match e, P.underlying E with
    | .int k, some (.int k') => k == k'
    | .bool, some .bool => true
    | .str, some .string => true
    | .pend, some (.struct _) => true
    | .mic, some (.struct _) => true
    | .rcd, some (.struct _) => true
    | .pair, some (.struct _) => true
    | .slot, some (.struct _) => true
    | .fnk, some (.func _ _ _) => true
    | .val k, some (.slice _) => !k.isAgg
    | .val k, some (.struct _) => k.isAgg
    | _, _ => false

def mapB (P : Program) (m : MK) (K E : TypeId) : Bool :=
  (match m, P.underlying K with
    | .sb, some .string => true
    | .sb, _ => false
    | _, some (.int .i64) => true
    | _, _ => false) &&
  match P.info? E with
  | none => false
  | some i => match m, i.zero with
    | .ib, some (.bool false) => true
    | .sb, some (.bool false) => true
    | .ii, some (.int .i64 0) => true
    | .ifn, some .nilFunc => true
    | _, _ => false

mutual
def tyB (P : Program) : TyD → TypeId → Bool
  | .other, _ => true
  | .tup _, _ => true
  | .int k, T => oU P (.int k) T && (match P.underlying T with | some (.int k') => k == k' | _ => false)
  | .bool, T => oU P .bool T && (match P.underlying T with | some .bool => true | _ => false)
  | .str, T => oU P .str T && (match P.underlying T with | some .string => true | _ => false)
  | .slice e, T => oU P (.slice e) T && (match P.underlying T with | some (.slice E) => elB P E e | _ => false)
  | .arr n e, T => oU P (.arr n e) T && !P.eqGuardType P.depth T && (match P.underlying T with | some (.array m E) => Nat.beq n m && elB P E e | _ => false)
  | .map m, T => oU P (.map m) T && (match P.underlying T with | some (.map K E) => mapB P m K E | _ => false)
  | .ptr, T => oU P .ptr T && (match P.underlying T with | some (.pointer _) => true | _ => false)
  | .func, T => oU P .func T && (match P.underlying T with | some (.func _ _ _) => true | _ => false)
  | .iface, T => oU P .iface T && (match P.underlying T with | some (.interface _) => true | _ => false)
  | .strct fs, T => oU P (.strct fs) T && !P.stoodInHeld T && !P.eqGuardType P.depth T &&
      (match P.underlying T with | some (.struct fields) => nW P fs 0 fields.toList | _ => false)
def nW (P : Program) : List TyD → Nat → List Field → Bool
  | [], _, fs => fs.isEmpty
  | d :: ds, off, fs => match fs with
    | [] => false
    | f :: fs' => Nat.beq f.offset off && f.name != "_" && (match P.info? f.type with | some i => Nat.beq i.size d.size | none => false) && Nat.blt 0 d.size && tyB P d f.type && nW P ds (off + d.size) fs'
def oU (P : Program) (d : TyD) (T : TypeId) : Bool :=
  match P.info? T with
  | none => false
  | some i => Nat.beq i.size d.size && (match i.zero with | some z => aEz (kK d z.cells.toList) | none => false)
end

def aHF (P : Program) (tab : TypeId → TyD) : Prop := ∀ T, tyB P (tab T) T = true

theorem aBO {o : Option (List Value)} (h : aEz o = true) : o = some [] := by
  unfold aEz at h; split at h
  · rfl
  · cases h

structure ElOk (P : Program) (E : TypeId) (e : LK) : Prop where
  info : ∃ i z, P.info? E = some i ∧ i.size = e.size ∧ i.bytes ≤ 1024 ∧ i.zero = some z ∧ ∀ X, EC X e.zero1 z.cells.toList

theorem elOk {P : Program} {E : TypeId} {e : LK} (h : elB P E e = true) : ElOk P E e := by
  unfold elB at h
  split at h
  · cases h
  · rename_i i hi
    simp only [Bool.and_eq_true] at h
    obtain ⟨⟨⟨h1, h2⟩, h3⟩, h4⟩ := h
    have h1 := Nat.eq_of_beq_eq_true h1
    cases hz : i.zero with
    | none => simp [hz] at h3
    | some z =>
      simp only [hz] at h3
      refine ⟨i, z, hi, h1, Nat.le_of_ble_eq_true h2, hz, fun X => ?_⟩
      obtain ⟨a, ha, h⟩ := aAE X (aBO h3)
      rw [ha, List.append_nil]; exact h

theorem aLq {P : Program} {E : TypeId} {k : IntKind} (h : elB P E (.int k) = true) : P.underlying E = some (.int k) := by
  unfold elB at h
  split at h
  · cases h
  · simp only [Bool.and_eq_true] at h
    have h := h.2
    split at h <;> simp_all

structure Base (P : Program) (d : TyD) (T : TypeId) : Prop where
  info : ∃ i z, P.info? T = some i ∧ i.size = d.size ∧ i.zero = some z ∧ ∀ X, VC X d.zero z.cells.toList

theorem aCV {P : Program} {d : TyD} {T : TypeId} (h : oU P d T = true) : Base P d T := by
  unfold oU at h
  split at h
  · cases h
  · rename_i i hi
    simp only [Bool.and_eq_true] at h
    have h1 := Nat.eq_of_beq_eq_true h.1
    cases hz : i.zero with
    | none => simp [hz] at h
    | some z =>
      simp only [hz] at h
      refine ⟨i, z, hi, h1, hz, fun X => ?_⟩
      obtain ⟨a, ha, hv⟩ := aAG X (aBO h.2)
      simpa [ha] using hv

end Lam
namespace Lam
open Go

abbrev FW (ro : Option Nat) : Fence := { Fence.wide with round := ro }

def OpTo (ro : Option Nat) (P : Program) (o : Oper) (a : Act) (w : World) (R : Value → World → Prop) : Prop :=
  ∀ (n : Nat) (next : Act → World → Prop) (Q : Exit → Act → World → Prop), (∀ c w', R c w' → next (a.put o.dst c) w') → o.wpIn (FW ro) n P a w next Q

section
variable {ro : Option Nat} {P : Program} {o : Oper} {a : Act} {w w' : World} {R R' : Value → World → Prop}

theorem OpTo.mono (h : OpTo ro P o a w R) (hr : ∀ c w', R c w' → R' c w') : OpTo ro P o a w R' := fun n next Q hn => h n next Q fun c w' hc => hn c w' (hr _ _ hc)

theorem OpTo.value {c : Value} (hd : ∀ c, o.op ≠ .defer c) (h : (execOp a.eval o).run P w = .ok (.value c) w') (hR : R c w') : OpTo ro P o a w R := by
  intro n next Q hn
  refine ⟨fun _ _ => trivial, ?_⟩
  rw [Oper.semAt_eq _ _ _ hd, h]
  exact hn _ _ hR

theorem OpTo.skip (hd : ∀ c, o.op ≠ .defer c) (h : (execOp a.eval o).run P w = .ok .skip w') (hR : R undef w') : OpTo ro P o a w R := by
  intro n next Q hn
  refine ⟨fun _ _ => trivial, ?_⟩
  rw [Oper.semAt_eq _ _ _ hd, h]
  exact hn _ _ hR

theorem aBe {n : Nat} {f : FuncId} {args : Array Value} {R : Ending → World → Prop} (h : Calls P f args w R) : CallsIn (FW ro) n P f args w R :=
  callsIn_wide.2 h

theorem OpTo.enter {f : FuncId} {args : Array Value} (hd : ∀ c, o.op ≠ .defer c) (h : (execOp a.eval o).run P w = .ok (.enter f args) w')
    (hc : Calls P f args w' fun e w'' => match e with | .returned v => R v w'' | _ => False) : OpTo ro P o a w R := by
  intro n next Q hn
  refine ⟨fun _ _ => trivial, ?_⟩
  rw [Oper.semAt_eq _ _ _ hd, h]
  refine ⟨fun h => (by cases h), CallsIn.mono (aBe hc) fun e w'' he => ?_⟩
  cases e with
  | returned v => exact hn _ _ he
  | panicked c => exact he.elim
  | outgrown => exact he.elim

theorem OpTo.get (h : OpTo ro P o a w R) : ∃ c w', R c w' := by
  have hw := h 0 (fun _ _ => ∃ c w', R c w') (fun _ _ _ => False) (fun c w' hc => ⟨c, w', hc⟩)
  have hw := hw.2
  generalize (o.semAt (FW ro).round a.eval).run P w = r at hw
  cases r with
  | halt x w' => cases x <;> exact hw.elim
  | ok x w' =>
    cases x <;> simp only [Oper.uponIn] at hw <;> try exact hw
    · obtain ⟨_, _, hw⟩ := hw
      obtain ⟨e, w'', fr, hR, _⟩ := hw [] (room_wide _)
      cases e with
      | returned v => exact hR
      | panicked c => exact hR.elim
      | outgrown => obtain ⟨_, _, h⟩ := hR; exact h.elim
    · obtain ⟨_, _, hw⟩ := hw
      obtain ⟨e, w'', hR, _⟩ := hw default [] (room_wide _)
      cases e with
      | returned v => exact hR
      | panicked c => exact hR.elim
      | outgrown => obtain ⟨_, _, h⟩ := hR; exact h.elim
    · obtain ⟨_, hw⟩ := hw
      obtain ⟨v, w'', hR, _⟩ := hw default [] (room_wide _)
      exact hR
end

/-! ### An object is made, or changed -/
structure Upd (X Y : Cx) (id : Nat) (o o' : AObj) (b b' : Option Nat) : Prop where
  S : Y.S = X.S
  hh : Y.h = X.h.set id o'
  mu : Y.μ = X.μ.set id b'
  ho : X.h[id]? = some o
  hb : X.μ[id]? = some b
  heap : ∀ k, k < X.w.heap.size → some k ≠ b → Y.w.heap[k]? = X.w.heap[k]?
  grow : X.w.heap.size ≤ Y.w.heap.size
  blk : (b' = b) ∨ ∃ k, b' = some k ∧ X.w.heap.size ≤ k ∧ k < Y.w.heap.size
  own : ∀ k, b = some k → ¬ X.S k
  row : ∀ k ver l, rowO (some o) = some (k, ver, l) → ∃ ver' l', rowO (some o') = some (k, ver', l') ∧ ver ≤ ver' ∧
    (ver = ver' → l'.len = l.len ∧ l'.kind = l.kind ∧ b' = b ∧ ∀ x, b = some x → dZ X.w x ≤ dZ Y.w x) ∧ (k ≠ .own → ver = ver')
  oth : rowO (some o) = none → b = none ∨ (rowO (some o') = none ∧ b' = b)
  env : jI X.w Y.w

theorem OR.extV {X Y : Cx} (E : ExtV X Y) {b : Option Nat} {o : AObj} (hb : ∀ k, b = some k → Y.w.heap[k]? = X.w.heap[k]?) (h : OR X b o) : OR Y b o := by
  cases o with
  | box v =>
    obtain ⟨b', cs, elem, rfl, h1, h2⟩ := h
    exact ⟨b', cs, elem, rfl, by rw [hb _ rfl]; exact h1, VC.extV E h2⟩
  | row k ver l =>
    rcases h with h | ⟨b', cs, elem, rfl, h1, ⟨a, r, h2, h4⟩, h3⟩
    · exact .inl h
    · exact .inr ⟨b', cs, elem, rfl, by rw [hb _ rfl]; exact h1, ⟨a, r, h2, LR.ext E h4⟩, fun hk => E.S _ (h3 hk)⟩
  | map m =>
    obtain ⟨b', es, ck, rfl, h1, h2⟩ := h
    exact ⟨b', es, ck, rfl, by rw [hb _ rfl]; exact h1, h2⟩
  | lp st pd r =>
    obtain ⟨b', rfl, h1⟩ := h
    exact ⟨b', rfl, by rw [hb _ rfl]; exact h1⟩
  | dead => exact h

theorem OR.ext {X Y : Cx} (E : Ext X Y) {b : Option Nat} {o : AObj} (hb : ∀ k, b = some k → Y.w.heap[k]? = X.w.heap[k]?) (h : OR X b o) : OR Y b o := OR.extV E.v hb h

theorem Upd.ext {X Y : Cx} {id : Nat} {o o' : AObj} {b b' : Option Nat} (U : Upd X Y id o o' b b') (H : HR X) : Ext X Y where
  S k hk := by rw [U.S]; exact hk
  cells k hk := U.heap k (H.old k hk) fun e => U.own k e.symm hk
  new k hk := .inl (by rw [U.S] at hk; exact hk)
  env := U.env
  muinv i k hk := by
    rw [U.mu, List.getElem?_set] at hk
    by_cases e : id = i
    · subst e
      simp only [if_true] at hk
      split at hk
      · cases hk
        rcases U.blk with h | ⟨k', h, h1, _⟩
        · left; rw [U.hb, h]
        · cases h; exact .inr h1
      · cases hk
    · simp only [e, if_false] at hk; exact .inl hk
  keep k hk hn := U.heap k hk fun e => hn id (by rw [U.hb, e])
  grow := U.grow
  row i r ver l hl := by
    by_cases e : id = i
    · subst e
      rw [U.ho] at hl
      obtain ⟨ver', l', h1, h2, h3, h4⟩ := U.row r ver l hl
      have hlt : id < X.h.length := (List.getElem?_eq_some_iff.1 U.ho).1
      have hlm : id < X.μ.length := (List.getElem?_eq_some_iff.1 U.hb).1
      refine ⟨r, ver', l', ?_, h2, fun e => ?_, fun hr => ⟨hr, h4 hr⟩⟩
      · rw [U.hh, List.getElem?_set]; simp [hlt, h1]
      · obtain ⟨a1, a2, a3, a4⟩ := h3 e
        refine ⟨a1, a2, fun x hx => ?_⟩
        rw [U.hb] at hx; cases hx
        refine ⟨?_, a4 x rfl⟩
        rw [U.mu, List.getElem?_set]; simp [hlm, a3]
    · refine ⟨r, ver, l, ?_, Nat.le_refl _, fun _ => ⟨rfl, rfl, fun x hx => ⟨?_, ?_⟩⟩, fun hr => ⟨hr, rfl⟩⟩
      · rw [U.hh, List.getElem?_set]; simpa [e] using hl
      · rw [U.mu, List.getElem?_set]; simpa [e] using hx
      · have : Y.w.heap[x]? = X.w.heap[x]? := U.heap x (H.live _ _ hx).1 fun h => e (H.apart _ _ _ (by rw [U.hb, h]) hx)
        unfold dZ; rw [this]; exact Nat.le_refl _
  oth i x hn hx := by
    by_cases e : id = i
    · subst e
      rw [U.ho] at hn
      have hlt : id < X.h.length := (List.getElem?_eq_some_iff.1 U.ho).1
      have hlm : id < X.μ.length := (List.getElem?_eq_some_iff.1 U.hb).1
      rw [U.hb] at hx; cases hx
      rcases U.oth hn with h | ⟨h1, h2⟩
      · cases h
      · refine ⟨?_, ?_⟩
        · rw [U.mu, List.getElem?_set]; simp [hlm, h2]
        · rw [U.hh, List.getElem?_set]; simp [hlt, h1]
    · refine ⟨?_, ?_⟩
      · rw [U.mu, List.getElem?_set]; simpa [e] using hx
      · rw [U.hh, List.getElem?_set]; simpa [e] using hn

theorem Upd.hr {X Y : Cx} {id : Nat} {o o' : AObj} {b b' : Option Nat} (U : Upd X Y id o o' b b') (H : HR X) (hO : Ext X Y → OR Y b' o') : HR Y := by
  have E := U.ext H
  have hlt : id < X.h.length := (List.getElem?_eq_some_iff.1 U.ho).1
  have hlm : id < X.μ.length := (List.getElem?_eq_some_iff.1 U.hb).1
  have hμ : ∀ i, Y.μ[i]? = if id = i then some b' else X.μ[i]? := fun i => by
    rw [U.mu, List.getElem?_set]; by_cases e : id = i <;> simp [e]
    subst e; exact hlm
  have hh : ∀ i, Y.h[i]? = if id = i then some o' else X.h[i]? := fun i => by
    rw [U.hh, List.getElem?_set]; by_cases e : id = i <;> simp [e]
    subst e; exact hlt
  have hnew : ∀ i k, X.μ[i]? = some (some k) → b' = some k → i ≠ id → False := fun i k h1 h2 h3 => by
    rcases U.blk with h | ⟨k', h, h4, _⟩
    · exact h3 (H.apart _ _ _ h1 (by rw [U.hb, ← h, h2]))
    · rw [h2] at h; cases h; have := (H.live _ _ h1).1; omega
  refine ⟨?_, ?_, ?_, ?_, ?_⟩
  · rw [U.mu, U.hh]; simp [H.len]
  · intro i q hq
    rw [hh] at hq; rw [hμ]
    by_cases e : id = i
    · simp only [e, if_true] at hq ⊢; cases hq; exact ⟨b', rfl, hO E⟩
    · simp only [e, if_false] at hq ⊢
      obtain ⟨x, hx, hor⟩ := H.obj i q hq
      refine ⟨x, hx, hor.ext E fun k hk => ?_⟩
      subst hk
      exact U.heap k (H.live _ _ hx).1 fun h => e (H.apart _ _ _ (by rw [U.hb, h]) hx)
  · intro i j k h1 h2
    rw [hμ] at h1 h2
    by_cases e1 : id = i
    · rw [if_pos e1] at h1
      by_cases e2 : id = j
      · rw [← e1, ← e2]
      · rw [if_neg e2] at h2; cases h1; exact (hnew j k h2 rfl (Ne.symm e2)).elim
    · rw [if_neg e1] at h1
      by_cases e2 : id = j
      · rw [if_pos e2] at h2; cases h2; exact (hnew i k h1 rfl (Ne.symm e1)).elim
      · rw [if_neg e2] at h2; exact H.apart _ _ _ h1 h2
  · intro i k hk
    rw [hμ] at hk
    by_cases e : id = i
    · subst e
      simp only [if_true] at hk; cases hk
      rcases U.blk with h | ⟨k', h, h4, h5⟩
      · refine ⟨Nat.lt_of_lt_of_le (H.live _ _ (by rw [U.hb, ← h])).1 U.grow, fun hs => ?_⟩
        rw [U.S] at hs
        exact (U.own k h.symm hs).elim
      · cases h
        refine ⟨h5, fun hs => ?_⟩
        rw [U.S] at hs
        have := H.old _ hs
        omega
    · simp only [e, if_false] at hk
      have := H.live _ _ hk
      refine ⟨Nat.lt_of_lt_of_le this.1 U.grow, fun hs => ?_⟩
      rw [U.S] at hs
      obtain ⟨ver, l, h1⟩ := this.2 hs
      exact ⟨ver, l, by rw [hh]; simp [e, h1]⟩
  · intro k hk
    rw [U.S] at hk
    exact Nat.lt_of_lt_of_le (H.old _ hk) U.grow

def Good (X : Cx) (h' : List AObj) (v : AV) (c : Value) (w' : World) : Prop := ∃ Y : Cx, Y.w = w' ∧ Y.h = h' ∧ HR Y ∧ Ext X Y ∧ VV Y v c

theorem Good.same {X : Cx} {v : AV} {c : Value} {w' : World} (H : HR X) (hw : w' = X.w) (h : VV X v c) : Good X X.h v c w' := ⟨X, hw.symm, rfl, H, Ext.refl X, h⟩

end Lam
namespace Lam
open Go

section types
variable {P : Program} {T : TypeId}

theorem aGY {d : TyD} (h : tyB P d T = true) (hd : d ≠ .other) (ht : ∀ ts, d ≠ .tup ts) : Base P d T := by
  cases d <;> simp only [tyB, Bool.and_eq_true] at h
  all_goals first
    | exact absurd rfl hd
    | exact absurd rfl (ht _)
    | exact aCV h.1
    | exact aCV h.1.1.1
    | exact aCV h.1.1

theorem vV {k : IntKind} (h : tyB P (.int k) T = true) : P.underlying T = some (.int k) := by
  simp only [tyB, Bool.and_eq_true] at h; have h := h.2; split at h <;> simp_all
theorem aCW (h : tyB P .bool T = true) : P.underlying T = some .bool := by
  simp only [tyB, Bool.and_eq_true] at h; have h := h.2; split at h <;> simp_all
theorem pW (h : tyB P .str T = true) : P.underlying T = some .string := by
  simp only [tyB, Bool.and_eq_true] at h; have h := h.2; split at h <;> simp_all
theorem iM {e : LK} (h : tyB P (.slice e) T = true) : ∃ E, P.underlying T = some (.slice E) ∧ elB P E e = true := by
  simp only [tyB, Bool.and_eq_true] at h; have h := h.2; split at h <;> simp_all
theorem rQ {n : Nat} {e : LK} (h : tyB P (.arr n e) T = true) : ∃ E, P.underlying T = some (.array n E) ∧ elB P E e = true := by
  simp only [tyB, Bool.and_eq_true] at h; have h2 := h.2; clear h; split at h2
  · rename_i m E hu
    simp only [Bool.and_eq_true] at h2
    have := Nat.eq_of_beq_eq_true h2.1
    subst this
    exact ⟨E, hu, h2.2⟩
  · cases h2
theorem aET {n : Nat} {e : LK} (h : tyB P (.arr n e) T = true) : P.eqGuardType P.depth T = false := by
  simp only [tyB, Bool.and_eq_true, Bool.not_eq_true'] at h; exact h.1.2
theorem oH {m : MK} (h : tyB P (.map m) T = true) : ∃ K E, P.underlying T = some (.map K E) ∧ mapB P m K E = true := by
  simp only [tyB, Bool.and_eq_true] at h; have h := h.2; split at h
  · rename_i K E hu; exact ⟨K, E, hu, h⟩
  · cases h
theorem aIY (h : tyB P .ptr T = true) : ∃ E, P.underlying T = some (.pointer E) := by
  simp only [tyB, Bool.and_eq_true] at h; have h := h.2; split at h <;> simp_all
theorem aCX (h : tyB P .func T = true) : ∃ a b c, P.underlying T = some (.func a b c) := by
  simp only [tyB, Bool.and_eq_true] at h; have h := h.2; split at h <;> simp_all
theorem aKs (h : tyB P .iface T = true) : ∃ a, P.underlying T = some (.interface a) := by
  simp only [tyB, Bool.and_eq_true] at h; have h := h.2; split at h <;> simp_all
theorem pC {fs : List TyD} (h : tyB P (.strct fs) T = true) : P.stoodInHeld T = false ∧ P.eqGuardType P.depth T = false ∧ ∃ fields, P.underlying T = some (.struct fields) ∧ nW P fs 0 fields.toList = true := by
  simp only [tyB, Bool.and_eq_true, Bool.not_eq_true'] at h
  obtain ⟨⟨⟨_, h1⟩, h2⟩, h3⟩ := h
  refine ⟨h1, h2, ?_⟩
  split at h3
  · rename_i f hf; exact ⟨f, hf, h3⟩
  · cases h3

def TyD.isAgg : TyD → Bool
  | .strct _ | .arr _ _ => true
  | _ => false

def TyD.told : TyD → Bool
  | .other | .tup _ => false
  | _ => true

theorem aDq {d : TyD} (h : tyB P d T = true) (hd : d.told = true) (w : World) : (isAgg T).run P w = .ok d.isAgg w := by
  unfold isAgg
  cases d with
  | int k => simp [run_underlying (vV h), TyD.isAgg]
  | bool => simp [run_underlying (aCW h), TyD.isAgg]
  | str => simp [run_underlying (pW h), TyD.isAgg]
  | slice e => obtain ⟨E, hu, _⟩ := iM h; simp [run_underlying hu, TyD.isAgg]
  | strct fs => obtain ⟨_, _, f, hu, _⟩ := pC h; simp [run_underlying hu, TyD.isAgg]
  | arr n e => obtain ⟨E, hu, _⟩ := rQ h; simp [run_underlying hu, TyD.isAgg]
  | ptr => obtain ⟨E, hu⟩ := aIY h; simp [run_underlying hu, TyD.isAgg]
  | map m => obtain ⟨K, E, hu, _⟩ := oH h; simp [run_underlying hu, TyD.isAgg]
  | func => obtain ⟨_, _, _, hu⟩ := aCX h; simp [run_underlying hu, TyD.isAgg]
  | iface => obtain ⟨_, hu⟩ := aKs h; simp [run_underlying hu, TyD.isAgg]
  | tup ts => cases hd
  | other => cases hd

theorem sN {d : TyD} (h : tyB P d T = true) (hd : d.told = true) (w : World) : (Go.sizeOf T).run P w = .ok d.size w := by
  obtain ⟨i, z, hi, hs, _⟩ := (aGY h (by rintro rfl; cases hd) (by rintro ts rfl; cases hd)).info
  simp [Go.sizeOf, typeInfo, hi, hs]

theorem aBf {d : TyD} (h : tyB P d T = true) (hd : d.told = true) (w : World) : ∃ z, (zeroValue T).run P w = .ok z w ∧ ∀ X, VC X d.zero z.cells.toList := by
  obtain ⟨i, z, hi, _, hz, hv⟩ := (aGY h (by rintro rfl; cases hd) (by rintro ts rfl; cases hd)).info
  exact ⟨z, by simp [zeroValue, typeInfo, hi, hz], hv⟩

theorem mB {E : TypeId} {e : LK} (h : elB P E e = true) (w : World) : (Go.sizeOf E).run P w = .ok e.size w := by
  obtain ⟨i, z, hi, hs, _⟩ := (elOk h).info
  simp [Go.sizeOf, typeInfo, hi, hs]

theorem pH {d : TyD} {v : AV} (h : fitP d v) : d.told = true := by
  cases d <;> first | rfl | (cases v <;> exact h.elim)

theorem rR {d : TyD} {v : AV} (h : fitP d v) : v.size = d.size ∧ d.isAgg = !v.scalar := by
  cases d with
  | strct fs => cases v <;> first | exact h.elim | exact ⟨h, rfl⟩
  | arr n e =>
    cases v <;> first | exact h.elim | skip
    obtain ⟨h1, h2⟩ := h
    exact ⟨by simp only [AV.size, TyD.size, h1, h2], rfl⟩
  | tup ts => cases v <;> exact h.elim
  | other => cases v <;> exact h.elim
  | _ => cases v <;> first | exact h.elim | exact ⟨rfl, rfl⟩

theorem xA {d : TyD} {v : AV} (h : fitP d v) : v.solid = true := by
  cases d <;> cases v <;> first | exact h.elim | rfl
end types

def tO (d : TyD) (cs : List Value) : Value := if d.isAgg then .agg cs.toArray else cs.headD undef

theorem aFZ {P : Program} {T : TypeId} {d : TyD} (h : tyB P d T = true) (hd : d.told = true) (w : World) (ad : Addr) (cs : List Value) (hl : cs.length = d.size)
    (h1 : d.isAgg = false → cs.length = 1) (hc : ∀ j v, cs[j]? = some v → w.cell? (ad.add j) = some v) : (loadVar T ad).run P w = .ok (tO d cs) w := by
  unfold loadVar tO
  simp only [Sem.run_bind, aDq h hd, Result.andThen_ok, Sem.run_ite, sN h hd]
  by_cases ha : d.isAgg = true
  · simp only [ha, if_true, sN h hd, Result.andThen_ok, Sem.run_bind]
    rw [← hl, run_loadCells_list w ad cs hc]
    rfl
  · have ha' : d.isAgg = false := by simpa using ha
    have h2 := h1 ha'
    obtain ⟨c, rfl⟩ := List.length_eq_one_iff.1 h2
    have := hc 0 c rfl
    rw [Addr.add_zero'] at this
    simp [ha', this]

theorem uG {X : Cx} {d : TyD} {v : AV} {cs : List Value} (hf : fitP d v) (h : VC X v cs) : VV X v (tO d cs) := by
  have hs := (rR hf).2
  unfold tO
  by_cases ha : v.scalar = true
  · obtain ⟨c, rfl, hc⟩ := aBc h ha
    rw [hs, ha]; simpa using hc
  · have ha' : v.scalar = false := by simpa using ha
    rw [hs, ha']
    exact aDo (by simpa using h) ha'

theorem aAk {X : Cx} {d : TyD} {v : AV} {cs : List Value} (hf : fitP d v) (h : VC X v cs) : cs.length = d.size ∧ (d.isAgg = false → cs.length = 1) := by
  have h1 := tN h
  obtain ⟨h2, h3⟩ := rR hf
  refine ⟨h1.trans h2, fun ha => ?_⟩
  rw [ha] at h3
  have : v.scalar = true := by cases hv : v.scalar <;> simp_all
  obtain ⟨c, rfl, _⟩ := aBc h this
  rfl

/-! ### Reading -/
theorem aHG {w : World} {b j : Nat} {cs : Array Value} {e : TypeId} {f : Nat × Nat} (h : w.heap[b]? = some (.cells cs e f)) : w.cell? ⟨b, j, none⟩ = cs.toList[j]? := by
  simp [World.cell?, h]

theorem kC.sub {w : World} {b off : Nat} {a u r : List Value} (h : kC w b off (a ++ (u ++ r))) : kC w b (off + a.length) u := by
  intro j v hj
  have := h (a.length + j) v (by
    rw [List.getElem?_append_right (by omega)]
    rw [List.getElem?_append_left (by have := (List.getElem?_eq_some_iff.1 hj).1; omega)]
    simpa using hj)
  rwa [Nat.add_assoc]

theorem kC.of_cells {w : World} {b : Nat} {cs : Array Value} {e : TypeId} {f : Nat × Nat} (h : w.heap[b]? = some (.cells cs e f)) : kC w b 0 cs.toList := by
  intro j v hj
  rw [aHG h, Nat.zero_add]; exact hj

theorem kC.add {w : World} {b o : Nat} {cs : List Value} (h : kC w b o cs) : ∀ j v, cs[j]? = some v → w.cell? ((⟨b, o, none⟩ : Addr).add j) = some v := by
  intro j v hj
  rw [Addr.add_lit]; exact h j v hj

def aGZ (X : Cx) (c : Value) (v : AV) : Prop := ∃ ad cs, c = .pointer (some ad) ∧ VC X v cs ∧ ∀ j u, cs[j]? = some u → X.w.cell? (ad.add j) = some u

theorem aAH {X : Cx} (H : HR X) {a v : AV} {c : Value} {S : Prop} {news : List AObj} (h : aD X.h a = some (S, v, news)) (hS : S) (hv : VV X a c) : news = [] ∧ aGZ X c v := by
  unfold aD at h
  split at h
  · rename_i l i fs
    obtain ⟨b, o, rfl, hi, _, us0, hec, hr⟩ := hv
    cases hat : (l.nth i).at_ fs with
    | none => simp [hat, eN] at h
    | some u =>
      simp only [hat, eN, pD, Option.some.injEq, Prod.mk.injEq] at h
      obtain ⟨_, rfl, rfl⟩ := h
      obtain ⟨x, us, y, hcell, hx, hvc⟩ := aEy (aAj hec) hat
      refine ⟨rfl, _, us, rfl, hvc, ?_⟩
      rw [hcell] at hr
      have := hr.sub.add
      rwa [hx] at this
  · rename_i id p
    unfold aAg at h
    split at h
    · rename_i u hu
      cases hat : u.at_ p with
      | none => simp [hat, eN] at h
      | some u' =>
        simp only [hat, eN, pD, Option.some.injEq, Prod.mk.injEq] at h
        obtain ⟨_, rfl, rfl⟩ := h
        obtain ⟨b, hb, bb, cs, e, rfl, hheap, hvc⟩ := H.obj _ _ hu
        have hc : c = .pointer (some ⟨bb, offs p, none⟩) := by
          have hv : PtV X id p c := hv
          cases p with
          | nil => obtain ⟨b', hb', rfl, _⟩ := hv; rw [hb] at hb'; cases hb'; rfl
          | cons x r => cases x with
            | f i o => obtain ⟨b', hb', rfl, _⟩ := hv; rw [hb] at hb'; cases hb'; rfl
            | i v j s => exfalso; obtain ⟨k, ver, l, hl, _⟩ := hv; rw [hu] at hl; cases hl
        subst hc
        obtain ⟨x, us, y, hcell, hx, hvc'⟩ := aEy hvc hat
        refine ⟨rfl, _, us, rfl, hvc', ?_⟩
        have hr := kC.of_cells hheap
        rw [hcell] at hr
        have := hr.sub.add
        rwa [hx, Nat.zero_add] at this
    · rename_i k ver l hu
      split at h
      · split at h
        · simp only [pD, Option.some.injEq, Prod.mk.injEq] at h
          obtain ⟨_, rfl, rfl⟩ := h
          obtain ⟨b, hb, hor⟩ := H.obj _ _ hu
          obtain ⟨b', hb', rfl, _⟩ : ∃ b, X.μ[id]? = some (some b) ∧ c = .pointer (some ⟨b, 0, none⟩) ∧ _ := hv
          rw [hb] at hb'; cases hb'
          rcases hor with ⟨h1, _⟩ | ⟨bb, cs, e, h1, hheap, ⟨a, r, hr, hLR⟩, _⟩
          · cases h1
          · cases h1
            refine ⟨rfl, _, a, rfl, by simpa only [VC] using hLR, ?_⟩
            have hr2 := kC.of_cells hheap
            rw [hr, show a ++ r = [] ++ (a ++ r) from rfl] at hr2
            have := hr2.sub.add
            simpa using this
        · cases h
      · rename_i vr i sz p'
        split at h
        · rename_i hcond
          obtain ⟨rfl, rfl⟩ := hcond
          cases hat : (l.nth i).at_ p' with
          | none => simp [hat, eN] at h
          | some u =>
            simp only [hat, eN, pD, Option.some.injEq, Prod.mk.injEq] at h
            obtain ⟨rfl, rfl, rfl⟩ := h
            obtain ⟨b, hb, hor⟩ := H.obj _ _ hu
            obtain ⟨k', ver', l', hl', _, _, hpt⟩ := hv
            rw [hu] at hl'; cases hl'
            obtain ⟨b', hb', rfl⟩ := hpt rfl
            rw [hb] at hb'; cases hb'
            rcases hor with ⟨h1, _⟩ | ⟨bb, cs, e, h1, hheap, ⟨a, r, hr, hLR⟩, _⟩
            · cases h1
            · cases h1
              obtain ⟨x2, u0, y2, hflat, hx2, _, hec, _⟩ := wX hLR hS
              obtain ⟨x, us, y, hcell, hx, hvc⟩ := aEy (aAj hec) hat
              refine ⟨rfl, _, us, rfl, hvc, ?_⟩
              have hr2 := kC.of_cells hheap
              rw [hr, hflat, hcell, show x2 ++ (x ++ (us ++ y) ++ y2) ++ r = (x2 ++ x) ++ (us ++ (y ++ (y2 ++ r))) by simp] at hr2
              have := hr2.sub.add
              simpa [offs, hx, hx2] using this
        · cases h
      · cases h
    · cases h
  · cases h

theorem aBP {P : Program} {X : Cx} {T : TypeId} {d : TyD} {v : AV} {c : Value} (hT : tyB P d T = true) (hf : fitP d v) (h : aGZ X c v) :
    ∃ r, (Instr.loadAt T c).run P X.w = .ok r X.w ∧ VV X v r := by
  obtain ⟨ad, cs, rfl, hvc, hc⟩ := h
  obtain ⟨h1, h2⟩ := aAk hf hvc
  refine ⟨tO d cs, ?_, uG hf hvc⟩
  simp only [Instr.loadAt, Instr.sureAddr, pure_bind]
  exact aFZ hT (pH hf) X.w ad cs h1 h2 hc

end Lam
namespace Lam
open Go

def Pure (P : Program) (s : Sem Value) (X : Cx) (v : AV) : Prop := ∃ c, (s.run P X.w = .ok c X.w) ∧ VV X v c

section
variable {P : Program} {X : Cx}

theorem dP {S : Prop} {v : AV} {S' : Prop} {v' : AV} {news : List AObj} (h : pD S v = some (S', v', news)) : S' = S ∧ v' = v ∧ news = [] := by
  simp only [pD, Option.some.injEq, Prod.mk.injEq] at h
  exact ⟨h.1.symm, h.2.1.symm, h.2.2.symm⟩

theorem aEU {op : BinOp} {k k' : IntKind} {a b : Int} {S : Prop} {v : AV} {news : List AObj} (T : TypeId) (hk : k = k' ∨ vL op = true)
    (h : gU op k a b = some (S, v, news)) (hS : S) : news = [] ∧ Pure P (binOp op T (.int k a) (.int k' b)) X v := by
  have he : (a == b) = decide (a = b) := by rw [Bool.eq_iff_iff]; simp
  cases op <;> simp only [gU] at h <;> obtain ⟨rfl, rfl, rfl⟩ := dP h <;> refine ⟨rfl, ?_⟩
  case shl => exact ⟨_, by simp [binOp, Op.shift, Int.not_lt.2 hS], rfl⟩
  case shr => exact ⟨_, by simp [binOp, Op.shift, Int.not_lt.2 hS], rfl⟩
  all_goals
    have hk : k = k' := by simpa [vL] using hk
    subst hk
  case quo => exact ⟨_, by simp [binOp, Op.intDiv, hS], rfl⟩
  case rem => exact ⟨_, by simp [binOp, Op.intDiv, hS], rfl⟩
  case eql => exact ⟨.bool (decide (a = b)), by simp only [binOp, Op.intCmp, ne_eq, not_true, if_false, he]; rfl, rfl⟩
  case neq => exact ⟨.bool (!decide (a = b)), by simp only [binOp, Op.intCmp, ne_eq, not_true, if_false, bne, he]; rfl, rfl⟩
  case lss => exact ⟨_, by simp [binOp, Op.intCmp], rfl⟩
  case leq => exact ⟨_, by simp [binOp, Op.intCmp], rfl⟩
  case gtr => exact ⟨_, by simp [binOp, Op.intCmp], rfl⟩
  case geq => exact ⟨_, by simp [binOp, Op.intCmp], rfl⟩
  case add => exact ⟨_, by simp [binOp, Op.intArith], rfl⟩
  case sub => exact ⟨_, by simp [binOp, Op.intArith], rfl⟩
  case mul => exact ⟨_, by simp [binOp, Op.intArith], rfl⟩
  case and => exact ⟨_, by simp [binOp, Op.intBits], rfl⟩
  case or => exact ⟨_, by simp [binOp, Op.intBits], rfl⟩
  case xor => exact ⟨_, by simp [binOp, Op.intBits], rfl⟩
  case andNot => exact ⟨_, by simp [binOp, Op.intBits], rfl⟩

theorem vW : ∀ a b, ltB a b = Op.bytesLess a b
  | _, [] => by cases ‹List UInt8› <;> rfl
  | [], _ :: _ => rfl
  | a :: x, b :: y => by simp only [ltB, Op.bytesLess, vW x y]

theorem aCY : ∀ a b, (ltB a b || decide (a = b)) = !ltB b a
  | [], [] => rfl
  | [], _ :: _ => rfl
  | _ :: _, [] => rfl
  | a :: x, b :: y => by
    have ih := aCY x y
    simp only [ltB, List.cons.injEq]
    by_cases h : a = b
    · subst h
      simp only [UInt8.lt_irrefl, decide_false, Bool.false_or, beq_self_eq_true, Bool.true_and, true_and]
      exact ih
    · have h1 : (a == b) = false := by simpa using h
      have h2 : (b == a) = false := by simpa using Ne.symm h
      simp only [h1, h2, Bool.false_and, Bool.or_false, h, false_and, decide_false]
      rw [Bool.eq_iff_iff]
      simp only [decide_eq_true_eq, Bool.not_eq_true', decide_eq_false_iff_not, UInt8.not_lt]
      rw [UInt8.lt_iff_toNat_lt, UInt8.le_iff_toNat_le]
      have : a.toNat ≠ b.toNat := fun e => h (UInt8.toNat_inj.1 e)
      omega

theorem aGa (a b : bF) : bstr a ++ bstr b = bstr (a ++ b) := by
  apply ByteArray.ext
  simp [bstr]

theorem aEV {op : BinOp} {a b : bF} {S : Prop} {v : AV} {news : List AObj} (T : TypeId)
    (h : mA op a b = some (S, v, news)) (hS : S) : news = [] ∧ Pure P (binOp op T (.string (bstr a)) (.string (bstr b))) X v := by
  have e1 : (a == b) = decide (a = b) := by rw [Bool.eq_iff_iff]; simp
  have hl := aCY a b
  have hl2 := aCY b a
  have e2 : decide (b = a) = decide (a = b) := by rw [Bool.eq_iff_iff]; simp [eq_comm]
  have run : ∀ (op : BinOp) (c : Value), (Op.stringOp op (bstr a) (bstr b)).run P X.w = .ok c X.w → (binOp op T (.string (bstr a)) (.string (bstr b))).run P X.w = .ok c X.w := fun op c h => by
    cases op <;> simpa [binOp] using h
  cases op <;> simp only [mA, reduceCtorEq] at h <;> obtain ⟨rfl, rfl, rfl⟩ := dP h <;> refine ⟨rfl, ?_⟩
  case add =>
    refine ⟨.string (bstr a ++ bstr b), run _ _ ?_, by rw [aGa]; rfl⟩
    have : ¬ (((bstr a).size + (bstr b).size : Nat) : Int) > IntKind.i64.max := by
      rw [IntKind.max_i64]; simp only [aIT]; omega
    simp only [Op.stringOp, this, if_false]; rfl
  case eql => exact ⟨_, run _ _ (by simp only [Op.stringOp, iS, e1]; rfl), rfl⟩
  case neq => exact ⟨_, run _ _ (by simp only [Op.stringOp, iS, e1]; rfl), rfl⟩
  case lss => exact ⟨_, run _ _ (by simp only [Op.stringOp, iS, ← vW]; rfl), rfl⟩
  case leq => exact ⟨_, run _ _ (by simp only [Op.stringOp, iS, ← vW, e1, hl]; rfl), rfl⟩
  case gtr => exact ⟨_, run _ _ (by simp only [Op.stringOp, iS, ← vW, e1, hl, Bool.not_not]; rfl), rfl⟩
  case geq => exact ⟨_, run _ _ (by simp only [Op.stringOp, iS, ← vW]; rfl), rfl⟩

theorem aKt {op : UnOp} {x : AV} {c : Value} {S : Prop} {v : AV} {news : List AObj} (hx : VV X x c)
    (h : unD op x = some (S, v, news)) (hS : S) : news = [] ∧ Pure P (Op.unary op c) X v := by
  unfold unD at h
  split at h
  · obtain ⟨rfl, rfl, rfl⟩ := dP h; cases hx; exact ⟨rfl, _, rfl, rfl⟩
  · obtain ⟨rfl, rfl, rfl⟩ := dP h; cases hx; exact ⟨rfl, _, rfl, rfl⟩
  · obtain ⟨rfl, rfl, rfl⟩ := dP h; cases hx; exact ⟨rfl, _, rfl, rfl⟩
  · cases h

theorem aIZ {x y : AV} {c c' : Value} {S : Prop} {v : AV} {news : List AObj} (hx : VV X x c) (hy : VV X y c') (ts : Array TypeId) (t : TypeId)
    (h : minD x y = some (S, v, news)) (hS : S) : news = [] ∧ Pure P (Builtin.min_ ts t #[c, c']) X v := by
  unfold minD at h
  split at h
  · split at h
    · obtain ⟨rfl, rfl, rfl⟩ := dP h; cases hx; cases hy; exact ⟨rfl, _, rfl, rfl⟩
    · cases h
  · cases h

theorem aJa {x y : AV} {c c' : Value} {S : Prop} {v : AV} {news : List AObj} (hx : VV X x c) (hy : VV X y c') (ts : Array TypeId) (t : TypeId)
    (h : maxD x y = some (S, v, news)) (hS : S) : news = [] ∧ Pure P (Builtin.max_ ts t #[c, c']) X v := by
  unfold maxD at h
  split at h
  · split at h
    · obtain ⟨rfl, rfl, rfl⟩ := dP h; cases hx; cases hy; exact ⟨rfl, _, rfl, rfl⟩
    · cases h
  · obtain ⟨rfl, rfl, rfl⟩ := dP h; cases hx; cases hy
    rename_i a b
    refine ⟨rfl, .string (bstr (if ltB a b = true then b else a)), ?_, rfl⟩
    have : (Op.stringOp .geq (bstr a) (bstr b)).run P X.w = .ok (.bool (!ltB a b)) X.w := by simp only [Op.stringOp, iS, ← vW]; rfl
    simp only [Builtin.max_, Builtin.max2, List.foldlM_cons, List.foldlM_nil, Sem.run_bind, this, Result.andThen_ok, asBool, Sem.run_pure]
    cases ltB a b <;> rfl
  · cases h

theorem aHa : ∀ {vs : List AV} {cs : List Value} {i : Nat} {v : AV}, VVs X vs cs → vs[i]? = some v → ∃ c, cs[i]? = some c ∧ VV X v c
  | [], _, _, _, _, h => by simp at h
  | u :: r, cs, i, v, hv, h => by
    simp only [VVs] at hv
    obtain ⟨c, d, rfl, h1, h2⟩ := hv
    cases i with
    | zero => simp only [List.getElem?_cons_zero, Option.some.injEq] at h; subst h; exact ⟨c, rfl, h1⟩
    | succ i => simp only [List.getElem?_cons_succ] at h ⊢; exact aHa h2 h

theorem sO : ∀ {vs : List AV} {cs : List Value}, VVs X vs cs → cs.length = vs.length
  | [], _, h => by simp only [VVs] at h; subst h; rfl
  | u :: r, cs, hv => by
    simp only [VVs] at hv
    obtain ⟨c, d, rfl, h1, h2⟩ := hv
    simp [sO h2]

theorem nX : ∀ {vs us : List AV} {cs ds : List Value}, VVs X vs cs → VVs X us ds → VVs X (vs ++ us) (cs ++ ds)
  | [], _, _, _, h, h2 => by simp only [VVs] at h; subst h; simpa using h2
  | u :: r, us, cs, ds, hv, h2 => by
    simp only [VVs] at hv
    obtain ⟨c, d, rfl, h1, h3⟩ := hv
    simp only [List.cons_append, VVs]
    exact ⟨c, d ++ ds, rfl, h1, nX h3 h2⟩

theorem aEj {x : AV} {c : Value} {i : Nat} {S : Prop} {v : AV} {news : List AObj} (hx : VV X x c)
    (h : bM x i = some (S, v, news)) (hS : S) : news = [] ∧ Pure P (Instr.extract c i) X v := by
  unfold bM at h
  split at h
  · rename_i vs
    split at h
    · rename_i hi
      obtain ⟨rfl, rfl, rfl⟩ := dP h
      simp only [VV] at hx
      obtain ⟨cs, rfl, hv⟩ := hx
      have hg : vs[i]? = some (vs.getD i .top) := by simp [List.getD, hi]
      obtain ⟨u, hu, hvu⟩ := aHa hv hg
      refine ⟨rfl, u, ?_, hvu⟩
      have : cs[i]? = some u := by simpa using hu
      simp [Instr.extract, this]
    · cases h
  · cases h

theorem aHH {x a b : AV} {c ca cb : Value} {S : Prop} {v : AV} {news : List AObj} (hx : VV X x c) (ha : VV X a ca) (hb : VV X b cb)
    (h : bP x a b = some (S, v, news)) (hS : S) : news = [] ∧ Pure P (do pure (if ← asBool c then ca else cb)) X v := by
  unfold bP at h
  split at h
  · obtain ⟨rfl, rfl, rfl⟩ := dP h; cases hx
    rename_i q
    refine ⟨rfl, _, rfl, ?_⟩
    cases q
    · exact hb
    · exact ha
  · cases h

theorem aBQ {x : AV} {c : Value} {T : TypeId} {d : TyD} (hT : tyB P d T = true) (hd : d.known = true) (hx : VV X x c) (hnt : ∀ ts, d ≠ .tup ts) :
    Pure P (Instr.makeInterface T c) X (.iface T x) := by
  refine ⟨.iface T c, ?_, c, rfl, hx⟩
  unfold Instr.makeInterface
  cases d with
  | int k => simp [run_underlying (vV hT)]
  | bool => simp [run_underlying (aCW hT)]
  | str => simp [run_underlying (pW hT)]
  | slice e => obtain ⟨E, hu, _⟩ := iM hT; simp [run_underlying hu]
  | strct fs => obtain ⟨_, _, f, hu, _⟩ := pC hT; simp [run_underlying hu]
  | arr n e => obtain ⟨E, hu, _⟩ := rQ hT; simp [run_underlying hu]
  | ptr => obtain ⟨E, hu⟩ := aIY hT; simp [run_underlying hu]
  | map m => obtain ⟨K, E, hu, _⟩ := oH hT; simp [run_underlying hu]
  | func => obtain ⟨_, _, _, hu⟩ := aCX hT; simp [run_underlying hu]
  | iface => cases hd
  | tup ts => exact absurd rfl (hnt ts)
  | other => cases hd

theorem aKu {x : AV} {c : Value} {n : Nat} {d : TyD} (hx : VV X x c) (h : AV.len d X.h x = some n) (hd : d.slc = true) : ∃ a cap, c = .slice a n cap ∧ n ≤ cap := by
  unfold AV.len at h
  split at h
  · obtain ⟨a, cap, rfl, h1, _⟩ := hx; cases h; exact ⟨a, cap, rfl, h1⟩
  · rename_i id ver off len
    obtain ⟨a, m, cap, rfl, k, ver', l, hl, _, h1⟩ := hx
    unfold lenO at h
    split at h
    · rename_i k2 v2 l2 hh
      rw [hh] at hl; cases hl
      split at h
      · rename_i e; cases h
        obtain ⟨rfl, h3, _⟩ := h1 e
        exact ⟨a, cap, rfl, h3⟩
      · cases h
    · cases h
  · cases hd
  · cases hd
  · cases h

theorem aJb {x : AV} {c : Value} {T : TypeId} {d : TyD} {S : Prop} {v : AV} {news : List AObj} (hT : tyB P d T = true) (hx : VV X x c) (ty : TypeId)
    (h : lenD d X.h x = some (S, v, news)) (hS : S) : news = [] ∧ Pure P (Builtin.len_ #[T] ty #[c]) X v := by
  unfold lenD eN at h
  split at h
  · rename_i n hn
    obtain ⟨rfl, rfl, rfl⟩ := dP h
    refine ⟨rfl, .int .i64 n, ?_, rfl⟩
    cases d with
    | slice e =>
      obtain ⟨a, cap, rfl, _⟩ := aKu hx hn rfl
      obtain ⟨E, hu, _⟩ := iM hT
      simp [Builtin.len_, run_underlying hu, goInt]
    | str =>
      cases x with
      | str s =>
        simp only [AV.len, Option.some.injEq] at hn; subst hn
        cases hx
        simp [Builtin.len_, run_underlying (pW hT), goInt]
      | _ => simp [AV.len] at hn
    | arr m e =>
      obtain ⟨E, hu, _⟩ := rQ hT
      have : n = m := by unfold AV.len at hn; split at hn <;> simp_all
      subst this
      simp [Builtin.len_, run_underlying hu, goInt]
    | _ => unfold AV.len at hn; split at hn <;> simp_all
  · cases h
end
end Lam
namespace Lam
open Go

section
variable {P : Program} {X : Cx}

/-! ### Rows, by elements -/
theorem mC (l : Lst) (a n : Nat) : (l.cut a n).len = min n (l.len - a) := by cases l <;> simp [Lst.cut, Lst.len]
theorem qV (l : Lst) (a n : Nat) : (l.cut a n).kind = l.kind := by cases l <;> rfl

theorem aBR {α β : Type} {l : List α} {f g : α → List β} (h : ∀ x ∈ l, f x = g x) : l.flatMap f = l.flatMap g := by
  rw [List.flatMap_def, List.flatMap_def, List.map_congr_left h]

theorem aCZ {f g : Nat → List Value} {n m : Nat} : (List.range (n + m)).flatMap (fun i => if i < n then f i else g (i - n)) = (List.range n).flatMap f ++ (List.range m).flatMap g := by
  rw [List.range_add, List.flatMap_append, List.flatMap_map]
  congr 1
  · apply aBR
    intro i hi
    simp [List.mem_range.1 hi]
  · apply aBR
    intro i hi
    have : ¬ (n + i < n) := by omega
    simp [this]

theorem tP {xs ys zs : Lst} (h : xs.app ys = some zs) : zs.len = xs.len + ys.len ∧ zs.kind = xs.kind ∧ ys.kind = xs.kind ∧ zs.plain = xs.plain ∧ ys.plain = xs.plain ∧ zs.flat = xs.flat ++ ys.flat := by
  have key : zs.len = xs.len + ys.len ∧ zs.kind = xs.kind ∧ ys.kind = xs.kind ∧ zs.plain = xs.plain ∧ ys.plain = xs.plain ∧ ∀ i, zs.cell i = if i < xs.len then xs.cell i else ys.cell (i - xs.len) := by
    unfold Lst.app at h
    split at h
    · split at h
      · rename_i k xs k' ys e; subst e; cases h
        refine ⟨by simp [Lst.len], rfl, rfl, rfl, rfl, fun i => ?_⟩
        simp only [Lst.cell, Lst.len, List.getD_eq_getElem?_getD, List.getElem?_append]
        split <;> rfl
      · cases h
    all_goals first | (cases h; done) | skip
    all_goals try
      (cases h
       refine ⟨by simp [Lst.len], rfl, rfl, rfl, rfl, fun i => ?_⟩
       simp only [Lst.cell, Lst.len, List.getD_eq_getElem?_getD, List.getElem?_append]
       split <;> rfl)
    split at h
    · rename_i k xs k' ys e; subst e; cases h
      exact ⟨by simp [Lst.len], rfl, rfl, rfl, rfl, fun i => (ite_self (List.replicate k.size Value.nilFunc)).symm⟩
    · cases h
  obtain ⟨h1, h2, h3, g1, g2, h4⟩ := key
  refine ⟨h1, h2, h3, g1, g2, ?_⟩
  unfold Lst.flat
  rw [h1, show zs.cell = fun i => if i < xs.len then xs.cell i else ys.cell (i - xs.len) from funext h4]
  exact aCZ


theorem tQ {xs ys zs : Lst} (h : xs.app ys = some zs) : zs.len = xs.len + ys.len ∧ zs.kind = xs.kind ∧ ys.kind = xs.kind := ⟨(tP h).1, (tP h).2.1, (tP h).2.2.1⟩

theorem yQ {xs ys zs : Lst} {a b : List Value} (h : xs.app ys = some zs) (hx : LR X xs a) (hy : LR X ys b) : LR X zs (a ++ b) := by
  obtain ⟨h1, h2, h3, g1, g2, h4⟩ := tP h
  cases hp : xs.plain with
  | true => rw [(iY hp).1 hx, (iY (g2.trans hp)).1 hy]; exact uD (g1.trans hp) h4.symm
  | false =>
    cases xs <;> simp only [Lst.plain, Bool.true_eq_false] at hp
    cases ys <;> simp only [Lst.app, reduceCtorEq] at h
    split at h
    · rename_i e; subst e; cases h
      obtain ⟨p1, p2⟩ := jQ.1 hx
      obtain ⟨q1, q2⟩ := jQ.1 hy
      exact jQ.2 ⟨fun v hv => (List.mem_append.1 hv).elim (p1 v) (q1 v), sM p2 q2⟩
    · cases h

theorem aDa (l : Lst) : l.cut 0 l.len = l := by cases l <;> simp [Lst.cut, Lst.len]


theorem aLK (l : Lst) {k : Nat} (hk : k ≤ l.len) : (l.cut 0 k).app (l.cut k (l.len - k)) = some l := by
  cases l
  all_goals
    simp only [Lst.cut, Lst.len, Lst.app, if_true, List.drop_zero]
    rename_i xs
    rw [List.take_of_length_le (l := xs.drop k) (by simp), List.take_append_drop]

theorem vX {l : Lst} {cs : List Value} {k : Nat} (h : LR X l cs) (hk : k ≤ l.len) : ∃ p q, cs = p ++ q ∧ LR X (l.cut 0 k) p ∧ LR X (l.cut k (l.len - k)) q := by
  have e := tP (aLK l hk)
  cases hp : l.plain with
  | true => exact ⟨_, _, ((iY hp).1 h).trans e.2.2.2.2.2, uD (e.2.2.2.1.symm.trans hp) rfl, uD (e.2.2.2.2.1.trans (e.2.2.2.1.symm.trans hp)) rfl⟩
  | false =>
    cases l <;> simp only [Lst.plain, Bool.true_eq_false] at hp
    rename_i v xs
    obtain ⟨h1, h2⟩ := jQ.1 h
    obtain ⟨a, b, rfl, h3, h4⟩ := uF k h2
    refine ⟨a, b, rfl, jQ.2 ⟨fun v hv => h1 v ?_, by simpa using h3⟩, jQ.2 ⟨fun v hv => h1 v ?_, ?_⟩⟩
    · exact List.mem_of_mem_take (by simpa using hv)
    · exact List.mem_of_mem_drop (List.mem_of_mem_take hv)
    · rwa [List.take_of_length_le (by simp [Lst.len])]

theorem aHb (l : Lst) (a n m : Nat) (h : n ≤ m) : (l.cut a m).cut 0 n = l.cut a n := by
  cases l <;> simp only [Lst.cut, List.drop_zero, List.take_take, Nat.min_eq_left h]

theorem aJc {l : Lst} {cs : List Value} {a n : Nat} (h : LR X l cs) (hn : a + n ≤ l.len) :
    ∃ p q r, cs = p ++ (q ++ r) ∧ p.length = a * l.kind.size ∧ q.length = n * l.kind.size ∧ LR X (l.cut a n) q := by
  obtain ⟨p, q, rfl, h1, h2⟩ := vX h (k := a) (by omega)
  have e : (l.cut a (l.len - a)).len = l.len - a := by rw [mC]; omega
  obtain ⟨q, r, rfl, h3, h4⟩ := vX h2 (k := n) (by omega)
  rw [aHb _ _ _ _ (by omega)] at h3
  refine ⟨p, q, r, rfl, ?_, ?_, h3⟩
  · rw [jN h1, mC, qV, Nat.min_eq_left (by omega)]
  · rw [jN h3, mC, qV, Nat.min_eq_left (by omega)]

/-! ### Slicing -/
def intV (x : Option (IntKind × Int)) : Option Value := x.map fun p => .int p.1 p.2

theorem xB (w : World) (isS : Bool) (len cap : Nat) (lo hi mx : Option (IntKind × Int)) (l h m : Int) (el : l = (lo.map (·.2)).getD 0) (eh : h = (hi.map (·.2)).getD (len : Int))
    (em : m = (mx.map (·.2)).getD (cap : Int)) (hmx : mx.isSome = true → hi.isSome = true) (h0 : 0 ≤ l) (h1 : l ≤ h) (h2 : h ≤ m) (h3 : m ≤ cap) :
    (Instr.sliceBounds isS len cap (intV lo) (intV hi) (intV mx)).run P w = .ok (l.toNat, h.toNat, m.toNat) w := by
  have eh' : ((h.toNat : Nat) : Int) = h := Int.toNat_of_nonneg (by omega)
  have em' : ((m.toNat : Nat) : Int) = m := Int.toNat_of_nonneg (by omega)
  cases lo with
  | none =>
    have : l = 0 := by simpa using el
    subst this
    cases hi with
    | none =>
      cases mx with
      | none => simp at eh em; subst eh em; simp [Instr.sliceBounds, intV]
      | some p => simp at hmx
    | some q =>
      cases mx with
      | none => simp at eh em; subst eh em; simp [Instr.sliceBounds, intV]; rw [run_sliceBound w _ _ _ _ (by omega) (by omega)]; simp
      | some p =>
        simp at eh em; subst eh em; simp [Instr.sliceBounds, intV]; rw [run_sliceBound w _ _ _ _ (by omega) (by omega)]
        simp only [Result.andThen_ok]; rw [run_sliceBound w _ _ _ _ (by omega) (by omega)]; simp
  | some r =>
    have : l = r.2 := by simpa using el
    subst this
    cases hi with
    | none =>
      cases mx with
      | none => simp at eh em; subst eh em; simp [Instr.sliceBounds, intV]; rw [run_sliceBound w _ _ _ _ (by omega) (by omega)]; simp
      | some p => simp at hmx
    | some q =>
      cases mx with
      | none =>
        simp at eh em; subst eh em; simp [Instr.sliceBounds, intV]; rw [run_sliceBound w _ _ _ _ (by omega) (by omega)]
        simp only [Result.andThen_ok]; rw [run_sliceBound w _ _ _ _ (by omega) (by omega)]; simp
      | some p =>
        simp at eh em; subst eh em; simp [Instr.sliceBounds, intV]; rw [run_sliceBound w _ _ _ _ (by omega) (by omega)]
        simp only [Result.andThen_ok]; rw [run_sliceBound w _ _ _ _ (by omega) (by omega)]
        simp only [Result.andThen_ok]; rw [run_sliceBound w _ _ _ _ (by omega) (by omega)]; simp

theorem yR {T E : TypeId} {e : LK} (hu : P.underlying T = some (.slice E)) (he : elB P E e = true) (w : World) (a : Option Addr) (len cap : Nat) (lo hi mx : Option (IntKind × Int)) (l h m : Int)
    (el : l = (lo.map (·.2)).getD 0) (eh : h = (hi.map (·.2)).getD (len : Int)) (em : m = (mx.map (·.2)).getD (cap : Int)) (hmx : mx.isSome = true → hi.isSome = true) (h0 : 0 ≤ l) (h1 : l ≤ h) (h2 : h ≤ m) (h3 : m ≤ cap) :
    (Instr.sliceAt T (.slice a len cap) (intV lo) (intV hi) (intV mx)).run P w = .ok (.slice (if m.toNat = l.toNat then a else a.map (·.add (l.toNat * e.size))) (h.toNat - l.toNat) (m.toNat - l.toNat)) w := by
  simp only [Instr.sliceAt, Instr.slice, Sem.run_bind, run_underlying hu, Result.andThen_ok, xB w true len cap lo hi mx l h m el eh em hmx h0 h1 h2 h3, mB he, Sem.run_pure]

theorem tC {x x' : Bool} {l : Lst} {a : Option Addr} {cap : Nat} (hx : SlV X x l (.slice a l.len cap)) (lo h m : Nat) (h1 : lo ≤ h) (h2 : h ≤ m) (h3 : h ≤ l.len) (h4 : m ≤ cap) (hx' : x' = true → m = h) :
    SlV X x' (l.cut lo (h - lo)) (.slice (if m = lo then a else a.map (·.add (lo * l.kind.size))) (h - lo) (m - lo)) := by
  obtain ⟨a', cap', heq, g1, g2, g3, g4⟩ := hx
  cases heq
  have hlen : (l.cut lo (h - lo)).len = h - lo := by rw [mC]; omega
  refine ⟨_, _, by rw [hlen], by rw [hlen]; omega, fun e => by rw [hlen, hx' e], fun e => ?_, fun hne => ?_⟩
  · split at e
    · omega
    · cases a with
      | none => have := g3 rfl; omega
      | some ad => cases e
  · rw [hlen] at hne
    have hm : ¬ m = lo := by omega
    obtain ⟨ad, rfl, hs, hS, cs, hq, hr⟩ := g4 (by omega)
    obtain ⟨p, q, r, rfl, hp, _, hq2⟩ := aJc (a := lo) (n := h - lo) hq (by omega)
    refine ⟨ad.add (lo * l.kind.size), by simp [hm], ?_, ?_, q, hq2, ?_⟩
    · unfold Addr.add; split <;> simp [hs]
    · unfold Addr.add; split <;> exact hS
    · have := hr.sub
      rw [hp] at this
      unfold Addr.add; split
      · rename_i e; rwa [e, Nat.add_zero] at this
      · exact this

def OptR (X : Cx) : Option AV → Option Value → Prop
  | none, none => True
  | some v, some c => VV X v c
  | _, _ => False

theorem jA {lo : Option AV} {cl : Option Value} {k : IntKind} {z a : Int} (h : OptR X lo cl) (e : lo.getD (.int .i64 z) = .int k a) :
    ∃ lo', cl = intV lo' ∧ (lo'.map (·.2)).getD z = a ∧ lo'.isSome = lo.isSome := by
  cases lo with
  | none =>
    cases cl with
    | none => simp at e; exact ⟨none, rfl, e.2, rfl⟩
    | some c => exact h.elim
  | some v =>
    cases cl with
    | none => exact h.elim
    | some c =>
      have e : v = .int k a := e
      subst e
      have h : c = .int k a := h
      subst h
      exact ⟨some (k, a), rfl, rfl, rfl⟩

theorem jJ {lo : Option AV} {cl : Option Value} (h : OptR X lo cl) (e : lo = none) : cl = intV none := by
  subst e; cases cl with
  | none => rfl
  | some c => exact h.elim

theorem aEk {T : TypeId} {x : Bool} {l : Lst} {c : Value} {d : TyD} {lo hi mx : Option AV} {clo chi cmx : Option Value} {S : Prop} {v : AV} {news : List AObj}
    (hT : tyB P d T = true) (hx : VV X (.sl x l) c) (hlo : OptR X lo clo) (hhi : OptR X hi chi) (hmx : OptR X mx cmx)
    (h : eZ (d.isSlice l.kind) (aBa x l lo hi mx) = some (S, v, news)) (hS : S) : news = [] ∧ Pure P (Instr.sliceAt T c clo chi cmx) X v := by
  unfold eZ at h
  split at h
  rotate_left
  · cases h
  rename_i hk
  obtain ⟨rfl⟩ : d = .slice l.kind := by
    unfold TyD.isSlice at hk; split at hk
    · simp at hk; rw [hk]
    · cases hk
  obtain ⟨E, hu, he⟩ := iM hT
  obtain ⟨a, cap, rfl, g1, g2, g3, g4⟩ := id hx
  have run := fun lo hi mx l' h m el eh em hm h0 h1 h2 h3 => yR (P := P) hu he X.w a l.len cap lo hi mx l' h m el eh em hm h0 h1 h2 h3
  unfold aBa at h
  split at h
  · obtain ⟨rfl, rfl, rfl⟩ := dP h
    have e1 := jJ hlo rfl; have e2 := jJ hhi rfl; have e3 := jJ hmx rfl
    subst e1 e2 e3
    refine ⟨rfl, _, run none none none 0 l.len cap rfl rfl rfl (by simp) (by omega) (by omega) (by omega) (by omega), ?_⟩
    have := tC (x' := x) hx 0 l.len cap (by omega) (by omega) (by omega) (by omega) g2
    simp only [Int.toNat_zero, Int.toNat_natCast, Nat.sub_zero] at this ⊢
    have e : l.cut 0 l.len = l := by cases l <;> simp [Lst.cut, Lst.len]
    rwa [e] at this
  · rename_i k b
    obtain ⟨rfl, rfl, rfl⟩ := dP h
    have e1 := jJ hlo rfl; have e3 := jJ hmx rfl
    obtain ⟨hi', e2, e2', _⟩ := jA (z := 0) hhi rfl
    subst e1 e2 e3
    refine ⟨rfl, _, run none hi' none 0 b cap rfl (by cases hi' <;> simp_all) rfl (by simp) (by omega) (by omega) (by omega) (by omega), ?_⟩
    have := tC (x' := false) hx 0 b.toNat cap (by omega) (by omega) (by omega) (by omega) (by simp)
    show SlV X _ _ _
    simpa using this
  · rename_i k b
    obtain ⟨rfl, rfl, rfl⟩ := dP h
    have e1 := jJ hhi rfl; have e3 := jJ hmx rfl
    obtain ⟨lo', e2, e2', _⟩ := jA (z := 0) hlo rfl
    subst e1 e2 e3
    refine ⟨rfl, _, run lo' none none b l.len cap e2'.symm rfl rfl (by simp) (by omega) (by omega) (by omega) (by omega), ?_⟩
    have := tC (x' := x) hx b.toNat l.len cap (by omega) (by omega) (by omega) (by omega) g2
    show SlV X _ _ _
    simpa using this
  · rename_i k b k' b'
    obtain ⟨rfl, rfl, rfl⟩ := dP h
    have e3 := jJ hmx rfl
    obtain ⟨lo', e2, e2', _⟩ := jA (z := 0) hlo rfl
    obtain ⟨hi', e1, e1', _⟩ := jA (z := 0) hhi rfl
    subst e1 e2 e3
    refine ⟨rfl, _, run lo' hi' none b b' cap e2'.symm (by cases hi' <;> simp_all) rfl (by simp) (by omega) (by omega) (by omega) (by omega), ?_⟩
    have := tC (x' := false) hx b.toNat b'.toNat cap (by omega) (by omega) (by omega) (by omega) (by simp)
    show SlV X _ _ _
    simpa using this
  · rename_i k b k' b'
    obtain ⟨rfl, rfl, rfl⟩ := dP h
    have e3 := jJ hlo rfl
    obtain ⟨hi', e2, e2', q2⟩ := jA (z := 0) hhi rfl
    obtain ⟨mx', e1, e1', q1⟩ := jA (z := 0) hmx rfl
    subst e1 e2 e3
    refine ⟨rfl, _, run none hi' mx' 0 b b' rfl (by cases hi' <;> simp_all) (by cases mx' <;> simp_all) (by simp [q2]) (by omega) (by omega) (by omega) (by omega), ?_⟩
    have := tC (x' := true) hx 0 b.toNat b'.toNat (by omega) (by omega) (by omega) (by omega) (by omega)
    show SlV X _ _ _
    simpa using this
  · rename_i k0 b0 k b k' b'
    obtain ⟨rfl, rfl, rfl⟩ := dP h
    obtain ⟨lo', e3, e3', _⟩ := jA (z := 0) hlo rfl
    obtain ⟨hi', e2, e2', q2⟩ := jA (z := 0) hhi rfl
    obtain ⟨mx', e1, e1', q1⟩ := jA (z := 0) hmx rfl
    subst e1 e2 e3
    refine ⟨rfl, _, run lo' hi' mx' b0 b b' e3'.symm (by cases hi' <;> simp_all) (by cases mx' <;> simp_all) (by simp [q2]) (by omega) (by omega) (by omega) (by omega), ?_⟩
    have := tC (x' := true) hx b0.toNat b.toNat b'.toNat (by omega) (by omega) (by omega) (by omega) (by omega)
    show SlV X _ _ _
    simpa using this
  · cases h

theorem pX {d : TyD} {o : Option AObj} (h : d.fitsRow (iH o) = true) : ∃ k ver l, rowO o = some (k, ver, l) ∧ d = .slice l.kind := by
  unfold iH at h
  split at h
  · rename_i k ver l
    unfold TyD.fitsRow at h
    split at h
    · rename_i hk; cases hk; simp at h; exact ⟨k, ver, l, rfl, by rw [h]⟩
    · cases h
  · unfold TyD.fitsRow at h; split at h <;> simp_all

theorem aEl {T : TypeId} {x : Bool} {id ver off len : Nat} {c : Value} {d : TyD} {lo hi mx : Option AV} {clo chi cmx : Option Value} {S : Prop} {v : AV} {news : List AObj}
    (hT : tyB P d T = true) (hx : VV X (.sref x id ver off len) c) (hlo : OptR X lo clo) (hhi : OptR X hi chi) (hmx : OptR X mx cmx)
    (hd : d.fitsRow (iH (X.h[id]?)) = true)
    (h : nC x id ver off len lo hi mx = some (S, v, news)) (hS : S) (hver : ∀ k ver' l, rowO (X.h[id]?) = some (k, ver', l) → ver = ver') : news = [] ∧ Pure P (Instr.sliceAt T c clo chi cmx) X v := by
  obtain ⟨rk, ver', l, hl, rfl⟩ := pX hd
  obtain ⟨E, hu, he⟩ := iM hT
  obtain ⟨a, n, cap, rfl, rk', ver2, l2, hl2, g0, g⟩ := hx
  rw [hl] at hl2; cases hl2
  obtain ⟨rfl, g1, g2, g3, g4, g5⟩ := g (hver _ _ _ hl)
  have run := fun lo hi mx l' h m el eh em hm h0 h1 h2 h3 => yR (P := P) hu he X.w a n cap lo hi mx l' h m el eh em hm h0 h1 h2 h3
  have fin : ∀ (x' : Bool) (lo h m : Nat), lo ≤ h → h ≤ n → h ≤ m → m ≤ cap → (x' = true → m = h) →
      VV X (.sref x' id ver (off + lo) (h - lo)) (.slice (if m = lo then a else a.map (·.add (lo * l.kind.size))) (h - lo) (m - lo)) := by
    intro x' lo h m q1 q2 q3 q4 q5
    refine ⟨_, _, _, rfl, rk, ver', l, hl, g0, fun _ => ⟨rfl, by omega, by omega, fun e => by rw [q5 e], fun e => ?_, fun hc => ?_⟩⟩
    · split at e
      · omega
      · cases a with
        | none => have := g4 rfl; omega
        | some ad => cases e
    · obtain ⟨b, hb, ha, hz⟩ := g5 (by omega)
      refine ⟨b, hb, ?_, ?_⟩
      · rw [if_neg (by omega), ha]; simp only [Option.map_some, Addr.add_lit, Nat.add_mul]
      · refine Nat.le_trans (Nat.mul_le_mul_right _ ?_) hz; omega
  unfold nC at h
  split at h
  · rename_i ka a0 kb b0 e1 e2
    obtain ⟨rfl, rfl, rfl⟩ := dP h
    have e3 := jJ hmx rfl
    obtain ⟨lo', q1, q1', _⟩ := jA hlo e1
    obtain ⟨hi', q2, q2', q2''⟩ := jA hhi e2
    subst q1 q2 e3
    refine ⟨rfl, _, run lo' hi' none a0 b0 cap q1'.symm q2'.symm rfl (by simp) (by omega) (by omega) (by omega) (by omega), ?_⟩
    have := fin (x && hi.isNone) a0.toNat b0.toNat cap (by omega) (by omega) (by omega) (by omega) (fun e => by
      simp only [Bool.and_eq_true] at e
      have h1 := g3 e.1
      cases hi with
      | none => simp at e2; omega
      | some _ => simp at e)
    simpa using this
  · rename_i ka a0 kb b0 km m0 e1 e2
    obtain ⟨rfl, rfl, rfl⟩ := dP h
    obtain ⟨hs, hS⟩ := hS
    obtain ⟨lo', q1, q1', _⟩ := jA hlo e1
    obtain ⟨hi', q2, q2', q2''⟩ := jA hhi e2
    obtain ⟨mx', q3, q3', q3''⟩ := jA (z := 0) hmx rfl
    subst q1 q2 q3
    refine ⟨rfl, _, run lo' hi' mx' a0 b0 m0 q1'.symm q2'.symm (by cases mx' <;> simp_all) (by simp [q2'', hs]) (by omega) (by omega) (by omega) (by omega), ?_⟩
    have := fin true a0.toNat b0.toNat m0.toNat (by omega) (by omega) (by omega) (by omega) (fun e => by omega)
    simpa using this
  · cases h

theorem dT {b : Bool} {x : D} {r} (h : eZ b x = some r) : b = true ∧ x = some r := by
  cases b
  · cases h
  · exact ⟨rfl, h⟩

theorem aLL {k : RK} {ver : Nat} {l : Lst} {id b : Nat} (H : HR X) (hl : rowO (X.h[id]?) = some (k, ver, l)) (hb : X.μ[id]? = some (some b)) : l.len * l.kind.size ≤ dZ X.w b := by
  obtain ⟨o, ho⟩ : ∃ o, X.h[id]? = some o := by cases h : X.h[id]? with
    | none => rw [h] at hl; cases hl
    | some o => exact ⟨o, rfl⟩
  rw [ho] at hl
  cases o <;> simp only [rowO, reduceCtorEq, Option.some.injEq, Prod.mk.injEq] at hl
  obtain ⟨rfl, rfl, rfl⟩ := hl
  obtain ⟨b', hb', hor⟩ := H.obj _ _ ho
  rw [hb] at hb'; cases hb'
  rcases hor with ⟨h, _⟩ | ⟨b2, cs, e, h1, h2, ⟨a, r, hr, hq⟩, _⟩
  · cases h
  · cases h1
    simp only [dZ, h2]
    rw [← Array.length_toList, hr, List.length_append, jN hq]; omega

theorem aDb {T : TypeId} {id : Nat} {c : Value} {d : TyD} {lo hi mx : Option AV} {clo chi cmx : Option Value} {S : Prop} {v : AV} {news : List AObj} (H : HR X)
    (hT : tyB P d T = true) (hx : VV X (.ptr id []) c) (hlo : OptR X lo clo) (hhi : OptR X hi chi) (hmx : OptR X mx cmx)
    (h : jL (X.h[id]?) id d lo hi mx = some (S, v, news)) (hS : S) : news = [] ∧ Pure P (Instr.sliceAt T c clo chi cmx) X v := by
  unfold jL at h
  split at h
  rotate_left
  · cases h
  rename_i ver l hrow
  have hd := (dT h).1
  have h2 := (dT h).2
  clear h
  obtain ⟨rfl⟩ : d = .arr l.len l.kind := by
    unfold TyD.isArr at hd; split at hd
    · simp at hd; rw [hd.1, hd.2]
    · cases hd
  obtain ⟨E, hu, he⟩ := rQ hT
  split at h2
  rotate_left
  · cases h2
  rename_i ka a0 kb b0 e1 e2
  obtain ⟨rfl, rfl, rfl⟩ := dP h2
  have e3 := jJ hmx rfl
  obtain ⟨lo', q1, q1', _⟩ := jA hlo e1
  obtain ⟨hi', q2, q2', q2''⟩ := jA hhi e2
  subst q1 q2 e3
  obtain ⟨b, hb, rfl, _⟩ : ∃ b, X.μ[id]? = some (some b) ∧ c = .pointer (some ⟨b, 0, none⟩) ∧ _ := hx
  have hl : rowO (X.h[id]?) = some (.arr, ver, l) := by rw [hrow]; rfl
  have hsz := aLL H hl hb
  refine ⟨rfl, .slice (some (if l.len = a0.toNat then ⟨b, 0, none⟩ else (⟨b, 0, none⟩ : Addr).add (a0.toNat * l.kind.size))) (b0.toNat - a0.toNat) (l.len - a0.toNat), ?_, ?_⟩
  · have hr := xB (P := P) X.w false l.len l.len lo' hi' none a0 b0 l.len q1'.symm q2'.symm rfl (by simp) (by omega) (by omega) (by omega) (by omega)
    rw [show intV none = none from rfl] at hr
    simp only [show intV none = none from rfl, Instr.sliceAt, Sem.run_bind, run_underlying hu, Result.andThen_ok, Instr.sureAddr, Sem.run_pure, hr, mB he, Int.toNat_natCast]
  · refine ⟨_, _, _, rfl, _, ver, l, hl, Nat.le_refl _, fun _ => ⟨rfl, by omega, by omega, fun e => ?_, fun e => (by cases e), fun hc => ⟨b, hb, ?_, ?_⟩⟩⟩
    · cases hi with
      | none => simp at e2; omega
      | some _ => simp at e
    · rw [if_neg (by omega), Addr.add_lit, Nat.zero_add]
    · refine Nat.le_trans (Nat.mul_le_mul_right _ ?_) hsz; omega

theorem aEW (s : bF) (l h : Nat) : (bstr s).extract l h = bstr ((s.drop l).take (h - l)) := by
  apply ByteArray.ext
  simp [bstr, ByteArray.data_extract]

theorem aDc {T : TypeId} {s : bF} {c : Value} {lo hi mx : Option AV} {clo chi cmx : Option Value} {S : Prop} {v : AV} {news : List AObj}
    (hT : tyB P .str T = true) (hx : VV X (.str s) c) (hlo : OptR X lo clo) (hhi : OptR X hi chi) (hmx : OptR X mx cmx)
    (h : yI s lo hi mx = some (S, v, news)) (hS : S) : news = [] ∧ Pure P (Instr.sliceAt T c clo chi cmx) X v := by
  have hx : c = .string (bstr s) := hx
  subst hx
  have run : ∀ (lo hi : Option (IntKind × Int)) (l h : Int), l = (lo.map (·.2)).getD 0 → h = (hi.map (·.2)).getD (s.length : Int) → 0 ≤ l → l ≤ h → h ≤ s.length →
      (Instr.sliceAt T (.string (bstr s)) (intV lo) (intV hi) none).run P X.w = .ok (.string (bstr ((s.drop l.toNat).take (h.toNat - l.toNat)))) X.w := by
    intro lo hi l h el eh h0 h1 h2
    have hr := xB (P := P) X.w false s.length s.length lo hi none l h s.length el eh rfl (by simp) (by omega) (by omega) (by omega) (by omega)
    rw [show intV none = none from rfl] at hr
    simp [Instr.sliceAt, Instr.slice, run_underlying (pW hT), hr, aEW]
  unfold yI at h
  split at h
  · obtain ⟨rfl, rfl, rfl⟩ := dP h
    have e1 := jJ hlo rfl; have e3 := jJ hmx rfl
    obtain ⟨hi', e2, e2', _⟩ := jA (z := s.length) hhi rfl
    subst e1 e2 e3
    refine ⟨rfl, _, run none hi' 0 _ rfl e2'.symm (by omega) (by omega) (by omega), ?_⟩
    simp [VV, VB]
  · obtain ⟨rfl, rfl, rfl⟩ := dP h
    have e1 := jJ hhi rfl; have e3 := jJ hmx rfl
    obtain ⟨lo', e2, e2', _⟩ := jA (z := 0) hlo rfl
    subst e1 e2 e3
    refine ⟨rfl, _, run lo' none _ s.length e2'.symm rfl (by omega) (by omega) (by omega), ?_⟩
    simp only [VV, VB, Int.toNat_natCast]
    congr 2
    rw [List.take_of_length_le (by simp)]
  · obtain ⟨rfl, rfl, rfl⟩ := dP h
    have e3 := jJ hmx rfl
    obtain ⟨lo', e2, e2', _⟩ := jA (z := 0) hlo rfl
    obtain ⟨hi', e1, e1', _⟩ := jA (z := s.length) hhi rfl
    subst e1 e2 e3
    refine ⟨rfl, _, run lo' hi' _ _ e2'.symm e1'.symm (by omega) (by omega) (by omega), ?_⟩
    simp [VV, VB]
  · cases h

theorem aGb {T : TypeId} {x : AV} {c : Value} {d : TyD} {lo hi mx : Option AV} {clo chi cmx : Option Value} {S : Prop} {v : AV} {news : List AObj} (H : HR X)
    (hT : tyB P d T = true) (hx : VV X x c) (hlo : OptR X lo clo) (hhi : OptR X hi chi) (hmx : OptR X mx cmx)
    (h : dO d X.h x lo hi mx = some (S, v, news)) (hS : S) : news = [] ∧ Pure P (Instr.sliceAt T c clo chi cmx) X v := by
  unfold dO at h
  split at h
  · obtain ⟨hd, h⟩ := dT h
    obtain rfl : d = .str := by cases d <;> first | rfl | cases hd
    exact aDc hT hx hlo hhi hmx h hS
  · exact aEk hT hx hlo hhi hmx h hS
  · obtain ⟨hd, h⟩ := dT h
    obtain ⟨hv, h⟩ := dT h
    refine aEl hT hx hlo hhi hmx hd h hS fun k ver' l hl => ?_
    unfold verB at hv
    split at hv
    · rename_i hh; rw [hh] at hl; cases hl; simpa using hv
    · cases hv
  · exact aDb H hT hx hlo hhi hmx h hS
  · cases h
end
end Lam
namespace Lam
open Go

section
variable {P : Program} {X : Cx}

theorem uH : ∀ {fs : List TyD} {off : Nat} {l : List Field}, nW P fs off l = true → l.length = fs.length ∧ ∀ i d, fs[i]? = some d →
    ∃ f, l[i]? = some f ∧ f.offset = off + TyD.sizes (fs.take i) ∧ f.name ≠ "_" ∧ (∃ inf, P.info? f.type = some inf ∧ inf.size = d.size) ∧ 0 < d.size ∧ tyB P d f.type = true
  | [], off, l, h => by
    simp only [nW, List.isEmpty_iff] at h
    subst h; exact ⟨rfl, fun i d h => by simp at h⟩
  | d :: ds, off, l, h => by
    unfold nW at h
    cases l with
    | nil => cases h
    | cons f l' =>
      simp only [Bool.and_eq_true, bne_iff_ne, ne_eq] at h
      obtain ⟨⟨⟨⟨⟨h1, h2⟩, h3⟩, h4⟩, h5⟩, h6⟩ := h
      obtain ⟨q1, q2⟩ := uH h6
      refine ⟨by simp [q1], fun i e hi => ?_⟩
      cases i with
      | zero =>
        simp only [List.getElem?_cons_zero, Option.some.injEq] at hi; subst hi
        refine ⟨f, rfl, by simpa [TyD.sizes] using Nat.eq_of_beq_eq_true h1, h2, ?_, ?_, h5⟩
        · split at h3
          · rename_i inf hinf; exact ⟨inf, hinf, Nat.eq_of_beq_eq_true h3⟩
          · cases h3
        · unfold Nat.blt at h4; exact Nat.le_of_ble_eq_true h4
      | succ i =>
        simp only [List.getElem?_cons_succ] at hi
        obtain ⟨f', g1, g2, g3⟩ := q2 i e hi
        refine ⟨f', by simpa using g1, ?_, g3⟩
        rw [g2]; simp only [List.take_succ_cons, TyD.sizes]; omega

theorem aJd {id i off : Nat} {p : List PS} {c : Value} (h : PtV X id p c) : ∃ o, c = .pointer (some o) ∧ PtV X id (p ++ [.f i off]) (.pointer (some (o.add off))) := by
  have e : ∀ q : List PS, offs (q ++ [.f i off]) = offs q + off := fun q => by rw [aAC]; simp [offs]
  cases p with
  | nil =>
    obtain ⟨b, hb, rfl, hk⟩ := h
    exact ⟨_, rfl, b, hb, by rw [Addr.add_lit]; simp [offs], hk⟩
  | cons x r => cases x with
    | f j o =>
      obtain ⟨b, hb, rfl, hk⟩ := h
      exact ⟨_, rfl, b, hb, by rw [Addr.add_lit]; exact congrArg (fun n => Value.pointer (some ⟨b, n, none⟩)) (e (.f j o :: r)).symm, hk⟩
    | i v j s =>
      obtain ⟨k, ver', l, hl, hle, ⟨o, rfl⟩, h1⟩ := h
      refine ⟨o, rfl, k, ver', l, hl, hle, ⟨_, rfl⟩, fun e' => ?_⟩
      obtain ⟨b, hb, hc⟩ := h1 e'
      cases hc
      exact ⟨b, hb, by rw [Addr.add_lit]; exact congrArg (fun n => Value.pointer (some ⟨b, n, none⟩)) (e (.i v j s :: r)).symm⟩

theorem aBS {T : TypeId} {d : TyD} {x : AV} {c : Value} {f : Nat} {S : Prop} {v : AV} {news : List AObj} (hT : tyB P d T = true) (hx : VV X x c)
    (h : aC d x f = some (S, v, news)) (hS : S) : news = [] ∧ Pure P (Instr.fieldAt T c f) X v := by
  unfold aC at h
  have key : ∀ (fs : List TyD), d = .strct fs → f < fs.length → ∀ o, (Instr.fieldAt T (.pointer (some o)) f).run P X.w = .ok (.pointer (some (o.add (TyD.sizes (fs.take f))))) X.w := by
    rintro fs rfl hf o
    obtain ⟨_, _, fields, hu, hfs⟩ := pC hT
    obtain ⟨_, hat⟩ := uH hfs
    obtain ⟨g, g1, g2, _, ⟨inf, g4, g5⟩, g6, _⟩ := hat f fs[f] (by simp [hf])
    have hg : fields[f]? = some g := by simpa using g1
    have hz : (Go.sizeOf g.type).run P X.w = .ok inf.size X.w := by simp [Go.sizeOf, typeInfo, g4]
    have hne : ¬ inf.size = 0 := by omega
    simp [Instr.fieldAt, run_underlying hu, hg, Instr.sureAddr, fieldPlace, hz, hne, g2]
  split at h
  · rename_i fs id p
    split at h
    · rename_i hf
      obtain ⟨rfl, rfl, rfl⟩ := dP h
      obtain ⟨o, rfl, ho⟩ := aJd (i := f) (off := TyD.sizes (fs.take f)) hx
      exact ⟨rfl, _, key fs rfl hf o, ho⟩
    · cases h
  · rename_i fs l i p
    split at h
    · rename_i hf
      obtain ⟨rfl, rfl, rfl⟩ := dP h
      obtain ⟨b, o, rfl, hi, hS, hr⟩ := hx
      refine ⟨rfl, _, key fs rfl hf _, b, o, ?_, hi, hS, hr⟩
      rw [Addr.add_lit, aAC]; simp [offs, Nat.add_assoc]
    · cases h
  · cases h

theorem aBg {T : TypeId} {d : TyD} {v : AV} {a us b : List Value} {cs : Array Value} (hT : tyB P d T = true) (hf : fitP d v) (hv : VC X v us) (hcs : cs.toList = a ++ (us ++ b)) :
    ∃ r, (part T cs a.length).run P X.w = .ok r X.w ∧ r = tO d us := by
  obtain ⟨h1, h2⟩ := aAk hf hv
  refine ⟨_, ?_, rfl⟩
  unfold part
  simp only [Sem.run_bind, aDq hT (pH hf), Result.andThen_ok]
  unfold tO
  by_cases ha : d.isAgg = true
  · simp only [ha, if_true, Sem.run_bind, sN hT (pH hf), Result.andThen_ok, Sem.run_pure]
    congr 2
    apply Array.ext'
    rw [Array.toList_extract, hcs, ← h1]
    simp [List.extract_eq_take_drop]
  · have ha' : d.isAgg = false := by simpa using ha
    obtain ⟨u, rfl⟩ := List.length_eq_one_iff.1 (h2 ha')
    have : cs[a.length]? = some u := by
      rw [← Array.getElem?_toList, hcs, List.getElem?_append_right (Nat.le_refl _)]
      simp
    simp [ha', this]


theorem aGc {T : TypeId} {d : TyD} {x : AV} {c : Value} {f : Nat} {S : Prop} {v : AV} {news : List AObj} (hT : tyB P d T = true) (hx : VV X x c)
    (h : yJ d x f = some (S, v, news)) (hS : S) : news = [] ∧ Pure P (Instr.field T c f) X v := by
  unfold yJ at h
  split at h
  · rename_i fs vs
    split at h
    · rename_i hc
      obtain ⟨h1, h2, h3⟩ := hc
      obtain ⟨rfl, rfl, rfl⟩ := dP h
      simp only [VV] at hx
      obtain ⟨cs, rfl, hv⟩ := hx
      have hg : vs[f]? = some (vs.getD f .top) := by simp [List.getD, h3]
      obtain ⟨a, us, b, hcs, ha, hvu, _, _⟩ := aBN hv hg
      obtain ⟨_, _, fields, hu, hfs⟩ := pC hT
      obtain ⟨_, hat⟩ := uH hfs
      obtain ⟨g, g1, g2, _, _, _, g7⟩ := hat f (fs.getD f .other) (by simp [List.getD, h2])
      have hfld : fields[f]? = some g := by simpa using g1
      obtain ⟨r, hr, rfl⟩ := aBg g7 hS hvu hcs
      refine ⟨rfl, _, ?_, uG hS hvu⟩
      have e : g.offset = a.length := by rw [g2, Nat.zero_add, ha, h1]
      simp [Instr.field, run_underlying hu, hfld, asAgg, e, hr]
    · cases h
  · cases h

theorem vA {d : TyD} {k : LK} (h : d.isSlice k = true) : d = .slice k := by
  unfold TyD.isSlice at h; split at h
  · simp at h; rw [h]
  · cases h
theorem aDr {d : TyD} {n : Nat} {k : LK} (h : d.isArr n k = true) : d = .arr n k := by
  unfold TyD.isArr at h; split at h
  · simp at h; rw [h.1, h.2]
  · cases h

theorem sF {T E : TypeId} {e : LK} (hu : P.underlying T = some (.slice E)) (he : elB P E e = true) (w : World) (a : Addr) (len cap : Nat) (k : IntKind) (i : Int) (h0 : 0 ≤ i) (h1 : i < len) :
    (Instr.indexAt T (.slice (some a) len cap) (.int k i)).run P w = .ok (.pointer (some (a.add (i.toNat * e.size)))) w := by
  simp [Instr.indexAt, asIntOf, run_underlying hu, mB he, h0, h1]

theorem aBT {T : TypeId} {d : TyD} {x i : AV} {c ci : Value} {S : Prop} {v : AV} {news : List AObj} (H : HR X) (hT : tyB P d T = true) (hx : VV X x c) (hi : VV X i ci)
    (h : aH d X.h x i = some (S, v, news)) (hS : S) : news = [] ∧ Pure P (Instr.indexAt T c ci) X v := by
  unfold aH at h
  split at h
  rotate_left
  · cases h
  rename_i k n
  have hi : ci = .int k n := hi
  subst hi
  split at h
  · rename_i y l
    have hd := (dT h).1
    have h2 := (dT h).2
    obtain rfl := vA hd
    obtain ⟨E, hu, he⟩ := iM hT
    obtain ⟨rfl, rfl, rfl⟩ := dP h2
    obtain ⟨a, cap, rfl, g1, g2, g3, g4⟩ := hx
    obtain ⟨ad, rfl, hs, hS', cs, hq, hr⟩ := g4 (by omega)
    obtain ⟨blk, off, spot⟩ := ad
    simp only at hs; subst hs
    obtain ⟨p, us, r, rfl, hp, _, hec, _⟩ := wX hq (i := n.toNat) (by omega)
    refine ⟨rfl, _, sF hu he X.w _ _ _ k n hS.1 hS.2, blk, off + n.toNat * l.kind.size, ?_, by omega, hS', us, hec, ?_⟩
    · rw [Addr.add_lit]; simp [offs]
    · rw [← hp]; exact hr.sub
  · rename_i y id ver off len
    unfold uB at h
    split at h
    · rename_i rk ver' l hrow
      have hd := (dT h).1
      have h2 := (dT h).2
      obtain rfl := vA hd
      obtain ⟨E, hu, he⟩ := iM hT
      split at h2
      · rename_i hver
        obtain ⟨rfl, rfl, rfl⟩ := dP h2
        obtain ⟨a, m, cap, rfl, rk', ver2, l2, hl2, g0, g⟩ := hx
        rw [hrow] at hl2
        simp only [rowO, Option.some.injEq, Prod.mk.injEq] at hl2
        obtain ⟨rfl, rfl, rfl⟩ := hl2
        obtain ⟨rfl, g1, g2, g3, g4, g5⟩ := g hver
        obtain ⟨b, hb, rfl, hz⟩ := g5 (by omega)
        refine ⟨rfl, _, sF hu he X.w _ _ _ k n hS.1 hS.2, rk, ver', l, by rw [hrow]; rfl, g0, ⟨_, rfl⟩, fun _ => ⟨b, hb, ?_⟩⟩
        rw [Addr.add_lit]; simp [offs, Nat.add_mul]
      · cases h2
    · cases h
  · rename_i id
    unfold uC at h
    split at h
    · rename_i ver l hrow
      have hd := (dT h).1
      have h2 := (dT h).2
      obtain rfl := aDr hd
      obtain ⟨E, hu, he⟩ := rQ hT
      obtain ⟨rfl, rfl, rfl⟩ := dP h2
      obtain ⟨b, hb, rfl, _⟩ : ∃ b, X.μ[id]? = some (some b) ∧ c = .pointer (some ⟨b, 0, none⟩) ∧ _ := hx
      refine ⟨rfl, .pointer (some ((⟨b, 0, none⟩ : Addr).add (n.toNat * l.kind.size))), ?_, .arr, ver, l, by rw [hrow]; rfl, Nat.le_refl _, ⟨_, rfl⟩, fun _ => ⟨b, hb, ?_⟩⟩
      · simp [Instr.indexAt, asIntOf, run_underlying hu, mB he, hS.1, hS.2, Instr.sureAddr]
      · rw [Addr.add_lit]; simp [offs]
    · cases h
  · cases h

theorem aKv {E : TypeId} {e : LK} (h : elB P E e = true) (w : World) : (isAgg E).run P w = .ok e.isAgg w := by
  unfold elB at h
  split at h
  · cases h
  · simp only [Bool.and_eq_true] at h
    have h2 := h.2
    clear h
    unfold isAgg
    split at h2 <;> first | cases h2 | skip
    all_goals (rename_i hu; simp [run_underlying hu, LK.isAgg]; try simpa using h2)

def qW (e : LK) (cs : List Value) : Value := if e.isAgg then .agg cs.toArray else cs.headD undef

theorem aGd {l : Lst} {i : Nat} {u : List Value} (h : EC X (l.nth i) u) (hs : (l.nth i).scalar = !l.kind.isAgg) : VV X (l.nth i) (qW l.kind u) := by
  unfold qW
  cases ha : l.kind.isAgg with
  | true => exact aDo (by simpa using aAj h) (by rw [hs, ha]; rfl)
  | false =>
    obtain ⟨c, rfl, h2⟩ := aBc (aAj h) (by rw [hs, ha]; rfl)
    simpa using h2

theorem xC {E : TypeId} {e : LK} {u a b : List Value} {cs : Array Value} (he : elB P E e = true) (hl : u.length = e.size) (h1 : e.isAgg = false → e.size = 1) (hcs : cs.toList = a ++ (u ++ b)) (w : World) :
    (part E cs a.length).run P w = .ok (qW e u) w := by
  unfold part qW
  simp only [Sem.run_bind, aKv he, Result.andThen_ok]
  by_cases ha : e.isAgg = true
  · simp only [ha, if_true, Sem.run_bind, mB he, Result.andThen_ok, Sem.run_pure]
    congr 2
    apply Array.ext'
    rw [Array.toList_extract, hcs, ← hl]
    simp [List.extract_eq_take_drop]
  · have ha' : e.isAgg = false := by simpa using ha
    obtain ⟨c, rfl⟩ := List.length_eq_one_iff.1 (hl.trans (h1 ha'))
    have : cs[a.length]? = some c := by
      rw [← Array.getElem?_toList, hcs, List.getElem?_append_right (Nat.le_refl _)]
      simp
    simp [ha', this]

theorem LK.one {e : LK} (h : e.isAgg = false) : e.size = 1 := by
  cases e <;> first | rfl | cases h | (rename_i k; cases k <;> first | rfl | cases h)

theorem aGe {T : TypeId} {d : TyD} {x i : AV} {c ci : Value} {S : Prop} {v : AV} {news : List AObj} (hT : tyB P d T = true) (hx : VV X x c) (hi : VV X i ci)
    (h : rM d x i = some (S, v, news)) (hS : S) : news = [] ∧ Pure P (Instr.index T c ci) X v := by
  unfold rM at h
  split at h
  · rename_i s k n
    have hd := (dT h).1
    have h2 := (dT h).2
    obtain rfl : d = .str := by cases d <;> first | rfl | cases hd
    obtain ⟨rfl, rfl, rfl⟩ := dP h2
    have hx : c = .string (bstr s) := hx
    have hi : ci = .int k n := hi
    subst hx hi
    refine ⟨rfl, _, ?_, rfl⟩
    rw [run_index_string X.w T (bstr s) k n (pW hT), dif_pos (by simpa using hS)]
    congr 3
    have hn : n.toNat < s.length := by omega
    simp [bstr, List.getD, hn]
    rfl
  · rename_i l k n
    have hd := (dT h).1
    have h2 := (dT h).2
    obtain rfl := aDr hd
    obtain ⟨E, hu, he⟩ := rQ hT
    obtain ⟨rfl, rfl, rfl⟩ := dP h2
    simp only [VV] at hx
    obtain ⟨cs, rfl, hcs⟩ := hx
    have hi : ci = .int k n := hi
    subst hi
    obtain ⟨a, u, r, hf, ha, hl, hec, hsc⟩ := wX hcs (i := n.toNat) (by omega)
    have := xC he hl LK.one hf X.w
    rw [ha] at this
    refine ⟨rfl, _, ?_, aGd hec hsc⟩
    simp [Instr.index, asIntOf, run_underlying hu, hS.1, hS.2, mB he, this]
  · cases h

theorem aDd {x : AV} {c : Value} {S : Prop} {v : AV} {news : List AObj} {o : Oper} {a : Act} {y : Operand} (ho : o.op = .nilCheck y) (hy : a.eval y = c) (hx : VV X x c)
    (h : cJ x = some (S, v, news)) (hS : S) : news = [] ∧ ∃ c, (execOp a.eval o).run P X.w = .ok (.value c) X.w ∧ VV X v c := by
  unfold cJ at h
  split at h
  · obtain ⟨rfl, rfl, rfl⟩ := dP h
    obtain ⟨q, rfl⟩ := aCT hx
    exact ⟨rfl, _, by simp [execOp, ho, hy], hx⟩
  · obtain ⟨rfl, rfl, rfl⟩ := dP h
    obtain ⟨b, off, rfl, _⟩ := id hx
    exact ⟨rfl, _, by simp [execOp, ho, hy], hx⟩
  · cases h

end
end Lam
namespace Lam
open Go

section
variable {P : Program} {X : Cx}

inductive nG (X : Cx) : TyD → AV → AV → Bool → Prop where
  | int (k0 k : IntKind) (a b : Int) : nG X (.int k0) (.int k a) (.int k b) (decide (a = b))
  | str (a b : bF) : nG X .str (.str a) (.str b) (decide (a = b))
  | bool (a b : Bool) : nG X .bool (.bool a) (.bool b) (a == b)
  | fn : nG X .func .nilfn .nilfn true
  | arr (n : Nat) (k : IntKind) (xs ys : List Int) (hx : xs.length = n) (hy : ys.length = n) : nG X (.arr n (.int k)) (.arr (.ints k xs)) (.arr (.ints k ys)) (decide (xs = ys))

theorem eI {d : TyD} {x y : AV} {b : Bool} (h : jM d x y = some b) : nG X d x y b := by
  unfold jM at h
  split at h
  · split at h
    · split at h
      · rename_i e; subst e; cases h; exact .int _ _ _ _
      · cases h
    · cases h
  · split at h
    · cases h; exact .str _ _
    · cases h
  · split at h
    · cases h; exact .bool _ _
    · cases h
  · split at h
    · cases h; exact .fn
    · cases h
  · split at h
    · split at h
      · rename_i hc; obtain ⟨rfl, rfl, h3, h4⟩ := hc; cases h; exact .arr _ _ _ _ h3 h4
      · cases h
    · cases h
  · cases h

theorem nG.fit {d : TyD} {x y : AV} {b : Bool} (h : nG X d x y b) : fitP d x ∧ fitP d y := by
  cases h with
  | arr n k xs ys hx hy => exact ⟨⟨hx, rfl⟩, ⟨hy, rfl⟩⟩
  | _ => exact ⟨trivial, trivial⟩

theorem xW {d : TyD} {ds : List TyD} {xs ys : List AV} {b : Bool} (h : AV.eqsD (d :: ds) xs ys = some b) :
    ∃ x xs' y ys' b1 b2, xs = x :: xs' ∧ ys = y :: ys' ∧ AV.eqD d x y = some b1 ∧ AV.eqsD ds xs' ys' = some b2 ∧ b = (b1 && b2) := by
  simp only [AV.eqsD] at h
  split at h
  · split at h
    · rename_i b1 b2 h1 h2; cases h; exact ⟨_, _, _, _, b1, b2, rfl, rfl, h1, h2, rfl⟩
    · cases h
  · cases h

mutual
theorem aHc : ∀ {d : TyD} {x y : AV} {b : Bool}, AV.eqD d x y = some b → fitP d x ∧ fitP d y
  | .strct fs, x, y, b, h => by
    simp only [AV.eqD] at h
    split at h
    · exact aEX h
    · cases h
  | .arr n e, x, y, b, h => by simp only [AV.eqD] at h; exact (eI (X := default) h).fit
  | .int k, x, y, b, h => by simp only [AV.eqD] at h; exact (eI (X := default) h).fit
  | .bool, x, y, b, h => by simp only [AV.eqD] at h; exact (eI (X := default) h).fit
  | .str, x, y, b, h => by simp only [AV.eqD] at h; exact (eI (X := default) h).fit
  | .func, x, y, b, h => by simp only [AV.eqD] at h; exact (eI (X := default) h).fit
  | .slice _, x, y, b, h => by simp only [AV.eqD] at h; exact (eI (X := default) h).fit
  | .ptr, x, y, b, h => by simp only [AV.eqD] at h; exact (eI (X := default) h).fit
  | .map _, x, y, b, h => by simp only [AV.eqD] at h; exact (eI (X := default) h).fit
  | .iface, x, y, b, h => by simp only [AV.eqD] at h; exact (eI (X := default) h).fit
  | .tup _, x, y, b, h => by simp only [AV.eqD] at h; exact (eI (X := default) h).fit
  | .other, x, y, b, h => by simp only [AV.eqD] at h; exact (eI (X := default) h).fit
theorem aEX : ∀ {ds : List TyD} {xs ys : List AV} {b : Bool}, AV.eqsD ds xs ys = some b → AV.sizes xs = TyD.sizes ds ∧ AV.sizes ys = TyD.sizes ds
  | [], xs, ys, b, h => by
    simp only [AV.eqsD] at h
    split at h
    · exact ⟨rfl, rfl⟩
    · cases h
  | d :: ds, xs, ys, b, h => by
    obtain ⟨x, xs', y, ys', b1, b2, rfl, rfl, h1, h2, rfl⟩ := xW h
    obtain ⟨p1, p2⟩ := aHc h1
    obtain ⟨q1, q2⟩ := aEX h2
    simp only [AV.sizes, TyD.sizes, q1, q2, (rR p1).1, (rR p2).1, and_self]
end

mutual
def TyD.deep : TyD → Nat
  | .strct fs => TyD.deeps fs + 1
  | .arr _ _ => 1
  | _ => 0
def TyD.deeps : List TyD → Nat
  | [] => 0
  | d :: ds => max d.deep (TyD.deeps ds)
end

theorem aDs {p q : Prop} [Decidable p] [Decidable q] (h : p ↔ q) : decide p = decide q := by rw [decide_eq_decide]; exact h


theorem aAI {E : TypeId} {k : IntKind} (he : elB P E (.int k) = true) (n : Nat) {xs ys : List Int} {cx cy : Array Value} (hx : cx.toList = (Lst.ints k xs).flat) (hy : cy.toList = (Lst.ints k ys).flat) :
    ∀ is : List Nat, (∀ i ∈ is, i < xs.length ∧ i < ys.length) → (Op.eqItems (n + 1) E 1 cx cy is).run P X.w = .ok (decide (∀ i ∈ is, xs.getD i 0 = ys.getD i 0)) X.w
  | [], _ => by simp [Op.eqItems]
  | i :: is, hi => by
    have ih := aAI he n hx hy is fun j hj => hi j (by simp [hj])
    obtain ⟨h1, h2⟩ := hi i (by simp)
    obtain ⟨a, r, hf, ha⟩ := pU (.ints k xs) (i := i) h1
    obtain ⟨a', r', hf', ha'⟩ := pU (.ints k ys) (i := i) h2
    have p1 := xC he ((Lst.ints k xs).cell_length i) (fun _ => rfl) (hx.trans hf) X.w
    have p2 := xC he ((Lst.ints k ys).cell_length i) (fun _ => rfl) (hy.trans hf') X.w
    have e1 : a.length = i * 1 := ha
    have e2 : a'.length = i * 1 := ha'
    rw [e1] at p1; rw [e2] at p2
    have q1 : qW (.int k) ((Lst.ints k xs).cell i) = .int k (xs.getD i 0) := rfl
    have q2 : qW (.int k) ((Lst.ints k ys).cell i) = .int k (ys.getD i 0) := rfl
    rw [q1] at p1; rw [q2] at p2
    have he3 := run_equalIn_int (P := P) X.w n E k k (xs.getD i 0) (ys.getD i 0) (aLq he)
    simp only [Op.eqItems, Sem.run_bind, p1, p2, he3, Result.andThen_ok, Sem.run_ite]
    by_cases hc : xs.getD i 0 = ys.getD i 0
    · have : (xs.getD i 0 == ys.getD i 0) = true := by simpa using hc
      simp only [this, Bool.not_true, Bool.false_eq_true, if_false, ih]
      congr 1
      apply aDs
      simp only [List.mem_cons, forall_eq_or_imp, hc, true_and]
    · have : (xs.getD i 0 == ys.getD i 0) = false := by simpa using hc
      simp only [this, Bool.not_false, if_true, Sem.run_pure]
      congr 1
      symm
      simp only [decide_eq_false_iff_not]
      intro h; exact hc (h i (by simp))

theorem nG.run {d : TyD} {x y : AV} {b : Bool} {T : TypeId} {c c' : Value} {n : Nat} (h : nG X d x y b) (hT : tyB P d T = true) (hx : VV X x c) (hy : VV X y c') (hn : d.deep ≤ n) :
    (Op.equalIn (n + 1) T c c').run P X.w = .ok b X.w := by
  cases h with
  | int k0 k a b =>
    have hx : c = .int k a := hx
    have hy : c' = .int k b := hy
    subst hx hy
    rw [run_equalIn_int X.w n T k k0 a b (vV hT)]
    congr 1
  | str p q =>
    have hx : c = .string (bstr p) := hx
    have hy : c' = .string (bstr q) := hy
    subst hx hy
    rw [run_equalIn_string X.w n T _ _ (pW hT), iS, iS]
    congr 1
    rw [Bool.eq_iff_iff]; simp
  | bool p q =>
    have hx : c = .bool p := hx
    have hy : c' = .bool q := hy
    subst hx hy
    exact run_equalIn_bool' X.w n T p q (aCW hT)
  | fn =>
    have hx : c = .nilFunc := hx
    have hy : c' = .nilFunc := hy
    subst hx hy
    obtain ⟨_, _, _, hu⟩ := aCX hT
    simp [Op.equalIn, run_underlying hu]
  | arr m k xs ys h3 h4 =>
    obtain ⟨E, hu, he⟩ := rQ hT
    simp only [VV] at hx hy
    obtain ⟨cx, rfl, hx⟩ := hx
    obtain ⟨cy, rfl, hy⟩ := hy
    obtain ⟨i, z, hi, hs, _⟩ := (elOk he).info
    simp only [TyD.deep] at hn
    obtain ⟨q, rfl⟩ : ∃ q, n = q + 1 := ⟨n - 1, by omega⟩
    rw [run_equalIn_array X.w (q + 1) cx cy hu hi]
    have hc : P.cellsOf E = 1 := by
      have : i.size = 1 := hs
      simp [Program.cellsOf, hi, this]
    rw [hc, aAI he q hx hy (List.range m) (by simp [h3, h4])]
    congr 1
    apply aDs
    constructor
    · intro h
      apply List.ext_getElem (h3.trans h4.symm)
      intro i h1 h2
      have := h i (by simp; omega)
      simpa [List.getD, h1, h2] using this
    · rintro rfl i _; rfl

mutual
theorem aHd : ∀ {d : TyD} {x y : AV} {b : Bool} {T : TypeId} {c c' : Value} {n : Nat}, AV.eqD d x y = some b → tyB P d T = true → VV X x c → VV X y c' → d.deep ≤ n →
    (Op.equalIn (n + 1) T c c').run P X.w = .ok b X.w
  | .strct fs, x, y, b, T, c, c', n, h, hT, hx, hy, hn => by
    simp only [AV.eqD] at h
    split at h
    rotate_left
    · cases h
    simp only [VV] at hx hy
    obtain ⟨cx, rfl, hx⟩ := hx
    obtain ⟨cy, rfl, hy⟩ := hy
    simp only [TyD.deep] at hn
    obtain ⟨q, rfl⟩ : ∃ q, n = q + 1 := ⟨n - 1, by omega⟩
    obtain ⟨hst, _, fields, hu, hf⟩ := pC hT
    have hfo : P.fieldsOf T = fields := by simp [Program.fieldsOf, hu]
    rw [run_equalIn_struct X.w (q + 1) T cx cy (by rw [hfo]; exact hu) hst, hfo]
    exact aEY (preX := []) (preY := []) h hf hx hy rfl rfl rfl rfl (by omega)
  | .int k, x, y, b, T, c, c', n, h, hT, hx, hy, hn => by simp only [AV.eqD] at h; exact (eI h).run hT hx hy hn
  | .bool, x, y, b, T, c, c', n, h, hT, hx, hy, hn => by simp only [AV.eqD] at h; exact (eI h).run hT hx hy hn
  | .str, x, y, b, T, c, c', n, h, hT, hx, hy, hn => by simp only [AV.eqD] at h; exact (eI h).run hT hx hy hn
  | .func, x, y, b, T, c, c', n, h, hT, hx, hy, hn => by simp only [AV.eqD] at h; exact (eI h).run hT hx hy hn
  | .arr m e, x, y, b, T, c, c', n, h, hT, hx, hy, hn => by simp only [AV.eqD] at h; exact (eI h).run hT hx hy hn
  | .slice _, x, y, b, T, c, c', n, h, hT, hx, hy, hn => by simp only [AV.eqD] at h; exact (eI h).run hT hx hy hn
  | .ptr, x, y, b, T, c, c', n, h, hT, hx, hy, hn => by simp only [AV.eqD] at h; exact (eI h).run hT hx hy hn
  | .map _, x, y, b, T, c, c', n, h, hT, hx, hy, hn => by simp only [AV.eqD] at h; exact (eI h).run hT hx hy hn
  | .iface, x, y, b, T, c, c', n, h, hT, hx, hy, hn => by simp only [AV.eqD] at h; exact (eI h).run hT hx hy hn
  | .tup _, x, y, b, T, c, c', n, h, hT, hx, hy, hn => by simp only [AV.eqD] at h; exact (eI h).run hT hx hy hn
  | .other, x, y, b, T, c, c', n, h, hT, hx, hy, hn => by simp only [AV.eqD] at h; exact (eI h).run hT hx hy hn
theorem aEY : ∀ {ds : List TyD} {xs ys : List AV} {b : Bool} {off : Nat} {l : List Field} {preX preY sx sy : List Value} {cx cy : Array Value} {n : Nat}, AV.eqsD ds xs ys = some b → nW P ds off l = true →
    VCs X xs sx → VCs X ys sy → cx.toList = preX ++ sx → cy.toList = preY ++ sy → preX.length = off → preY.length = off → TyD.deeps ds ≤ n →
    (Op.eqFields (n + 1) cx cy l).run P X.w = .ok b X.w
  | [], xs, ys, b, off, l, preX, preY, sx, sy, cx, cy, n, h, hf, hx, hy, ex, ey, lx, ly, hn => by
    simp only [nW, List.isEmpty_iff] at hf
    subst hf
    simp only [AV.eqsD] at h
    split at h
    · cases h; rfl
    · cases h
  | d :: ds, xs, ys, b, off, l, preX, preY, sx, sy, cx, cy, n, h, hf, hx, hy, ex, ey, lx, ly, hn => by
    obtain ⟨x, xs', y, ys', b1, b2, rfl, rfl, h1, h2, rfl⟩ := xW h
    unfold nW at hf
    cases l with
    | nil => cases hf
    | cons f l' =>
      simp only [Bool.and_eq_true, bne_iff_ne, ne_eq] at hf
      obtain ⟨⟨⟨⟨⟨g1, g2⟩, g3⟩, g4⟩, g5⟩, g6⟩ := hf
      simp only [VCs] at hx hy
      obtain ⟨ax, bx, rfl, hx1, hx2⟩ := hx
      obtain ⟨ay, by_, rfl, hy1, hy2⟩ := hy
      obtain ⟨p1, p2⟩ := aHc h1
      obtain ⟨rx, hrx, rfl⟩ := aBg (X := X) g5 p1 hx1 ex
      obtain ⟨ry, hry, rfl⟩ := aBg (X := X) g5 p2 hy1 ey
      have ho := Nat.eq_of_beq_eq_true g1
      rw [lx, ← ho] at hrx; rw [ly, ← ho] at hry
      simp only [TyD.deeps] at hn
      have he := aHd (n := n) h1 g5 (uG p1 hx1) (uG p2 hy1) (by omega)
      have ih := aEY (n := n) (preX := preX ++ ax) (preY := preY ++ ay) (cx := cx) (cy := cy) (l := l') h2 g6 hx2 hy2 (by simp [ex]) (by simp [ey])
        (by rw [List.length_append, lx, (aAk p1 hx1).1]) (by rw [List.length_append, ly, (aAk p2 hy1).1]) (by omega)
      simp only [Op.eqFields, ne_eq, g2, not_false_eq_true, if_true, Sem.run_bind, hrx, hry, he, Result.andThen_ok, Sem.run_ite]
      cases b1
      · simp
      · simpa using ih
end
end
end Lam
namespace Lam
open Go

section
variable {P : Program} {X : Cx}

theorem aJe {op : BinOp} {b : Option Bool} {S : Prop} {v : AV} {news : List AObj} (h : sK op b = some (S, v, news)) :
    ∃ q, b = some q ∧ news = [] ∧ ((op = .eql ∧ v = .bool q) ∨ (op = .neq ∧ v = .bool (!q))) := by
  unfold sK at h
  split at h
  · obtain ⟨rfl, rfl, rfl⟩ := dP h; exact ⟨_, rfl, rfl, .inl ⟨rfl, rfl⟩⟩
  · obtain ⟨rfl, rfl, rfl⟩ := dP h; exact ⟨_, rfl, rfl, .inr ⟨rfl, rfl⟩⟩
  · cases h

theorem aEZ {d : TyD} {op : BinOp} {T : TypeId} {ox oy : Operand} {x y : AV} {c c' : Value} {q : Bool} (hT : tyB P d T = true) (h : AV.eqD d x y = some q) (hx : VV X x c) (hy : VV X y c') :
    (eqGuard op T ox oy c c').run P X.w = .ok () X.w := by
  have key : ∀ c, (∀ cs, c ≠ .agg cs) → c ≠ .nilIface → (eqGuard op T ox oy c c').run P X.w = .ok () X.w := by
    intro c h1 h2
    unfold eqGuard
    cases op <;> simp
    all_goals cases c <;> first | rfl | exact absurd rfl h2 | exact absurd rfl (h1 _)
  have sc : nG X d x y q → (eqGuard op T ox oy c c').run P X.w = .ok () X.w := by
    intro hs
    cases hs with
    | int k0 k a b => obtain rfl : c = .int k a := hx; exact key _ (by simp) (by simp)
    | str a b => obtain rfl : c = .string (bstr a) := hx; exact key _ (by simp) (by simp)
    | bool a b => obtain rfl : c = .bool a := hx; exact key _ (by simp) (by simp)
    | fn => obtain rfl : c = .nilFunc := hx; exact key _ (by simp) (by simp)
    | arr n k xs ys h3 h4 =>
      simp only [VV] at hx hy
      obtain ⟨cx, rfl, _⟩ := hx
      obtain ⟨cy, rfl, _⟩ := hy
      exact run_eqGuard_agg X.w op T ox oy cx cy (aET hT)
  cases d with
  | strct fs =>
    simp only [AV.eqD] at h
    split at h
    · simp only [VV] at hx hy
      obtain ⟨cx, rfl, _⟩ := hx
      obtain ⟨cy, rfl, _⟩ := hy
      exact run_eqGuard_agg X.w op T ox oy cx cy (pC hT).2.1
    · cases h
  | _ => exact sc (eI (by simpa only [AV.eqD] using h))

def TyD.shallow (d : TyD) : Prop := d.deep ≤ 9999

theorem aJf {d : TyD} {op : BinOp} {T : TypeId} {ox oy : Operand} {x y : AV} {c c' : Value} {S : Prop} {v : AV} {news : List AObj} (hT : tyB P d T = true) (hd : d.shallow) (hx : VV X x c) (hy : VV X y c')
    (h : binD d op x y = some (S, v, news)) (hS : S) : news = [] ∧ Pure P (do eqGuard op T ox oy c c'; binOp op T c c') X v := by
  have lift : ∀ {r}, (eqGuard op T ox oy c c').run P X.w = .ok () X.w → Pure P (binOp op T c c') X r → Pure P (do eqGuard op T ox oy c c'; binOp op T c c') X r := by
    rintro r hg ⟨z, hz, hv⟩
    exact ⟨z, by simp only [Sem.run_bind, hg, Result.andThen_ok, hz], hv⟩
  unfold binD at h
  split at h
  · rename_i k a k' b
    obtain rfl : c = .int k a := hx
    obtain rfl : c' = .int k' b := hy
    split at h
    · rename_i hk
      obtain ⟨h1, h2⟩ := aEU (P := P) (X := X) T hk h hS
      exact ⟨h1, lift (by cases op <;> rfl) h2⟩
    · cases h
  · rename_i a b
    obtain rfl : c = .string (bstr a) := hx
    obtain rfl : c' = .string (bstr b) := hy
    obtain ⟨h1, h2⟩ := aEV (P := P) (X := X) T h hS
    exact ⟨h1, lift (by cases op <;> rfl) h2⟩
  · rename_i hni hns
    obtain ⟨q, hq, rfl, hop⟩ := aJe h
    refine ⟨rfl, lift (aEZ hT hq hx hy) ?_⟩
    have hr := aHd (n := 9999) hq hT hx hy hd
    have hr : (Op.equal T c c').run P X.w = .ok q X.w := hr
    have shape : (∃ p r, c = .bool p ∧ c' = .bool r) ∨ (c = .nilFunc ∧ c' = .nilFunc) ∨ ∃ p r, c = .agg p ∧ c' = .agg r := by
      cases d with
      | strct fs =>
        simp only [AV.eqD] at hq
        split at hq
        · simp only [VV] at hx hy
          obtain ⟨_, rfl, _⟩ := hx
          obtain ⟨_, rfl, _⟩ := hy
          exact .inr (.inr ⟨_, _, rfl, rfl⟩)
        · cases hq
      | _ =>
        have hs := eI (X := X) (by simpa only [AV.eqD] using hq)
        cases hs <;> first
          | exact absurd rfl (hni _ _ _ _ rfl)
          | exact absurd rfl (hns _ _ rfl)
          | exact .inl ⟨_, _, hx, hy⟩
          | exact .inr (.inl ⟨hx, hy⟩)
          | (simp only [VV] at hx hy
             obtain ⟨_, rfl, _⟩ := hx
             obtain ⟨_, rfl, _⟩ := hy
             exact .inr (.inr ⟨_, _, rfl, rfl⟩))
    rcases hop with ⟨rfl, rfl⟩ | ⟨rfl, rfl⟩
    · refine ⟨.bool q, ?_, rfl⟩
      rcases shape with ⟨p, r, rfl, rfl⟩ | ⟨rfl, rfl⟩ | ⟨p, r, rfl, rfl⟩ <;> simp [binOp, hr]
    · refine ⟨.bool (!q), ?_, rfl⟩
      rcases shape with ⟨p, r, rfl, rfl⟩ | ⟨rfl, rfl⟩ | ⟨p, r, rfl, rfl⟩ <;> simp [binOp, hr]
end
end Lam
namespace Lam
open Go

section
variable {P : Program} {X : Cx}

structure Lies (X : Cx) (l : Lst) (ys : List Value) (c : Value) : Prop where
  lr : LR X l ys
  lies : ∃ a cap, c = .slice a l.len cap ∧ l.len ≤ cap ∧ (a = none → cap = 0) ∧ (l.len ≠ 0 → ∃ b o, a = some ⟨b, o, none⟩ ∧ kC X.w b o ys)

theorem jY {o : Option AObj} {k : RK} {ver : Nat} {l : Lst} (h : rowO o = some (k, ver, l)) : o = some (.row k ver l) := by
  unfold rowO at h; split at h
  · cases h; rfl
  · cases h

theorem rS (H : HR X) {id b : Nat} {k : RK} {ver : Nat} {l : Lst} (h : rowO (X.h[id]?) = some (k, ver, l)) (hb : X.μ[id]? = some (some b)) :
    ∃ cs e a r, X.w.heap[b]? = some (.cells cs e (0, 0)) ∧ cs.toList = a ++ r ∧ LR X l a := by
  obtain ⟨b', hb', hor⟩ := H.obj _ _ (jY h)
  rw [hb] at hb'; cases hb'
  rcases hor with ⟨h, _⟩ | ⟨b2, cs, e, h1, h2, ⟨a, r, hr, hq⟩, _⟩
  · cases h
  · cases h1; exact ⟨cs, e, a, r, h2, hr, hq⟩

theorem aJg (H : HR X) {id b : Nat} {k : RK} {ver : Nat} {l : Lst} (h : rowO (X.h[id]?) = some (k, ver, l)) (hb : X.μ[id]? = some (some b)) : ∃ a, LR X l a ∧ kC X.w b 0 a := by
  obtain ⟨cs, e, a, r, h1, h2, h3⟩ := rS H h hb
  have := kC.of_cells h1
  rw [h2, show a ++ r = [] ++ (a ++ r) from rfl] at this
  exact ⟨a, h3, by simpa using this.sub⟩

theorem aDt {o : Option AObj} {ver off len : Nat} {l : Lst} (h : lL o ver off len = some l) : ∃ k l0, rowO o = some (k, ver, l0) ∧ l = l0.cut off len := by
  unfold lL at h
  split at h
  · rename_i k ver' l0
    split at h
    · rename_i e; subst e; cases h; exact ⟨k, l0, rfl, rfl⟩
    · cases h
  · cases h

theorem nH (H : HR X) {x : AV} {c : Value} {l : Lst} (hx : VV X x c) (h : x.list X.h = some l) : ∃ ys, Lies X l ys c := by
  unfold AV.list at h
  split at h
  · cases h
    obtain ⟨a, cap, rfl, h1, h2, h3, h4⟩ := hx
    by_cases hl : l.len = 0
    · exact ⟨[], rP X hl, a, cap, rfl, h1, h3, fun h => absurd hl h⟩
    obtain ⟨⟨b, o, s⟩, rfl, hs, _, ys, hq, hr⟩ := h4 hl
    simp only at hs; subst hs
    exact ⟨ys, hq, _, cap, rfl, h1, h3, fun _ => ⟨b, o, rfl, hr⟩⟩
  · rename_i y id ver off len
    obtain ⟨k, l0, hrow, rfl⟩ := aDt h
    obtain ⟨a, n, cap, rfl, k', ver', l', hl', _, g⟩ := hx
    rw [hrow] at hl'; cases hl'
    obtain ⟨rfl, g1, g2, g3, g4, g5⟩ := g rfl
    have hlen : (l0.cut off n).len = n := by rw [mC]; omega
    by_cases hl : n = 0
    · exact ⟨[], rP X (by rw [hlen, hl]), a, cap, by rw [hlen], by rw [hlen]; exact g1, g4, fun h => absurd (by rw [hlen, hl]) h⟩
    obtain ⟨b, hb, ha, _⟩ := g5 (by omega)
    obtain ⟨cs, hq, hr⟩ := aJg H hrow hb
    obtain ⟨p, q, r, rfl, hp, _, hq2⟩ := aJc (a := off) (n := n) hq (by omega)
    refine ⟨q, hq2, a, cap, by rw [hlen], by rw [hlen]; exact g1, g4, fun _ => ⟨b, _, ha, ?_⟩⟩
    have := hr.sub
    rw [hp] at this
    simpa using this
  · cases h

theorem aLM (k : IntKind) (xs : List Int) : (Lst.ints k xs).flat = xs.map (Value.int k) := by
  apply List.ext_getElem?
  intro j
  by_cases hj : j < xs.length
  · have := (Lst.ints k xs).flat_get (i := j) (j := 0) hj (by simp [Lst.kind, LK.size])
    simp only [Lst.kind, LK.size, Nat.mul_one, Nat.add_zero] at this
    rw [this]; simp [Lst.cell, List.getD, hj]
  · rw [List.getElem?_eq_none (by rw [Lst.flat_length]; simp [Lst.len, Lst.kind, LK.size]; omega), List.getElem?_eq_none (by simp; omega)]

theorem aJh (s : bF) (b : UInt8) : (bstr s).push b = bstr (s ++ [b]) := by
  apply ByteArray.ext; simp [bstr, ByteArray.push]

theorem aBU : ∀ (ns : List Int) (s : bF), ns.foldl (fun r n => r.push (UInt8.ofNat n.toNat)) (bstr s) = bstr (s ++ ns.map fun n => UInt8.ofNat n.toNat)
  | [], s => by simp
  | n :: ns, s => by simp only [List.foldl_cons, aJh, aBU ns]; simp

theorem aHI {T U : TypeId} {ds d : TyD} {x : AV} {c : Value} {S : Prop} {v : AV} {news : List AObj} (H : HR X) (hT : tyB P ds T = true) (hU : tyB P d U = true) (hx : VV X x c)
    (h : iI X.h ds d x = some (S, v, news)) (hS : S) : news = [] ∧ Pure P (convert T U c) X v := by
  have bytes : ∀ xs, ds = .slice (.int .u8) → d = .str → x.list X.h = some (.ints .u8 xs) → Pure P (convert T U c) X (.str (xs.map fun n => UInt8.ofNat n.toNat)) := by
    rintro xs rfl rfl hl
    obtain ⟨ys, hys, a, cap, rfl, h1, h2, h3⟩ := nH H hx hl
    have hys : ys = _ := hys
    subst hys
    obtain ⟨E, hu, he⟩ := iM hT
    refine ⟨.string (bstr (xs.map fun n : Int => UInt8.ofNat n.toNat)), ?_, rfl⟩
    have e0 : (Lst.ints IntKind.u8 xs).len = xs.length := rfl
    rw [e0] at h1 h3 ⊢
    have hgo : (Conv.bytesToString (.slice a xs.length cap)).run P X.w = .ok (.string (bstr (xs.map fun n : Int => UInt8.ofNat n.toNat))) X.w := by
      by_cases hne : xs.length = 0
      · have : xs = [] := List.length_eq_zero_iff.1 hne
        subst this
        cases a with
        | none => rfl
        | some ad =>
          have := run_bytesToString (P := P) X.w ad 0 cap [] rfl
          exact this
      · obtain ⟨b, o, rfl, hr⟩ := h3 hne
        rw [aLM] at hr
        have hl := run_loadCells_list (P := P) X.w ⟨b, o, none⟩ (xs.map (Value.int .u8)) hr.add
        rw [List.length_map] at hl
        rw [run_bytesToString X.w _ xs.length cap xs hl]
        have := aBU xs []
        rw [show (ByteArray.empty : ByteArray) = bstr [] from rfl, this]
        rfl
    simp [convert, run_underlying hu, run_underlying (pW hU), run_underlying (aLq he), hgo]
  unfold iI at h
  split at h
  · rename_i k0 k k' n
    obtain ⟨rfl, rfl, rfl⟩ := dP h
    obtain rfl : c = .int k' n := hx
    refine ⟨rfl, _, ?_, rfl⟩
    simp [convert, run_underlying (vV hT), run_underlying (vV hU), Conv.intToInt]
  · rename_i s
    obtain ⟨rfl, rfl, rfl⟩ := dP h
    obtain rfl : c = .string (bstr s) := hx
    refine ⟨rfl, _, ?_, rfl⟩
    simp [convert, run_underlying (pW hT), run_underlying (pW hU)]
  · rename_i b l
    unfold tM at h
    split at h
    · rename_i xs hl
      obtain ⟨rfl, rfl, rfl⟩ := dP h
      exact ⟨rfl, bytes xs rfl rfl hl⟩
    · cases h
  · rename_i b id ver off len
    unfold tM at h
    split at h
    · rename_i xs hl
      obtain ⟨rfl, rfl, rfl⟩ := dP h
      exact ⟨rfl, bytes xs rfl rfl hl⟩
    · cases h
  · cases h

/-! ### What is built -/
theorem aBh (off : Nat) : ∀ (vs : List Value) (k : Nat) (cs : Array Value), off + k + vs.length ≤ cs.size →
    ((vs.zipIdx k).foldl (fun (cs : Array Value) (x : Value × Nat) => cs.setIfInBounds (off + x.2) x.1) cs).toList = cs.toList.take (off + k) ++ (vs ++ cs.toList.drop (off + k + vs.length))
  | [], k, cs, h => by simp
  | v :: vs, k, cs, h => by
    simp only [List.length_cons] at h
    simp only [List.zipIdx_cons, List.foldl_cons]
    rw [aBh off vs (k + 1) (cs.setIfInBounds (off + k) v) (by simp; omega)]
    rw [Array.toList_setIfInBounds]
    have := list_seg_step cs.toList (off + k) v vs (by simp; omega)
    simp only [List.append_assoc] at this
    rw [show off + (k + 1) = off + k + 1 by omega, this]
    simp [Nat.add_assoc]

theorem nI {v : AV} {c : Value} (hs : v.solid = true) (h : VV X v c) : VC X v c.cells.toList := aKq h hs

theorem aDu : ∀ {vs : List AV} {i : Nat} {v : AV}, (vs.getD i .top).size = v.size → ∀ j, AV.sizes ((vs.set i v).take j) = AV.sizes (vs.take j)
  | [], _, _, _, _ => by simp
  | u :: r, 0, v, h, j => by
    cases j with
    | zero => rfl
    | succ j =>
      have h : u.size = v.size := h
      simp only [List.set_cons_zero, List.take_succ_cons, AV.sizes, h]
  | u :: r, i + 1, v, h, j => by
    cases j with
    | zero => rfl
    | succ j =>
      have ih := aDu (vs := r) (i := i) (v := v) (by simpa [List.getD] using h) j
      simp only [List.set_cons_succ, List.take_succ_cons, AV.sizes, ih]

theorem aEm {vs : List AV} {i : Nat} {v : AV} (h : (vs.getD i .top).size = v.size) (j : Nat) : ((vs.set i v).getD j .top).size = (vs.getD j .top).size := by
  simp only [List.getD_eq_getElem?_getD, List.getElem?_set]
  by_cases e : i = j
  · subst e
    by_cases hl : i < vs.length
    · simp [hl]; simpa [List.getD, hl] using h.symm
    · simp [hl]
  · simp [e]

inductive sP (X : Cx) : List (Nat × AV) → List (Nat × Value) → Prop where
  | nil : sP X [] []
  | cons (i : Nat) (v : AV) (c : Value) (r : List (Nat × AV)) (s : List (Nat × Value)) : VV X v c → sP X r s → sP X ((i, v) :: r) ((i, c) :: s)

theorem aEn {eA : Nat → Option (Nat × Nat)} {ps : List (Nat × AV)} {cps : List (Nat × Value)} (hp : sP X ps cps) : ∀ {vs us : List AV} {cells : Array Value}, mU vs ps = some us → VCs X vs cells.toList →
    (∀ i, i < vs.length → eA i = some (AV.sizes (vs.take i), (vs.getD i .top).size)) →
    ∃ out, Instr.fill eA cells cps = some out ∧ VCs X us out.toList := by
  induction hp with
  | nil => intro vs us cells h hv _; simp only [mU, Option.some.injEq] at h; subst h; exact ⟨cells, rfl, hv⟩
  | cons i v c r s hvc hr ih =>
    intro vs us cells h hv hpl
    simp only [mU] at h
    split at h
    · rename_i hc
      obtain ⟨h1, h2, h3⟩ := hc
      have hg : vs[i]? = some (vs.getD i .top) := by simp [List.getD, h1]
      obtain ⟨a, u, b, hcs, ha, hvu, hta, htb⟩ := aBN hv hg
      have hcv := nI h3 hvc
      have hlen : c.cells.size = (vs.getD i .top).size := by rw [← Array.length_toList, tN hcv, h2]
      have hul := tN hvu
      have hsz : a.length + c.cells.size ≤ cells.size := by
        rw [← Array.length_toList (xs := cells), hcs]; simp only [List.length_append, hul, hlen]; omega
      have hnew := aGW h1 hta hcv htb
      have hf := aBh a.length c.cells.toList 0 cells (by simpa using hsz)
      have hout : ((c.cells.toList.zipIdx 0).foldl (fun (cs : Array Value) (x : Value × Nat) => cs.setIfInBounds (a.length + x.2) x.1) cells).toList = a ++ (c.cells.toList ++ b) := by
        rw [hf, hcs]
        simp only [Nat.add_zero, List.take_left']
        congr 2
        have e : c.cells.toList.length = u.length := by rw [hul, Array.length_toList, hlen]
        rw [e, ← List.drop_drop, List.drop_left', List.drop_left'] <;> rfl
      obtain ⟨out, ho, hvo⟩ := ih (vs := vs.set i v) h (cells := (c.cells.zipIdx.foldl (fun (cs : Array Value) (x : Value × Nat) => cs.setIfInBounds (a.length + x.2) x.1) cells)) (by
        have e : (c.cells.zipIdx.foldl (fun (cs : Array Value) (x : Value × Nat) => cs.setIfInBounds (a.length + x.2) x.1) cells) = ((c.cells.toList.zipIdx 0).foldl (fun (cs : Array Value) (x : Value × Nat) => cs.setIfInBounds (a.length + x.2) x.1) cells) := by
          rw [← Array.foldl_toList]; simp
        rw [e, hout]; exact hnew) (by
        intro j hj
        simp only [List.length_set] at hj
        rw [hpl j hj, aDu h2 j, aEm h2 j])
      refine ⟨out, ?_, hvo⟩
      have c1 : ¬ (c.cells.size ≠ (vs.getD i .top).size) := by rw [hlen]; simp
      have c2 : ¬ (a.length + c.cells.size > cells.size) := by omega
      unfold Instr.fill
      simp only [hpl i h1, ← ha, c1, c2, decide_false, Bool.or_self, if_false, Bool.false_eq_true]
      exact ho
    · cases h
end
end Lam
