/- Abstract values, the abstract heap, and the verification condition W of a piece of code. -/
import Derived.CallsIn
set_option linter.unusedVariables false
set_option linter.unusedSimpArgs false
set_option linter.unnecessarySimpa false
set_option linter.unusedSectionVars false
namespace Lam
open Go

/-! ### Data of the program -/
abbrev Bytes := List UInt8

structure Pend where
  at_ : Int
  val : Int
  fl : Bool
  deriving DecidableEq, Inhabited
structure Mic where
  kind : Int
  at_ : Int
  val : Int
  deriving DecidableEq, Inhabited
structure RecT where
  kind : Int
  key : Bytes
  val : Bytes
  child : Int
  deriving DecidableEq, Inhabited
structure PairT where
  key : Bytes
  val : Bytes
  deriving DecidableEq, Inhabited
structure SlotT where
  at_ : Int
  val : Int
  deriving DecidableEq, Inhabited

/-- kinds of elements -/
inductive LK where
  | int (k : IntKind) | bool | str | pend | mic | rcd | pair | slot
  deriving DecidableEq

/-- typed lists -/
inductive Lst where
  | ints (k : IntKind) (xs : List Int)
  | bools (xs : List Bool)
  | strs (xs : List Bytes)
  | pends (xs : List Pend)
  | mics (xs : List Mic)
  | recs (xs : List RecT)
  | pairs (xs : List PairT)
  | slots (xs : List SlotT)

/-- a step of a path: a field (its number, its place in cells), an element (its number, an element's cells) -/
inductive PS where
  | f (idx off : Nat)
  | i (ver idx sz : Nat)
  deriving DecidableEq

inductive AV where
  | top
  | und
  | int (k : IntKind) (n : Int)
  | bool (b : Bool)
  | str (s : Bytes)
  | agg (vs : List AV)
  | arr (l : Lst)
  | tup (vs : List AV)
  | sl (x : Bool) (l : Lst)
  | sref (x : Bool) (id ver off len : Nat)
  | ep (l : Lst) (i : Nat) (fs : List PS)
  | nilp
  | ptr (id : Nat) (p : List PS)
  | map (id : Nat)
  | fn (f : Fn) (first cap : List AV)
  | nilfn
  | iface (t : TypeId) (v : AV)
  | niliface
  deriving Inhabited

/-- map contents: total functions, zero where absent -/
inductive MapC where
  | ib (m : Int → Bool)
  | ii (m : Int → Int)
  | sb (m : Bytes → Bool)
  | ifn (m : Int → Option FuncId)

/-- rows: a slice's own, an array variable, one that is never written again -/
inductive RK where
  | own | arr | fro
  deriving DecidableEq

inductive AObj where
  | box (v : AV)
  | row (k : RK) (ver : Nat) (l : Lst)
  | map (m : MapC)
  | lp (st : LoopState) (pd : Option Code) (r : Loop)
  | dead

inductive MK where
  | ib | ii | sb | ifn

inductive TyD where
  | int (k : IntKind) | bool | str
  | slice (e : LK)
  | strct (fs : List TyD)
  | arr (n : Nat) (e : LK)
  | ptr | map (m : MK) | func | iface | tup (ts : List TyD) | other
  deriving Inhabited

def LK.size : LK → Nat
  | .int _ | .bool | .str => 1
  | .pend | .mic => 3
  | .rcd => 4
  | .pair | .slot => 2

mutual
def TyD.size : TyD → Nat
  | .strct fs => TyD.sizes fs
  | .arr n e => n * e.size
  | _ => 1
def TyD.sizes : List TyD → Nat
  | [] => 0
  | t :: r => t.size + TyD.sizes r
end

def LK.empty : LK → Lst
  | .int k => .ints k []
  | .bool => .bools []
  | .str => .strs []
  | .pend => .pends []
  | .mic => .mics []
  | .rcd => .recs []
  | .pair => .pairs []
  | .slot => .slots []

def LK.zeros (n : Nat) : LK → Lst
  | .int k => .ints k (List.replicate n 0)
  | .bool => .bools (List.replicate n false)
  | .str => .strs (List.replicate n [])
  | .pend => .pends (List.replicate n ⟨0, 0, false⟩)
  | .mic => .mics (List.replicate n ⟨0, 0, 0⟩)
  | .rcd => .recs (List.replicate n ⟨0, [], [], 0⟩)
  | .pair => .pairs (List.replicate n ⟨[], []⟩)
  | .slot => .slots (List.replicate n ⟨0, 0⟩)

def Lst.kind : Lst → LK
  | .ints k _ => .int k
  | .bools _ => .bool
  | .strs _ => .str
  | .pends _ => .pend
  | .mics _ => .mic
  | .recs _ => .rcd
  | .pairs _ => .pair
  | .slots _ => .slot

def Lst.len : Lst → Nat
  | .ints _ xs => xs.length
  | .bools xs => xs.length
  | .strs xs => xs.length
  | .pends xs => xs.length
  | .mics xs => xs.length
  | .recs xs => xs.length
  | .pairs xs => xs.length
  | .slots xs => xs.length

def encPend (p : Pend) : AV := .agg [.int .i64 p.at_, .int .i64 p.val, .bool p.fl]
def encMic (p : Mic) : AV := .agg [.int .i64 p.kind, .int .i64 p.at_, .int .i64 p.val]
def encRec (p : RecT) : AV := .agg [.int .i64 p.kind, .str p.key, .str p.val, .int .i64 p.child]
def encPair (p : PairT) : AV := .agg [.str p.key, .str p.val]
def encSlot (p : SlotT) : AV := .agg [.int .i64 p.at_, .int .i64 p.val]

def Lst.nth (l : Lst) (i : Nat) : AV :=
  match l with
  | .ints k xs => .int k (xs.getD i 0)
  | .bools xs => .bool (xs.getD i false)
  | .strs xs => .str (xs.getD i [])
  | .pends xs => encPend (xs.getD i ⟨0, 0, false⟩)
  | .mics xs => encMic (xs.getD i ⟨0, 0, 0⟩)
  | .recs xs => encRec (xs.getD i ⟨0, [], [], 0⟩)
  | .pairs xs => encPair (xs.getD i ⟨[], []⟩)
  | .slots xs => encSlot (xs.getD i ⟨0, 0⟩)

def Lst.cut (l : Lst) (lo n : Nat) : Lst :=
  match l with
  | .ints k xs => .ints k ((xs.drop lo).take n)
  | .bools xs => .bools ((xs.drop lo).take n)
  | .strs xs => .strs ((xs.drop lo).take n)
  | .pends xs => .pends ((xs.drop lo).take n)
  | .mics xs => .mics ((xs.drop lo).take n)
  | .recs xs => .recs ((xs.drop lo).take n)
  | .pairs xs => .pairs ((xs.drop lo).take n)
  | .slots xs => .slots ((xs.drop lo).take n)

def Lst.app : Lst → Lst → Option Lst
  | .ints k xs, .ints k' ys => if k = k' then some (.ints k (xs ++ ys)) else none
  | .bools xs, .bools ys => some (.bools (xs ++ ys))
  | .strs xs, .strs ys => some (.strs (xs ++ ys))
  | .pends xs, .pends ys => some (.pends (xs ++ ys))
  | .mics xs, .mics ys => some (.mics (xs ++ ys))
  | .recs xs, .recs ys => some (.recs (xs ++ ys))
  | .pairs xs, .pairs ys => some (.pairs (xs ++ ys))
  | .slots xs, .slots ys => some (.slots (xs ++ ys))
  | _, _ => none

/-- element i becomes v -/
def Lst.set : Lst → Nat → AV → Option Lst
  | .ints k xs, i, .int k' n => if k = k' then some (.ints k (xs.set i n)) else none
  | .bools xs, i, .bool b => some (.bools (xs.set i b))
  | .strs xs, i, .str s => some (.strs (xs.set i s))
  | .pends xs, i, .agg [.int .i64 a, .int .i64 b, .bool c] => some (.pends (xs.set i ⟨a, b, c⟩))
  | .mics xs, i, .agg [.int .i64 a, .int .i64 b, .int .i64 c] => some (.mics (xs.set i ⟨a, b, c⟩))
  | .recs xs, i, .agg [.int .i64 a, .str b, .str c, .int .i64 d] => some (.recs (xs.set i ⟨a, b, c, d⟩))
  | .pairs xs, i, .agg [.str a, .str b] => some (.pairs (xs.set i ⟨a, b⟩))
  | .slots xs, i, .agg [.int .i64 a, .int .i64 b] => some (.slots (xs.set i ⟨a, b⟩))
  | _, _, _ => none

mutual
def AV.size : AV → Nat
  | .agg vs => AV.sizes vs
  | .arr l => l.len * l.kind.size
  | _ => 1
def AV.sizes : List AV → Nat
  | [] => 0
  | v :: r => v.size + AV.sizes r
end

mutual
def TyD.zero : TyD → AV
  | .int k => .int k 0
  | .bool => .bool false
  | .str => .str []
  | .slice e => .sl true e.empty
  | .strct fs => .agg (TyD.zeros fs)
  | .arr n e => .arr (e.zeros n)
  | .ptr => .nilp
  | .map _ => .top
  | .func => .nilfn
  | .iface => .niliface
  | .tup ts => .tup (TyD.zeros ts)
  | .other => .top
def TyD.zeros : List TyD → List AV
  | [] => []
  | t :: r => t.zero :: TyD.zeros r
end

/-- a value that has cells -/
def AV.solid : AV → Bool
  | .top | .und | .tup _ => false
  | _ => true

/-- the part of a value at a path of fields -/
def AV.at_ : AV → List PS → Option AV
  | v, [] => some v
  | .agg vs, .f k off :: p => if AV.sizes (vs.take k) = off then (vs[k]?).bind fun v => v.at_ p else none
  | _, _ => none

def AV.setAt : AV → List PS → AV → Option AV
  | u, [], v => if u.size = v.size then some v else none
  | .agg vs, .f k off :: p, v => if AV.sizes (vs.take k) = off then (vs[k]?).bind fun u => (u.setAt p v).map fun u' => .agg (vs.set k u') else none
  | _, _, _ => none

/-! ### States, contracts -/
structure St where
  t : List (Nat × AV)
  h : List AObj

def get : List (Nat × AV) → Nat → AV
  | [], _ => .top
  | (j, v) :: r, i => match Nat.beq i j with
    | true => v
    | false => get r i

def put (i : Nat) (v : AV) (t : List (Nat × AV)) : List (Nat × AV) := (i, v) :: t

inductive AOut where
  | ret (v : AV)
  | pan (v : AV)

/-- what an operation that changes nothing comes to: what must hold, its value, what it makes -/
abbrev D := Option (Prop × AV × List AObj)
abbrev Con := List AV → List AObj → (AOut → List AObj → Prop) → Prop

/-- what a loop changes (and is read again), whether it may begin as an empty slice, and what it only reads -/
structure LInfo where
  live : List Nat
  prom : List Bool
  const : List Nat

structure Ctx where
  tab : TypeId → TyD
  envF : FuncId → List AV → Option (Bool × D)
  envS : FuncId → Con
  iterS : FuncId → Con → Con
  loop : Nat → LInfo
  drawn : Bool := false
  envY : Nat → Con := fun _ _ _ _ => False

def AV.ofConst (d : TyD) : Value → AV
  | .bool b => .bool b
  | .int k n => .int k n
  | .string s => .str s.data.toList
  | .pointer none => .nilp
  | .slice none 0 0 => match d with | .slice e => .sl true e.empty | _ => .top
  | .nilFunc => .nilfn
  | .nilIface => .niliface
  | _ => .top

def ev (t : List (Nat × AV)) (d : TyD) : Operand → AV
  | .tmp i => get t i
  | .const v => .ofConst d v
  | .global _ => .top
  | .func f => .fn (.func f) [] []

inductive AExit where
  | normal
  | exit (id : Nat)
  | goto (l : Nat)
  | ret
  | pan (v : AV)

/-! ### Operations -/
def pD (S : Prop) (v : AV) : D := some (S, v, [])

def intBinD (op : BinOp) (k : IntKind) (a b : Int) : D :=
  match op with
  | .add => pD True (.int k (k.wrap (a + b)))
  | .sub => pD True (.int k (k.wrap (a - b)))
  | .mul => pD True (.int k (k.wrap (a * b)))
  | .quo => pD (b ≠ 0) (.int k (k.wrap (a.tdiv b)))
  | .rem => pD (b ≠ 0) (.int k (a.tmod b))
  | .and => pD True (.int k (k.wrap (BitVec.ofInt k.bits a &&& BitVec.ofInt k.bits b).toNat))
  | .or => pD True (.int k (k.wrap (BitVec.ofInt k.bits a ||| BitVec.ofInt k.bits b).toNat))
  | .xor => pD True (.int k (k.wrap (BitVec.ofInt k.bits a ^^^ BitVec.ofInt k.bits b).toNat))
  | .andNot => pD True (.int k (k.wrap (BitVec.ofInt k.bits a &&& ~~~ BitVec.ofInt k.bits b).toNat))
  | .shl => pD (0 ≤ b) (.int k (k.wrap (a * 2 ^ (min b.toNat k.bits))))
  | .shr => pD (0 ≤ b) (.int k (a.fdiv (2 ^ (min b.toNat k.bits))))
  | .eql => pD True (.bool (decide (a = b)))
  | .neq => pD True (.bool (!decide (a = b)))
  | .lss => pD True (.bool (decide (a < b)))
  | .leq => pD True (.bool (decide (a ≤ b)))
  | .gtr => pD True (.bool (decide (b < a)))
  | .geq => pD True (.bool (decide (b ≤ a)))

def ltB : Bytes → Bytes → Bool
  | _, [] => false
  | [], _ :: _ => true
  | a :: x, b :: y => a < b || (a == b && ltB x y)

def strBinD (op : BinOp) (a b : Bytes) : D :=
  match op with
  | .add => pD (a.length + b.length ≤ 1099511627776) (.str (a ++ b))
  | .eql => pD True (.bool (decide (a = b)))
  | .neq => pD True (.bool (!decide (a = b)))
  | .lss => pD True (.bool (ltB a b))
  | .gtr => pD True (.bool (ltB b a))
  | .leq => pD True (.bool (!ltB b a))
  | .geq => pD True (.bool (!ltB a b))
  | _ => none

def isShift : BinOp → Bool
  | .shl | .shr => true
  | _ => false

def isNilSlice : Operand → Bool
  | .const (.slice none 0 0) => true
  | _ => false

-- equality of plain values, and of structs and arrays of such
def scalEq (d : TyD) (x y : AV) : Option Bool :=
  match x, y with
  | .int k a, .int k' b => match d with
    | .int _ => if k = k' then some (decide (a = b)) else none
    | _ => none
  | .str a, .str b => match d with
    | .str => some (decide (a = b))
    | _ => none
  | .bool a, .bool b => match d with
    | .bool => some (a == b)
    | _ => none
  | .nilfn, .nilfn => match d with
    | .func => some true
    | _ => none
  | .arr (.ints k xs), .arr (.ints k' ys) => match d with
    | .arr n (.int k0) => if k0 = k ∧ k = k' ∧ xs.length = n ∧ ys.length = n then some (decide (xs = ys)) else none
    | _ => none
  | _, _ => none

mutual
def AV.eqD : TyD → AV → AV → Option Bool
  | .strct fs, x, y => match x, y with
    | .agg xs, .agg ys => AV.eqsD fs xs ys
    | _, _ => none
  | .int k, x, y => scalEq (.int k) x y
  | .bool, x, y => scalEq .bool x y
  | .str, x, y => scalEq .str x y
  | .slice e, x, y => scalEq (.slice e) x y
  | .arr n e, x, y => scalEq (.arr n e) x y
  | .ptr, x, y => scalEq .ptr x y
  | .map m, x, y => scalEq (.map m) x y
  | .func, x, y => scalEq .func x y
  | .iface, x, y => scalEq .iface x y
  | .tup ts, x, y => scalEq (.tup ts) x y
  | .other, x, y => scalEq .other x y
def AV.eqsD : List TyD → List AV → List AV → Option Bool
  | [], xs, ys => match xs, ys with
    | [], [] => some true
    | _, _ => none
  | d :: ds, xs, ys => match xs, ys with
    | x :: xs, y :: ys => match AV.eqD d x y, AV.eqsD ds xs ys with
      | some a, some b => some (a && b)
      | _, _ => none
    | _, _ => none
end

def eqOpD (op : BinOp) (b : Option Bool) : D :=
  match op, b with
  | .eql, some b => pD True (.bool b)
  | .neq, some b => pD True (.bool (!b))
  | _, _ => none

def binD (d : TyD) (op : BinOp) (x y : AV) : D :=
  match x, y with
  | .int k a, .int k' b => if k = k' ∨ isShift op = true then intBinD op k a b else none
  | .str a, .str b => strBinD op a b
  | x, y => eqOpD op (AV.eqD d x y)

def listO (o : Option AObj) (ver off len : Nat) : Option Lst :=
  match o with
  | some (.row _ ver' l) => if ver = ver' then some (l.cut off len) else none
  | _ => none

/-- a slice's contents -/
def AV.list (h : List AObj) : AV → Option Lst
  | .sl _ l => some l
  | .sref _ id ver off len => listO (h[id]?) ver off len
  | _ => none

def lenO (o : Option AObj) (ver len : Nat) : Option Nat :=
  match o with
  | some (.row _ ver' _) => if ver = ver' then some len else none
  | _ => none

def AV.len (d : TyD) (h : List AObj) (v : AV) : Option Nat :=
  match d, v with
  | .slice _, .sl _ l => some l.len
  | .slice _, .sref _ id ver _ len => lenO (h[id]?) ver len
  | .str, .str s => some s.length
  | .arr n _, _ => some n
  | _, _ => none

-- closed values: no reference to the heap
mutual
def AV.closed : AV → Bool
  | .int _ _ | .bool _ | .str _ | .nilp | .nilfn | .niliface | .arr _ | .sl _ _ => true
  | .agg vs | .tup vs => AV.closeds vs
  | .fn _ first cap => AV.closeds first && AV.closeds cap
  | _ => false
def AV.closeds : List AV → Bool
  | [] => true
  | v :: r => v.closed && AV.closeds r
end

-- slices by value, and no more told of their capacity
mutual
def AV.val (h : List AObj) : AV → Option AV
  | .sref _ id ver off len => (listO (h[id]?) ver off len).map fun l => .sl false l
  | .sl _ l => some (.sl false l)
  | .agg vs => (AV.vals h vs).map .agg
  | .tup vs => (AV.vals h vs).map .tup
  | v => some v
def AV.vals (h : List AObj) : List AV → Option (List AV)
  | [] => some []
  | v :: r => match v.val h, AV.vals h r with
    | some a, some b => some (a :: b)
    | _, _ => none
end

mutual
def AV.shift (s : Nat) : AV → AV
  | .sref x id ver off len => .sref x (s + id) ver off len
  | .ptr id p => .ptr (s + id) p
  | .map id => .map (s + id)
  | .agg vs => .agg (AV.shifts s vs)
  | .tup vs => .tup (AV.shifts s vs)
  | v => v
def AV.shifts (s : Nat) : List AV → List AV
  | [] => []
  | v :: r => v.shift s :: AV.shifts s r
end

/-- the room that appends and makes may take, in elements -/
def roomy (n : Nat) : Prop := n ≤ 1099511627776

def someD {α : Type} (x : Option α) (f : α → D) : D :=
  match x with
  | some a => f a
  | none => none

def appendExD (xs ys : Lst) (s : Nat) : D := someD (xs.app ys) fun zs => some ((0 < ys.len ∨ xs.len = 0) ∧ roomy zs.len, .sref false s 0 0 zs.len, [.row .own 0 zs])

def lenD (d : TyD) (h : List AObj) (v : AV) : D := someD (v.len d h) fun n => pD True (.int .i64 n)

def minD (x y : AV) : D :=
  match x, y with
  | .int k a, .int k' b => if k = k' then pD True (.int k (if b < a then b else a)) else none
  | _, _ => none
def maxD (x y : AV) : D :=
  match x, y with
  | .int k a, .int k' b => if k = k' then pD True (.int k (if b > a then b else a)) else none
  | .str a, .str b => pD True (.str (if ltB a b then b else a))
  | _, _ => none

def loadO (o : Option AObj) (p : List PS) : D :=
  match o with
  | some (.box v) => someD (v.at_ p) fun u => pD True u
  | some (.row k ver l) => match p with
    | [] => match k with
      | .arr => pD True (.arr l)
      | _ => none
    | .i v i sz :: p' => if v = ver ∧ sz = l.kind.size then someD ((l.nth i).at_ p') fun v => pD (i < l.len) v else none
    | _ => none
  | _ => none

def loadD (h : List AObj) (a : AV) : D :=
  match a with
  | .ep l i fs => someD ((l.nth i).at_ fs) fun v => pD True v
  | .ptr id p => loadO (h[id]?) p
  | _ => none

/-- a value fits a type -/
def fitP (d : TyD) (v : AV) : Prop :=
  match d, v with
  | .strct fs, .agg vs => AV.sizes vs = TyD.sizes fs
  | .arr n e, .arr l => l.len = n ∧ l.kind = e
  | .strct _, _ => False
  | .arr _ _, _ => False
  | .tup _, _ => False
  | .other, _ => False
  | _, .agg _ => False
  | _, .arr _ => False
  | _, .tup _ => False
  | _, .top => False
  | _, .und => False
  | _, _ => True

def fitD (d : TyD) (x : D) : D :=
  match x with
  | some (S, v, news) => some (S ∧ fitP d v, v, news)
  | none => none

def storeO (o : Option AObj) (p : List PS) (v : AV) : Option (Prop × AObj) :=
  match o with
  | some (.box u) => match u.setAt p v with
    | some u' => some (True, .box u')
    | none => none
  | some (.row k ver l) => match p with
    | [] => match k, v with
      | .arr, .arr l' => if l'.kind = l.kind then some (l'.len = l.len, .row .arr ver l') else none
      | _, _ => none
    | .i vr i sz :: p' => if vr = ver ∧ sz = l.kind.size ∧ k ≠ .fro then
        match (l.nth i).setAt p' v with
        | some u => match l.set i u with
          | some l' => some (i < l.len, .row k ver l')
          | none => none
        | none => none
      else none
    | _ => none
  | _ => none

def storeH (d : TyD) (h : List AObj) (a v : AV) : Option (Prop × Nat × AObj) :=
  match a with
  | .ptr id p => match storeO (h[id]?) p v with
    | some (S, o) => some (S ∧ fitP d v, id, o)
    | none => none
  | _ => none

def fillAgg (vs : List AV) : List (Nat × AV) → Option (List AV)
  | [] => some vs
  | (i, v) :: r => if i < vs.length ∧ (vs.getD i .top).size = v.size ∧ v.solid = true then fillAgg (vs.set i v) r else none

def fillLst (l : Lst) : List (Nat × AV) → Option Lst
  | [] => some l
  | (i, v) :: r => if i < l.len then match l.set i v with
    | some l' => fillLst l' r
    | none => none
    else none

def buildD (d : TyD) (parts : List (Nat × AV)) : D :=
  match d with
  | .strct fs => someD (fillAgg (TyD.zeros fs) parts) fun vs => pD True (.agg vs)
  | .arr n e => someD (fillLst (e.zeros n) parts) fun l => pD True (.arr l)
  | _ => none

def buildSliceD (d : TyD) (n : Nat) (parts : List (Nat × AV)) (s : Nat) : D :=
  match d with
  | .slice e => someD (fillLst (e.zeros n) parts) fun l => some (n ≤ 1048576, .sref true s 0 0 n, [.row .own 0 l])
  | _ => none

def TyD.isSlice (d : TyD) (k : LK) : Bool :=
  match d with
  | .slice e => decide (e = k)
  | _ => false

def TyD.isArr (d : TyD) (n : Nat) (k : LK) : Bool :=
  match d with
  | .arr m e => decide (m = n) && decide (e = k)
  | _ => false

/-- the kind of a slice's row -/
def rowKind (o : Option AObj) : Option LK :=
  match o with
  | some (.row _ _ l) => some l.kind
  | _ => none

def AV.kind (h : List AObj) : AV → Option LK
  | .sl _ l => some l.kind
  | .sref _ id _ _ _ => rowKind (h[id]?)
  | _ => none

/-- a slice type whose elements are of the row's kind -/
def TyD.fitsRow (d : TyD) (k : Option LK) : Bool :=
  match d, k with
  | .slice e, some k => decide (e = k)
  | _, _ => false

def whenD (b : Bool) (x : D) : D :=
  match b with
  | true => x
  | false => none

def whenP (b : Bool) (x : Prop) : Prop :=
  match b with
  | true => x
  | false => False

def verB (o : Option AObj) (ver : Nat) : Bool :=
  match o with
  | some (.row _ v _) => decide (ver = v)
  | _ => false

def sliceStrD (s : Bytes) (lo hi mx : Option AV) : D :=
  match lo, hi, mx with
  | none, some (.int _ b), none => pD (0 ≤ b ∧ b ≤ s.length) (.str (s.take b.toNat))
  | some (.int _ a), none, none => pD (0 ≤ a ∧ a ≤ s.length) (.str (s.drop a.toNat))
  | some (.int _ a), some (.int _ b), none => pD (0 ≤ a ∧ a ≤ b ∧ b ≤ s.length) (.str ((s.drop a.toNat).take (b.toNat - a.toNat)))
  | _, _, _ => none

def sliceSlD (x : Bool) (l : Lst) (lo hi mx : Option AV) : D :=
  match lo, hi, mx with
  | none, none, none => pD True (.sl x l)
  | none, some (.int _ b), none => pD (0 ≤ b ∧ b ≤ l.len) (.sl false (l.cut 0 b.toNat))
  | some (.int _ a), none, none => pD (0 ≤ a ∧ a ≤ l.len) (.sl x (l.cut a.toNat (l.len - a.toNat)))
  | some (.int _ a), some (.int _ b), none => pD (0 ≤ a ∧ a ≤ b ∧ b ≤ l.len) (.sl false (l.cut a.toNat (b.toNat - a.toNat)))
  | none, some (.int _ b), some (.int _ c) => pD (0 ≤ b ∧ b ≤ l.len ∧ b = c) (.sl true (l.cut 0 b.toNat))
  | some (.int _ a), some (.int _ b), some (.int _ c) => pD (0 ≤ a ∧ a ≤ b ∧ b ≤ l.len ∧ b = c) (.sl true (l.cut a.toNat (b.toNat - a.toNat)))
  | _, _, _ => none

def sliceSrD (x : Bool) (id ver off len : Nat) (lo hi mx : Option AV) : D :=
  match lo.getD (.int .i64 0), hi.getD (.int .i64 len), mx with
  | .int _ a, .int _ b, none => pD (0 ≤ a ∧ a ≤ b ∧ b ≤ len) (.sref (x && hi.isNone) id ver (off + a.toNat) (b.toNat - a.toNat))
  | .int _ a, .int _ b, some (.int _ c) => pD (hi.isSome = true ∧ 0 ≤ a ∧ a ≤ b ∧ b ≤ len ∧ b = c) (.sref true id ver (off + a.toNat) (b.toNat - a.toNat))
  | _, _, _ => none

def sliceArrD (o : Option AObj) (id : Nat) (d : TyD) (lo hi mx : Option AV) : D :=
  match o, mx with
  | some (.row .arr ver l), none => whenD (d.isArr l.len l.kind)
    (match lo.getD (.int .i64 0), hi.getD (.int .i64 l.len) with
    | .int _ a, .int _ b => pD (0 ≤ a ∧ a ≤ b ∧ b ≤ l.len) (.sref hi.isNone id ver a.toNat (b.toNat - a.toNat))
    | _, _ => none)
  | _, _ => none

def TyD.isStr : TyD → Bool
  | .str => true
  | _ => false

def sliceD (d : TyD) (h : List AObj) (x : AV) (lo hi mx : Option AV) : D :=
  match x with
  | .str s => whenD d.isStr (sliceStrD s lo hi mx)
  | .sl x l => whenD (d.isSlice l.kind) (sliceSlD x l lo hi mx)
  | .sref x id ver off len => whenD (d.fitsRow (rowKind (h[id]?))) (whenD (verB (h[id]?) ver) (sliceSrD x id ver off len lo hi mx))
  | .ptr id [] => sliceArrD (h[id]?) id d lo hi mx
  | _ => none

def indexArrO (o : Option AObj) (d : TyD) (id ver off len : Nat) (i : Int) : D :=
  match o with
  | some (.row _ ver' l) => whenD (d.isSlice l.kind) (if ver = ver' then pD (0 ≤ i ∧ i < len) (.ptr id [.i ver (off + i.toNat) l.kind.size]) else none)
  | _ => none

def indexPtrO (o : Option AObj) (d : TyD) (id : Nat) (i : Int) : D :=
  match o with
  | some (.row .arr ver l) => whenD (d.isArr l.len l.kind) (pD (0 ≤ i ∧ i < l.len) (.ptr id [.i ver i.toNat l.kind.size]))
  | _ => none

def indexAddrD (d : TyD) (h : List AObj) (x i : AV) : D :=
  match i with
  | .int _ i => match x with
    | .sl _ l => whenD (d.isSlice l.kind) (pD (0 ≤ i ∧ i < l.len) (.ep l i.toNat []))
    | .sref _ id ver off len => indexArrO (h[id]?) d id ver off len i
    | .ptr id [] => indexPtrO (h[id]?) d id i
    | _ => none
  | _ => none

def indexD (d : TyD) (x i : AV) : D :=
  match x, i with
  | .str s, .int _ n => whenD d.isStr (pD (0 ≤ n ∧ n < s.length) (.int .u8 (s.getD n.toNat 0).toNat))
  | .arr l, .int _ n => whenD (d.isArr l.len l.kind) (pD (0 ≤ n ∧ n < l.len) (l.nth n.toNat))
  | _, _ => none

def fnOpt : Option FuncId → AV
  | some f => .fn (.func f) [] []
  | none => .nilfn

def TyD.isMap (d : TyD) (m : MK) : Bool :=
  match d, m with
  | .map .ib, .ib => true
  | .map .ii, .ii => true
  | .map .sb, .sb => true
  | .map .ifn, .ifn => true
  | _, _ => false

def lookupO (d : TyD) (o : Option AObj) (k : AV) : D :=
  match o, k with
  | some (.map (.ib m)), .int .i64 n => whenD (d.isMap .ib) (pD True (.bool (m n)))
  | some (.map (.ii m)), .int .i64 n => whenD (d.isMap .ii) (pD True (.int .i64 (m n)))
  | some (.map (.ifn m)), .int .i64 n => whenD (d.isMap .ifn) (pD True (fnOpt (m n)))
  | some (.map (.sb m)), .str s => whenD (d.isMap .sb) (pD True (.bool (m s)))
  | _, _ => none

def lookupD (d : TyD) (h : List AObj) (x k : AV) : D :=
  match x with
  | .map id => lookupO d (h[id]?) k
  | _ => none

def mapSetO (d : TyD) (o : Option AObj) (k v : AV) : Option MapC :=
  match o, k, v with
  | some (.map (.ib m)), .int .i64 n, .bool b => if d.isMap .ib = true then some (.ib fun j => if j = n then b else m j) else none
  | some (.map (.ii m)), .int .i64 n, .int .i64 b => if d.isMap .ii = true then some (.ii fun j => if j = n then b else m j) else none
  | some (.map (.ifn m)), .int .i64 n, .fn (.func f) [] [] => if d.isMap .ifn = true then some (.ifn fun j => if j = n then some f else m j) else none
  | some (.map (.sb m)), .str s, .bool b => if d.isMap .sb = true then some (.sb fun j => if j = s then b else m j) else none
  | _, _, _ => none

def mapSetH (d : TyD) (h : List AObj) (x k v : AV) : Option (Prop × Nat × AObj) :=
  match x with
  | .map id => match mapSetO d (h[id]?) k v with
    | some m => some (True, id, .map m)
    | none => none
  | _ => none

/-- append onto a row of the function's own -/
def appendO (o : Option AObj) (id ver off len : Nat) (ys : Option Lst) : Option (Prop × AV × Nat × AObj) :=
  match o, ys with
  | some (.row .own ver' l), some ys => if ver = ver' then match l.app ys with
      | some zs => some (off = 0 ∧ len = l.len ∧ roomy zs.len, .sref false id (ver + 1) 0 zs.len, id, .row .own (ver + 1) zs)
      | none => none
    else none
  | _, _ => none

def appendH (d : TyD) (h : List AObj) (s x : AV) : Option (Prop × AV × Nat × AObj) :=
  match s with
  | .sref false id ver off len => if d.fitsRow (rowKind (h[id]?)) = true then appendO (h[id]?) id ver off len (x.list h) else none
  | _ => none

def appendD (d : TyD) (h : List AObj) (s x : AV) (n : Nat) : D :=
  match s with
  | .sl true xs => whenD (d.isSlice xs.kind) (someD (x.list h) fun ys => appendExD xs ys n)
  | .sref true id ver off len => whenD (d.fitsRow (rowKind (h[id]?))) (someD (listO (h[id]?) ver off len) fun xs => someD (x.list h) fun ys => appendExD xs ys n)
  | _ => none

/-- elements from place off on become those of ys, as many as fit into len -/
def Lst.over (l : Lst) (off len : Nat) (ys : Lst) : Option Lst :=
  match (l.cut 0 off).app (ys.cut 0 len) with
  | some z => z.app (l.cut (off + min len ys.len) (l.len - (off + min len ys.len)))
  | none => none

def copyO (o : Option AObj) (id ver off len : Nat) (ys : Option Lst) : Option (Prop × AV × Nat × AObj) :=
  match o, ys with
  | some (.row k ver' l), some ys => if ver = ver' ∧ k ≠ .fro then match l.over off len ys with
      | some l' => some (True, .int .i64 (min len ys.len : Nat), id, .row k ver' l')
      | none => none
    else none
  | _, _ => none

def copyH (ty : TyD) (h : List AObj) (d s : AV) : Option (Prop × AV × Nat × AObj) :=
  match d with
  | .sref _ id ver off len => if ty.fitsRow (rowKind (h[id]?)) = true then copyO (h[id]?) id ver off len (s.list h) else none
  | _ => none

def clearO (o : Option AObj) (id ver off len : Nat) : Option (Prop × AV × Nat × AObj) :=
  match o with
  | some (.row k ver' l) => if ver = ver' ∧ k ≠ .fro then match l.over off len (l.kind.zeros len) with
      | some l' => some (True, .tup [], id, .row k ver' l')
      | none => none
    else none
  | _ => none

def clearH (ty : TyD) (h : List AObj) (d : AV) : Option (Prop × AV × Nat × AObj) :=
  match d with
  | .sref _ id ver off len => if ty.fitsRow (rowKind (h[id]?)) = true then clearO (h[id]?) id ver off len else none
  | _ => none

def unD (op : UnOp) (x : AV) : D :=
  match op, x with
  | .not, .bool b => pD True (.bool (!b))
  | .neg, .int k n => pD True (.int k (k.wrap (0 - n)))
  | .xor, .int k n => pD True (.int k (k.wrap (BitVec.ofInt k.bits (if k.signed then -1 else k.max) ^^^ BitVec.ofInt k.bits n).toNat))
  | _, _ => none

def bytesD (x : Option Lst) : D :=
  match x with
  | some (.ints .u8 xs) => pD True (.str (xs.map fun n => UInt8.ofNat n.toNat))
  | _ => none

def convD (h : List AObj) (src d : TyD) (x : AV) : D :=
  match src, d, x with
  | .int _, .int k, .int _ n => pD True (.int k (k.wrap n))
  | .str, .str, .str s => pD True (.str s)
  | .slice (.int .u8), .str, .sl b l => bytesD ((AV.sl b l).list h)
  | .slice (.int .u8), .str, .sref b id ver off len => bytesD ((AV.sref b id ver off len).list h)
  | _, _, _ => none

def fieldD (d : TyD) (x : AV) (f : Nat) : D :=
  match d, x with
  | .strct fs, .agg vs => if AV.sizes (vs.take f) = TyD.sizes (fs.take f) ∧ f < fs.length ∧ f < vs.length then pD (fitP (fs.getD f .other) (vs.getD f .top)) (vs.getD f .top) else none
  | _, _ => none

def fieldAddrD (d : TyD) (x : AV) (f : Nat) : D :=
  match d, x with
  | .strct fs, .ptr id p => if f < fs.length then pD True (.ptr id (p ++ [.f f (TyD.sizes (fs.take f))])) else none
  | .strct fs, .ep l i p => if f < fs.length then pD True (.ep l i (p ++ [.f f (TyD.sizes (fs.take f))])) else none
  | _, _ => none

def makeSliceD (d : TyD) (l c : AV) (s : Nat) : D :=
  match d, l, c with
  | .slice e, .int .i64 n, .int .i64 m => some (0 ≤ n ∧ n ≤ m ∧ roomy m.toNat, .sref (decide (n = m)) s 0 0 n.toNat, [.row .own 0 (e.zeros n.toNat)])
  | _, _, _ => none

def makeMapD (d : TyD) (s : Nat) : D :=
  match d with
  | .map .ib => some (True, .map s, [.map (.ib fun _ => false)])
  | .map .ii => some (True, .map s, [.map (.ii fun _ => 0)])
  | .map .sb => some (True, .map s, [.map (.sb fun _ => false)])
  | .map .ifn => some (True, .map s, [.map (.ifn fun _ => none)])
  | _ => none

def nilCheckD (x : AV) : D :=
  match x with
  | .ptr id p => pD True (.ptr id p)
  | .ep l i p => pD True (.ep l i p)
  | _ => none

def extractD (x : AV) (i : Nat) : D :=
  match x with
  | .tup vs => if i < vs.length then pD True (vs.getD i .top) else none
  | _ => none

def pickD (c a b : AV) : D :=
  match c with
  | .bool v => pD True (match v with | true => a | false => b)
  | _ => none

/-! ### Outcomes go on -/
def runD (x : D) (h : List AObj) (K : AV → List AObj → Prop) : Prop :=
  match x with
  | some (S, v, news) => S ∧ K v (h ++ news)
  | none => False

def runH (x : Option (Prop × Nat × AObj)) (h : List AObj) (K : AV → List AObj → Prop) : Prop :=
  match x with
  | some (S, id, o) => S ∧ K .und (h.set id o)
  | none => False

def runM (x : Option (Prop × AV × Nat × AObj)) (h : List AObj) (K : AV → List AObj → Prop) : Prop :=
  match x with
  | some (S, v, id, o) => S ∧ K v (h.set id o)
  | none => False

def runDM (x : D) (y : Option (Prop × AV × Nat × AObj)) (h : List AObj) (K : AV → List AObj → Prop) : Prop :=
  match x with
  | some (S, v, news) => S ∧ K v (h ++ news)
  | none => runM y h K

def nilEqO (n : Option Nat) (h : List AObj) (K : AV → List AObj → Prop) : Prop :=
  match n with
  | some n => ∀ b : Bool, (b = true → n = 0) → K (.bool b) h
  | none => False

/-- an array is a row, all else a box -/
def boxO (v : AV) : AObj :=
  match v with
  | .arr l => .row .arr 0 l
  | v => .box v

def boxW (d : TyD) (v : AV) (h : List AObj) (K : AV → List AObj → Prop) : Prop := fitP d v ∧ K (.ptr h.length []) (h ++ [boxO v])

-- the ids that a value's slices are rows of
mutual
def AV.rows : AV → List Nat
  | .sref _ id _ _ _ => [id]
  | .agg vs | .tup vs => AV.rowss vs
  | _ => []
def AV.rowss : List AV → List Nat
  | [] => []
  | v :: r => v.rows ++ AV.rowss r
end

def froO : AObj → AObj
  | .row _ ver l => .row .fro ver l
  | o => o

-- values without slices
mutual
def AV.noSl : AV → Bool
  | .int _ _ | .bool _ | .str _ | .nilp | .nilfn | .niliface | .arr _ => true
  | .agg vs | .tup vs => AV.noSls vs
  | .fn _ first cap => AV.noSls first && AV.noSls cap
  | _ => false
def AV.noSls : List AV → Bool
  | [] => true
  | v :: r => v.noSl && AV.noSls r
end

/-- rows that are never written again -/
def freeze : List Nat → List AObj → List AObj
  | [], h => h
  | id :: r, h => freeze r (h.modify id froO)

def callR (dr : Bool) (x : Option (Bool × D)) (rows : List Nat) (h : List AObj) (K : AV → List AObj → Prop) (els : Prop) : Prop :=
  match x with
  | some (true, some (S, v, news)) => S ∧ K (v.shift h.length) (h ++ news)
  | some (false, some (S, v, _)) => match v.noSl with
    | true => S ∧ K v h
    | false => (dr = true → rows = []) ∧ S ∧ K v (freeze rows h)
  | some (_, none) => False
  | none => els

def callArgs (c : Ctx) (f : FuncId) (vs : Option (List AV)) : Option (Bool × D) :=
  match vs with
  | some vs => match AV.closeds vs with
    | true => c.envF f vs
    | false => none
  | none => none

def outW (K KP : AV → List AObj → Prop) (r : AOut) (h : List AObj) : Prop :=
  match r with
  | .ret v => K v h
  | .pan v => KP v h

/-- a call of a Go function -/
def callW (c : Ctx) (f : AV) (args : List AV) (h : List AObj) (K KP : AV → List AObj → Prop) : Prop :=
  match f with
  | .fn (.func f) first cap =>
    callR c.drawn (callArgs c f (AV.vals h (first ++ args ++ cap))) (AV.rowss (first ++ args ++ cap)) h K
      (c.envS f (first ++ args ++ cap) h (outW K KP))
  | .fn (.yield l) [] [] => c.envY l args h (outW K KP)
  | _ => False

def TyD.slc : TyD → Bool
  | .slice _ => true
  | _ => false

def zeroSl (d : TyD) (n : Int) : AV :=
  match d with
  | .slice e => .sl true (e.zeros n.toNat)
  | _ => .top

def appendW (d e : TyD) (s x : AV) (h : List AObj) (K : AV → List AObj → Prop) : Prop :=
  match e with
  | .slice _ => runDM (appendD d h s x h.length) (appendH d h s x) h K
  | .int _ => match x with
    | .int .i64 n => (0 ≤ n ∧ n ≤ 1099511627776) ∧ runDM (appendD d h s (zeroSl d n) h.length) (appendH d h s (zeroSl d n)) h K
    | _ => False
  | _ => False

def builtinW (b : Builtin) (ds : List TyD) (args : List AV) (h : List AObj) (K : AV → List AObj → Prop) : Prop :=
  match b, ds, args with
  | .len, [d], [v] => runD (lenD d h v) h K
  | .min, _, [x, y] => runD (minD x y) h K
  | .max, _, [x, y] => runD (maxD x y) h K
  | .append, [d, e], [s, x] => appendW d e s x h K
  | .copy, [ty, _], [d, s] => runM (copyH ty h d s) h K
  | .clear, [ty], [d] => runM (clearH ty h d) h K
  | _, _, _ => False

/-- a type that is told, and no interface -/
def TyD.known : TyD → Bool
  | .other | .iface | .tup _ => false
  | _ => true

def TyD.field (d : TyD) (i : Nat) : TyD :=
  match d with
  | .strct fs => fs.getD i .other
  | _ => .other

/-- a panic, of a value that an interface holds -/
def panW (v : AV) (h : List AObj) (KP : AV → List AObj → Prop) : Prop :=
  match v with
  | .iface t u => KP (.iface t u) h
  | _ => False

def opW (c : Ctx) (t : List (Nat × AV)) (h : List AObj) (op : Op) (type : TypeId) (K : AV → List AObj → Prop) (KP : AV → List AObj → Prop) : Prop :=
  match op with
  | .move x => K (ev t (c.tab type) x) h
  | .assign x => K (ev t (c.tab type) x) h
  | .pick cnd a b => runD (pickD (ev t .bool cnd) (ev t .bool a) (ev t .bool b)) h K
  | .alloc T => boxW (c.tab T) (c.tab T).zero h K
  | .box T x => boxW (c.tab T) (ev t (c.tab T) x) h K
  | .build T parts => runD (buildD (c.tab T) (parts.toList.map fun p => (p.1, ev t ((c.tab T).field p.1) p.2))) h K
  | .buildSlice T n parts => runD (buildSliceD (c.tab T) n (parts.toList.map fun p => (p.1, ev t .other p.2)) h.length) h K
  | .load T a => runD (fitD (c.tab T) (loadD h (ev t .ptr a))) h K
  | .store T a v => runH (storeH (c.tab T) h (ev t .ptr a) (ev t (c.tab T) v)) h K
  | .nilCheck x => runD (nilCheckD (ev t .ptr x)) h K
  | .binOp op xt x y _ => match isNilSlice y, op with
    | true, .eql => whenP (c.tab xt).slc (nilEqO ((ev t (c.tab xt) x).len (c.tab xt) h) h K)
    | _, _ => runD (binD (c.tab xt) op (ev t (c.tab xt) x) (ev t (c.tab xt) y)) h K
  | .unOp op _ x => runD (unD op (ev t .bool x)) h K
  | .convert s d x => runD (convD h (c.tab s) (c.tab d) (ev t (c.tab s) x)) h K
  | .makeInterface T x => whenP (c.tab T).known (K (.iface T (ev t (c.tab T) x)) h)
  | .makeFunc fn first cap => K (.fn fn (first.toList.map (ev t .other)) (cap.toList.map (ev t .other))) h
  | .makeMap T none => runD (makeMapD (c.tab T) h.length) h K
  | .makeSlice T l cp => runD (makeSliceD (c.tab T) (ev t (.int .i64) l) (ev t (.int .i64) cp) h.length) h K
  | .slice T x lo hi mx => runD (sliceD (c.tab T) h (ev t (c.tab T) x) (lo.map (ev t (.int .i64))) (hi.map (ev t (.int .i64))) (mx.map (ev t (.int .i64)))) h K
  | .fieldAddr T x f => runD (fieldAddrD (c.tab T) (ev t .ptr x) f) h K
  | .field T x f => runD (fieldD (c.tab T) (ev t (c.tab T) x) f) h K
  | .indexAddr T x i => runD (indexAddrD (c.tab T) h (ev t (c.tab T) x) (ev t (.int .i64) i)) h K
  | .index T x i => runD (indexD (c.tab T) (ev t (c.tab T) x) (ev t (.int .i64) i)) h K
  | .lookup T x k false => runD (lookupD (c.tab T) h (ev t .other x) (ev t (.int .i64) k)) h K
  | .mapUpdate T x k v => runH (mapSetH (c.tab T) h (ev t .other x) (ev t (.int .i64) k) (ev t .other v)) h K
  | .insert T x k v => runH (mapSetH (c.tab T) h (ev t .other x) (ev t (.int .i64) k) (ev t .other v)) h K
  | .extract x i => runD (extractD (ev t .other x) i) h K
  | .panic x => panW (ev t .iface x) h KP
  | .call cl => match Nat.beq cl.args.toList.length cl.argTypes.toList.length with
    | false => False
    | true => match cl.callee with
      | .builtin b => builtinW b (cl.argTypes.toList.map c.tab) ((cl.args.toList.zip cl.argTypes.toList).map fun p => ev t (c.tab p.2) p.1) h K
      | .value f => callW c (ev t .func f) ((cl.args.toList.zip cl.argTypes.toList).map fun p => ev t (c.tab p.2) p.1) h K KP
      | _ => False
  | _ => False

/-! ### Regions -/
def putO (d : Option Nat) (v : AV) (t : List (Nat × AV)) : List (Nat × AV) :=
  match d with
  | some i => put i v t
  | none => t

def guardTmp (ops : List Oper) (j : Nat) : Option Nat := (ops[j]?).bind (·.dst)

def guardW (v : AV) (want : Bool) (A B : Prop) : Prop :=
  match v with
  | .bool b => (b = want → A) ∧ (b = (!want) → B)
  | _ => False

def condW (v : AV) (A B : Prop) : Prop :=
  match v with
  | .bool b => (b = true → A) ∧ (b = false → B)
  | _ => False

/-- what is known of temporaries that guard: a bool, or that they were passed over -/
def known (g : Nat) : List (Nat × Option Bool) → Option (Option Bool)
  | [] => none
  | (i, b) :: r => match Nat.beq g i with
    | true => some b
    | false => known g r

def unknow (d : Option Nat) (kn : List (Nat × Option Bool)) : List (Nat × Option Bool) :=
  match d with
  | none => kn
  | some i => match known i kn with
    | none => kn
    | some _ => []

def passed (d : Option Nat) (kn : List (Nat × Option Bool)) : List (Nat × Option Bool) :=
  match d with
  | none => kn
  | some i => match known i kn with
    | none => (i, none) :: kn
    | some _ => []

/-- the operations of a region, in the order of the text -/
def opsW (c : Ctx) (ops : List Oper) (KP : AV → List AObj → Prop) (κ : List (Nat × AV) → List AObj → Prop) : List Oper → List (Nat × Option Bool) → List (Nat × AV) → List AObj → Prop
  | [], _, t, h => κ t h
  | o :: r, kn, t, h =>
    match o.guard with
    | none => opW c t h o.op o.type (fun v h' => opsW c ops KP κ r (unknow o.dst kn) (putO o.dst v t) h') KP
    | some (j, want) => match guardTmp ops j with
      | none => False
      | some g => match known g kn with
        | some (some b) => match b == want with
          | true => opW c t h o.op o.type (fun v h' => opsW c ops KP κ r (unknow o.dst kn) (putO o.dst v t) h') KP
          | false => opsW c ops KP κ r (passed o.dst kn) (putO o.dst .und t) h
        | some none => opsW c ops KP κ r (passed o.dst kn) (putO o.dst .und t) h
        | none => guardW (get t g) want
          (opW c (put g (.bool want) t) h o.op o.type (fun v h' => opsW c ops KP κ r (unknow o.dst ((g, some want) :: kn)) (putO o.dst v (put g (.bool want) t)) h') KP)
          (opsW c ops KP κ r (passed o.dst ((g, some (!want)) :: kn)) (putO o.dst .und (put g (.bool (!want)) t)) h)

/-! ### Regions that draw their order -/
def tmpsOf (o : Oper) : List Nat := o.op.operands.toList.filterMap fun x => match x with | .tmp i => some i | _ => none

/-- the operations that must be done ahead, as bits -/
def befores : List Oper → List Nat → List Nat
  | [], acc => acc
  | o :: r, acc => befores r (acc ++ [o.after.foldl (fun s e => match Region.binds .any e with
      | true => s ||| ((1 <<< e.on) ||| acc.getD e.on 0)
      | false => s) 0])

/-- what an operation writes: an operand that tells the object -/
def mutOf (o : Oper) : Option Operand :=
  match o.op with
  | .store _ a _ => some a
  | .mapUpdate _ m _ _ => some m
  | .insert _ m _ _ => some m
  | .call { callee := .builtin .append, args, .. } => args[0]?
  | .call { callee := .builtin .copy, args, .. } => args[0]?
  | .call { callee := .builtin .clear, args, .. } => args[0]?
  | _ => none

/-- an operation that looks at the heap -/
def looks (o : Oper) : Bool :=
  match o.op with
  | .load .. | .store .. | .lookup .. | .mapUpdate .. | .insert .. | .call _ | .convert .. | .slice .. | .indexAddr .. => true
  | .binOp op _ _ y _ => match isNilSlice y, op with
    | true, .eql => true
    | _, _ => false
  | _ => false

/-- pairs that are in no order, of which one writes and the other looks -/
def pairsOf (ops : List Oper) (b : List Nat) : List (Nat × Nat) :=
  (List.range ops.length).flatMap fun j => (List.range j).flatMap fun i =>
    match (b.getD j 0).testBit i with
    | true => []
    | false => match ops[i]?, ops[j]? with
      | some oi, some oj =>
        (if (mutOf oi).isSome && looks oj then [(i, j)] else []) ++ (if (mutOf oj).isSome && looks oi then [(j, i)] else [])
      | _, _ => []

-- the objects that a value names
mutual
def AV.ids : AV → List Nat
  | .sref _ id _ _ _ => [id]
  | .ptr id _ => [id]
  | .map id => [id]
  | .agg vs | .tup vs => AV.idss vs
  | .fn _ a b => AV.idss a ++ AV.idss b
  | .iface _ v => v.ids
  | _ => []
def AV.idss : List AV → List Nat
  | [] => []
  | v :: r => v.ids ++ AV.idss r
end

def sepB (v : AV) (vs : List AV) : Bool := v.ids.all fun i => (AV.idss vs).all fun j => !Nat.beq i j

def sepW (t : List (Nat × AV)) : List (Option Operand × List Operand) → Prop → Prop
  | [], A => A
  | (some x, ys) :: r, A => sepB (ev t .other x) (ys.map (ev t .other)) = true ∧ sepW t r A
  | (none, _) :: _, _ => False

def sepsOf (ops : List Oper) (b : List Nat) : List (Option Operand × List Operand) :=
  (pairsOf ops b).map fun p => match ops[p.1]?, ops[p.2]? with
    | some oi, some oj => (mutOf oi, oj.op.operands.toList)
    | _, _ => (none, [])

/-- each temporary is written once; who reads one that is written here is ahead of the writer, or behind; who is in a pair is behind the writers; no order but of the edges that bind -/
def nilEqB (o : Op) : Bool :=
  match o with
  | .binOp op _ _ y _ => match isNilSlice y, op with
    | true, .eql => true
    | _, _ => false
  | _ => false

def drawOk (ops : List Oper) (b : List Nat) : Bool :=
  let n := ops.length
  ((List.range n).all fun i => match ops[i]? with
    | none => false
    | some o =>
      !nilEqB o.op &&
      o.after.all (fun e => !Region.binds .any e || Nat.blt e.on i) &&
      (match o.guard with
        | none => true
        | some (j, _) => (b.getD i 0).testBit j && Nat.blt j i) &&
      ((List.range n).all fun j => match ops[j]? with
        | none => false
        | some o' => match o'.dst with
          | none => true
          | some d => (Nat.beq i j || !(o.dst == some d)) &&
            (!(tmpsOf o).contains d || (b.getD i 0).testBit j || (!Nat.beq i j && (b.getD j 0).testBit i) || (Nat.beq i j && !looks o)))) &&
  ((pairsOf ops b).all fun p => match ops[p.1]?, ops[p.2]? with
    | some oi, some oj => (List.range n).all fun k => match (ops[k]?).bind (·.dst) with
      | none => true
      | some d => (!(tmpsOf oi).contains d || (b.getD p.1 0).testBit k) && (!(tmpsOf oj).contains d || (b.getD p.2 0).testBit k)
    | _, _ => false)

def Ctx.noS (c : Ctx) : Ctx := { c with envS := fun _ _ _ _ => False, drawn := true, envY := fun _ _ _ _ => False }

/-- a function that is ranged over: its yield -/
def Ctx.withY (c : Ctx) (l : Nat) (Y : Con) : Ctx := { c with envY := fun l' args h K => l' = l ∧ Y args h K }

/-- within a round -/
def Ctx.noI (c : Ctx) : Ctx := { c with iterS := fun _ _ _ _ _ => False }

/-! ### Loops -/
def forallV : List Nat → (List (Nat × AV) → List AV → Prop) → Prop
  | [], P => P [] []
  | i :: L, P => ∀ v, forallV L fun t vs => P ((i, v) :: t) (v :: vs)

def normR (n : Nat) (o : Option AObj) (id ver off len : Nat) : AV :=
  match o with
  | some (.row _ ver' l) => if ver = ver' then (if id < n then .sref false id ver off len else .sl false (l.cut off len)) else .top
  | _ => .top

-- values at the head of a loop
mutual
def AV.norm (n : Nat) (h : List AObj) : AV → AV
  | .sref _ id ver off len => normR n (h[id]?) id ver off len
  | .sl _ l => .sl false l
  | .ptr id p => if id < n then .ptr id p else .top
  | .map id => if id < n then .map id else .top
  | .agg vs => .agg (AV.norms n h vs)
  | .tup vs => .tup (AV.norms n h vs)
  | .fn f first cap => .fn f (AV.norms n h first) (AV.norms n h cap)
  | .iface t v => .iface t (v.norm n h)
  | v => v
def AV.norms (n : Nat) (h : List AObj) : List AV → List AV
  | [] => []
  | v :: r => v.norm n h :: AV.norms n h r
end

def normO (n : Nat) (h : List AObj) : AObj → AObj
  | .box v => .box (v.norm n h)
  | o => o

def normH (n : Nat) (h : List AObj) : List AObj := (h.take n).map (normO n h)

/-- empty slices become rows of the function's own -/
def promV : List Bool → List AV → List AObj → (List AV → List AObj → Prop) → Prop
  | true :: fs, v :: vs, h, K => match v with
    | .sl true l => l.len = 0 ∧ promV fs vs (h ++ [.row .own 0 l]) fun us h' => K (.sref false h.length 0 0 0 :: us) h'
    | v => promV fs vs h fun us h' => K (v :: us) h'
  | false :: fs, v :: vs, h, K => promV fs vs h fun us h' => K (v :: us) h'
  | _, vs, h, K => K vs h

def firstRegion : Code → Nat
  | .region id _ _ => id
  | .seq a _ => firstRegion a
  | .block _ b => firstRegion b
  | .loop b => firstRegion b
  | .scope b => firstRegion b
  | _ => 0

def loopW (L : List Nat) (lv : List AV) (h0 : List AObj) (kv : List AV) (n0 : Nat) (body : List (Nat × AV) → List AObj → (List AV → List AV → List AObj → Prop) → Prop) : Prop :=
  ∃ I : Nat → List AV → List AObj → Prop, (∃ n, I n lv h0) ∧
    ∀ n h, forallV L fun t vs => I n vs h → body t h fun lv' kv' h' => (∃ m, m < n ∧ I m (AV.norms n0 h' lv') (normH n0 h')) ∧ AV.norms n0 h' kv' = kv

def gets (t : List (Nat × AV)) : List Nat → List AV
  | [] => []
  | i :: r => get t i :: gets t r

def zipT : List Nat → List AV → List (Nat × AV)
  | i :: L, v :: vs => (i, v) :: zipT L vs
  | _, _ => []

def hasLabel : Code → Nat → Bool
  | .seq a b, l => hasLabel a l || hasLabel b l
  | .label l', l => Nat.beq l' l
  | _, _ => false

/-! ### Ranges over functions -/
def putAll : List Nat → List AV → List (Nat × AV) → List (Nat × AV)
  | i :: L, v :: vs, t => putAll L vs (put i v t)
  | _, _, t => t

/-- a round's arguments -/
def argsW : List Nat → List AV → List (Nat × AV) → (List (Nat × AV) → Prop) → Prop
  | [], vs, t, A => match vs with
    | [] => A t
    | _ :: _ => False
  | i :: L, vs, t, A => match vs with
    | [] => False
    | v :: vs => argsW L vs (put i v t) A

def argX0 (vs : List AV) (A : Prop) : Prop :=
  match vs with
  | [] => A
  | _ :: _ => False
def argX1 (vs : List AV) (A : AV → Prop) : Prop :=
  match vs with
  | [] => False
  | v :: vs => argX0 vs (A v)
def argX2 (vs : List AV) (A : AV → AV → Prop) : Prop :=
  match vs with
  | [] => False
  | v :: vs => argX1 vs (A v)

/-- the loop's record -/
def lpIs (h : List AObj) (id : Nat) (st : LoopState) (r : Loop) : Prop := h[id]? = some (.lp st none r)

/-- a round: the loop's record is object id -/
def roundW (ps : List Nat) (wa wb : List (Nat × AV) → List AObj → (AExit → List (Nat × AV) → List AObj → Prop) → Prop) (t : List (Nat × AV)) (id : Nat) (r : Loop) (args : List AV) (h : List AObj) (K : AOut → List AObj → Prop) : Prop :=
  lpIs h id .ready r ∧ argsW ps args t fun t => wa t h fun e t' h' => match e with
    | .normal => lpIs h' id .ready r ∧ wb t' (h'.set id (.lp .busy none r)) fun e _ h'' => match e with
      | .normal => lpIs h'' id .busy r ∧ K (.ret (.bool true)) (h''.set id (.lp .ready none r))
      | .ret => lpIs h'' id .busy r ∧ K (.ret (.bool false)) (h''.set id (.lp .done (some .ret) r))
      | .exit i => lpIs h'' id .busy r ∧ K (.ret (.bool false)) (h''.set id (.lp .done (some (.exit i)) r))
      | .goto l => lpIs h'' id .busy r ∧ K (.ret (.bool false)) (h''.set id (.lp .done (some (.goto l)) r))
      | .pan _ => False
    | _ => False

def endO (o : Option AObj) (id : Nat) (r : Loop) (h : List AObj) (kn kr : List AObj → Prop) (ke kg : Nat → List AObj → Prop) : Prop :=
  match o with
  | some (.lp .ready none r') => r' = r ∧ kn (h.set id (.lp .exhausted none r))
  | some (.lp .done (some .ret) r') => r' = r ∧ kr (h.set id (.lp .exhausted (some .ret) r))
  | some (.lp .done (some (.exit i)) r') => r' = r ∧ ke i (h.set id (.lp .exhausted (some (.exit i)) r))
  | some (.lp .done (some (.goto l)) r') => r' = r ∧ kg l (h.set id (.lp .exhausted (some (.goto l)) r))
  | _ => False

/-- the end of a range over a function -/
def endX (id : Nat) (r : Loop) (ao : AOut) (h : List AObj) (kn kr : List AObj → Prop) (ke kg : Nat → List AObj → Prop) (kp : AV → List AObj → Prop) : Prop :=
  match ao with
  | .pan v => kp v h
  | .ret _ => endO (h[id]?) id r h kn kr ke kg

def rangeEnd (t : List (Nat × AV)) (id : Nat) (r : Loop) (κ : AExit → List (Nat × AV) → List AObj → Prop) (ao : AOut) (h : List AObj) : Prop :=
  endX id r ao h (fun h => κ .normal t h) (fun h => κ .ret t h) (fun i h => κ (.exit i) t h) (fun l h => κ (.goto l) t h) (fun v h => κ (.pan v) t h)

/-- boxes that hold an empty slice: it becomes a row of the function's own -/
def promL (l : Lst) : Option Lst :=
  match l.len with
  | 0 => some l
  | _ => none
def promO (o : AObj) : Option Lst :=
  match o with
  | .box v => match v with
    | .sl true l => promL l
    | _ => none
  | _ => none

def promS (i : Nat) (o : Option Lst) (h : List AObj) : List AObj :=
  match o with
  | some l => (h ++ [AObj.row .own 0 l]).set i (.box (.sref false h.length 0 0 0))
  | none => h

def promB : List AObj → Nat → List AObj → List AObj
  | [], _, h => h
  | o :: r, i, h => promB r (i + 1) (promS i (promO o) h)

def rangeY (iterS : FuncId → Con → Con) (f : FuncId) (cap : List AV) (h : List AObj) (rd : Nat → Loop → Con) (fin : Nat → Loop → AOut → List AObj → Prop) : Prop :=
  ∀ (l : Nat) (r : Loop), iterS f (rd h.length r) (.fn (.yield l) [] [] :: cap) (h ++ [.lp .ready none r]) (fin h.length r)

def rangeX (iterS : FuncId → Con → Con) (g : AV) (h : List AObj) (rd : Nat → Loop → Con) (fin : Nat → Loop → AOut → List AObj → Prop) : Prop :=
  match g with
  | .fn (.func f) [] cap => rangeY iterS f cap (promB h 0 h) rd fin
  | _ => False

/-- an exit of a block -/
def exitW (i id : Nat) (A B : Prop) : Prop :=
  match Nat.beq i id with
  | true => A
  | false => B

def rangeW (iterS : FuncId → Con → Con) (g : AV) (ps : List Nat) (wa wb : List (Nat × AV) → List AObj → (AExit → List (Nat × AV) → List AObj → Prop) → Prop) (t : List (Nat × AV)) (h : List AObj) (κ : AExit → List (Nat × AV) → List AObj → Prop) : Prop :=
  rangeX iterS g h (fun id r args h' K => roundW ps wa wb t id r args h' K) (fun id r ao h => rangeEnd t id r κ ao h)

/-- the verification condition of a piece of code; g: from behind a label on -/
def W (c : Ctx) : Option Nat → Code → St → (AExit → St → Prop) → Prop
  | g, .seq a b, st, κ => match g with
    | none => W c none a st fun e st' => match e with
      | .normal => W c none b st' κ
      | e => κ e st'
    | some l => match hasLabel a l with
      | true => W c (some l) a st fun e st' => match e with
        | .normal => W c none b st' κ
        | e => κ e st'
      | false => W c (some l) b st κ
  | some _, .label _, st, κ => κ .normal st
  | none, .skip, st, κ => κ .normal st
  | none, .label _, st, κ => κ .normal st
  | none, .ret, st, κ => κ .ret st
  | none, .exit id, st, κ => κ (.exit id) st
  | none, .goto l, st, κ => κ (.goto l) st
  | none, .cond x a b, st, κ => condW (ev st.t .bool x) (W c none a st κ) (W c none b st κ)
  | none, .block id b, st, κ => W c none b st fun e st' => match e with
    | .exit id' => match Nat.beq id' id with
      | true => κ .normal st'
      | false => κ (.exit id') st'
    | e => κ e st'
  | none, .scope b, st, κ => W c none b st fun e st' => match e with
    | .goto l => match hasLabel b l with
      | true => W c (some l) b st' fun e st' => match e with
        | .goto _ => False
        | e => κ e st'
      | false => κ (.goto l) st'
    | e => κ e st'
  | none, .loop b, st, κ =>
    let i := c.loop (firstRegion b)
    promV i.prom (gets st.t i.live) st.h fun lv h =>
      loopW i.live (AV.norms h.length h lv) (normH h.length h) (AV.norms h.length h (gets st.t i.const)) h.length fun t h' N =>
        W c none b ⟨t ++ zipT i.const (AV.norms h.length h (gets st.t i.const)), h'⟩ fun e s' => match e with
          | .normal => N (gets s'.t i.live) (gets s'.t i.const) s'.h
          | e => κ e s'
  | none, .rangeFunc g ps assign body, st, κ =>
    rangeW c.iterS (ev st.t .func g) ps.toList (fun t h k => W c.noI none assign ⟨t, h⟩ fun e s => k e s.t s.h) (fun t h k => W c.noI none body ⟨t, h⟩ fun e s => k e s.t s.h) st.t st.h fun e t h => κ e ⟨t, h⟩
  | none, .region _ ops draw, st, κ => match draw with
    | false => opsW c ops.toList (fun v h => κ (.pan v) ⟨st.t, h⟩) (fun t h => κ .normal ⟨t, h⟩) ops.toList [] st.t st.h
    | true => match drawOk ops.toList (befores ops.toList []) with
      | false => False
      | true => opsW c.noS ops.toList (fun _ _ => False) (fun t h => sepW t (sepsOf ops.toList (befores ops.toList [])) (κ .normal ⟨t, h⟩)) ops.toList [] st.t st.h
  | _, _, _, _ => False

/-! ### Functions -/
def loadRes (x : D) (K : AV → Prop) : Prop :=
  match x with
  | some (S, v, _) => S ∧ K v
  | none => False

def resW (c : Ctx) (h : List AObj) (t : List (Nat × AV)) : List ResultVar → (List AV → Prop) → Prop
  | [], K => K []
  | .tmp i :: r, K => resW c h t r fun vs => K (get t i :: vs)
  | .cell a T :: r, K => loadRes (fitD (c.tab T) (loadD h (get t a))) fun v => resW c h t r fun vs => K (v :: vs)

def tupled : List AV → AV
  | [v] => v
  | vs => .tup vs

def init : Nat → List AV → List (Nat × AV)
  | _, [] => []
  | i, v :: r => (i, v) :: init (i + 1) r

/-- every temporary that is written is there -/
def dstOk (n : Nat) : Code → Bool
  | .region _ ops _ => ops.toList.all fun o => match o.dst with
    | none => true
    | some d => Nat.blt d n
  | .seq a b => dstOk n a && dstOk n b
  | .cond _ a b => dstOk n a && dstOk n b
  | .block _ b => dstOk n b
  | .loop b => dstOk n b
  | .scope b => dstOk n b
  | .rangeFunc _ ps a b => (ps.toList.all fun i => Nat.blt i n) && dstOk n a && dstOk n b
  | _ => true

def bodyW (c : Ctx) (fn : Func) (b : Code) (args : List AV) (h : List AObj) (K : AOut → List AObj → Prop) : Prop :=
  W c none b ⟨init 0 args, h⟩ fun e st => match e with
    | .ret => resW c st.h st.t fn.results.toList fun vs => K (.ret (tupled vs)) st.h
    | .normal => resW c st.h st.t fn.results.toList fun vs => K (.ret (tupled vs)) st.h
    | .pan v => K (.pan v) st.h
    | _ => False

def funW (c : Ctx) (fn : Func) (args : List AV) (h : List AObj) (K : AOut → List AObj → Prop) : Prop :=
  match fn.body with
  | none => False
  | some b => match dstOk fn.ntmps b && Nat.ble args.length fn.ntmps with
    | true => bodyW c fn b args h K
    | false => False

end Lam
