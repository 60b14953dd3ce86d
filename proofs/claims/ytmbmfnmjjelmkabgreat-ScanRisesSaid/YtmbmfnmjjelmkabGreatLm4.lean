/- What functions of the program come to, each proved from its code. -/
import Derived.Test.YtmbmfnmjjelmkabGreatLm3
import Derived.Attr
import Derived.KernelRfl
import Derived.Test.YtmbmfnmjjelmkabGreatProg
import Derived.WideLaws
set_option linter.unusedVariables false
set_option linter.unusedSimpArgs false
set_option linter.unnecessarySimpa false
set_option linter.unusedSectionVars false
open Nat (reduceEqDiff reduceAdd reduceSub reduceLeDiff)
open Int (reduceToNat reduceEq reduceLE reduceLT)
open List (reduceReplicate)
set_option maxRecDepth 20000
namespace Lam
open Go

def xorI (k : IntKind) (a b : Int) : Int := k.wrap (BitVec.ofInt k.bits a ^^^ BitVec.ofInt k.bits b).toNat
def andI (k : IntKind) (a b : Int) : Int := k.wrap (BitVec.ofInt k.bits a &&& BitVec.ofInt k.bits b).toNat
def orI (k : IntKind) (a b : Int) : Int := k.wrap (BitVec.ofInt k.bits a ||| BitVec.ofInt k.bits b).toNat
def wF (k : IntKind) (a b : Int) : Int := k.wrap (BitVec.ofInt k.bits a &&& ~~~ BitVec.ofInt k.bits b).toNat
def notI (k : IntKind) (a : Int) : Int := k.wrap (BitVec.ofInt k.bits (if k.signed then -1 else k.max) ^^^ BitVec.ofInt k.bits a).toNat

section runs
variable (S : Prop) (v : AV) (news h : List AObj) (K KP : AV → List AObj → Prop)
@[go_sem] theorem aYE : runD (pD S v) h K = (S ∧ K v h) := by simp [pD, runD]
@[go_sem] theorem aRD : runD (some (S, v, news)) h K = (S ∧ K v (h ++ news)) := (rfl)
@[go_sem] theorem aRE (id : Nat) (o : AObj) : runH (some (S, id, o)) h K = (S ∧ K .und (h.set id o)) := (rfl)
@[go_sem] theorem aRF (id : Nat) (o : AObj) : runM (some (S, v, id, o)) h K = (S ∧ K v (h.set id o)) := (rfl)
@[go_sem] theorem aXC (y) : jE (pD S v) y h K = (S ∧ K v h) := by simp [pD, jE]
@[go_sem] theorem aOH (y) : jE (some (S, v, news)) y h K = (S ∧ K v (h ++ news)) := (rfl)
@[go_sem] theorem aOI (y) : jE none y h K = runM y h K := (rfl)
@[go_sem] theorem aNi (n : Nat) : pQ (some n) h K = ∀ b : Bool, (b = true → n = 0) → K (.bool b) h := (rfl)
@[go_sem] theorem aRG (d : TyD) : cK d h K = (mZ d ∧ K (.ptr h.length []) (h ++ [boxO d.zero])) := (rfl)
@[go_sem] theorem aRH (m : MK) : mZ (.map m) = True := (rfl)
@[go_sem] theorem aRI (k : IntKind) : mZ (.int k) = fitP (.int k) (TyD.int k).zero := (rfl)
@[go_sem] theorem aOJ : mZ .bool = fitP .bool TyD.bool.zero := (rfl)
@[go_sem] theorem aRJ : mZ .str = fitP .str TyD.str.zero := (rfl)
@[go_sem] theorem aNj (e : LK) : mZ (.slice e) = fitP (.slice e) (TyD.slice e).zero := (rfl)
@[go_sem] theorem aNk (fs : List TyD) : mZ (.strct fs) = fitP (.strct fs) (TyD.strct fs).zero := (rfl)
@[go_sem] theorem aRK (n : Nat) (e : LK) : mZ (.arr n e) = fitP (.arr n e) (TyD.arr n e).zero := (rfl)
@[go_sem] theorem aRL : mZ .ptr = fitP .ptr TyD.ptr.zero := (rfl)
@[go_sem] theorem aOK : mZ .func = fitP .func TyD.func.zero := (rfl)
@[go_sem] theorem aNl : mZ .iface = fitP .iface TyD.iface.zero := (rfl)
@[congr] theorem aMC {d d' : TyD} {h h' : List AObj} {K : AV → List AObj → Prop} (e2 : d = d') (e : h = h') : cK d h K = cK d' h' K := by rw [e, e2]
@[go_sem] theorem aXD (d : TyD) : boxW d v h K = (fitP d v ∧ K (.ptr h.length []) (h ++ [boxO v])) := (rfl)
@[go_sem] theorem aOL (t : TypeId) (u : AV) : panW (.iface t u) h KP = KP (.iface t u) h := (rfl)
@[go_sem] theorem aOM (A : Prop) : sL true A = A := (rfl)
@[go_sem] theorem aON (x : D) : eZ true x = x := (rfl)
theorem mY (b w : Bool) (A B : Prop) : aX (.bool b) w A B = ((b = w → A) ∧ (b = (!w) → B)) := (rfl)
@[go_sem] theorem aOO (b : Bool) (A B : Prop) : aZ (.bool b) A B = ((b = true → A) ∧ (b = false → B)) := (rfl)
@[go_sem] theorem aUL (mt : Bool) (c : Ctx) (f : FuncId) (first cap args : List AV) : bB mt c (.fn (.func f) first cap) args h K KP =
    lB (mS mt args) c.drawn (nD c f (AV.vals h (first ++ args ++ cap))) (AV.rowss (first ++ args ++ cap)) h K (c.envS f (first ++ args ++ cap) h (outW K KP)) := (rfl)
@[go_sem] theorem aMm (c : Ctx) (f : FuncId) (vs : List AV) : nD c f (some vs) = if AV.closeds vs = true then c.envF f vs else none := by
  cases h : AV.closeds vs <;> simp [nD, h]
@[go_sem] theorem aMn (c : Ctx) (f : FuncId) : nD c f none = none := (rfl)
@[go_sem] theorem aNm (la : Option Nat) (dr : Bool) (rows : List Nat) (els : Prop) : lB la dr (some (true, some (S, v, news))) rows h K els = (S ∧ K (v.shift h.length) (h ++ news)) := (rfl)
@[go_sem] theorem aMD (la : Option Nat) (dr : Bool) (rows : List Nat) (els : Prop) : lB la dr (some (true, pD S v)) rows h K els = (S ∧ K (v.shift h.length) h) := by simp [pD, lB]
@[go_sem] theorem aNn (la : Option Nat) (dr : Bool) (rows : List Nat) (els : Prop) (hv : v.noSl = true) : lB la dr (some (false, pD S v)) rows h K els = (S ∧ K v h) := by simp [pD, lB, hv]
@[go_sem] theorem aOP (la : Option Nat) (rows : List Nat) (els : Prop) (hv : v.noSl = false) : lB la false (some (false, pD S v)) rows h K els = (S ∧ K v (fZ rows h)) := by simp [pD, lB, hv]
@[go_sem] theorem aRM (id : Nat) (els : Prop) (hv : v.noSl = false) : lB (some id) true (some (false, pD S v)) [id] h K els = (S ∧ K v (fZ [id] h)) := by simp [pD, lB, hv]
@[go_sem] theorem aME (args : List AV) : mS false args = none := (rfl)
@[go_sem] theorem aOQ (x : Bool) (id ver off len : Nat) : mS true [.sref x id ver off len] = some id := (rfl)
@[go_sem] theorem aRN (x : Bool) (l : Lst) : mS true [.sl x l] = none := (rfl)
@[go_sem] theorem aNo (a b : AV) (r : List AV) : mS true (a :: b :: r) = mS true (b :: r) := by simp [mS]
@[go_sem] theorem aNp (la : Option Nat) (dr : Bool) (els : Prop) : lB la dr (some (false, pD S v)) [] h K els = (S ∧ K v h) := by cases hv : v.noSl <;> simp [pD, lB, hv, fZ]
@[go_sem] theorem aOR (la : Option Nat) (dr : Bool) (rows : List Nat) (els : Prop) : lB la dr none rows h K els = els := (rfl)
@[go_sem] theorem aOS : fZ [] h = h := (rfl)
@[go_sem] theorem aNq (id : Nat) (r : List Nat) : fZ (id :: r) h = fZ r (h.modify id froO) := (rfl)
@[go_sem] theorem aUM (k : RK) (ver : Nat) (l : Lst) : froO (.row k ver l) = .row .fro ver l := (rfl)
@[go_sem] theorem aUN (u : AV) : froO (.box u) = .box u := (rfl)
@[go_sem] theorem aXE (st : LoopState) (pd : Option Code) (r : Loop) : froO (.lp st pd r) = .lp st pd r := (rfl)
@[go_sem] theorem aUO (n : Nat) (st : LoopState) (pd : Option Code) (r : Loop) : pS n h (.lp st pd r) = .lp st pd r := (rfl)
@[go_sem] theorem aNr (mt : Bool) (c : Ctx) (l : Nat) (args : List AV) (KP : AV → List AObj → Prop) : bB mt c (.fn (.yield l) [] []) args h K KP = c.envY l args h (outW K KP) := (rfl)
@[go_sem] theorem aUP (c : Ctx) (l : Nat) (a : List AV) (K' : AOut → List AObj → Prop) : c.noS.envY l a h K' = False := (rfl)
@[go_sem] theorem aRO (c : Ctx) : c.noI.drawn = c.drawn := (rfl)
@[go_sem] theorem aUQ (c : Ctx) : c.noI.envF = c.envF := (rfl)
@[go_sem] theorem aUR (c : Ctx) : c.noI.envS = c.envS := (rfl)
@[go_sem] theorem aUS (c : Ctx) : c.noI.envY = c.envY := (rfl)
@[go_sem] theorem aXF (c : Ctx) : c.noI.tab = c.tab := (rfl)
@[go_sem] theorem aNs (c : Ctx) (l : Nat) (Y : Con) : (c.withY l Y).drawn = c.drawn := (rfl)
@[go_sem] theorem aOT (c : Ctx) (l : Nat) (Y : Con) : (c.withY l Y).envF = c.envF := (rfl)
@[go_sem] theorem aOU (c : Ctx) (l : Nat) (Y : Con) : (c.withY l Y).envS = c.envS := (rfl)
@[go_sem] theorem aOV (c : Ctx) (l l' : Nat) (Y : Con) (a : List AV) (K' : AOut → List AObj → Prop) : (c.withY l Y).envY l' a h K' = (l' = l ∧ Y a h K') := (rfl)
@[go_sem] theorem aRP (iterS : FuncId → Con → Con) (f : FuncId) (cap : List AV) (rd : Nat → Loop → Con) (fin : Nat → Loop → AOut → List AObj → Prop) :
    vQ iterS (.fn (.func f) [] cap) h rd fin = aBL iterS f cap h rd fin := (rfl)
@[go_sem] theorem aRQ (iterS : FuncId → Con → Con) (f : FuncId) (cap : List AV) (rd : Nat → Loop → Con) (fin : Nat → Loop → AOut → List AObj → Prop) :
    aBL iterS f cap h rd fin = ∀ (l : Nat) (r : Loop), iterS f (rd h.length r) (.fn (.yield l) [] [] :: cap) (h ++ [.lp .ready none r]) (fin h.length r) := (rfl)
@[go_sem] theorem aUT : boxH [] h = h := (rfl)
@[go_sem] theorem aRR (a : AV) (r : List AV) : boxH (a :: r) h = boxH r (aBK a h) := (rfl)
@[go_sem] theorem aRS (id : Nat) : aBK (.ptr id []) h = pR id (h.getD id .dead) h := (rfl)
@[go_sem] theorem aRT (i : Nat) : aEw [] i h = h := (rfl)
@[go_sem] theorem aOW (o : AObj) (r : List AObj) (i : Nat) : aEw (o :: r) i h = aEw r (i + 1) (pR i o h) := (rfl)
@[go_sem] theorem aRU (v : AV) (i : Nat) : pR i (.box v) h = aBJ i (gK v h.length) h := (rfl)
@[go_sem] theorem aRV (k : RK) (v i : Nat) (l : Lst) : pR i (.row k v l) h = h := (rfl)
@[go_sem] theorem aUU (m : MapC) (i : Nat) : pR i (.map m) h = h := (rfl)
@[go_sem] theorem aUV (st : LoopState) (pd : Option Code) (r : Loop) (i : Nat) : pR i (.lp st pd r) h = h := (rfl)
@[go_sem] theorem aOX (i : Nat) : pR i .dead h = h := (rfl)
@[go_sem] theorem aRW (i : Nat) (v : AV) : aBJ i (v, []) h = h := (rfl)
@[go_sem] theorem aOY (i : Nat) (v : AV) (l : Lst) (r : List Lst) : aBJ i (v, l :: r) h = (h ++ lN (l :: r)).set i (.box v) := (rfl)
@[go_sem] theorem aOZ : lN [] = [] := (rfl)
@[go_sem] theorem aNt (l : Lst) (r : List Lst) : lN (l :: r) = .row .own 0 l :: lN r := (rfl)
@[go_sem] theorem aPa (i : Nat) : kW [] i = ([], []) := (rfl)
@[go_sem] theorem aNu (v : AV) (r : List AV) (n : Nat) : kW (v :: r) n = ((gK v n).1 :: (kW r (n + (gK v n).2.length)).1, (gK v n).2 ++ (kW r (n + (gK v n).2.length)).2) := (rfl)
@[go_sem] theorem aRX (vs : List AV) (n : Nat) : gK (.agg vs) n = (.agg (kW vs n).1, (kW vs n).2) := (rfl)
@[go_sem] theorem aRY (l : Lst) (n : Nat) : gK (.sl true l) n = mK l n := (rfl)
@[go_sem] theorem aRZ (l : Lst) (i : Nat) : gK (.sl false l) i = (.sl false l, []) := (rfl)
@[go_sem] theorem aSa (k : IntKind) (n : Int) (i : Nat) : gK (.int k n) i = (.int k n, []) := (rfl)
@[go_sem] theorem aPb (b : Bool) (i : Nat) : gK (.bool b) i = (.bool b, []) := (rfl)
@[go_sem] theorem aSb (b : bF) (i : Nat) : gK (.str b) i = (.str b, []) := (rfl)
@[go_sem] theorem aPc (x : Bool) (a b c d : Nat) (i : Nat) : gK (.sref x a b c d) i = (.sref x a b c d, []) := (rfl)
@[go_sem] theorem aSc (a : Nat) (i : Nat) : gK (.map a) i = (.map a, []) := (rfl)
@[go_sem] theorem aSd (a : Nat) (p : List PS) (i : Nat) : gK (.ptr a p) i = (.ptr a p, []) := (rfl)
@[go_sem] theorem aUW (f : Fn) (a b : List AV) (i : Nat) : gK (.fn f a b) i = (.fn f a b, []) := (rfl)
@[go_sem] theorem aPd (i : Nat) : gK .nilp i = (.nilp, []) := (rfl)
@[go_sem] theorem aNv (i : Nat) : gK .nilfn i = (.nilfn, []) := (rfl)
@[go_sem] theorem aLZ (i : Nat) : gK .niliface i = (.niliface, []) := (rfl)
@[go_sem] theorem aNw (t : TypeId) (v : AV) (i : Nat) : gK (.iface t v) i = (.iface t v, []) := (rfl)
@[go_sem] theorem aSe (i : Nat) : gK .top i = (.top, []) := (rfl)
@[go_sem] theorem aSf (i : Nat) : gK .und i = (.und, []) := (rfl)
@[go_sem] theorem aSg (l : Lst) (i : Nat) : gK (.arr l) i = (.arr l, []) := (rfl)
@[go_sem] theorem aPe (k : IntKind) (n : Nat) : mK (.ints k []) n = (.sref false n 0 0 0, [.ints k []]) := (rfl)
@[go_sem] theorem aNx (n : Nat) : mK (.bools []) n = (.sref false n 0 0 0, [.bools []]) := (rfl)
@[go_sem] theorem aPf (n : Nat) : mK (.strs []) n = (.sref false n 0 0 0, [.strs []]) := (rfl)
@[go_sem] theorem aNy (n : Nat) : mK (.pends []) n = (.sref false n 0 0 0, [.pends []]) := (rfl)
@[go_sem] theorem aPg (n : Nat) : mK (.mics []) n = (.sref false n 0 0 0, [.mics []]) := (rfl)
@[go_sem] theorem aPh (n : Nat) : mK (.recs []) n = (.sref false n 0 0 0, [.recs []]) := (rfl)
@[go_sem] theorem aNz (n : Nat) : mK (.pairs []) n = (.sref false n 0 0 0, [.pairs []]) := (rfl)
@[go_sem] theorem aNA (n : Nat) : mK (.slots []) n = (.sref false n 0 0 0, [.slots []]) := (rfl)
@[go_sem] theorem aSh (n : Nat) : mK (.fns []) n = (.sref false n 0 0 0, [.fns []]) := (rfl)
@[go_sem] theorem aXG (id : Nat) (st : LoopState) (r : Loop) : lpIs h id st r = (h[id]? = some (.lp st none r)) := (rfl)
@[go_sem] theorem aSi (A : Prop) : aHz [] A = A := (rfl)
@[go_sem] theorem aPi (v : AV) (vs : List AV) (A : AV → Prop) : aAi (v :: vs) A = aHz vs (A v) := (rfl)
@[go_sem] theorem aPj (v : AV) (vs : List AV) (A : AV → AV → Prop) : aOy (v :: vs) A = aAi vs (A v) := (rfl)
section
variable (id : Nat) (r r' : Loop) (kn kr : List AObj → Prop) (ke kg : Nat → List AObj → Prop) (kp : AV → List AObj → Prop)
@[go_sem] theorem aUX (v : AV) : endX id r (.ret v) h kn kr ke kg kp = endO (h[id]?) id r h kn kr ke kg := (rfl)
@[go_sem] theorem aUY (v : AV) : endX id r (.pan v) h kn kr ke kg kp = kp v h := (rfl)
@[go_sem] theorem aPk : endO (some (.lp .ready none r')) id r h kn kr ke kg = (r' = r ∧ kn (h.set id (.lp .exhausted none r))) := (rfl)
@[go_sem] theorem aUZ : endO (some (.lp .done (some .ret) r')) id r h kn kr ke kg = (r' = r ∧ kr (h.set id (.lp .exhausted (some .ret) r))) := (rfl)
@[go_sem] theorem aSj (i : Nat) : endO (some (.lp .done (some (.exit i)) r')) id r h kn kr ke kg = (r' = r ∧ ke i (h.set id (.lp .exhausted (some (.exit i)) r))) := (rfl)
@[go_sem] theorem aSk (i : Nat) : endO (some (.lp .done (some (.goto i)) r')) id r h kn kr ke kg = (r' = r ∧ kg i (h.set id (.lp .exhausted (some (.goto i)) r))) := (rfl)
end
@[go_sem] theorem aVa (i id : Nat) (A B : Prop) : aEx i id A B = match Nat.beq i id with
  | true => A
  | false => B := (rfl)
@[go_sem] theorem aSl (c : Ctx) : c.noS.drawn = true := (rfl)
@[go_sem] theorem aVb (c : Ctx) : c.noS.envF = c.envF := (rfl)
@[go_sem] theorem aXH (c : Ctx) : c.noS.tab = c.tab := (rfl)
@[go_sem] theorem aVc (c : Ctx) (f : FuncId) (a : List AV) (K' : AOut → List AObj → Prop) : c.noS.envS f a h K' = False := (rfl)
@[go_sem] theorem aVd : outW K KP (.ret v) h = K v h := (rfl)
@[go_sem] theorem aVe : outW K KP (.pan v) h = KP v h := (rfl)
@[go_sem] theorem aSm (K : AV → Prop) : cL (pD S v) K = (S ∧ K v) := (rfl)
@[go_sem] theorem aPl {α : Type} (a : α) (f : α → D) : eN (some a) f = f a := (rfl)
@[go_sem] theorem aPm {α : Type} (f : α → D) : eN (none : Option α) f = none := (rfl)
end runs

section congrs
variable {K KP : AV → List AObj → Prop} {h h' : List AObj}
@[congr] theorem aPn {x x' : D} (e : x = x') (e' : h = h') : runD x h K = runD x' h' K := by rw [e, e']
@[congr] theorem aPo {x x' : Option (Prop × Nat × AObj)} (e : x = x') (e' : h = h') : runH x h K = runH x' h' K := by rw [e, e']
@[congr] theorem aPp {x x' : Option (Prop × AV × Nat × AObj)} (e : x = x') (e' : h = h') : runM x h K = runM x' h' K := by rw [e, e']
@[congr] theorem aNB {x x' : D} {y : Option (Prop × AV × Nat × AObj)} (e : x = x') (e' : h = h') : jE x y h K = jE x' y h' K := by rw [e, e']
@[congr] theorem aNC {v v' : AV} {A B : Prop} (e : v = v') : aZ v A B = aZ v' A B := by rw [e]
@[congr] theorem aMF {v v' : AV} {w : Bool} {A B : Prop} (e : v = v') : aX v w A B = aX v' w A B := by rw [e]
@[congr] theorem aMG {x x' : Option Nat} (e' : x = x') (e : h = h') : pQ x h K = pQ x' h' K := by rw [e, e']
@[congr] theorem aPq {d d' : TyD} {x x' : AV} (e2 : d = d') (e' : x = x') (e : h = h') : boxW d x h K = boxW d' x' h' K := by rw [e, e', e2]
@[congr] theorem aPr {x x' : AV} (e' : x = x') (e : h = h') : panW x h KP = panW x' h' KP := by rw [e, e']
@[congr] theorem aND {b b' : Bool} {A : Prop} (e : b = b') : sL b A = sL b' A := by rw [e]
@[congr] theorem aNE {mt : Bool} {c : Ctx} {f f' : AV} {a a' : List AV} (e2 : f = f') (e' : a = a') (e : h = h') : bB mt c f a h K KP = bB mt c f' a' h' K KP := by rw [e, e', e2]
@[congr] theorem aNF {la la' : Option Nat} {dr dr' : Bool} {x x' : Option (Bool × D)} {rows rows' : List Nat} {els : Prop} (e1 : la = la') (e2 : dr = dr') (e : x = x') (e3 : rows = rows') (e' : h = h') : lB la dr x rows h K els = lB la' dr' x' rows' h' K els := by rw [e1, e, e', e2, e3]
@[congr] theorem aPs {t t' : List (Nat × AV)} {l : List (Option Operand × List Operand)} {A : Prop} (e : t = t') : sepW t l A = sepW t' l A := by rw [e]
@[congr] theorem aMo {x x' : D} {K : AV → Prop} (e : x = x') : cL x K = cL x' K := by rw [e]
@[congr] theorem aNG {fs : List Bool} {vs vs' : List AV} {K : List AV → List AObj → Prop} (e : vs = vs') (e' : h = h') : dE fs vs h K = dE fs vs' h' K := by rw [e, e']
end congrs

section lists
@[go_sem] theorem aSn : AV.sizes [] = 0 := (rfl)
@[go_sem] theorem aPt (v : AV) (r : List AV) : AV.sizes (v :: r) = v.size + AV.sizes r := (rfl)
@[go_sem] theorem aVf (vs : List AV) : (AV.agg vs).size = AV.sizes vs := (rfl)
@[go_sem] theorem aVg (k : IntKind) (n : Int) : (AV.int k n).size = 1 := (rfl)
@[go_sem] theorem aSo (b : Bool) : (AV.bool b).size = 1 := (rfl)
@[go_sem] theorem aVh (s : bF) : (AV.str s).size = 1 := (rfl)
@[go_sem] theorem aXI (x : Bool) (l : Lst) : (AV.sl x l).size = 1 := (rfl)
@[go_sem] theorem aSp (x : Bool) (a b c d : Nat) : (AV.sref x a b c d).size = 1 := (rfl)
@[go_sem] theorem aVi (a : Nat) (p : List PS) : (AV.ptr a p).size = 1 := (rfl)
@[go_sem] theorem aSq : (AV.nilp).size = 1 := (rfl)
@[go_sem] theorem aXJ (l : Lst) (a : Nat) (p : List PS) : (AV.ep l a p).size = 1 := (rfl)
@[go_sem] theorem aVj (a : Nat) : (AV.map a).size = 1 := (rfl)
@[go_sem] theorem aXK (f : Fn) (a b : List AV) : (AV.fn f a b).size = 1 := (rfl)
@[go_sem] theorem aVk : (AV.top).size = 1 := (rfl)
@[go_sem] theorem aPu : (AV.nilfn).size = 1 := (rfl)
@[go_sem] theorem aPv (t : TypeId) (v : AV) : (AV.iface t v).size = 1 := (rfl)
@[go_sem] theorem aMp : (AV.niliface).size = 1 := (rfl)
@[go_sem] theorem aSr (k : IntKind) : (TyD.int k).size = 1 := (rfl)
@[go_sem] theorem aPw : TyD.bool.size = 1 := (rfl)
@[go_sem] theorem aSs : TyD.str.size = 1 := (rfl)
@[go_sem] theorem aNH (e : LK) : (TyD.slice e).size = 1 := (rfl)
@[go_sem] theorem aSt : TyD.ptr.size = 1 := (rfl)
@[go_sem] theorem aSu (m : MK) : (TyD.map m).size = 1 := (rfl)
@[go_sem] theorem aPx : TyD.func.size = 1 := (rfl)
@[go_sem] theorem aNI : TyD.other.size = 1 := (rfl)
@[go_sem] theorem aNJ (fs : List TyD) : (TyD.strct fs).size = TyD.sizes fs := (rfl)
@[go_sem] theorem aPy : TyD.sizes [] = 0 := (rfl)
@[go_sem] theorem aNK (t : TyD) (r : List TyD) : TyD.sizes (t :: r) = t.size + TyD.sizes r := (rfl)
@[go_sem] theorem aVl (k : IntKind) : (TyD.int k).zero = .int k 0 := (rfl)
@[go_sem] theorem aSv : TyD.bool.zero = .bool false := (rfl)
@[go_sem] theorem aVm : TyD.str.zero = .str [] := (rfl)
@[go_sem] theorem aPz (e : LK) : (TyD.slice e).zero = .sl true e.empty := (rfl)
@[go_sem] theorem aVn : TyD.ptr.zero = .nilp := (rfl)
@[go_sem] theorem aVo (m : MK) : (TyD.map m).zero = .top := (rfl)
@[go_sem] theorem aSw : TyD.func.zero = .nilfn := (rfl)
@[go_sem] theorem aVp (n : Nat) (e : LK) : (TyD.arr n e).zero = .arr (e.zeros n) := (rfl)
@[go_sem] theorem aPA (fs : List TyD) : (TyD.strct fs).zero = .agg (TyD.zeros fs) := (rfl)
@[go_sem] theorem aSx : TyD.zeros [] = [] := (rfl)
@[go_sem] theorem aPB (t : TyD) (r : List TyD) : TyD.zeros (t :: r) = t.zero :: TyD.zeros r := (rfl)
@[go_sem] theorem aSy (k : IntKind) : (LK.int k).empty = .ints k [] := (rfl)
@[go_sem] theorem aPC : LK.bool.empty = .bools [] := (rfl)
@[go_sem] theorem aSz : LK.str.empty = .strs [] := (rfl)
@[go_sem] theorem aPD : LK.pend.empty = .pends [] := (rfl)
@[go_sem] theorem aSA : LK.mic.empty = .mics [] := (rfl)
@[go_sem] theorem aSB : LK.rcd.empty = .recs [] := (rfl)
@[go_sem] theorem aPE : LK.pair.empty = .pairs [] := (rfl)
@[go_sem] theorem aPF : LK.slot.empty = .slots [] := (rfl)
@[go_sem] theorem aSC : LK.fnk.empty = .fns [] := (rfl)
@[go_sem] theorem aSD (n : Nat) (k : IntKind) : (LK.int k).zeros n = .ints k (List.replicate n 0) := (rfl)
@[go_sem] theorem aPG (n : Nat) : LK.bool.zeros n = .bools (List.replicate n false) := (rfl)
@[go_sem] theorem aPH (n : Nat) : LK.pend.zeros n = .pends (List.replicate n ⟨0, 0, false⟩) := (rfl)
@[go_sem] theorem aSE (n : Nat) : LK.mic.zeros n = .mics (List.replicate n ⟨0, 0, 0⟩) := (rfl)
@[go_sem] theorem aPI (n : Nat) : LK.slot.zeros n = .slots (List.replicate n ⟨0, 0⟩) := (rfl)
@[go_sem] theorem aSF (n : Nat) : LK.fnk.zeros n = .fns (List.replicate n none) := (rfl)
@[go_sem] theorem aSG (n : Nat) : LK.rcd.zeros n = .recs (List.replicate n ⟨0, [], [], 0⟩) := (rfl)
@[go_sem] theorem aPJ (n : Nat) : LK.pair.zeros n = .pairs (List.replicate n ⟨[], []⟩) := (rfl)
@[go_sem] theorem aSH (n : Nat) : LK.str.zeros n = .strs (List.replicate n []) := (rfl)
@[go_sem] theorem aPK (k : IntKind) : (LK.int k).size = 1 := (rfl)
@[go_sem] theorem aNL : LK.bool.size = 1 := (rfl)
@[go_sem] theorem aPL : LK.str.size = 1 := (rfl)
@[go_sem] theorem aNM : LK.pend.size = 3 := (rfl)
@[go_sem] theorem aPM : LK.mic.size = 3 := (rfl)
@[go_sem] theorem aPN : LK.rcd.size = 4 := (rfl)
@[go_sem] theorem aNN : LK.pair.size = 2 := (rfl)
@[go_sem] theorem aNO : LK.slot.size = 2 := (rfl)
@[go_sem] theorem aPO : LK.fnk.size = 1 := (rfl)
variable (k : IntKind) (xs ys : List Int) (bs cs : List Bool) (ps qs : List Pend) (ms ns : List Mic) (rs ss : List RecT) (ts us : List kZ) (vs ws : List aAf) (ys1 ys2 : List bF) (i n : Nat)
@[go_sem] theorem aVq : (Lst.ints k xs).len = xs.length := (rfl)
@[go_sem] theorem aSI : (Lst.bools bs).len = bs.length := (rfl)
@[go_sem] theorem aVr : (Lst.strs ys1).len = ys1.length := (rfl)
@[go_sem] theorem aSJ : (Lst.pends ps).len = ps.length := (rfl)
@[go_sem] theorem aVs : (Lst.mics ms).len = ms.length := (rfl)
@[go_sem] theorem aVt : (Lst.recs rs).len = rs.length := (rfl)
@[go_sem] theorem aSK : (Lst.pairs ts).len = ts.length := (rfl)
@[go_sem] theorem aSL : (Lst.slots vs).len = vs.length := (rfl)
@[go_sem] theorem aXL (fs : List (Option FuncId)) : (Lst.fns fs).len = fs.length := (rfl)
@[go_sem] theorem aSM : (Lst.ints k xs).kind = .int k := (rfl)
@[go_sem] theorem aPP : (Lst.bools bs).kind = .bool := (rfl)
@[go_sem] theorem aSN : (Lst.strs ys1).kind = .str := (rfl)
@[go_sem] theorem aPQ : (Lst.pends ps).kind = .pend := (rfl)
@[go_sem] theorem aSO : (Lst.mics ms).kind = .mic := (rfl)
@[go_sem] theorem aSP : (Lst.recs rs).kind = .rcd := (rfl)
@[go_sem] theorem aPR : (Lst.pairs ts).kind = .pair := (rfl)
@[go_sem] theorem aPS : (Lst.slots vs).kind = .slot := (rfl)
@[go_sem] theorem aVu (fs : List (Option FuncId)) : (Lst.fns fs).kind = .fnk := (rfl)
@[go_sem] theorem aVv : (Lst.ints k xs).nth i = .int k (xs.getD i 0) := (rfl)
@[go_sem] theorem aSQ : (Lst.bools bs).nth i = .bool (bs.getD i false) := (rfl)
@[go_sem] theorem aVw : (Lst.strs ys1).nth i = .str (ys1.getD i []) := (rfl)
@[go_sem] theorem aSR : (Lst.pends ps).nth i = .agg [.int .i64 (ps.getD i ⟨0, 0, false⟩).at_, .int .i64 (ps.getD i ⟨0, 0, false⟩).val, .bool (ps.getD i ⟨0, 0, false⟩).fl] := (rfl)
@[go_sem] theorem aVx : (Lst.mics ms).nth i = .agg [.int .i64 (ms.getD i ⟨0, 0, 0⟩).kind, .int .i64 (ms.getD i ⟨0, 0, 0⟩).at_, .int .i64 (ms.getD i ⟨0, 0, 0⟩).val] := (rfl)
@[go_sem] theorem aVy : (Lst.recs rs).nth i = .agg [.int .i64 (rs.getD i ⟨0, [], [], 0⟩).kind, .str (rs.getD i ⟨0, [], [], 0⟩).key, .str (rs.getD i ⟨0, [], [], 0⟩).val, .int .i64 (rs.getD i ⟨0, [], [], 0⟩).child] := (rfl)
@[go_sem] theorem aSS : (Lst.pairs ts).nth i = .agg [.str (ts.getD i ⟨[], []⟩).key, .str (ts.getD i ⟨[], []⟩).val] := (rfl)
@[go_sem] theorem aST : (Lst.slots vs).nth i = .agg [.int .i64 (vs.getD i ⟨0, 0⟩).at_, .int .i64 (vs.getD i ⟨0, 0⟩).val] := (rfl)
@[go_sem] theorem aVz (f : FuncId) : fnA (some f) = .fn (.func f) [] [] := (rfl)
@[go_sem] theorem aVA : fnA none = .nilfn := (rfl)
@[go_sem] theorem aXM (fs : List (Option FuncId)) (i : Nat) : (Lst.fns fs).nth i = fnA (fs.getD i none) := (rfl)
@[go_sem] theorem aVB : (Lst.ints k xs).cut i n = .ints k ((xs.drop i).take n) := (rfl)
@[go_sem] theorem aSU : (Lst.bools bs).cut i n = .bools ((bs.drop i).take n) := (rfl)
@[go_sem] theorem aVC : (Lst.strs ys1).cut i n = .strs ((ys1.drop i).take n) := (rfl)
@[go_sem] theorem aSV : (Lst.pends ps).cut i n = .pends ((ps.drop i).take n) := (rfl)
@[go_sem] theorem aVD : (Lst.mics ms).cut i n = .mics ((ms.drop i).take n) := (rfl)
@[go_sem] theorem aVE : (Lst.recs rs).cut i n = .recs ((rs.drop i).take n) := (rfl)
@[go_sem] theorem aSW : (Lst.pairs ts).cut i n = .pairs ((ts.drop i).take n) := (rfl)
@[go_sem] theorem aSX : (Lst.slots vs).cut i n = .slots ((vs.drop i).take n) := (rfl)
@[go_sem] theorem aXN (fs : List (Option FuncId)) (i n : Nat) : (Lst.fns fs).cut i n = .fns ((fs.drop i).take n) := (rfl)
@[go_sem] theorem aVF : (Lst.ints k xs).app (.ints k ys) = some (.ints k (xs ++ ys)) := by simp [Lst.app]
@[go_sem] theorem aSY : (Lst.bools bs).app (.bools cs) = some (.bools (bs ++ cs)) := (rfl)
@[go_sem] theorem aVG : (Lst.strs ys1).app (.strs ys2) = some (.strs (ys1 ++ ys2)) := (rfl)
@[go_sem] theorem aSZ : (Lst.pends ps).app (.pends qs) = some (.pends (ps ++ qs)) := (rfl)
@[go_sem] theorem aVH : (Lst.mics ms).app (.mics ns) = some (.mics (ms ++ ns)) := (rfl)
@[go_sem] theorem aVI : (Lst.recs rs).app (.recs ss) = some (.recs (rs ++ ss)) := (rfl)
@[go_sem] theorem aTa : (Lst.pairs ts).app (.pairs us) = some (.pairs (ts ++ us)) := (rfl)
@[go_sem] theorem aTb : (Lst.slots vs).app (.slots ws) = some (.slots (vs ++ ws)) := (rfl)
@[go_sem] theorem aXO (fs gs : List (Option FuncId)) : (Lst.fns fs).app (.fns gs) = some (.fns (fs ++ gs)) := (rfl)
variable (a b : Int) (x y : bF) (p q : Bool)
@[go_sem] theorem aVJ : (Lst.ints k xs).set i (.int k a) = some (.ints k (xs.set i a)) := by simp [Lst.set]
@[go_sem] theorem aTc : (Lst.bools bs).set i (.bool p) = some (.bools (bs.set i p)) := (rfl)
@[go_sem] theorem aVK : (Lst.strs ys1).set i (.str x) = some (.strs (ys1.set i x)) := (rfl)
@[go_sem] theorem aTd : (Lst.pends ps).set i (.agg [.int .i64 a, .int .i64 b, .bool p]) = some (.pends (ps.set i ⟨a, b, p⟩)) := (rfl)
@[go_sem] theorem aVL (c : Int) : (Lst.mics ms).set i (.agg [.int .i64 a, .int .i64 b, .int .i64 c]) = some (.mics (ms.set i ⟨a, b, c⟩)) := (rfl)
@[go_sem] theorem aVM : (Lst.recs rs).set i (.agg [.int .i64 a, .str x, .str y, .int .i64 b]) = some (.recs (rs.set i ⟨a, x, y, b⟩)) := (rfl)
@[go_sem] theorem aTe : (Lst.pairs ts).set i (.agg [.str x, .str y]) = some (.pairs (ts.set i ⟨x, y⟩)) := (rfl)
@[go_sem] theorem aTf : (Lst.slots vs).set i (.agg [.int .i64 a, .int .i64 b]) = some (.slots (vs.set i ⟨a, b⟩)) := (rfl)
@[go_sem] theorem aXP (fs : List (Option FuncId)) (i : Nat) (f : FuncId) : (Lst.fns fs).set i (.fn (.func f) [] []) = some (.fns (fs.set i (some f))) := (rfl)
@[go_sem] theorem aPT (k : VK) (n : Nat) : mK (.vals k []) n = (.sref false n 0 0 0, [.vals k []]) := (rfl)
@[go_sem] theorem aTg (k : VK) : (LK.val k).empty = .vals k [] := (rfl)
@[go_sem] theorem aTh (k : VK) (n : Nat) : (LK.val k).zeros n = .vals k (List.replicate n k.zero) := (rfl)
@[go_sem] theorem aPU (k : VK) : (LK.val k).size = k.size := (rfl)
@[go_sem] theorem aVN (k : VK) (vs : List AV) : (Lst.vals k vs).len = vs.length := (rfl)
@[go_sem] theorem aTi (k : VK) (vs : List AV) : (Lst.vals k vs).kind = .val k := (rfl)
@[go_sem] theorem aVO (k : VK) (vs : List AV) (i : Nat) : (Lst.vals k vs).nth i = vs.getD i k.zero := (rfl)
@[go_sem] theorem aVP (k : VK) (vs : List AV) (i n : Nat) : (Lst.vals k vs).cut i n = .vals k ((vs.drop i).take n) := (rfl)
@[go_sem] theorem aVQ (k : VK) (vs ws : List AV) : (Lst.vals k vs).app (.vals k ws) = some (.vals k (vs ++ ws)) := by simp [Lst.app]
@[go_sem] theorem aVR (fs : List (Option FuncId)) (i : Nat) : (Lst.fns fs).set i .nilfn = some (.fns (fs.set i none)) := (rfl)
end lists

section ops
variable (k : IntKind) (a b : Int) (x y : bF) (p q : Bool) (h : List AObj) (op : BinOp) (vs ws : List AV) (l l' : Lst) (S : Prop)
@[go_sem] theorem aYF (v : AV) : v.at_ [] = some v := by cases v <;> exact (rfl)
@[go_sem] theorem aYG (i off : Nat) (ps : List PS) : (AV.agg vs).at_ (.f i off :: ps) = if AV.sizes (vs.take i) = off then (vs[i]?).bind fun v => v.at_ ps else none := (rfl)
@[go_sem] theorem aTj (u v : AV) : u.setAt [] v = if u.size = v.size then some v else none := by cases u <;> exact (rfl)
@[go_sem] theorem aTk (i off : Nat) (ps : List PS) (v : AV) : (AV.agg vs).setAt (.f i off :: ps) v = if AV.sizes (vs.take i) = off then (vs[i]?).bind fun u => (u.setAt ps v).map fun u' => .agg (vs.set i u') else none := (rfl)
@[go_sem] theorem aVS (d : TyD) : binD d op (.int k a) (.int k b) = gU op k a b := by simp [binD]
@[go_sem] theorem aVT (d : TyD) (k' : IntKind) : binD d .shl (.int k a) (.int k' b) = gU .shl k a b := by simp [binD, vL]
@[go_sem] theorem aVU (d : TyD) (k' : IntKind) : binD d .shr (.int k a) (.int k' b) = gU .shr k a b := by simp [binD, vL]
@[go_sem] theorem aVV (d : TyD) : binD d op (.str x) (.str y) = mA op x y := (rfl)
@[go_sem] theorem aTl (d : TyD) : binD d op (.bool p) (.bool q) = sK op (AV.eqD d (.bool p) (.bool q)) := (rfl)
@[go_sem] theorem aVW (d : TyD) : binD d op (.agg vs) (.agg ws) = sK op (AV.eqD d (.agg vs) (.agg ws)) := (rfl)
@[go_sem] theorem aVX (d : TyD) : binD d op (.arr l) (.arr l') = sK op (AV.eqD d (.arr l) (.arr l')) := (rfl)
@[go_sem] theorem aPV (d : TyD) : binD d op .nilfn .nilfn = sK op (AV.eqD d .nilfn .nilfn) := (rfl)
@[go_sem] theorem aTm : sK .eql (some p) = pD True (.bool p) := (rfl)
@[go_sem] theorem aTn : sK .neq (some p) = pD True (.bool (!p)) := (rfl)
@[go_sem] theorem aXQ (k' : IntKind) : AV.eqD (.int k') (.int k a) (.int k b) = some (decide (a = b)) := by simp [AV.eqD, jM]
@[go_sem] theorem aXR : AV.eqD .str (.str x) (.str y) = some (decide (x = y)) := by simp [AV.eqD, jM]
@[go_sem] theorem aVY : AV.eqD .bool (.bool p) (.bool q) = some (p == q) := by simp [AV.eqD, jM]
@[go_sem] theorem aTo : AV.eqD .func .nilfn .nilfn = some true := by simp [AV.eqD, jM]
@[go_sem] theorem aXS (fs : List TyD) : AV.eqD (.strct fs) (.agg vs) (.agg ws) = AV.eqsD fs vs ws := by simp [AV.eqD]
@[go_sem] theorem aXT (n : Nat) (xs ys : List Int) : AV.eqD (.arr n (.int k)) (.arr (.ints k xs)) (.arr (.ints k ys)) = if xs.length = n ∧ ys.length = n then some (decide (xs = ys)) else none := by simp [AV.eqD, jM]
@[go_sem] theorem aVZ : AV.eqsD [] [] [] = some true := by simp [AV.eqsD]
def aLx : Option Bool → Option Bool → Option Bool
  | some a, some b => some (a && b)
  | _, _ => none
@[go_sem] theorem aTp (d : TyD) (ds : List TyD) (v w : AV) (r r' : List AV) : AV.eqsD (d :: ds) (v :: r) (w :: r') = aLx (AV.eqD d v w) (AV.eqsD ds r r') := by
  simp only [AV.eqsD]; cases AV.eqD d v w <;> cases AV.eqsD ds r r' <;> rfl
@[go_sem] theorem aPW : aLx (some p) (some q) = some (p && q) := (rfl)
@[go_sem] theorem aYH : gU .add k a b = pD True (.int k (k.wrap (a + b))) := (rfl)
@[go_sem] theorem aYI : gU .sub k a b = pD True (.int k (k.wrap (a - b))) := (rfl)
@[go_sem] theorem aYJ : gU .mul k a b = pD True (.int k (k.wrap (a * b))) := (rfl)
@[go_sem] theorem aYK : gU .quo k a b = pD (b ≠ 0) (.int k (k.wrap (a.tdiv b))) := (rfl)
@[go_sem] theorem aYL : gU .rem k a b = pD (b ≠ 0) (.int k (a.tmod b)) := (rfl)
@[go_sem] theorem aYM : gU .and k a b = pD True (.int k (andI k a b)) := (rfl)
@[go_sem] theorem aZj : gU .or k a b = pD True (.int k (orI k a b)) := (rfl)
@[go_sem] theorem aYN : gU .xor k a b = pD True (.int k (xorI k a b)) := (rfl)
@[go_sem] theorem aTq : gU .andNot k a b = pD True (.int k (wF k a b)) := (rfl)
@[go_sem] theorem aYO : gU .shl k a b = pD (0 ≤ b) (.int k (k.wrap (a * 2 ^ (min b.toNat k.bits)))) := (rfl)
@[go_sem] theorem aYP : gU .shr k a b = pD (0 ≤ b) (.int k (a.fdiv (2 ^ (min b.toNat k.bits)))) := (rfl)
@[go_sem] theorem aYQ : gU .eql k a b = pD True (.bool (decide (a = b))) := (rfl)
@[go_sem] theorem aYR : gU .neq k a b = pD True (.bool (!decide (a = b))) := (rfl)
@[go_sem] theorem aYS : gU .lss k a b = pD True (.bool (decide (a < b))) := (rfl)
@[go_sem] theorem aYT : gU .leq k a b = pD True (.bool (decide (a ≤ b))) := (rfl)
@[go_sem] theorem aYU : gU .gtr k a b = pD True (.bool (decide (b < a))) := (rfl)
@[go_sem] theorem aYV : gU .geq k a b = pD True (.bool (decide (b ≤ a))) := (rfl)
@[go_sem] theorem aYW : mA .add x y = pD (x.length + y.length ≤ 1099511627776) (.str (x ++ y)) := (rfl)
@[go_sem] theorem aYX : mA .eql x y = pD True (.bool (decide (x = y))) := (rfl)
@[go_sem] theorem aYY : mA .neq x y = pD True (.bool (!decide (x = y))) := (rfl)
@[go_sem] theorem aYZ : mA .lss x y = pD True (.bool (ltB x y)) := (rfl)
@[go_sem] theorem aZa : mA .gtr x y = pD True (.bool (ltB y x)) := (rfl)
@[go_sem] theorem aZb : mA .leq x y = pD True (.bool (!ltB y x)) := (rfl)
@[go_sem] theorem aZc : mA .geq x y = pD True (.bool (!ltB x y)) := (rfl)
@[go_sem] theorem aTr (rk : RK) (ver ver' off len : Nat) : lL (some (.row rk ver' l)) ver off len = if ver = ver' then some (l.cut off len) else none := (rfl)
@[go_sem] theorem aXU (x : Bool) : (AV.sl x l).list h = some l := (rfl)
@[go_sem] theorem aTs (x : Bool) (id ver off len : Nat) : (AV.sref x id ver off len).list h = lL (h[id]?) ver off len := (rfl)
@[go_sem] theorem aWa (rk : RK) (ver ver' len : Nat) : lenO (some (.row rk ver' l)) ver len = if ver = ver' then some len else none := (rfl)
@[go_sem] theorem aWb (e : LK) (x : Bool) : (AV.sl x l).len (.slice e) h = some l.len := (rfl)
@[go_sem] theorem aPX (e : LK) (x : Bool) (id ver off len : Nat) : (AV.sref x id ver off len).len (.slice e) h = lenO (h[id]?) ver len := (rfl)
@[go_sem] theorem aTt : (AV.str x).len .str h = some x.length := (rfl)
@[go_sem] theorem aTu (n : Nat) (e : LK) (v : AV) : v.len (.arr n e) h = some n := (rfl)
@[go_sem] theorem aXV (d : TyD) (v : AV) : lenD d h v = eN (v.len d h) fun n => pD True (.int .i64 n) := (rfl)
@[go_sem] theorem aTv (e : LK) : (TyD.slice e).slc = true := (rfl)
@[go_sem] theorem aMq (e e' : LK) : (TyD.slice e).isSlice e' = decide (e = e') := (rfl)
@[go_sem] theorem aTw (n m : Nat) (e e' : LK) : (TyD.arr n e).isArr m e' = (decide (n = m) && decide (e = e')) := (rfl)
@[go_sem] theorem aTx : TyD.str.isStr = true := (rfl)
@[go_sem] theorem aNP (rk : RK) (ver : Nat) : iH (some (.row rk ver l)) = some l.kind := (rfl)
@[go_sem] theorem aMr (e e' : LK) : (TyD.slice e).fitsRow (some e') = decide (e = e') := (rfl)
@[go_sem] theorem aWc (rk : RK) (ver ver' : Nat) : verB (some (.row rk ver' l)) ver = decide (ver = ver') := (rfl)
@[go_sem] theorem aWd : (TyD.map .ib).isMap .ib = true := (rfl)
@[go_sem] theorem aWe : (TyD.map .ii).isMap .ii = true := (rfl)
@[go_sem] theorem aWf : (TyD.map .sb).isMap .sb = true := (rfl)
@[go_sem] theorem aTy : (TyD.map .ifn).isMap .ifn = true := (rfl)
@[go_sem] theorem aTz : (TyD.int k).known = true := (rfl)
@[go_sem] theorem aPY : TyD.bool.known = true := (rfl)
@[go_sem] theorem aTA : TyD.str.known = true := (rfl)
@[go_sem] theorem aNQ (fs : List TyD) : (TyD.strct fs).known = true := (rfl)
@[go_sem] theorem aTB (id : Nat) (ps : List PS) : aD h (.ptr id ps) = aAg (h[id]?) ps := (rfl)
@[go_sem] theorem aWg (i : Nat) (fs : List PS) : aD h (.ep l i fs) = eN ((l.nth i).at_ fs) fun v => pD True v := (rfl)
@[go_sem] theorem aTC (v : AV) (ps : List PS) : aAg (some (.box v)) ps = eN (v.at_ ps) fun u => pD True u := (rfl)
@[go_sem] theorem aTD (ver : Nat) : aAg (some (.row .arr ver l)) [] = pD True (.arr l) := (rfl)
@[go_sem] theorem aNR (rk : RK) (ver v i sz : Nat) (ps : List PS) : aAg (some (.row rk ver l)) (.i v i sz :: ps) = if v = ver ∧ sz = l.kind.size then eN ((l.nth i).at_ ps) fun v => pD (i < l.len) v else none := by cases rk <;> rfl
@[go_sem] theorem aPZ (d : TyD) (id : Nat) (ps : List PS) (v : AV) : aQ d h (.ptr id ps) v = (nB (h[id]?) ps v).map fun r => (r.1 ∧ fitP d v, id, r.2) := by
  show (match nB (h[id]?) ps v with | some (S, o) => some (S ∧ fitP d v, id, o) | none => none) = _
  cases nB (h[id]?) ps v <;> rfl
@[go_sem] theorem aQa (u v : AV) (ps : List PS) : nB (some (.box u)) ps v = (u.setAt ps v).map fun u' => (True, .box u') := by
  show (match u.setAt ps v with | some u' => some (True, AObj.box u') | none => none) = _
  cases u.setAt ps v <;> rfl
@[go_sem] theorem aQb (ver : Nat) : nB (some (.row .arr ver l)) [] (.arr l') = if l'.kind = l.kind then some (l'.len = l.len, .row .arr ver l') else none := (rfl)
theorem zH (rk : RK) (hk : rk ≠ .fro) (ver vr i sz : Nat) (ps : List PS) (v : AV) : nB (some (.row rk ver l)) (.i vr i sz :: ps) v = if vr = ver ∧ sz = l.kind.size then ((l.nth i).setAt ps v).bind fun u => (l.set i u).map fun l' => (i < l.len, .row rk ver l') else none := by
  have : nB (some (.row rk ver l)) (.i vr i sz :: ps) v = if vr = ver ∧ sz = l.kind.size ∧ rk ≠ .fro then (match (l.nth i).setAt ps v with
        | some u => match l.set i u with
          | some l' => some (i < l.len, AObj.row rk ver l')
          | none => none
        | none => none) else none := by cases rk <;> rfl
  rw [this]
  have e : (vr = ver ∧ sz = l.kind.size ∧ rk ≠ .fro) ↔ (vr = ver ∧ sz = l.kind.size) := by simp [hk]
  simp only [e]
  congr 1
  cases (l.nth i).setAt ps v with
  | none => rfl
  | some u => show (match l.set i u with | some l' => some (i < l.len, AObj.row rk ver l') | none => none) = _; cases h0 : l.set i u <;> simp [h0]
@[go_sem] theorem aMH (ver vr i sz : Nat) (ps : List PS) (v : AV) : nB (some (.row .own ver l)) (.i vr i sz :: ps) v = if vr = ver ∧ sz = l.kind.size then ((l.nth i).setAt ps v).bind fun u => (l.set i u).map fun l' => (i < l.len, .row .own ver l') else none := zH l _ (by simp) _ _ _ _ _ _
@[go_sem] theorem aMI (ver vr i sz : Nat) (ps : List PS) (v : AV) : nB (some (.row .arr ver l)) (.i vr i sz :: ps) v = if vr = ver ∧ sz = l.kind.size then ((l.nth i).setAt ps v).bind fun u => (l.set i u).map fun l' => (i < l.len, .row .arr ver l') else none := zH l _ (by simp) _ _ _ _ _ _
@[go_sem] theorem aNS (d : TyD) (id : Nat) (kk v : AV) : iQ d h (.map id) kk v = (nV d (h[id]?) kk v).map fun m => (True, id, .map m) := by
  show (match nV d (h[id]?) kk v with | some m => some (True, id, AObj.map m) | none => none) = _
  cases nV d (h[id]?) kk v <;> rfl
@[go_sem] theorem aQc (m : Int → Bool) : nV (.map .ib) (some (.map (.ib m))) (.int .i64 a) (.bool p) = some (.ib fun j => if j = a then p else m j) := (rfl)
@[go_sem] theorem aQd (m : Int → Int) : nV (.map .ii) (some (.map (.ii m))) (.int .i64 a) (.int .i64 b) = some (.ii fun j => if j = a then b else m j) := (rfl)
@[go_sem] theorem aNT (m : Int → Option FuncId) (f : FuncId) : nV (.map .ifn) (some (.map (.ifn m))) (.int .i64 a) (.fn (.func f) [] []) = some (.ifn fun j => if j = a then some f else m j) := (rfl)
@[go_sem] theorem aQe (m : bF → Bool) : nV (.map .sb) (some (.map (.sb m))) (.str x) (.bool p) = some (.sb fun j => if j = x then p else m j) := (rfl)
@[go_sem] theorem aNU (d : TyD) (id : Nat) (kk : AV) : kS d h (.map id) kk = qU d (h[id]?) kk := (rfl)
@[go_sem] theorem aQf (m : Int → Bool) : qU (.map .ib) (some (.map (.ib m))) (.int .i64 a) = pD True (.bool (m a)) := (rfl)
@[go_sem] theorem aQg (m : Int → Int) : qU (.map .ii) (some (.map (.ii m))) (.int .i64 a) = pD True (.int .i64 (m a)) := (rfl)
@[go_sem] theorem aNV (m : Int → Option FuncId) : qU (.map .ifn) (some (.map (.ifn m))) (.int .i64 a) = pD True (aBH (m a)) := (rfl)
@[go_sem] theorem aQh (m : bF → Bool) : qU (.map .sb) (some (.map (.sb m))) (.str x) = pD True (.bool (m x)) := (rfl)
@[go_sem] theorem aQi (f : FuncId) : aBH (some f) = .fn (.func f) [] [] := (rfl)
@[go_sem] theorem aQj (d : TyD) (e : LK) (s x : AV) (K : AV → List AObj → Prop) : vN d (.slice e) s x h K = jE (fT d h s x h.length) (gJ d h s x) h K := (rfl)
@[go_sem] theorem aNW (d : TyD) (kk : IntKind) (s : AV) (n : Int) (K : AV → List AObj → Prop) : vN d (.int kk) s (.int .i64 n) h K = ((0 ≤ n ∧ n ≤ 68719476736) ∧ jE (fT d h s (jX d n) h.length) (gJ d h s (jX d n)) h K) := (rfl)
@[go_sem] theorem aQk (k : IntKind) (n : Int) : jX (.slice (.int k)) n = .sl true (.ints k (List.replicate n.toNat 0)) := (rfl)
@[go_sem] theorem aQl (n : Int) : jX (.slice .str) n = .sl true (.strs (List.replicate n.toNat [])) := (rfl)
@[go_sem] theorem aNX (n : Int) : jX (.slice .pair) n = .sl true (.pairs (List.replicate n.toNat ⟨[], []⟩)) := (rfl)
@[go_sem] theorem aQm (n : Int) : jX (.slice .mic) n = .sl true (.mics (List.replicate n.toNat ⟨0, 0, 0⟩)) := (rfl)
@[go_sem] theorem aNY (n : Int) : jX (.slice .pend) n = .sl true (.pends (List.replicate n.toNat ⟨0, 0, false⟩)) := (rfl)
@[go_sem] theorem aQn (n : Int) : jX (.slice .rcd) n = .sl true (.recs (List.replicate n.toNat ⟨0, [], [], 0⟩)) := (rfl)
@[go_sem] theorem aNZ (n : Int) : jX (.slice .slot) n = .sl true (.slots (List.replicate n.toNat ⟨0, 0⟩)) := (rfl)
@[go_sem] theorem aQo (d : TyD) (xs : Lst) (v : AV) (n : Nat) : fT d h (.sl true xs) v n = eZ (d.isSlice xs.kind) (eN (v.list h) fun ys => kR xs ys n) := (rfl)
@[go_sem] theorem aMJ {α : Type} (p : Prop) [Decidable p] (A B : α) : (if p ∨ False then A else B) = if p then A else B := by
  by_cases h : p <;> simp [h]
@[go_sem] theorem aOa {α : Type} (p : Prop) [Decidable p] (A B : α) : (if p ∨ True then A else B) = A := by simp
@[go_sem] theorem aMK {α : Type} (A B : α) : (if False then A else B) = B := by simp
@[go_sem] theorem aQp (d : TyD) (v : AV) (n id ver off len : Nat) : fT d h (.sref true id ver off len) v n = if len = 0 ∨ vM (h[id]?) = false then eZ (d.fitsRow (iH (h[id]?))) (eN (lL (h[id]?) ver off len) fun xs => eN (v.list h) fun ys => kR xs ys n) else none := (rfl)
@[go_sem] theorem aQq (ver : Nat) (l : Lst) : vM (some (.row .own ver l)) = true := (rfl)
@[go_sem] theorem aQr (ver : Nat) (l : Lst) : vM (some (.row .arr ver l)) = false := (rfl)
@[go_sem] theorem aQs (ver : Nat) (l : Lst) : vM (some (.row .fro ver l)) = false := (rfl)
@[go_sem] theorem aQt (v : AV) : vM (some (.box v)) = false := (rfl)
@[go_sem] theorem aQu (d : TyD) (v : AV) (n id ver off len : Nat) : fT d h (.sref false id ver off len) v n = none := (rfl)
@[go_sem] theorem aML (xs ys : Lst) (s : Nat) : kR xs ys s = eN (xs.app ys) fun zs => some ((0 < ys.len ∨ xs.len = 0) ∧ roomy zs.len, .sref false s 0 0 zs.len, [.row .own 0 zs]) := (rfl)
@[go_sem] theorem aQv (d : TyD) (v : AV) (id ver off len : Nat) : gJ d h (.sref false id ver off len) v = if d.fitsRow (iH (h[id]?)) = true then tB (h[id]?) id ver off len (v.list h) else none := (rfl)
@[go_sem] theorem aQw (d : TyD) (v : AV) (id ver off len : Nat) : gJ d h (.sref true id ver off len) v = if d.fitsRow (iH (h[id]?)) = true then tB (h[id]?) id ver off len (v.list h) else none := (rfl)
@[go_sem] theorem aOb (ver ver' id off len : Nat) (ys : Lst) : tB (some (.row .own ver' l)) id ver off len (some ys) =
    if ver = ver' then (l.app ys).map fun zs => (off = 0 ∧ len = l.len ∧ roomy zs.len, .sref false id (ver + 1) 0 zs.len, id, .row .own (ver + 1) zs) else none := by
  show (if ver = ver' then (match l.app ys with
      | some zs => some (off = 0 ∧ len = l.len ∧ roomy zs.len, AV.sref false id (ver + 1) 0 zs.len, id, AObj.row .own (ver + 1) zs)
      | none => none) else none) = _
  congr 1; cases l.app ys <;> rfl
@[go_sem] theorem aWh (d : TyD) (x : Bool) (id ver off len : Nat) (s : AV) : lA d h (.sref x id ver off len) s = if d.fitsRow (iH (h[id]?)) = true then wW (h[id]?) id ver off len (s.list h) else none := (rfl)
theorem aDU (rk : RK) (hk : rk ≠ .fro) (ver ver' id off len : Nat) (ys : Lst) : wW (some (.row rk ver' l)) id ver off len (some ys) =
    if ver = ver' then (l.over off len ys).map fun l' => (True, .int .i64 (min len ys.len : Nat), id, .row rk ver' l') else none := by
  show (if ver = ver' ∧ rk ≠ .fro then (match l.over off len ys with
      | some l' => some (True, AV.int .i64 (min len ys.len : Nat), id, AObj.row rk ver' l')
      | none => none) else none) = _
  have e : (ver = ver' ∧ rk ≠ .fro) ↔ ver = ver' := by simp [hk]
  simp only [e]
  congr 1; cases l.over off len ys <;> rfl
@[go_sem] theorem aTE (ver ver' id off len : Nat) (ys : Lst) : wW (some (.row .own ver' l)) id ver off len (some ys) =
    if ver = ver' then (l.over off len ys).map fun l' => (True, .int .i64 (min len ys.len : Nat), id, .row .own ver' l') else none := aDU l _ (by simp) _ _ _ _ _ _
@[go_sem] theorem aTF (ver ver' id off len : Nat) (ys : Lst) : wW (some (.row .arr ver' l)) id ver off len (some ys) =
    if ver = ver' then (l.over off len ys).map fun l' => (True, .int .i64 (min len ys.len : Nat), id, .row .arr ver' l') else none := aDU l _ (by simp) _ _ _ _ _ _
@[go_sem] theorem aTG (xs ys : List Int) (off len : Nat) : (Lst.ints k xs).over off len (.ints k ys) =
    some (.ints k (xs.take off ++ ys.take len ++ (xs.drop (off + min len ys.length)).take (xs.length - (off + min len ys.length)))) := by
  simp [Lst.over, Lst.cut, Lst.app, Lst.len]
@[go_sem] theorem aMs (d : TyD) (x : Bool) (k : IntKind) : aH d h (.sl x l) (.int k a) = eZ (d.isSlice l.kind) (pD (0 ≤ a ∧ a < l.len) (.ep l a.toNat [])) := (rfl)
@[go_sem] theorem aLy (d : TyD) (x : Bool) (id ver off len : Nat) (k : IntKind) : aH d h (.sref x id ver off len) (.int k a) = uB (h[id]?) d id ver off len a := (rfl)
@[go_sem] theorem aMa (d : TyD) (id : Nat) (k : IntKind) : aH d h (.ptr id []) (.int k a) = uC (h[id]?) d id a := (rfl)
@[go_sem] theorem aMt (d : TyD) (rk : RK) (ver ver' id off len : Nat) : uB (some (.row rk ver' l)) d id ver off len a = eZ (d.isSlice l.kind) (if ver = ver' then pD (0 ≤ a ∧ a < len) (.ptr id [.i ver (off + a.toNat) l.kind.size]) else none) := (rfl)
@[go_sem] theorem aMu (d : TyD) (ver id : Nat) : uC (some (.row .arr ver l)) d id a = eZ (d.isArr l.len l.kind) (pD (0 ≤ a ∧ a < l.len) (.ptr id [.i ver a.toNat l.kind.size])) := (rfl)
@[go_sem] theorem aQx (k : IntKind) : rM .str (.str x) (.int k a) = pD (0 ≤ a ∧ a < x.length) (.int .u8 (x.getD a.toNat 0).toNat) := (rfl)
@[go_sem] theorem aQy (d : TyD) (k : IntKind) : rM d (.arr l) (.int k a) = eZ (d.isArr l.len l.kind) (pD (0 ≤ a ∧ a < l.len) (l.nth a.toNat)) := (rfl)
@[go_sem] theorem aXW : unD .not (.bool p) = pD True (.bool (!p)) := (rfl)
@[go_sem] theorem aXX : unD .neg (.int k a) = pD True (.int k (k.wrap (0 - a))) := (rfl)
@[go_sem] theorem aXY : unD .xor (.int k a) = pD True (.int k (notI k a)) := (rfl)
@[go_sem] theorem aTH (k1 k' k2 : IntKind) : iI h (.int k1) (.int k') (.int k2 a) = pD True (.int k' (k'.wrap a)) := (rfl)
@[go_sem] theorem aTI : iI h .str .str (.str x) = pD True (.str x) := (rfl)
@[go_sem] theorem aWi (x : Bool) : iI h (.slice (.int .u8)) .str (.sl x l) = tM (some l) := (rfl)
@[go_sem] theorem aQz (x : Bool) (id ver off len : Nat) : iI h (.slice (.int .u8)) .str (.sref x id ver off len) = tM (lL (h[id]?) ver off len) := (rfl)
@[go_sem] theorem aOc (xs : List Int) : tM (some (.ints .u8 xs)) = pD True (.str (xs.map fun n => UInt8.ofNat n.toNat)) := (rfl)
@[go_sem] theorem aTJ (fs : List TyD) (f : Nat) : yJ (.strct fs) (.agg vs) f = if AV.sizes (vs.take f) = TyD.sizes (fs.take f) ∧ f < fs.length ∧ f < vs.length then pD (fitP (fs.getD f .other) (vs.getD f .top)) (vs.getD f .top) else none := (rfl)
@[go_sem] theorem aMb (fs : List TyD) (id f : Nat) (ps : List PS) : aC (.strct fs) (.ptr id ps) f = if f < fs.length then pD True (.ptr id (ps ++ [.f f (TyD.sizes (fs.take f))])) else none := (rfl)
@[go_sem] theorem aMv (fs : List TyD) (i f : Nat) (ps : List PS) : aC (.strct fs) (.ep l i ps) f = if f < fs.length then pD True (.ep l i (ps ++ [.f f (TyD.sizes (fs.take f))])) else none := (rfl)
@[go_sem] theorem aMw (e : LK) (s : Nat) : jD (.slice e) (.int .i64 a) (.int .i64 b) s = some (0 ≤ a ∧ a ≤ b ∧ roomy b.toNat, .sref (decide (a = b)) s 0 0 a.toNat, [.row .own 0 (e.zeros a.toNat)]) := (rfl)
@[go_sem] theorem aOd (s : Nat) : jP (.map .ib) s = some (True, .map s, [.map (.ib fun _ => false)]) := (rfl)
@[go_sem] theorem aOe (s : Nat) : jP (.map .ii) s = some (True, .map s, [.map (.ii fun _ => 0)]) := (rfl)
@[go_sem] theorem aOf (s : Nat) : jP (.map .sb) s = some (True, .map s, [.map (.sb fun _ => false)]) := (rfl)
@[go_sem] theorem aMM (s : Nat) : jP (.map .ifn) s = some (True, .map s, [.map (.ifn fun _ => none)]) := (rfl)
@[go_sem] theorem aMx (id : Nat) (ps : List PS) : cJ (.ptr id ps) = pD True (.ptr id ps) := (rfl)
@[go_sem] theorem aMN (i : Nat) (ps : List PS) : cJ (.ep l i ps) = pD True (.ep l i ps) := (rfl)
@[go_sem] theorem aOg (i : Nat) : bM (.tup vs) i = if i < vs.length then pD True (vs.getD i .top) else none := (rfl)
@[go_sem] theorem aQA (v w : AV) : bP (.bool true) v w = pD True v := (rfl)
@[go_sem] theorem aOh (v w : AV) : bP (.bool false) v w = pD True w := (rfl)
@[go_sem] theorem aWj : minD (.int k a) (.int k b) = pD True (.int k (if b < a then b else a)) := by simp [minD]
@[go_sem] theorem aWk : maxD (.int k a) (.int k b) = pD True (.int k (if b > a then b else a)) := by simp [maxD]
@[go_sem] theorem aTK : maxD (.str x) (.str y) = pD True (.str (if ltB x y then y else x)) := (rfl)
@[go_sem] theorem aMO (fs : List TyD) (parts : List (Nat × AV)) : gC (.strct fs) parts = eN (mU (TyD.zeros fs) parts) fun vs => pD True (.agg vs) := (rfl)
@[go_sem] theorem aQB (n : Nat) (e : LK) (parts : List (Nat × AV)) : gC (.arr n e) parts = eN (iZ (e.zeros n) parts) fun l => pD True (.arr l) := (rfl)
@[go_sem] theorem aMc (e : LK) (n s : Nat) (parts : List (Nat × AV)) : fD (.slice e) n parts s = eN (iZ (e.zeros n) parts) fun l => some (n ≤ 262144, .sref true s 0 0 n, [.row .own 0 l]) := (rfl)
@[go_sem] theorem aOi : mU vs [] = some vs := (rfl)
@[go_sem] theorem aMP (i : Nat) (v : AV) (r : List (Nat × AV)) : mU vs ((i, v) :: r) = if i < vs.length ∧ (vs.getD i .top).size = v.size ∧ v.solid = true then mU (vs.set i v) r else none := (rfl)
@[go_sem] theorem aOj : iZ l [] = some l := (rfl)
@[go_sem] theorem aMQ (i : Nat) (v : AV) (r : List (Nat × AV)) : iZ l ((i, v) :: r) = if i < l.len then (l.set i v).bind fun l' => iZ l' r else none := by
  show (if i < l.len then (match l.set i v with | some l' => iZ l' r | none => none) else none) = _
  congr 1; cases l.set i v <;> rfl
@[go_sem] theorem aWl : boxO (.arr l) = .row .arr 0 l := (rfl)
@[go_sem] theorem aWm : boxO (.int k a) = .box (.int k a) := (rfl)
@[go_sem] theorem aTL : boxO (.bool p) = .box (.bool p) := (rfl)
@[go_sem] theorem aWn : boxO (.str x) = .box (.str x) := (rfl)
@[go_sem] theorem aWo : boxO (.agg vs) = .box (.agg vs) := (rfl)
@[go_sem] theorem aXZ (x : Bool) : boxO (.sl x l) = .box (.sl x l) := (rfl)
@[go_sem] theorem aTM (x : Bool) (id ver off len : Nat) : boxO (.sref x id ver off len) = .box (.sref x id ver off len) := (rfl)
@[go_sem] theorem aWp (id : Nat) (ps : List PS) : boxO (.ptr id ps) = .box (.ptr id ps) := (rfl)
@[go_sem] theorem aWq (id : Nat) : boxO (.map id) = .box (.map id) := (rfl)
@[go_sem] theorem aTN : boxO .nilp = .box .nilp := (rfl)
@[go_sem] theorem aWr : boxO .top = .box .top := (rfl)
@[go_sem] theorem aYa (f : Fn) : boxO (.fn f vs ws) = .box (.fn f vs ws) := (rfl)
@[go_sem] theorem aQC : boxO .nilfn = .box .nilfn := (rfl)
@[go_sem] theorem aZd (d : TyD) (v : AV) : fitD d (pD S v) = pD (S ∧ fitP d v) v := (rfl)
@[go_sem] theorem aQD (fs : List TyD) : fitP (.strct fs) (.agg vs) = (AV.sizes vs = TyD.sizes fs) := (rfl)
@[go_sem] theorem aWs (n : Nat) (e : LK) : fitP (.arr n e) (.arr l) = (l.len = n ∧ l.kind = e) := (rfl)
@[go_sem] theorem aWt (k' : IntKind) : fitP (.int k') (.int k a) = True := (rfl)
@[go_sem] theorem aTO : fitP .bool (.bool p) = True := (rfl)
@[go_sem] theorem aWu : fitP .str (.str x) = True := (rfl)
@[go_sem] theorem aYb (e : LK) (x : Bool) : fitP (.slice e) (.sl x l) = True := (rfl)
@[go_sem] theorem aTP (e : LK) (x : Bool) (id ver off len : Nat) : fitP (.slice e) (.sref x id ver off len) = True := (rfl)
@[go_sem] theorem aWv (id : Nat) (ps : List PS) : fitP .ptr (.ptr id ps) = True := (rfl)
@[go_sem] theorem aTQ : fitP .ptr .nilp = True := (rfl)
@[go_sem] theorem aYc (i : Nat) (ps : List PS) : fitP .ptr (.ep l i ps) = True := (rfl)
@[go_sem] theorem aWw (m : MK) (id : Nat) : fitP (.map m) (.map id) = True := (rfl)
@[go_sem] theorem aYd (f : Fn) : fitP .func (.fn f vs ws) = True := (rfl)
@[go_sem] theorem aQE : fitP .func .nilfn = True := (rfl)
end ops

section slices
variable (h : List AObj) (x : Bool) (l : Lst) (s : bF) (a b c : Int) (k k' k'' : IntKind) (id ver off len : Nat) (lo hi mx : Option AV)
variable (d : TyD)
@[go_sem] theorem aWx : dO .str h (.str s) none (some (.int k b)) none = pD (0 ≤ b ∧ b ≤ s.length) (.str (s.take b.toNat)) := (rfl)
@[go_sem] theorem aWy : dO .str h (.str s) (some (.int k a)) none none = pD (0 ≤ a ∧ a ≤ s.length) (.str (s.drop a.toNat)) := (rfl)
@[go_sem] theorem aWz : dO .str h (.str s) (some (.int k a)) (some (.int k' b)) none = pD (0 ≤ a ∧ a ≤ b ∧ b ≤ s.length) (.str ((s.drop a.toNat).take (b.toNat - a.toNat))) := (rfl)
@[go_sem] theorem aWA : dO d h (.sl x l) none none none = eZ (d.isSlice l.kind) (pD True (.sl x l)) := (rfl)
@[go_sem] theorem aWB : dO d h (.sl x l) none (some (.int k b)) none = eZ (d.isSlice l.kind) (pD (0 ≤ b ∧ b ≤ l.len) (.sl false (l.cut 0 b.toNat))) := (rfl)
@[go_sem] theorem aWC : dO d h (.sl x l) (some (.int k a)) none none = eZ (d.isSlice l.kind) (pD (0 ≤ a ∧ a ≤ l.len) (.sl x (l.cut a.toNat (l.len - a.toNat)))) := (rfl)
@[go_sem] theorem aWD : dO d h (.sl x l) (some (.int k a)) (some (.int k' b)) none = eZ (d.isSlice l.kind) (pD (0 ≤ a ∧ a ≤ b ∧ b ≤ l.len) (.sl false (l.cut a.toNat (b.toNat - a.toNat)))) := (rfl)
@[go_sem] theorem aWE : dO d h (.sl x l) none (some (.int k' b)) (some (.int k'' c)) = eZ (d.isSlice l.kind) (pD (0 ≤ b ∧ b ≤ l.len ∧ b = c) (.sl true (l.cut 0 b.toNat))) := (rfl)
@[go_sem] theorem aWF : dO d h (.sl x l) (some (.int k a)) (some (.int k' b)) (some (.int k'' c)) = eZ (d.isSlice l.kind) (pD (0 ≤ a ∧ a ≤ b ∧ b ≤ l.len ∧ b = c) (.sl true (l.cut a.toNat (b.toNat - a.toNat)))) := (rfl)
@[go_sem] theorem aWG : dO d h (.sref x id ver off len) none (some (.int k b)) none = eZ (d.fitsRow (iH (h[id]?))) (eZ (verB (h[id]?) ver) (pD (0 ≤ b ∧ b ≤ len) (.sref false id ver off b.toNat))) := by
  simp [dO, nC]
@[go_sem] theorem aWH : dO d h (.sref x id ver off len) (some (.int k a)) none none = eZ (d.fitsRow (iH (h[id]?))) (eZ (verB (h[id]?) ver) (pD (0 ≤ a ∧ a ≤ len) (.sref x id ver (off + a.toNat) (len - a.toNat)))) := by
  simp [dO, nC]
@[go_sem] theorem aWI : dO d h (.sref x id ver off len) (some (.int k a)) (some (.int k' b)) none = eZ (d.fitsRow (iH (h[id]?))) (eZ (verB (h[id]?) ver) (pD (0 ≤ a ∧ a ≤ b ∧ b ≤ len) (.sref false id ver (off + a.toNat) (b.toNat - a.toNat)))) := by
  simp [dO, nC]
@[go_sem] theorem aWJ : dO d h (.sref x id ver off len) none (some (.int k' b)) (some (.int k'' c)) = eZ (d.fitsRow (iH (h[id]?))) (eZ (verB (h[id]?) ver) (pD (0 ≤ b ∧ b ≤ len ∧ b = c) (.sref true id ver off b.toNat))) := by
  simp [dO, nC]
@[go_sem] theorem aWK : dO d h (.sref x id ver off len) (some (.int k a)) (some (.int k' b)) (some (.int k'' c)) = eZ (d.fitsRow (iH (h[id]?))) (eZ (verB (h[id]?) ver) (pD (0 ≤ a ∧ a ≤ b ∧ b ≤ len ∧ b = c) (.sref true id ver (off + a.toNat) (b.toNat - a.toNat)))) := by
  simp [dO, nC]
@[go_sem] theorem aYe (lo hi mx : Option AV) : dO d h (.ptr id []) lo hi mx = jL (h[id]?) id d lo hi mx := (rfl)
@[go_sem] theorem aQF : jL (some (.row .arr ver l)) id d none none none = eZ (d.isArr l.len l.kind) (pD True (.sref true id ver 0 l.len)) := by
  simp [jL]
@[go_sem] theorem aQG : jL (some (.row .arr ver l)) id d (some (.int k a)) none none = eZ (d.isArr l.len l.kind) (pD (0 ≤ a ∧ a ≤ l.len) (.sref true id ver a.toNat (l.len - a.toNat))) := by
  simp [jL]
@[go_sem] theorem aQH : jL (some (.row .arr ver l)) id d none (some (.int k' b)) none = eZ (d.isArr l.len l.kind) (pD (0 ≤ b ∧ b ≤ l.len) (.sref false id ver 0 b.toNat)) := by
  simp [jL]
@[go_sem] theorem aQI : jL (some (.row .arr ver l)) id d (some (.int k a)) (some (.int k' b)) none = eZ (d.isArr l.len l.kind) (pD (0 ≤ a ∧ a ≤ b ∧ b ≤ l.len) (.sref false id ver a.toNat (b.toNat - a.toNat))) := by
  simp [jL]
end slices

section vals
variable (h : List AObj) (x : Bool) (l : Lst) (vs ws : List AV) (n : Nat)
@[go_sem] theorem aWL : AV.vals h [] = some [] := (rfl)
def aLz : Option AV → Option (List AV) → Option (List AV)
  | some a, some b => some (a :: b)
  | _, _ => none
@[go_sem] theorem aTR (v : AV) (r : List AV) : AV.vals h (v :: r) = aLz (v.val h) (AV.vals h r) := by
  show (match v.val h, AV.vals h r with | some a, some b => some (a :: b) | _, _ => none) = _
  cases v.val h <;> cases AV.vals h r <;> rfl
@[go_sem] theorem aQJ (a : AV) (b : List AV) : aLz (some a) (some b) = some (a :: b) := (rfl)
@[go_sem] theorem aWM (id ver off len : Nat) : (AV.sref x id ver off len).val h = (lL (h[id]?) ver off len).map fun l => .sl false l := (rfl)
@[go_sem] theorem aZe : (AV.sl x l).val h = some (.sl false l) := (rfl)
@[go_sem] theorem aYf : (AV.agg vs).val h = (AV.vals h vs).map .agg := (rfl)
@[go_sem] theorem aYg : (AV.tup vs).val h = (AV.vals h vs).map .tup := (rfl)
@[go_sem] theorem aYh (k : IntKind) (a : Int) : (AV.int k a).val h = some (.int k a) := (rfl)
@[go_sem] theorem aWN (b : Bool) : (AV.bool b).val h = some (.bool b) := (rfl)
@[go_sem] theorem aYi (s : bF) : (AV.str s).val h = some (.str s) := (rfl)
@[go_sem] theorem aYj (id : Nat) (p : List PS) : (AV.ptr id p).val h = some (.ptr id p) := (rfl)
@[go_sem] theorem aYk (id : Nat) : (AV.map id).val h = some (.map id) := (rfl)
@[go_sem] theorem aZf (f : Fn) : (AV.fn f vs ws).val h = some (.fn f vs ws) := (rfl)
@[go_sem] theorem aYl : (AV.arr l).val h = some (.arr l) := (rfl)
@[go_sem] theorem aWO : AV.nilp.val h = some .nilp := (rfl)
@[go_sem] theorem aYm : AV.top.val h = some .top := (rfl)
@[go_sem] theorem aTS (k : IntKind) (a : Int) : (AV.int k a).shift n = .int k a := (rfl)
@[go_sem] theorem aQK (b : Bool) : (AV.bool b).shift n = .bool b := (rfl)
@[go_sem] theorem aTT (s : bF) : (AV.str s).shift n = .str s := (rfl)
@[go_sem] theorem aWP : (AV.sl x l).shift n = .sl x l := (rfl)
@[go_sem] theorem aTU : (AV.arr l).shift n = .arr l := (rfl)
@[go_sem] theorem aWQ (f : Fn) : (AV.fn f vs ws).shift n = .fn f vs ws := (rfl)
@[go_sem] theorem aQL (id ver off len : Nat) : (AV.sref x id ver off len).shift n = .sref x (n + id) ver off len := (rfl)
@[go_sem] theorem aTV (id : Nat) : (AV.map id).shift n = .map (n + id) := (rfl)
@[go_sem] theorem aTW (id : Nat) (p : List PS) : (AV.ptr id p).shift n = .ptr (n + id) p := (rfl)
@[go_sem] theorem aTX : (AV.agg vs).shift n = .agg (AV.shifts n vs) := (rfl)
@[go_sem] theorem aTY : (AV.tup vs).shift n = .tup (AV.shifts n vs) := (rfl)
@[go_sem] theorem aQM : AV.shifts n [] = [] := (rfl)
@[go_sem] theorem aOk (v : AV) (r : List AV) : AV.shifts n (v :: r) = v.shift n :: AV.shifts n r := (rfl)
@[go_sem] theorem aTZ (id ver off len : Nat) : (AV.sref x id ver off len).rows = [id] := (rfl)
@[go_sem] theorem aYn : (AV.sl x l).rows = [] := (rfl)
@[go_sem] theorem aWR : (AV.agg vs).rows = AV.rowss vs := (rfl)
@[go_sem] theorem aWS : (AV.tup vs).rows = AV.rowss vs := (rfl)
@[go_sem] theorem aWT (k : IntKind) (a : Int) : (AV.int k a).rows = [] := (rfl)
@[go_sem] theorem aUa (b : Bool) : (AV.bool b).rows = [] := (rfl)
@[go_sem] theorem aWU (s : bF) : (AV.str s).rows = [] := (rfl)
@[go_sem] theorem aWV : (AV.arr l).rows = [] := (rfl)
@[go_sem] theorem aWW (id : Nat) (p : List PS) : (AV.ptr id p).rows = [] := (rfl)
@[go_sem] theorem aWX (id : Nat) : (AV.map id).rows = [] := (rfl)
@[go_sem] theorem aYo (f : Fn) : (AV.fn f vs ws).rows = [] := (rfl)
@[go_sem] theorem aQN : AV.nilfn.rows = [] := (rfl)
@[go_sem] theorem aUb : AV.nilp.rows = [] := (rfl)
@[go_sem] theorem aYp (i : Nat) (fs : List PS) : (AV.ep l i fs).rows = [] := (rfl)
@[go_sem] theorem aWY : AV.top.rows = [] := (rfl)
@[go_sem] theorem aQO (t : TypeId) (v : AV) : (AV.iface t v).rows = [] := (rfl)
@[go_sem] theorem aMy : AV.niliface.rows = [] := (rfl)
@[go_sem] theorem aUc : AV.rowss [] = [] := (rfl)
@[go_sem] theorem aQP (v : AV) (r : List AV) : AV.rowss (v :: r) = v.rows ++ AV.rowss r := (rfl)
@[go_sem] theorem aWZ (k : IntKind) (a : Int) : (AV.int k a).noSl = true := (rfl)
@[go_sem] theorem aUd (b : Bool) : (AV.bool b).noSl = true := (rfl)
@[go_sem] theorem aXa (s : bF) : (AV.str s).noSl = true := (rfl)
@[go_sem] theorem aXb : (AV.arr l).noSl = l.plain := (rfl)
@[go_sem] theorem aQQ (k : IntKind) (xs : List Int) : (Lst.ints k xs).plain = true := (rfl)
@[go_sem] theorem aOl (xs : List Bool) : (Lst.bools xs).plain = true := (rfl)
@[go_sem] theorem aUe (xs : List (Option FuncId)) : (Lst.fns xs).plain = true := (rfl)
@[go_sem] theorem aQR (k : VK) (xs : List AV) : (Lst.vals k xs).plain = false := (rfl)
@[go_sem] theorem aUf : AV.nilp.noSl = true := (rfl)
@[go_sem] theorem aQS : AV.nilfn.noSl = true := (rfl)
@[go_sem] theorem aYq : (AV.sl x l).noSl = false := (rfl)
@[go_sem] theorem aXc : (AV.agg vs).noSl = AV.noSls vs := (rfl)
@[go_sem] theorem aXd : (AV.tup vs).noSl = AV.noSls vs := (rfl)
@[go_sem] theorem aYr (f : Fn) : (AV.fn f vs ws).noSl = (AV.noSls vs && AV.noSls ws) := (rfl)
@[go_sem] theorem aUg : AV.noSls [] = true := (rfl)
@[go_sem] theorem aQT (v : AV) (r : List AV) : AV.noSls (v :: r) = (v.noSl && AV.noSls r) := (rfl)
@[go_sem] theorem aXe (p : Prop) [Decidable p] (v w : AV) : (if p then v else w).noSl = (if p then v.noSl else w.noSl) := by split <;> rfl
@[go_sem] theorem aOm (id ver off len : Nat) : (AV.sref x id ver off len).closed = false := (rfl)
@[go_sem] theorem aQU (id : Nat) (p : List PS) : (AV.ptr id p).closed = false := (rfl)
@[go_sem] theorem aQV (id : Nat) : (AV.map id).closed = false := (rfl)
@[go_sem] theorem aOn : AV.nilp.closed = true := (rfl)
@[go_sem] theorem aMR : AV.nilfn.closed = true := (rfl)
@[go_sem] theorem aUh (k : IntKind) (a : Int) : (AV.int k a).solid = true := (rfl)
@[go_sem] theorem aQW (b : Bool) : (AV.bool b).solid = true := (rfl)
@[go_sem] theorem aUi (s : bF) : (AV.str s).solid = true := (rfl)
@[go_sem] theorem aXf : (AV.sl x l).solid = true := (rfl)
@[go_sem] theorem aQX (id ver off len : Nat) : (AV.sref x id ver off len).solid = true := (rfl)
@[go_sem] theorem aUj : (AV.agg vs).solid = true := (rfl)
@[go_sem] theorem aUk : (AV.arr l).solid = true := (rfl)
@[go_sem] theorem aUl (id : Nat) (p : List PS) : (AV.ptr id p).solid = true := (rfl)
@[go_sem] theorem aUm (id : Nat) : (AV.map id).solid = true := (rfl)
@[go_sem] theorem aQY : AV.nilp.solid = true := (rfl)
@[go_sem] theorem aOo : AV.nilfn.solid = true := (rfl)
@[go_sem] theorem aXg (f : Fn) : (AV.fn f vs ws).solid = true := (rfl)
@[go_sem] theorem aXh (id ver off len : Nat) : (AV.sref x id ver off len).ids = [id] := (rfl)
@[go_sem] theorem aZg : (AV.sl x l).ids = [] := (rfl)
@[go_sem] theorem aYs : (AV.agg vs).ids = AV.idss vs := (rfl)
@[go_sem] theorem aYt : (AV.tup vs).ids = AV.idss vs := (rfl)
@[go_sem] theorem aYu (k : IntKind) (a : Int) : (AV.int k a).ids = [] := (rfl)
@[go_sem] theorem aXi (b : Bool) : (AV.bool b).ids = [] := (rfl)
@[go_sem] theorem aYv (s : bF) : (AV.str s).ids = [] := (rfl)
@[go_sem] theorem aYw : (AV.arr l).ids = [] := (rfl)
@[go_sem] theorem aYx (id : Nat) (p : List PS) : (AV.ptr id p).ids = [id] := (rfl)
@[go_sem] theorem aYy (id : Nat) : (AV.map id).ids = [id] := (rfl)
@[go_sem] theorem aZh (f : Fn) : (AV.fn f vs ws).ids = AV.idss vs ++ AV.idss ws := (rfl)
@[go_sem] theorem aXj : AV.nilp.ids = [] := (rfl)
@[go_sem] theorem aUn : AV.nilfn.ids = [] := (rfl)
@[go_sem] theorem aZi (i : Nat) (fs : List PS) : (AV.ep l i fs).ids = [] := (rfl)
@[go_sem] theorem aYz : AV.top.ids = [] := (rfl)
@[go_sem] theorem aXk : AV.idss [] = [] := (rfl)
@[go_sem] theorem aUo (v : AV) (r : List AV) : AV.idss (v :: r) = v.ids ++ AV.idss r := (rfl)
@[go_sem] theorem aQZ : AV.nilfn.norm n h = .nilfn := (rfl)
@[go_sem] theorem aOp : AV.closeds [] = true := (rfl)
@[go_sem] theorem aMS (v : AV) (r : List AV) : AV.closeds (v :: r) = (v.closed && AV.closeds r) := (rfl)
@[go_sem] theorem aRa (k : IntKind) (a : Int) : (AV.int k a).closed = true := (rfl)
@[go_sem] theorem aOq (b : Bool) : (AV.bool b).closed = true := (rfl)
@[go_sem] theorem aRb (s : bF) : (AV.str s).closed = true := (rfl)
@[go_sem] theorem aUp : (AV.sl x l).closed = true := (rfl)
@[go_sem] theorem aRc : (AV.arr l).closed = true := (rfl)
@[go_sem] theorem aRd : (AV.agg vs).closed = AV.closeds vs := (rfl)
@[go_sem] theorem aUq (f : Fn) : (AV.fn f vs ws).closed = (AV.closeds vs && AV.closeds ws) := (rfl)
@[go_sem] theorem aUr : AV.norms n h [] = [] := (rfl)
@[go_sem] theorem aRe (v : AV) (r : List AV) : AV.norms n h (v :: r) = v.norm n h :: AV.norms n h r := (rfl)
@[go_sem] theorem aXl (k : IntKind) (a : Int) : (AV.int k a).norm n h = .int k a := (rfl)
@[go_sem] theorem aUs (b : Bool) : (AV.bool b).norm n h = .bool b := (rfl)
@[go_sem] theorem aXm (s : bF) : (AV.str s).norm n h = .str s := (rfl)
@[go_sem] theorem aYA : (AV.sl x l).norm n h = .sl false l := (rfl)
@[go_sem] theorem aXn : (AV.arr l).norm n h = .arr l := (rfl)
@[go_sem] theorem aUt : AV.nilp.norm n h = .nilp := (rfl)
@[go_sem] theorem aXo : AV.top.norm n h = .top := (rfl)
@[go_sem] theorem aXp : AV.und.norm n h = .und := (rfl)
@[go_sem] theorem aXq (id : Nat) (p : List PS) : (AV.ptr id p).norm n h = if id < n then .ptr id p else .top := (rfl)
@[go_sem] theorem aXr (id : Nat) : (AV.map id).norm n h = if id < n then .map id else .top := (rfl)
@[go_sem] theorem aXs : (AV.agg vs).norm n h = .agg (AV.norms n h vs) := (rfl)
@[go_sem] theorem aXt : (AV.tup vs).norm n h = .tup (AV.norms n h vs) := (rfl)
@[go_sem] theorem aYB (f : Fn) : (AV.fn f vs ws).norm n h = .fn f (AV.norms n h vs) (AV.norms n h ws) := (rfl)
@[go_sem] theorem aYC (i : Nat) (fs : List PS) : (AV.ep l i fs).norm n h = .ep l i fs := (rfl)
@[go_sem] theorem aUu (id ver off len : Nat) : (AV.sref x id ver off len).norm n h = oT n (h[id]?) id ver off len := (rfl)
@[go_sem] theorem aUv (rk : RK) (id ver ver' off len : Nat) : oT n (some (.row rk ver' l)) id ver off len = if ver = ver' then (if id < n then .sref false id ver off len else .sl false (l.cut off len)) else .top := (rfl)
@[go_sem] theorem aXu : cG n h = (h.take n).map (pS n h) := (rfl)
@[go_sem] theorem aUw (v : AV) : pS n h (.box v) = .box (v.norm n h) := (rfl)
@[go_sem] theorem aUx (rk : RK) (ver : Nat) : pS n h (.row rk ver l) = .row rk ver l := (rfl)
@[go_sem] theorem aUy (m : MapC) : pS n h (.map m) = .map m := (rfl)
@[go_sem] theorem aRf : pS n h .dead = .dead := (rfl)
@[go_sem] theorem aUz (K : List AV → List AObj → Prop) : dE [] vs h K = K vs h := by cases vs <;> rfl
@[go_sem] theorem aRg (fs : List Bool) (K : List AV → List AObj → Prop) : dE fs [] h K = K [] h := by
  cases fs with
  | nil => rfl
  | cons f r => cases f <;> rfl
@[go_sem] theorem aOr (fs : List Bool) (v : AV) (K : List AV → List AObj → Prop) : dE (false :: fs) (v :: vs) h K = dE fs vs h fun us h' => K (v :: us) h' := (rfl)
@[go_sem] theorem aRh (fs : List Bool) (x : Bool) (id ver off len : Nat) (vs : List AV) (K : List AV → List AObj → Prop) : dE (true :: fs) (.sref x id ver off len :: vs) h K = dE fs vs h fun us h' => K (.sref x id ver off len :: us) h' := (rfl)
@[go_sem] theorem aRi (fs : List Bool) (l : Lst) (K : List AV → List AObj → Prop) : dE (true :: fs) (.sl true l :: vs) h K = (l.len = 0 ∧ dE fs vs (h ++ [.row .own 0 l]) fun us h' => K (.sref false h.length 0 0 0 :: us) h') := (rfl)
end vals

@[go_sem] theorem aXv (n : Nat) : ((no_index (OfNat.ofNat n) : Nat) : Int) = OfNat.ofNat n := (rfl)
attribute [go_sem] Bool.and_false Bool.false_and ite_self List.take_length false_imp_iff true_imp_iff not_true_eq_false decide_true decide_false List.length_replicate List.length_set Int.toNat_natCast Bool.and_self List.modify_zero_cons List.modify_succ_cons eq_self and_self implies_true List.getElem?_cons_zero List.getElem?_cons_succ List.set_cons_zero List.set_cons_succ List.cons_append List.nil_append List.append_nil List.length_cons List.length_nil List.take_succ_cons List.take_zero List.take_nil List.getD_cons_zero List.getD_cons_succ List.map_cons List.map_nil Option.bind_some Option.bind_none Option.map_some Option.map_none true_and and_true Nat.add_zero Nat.zero_add if_true if_false Bool.true_eq_false Bool.false_eq_true Bool.not_true Bool.not_false Bool.and_true Bool.true_and or_true true_or reduceCtorEq reduceIte List.drop_zero List.append_assoc decide_eq_true_eq decide_eq_false_iff_not Bool.not_eq_true' Bool.not_eq_false' ne_eq not_false_eq_true forall_const
end Lam
namespace Lam
open Go
@[go_sem] theorem aUA (f : FuncId) (vs : List AV) : lQ [] f vs = none := (rfl)
@[go_sem] theorem aUB (f : FuncId) (Y : Con) (a : List AV) (h : List AObj) (K' : AOut → List AObj → Prop) : oV [] f Y a h K' = False := (rfl)
@[go_sem] theorem aRj (f g : FuncId) (C : Con → Con) (r : List (FuncId × (Con → Con))) : oV ((g, C) :: r) f = if f = g then C else oV r f := by
  by_cases h : f = g
  · subst h; simp [oV]
  · have : Nat.beq f g = false := by rw [Bool.eq_false_iff]; intro e; exact h (Nat.eq_of_beq_eq_true e)
    simp [oV, this, h]
@[go_sem] theorem aRk (g f : FuncId) (C : aF) (r : List (FuncId × aF)) : lQ ((g, C) :: r) f = if f = g then C else lQ r f := by
  by_cases h : f = g
  · subst h; simp [lQ]
  · have : Nat.beq f g = false := by rw [Bool.eq_false_iff]; intro e; exact h (Nat.eq_of_beq_eq_true e)
    simp [lQ, this, h]
@[go_sem] theorem aUC (f : FuncId) (vs : List AV) (h : List AObj) (K : AOut → List AObj → Prop) : nA [] f vs h K = False := (rfl)
@[go_sem] theorem aRl (g f : FuncId) (C : Con) (r : List (FuncId × Con)) : nA ((g, C) :: r) f = if f = g then C else nA r f := by
  by_cases h : f = g
  · subst h; simp [nA]
  · have : Nat.beq f g = false := by rw [Bool.eq_false_iff]; intro e; exact h (Nat.eq_of_beq_eq_true e)
    simp [nA, this, h]
theorem w64 {n : Int} (h1 : -9223372036854775808 ≤ n) (h2 : n < 9223372036854775808) : IntKind.i64.wrap n = n := by rw [IntKind.wrap_i64]; omega
theorem aFz (n : Int) : 0 ≤ IntKind.u8.wrap n ∧ IntKind.u8.wrap n < 256 := by simp [IntKind.wrap, IntKind.bits, IntKind.signed]; omega
theorem aJI (n : Int) : 0 ≤ IntKind.u64.wrap n ∧ IntKind.u64.wrap n < 18446744073709551616 := by simp [IntKind.wrap, IntKind.bits, IntKind.signed]; omega
theorem zI {n : Int} (h1 : 0 ≤ n) (h2 : n < 18446744073709551616) : IntKind.u64.wrap n = n := by simp [IntKind.wrap, IntKind.bits, IntKind.signed]; omega
abbrev J2 := AV → AV → List AObj → Prop
@[congr] theorem aOs {α : Type} {A A' : α → Prop} {k : α} (e : ∀ J, A J = A' J) : aM A k = aM A' k := by unfold aM; exact e k
theorem aB {α : Type} (A : α → Prop) (k : α) : aM A k = A k := (rfl)
section
variable (p q : Bool) (S : Prop) (h : List AObj) (F : AV → List AObj → Prop)
@[go_sem] theorem aXw : aM (fun J : J2 => aX (.bool p) true (J (.bool true) (.bool q) h) (J (.bool false) .und h)) (fun t v h' => runD (bP t v (.bool false)) h' F) = F (.bool (p && q)) h := by
  cases p <;> simp [aM, aX, bP, pD, runD]
@[go_sem] theorem aRm : aM (fun J : J2 => aX (.bool p) true (S ∧ J (.bool true) (.bool q) h) (J (.bool false) .und h)) (fun t v h' => runD (bP t v (.bool false)) h' F) = ((p = true → S) ∧ F (.bool (p && q)) h) := by
  cases p <;> simp [aM, aX, bP, pD, runD]
@[go_sem] theorem aYD : aM (fun J : J2 => aX (.bool p) false (J (.bool false) (.bool q) h) (J (.bool true) .und h)) (fun t v h' => runD (bP t (.bool true) v) h' F) = F (.bool (p || q)) h := by
  cases p <;> simp [aM, aX, bP, pD, runD]
@[go_sem] theorem aUD : aM (fun J : J2 => aX (.bool p) false (S ∧ J (.bool false) (.bool q) h) (J (.bool true) .und h)) (fun t v h' => runD (bP t (.bool true) v) h' F) = ((p = false → S) ∧ F (.bool (p || q)) h) := by
  cases p <;> simp [aM, aX, bP, pD, runD]
variable (S2 S3 S4 S5 : Prop)
@[go_sem] theorem aOt : aM (fun J : J2 => aX (.bool p) true (S ∧ S2 ∧ J (.bool true) (.bool q) h) (J (.bool false) .und h)) (fun t v h' => runD (bP t v (.bool false)) h' F) = ((p = true → S ∧ S2) ∧ F (.bool (p && q)) h) := by
  cases p <;> simp [aM, aX, bP, pD, runD, and_assoc]
@[go_sem] theorem aRn : aM (fun J : J2 => aX (.bool p) false (S ∧ S2 ∧ J (.bool false) (.bool q) h) (J (.bool true) .und h)) (fun t v h' => runD (bP t (.bool true) v) h' F) = ((p = false → S ∧ S2) ∧ F (.bool (p || q)) h) := by
  cases p <;> simp [aM, aX, bP, pD, runD, and_assoc]
@[go_sem] theorem aOu : aM (fun J : J2 => aX (.bool p) true (S ∧ S2 ∧ S3 ∧ J (.bool true) (.bool q) h) (J (.bool false) .und h)) (fun t v h' => runD (bP t v (.bool false)) h' F) = ((p = true → S ∧ S2 ∧ S3) ∧ F (.bool (p && q)) h) := by
  cases p <;> simp [aM, aX, bP, pD, runD, and_assoc]
@[go_sem] theorem aRo : aM (fun J : J2 => aX (.bool p) false (S ∧ S2 ∧ S3 ∧ J (.bool false) (.bool q) h) (J (.bool true) .und h)) (fun t v h' => runD (bP t (.bool true) v) h' F) = ((p = false → S ∧ S2 ∧ S3) ∧ F (.bool (p || q)) h) := by
  cases p <;> simp [aM, aX, bP, pD, runD, and_assoc]
@[go_sem] theorem aOv : aM (fun J : J2 => aX (.bool p) true (S ∧ S2 ∧ S3 ∧ S4 ∧ J (.bool true) (.bool q) h) (J (.bool false) .und h)) (fun t v h' => runD (bP t v (.bool false)) h' F) = ((p = true → S ∧ S2 ∧ S3 ∧ S4) ∧ F (.bool (p && q)) h) := by
  cases p <;> simp [aM, aX, bP, pD, runD, and_assoc]
@[go_sem] theorem aRp : aM (fun J : J2 => aX (.bool p) false (S ∧ S2 ∧ S3 ∧ S4 ∧ J (.bool false) (.bool q) h) (J (.bool true) .und h)) (fun t v h' => runD (bP t (.bool true) v) h' F) = ((p = false → S ∧ S2 ∧ S3 ∧ S4) ∧ F (.bool (p || q)) h) := by
  cases p <;> simp [aM, aX, bP, pD, runD, and_assoc]
@[go_sem] theorem aOw : aM (fun J : J2 => aX (.bool p) true (S ∧ S2 ∧ S3 ∧ S4 ∧ S5 ∧ J (.bool true) (.bool q) h) (J (.bool false) .und h)) (fun t v h' => runD (bP t v (.bool false)) h' F) = ((p = true → S ∧ S2 ∧ S3 ∧ S4 ∧ S5) ∧ F (.bool (p && q)) h) := by
  cases p <;> simp [aM, aX, bP, pD, runD, and_assoc]
@[go_sem] theorem aRq : aM (fun J : J2 => aX (.bool p) false (S ∧ S2 ∧ S3 ∧ S4 ∧ S5 ∧ J (.bool false) (.bool q) h) (J (.bool true) .und h)) (fun t v h' => runD (bP t (.bool true) v) h' F) = ((p = false → S ∧ S2 ∧ S3 ∧ S4 ∧ S5) ∧ F (.bool (p || q)) h) := by
  cases p <;> simp [aM, aX, bP, pD, runD, and_assoc]
end
theorem iC {α : Type} (l : List α) (k : Nat) (d : α) (h : k < l.length) : l.take (k + 1) = l.take k ++ [l.getD k d] := by
  rw [List.take_add_one, List.getD_eq_getElem?_getD, List.getElem?_eq_getElem h]; rfl
theorem kX {α : Type} (l : List α) (k : Nat) (d : α) (h : k < l.length) : l.getD k d ∈ l := by
  rw [List.getD_eq_getElem?_getD, List.getElem?_eq_getElem h]; exact List.getElem_mem h
theorem aMT (n : Nat) : (n : Int).tdiv 16 = ((n / 16 : Nat) : Int) := rfl
theorem aLA (n : Nat) : (n : Int).tdiv 8 = ((n / 8 : Nat) : Int) := rfl
attribute [go_sem] Bool.true_or Bool.false_or Bool.or_false Bool.or_true Bool.and_false Bool.false_and beq_self_eq_true
theorem aRr {n : Int} (h : (Lit.int .u8 n).wf = true) : 0 ≤ n ∧ n < 256 := by
  simp [Lit.wf, IntKind.min, IntKind.max, IntKind.signed, IntKind.bits] at h; omega
theorem aRs {n : Int} (h : (Lit.int .i64 n).wf = true) : -9223372036854775808 ≤ n ∧ n < 9223372036854775808 := by
  simp [Lit.wf, IntKind.min, IntKind.max, IntKind.signed, IntKind.bits] at h; omega
end Lam
namespace Lam
open Go
section
variable {σ : Type}
abbrev LB := Nat → List AV → List AObj → Prop
theorem lD {B : LB → Nat → List AObj → AV → Prop} {lv : List AV} {h0 : List AObj} (V0 : σ → AV) (H : σ → List AObj) (M : σ → Nat) (Q : σ → Prop) (s0 : σ) (hv : lv = [V0 s0]) (hh : h0 = H s0) (q0 : Q s0)
    (step : ∀ (I : LB), (∀ {n : Nat} {lv : List AV} {h : List AObj} (s : σ), M s < n → lv = [V0 s] → h = H s → Q s → ∃ m, m < n ∧ I m lv h) → ∀ s, Q s → B I (M s) (H s) (V0 s)) : ∃ I : LB, (∃ n, I n lv h0) ∧ ∀ n h, ∀ t0, I n [t0] h → B I n h t0 := by
  refine ⟨fun m lv h => ∃ s, m = M s ∧ lv = [V0 s] ∧ h = H s ∧ Q s, ⟨_, s0, rfl, hv, hh, q0⟩, ?_⟩
  rintro n h t0 ⟨s, rfl, e, rfl, q⟩
  cases e
  exact step _ (fun s hm hv hh q => ⟨_, hm, s, rfl, hv, hh, q⟩) s q
theorem aAu {B : LB → Nat → List AObj → AV → AV → Prop} {lv : List AV} {h0 : List AObj} (V0 V1 : σ → AV) (H : σ → List AObj) (M : σ → Nat) (Q : σ → Prop) (s0 : σ) (hv : lv = [V0 s0, V1 s0]) (hh : h0 = H s0) (q0 : Q s0)
    (step : ∀ (I : LB), (∀ {n : Nat} {lv : List AV} {h : List AObj} (s : σ), M s < n → lv = [V0 s, V1 s] → h = H s → Q s → ∃ m, m < n ∧ I m lv h) → ∀ s, Q s → B I (M s) (H s) (V0 s) (V1 s)) : ∃ I : LB, (∃ n, I n lv h0) ∧ ∀ n h, ∀ t0 t1, I n [t0, t1] h → B I n h t0 t1 := by
  refine ⟨fun m lv h => ∃ s, m = M s ∧ lv = [V0 s, V1 s] ∧ h = H s ∧ Q s, ⟨_, s0, rfl, hv, hh, q0⟩, ?_⟩
  rintro n h t0 t1 ⟨s, rfl, e, rfl, q⟩
  cases e
  exact step _ (fun s hm hv hh q => ⟨_, hm, s, rfl, hv, hh, q⟩) s q
theorem aRt {B : LB → Nat → List AObj → AV → AV → AV → AV → AV → Prop} {lv : List AV} {h0 : List AObj} (V0 V1 V2 V3 V4 : σ → AV) (H : σ → List AObj) (M : σ → Nat) (Q : σ → Prop) (s0 : σ) (hv : lv = [V0 s0, V1 s0, V2 s0, V3 s0, V4 s0]) (hh : h0 = H s0) (q0 : Q s0)
    (step : ∀ (I : LB), (∀ {n : Nat} {lv : List AV} {h : List AObj} (s : σ), M s < n → lv = [V0 s, V1 s, V2 s, V3 s, V4 s] → h = H s → Q s → ∃ m, m < n ∧ I m lv h) → ∀ s, Q s → B I (M s) (H s) (V0 s) (V1 s) (V2 s) (V3 s) (V4 s)) : ∃ I : LB, (∃ n, I n lv h0) ∧ ∀ n h, ∀ t0 t1 t2 t3 t4, I n [t0, t1, t2, t3, t4] h → B I n h t0 t1 t2 t3 t4 := by
  refine ⟨fun m lv h => ∃ s, m = M s ∧ lv = [V0 s, V1 s, V2 s, V3 s, V4 s] ∧ h = H s ∧ Q s, ⟨_, s0, rfl, hv, hh, q0⟩, ?_⟩
  rintro n h t0 t1 t2 t3 t4 ⟨s, rfl, e, rfl, q⟩
  cases e
  exact step _ (fun s hm hv hh q => ⟨_, hm, s, rfl, hv, hh, q⟩) s q
end
section
variable {A B : Prop}
theorem aBv : aX (.bool true) true A B = A := by simp [mY]
theorem xM : aX (.bool true) false A B = B := by simp [mY]
theorem aBw : aX (.bool false) true A B = B := by simp [mY]
theorem aBx : aX (.bool false) false A B = A := by simp [mY]
end
theorem eX {k : Nat} (h : k < 4611686018427387904) : IntKind.i64.wrap ((k : Int) + 1) = ((k + 1 : Nat) : Int) := by rw [w64 (by omega) (by omega)]; rfl
theorem aJJ {α : Type} (l : List α) (k : Nat) (d : α) (h : k < l.length) : l.drop k = l.getD k d :: l.drop (k + 1) := by
  rw [List.drop_eq_getElem_cons h, List.getD_eq_getElem?_getD, List.getElem?_eq_getElem h]; rfl
theorem aAB {α : Type} (a b : List α) (k : Nat) (d : α) (h : a.length ≤ k) : (a ++ b).getD k d = b.getD (k - a.length) d := by
  rw [List.getD_eq_getElem?_getD, List.getElem?_append_right h, List.getD_eq_getElem?_getD]
theorem pF {α : Type} (l : List α) {n : Nat} (h : l.length ≤ n) : l.take n = l := List.take_of_length_le h
theorem aRu {α : Type} (d : α) {a b : List α} (hl : a.length = b.length) (h : ∀ i, i < a.length → a.getD i d = b.getD i d) : a = b := by
  apply List.ext_getElem hl
  intro i h1 h2
  have := h i h1
  rw [List.getD_eq_getElem?_getD, List.getD_eq_getElem?_getD, List.getElem?_eq_getElem h1, List.getElem?_eq_getElem h2] at this
  exact this
theorem mH {α : Type} {A : α → Prop} {k : α} (h : ∀ k', k' = k → aM A k') : aM A k := h k rfl
theorem gq : (∀ A B : Prop, aX (.bool true) true A B = A) ∧ (∀ A B : Prop, aX (.bool true) false A B = B) ∧ (∀ A B : Prop, aX (.bool false) true A B = B) ∧ (∀ A B : Prop, aX (.bool false) false A B = A) ∧
    (∀ h : Decidable False, @decide False h = false) ∧ (∀ h : Decidable True, @decide True h = true) ∧ ((!false) = true) ∧ ((!true) = false) ∧ (∀ b : Bool, (!!b) = b) ∧ ((¬ True) = False) ∧ ((¬ False) = True) ∧ (∀ p : Prop, (True → p) = p) ∧ (∀ p : Prop, (False → p) = True) ∧
    (∀ p : Prop, (p ∧ True) = p) ∧ (∀ p : Prop, (True ∧ p) = p) ∧ (∀ b : Bool, (b && b) = b) ∧ (∀ b : Bool, (b || b) = b) ∧ (∀ b : Bool, (b && true) = b) ∧ (∀ b : Bool, (true && b) = b) ∧ ((false = true) = False) :=
  ⟨fun _ _ => aBv, fun _ _ => xM, fun _ _ => aBw, fun _ _ => aBx, decide_false, decide_true, Bool.not_false, Bool.not_true, Bool.not_not, not_true_eq_false, not_false_eq_true, fun _ => true_implies _, fun _ => false_implies _, and_true, true_and, Bool.and_self, Bool.or_self, Bool.and_true, Bool.true_and, Bool.false_eq_true⟩
end Lam
namespace Lam
open Go
/-! ### Memories -/
def memV (vol per : List Int) (pend : List Pend) : AV := .agg [.sl false (.ints .i64 vol), .sl false (.ints .i64 per), .sl false (.pends pend)]
attribute [go_sem] memV
def gD (at_ : Int) : Int := IntKind.i64.wrap (at_.tdiv 8)
def szB (n : Int) : Bool := decide (n ≤ 4096) && decide (n.tmod 8 = 0)

def badB (p : Pend) (n : Nat) (o : Int → Bool) : Bool := decide (p.at_ < 0) || decide ((n : Int) ≤ p.at_) || (p.fl && o (gD p.at_))
def xN (p : Pend) (o : Int → Bool) : Int → Bool := fun j => if j = gD p.at_ then (o (gD p.at_) || !p.fl) else o j
def chk : List Pend → List Int → (Int → Bool) → Option (List Int)
  | [], l, _ => some l
  | p :: r, l, o => match badB p l.length o with
    | true => none
    | false => chk r (l.set p.at_.toNat p.val) (xN p o)
def mD (vol per : List Int) (pend : List Pend) : Bool := decide (vol.length = per.length) && szB vol.length && decide (chk pend per (fun _ => false) = some vol)
def kY (vol per : List Int) (pend : List Pend) : Prop := roomy vol.length ∧ roomy per.length ∧ roomy pend.length
def lS (vol per : List Int) (pend : List Pend) (at_ : Int) : Bool := decide (0 ≤ at_) && decide (at_ < (vol.length : Int)) && mD vol per pend
def nO (vol : List Int) (line : Int) : Int := if decide (line < 0) || decide (((vol.length / 8 : Nat) : Int) ≤ line) then -1 else line * 8
def putM (vol per : List Int) (pend : List Pend) (at_ val : Int) : AV :=
  .tup [memV (if lS vol per pend at_ = true then vol.set at_.toNat val else vol) per (if lS vol per pend at_ = true then pend ++ [⟨at_, val, false⟩] else pend), .int .i64 (if lS vol per pend at_ = true then 0 else 40)]
def fR (line : Int) (pend : List Pend) : List Pend := pend.map fun p => if gD p.at_ = line then { p with fl := true } else p
def zJ (vol per : List Int) (pend : List Pend) (line : Int) : AV :=
  .tup [memV vol per (if lS vol per pend (nO vol line) = true then fR line pend else pend), .int .i64 (if lS vol per pend (nO vol line) = true then 0 else 40)]
def kG (f : Pend → Bool) : List Pend → List Int → List Int
  | [], per => per
  | p :: r, per => kG f r (match f p with | true => per.set p.at_.toNat p.val | false => per)
def lE (f : Pend → Bool) (pend : List Pend) : List Pend := pend.filter fun p => !f p
theorem zK (f : Pend → Bool) : ∀ (l : List Pend) (per : List Int), (kG f l per).length = per.length
  | [], per => rfl
  | p :: r, per => by
    simp only [kG]
    rw [zK f r]
    split <;> simp
theorem aCA (f : Pend → Bool) (p : Pend) : ∀ (l : List Pend) (per : List Int), kG f (l ++ [p]) per = match f p with | true => (kG f l per).set p.at_.toNat p.val | false => kG f l per
  | [], per => by simp only [List.nil_append, kG]
  | q :: r, per => by simp only [List.cons_append, kG]; exact aCA f p r _
theorem aIk (f : Pend → Bool) (p : Pend) (l : List Pend) : lE f (l ++ [p]) = match f p with | true => lE f l | false => lE f l ++ [p] := by
  unfold lE
  rw [List.filter_append]
  cases h : f p <;> simp [h]
theorem aDV : ∀ (l : List Pend) (w : List Int) (o : Int → Bool) {v : List Int}, chk l w o = some v → (∀ p ∈ l, 0 ≤ p.at_ ∧ p.at_ < (w.length : Int)) ∧ v.length = w.length
  | [], w, o, v, h => by simp only [chk, Option.some.injEq] at h; subst h; exact ⟨fun p hp => (by cases hp), rfl⟩
  | p :: r, w, o, v, h => by
    simp only [chk] at h
    split at h
    · cases h
    · rename_i hb
      obtain ⟨c1, c2⟩ := aDV r _ _ h
      rw [List.length_set] at c1 c2
      refine ⟨fun q hq => ?_, c2⟩
      rcases List.mem_cons.1 hq with rfl | hq
      · simp only [badB, Bool.or_eq_false_iff, decide_eq_false_iff_not] at hb
        omega
      · exact c1 q hq
theorem aAP {vol per : List Int} {pend : List Pend} (h : mD vol per pend = true) : vol.length = per.length ∧ szB vol.length = true ∧ chk pend per (fun _ => false) = some vol := by
  simp only [mD, Bool.and_eq_true, decide_eq_true_eq] at h
  exact ⟨h.1.1, h.1.2, h.2⟩
theorem aGC {vol per : List Int} {pend : List Pend} (h : mD vol per pend = true) : ∀ p ∈ pend, 0 ≤ p.at_ ∧ p.at_ < (per.length : Int) := (aDV _ _ _ (aAP h).2.2).1
def fFl (p : Pend) : Bool := p.fl
def fLn (line : Int) (p : Pend) : Bool := decide (gD p.at_ = line)
def aCB (f : Pend → Bool) (ok : Bool) (vol per : List Int) (pend : List Pend) : AV :=
  .tup [memV vol (if ok = true then kG f pend per else per) (if ok = true then lE f pend else pend), .int .i64 (if ok = true then 0 else 40)]
theorem aJK {a : Int} (h0 : 0 ≤ a) (h1 : a ≤ 1099511627776) : gD a = a / 8 := by
  unfold gD
  rw [Int.tdiv_eq_ediv_of_nonneg h0]
  exact w64 (by omega) (by omega)

theorem aKK {a b : List Int} (hl : a.length = b.length) (h : ∀ i, i < a.length → a.getD i 0 = b.getD i 0) : a = b := by
  apply List.ext_getElem hl
  intro i h1 h2
  have := h i h1
  rw [List.getD_eq_getElem?_getD, List.getD_eq_getElem?_getD, List.getElem?_eq_getElem h1, List.getElem?_eq_getElem h2] at this
  exact this
theorem aKL (l : List Int) (i j : Nat) (v : Int) : (l.set i v).getD j 0 = if i = j ∧ i < l.length then v else l.getD j 0 := by
  rw [List.getD_eq_getElem?_getD, List.getElem?_set, List.getD_eq_getElem?_getD]
  by_cases h : i = j
  · subst h
    by_cases h2 : i < l.length
    · simp [h2]
    · simp [h2]
  · simp [h]

def app : List Pend → List Int → List Int
  | [], w => w
  | p :: r, w => app r (w.set p.at_.toNat p.val)
theorem pK : ∀ (l : List Pend) (w : List Int), (app l w).length = w.length
  | [], w => rfl
  | p :: r, w => by rw [app, pK r, List.length_set]
theorem xO : ∀ (l r : List Pend) (w : List Int), app (l ++ r) w = app r (app l w)
  | [], r, w => rfl
  | p :: l, r, w => by rw [List.cons_append, app, xO l, app]
theorem zL (f : Pend → Bool) : ∀ (l : List Pend) (w : List Int), kG f l w = app (l.filter f) w
  | [], w => rfl
  | p :: r, w => by
    simp only [kG]
    rw [zL f r]
    cases h : f p <;> simp [h, app]

def seen (a : Nat) : List Pend → Int → Int
  | [], d => d
  | p :: r, d => seen a r (if p.at_.toNat = a then p.val else d)
theorem aAQ (a : Nat) : ∀ (l r : List Pend) (d : Int), seen a (l ++ r) d = seen a r (seen a l d)
  | [], r, d => rfl
  | p :: l, r, d => by rw [List.cons_append, seen, aAQ a l, seen]
theorem tV : ∀ (l : List Pend) (w : List Int) (a : Nat), a < w.length → (app l w).getD a 0 = seen a l (w.getD a 0)
  | [], w, a, h => rfl
  | p :: r, w, a, h => by
    rw [app, tV r _ a (by rw [List.length_set]; exact h), seen, aKL]
    congr 1
    by_cases e : p.at_.toNat = a
    · simp [e, h]
    · simp [e]
theorem aDW (a : Nat) : ∀ (l : List Pend) (d : Int), (∀ p ∈ l, p.at_.toNat ≠ a) → seen a l d = d
  | [], d, h => rfl
  | p :: r, d, h => by
    rw [seen, if_neg (h p (by simp)), aDW a r d fun q hq => h q (by simp [hq])]
theorem aAR (a : Nat) (f : Pend → Bool) : ∀ (l : List Pend) (d : Int), (∀ p ∈ l, p.at_.toNat = a → f p = true) → seen a (l.filter f) d = seen a l d
  | [], d, h => rfl
  | p :: r, d, h => by
    have ih := fun d => aAR a f r d fun q hq => h q (by simp [hq])
    cases hf : f p with
    | true => rw [List.filter_cons_of_pos hf, seen, seen, ih]
    | false =>
      rw [List.filter_cons_of_neg (by simp [hf]), ih, seen]
      have : ¬ p.at_.toNat = a := fun e => by have := h p (by simp) e; rw [hf] at this; cases this
      rw [if_neg this]
theorem aHk (a : Nat) (l : List Pend) (d : Int) : seen a (l.filter fun p => decide (p.at_.toNat = a)) d = seen a l d := aAR a _ l d fun p _ h => by simp [h]

theorem zM {f : Pend → Bool} : ∀ {l : List Pend}, l.Pairwise (fun p q => f q = true → f p = true) → l.filter f ++ l.filter (fun p => !f p) = l
  | [], _ => rfl
  | p :: r, h => by
    rw [List.pairwise_cons] at h
    cases hf : f p with
    | true => rw [List.filter_cons_of_pos hf, List.filter_cons_of_neg (by simp [hf]), List.cons_append, zM h.2]
    | false =>
      have hn : ∀ q ∈ r, f q = false := fun q hq => by
        cases e : f q with
        | false => rfl
        | true => rw [h.1 q hq e] at hf; cases hf
      rw [List.filter_cons_of_neg (by simp [hf]), List.filter_cons_of_pos (by simp [hf])]
      have e1 : r.filter f = [] := List.filter_eq_nil_iff.2 fun q hq => by simp [hn q hq]
      have e2 : r.filter (fun p => !f p) = r := List.filter_eq_self.2 fun q hq => by simp [hn q hq]
      rw [e1, e2]; rfl
def nP (f : Pend → Bool) (l : List Pend) : Prop := l.Pairwise fun p q => gD p.at_ = gD q.at_ → f q = true → f p = true
theorem aIl {p q : Pend} (hp : 0 ≤ p.at_) (hq : 0 ≤ q.at_) (h : p.at_.toNat = q.at_.toNat) : gD p.at_ = gD q.at_ := by
  have : p.at_ = q.at_ := by omega
  rw [this]
theorem aIm {f : Pend → Bool} {l : List Pend} (h0 : ∀ p ∈ l, 0 ≤ p.at_) (h : nP f l) (a : Nat) (d : Int) : seen a (l.filter fun p => !f p) (seen a (l.filter f) d) = seen a l d := by
  rw [← aAQ, ← aHk a (_ ++ _), ← aHk a l]
  congr 1
  rw [List.filter_append, List.filter_filter, List.filter_filter]
  have hp : (l.filter fun p => decide (p.at_.toNat = a)).Pairwise fun p q => f q = true → f p = true := by
    refine (List.Pairwise.and_mem.1 (List.Pairwise.filter _ h)).imp ?_
    rintro p q ⟨hp, hq, hpq⟩ hf
    rw [List.mem_filter, decide_eq_true_eq] at hp hq
    exact hpq (aIl (h0 p hp.1) (h0 q hq.1) (by omega)) hf
  have := zM hp
  rw [List.filter_filter, List.filter_filter] at this
  simpa [Bool.and_comm] using this

structure OkM (vol per : List Int) (pend : List Pend) : Prop where
  len : vol.length = per.length
  sz : vol.length ≤ 4096
  md : vol.length % 8 = 0
  rng : ∀ p ∈ pend, 0 ≤ p.at_ ∧ p.at_ < (per.length : Int)
  ord : nP (fun p => p.fl) pend
  eq : app pend per = vol

theorem aDj : ∀ (l : List Pend) (w v : List Int) (o : Int → Bool), chk l w o = some v ↔ (∀ p ∈ l, 0 ≤ p.at_ ∧ p.at_ < (w.length : Int)) ∧ nP (fun p => p.fl) l ∧ app l w = v ∧ ∀ q ∈ l, o (gD q.at_) = true → q.fl = false
  | [], w, v, o => by simp [chk, nP, app]
  | p :: r, w, v, o => by
    simp only [chk]
    cases hb : badB p w.length o with
    | true =>
      simp only [reduceCtorEq, false_iff]
      rintro ⟨h1, h2, h3, h4⟩
      have := h1 p (by simp)
      simp only [badB, Bool.or_eq_true, decide_eq_true_eq, Bool.and_eq_true] at hb
      rcases hb with (hb | hb) | hb
      · omega
      · omega
      · have := h4 p (by simp) hb.2
        rw [hb.1] at this; cases this
    | false =>
      simp only
      rw [aDj r _ v (xN p o), List.length_set]
      simp only [badB, Bool.or_eq_false_iff, decide_eq_false_iff_not, Bool.and_eq_false_iff] at hb
      simp only [List.forall_mem_cons, nP, List.pairwise_cons, app]
      constructor
      · rintro ⟨h1, h2, h3, h4⟩
        refine ⟨⟨by omega, h1⟩, ⟨fun q hq hl hf => ?_, h2⟩, h3, fun ho => ?_, fun q hq ho => ?_⟩
        · cases e : p.fl with
          | true => rfl
          | false =>
            have := h4 q hq (by unfold xN; rw [if_pos hl.symm]; simp [e])
            rw [hf] at this; cases this
        · rcases hb.2 with h | h
          · exact h
          · rw [ho] at h; cases h
        · apply h4 q hq
          unfold xN
          split
          · rename_i e; rw [← e, ho]; rfl
          · exact ho
      · rintro ⟨⟨h0, h1⟩, ⟨h5, h2⟩, h3, h6, h4⟩
        refine ⟨h1, h2, h3, fun q hq ho => ?_⟩
        unfold xN at ho
        split at ho
        · rename_i e
          rw [Bool.or_eq_true] at ho
          rcases ho with ho | ho
          · exact h4 q hq (by rw [e]; exact ho)
          · cases e2 : q.fl with
            | false => rfl
            | true =>
              have := h5 q hq e.symm e2
              rw [this] at ho; cases ho
        · exact h4 q hq ho

theorem zN {vol per : List Int} {pend : List Pend} : mD vol per pend = true ↔ OkM vol per pend := by
  constructor
  · intro h
    obtain ⟨h1, h2, h3⟩ := aAP h
    rw [aDj] at h3
    simp only [szB, Bool.and_eq_true, decide_eq_true_eq] at h2
    refine ⟨h1, by omega, ?_, h3.1, h3.2.1, h3.2.2.1⟩
    have := h2.2
    rw [Int.tmod_eq_emod_of_nonneg (by omega)] at this
    omega
  · intro h
    have h3 : chk pend per (fun _ => false) = some vol := by
      rw [aDj]
      exact ⟨h.rng, h.ord, h.eq, fun q _ hq => by cases hq⟩
    have hsz := h.sz
    have hmd := h.md
    simp only [mD, Bool.and_eq_true, decide_eq_true_eq, szB]
    refine ⟨⟨h.len, by omega, ?_⟩, h3⟩
    rw [Int.tmod_eq_emod_of_nonneg (by omega)]
    omega

theorem OkM.vol_at {vol per : List Int} {pend : List Pend} (h : OkM vol per pend) {a : Nat} (ha : a < per.length) : vol.getD a 0 = seen a pend (per.getD a 0) := by
  rw [← h.eq, tV pend per a ha]

theorem OkM.put {vol per : List Int} {pend : List Pend} (h : OkM vol per pend) {a v : Int} (h0 : 0 ≤ a) (h1 : a < (vol.length : Int)) : OkM (vol.set a.toNat v) per (pend ++ [⟨a, v, false⟩]) := by
  refine ⟨by rw [List.length_set]; exact h.len, by rw [List.length_set]; exact h.sz, by rw [List.length_set]; exact h.md, fun p hp => ?_, ?_, ?_⟩
  · rcases List.mem_append.1 hp with hp | hp
    · exact h.rng p hp
    · rw [List.mem_singleton] at hp; subst hp
      have := h.len
      exact ⟨h0, by show a < _; omega⟩
  · unfold nP
    rw [List.pairwise_append]
    refine ⟨h.ord, List.pairwise_singleton _ _, fun p hp q hq => ?_⟩
    rw [List.mem_singleton] at hq; subst hq
    intro _ hf; cases hf
  · rw [xO, h.eq]; rfl

theorem aDX (line : Int) : ∀ (l : List Pend) (w : List Int), app (fR line l) w = app l w
  | [], w => rfl
  | p :: r, w => by
    show app ((if gD p.at_ = line then { p with fl := true } else p) :: fR line r) w = _
    rw [app, app, aDX line r]
    split <;> rfl
theorem OkM.flush {vol per : List Int} {pend : List Pend} (h : OkM vol per pend) (line : Int) : OkM vol per (fR line pend) := by
  refine ⟨h.len, h.sz, h.md, fun p hp => ?_, ?_, by rw [aDX]; exact h.eq⟩
  · obtain ⟨q, hq, rfl⟩ := List.mem_map.1 hp
    have := h.rng q hq
    split <;> exact this
  · unfold nP fR
    rw [List.pairwise_map]
    refine h.ord.imp ?_
    intro p q hpq
    by_cases e1 : gD p.at_ = line <;> by_cases e2 : gD q.at_ = line
    · rw [if_pos e1, if_pos e2]; intros; rfl
    · rw [if_pos e1, if_neg e2]; intros; rfl
    · rw [if_neg e1, if_pos e2]; intro e; exact absurd (e.trans e2) e1
    · rw [if_neg e1, if_neg e2]; exact hpq
theorem OkM.keep {vol per : List Int} {pend : List Pend} (h : OkM vol per pend) {f : Pend → Bool} (hf : nP f pend) : OkM vol (kG f pend per) (lE f pend) := by
  rw [zL]
  refine ⟨by rw [pK]; exact h.len, h.sz, h.md, fun p hp => ?_, List.Pairwise.filter _ h.ord, ?_⟩
  · rw [pK]; exact h.rng p (List.mem_filter.1 hp).1
  · apply aKK
    · rw [pK, pK]; exact h.len.symm
    intro i hi
    rw [pK, pK] at hi
    unfold lE
    rw [tV _ _ _ (by rw [pK]; exact hi), tV _ _ _ hi, aIm (fun p hp => (h.rng p hp).1) hf, h.vol_at hi]
theorem OkM.fence {vol per : List Int} {pend : List Pend} (h : OkM vol per pend) : OkM vol (kG fFl pend per) (lE fFl pend) := h.keep h.ord
def i64s (l : List Int) : Prop := ∀ x ∈ l, x < 9223372036854775808
def newM (l : List Int) : AV := .tup [memV (if szB l.length = true then l else []) (if szB l.length = true then l else []) [], .int .i64 (if szB l.length = true then 0 else 40)]
section
variable {vol per : List Int} {pend : List Pend} {a v line : Int} {f : Pend → Bool} {keep : List Int}
theorem aMd (h : lS vol per pend a = true) : putM vol per pend a v = .tup [memV (vol.set a.toNat v) per (pend ++ [⟨a, v, false⟩]), .int .i64 0] := by unfold putM; simp only [h, if_true]
theorem aJL (h : lS vol per pend (nO vol line) = true) : zJ vol per pend line = .tup [memV vol per (fR line pend), .int .i64 0] := by unfold zJ; simp only [h, if_true]
theorem aJM : aCB f true vol per pend = .tup [memV vol (kG f pend per) (lE f pend), .int .i64 0] := rfl
theorem aDY : lS vol per pend a = true ↔ (0 ≤ a ∧ a < (vol.length : Int)) ∧ OkM vol per pend := by
  simp only [lS, Bool.and_eq_true, decide_eq_true_eq, zN]
theorem OkM.small (h : OkM vol per pend) (hp : pend.length ≤ 1000000) : kY vol per pend := by
  have := h.sz; have := h.len
  unfold kY roomy; omega
theorem OkM.first (h : OkM vol per pend) (h0 : 0 ≤ line) (h1 : line < ((vol.length / 8 : Nat) : Int)) : nO vol line = line * 8 ∧ lS vol per pend (nO vol line) = true := by
  have e : nO vol line = line * 8 := by
    unfold nO
    rw [if_neg]
    simp only [Bool.or_eq_true, decide_eq_true_eq]; omega
  refine ⟨e, aDY.2 ⟨?_, h⟩⟩
  rw [e]; omega
theorem aIn (line : Int) (l : List Pend) : (fR line l).length = l.length := by simp [fR]
theorem aMe {l : List Int} (h : wfL (.ints .i64 l)) : i64s l := fun x hx => (aRs (h x hx)).2
end
theorem aMU {vol per : List Int} {pend : List Pend} (h : OkM vol per pend) {p : Pend} (hp : p ∈ pend) {i : Nat} : p.at_.toNat = i → fLn ((i : Int) / 8) p = true := by
  intro e
  have hr := h.rng p hp
  have := h.len
  have := h.sz
  unfold fLn
  rw [decide_eq_true_eq, aJK hr.1 (by omega)]
  omega
end Lam
namespace Lam
open Go

structure Mm where
  vol : List Int
  per : List Int
  pend : List Pend
  deriving DecidableEq
def Mm.V (m : Mm) : AV := memV m.vol m.per m.pend
attribute [go_sem] Mm.V
def Mm.ok (m : Mm) : Prop := OkM m.vol m.per m.pend
def Mm.okB (m : Mm) : Bool := mD m.vol m.per m.pend
theorem Mm.ok_iff {m : Mm} : m.okB = true ↔ m.ok := zN
def mmay (x : Mic) (n : Int) : Bool := decide (0 ≤ x.at_) && decide (x.at_ < (if x.kind = 2 then IntKind.i64.wrap (n.tdiv 8) else if x.kind = 1 then n else 0)) && (decide (x.kind = 1) || decide (x.val = 0))
def zO (n : Int) : Bool := decide (0 ≤ n) && decide (n ≤ 4096) && decide (n.tmod 8 = 0)
def aJN (l : List Mic) (n : Int) : Bool := zO n && l.all (mmay · n)
def store (m : Mm) (a v : Int) : Mm := ⟨m.vol.set a.toNat v, m.per, m.pend ++ [⟨a, v, false⟩]⟩
def tK (m : Mm) (line : Int) : Mm := ⟨m.vol, kG fFl (fR line m.pend) m.per, lE fFl (fR line m.pend)⟩
def iP (m : Mm) (x : Mic) : Mm := if x.kind = 1 then store m x.at_ x.val else tK m x.at_
def runS (m : Mm) (l : List Mic) : Mm := l.foldl iP m

theorem aKM (m : Mm) : runS m [] = m := rfl
theorem zP (m : Mm) (x : Mic) (l : List Mic) : runS m (x :: l) = runS (iP m x) l := rfl
theorem aGD (m : Mm) (a b : List Mic) : runS m (a ++ b) = runS (runS m a) b := List.foldl_append
def MayN (x : Mic) (n : Nat) : Prop := (x.kind = 1 ∧ 0 ≤ x.at_ ∧ x.at_ < (n : Int)) ∨ (x.kind = 2 ∧ 0 ≤ x.at_ ∧ x.at_ < ((n / 8 : Nat) : Int) ∧ x.val = 0)
theorem aFA {x : Mic} {n : Nat} (hn : n ≤ 4096) : mmay x n = true ↔ MayN x n := by
  have e : IntKind.i64.wrap ((n : Int).tdiv 8) = ((n / 8 : Nat) : Int) := by rw [aLA]; exact w64 (by omega) (by omega)
  simp only [mmay, e, Bool.and_eq_true, decide_eq_true_eq, Bool.or_eq_true]
  unfold MayN
  by_cases h2 : x.kind = 2
  · rw [if_pos h2]; omega
  · rw [if_neg h2]
    by_cases h1 : x.kind = 1
    · rw [if_pos h1]; omega
    · rw [if_neg h1]; omega
theorem aJO (m : Mm) (a v : Int) : (store m a v).vol.length = m.vol.length := by simp [store]
theorem aDZ (m : Mm) (x : Mic) : (iP m x).vol.length = m.vol.length := by unfold iP; split; exact aJO _ _ _; rfl
theorem aFB : ∀ (l : List Mic) (m : Mm), (runS m l).vol.length = m.vol.length
  | [], m => rfl
  | x :: l, m => by rw [zP, aFB l, aDZ]
theorem rV (m : Mm) (x : Mic) : (iP m x).per.length = m.per.length := by
  unfold iP; split
  · rfl
  · exact zK _ _ _
theorem aIo {m : Mm} (h : m.ok) (l : Int) : (tK m l).ok := (OkM.flush h l).fence
theorem tW {m : Mm} (h : m.ok) {x : Mic} (hx : MayN x m.vol.length) : (iP m x).ok := by
  unfold iP
  rcases hx with ⟨hk, h0, h1⟩ | ⟨hk, _⟩
  · rw [if_pos hk]; exact OkM.put h h0 h1
  · rw [if_neg (by omega)]; exact aIo h _
theorem aHl : ∀ (l : List Mic) {m : Mm}, m.ok → (∀ x ∈ l, MayN x m.vol.length) → (runS m l).ok
  | [], m, h, _ => h
  | x :: l, m, h, hl => by
    rw [zP]
    refine aHl l (tW h (hl x (by simp))) fun y hy => ?_
    rw [aDZ]; exact hl y (by simp [hy])
theorem zQ : ∀ (l : List Mic) (m : Mm), (runS m l).pend.length ≤ m.pend.length + l.length
  | [], m => by simp [aKM]
  | x :: l, m => by
    rw [zP]
    refine Nat.le_trans (zQ l _) ?_
    have : (iP m x).pend.length ≤ m.pend.length + 1 := by
      unfold iP
      split
      · simp [store]
      · refine Nat.le_trans (List.length_filter_le _ _) ?_
        simp [fR]
    simp only [List.length_cons]; omega

def gL (line : Int) (p : Pend) : Bool := p.fl || fLn line p
theorem zR (line : Int) (f : Pend → Bool) (hf : ∀ p, f p = fFl p) : ∀ l : List Pend, (fR line l).filter f = (l.filter (gL line)).map fun p => if gD p.at_ = line then { p with fl := true } else p
  | [] => rfl
  | p :: r => by
    have ih := zR line f hf r
    show ((if gD p.at_ = line then { p with fl := true } else p) :: fR line r).filter f = _
    by_cases e : gD p.at_ = line
    · rw [if_pos e, List.filter_cons_of_pos (by rw [hf]; rfl), List.filter_cons_of_pos (by simp [gL, fLn, e]), ih, List.map_cons, if_pos e]
    · rw [if_neg e]
      cases h : p.fl with
      | true => rw [List.filter_cons_of_pos (by rw [hf]; exact h), List.filter_cons_of_pos (by simp [gL, h]), ih, List.map_cons, if_neg e]
      | false => rw [List.filter_cons_of_neg (by rw [hf]; simp [fFl, h]), List.filter_cons_of_neg (by simp [gL, fLn, h, e]), ih]
theorem zS (m : Mm) (line : Int) : (tK m line).pend = m.pend.filter fun p => !gL line p := by
  show lE fFl (fR line m.pend) = _
  unfold lE
  induction m.pend with
  | nil => rfl
  | cons p r ih =>
    show ((if gD p.at_ = line then { p with fl := true } else p) :: fR line r).filter _ = _
    by_cases e : gD p.at_ = line
    · rw [if_pos e, List.filter_cons_of_neg (by simp [fFl]), List.filter_cons_of_neg (by simp [gL, fLn, e]), ih]
    · rw [if_neg e]
      cases h : p.fl with
      | true => rw [List.filter_cons_of_neg (by simp [fFl, h]), List.filter_cons_of_neg (by simp [gL, h]), ih]
      | false => rw [List.filter_cons_of_pos (by simp [fFl, h]), List.filter_cons_of_pos (by simp [gL, fLn, h, e]), ih]
theorem aHm (g : Pend → Pend) (hg : ∀ p, (g p).at_ = p.at_ ∧ (g p).val = p.val) : ∀ (l : List Pend) (w : List Int), app (l.map g) w = app l w
  | [], w => rfl
  | p :: r, w => by rw [List.map_cons, app, app, (hg p).1, (hg p).2, aHm g hg r]
theorem aGE (m : Mm) (line : Int) : (tK m line).per = app (m.pend.filter (gL line)) m.per := by
  show kG fFl (fR line m.pend) m.per = _
  rw [zL, zR line _ (fun _ => rfl), aHm]
  intro p; split <;> exact ⟨rfl, rfl⟩
theorem aGF (m : Mm) (line : Int) : (tK m line).pend.Sublist m.pend := by rw [zS]; exact List.filter_sublist
/-! ### Steps whose lines are persisted as they are left: a crash leaves a beginning -/
def isS (x : Mic) : Bool := decide (x.kind = 1)
structure aIp (w : List Int) (m : Mm) (S : List Pend) (o : Option Int) : Prop where
  ok : m.ok
  cut : ∃ i, i ≤ S.length ∧ m.per = app (S.take i) w ∧ m.pend = S.drop i
  one : ∀ p ∈ m.pend, o = some (gD p.at_) ∧ p.fl = false
  all : m.vol = app S w
theorem aIp.store {w : List Int} {m : Mm} {S : List Pend} {o : Option Int} (h : aIp w m S o) {x : Mic} (hk : x.kind = 1) (hx : MayN x m.vol.length) (ho : ∀ L, o = some L → gD x.at_ = L) :
    aIp w (iP m x) (S ++ [⟨x.at_, x.val, false⟩]) (some (gD x.at_)) := by
  have e : iP m x = Lam.store m x.at_ x.val := by unfold iP; rw [if_pos hk]
  refine ⟨tW h.ok hx, ?_, ?_, ?_⟩
  · obtain ⟨i, hi, h1, h2⟩ := h.cut
    refine ⟨i, by simp; omega, ?_, ?_⟩
    · rw [e, List.take_append_of_le_length hi]; exact h1
    · rw [e, List.drop_append_of_le_length hi, ← h2]; rfl
  · intro p hp
    rw [e] at hp
    rcases List.mem_append.1 hp with hp | hp
    · obtain ⟨h1, h2⟩ := h.one p hp
      exact ⟨by rw [ho _ h1], h2⟩
    · rw [List.mem_singleton] at hp; subst hp; exact ⟨rfl, rfl⟩
  · rw [e, xO, ← h.all]; rfl
/-! ### What is seen, and kept, of a eA -/
/-! ### A line's own -/
def aLB (x : Mic) : Int := if x.kind = 1 then gD x.at_ else x.at_
def unfl (m : Mm) : Prop := ∀ p ∈ m.pend, p.fl = false
structure rW (L : Int) (m m' : Mm) : Prop where
  ok : m.ok
  ok' : m'.ok
  len : m.per.length = m'.per.length
  un : unfl m
  un' : unfl m'
  per : ∀ p : Nat, p < m.per.length → (p : Int) / 8 = L → m.per.getD p 0 = m'.per.getD p 0
  pend : m.pend.filter (fLn L) = m'.pend.filter (fLn L)
theorem zT {m : Mm} (h : unfl m) (x : Mic) : unfl (iP m x) := by
  unfold iP
  split
  · intro p hp
    rcases List.mem_append.1 hp with hp | hp
    · exact h p hp
    · rw [List.mem_singleton] at hp; subst hp; rfl
  · intro p hp; exact h p ((aGF _ _).subset hp)
theorem aRv {m : Mm} (h : unfl m) (L : Int) : m.pend.filter (gL L) = m.pend.filter (fLn L) ∧ m.pend.filter (fun p => !gL L p) = m.pend.filter (fun p => !fLn L p) := by
  constructor <;> apply List.filter_congr <;> intro p hp <;> simp [gL, h p hp]
theorem zU {m : Mm} (ok : m.ok) (un : unfl m) {x : Mic} {L : Int} : (iP m x).pend.filter (fLn L) = (if x.kind = 1 then m.pend.filter (fLn L) ++ (if gD x.at_ = L then [⟨x.at_, x.val, false⟩] else []) else if x.at_ = L then [] else m.pend.filter (fLn L)) ∧
    ∀ p : Nat, p < m.per.length → (p : Int) / 8 = L → (iP m x).per.getD p 0 = if x.kind = 1 then m.per.getD p 0 else if x.at_ = L then seen p (m.pend.filter (fLn L)) (m.per.getD p 0) else m.per.getD p 0 := by
  unfold iP
  by_cases hk : x.kind = 1
  · rw [if_pos hk, if_pos hk]
    refine ⟨?_, fun p _ _ => by rw [if_pos hk]; rfl⟩
    show (m.pend ++ [_]).filter _ = _
    rw [List.filter_append]
    congr 1
    by_cases e : gD x.at_ = L
    · rw [if_pos e, List.filter_cons_of_pos (show fLn L ⟨x.at_, x.val, false⟩ = true from decide_eq_true e)]; rfl
    · rw [if_neg e, List.filter_cons_of_neg (by unfold fLn; simpa using e)]; rfl
  · rw [if_neg hk, if_neg hk]
    obtain ⟨g1, g2⟩ := aRv un x.at_
    refine ⟨?_, fun p hp hL => ?_⟩
    · rw [zS, g2, List.filter_filter]
      by_cases e : x.at_ = L
      · rw [if_pos e, e, List.filter_eq_nil_iff]
        intro p _; simp
      · rw [if_neg e]
        apply List.filter_congr
        intro p _
        unfold fLn
        by_cases e2 : gD p.at_ = L
        · rw [e2, decide_eq_true rfl, decide_eq_false (fun h => e h.symm)]; rfl
        · rw [decide_eq_false e2]; rfl
    · rw [aGE, g1, tV _ _ _ hp, if_neg hk]
      by_cases e : x.at_ = L
      · rw [if_pos e, e]
      · rw [if_neg e, aDW]
        intro q hq e2
        obtain ⟨hq1, hq2⟩ := List.mem_filter.1 hq
        have := aMU ok hq1 e2
        unfold fLn at this hq2
        rw [decide_eq_true_eq] at this hq2
        rw [hL] at this
        exact e (hq2.symm.trans this)
theorem rW.same {L : Int} {m m' : Mm} (h : rW L m m') {x : Mic} (hx : MayN x m.vol.length) : rW L (iP m x) (iP m' x) := by
  obtain ⟨p1, p2⟩ := zU h.ok h.un (x := x) (L := L)
  obtain ⟨q1, q2⟩ := zU h.ok' h.un' (x := x) (L := L)
  have hlen : m.vol.length = m'.vol.length := by rw [OkM.len h.ok, OkM.len h.ok', h.len]
  refine ⟨tW h.ok hx, tW h.ok' (by rw [← hlen]; exact hx), by rw [rV, rV]; exact h.len, zT h.un x, zT h.un' x, fun p hp hL => ?_, by rw [p1, q1, h.pend]⟩
  rw [rV] at hp
  rw [p2 p hp hL, q2 p (by rw [← h.len]; exact hp) hL, h.per p hp hL, h.pend]
theorem rW.skip {L : Int} {m m' : Mm} (h : rW L m m') {x : Mic} (hx : MayN x m.vol.length) (hne : aLB x ≠ L) : rW L (iP m x) m' := by
  obtain ⟨p1, p2⟩ := zU h.ok h.un (x := x) (L := L)
  unfold aLB at hne
  refine ⟨tW h.ok hx, h.ok', by rw [rV]; exact h.len, zT h.un x, h.un', fun p hp hL => ?_, ?_⟩
  · rw [rV] at hp
    rw [p2 p hp hL, ← h.per p hp hL]
    by_cases hk : x.kind = 1
    · rw [if_pos hk]
    · rw [if_neg hk] at hne ⊢; rw [if_neg hne]
  · rw [p1, ← h.pend]
    by_cases hk : x.kind = 1
    · rw [if_pos hk] at hne ⊢
      rw [if_neg hne, List.append_nil]
    · rw [if_neg hk] at hne ⊢; rw [if_neg hne]
theorem rW.refl {L : Int} {m : Mm} (ok : m.ok) (un : unfl m) : rW L m m := ⟨ok, ok, rfl, un, un, fun _ _ _ => rfl, rfl⟩
end Lam
namespace Lam
open Go

def qA (b : Int) : Bool := decide (0 ≤ b) && decide (IntKind.i64.wrap (b + 16) ≤ 4096) && decide (b.tmod 16 = 0)
theorem aBy {b : Int} (h : b ≤ 1099511627776) : qA b = true ↔ 0 ≤ b ∧ b ≤ 4080 ∧ b % 16 = 0 := by
  unfold qA
  simp only [Bool.and_eq_true, decide_eq_true_eq]
  constructor
  · rintro ⟨⟨h0, h1⟩, h2⟩
    rw [w64 (by omega) (by omega)] at h1
    rw [Int.tmod_eq_emod_of_nonneg h0] at h2
    omega
  · rintro ⟨h0, h1, h2⟩
    rw [w64 (by omega) (by omega), Int.tmod_eq_emod_of_nonneg h0]
    omega
def oL (base slot : Int) : Int := if (qA base && decide (0 ≤ slot) && decide (slot < 13)) = true then IntKind.i64.wrap (IntKind.i64.wrap (base + 3) + slot) else -1
theorem aKN {b s : Int} (hb : qA b = true) (h : b ≤ 1099511627776) (h0 : 0 ≤ s) (h1 : s < 13) : oL b s = b + 3 + s := by
  have := (aBy h).1 hb
  unfold oL
  rw [hb, decide_eq_true h0, decide_eq_true h1]
  rw [if_pos (by rfl), w64 (n := b + 3) (by omega) (by omega), w64 (by omega) (by omega)]
def lt1 (n : Int) : Bool := decide (n < 1)
def idxI (p : Int → Bool) (l : List Int) : Int := if l.any p = true then (l.findIdx p : Nat) else -1
def upTo (l : List Int) : List Int := l.takeWhile fun w => !lt1 w
def lJ (words : List Int) (base : Int) : List Int := if (qA base && decide (base + 16 ≤ (words.length : Int))) = true then upTo ((words.drop (base.toNat + 3)).take 13) else []
theorem aKO (l : List Int) : l.take (if idxI lt1 l < 0 then (l.length : Int) else idxI lt1 l).toNat = upTo l := by
  unfold idxI upTo
  induction l with
  | nil => rfl
  | cons a r ih =>
    rw [List.any_cons, List.findIdx_cons, List.takeWhile_cons]
    cases ha : lt1 a with
    | true => simp
    | false =>
      simp only [Bool.false_or, Bool.not_false, if_true, cond_false]
      cases hr : r.any lt1 with
      | true =>
        rw [hr] at ih
        simp only [if_true] at ih ⊢
        rw [if_neg (by omega)] at ih ⊢
        rw [← ih]
        simp
      | false =>
        rw [hr] at ih
        simp only [Bool.false_eq_true, if_false] at ih ⊢
        rw [if_pos (by omega)] at ih ⊢
        rw [← ih]
        simp
theorem aIq (p : Int → Bool) (l : List Int) : -1 ≤ idxI p l ∧ idxI p l ≤ (l.length : Int) := by
  unfold idxI
  split
  · have := List.findIdx_le_length (p := p) (xs := l)
    omega
  · omega

def plain : List Int → List Int
  | [] => []
  | [a] => [a]
  | a :: b :: r => if a = b then plain (b :: r) else a :: plain (b :: r)
/-! ### Steps by which slots are stored -/
end Lam
namespace Lam
open Go

/-! ### A memory of two nodes -/
theorem aIr (z : List Int) (n : Nat) : upTo (z ++ List.replicate n 0) = upTo z := by
  unfold upTo
  induction z with
  | nil => cases n with
    | zero => rfl
    | succ n => rw [List.nil_append, List.replicate_succ, List.takeWhile_cons]; rfl
  | cons a r ih => rw [List.cons_append, List.takeWhile_cons, List.takeWhile_cons, ih]
theorem aKP {z : List Int} (h : ∀ x ∈ z, 0 < x) : upTo z = z := by
  unfold upTo
  induction z with
  | nil => rfl
  | cons a r ih =>
    have : lt1 a = false := decide_eq_false (by have := h a (by simp); omega)
    rw [List.takeWhile_cons, this, ih fun x hx => h x (by simp [hx])]; rfl
/-! ### Unlike slots -/
/-! ### Steps by which slots are stored, of the second node -/
def aHn (l : List aAf) : Prop := ∀ s ∈ l, 0 ≤ s.at_ ∧ s.at_ < 13
theorem aHn.get {l : List aAf} (h : aHn l) {n : Nat} (hn : n < l.length) : 0 ≤ (l.getD n ⟨0, 0⟩).at_ ∧ (l.getD n ⟨0, 0⟩).at_ < 13 := h _ (kX l n _ hn)
end Lam
namespace Lam
open Go
/-! ### Insert -/
/-! ### Delete -/
/-! ### Cut, swap -/
/-! ### How far -/
end Lam
namespace Lam
open Go
structure Nd where
  level : Int
  turn : Int
  next : Int
  low : Int
  slots : List Int
  deriving DecidableEq
def Nd.V (n : Nd) : AV := .agg [.int .i64 n.level, .int .i64 n.turn, .int .i64 n.next, .int .i64 n.low, .sl false (.ints .i64 n.slots)]
attribute [go_sem] Nd.V
def tL (n : Int) : Bool := decide (n = 0) || !(decide (0 ≤ n) && decide (n < 256))
def qB (n : Int) : Bool := decide (0 ≤ n) && decide (n < 256)
def Nd.ok (n : Nd) : Prop := 0 ≤ n.level ∧ n.level ≤ 9 ∧ 0 ≤ n.turn ∧ n.turn ≤ 1099511627776 ∧ (0 ≤ n.next ∧ n.next < 256) ∧ (0 ≤ n.low ∧ n.low < 256) ∧ n.slots.length ≤ 13 ∧ ∀ x ∈ n.slots, 1 ≤ x ∧ x < 256
def ndB (n : Nd) : Bool := decide (0 ≤ n.level) && decide (n.level ≤ 9) && decide (0 ≤ n.turn) && decide (n.turn ≤ 1099511627776) && qB n.next && qB n.low && decide (n.slots.length ≤ 13) && !n.slots.any tL
theorem wG {n : Nd} : ndB n = true ↔ n.ok := by
  unfold ndB Nd.ok qB tL
  simp only [Bool.and_eq_true, decide_eq_true_eq, Bool.not_eq_true', List.any_eq_false, Bool.or_eq_true, Bool.and_eq_false_iff, decide_eq_false_iff_not, not_or, not_and, Bool.not_eq_false']
  constructor
  · rintro ⟨⟨⟨⟨⟨⟨⟨h1, h2⟩, h3⟩, h4⟩, h5⟩, h6⟩, h7⟩, h8⟩
    exact ⟨h1, h2, h3, h4, h5, h6, h7, fun x hx => by have := h8 x hx; omega⟩
  · rintro ⟨h1, h2, h3, h4, h5, h6, h7, h8⟩
    exact ⟨⟨⟨⟨⟨⟨⟨h1, h2⟩, h3⟩, h4⟩, h5⟩, h6⟩, h7⟩, fun x hx => by have := h8 x hx; omega⟩
def zV (n : Nd) : Int := 1152921504606846976 + 16 * n.turn + n.level
def fV (n : Nd) : List Int := zV n :: n.next :: n.low :: (n.slots ++ List.replicate (13 - n.slots.length) 0)
theorem zW {n : Nd} (h : n.ok) : (fV n).length = 16 := by
  have := h.2.2.2.2.2.2.1
  simp [fV]; omega
def nQ (d : List Int → Nd) (w : List Int) : Option Nd := if (ndB (d w) && decide (fV (d w) = w)) = true then some (d w) else none
theorem vH {d : List Int → Nd} {w : List Int} {n : Nd} (h : nQ d w = some n) : n.ok ∧ fV n = w := by
  unfold nQ at h
  split at h
  · rename_i hc
    rw [Bool.and_eq_true, decide_eq_true_eq] at hc
    cases h
    exact ⟨wG.1 hc.1, hc.2⟩
  · cases h
theorem aEa {d : List Int → Nd} (hd : ∀ n, n.ok → d (fV n) = n) {n : Nd} (h : n.ok) : nQ d (fV n) = some n := by
  unfold nQ
  rw [hd n h, wG.2 h, decide_eq_true rfl]; rfl
theorem aJP {d d' : List Int → Nd} (hd : ∀ n, n.ok → d (fV n) = n) (hd' : ∀ n, n.ok → d' (fV n) = n) (w : List Int) : nQ d w = nQ d' w := by
  cases h : nQ d w with
  | some n =>
    obtain ⟨h1, rfl⟩ := vH h
    rw [aEa hd' h1]
  | none =>
    cases h' : nQ d' w with
    | none => rfl
    | some n =>
      obtain ⟨h1, rfl⟩ := vH h'
      rw [aEa hd h1] at h; cases h
def decN (w : List Int) : Nd := ⟨(w.getD 0 0 - 1152921504606846976) % 16, (w.getD 0 0 - 1152921504606846976) / 16, w.getD 1 0, w.getD 2 0, upTo (w.drop 3)⟩
theorem aCC {n : Nd} (h : n.ok) : upTo ((fV n).drop 3) = n.slots := by
  show upTo (n.slots ++ _) = _
  rw [aIr, aKP fun x hx => by have := h.2.2.2.2.2.2.2 x hx; omega]
theorem aIs {n : Nd} (h : n.ok) : decN (fV n) = n := by
  unfold decN
  rw [aCC h]
  have h5 := h.1
  have h6 := h.2.1
  have e0 : (fV n).getD 0 0 = 1152921504606846976 + 16 * n.turn + n.level := rfl
  have e1 : (fV n).getD 1 0 = n.next := rfl
  have e2 : (fV n).getD 2 0 = n.low := rfl
  rw [e0, e1, e2]
  cases n
  simp only at *
  simp only [Nd.mk.injEq, and_true]
  exact ⟨by omega, by omega⟩
def aCD (w : List Int) : Option Nd := nQ decN w
theorem aIt {w : List Int} {n : Nd} (h : aCD w = some n) : n.ok ∧ fV n = w := vH h
def kT (words : List Int) (k : Nat) : List Int := (words.drop (16 * k)).take 16
def iT : Nd := ⟨0, 0, 0, 0, []⟩
/-! ### Bits -/
theorem aDk {a b : Nat} (h : a ||| b < 2 ^ 63) (ha : a < 2 ^ 63) (hb : b < 2 ^ 63) : orI .i64 a b = ((a ||| b : Nat) : Int) := by
  have e : (BitVec.ofInt 64 (a : Int) ||| BitVec.ofInt 64 (b : Int)).toNat = a ||| b := by
    rw [BitVec.toNat_or, BitVec.ofInt_natCast, BitVec.ofInt_natCast, BitVec.toNat_ofNat, BitVec.toNat_ofNat, Nat.mod_eq_of_lt (by omega), Nat.mod_eq_of_lt (by omega)]
  show IntKind.i64.wrap ((BitVec.ofInt 64 (a : Int) ||| BitVec.ofInt 64 (b : Int)).toNat) = _
  rw [e]
  exact w64 (by omega) (by omega)
theorem aKQ {a b : Nat} (ha : a < 2 ^ 63) (hb : b < 2 ^ 63) : andI .i64 a b = ((a &&& b : Nat) : Int) := by
  have e : (BitVec.ofInt 64 (a : Int) &&& BitVec.ofInt 64 (b : Int)).toNat = a &&& b := by
    rw [BitVec.toNat_and, BitVec.ofInt_natCast, BitVec.ofInt_natCast, BitVec.toNat_ofNat, BitVec.toNat_ofNat, Nat.mod_eq_of_lt (by omega), Nat.mod_eq_of_lt (by omega)]
  have hle : a &&& b ≤ a := Nat.and_le_left
  show IntKind.i64.wrap ((BitVec.ofInt 64 (a : Int) &&& BitVec.ofInt 64 (b : Int)).toNat) = _
  rw [e]
  exact w64 (by omega) (by omega)
theorem aCE {i a b : Nat} (h : b < 2 ^ i) : 2 ^ i * a ||| b = 2 ^ i * a + b := (Nat.two_pow_add_eq_or_of_lt h a).symm
theorem aIu {r : Nat} (h : r < 2 ^ 60) : wF .i64 ((1152921504606846976 + r : Nat) : Int) 1152921504606846976 = (r : Int) := by
  have e : (BitVec.ofInt 64 ((1152921504606846976 + r : Nat) : Int) &&& ~~~ BitVec.ofInt 64 1152921504606846976).toNat = r := by
    have h1 : BitVec.ofInt 64 (1152921504606846976 : Int) = BitVec.ofNat 64 (2 ^ 60) := by decide
    have h2 : 1152921504606846976 + r = 2 ^ 60 * 1 ||| r := by rw [aCE h]
    rw [h1, BitVec.ofInt_natCast, h2]
    have h3 : BitVec.ofNat 64 (2 ^ 60 * 1 ||| r) = BitVec.ofNat 64 (2 ^ 60) ||| BitVec.ofNat 64 r := by
      apply BitVec.eq_of_toNat_eq
      rw [BitVec.toNat_or, BitVec.toNat_ofNat, BitVec.toNat_ofNat, BitVec.toNat_ofNat, Nat.mod_eq_of_lt (by rw [aCE h]; omega), Nat.mod_eq_of_lt (by omega), Nat.mod_eq_of_lt (by omega)]
    rw [h3]
    have h4 : (BitVec.ofNat 64 (2 ^ 60) ||| BitVec.ofNat 64 r) &&& ~~~ BitVec.ofNat 64 (2 ^ 60) = BitVec.ofNat 64 r := by
      apply BitVec.eq_of_getLsbD_eq
      intro i hi
      rw [BitVec.getLsbD_and, BitVec.getLsbD_or, BitVec.getLsbD_not, BitVec.getLsbD_ofNat, BitVec.getLsbD_ofNat, Nat.testBit_two_pow]
      by_cases e : 60 = i
      · subst e
        have : r.testBit 60 = false := Nat.testBit_lt_two_pow h
        rw [this]; simp
      · simp [e, hi]
    rw [h4, BitVec.toNat_ofNat, Nat.mod_eq_of_lt (by omega)]
  show IntKind.i64.wrap ((BitVec.ofInt 64 ((1152921504606846976 + r : Nat) : Int) &&& ~~~ BitVec.ofInt 64 1152921504606846976).toNat) = _
  rw [e]
  exact w64 (by omega) (by omega)
theorem aIv {a b : Int} (ha : 0 ≤ a) (ha2 : a < 16) (hb : 0 ≤ b) (hb2 : b ≤ 1099511627776) : orI .i64 (orI .i64 1152921504606846976 (IntKind.i64.wrap (b * 2 ^ min 4 64))) a = 1152921504606846976 + 16 * b + a := by
  obtain ⟨m, rfl⟩ := Int.eq_ofNat_of_zero_le ha
  obtain ⟨t, rfl⟩ := Int.eq_ofNat_of_zero_le hb
  have e1 : IntKind.i64.wrap ((t : Int) * 2 ^ min 4 64) = ((t * 16 : Nat) : Int) := by
    rw [show (2 : Int) ^ min 4 64 = 16 from by decide, show (t : Int) * 16 = ((t * 16 : Nat) : Int) from by simp]
    exact w64 (by omega) (by omega)
  have hlt : t * 16 < 2 ^ 60 := by omega
  have o1 : (2 ^ 60 * 1 ||| t * 16) = 2 ^ 60 + t * 16 := by rw [aCE hlt]
  have e2 : orI .i64 1152921504606846976 ((t * 16 : Nat) : Int) = ((2 ^ 60 + t * 16 : Nat) : Int) := by
    have := aDk (a := 2 ^ 60 * 1) (b := t * 16) (by rw [o1]; omega) (by omega) (by omega)
    rw [o1] at this
    exact this
  have o2 : (2 ^ 60 + t * 16 ||| m) = 2 ^ 60 + t * 16 + m := by
    have : 2 ^ 60 + t * 16 = 2 ^ 4 * (2 ^ 56 + t) := by omega
    rw [this, aCE (by omega)]
  rw [e1, e2, aDk (by rw [o2]; omega) (by omega) (by omega), o2]
  omega
def decP (w : List Int) : Nd := ⟨andI .i64 (w.getD 0 0) 15, (wF .i64 (w.getD 0 0) 1152921504606846976).fdiv (2 ^ min 4 64), w.getD 1 0, w.getD 2 0, lJ w 0⟩
theorem aIw {n : Nd} (h : n.ok) : decP (fV n) = n := by
  unfold decP
  have hs : lJ (fV n) 0 = n.slots := by
    unfold lJ
    rw [zW h, if_pos (by decide)]
    have := h.2.2.2.2.2.2.1
    rw [show (0 : Int).toNat + 3 = 3 from rfl, List.take_of_length_le (by simp [fV]; omega), aCC h]
  have h5 := h.1
  have h6 := h.2.1
  have h7 := h.2.2.1
  have h8 := h.2.2.2.1
  have e1 : (fV n).getD 1 0 = n.next := rfl
  have e2 : (fV n).getD 2 0 = n.low := rfl
  obtain ⟨m, hm⟩ := Int.eq_ofNat_of_zero_le h5
  obtain ⟨t, ht⟩ := Int.eq_ofNat_of_zero_le h7
  have e0 : (fV n).getD 0 0 = ((1152921504606846976 + (16 * t + m) : Nat) : Int) := by
    show 1152921504606846976 + 16 * n.turn + n.level = _
    omega
  have a1 : andI .i64 ((1152921504606846976 + (16 * t + m) : Nat) : Int) 15 = (m : Int) := by
    have := aKQ (a := 1152921504606846976 + (16 * t + m)) (b := 15) (by omega) (by omega)
    rw [show (15 : Nat) = 2 ^ 4 - 1 from rfl, Nat.and_two_pow_sub_one_eq_mod] at this
    refine this.trans ?_
    omega
  rw [hs, e0, e1, e2, a1, aIu (by omega), show (2 : Int) ^ min 4 64 = 16 from by decide, Int.fdiv_eq_ediv_of_nonneg _ (by decide)]
  cases n
  simp only at *
  simp only [Nd.mk.injEq, and_true]
  exact ⟨by omega, by omega⟩
theorem aKR (w : List Int) : nQ decP w = aCD w := aJP (fun n h => aIw h) (fun n h => aIs h) w
theorem aEv (w : List Int) (b : Int) : roomy (lJ w b).length := by
  unfold lJ
  split
  · unfold upTo
    have := (List.takeWhile_sublist (l := (w.drop (b.toNat + 3)).take 13) fun x => !lt1 x).length_le
    rw [List.length_take] at this
    unfold roomy; omega
  · unfold roomy; simp
end Lam
namespace Lam
open Go
def aLC (a b : Int) : Int := xorI .u32 a b
def aLD (a b : Int) : Int := andI .u32 a b
def bitS (c : Int) : Int := aLC (c.fdiv (2 ^ min (Int.toNat 1) 32)) (aLD 3988292384 (IntKind.u32.wrap (0 - aLD c 1)))
def bitN : Nat → Int → Int
  | 0, c => c
  | n + 1, c => bitS (bitN n c)
def tabE (i : Nat) : Int := bitN 8 (IntKind.u32.wrap i)
def tabL : List Int := (List.range 256).map tabE
def aLE (t : List Int) (c b : Int) : Int := aLC (c.fdiv (2 ^ min (Int.toNat 8) 32)) (t.getD (xorI .u8 (IntKind.u8.wrap c) b).toNat 0)
def aMV (w : Int) (k : Nat) : Int := IntKind.u8.wrap ((IntKind.u64.wrap w).fdiv (2 ^ min (Int.toNat (56 - 8 * k)) 64))
def aEF (t : List Int) (w : Int) : Nat → Int → Int
  | 0, c => c
  | k + 1, c => aLE t (aEF t w k c) (aMV w k)
def aIx (t : List Int) (c w : Int) : Int := aEF t w 8 c
def sumC (l : List Int) : Int := l.foldl (aIx tabL) 4294967295
def aAv (l : List Int) : Int := IntKind.i64.wrap (notI .u32 (sumC l))
theorem aKS : tabL.length = 256 := by simp [tabL]
/-! ### As naturals -/
/-! ### As the reference has it -/
end Lam
namespace Lam
open Go
def pv (p : bF) : Nat := p.foldl (fun a b => a * 256 + b.toNat) 0
def pw (p : bF) : Nat := pv p * 256 ^ (7 - p.length)
def nR (s : bF) (k : Nat) : bF := (s.drop (7 * k)).take 7
def gR (s : bF) : Nat := (s.length + 6) / 7
def keyW (s : bF) : List Int := (List.range (gR s)).map fun k => (pw (nR s k) : Int)

theorem aGG (x b m : Nat) (hb : b < 256) : x * 2 ^ (m + 8) ||| b * 2 ^ m = (x * 256 + b) * 2 ^ m := by
  have e1 : x * 2 ^ (m + 8) = (x <<< 8) <<< m := by rw [Nat.shiftLeft_eq, Nat.shiftLeft_eq, Nat.pow_add, Nat.mul_assoc, Nat.mul_comm (2 ^ m)]
  have e2 : b * 2 ^ m = b <<< m := by rw [Nat.shiftLeft_eq]
  have e3 : (x * 256 + b) * 2 ^ m = (x <<< 8 + b) <<< m := by rw [Nat.shiftLeft_eq, Nat.shiftLeft_eq]
  rw [e1, e2, e3, ← Nat.shiftLeft_or_distrib, Nat.shiftLeft_add_eq_or_of_lt (by omega)]

theorem aHo (p : bF) (b : UInt8) : pv (p ++ [b]) = pv p * 256 + b.toNat := by simp [pv]
theorem aIy : ∀ (p : bF), pv p < 256 ^ p.length := by
  intro p
  have key : ∀ (p : bF) (a n : Nat), a < 256 ^ n → p.foldl (fun a b => a * 256 + b.toNat) a < 256 ^ (n + p.length) := by
    intro p
    induction p with
    | nil => intro a n h; simpa using h
    | cons b r ih =>
      intro a n h
      have hb : b.toNat < 256 := b.toNat_lt
      have := ih (a * 256 + b.toNat) (n + 1) (by rw [Nat.pow_succ]; omega)
      simpa [Nat.add_assoc, Nat.add_comm 1] using this
  have := key p 0 0 (by simp)
  simpa [pv] using this

theorem aMf (p : bF) {j : Nat} (hp : p.length ≤ 7) (hj : j < p.length) :
    orI .i64 ((pv (p.take j) * 256 ^ (7 - j) : Nat) : Int) (IntKind.i64.wrap (IntKind.i64.wrap ((p.getD j 0).toNat : Int) * 2 ^ min (IntKind.i64.wrap (8 * IntKind.i64.wrap (6 - (j : Int)))).toNat 64)) = ((pv (p.take (j + 1)) * 256 ^ (7 - (j + 1)) : Nat) : Int) := by
  have hb : (p.getD j 0).toNat < 256 := (p.getD j 0).toNat_lt
  have hx : pv (p.take j) < 256 ^ j := by have := aIy (p.take j); rwa [List.length_take, Nat.min_eq_left (by omega)] at this
  rw [iC p j 0 hj, aHo]
  generalize (p.getD j 0).toNat = b at *
  generalize pv (p.take j) = x at *
  have e1 : IntKind.i64.wrap (6 - (j : Int)) = ((6 - j : Nat) : Int) := by rw [w64 (by omega) (by omega)]; omega
  have e2 : IntKind.i64.wrap (8 * ((6 - j : Nat) : Int)) = ((8 * (6 - j) : Nat) : Int) := by rw [w64 (by omega) (by omega)]; omega
  have e3 : IntKind.i64.wrap ((b : Nat) : Int) = (b : Int) := w64 (by omega) (by omega)
  have hm : 8 * (6 - j) ≤ 48 := by omega
  have e4 : (256 : Nat) ^ (7 - j) = 2 ^ (8 * (6 - j) + 8) := by rw [show (256 : Nat) = 2 ^ 8 from rfl, ← Nat.pow_mul]; congr 1; omega
  have e5 : (256 : Nat) ^ (7 - (j + 1)) = 2 ^ (8 * (6 - j)) := by rw [show (256 : Nat) = 2 ^ 8 from rfl, ← Nat.pow_mul]; congr 1; omega
  rw [e1, e2, e3, Int.toNat_natCast, Nat.min_eq_left (by omega), e4, e5]
  have hpm : (2 : Nat) ^ (8 * (6 - j)) ≤ 2 ^ 48 := Nat.pow_le_pow_right (by omega) hm
  have hbm : b * 2 ^ (8 * (6 - j)) < 2 ^ 63 := by
    have : b * 2 ^ (8 * (6 - j)) ≤ 255 * 2 ^ 48 := Nat.mul_le_mul (by omega) hpm
    omega
  have ec : ((b : Int) * 2 ^ (8 * (6 - j))) = ((b * 2 ^ (8 * (6 - j)) : Nat) : Int) := by push_cast; rfl
  rw [ec, w64 (by omega) (by omega)]
  have hor := aGG x b (8 * (6 - j)) hb
  have hall : (x * 256 + b) * 2 ^ (8 * (6 - j)) < 2 ^ 63 := by
    have h1 : x * 256 + b < 256 ^ (j + 1) := by rw [Nat.pow_succ]; omega
    have h2 : (256 : Nat) ^ (j + 1) * 2 ^ (8 * (6 - j)) = 2 ^ 56 := by
      rw [show (256 : Nat) = 2 ^ 8 from rfl, ← Nat.pow_mul, ← Nat.pow_add]; congr 1; omega
    have h3 : (x * 256 + b) * 2 ^ (8 * (6 - j)) ≤ 256 ^ (j + 1) * 2 ^ (8 * (6 - j)) := Nat.mul_le_mul_right _ (by omega)
    omega
  have hle : x * 2 ^ (8 * (6 - j) + 8) ≤ x * 2 ^ (8 * (6 - j) + 8) ||| b * 2 ^ (8 * (6 - j)) := Nat.left_le_or
  rw [aDk (by rw [hor]; exact hall) (by omega) hbm, hor]

theorem aIz (s : bF) {k : Nat} (hk : k < gR s) : (keyW s).getD k 0 = (pw (nR s k) : Int) := by
  simp [keyW, List.getD_eq_getElem?_getD, hk]

def qC (w : Int) (i : Nat) : Int := IntKind.u8.wrap (w.fdiv (2 ^ (8 * (6 - i))))
def qD (w : Int) : List Int := (List.range 7).map (qC w)
def iW (l : List Int) : List Int := l.flatMap qD
def wMay (w : Int) : Bool := decide (0 ≤ w) && decide (w < 72057594037927936)
def lenT (n : Int) : Int := IntKind.i64.wrap (IntKind.i64.wrap (n.tdiv 7) + (if n.tmod 7 < 1 then n.tmod 7 else 1))
def mO (l : List Int) (n : Int) : Bool := !decide (n < 0) && decide ((l.length : Int) = lenT n) && l.all wMay && ((iW l).drop n.toNat).all (fun b => decide (b = 0))
def uP (l : List Int) (n : Int) : bF := ((iW l).take n.toNat).map fun b => UInt8.ofNat b.toNat
theorem aFC (m : Nat) (h : (m : Int) < 9223372036854775808) : lenT m = ((m + 6) / 7 : Nat) := by
  unfold lenT
  have e1 : (m : Int).tdiv 7 = ((m / 7 : Nat) : Int) := rfl
  have e2 : (m : Int).tmod 7 = ((m % 7 : Nat) : Int) := rfl
  rw [e1, e2, w64 (n := ((m / 7 : Nat) : Int)) (by omega) (by omega)]
  split
  · rw [w64 (by omega) (by omega)]; omega
  · rw [w64 (by omega) (by omega)]; omega

theorem aJQ (l : List Int) : (iW l).length = 7 * l.length := by
  induction l with
  | nil => rfl
  | cons w r ih => simp only [iW, List.flatMap_cons, List.length_append, List.length_cons] at ih ⊢; rw [ih]; simp [qD]; omega
theorem aGH (w : Int) (i : Nat) : 0 ≤ qC w i ∧ qC w i < 256 := aFz _

/-! ### Words and bytes -/
theorem aEb (p q : bF) : pv (p ++ q) = pv p * 256 ^ q.length + pv q := by
  have key : ∀ (q : bF) (a : Nat), q.foldl (fun a b => a * 256 + b.toNat) a = a * 256 ^ q.length + pv q := by
    intro q
    induction q with
    | nil => intro a; simp [pv]
    | cons b r ih =>
      intro a
      have h1 := ih (a * 256 + b.toNat)
      have h2 := ih b.toNat
      have h3 : pv (b :: r) = r.foldl (fun a b => a * 256 + b.toNat) b.toNat := by simp [pv]
      rw [h3, h2, List.foldl_cons, h1, List.length_cons, Nat.pow_succ, Nat.add_mul]
      rw [Nat.mul_assoc a 256, Nat.mul_comm 256]
      omega
  have := key q (pv p)
  rw [← this]
  simp [pv]

theorem aKT (n : Nat) : pv (List.replicate n 0) = 0 := by
  induction n with
  | zero => rfl
  | succ n ih => simpa [pv, List.replicate_succ] using ih

def padB (p : bF) : bF := p ++ List.replicate (7 - p.length) 0
theorem aJR (p : bF) : pw p = pv (padB p) := by
  unfold pw padB
  rw [aEb, aKT, List.length_replicate, Nat.add_zero]
theorem aFD {p : bF} (h : p.length ≤ 7) : (padB p).length = 7 := by simp [padB]; omega

theorem aMW (q : bF) {i : Nat} (hi : i < q.length) : pv q / 256 ^ (q.length - 1 - i) % 256 = (q.getD i 0).toNat := by
  have e : q = q.take (i + 1) ++ q.drop (i + 1) := (List.take_append_drop _ _).symm
  have hd : (q.drop (i + 1)).length = q.length - 1 - i := by simp; omega
  have hlt := aIy (q.drop (i + 1))
  have e2 : pv q = pv (q.take (i + 1)) * 256 ^ (q.length - 1 - i) + pv (q.drop (i + 1)) := by
    conv => lhs; rw [e]
    rw [aEb, hd]
  rw [hd] at hlt
  have hpos : 0 < 256 ^ (q.length - 1 - i) := Nat.pow_pos (by omega)
  rw [e2, Nat.mul_comm, Nat.mul_add_div hpos, Nat.div_eq_of_lt hlt, Nat.add_zero, iC q i 0 hi, aHo]
  have := (q.getD i 0).toNat_lt
  omega

theorem aJS (n i : Nat) : qC n i = ((n / 256 ^ (6 - i) % 256 : Nat) : Int) := by
  unfold qC
  have e : (2 : Int) ^ (8 * (6 - i)) = ((256 ^ (6 - i) : Nat) : Int) := by
    rw [show (256 : Nat) = 2 ^ 8 from rfl, ← Nat.pow_mul]; push_cast; rfl
  rw [e]
  have e2 : (n : Int).fdiv ((256 ^ (6 - i) : Nat) : Int) = ((n / 256 ^ (6 - i) : Nat) : Int) := by
    rw [Int.fdiv_eq_ediv_of_nonneg _ (Int.natCast_nonneg _)]; exact (Int.natCast_ediv _ _).symm
  rw [e2]
  simp [IntKind.wrap, IntKind.bits, IntKind.signed]

def mP (p : bF) : List Int := p.map fun b => (b.toNat : Int)
theorem aEc (p : bF) : (mP p).length = p.length := by simp [mP]

theorem aJT {q : bF} (h : q.length = 7) : qD (pv q : Nat) = mP q := by
  apply List.ext_getElem
  · simp [qD, mP, h]
  intro i h1 h2
  have hi : i < q.length := by simpa [mP] using h2
  simp only [qD, mP, List.getElem_map, List.getElem_range]
  rw [aJS]
  have := aMW q hi
  rw [h] at this
  rw [show 6 - i = 7 - 1 - i by omega, this, List.getD_eq_getElem?_getD, List.getElem?_eq_getElem hi]
  rfl

theorem aMX {q : bF} (h : q.length = 7) : pv q < 72057594037927936 := by have := aIy q; rw [h] at this; exact this

theorem aJU {p q : bF} (h : mP p = mP q) : p = q := by
  apply List.ext_getElem
  · have := congrArg List.length h; simpa [mP] using this
  intro i h1 h2
  have := congrArg (fun l => l.getD i 0) h
  simp [mP, List.getD_eq_getElem?_getD, h1, h2] at this
  exact UInt8.toNat_inj.1 (Int.natCast_inj.1 this)

theorem aGI {l : List Int} : ∀ b ∈ iW l, 0 ≤ b ∧ b < 256 := by
  intro b hb
  simp only [iW, List.mem_flatMap, qD, List.mem_map] at hb
  obtain ⟨w, _, i, _, rfl⟩ := hb
  exact aGH w i

theorem aIA {l : List Int} {n : Nat} : mP (uP l n) = (iW l).take n := by
  unfold mP uP
  rw [List.map_map, Int.toNat_natCast]
  conv => rhs; rw [← List.map_id ((iW l).take n)]
  apply List.map_congr_left
  intro b hb
  obtain ⟨h1, h2⟩ := aGI b (List.mem_of_mem_take hb)
  simp only [Function.comp, id]
  rw [UInt8.toNat_ofNat', Nat.mod_eq_of_lt (by omega)]
  omega

/-! ### A text's words -/
theorem aIB (s : bF) (k : Nat) : (nR s k).length ≤ 7 := by unfold nR; simp; omega
theorem tX (s : bF) : (keyW s).length = gR s := by simp [keyW]
theorem aKU (s : bF) : (keyW s).all wMay = true := by
  rw [List.all_eq_true]
  intro w hw
  simp only [keyW, List.mem_map] at hw
  obtain ⟨k, _, rfl⟩ := hw
  rw [aJR]
  have := aMX (aFD (aIB s k))
  simp [wMay]; omega

theorem aJV {s : bF} (h : s ≠ []) : keyW s = (pw (s.take 7) : Int) :: keyW (s.drop 7) := by
  have hp : 0 < s.length := List.length_pos_iff.2 h
  apply List.ext_getElem
  · simp [keyW, gR]; omega
  intro i h1 h2
  simp only [keyW, List.getElem_map, List.getElem_range]
  cases i with
  | zero => simp [nR]
  | succ i =>
    simp only [List.getElem_cons_succ, List.getElem_map, List.getElem_range, nR, List.drop_drop]
    rw [show 7 * (i + 1) = 7 + 7 * i by omega]

theorem aAS : ∀ (n : Nat) (s : bF), s.length ≤ n → iW (keyW s) = mP s ++ List.replicate (7 * gR s - s.length) 0
  | n, [], _ => rfl
  | 0, b :: r, h => by simp at h
  | n + 1, b :: r, h => by
    rw [aJV (by simp)]
    generalize hs : b :: r = s at *
    have hp : 0 < s.length := by rw [← hs]; simp
    have e1 : ∀ (x : Int) (l : List Int), iW (x :: l) = qD x ++ iW l := fun x l => by simp [iW]
    have htl : (s.take 7).length ≤ 7 := by simp; omega
    rw [e1, aJR, aJT (aFD htl), aAS n (s.drop 7) (by simp; omega)]
    unfold padB
    simp only [mP, List.map_append, List.append_assoc, List.map_replicate, List.length_take, List.length_drop]
    rcases Nat.lt_or_ge s.length 7 with h7 | h7
    · have h1 : s.take 7 = s := List.take_of_length_le (by omega)
      have h2 : s.drop 7 = [] := List.drop_eq_nil_of_le (by omega)
      rw [h1, h2]
      have h3 : gR s = 1 := by unfold gR; omega
      rw [h3]
      simp [gR, Nat.min_eq_right (Nat.le_of_lt h7)]
    · have h3 : gR (s.drop 7) = gR s - 1 := by unfold gR; simp; omega
      have h4 : 1 ≤ gR s := by unfold gR; omega
      rw [Nat.min_eq_left h7, h3]
      have h5 : 7 * (gR s - 1) - (s.length - 7) = 7 * gR s - s.length := by omega
      rw [h5]
      simp only [List.map_take, List.map_drop, Nat.sub_self, List.replicate_zero, List.nil_append]
      rw [← List.append_assoc, List.take_append_drop]

theorem aIC (s : bF) (h : s.length < 9223372036854775808) : mO (keyW s) s.length = true ∧ uP (keyW s) s.length = s := by
  have hf := aAS s.length s (Nat.le_refl _)
  have ht : (iW (keyW s)).take s.length = mP s := by rw [hf, List.take_left' (aEc s)]
  refine ⟨?_, aJU (by rw [aIA, ht])⟩
  unfold mO
  rw [aKU, tX, aFC _ (by omega), Int.toNat_natCast, hf, List.drop_left' (aEc s)]
  have : ¬ ((s.length : Int) < 0) := by omega
  simp only [this, decide_false, Bool.not_false, Bool.true_and, gR, decide_true, Bool.and_true]
  rw [List.all_eq_true]
  intro b hb
  rw [List.eq_of_mem_replicate hb]; rfl

end Lam
namespace Lam
open Go
structure Rc where
  kind : Int
  key : bF
  val : bF
  child : Int
  deriving DecidableEq
def Rc.V (x : Rc) : AV := .agg [.int .i64 x.kind, .str x.key, .str x.val, .int .i64 x.child]
attribute [go_sem] Rc.V
def Rc.ok (x : Rc) : Prop := (x.kind = 1 ∧ x.key ≠ [] ∧ x.key.length ≤ 21 ∧ x.val.length ≤ 21 ∧ x.child = 0) ∨ (x.kind = 2 ∧ x.key.length ≤ 21 ∧ x.val = [] ∧ 0 < x.child ∧ x.child < 256)
def keyB (s : bF) : Bool := decide (s ≠ []) && decide ((s.length : Int) ≤ 21)
def recB (x : Rc) : Bool := (decide (x.kind = 1) && (keyB x.key && decide ((x.val.length : Int) ≤ 21) && decide (x.child = 0))) || (decide (x.kind = 2) && ((decide (x.key = []) || keyB x.key) && decide (x.val = []) && decide (0 < x.child) && decide (x.child < 256)))
theorem wH {x : Rc} : recB x = true ↔ x.ok := by
  unfold recB Rc.ok keyB
  simp only [Bool.or_eq_true, Bool.and_eq_true, decide_eq_true_eq]
  constructor
  · rintro (⟨h1, ⟨⟨h2, h3⟩, h4⟩, h5⟩ | ⟨h1, ⟨⟨h2, h3⟩, h4⟩, h5⟩)
    · exact .inl ⟨h1, h2, by omega, by omega, h5⟩
    · refine .inr ⟨h1, ?_, h3, h4, h5⟩
      rcases h2 with h | h
      · rw [h]; exact Nat.zero_le _
      · omega
  · rintro (⟨h1, h2, h3, h4, h5⟩ | ⟨h1, h2, h3, h4, h5⟩)
    · exact .inl ⟨h1, ⟨⟨h2, by omega⟩, by omega⟩, h5⟩
    · refine .inr ⟨h1, ⟨⟨?_, h3⟩, h4⟩, h5⟩
      by_cases e : x.key = []
      · exact .inl e
      · exact .inr ⟨e, by omega⟩
theorem Rc.ok.key {x : Rc} (h : x.ok) : x.key.length ≤ 21 := by rcases h with h | h; exact h.2.2.1; exact h.2.1
theorem Rc.ok.val {x : Rc} (h : x.ok) : x.val.length ≤ 21 := by
  rcases h with h | h
  · exact h.2.2.2.1
  · rw [h.2.2.1]; exact Nat.zero_le _
def jB (s : bF) : List Int := keyW s ++ List.replicate (3 - (keyW s).length) 0
theorem nS {s : bF} (h : s.length ≤ 21) : (jB s).length = 3 := by
  have h1 : (keyW s).length = gR s := tX s
  have h2 : gR s = (s.length + 6) / 7 := rfl
  simp [jB]; omega
def uQ (x : Rc) : List Int := jB x.key ++ ((if x.kind = 2 then [x.child, 0, 0] else jB x.val) ++ List.replicate 7 0)
def lZ (x : Rc) : Int := 32 * (x.key.length : Int) + (x.val.length : Int)
def iA (x : Rc) : List Int := x.kind :: lZ x :: aAv (x.kind :: lZ x :: uQ x) :: uQ x
theorem aKV {x : Rc} (h : x.ok) : (uQ x).length = 13 := by
  have h1 := nS h.key
  have h2 := nS h.val
  unfold uQ
  split <;> simp [h1, h2]
theorem aBz {x : Rc} (h : x.ok) : (iA x).length = 16 := by
  have := aKV h
  simp [iA, this]
theorem aEd (s : bF) (h : s.length ≤ 21) : mO ((jB s).take ((s.length + 6) / 7)) s.length = true ∧ uP ((jB s).take ((s.length + 6) / 7)) s.length = s := by
  have h1 : (keyW s).length = (s.length + 6) / 7 := tX s
  have : (jB s).take ((s.length + 6) / 7) = keyW s := by
    unfold jB; exact List.take_left' h1
  rw [this]
  exact aIC s (by omega)
def txtB (w : List Int) (at_ : Nat) (n : Int) : Bool := decide (0 ≤ n) && decide (n ≤ 21) && mO ((w.drop at_).take ((n.toNat + 6) / 7)) n
def txtS (w : List Int) (at_ : Nat) (n : Int) : bF := if txtB w at_ n = true then uP ((w.drop at_).take ((n.toNat + 6) / 7)) n else []
theorem aFE {x : Rc} (h : x.ok) : txtB (iA x) 3 (x.key.length : Int) = true ∧ txtS (iA x) 3 (x.key.length : Int) = x.key := by
  have hk := h.key
  have h3 := nS hk
  have e : ((iA x).drop 3).take ((x.key.length + 6) / 7) = (jB x.key).take ((x.key.length + 6) / 7) := by
    show (jB x.key ++ _).take _ = _
    exact List.take_append_of_le_length (by rw [h3]; omega)
  have ht := aEd x.key hk
  have hb : txtB (iA x) 3 (x.key.length : Int) = true := by
    unfold txtB
    rw [Int.toNat_natCast, e, ht.1, decide_eq_true (by omega), decide_eq_true (by omega)]; rfl
  refine ⟨hb, ?_⟩
  unfold txtS
  rw [if_pos hb, Int.toNat_natCast, e]; exact ht.2
theorem aFF {x : Rc} (h : x.ok) (h1 : x.kind = 1) : txtB (iA x) 6 (x.val.length : Int) = true ∧ txtS (iA x) 6 (x.val.length : Int) = x.val := by
  have hk := nS h.key
  have hv := h.val
  have h3 := nS hv
  have e : ((iA x).drop 6).take ((x.val.length + 6) / 7) = (jB x.val).take ((x.val.length + 6) / 7) := by
    have : (iA x).drop 6 = jB x.val ++ List.replicate 7 0 := by
      show (jB x.key ++ _).drop 3 = _
      rw [List.drop_left' hk, if_neg (by rw [h1]; decide)]
    rw [this]
    exact List.take_append_of_le_length (by rw [h3]; omega)
  have ht := aEd x.val hv
  have hb : txtB (iA x) 6 (x.val.length : Int) = true := by
    unfold txtB
    rw [Int.toNat_natCast, e, ht.1, decide_eq_true (by omega), decide_eq_true (by omega)]; rfl
  refine ⟨hb, ?_⟩
  unfold txtS
  rw [if_pos hb, Int.toNat_natCast, e]; exact ht.2
theorem aID {x : Rc} (h : x.ok) (h2 : x.kind = 2) : (iA x).getD 6 0 = x.child := by
  have hk := nS h.key
  show (jB x.key ++ _).getD 3 0 = _
  rw [aAB _ _ _ _ (by omega), hk, if_pos h2]; rfl
def decC (w : List Int) : Rc := ⟨w.getD 0 0, txtS w 3 (w.getD 1 0 / 32), if w.getD 0 0 = 1 then txtS w 6 (w.getD 1 0 % 32) else [], if w.getD 0 0 = 2 then w.getD 6 0 else 0⟩
theorem zX {x : Rc} (h : x.ok) : lZ x / 32 = x.key.length ∧ lZ x % 32 = x.val.length ∧ 0 ≤ lZ x ∧ lZ x ≤ 693 := by
  have := h.key; have := h.val
  unfold lZ; omega
theorem aEe {x : Rc} (h : x.ok) : decC (iA x) = x := by
  have e0 : (iA x).getD 0 0 = x.kind := rfl
  have e1 : (iA x).getD 1 0 = lZ x := rfl
  have hl := zX h
  unfold decC
  rw [e0, e1, hl.1, hl.2.1, (aFE h).2]
  have h' := h
  rcases h with ⟨h1, _, _, _, h5⟩ | ⟨h1, _, h3, _, _⟩
  · rw [if_pos h1, if_neg (by rw [h1]; decide), (aFF h' h1).2]
    cases x; simp only at *; simp only [h5]
  · rw [if_neg (by rw [h1]; decide), if_pos h1, aID h' h1]
    cases x; simp only at *; simp only [h3]
def oA (d : List Int → Rc) (w : List Int) : Option Rc := if (recB (d w) && decide (iA (d w) = w)) = true then some (d w) else none
theorem xP {d : List Int → Rc} {w : List Int} {n : Rc} (h : oA d w = some n) : n.ok ∧ iA n = w := by
  unfold oA at h
  split at h
  · rename_i hc
    rw [Bool.and_eq_true, decide_eq_true_eq] at hc
    cases h
    exact ⟨wH.1 hc.1, hc.2⟩
  · cases h
theorem aFG {d : List Int → Rc} (hd : ∀ n, n.ok → d (iA n) = n) {n : Rc} (h : n.ok) : oA d (iA n) = some n := by
  unfold oA
  rw [hd n h, wH.2 h, decide_eq_true rfl]; rfl
theorem aKW {d d' : List Int → Rc} (hd : ∀ n, n.ok → d (iA n) = n) (hd' : ∀ n, n.ok → d' (iA n) = n) (w : List Int) : oA d w = oA d' w := by
  cases h : oA d w with
  | some n =>
    obtain ⟨h1, rfl⟩ := xP h
    rw [aFG hd' h1]
  | none =>
    cases h' : oA d' w with
    | none => rfl
    | some n =>
      obtain ⟨h1, rfl⟩ := xP h'
      rw [aFG hd h1] at h; cases h
def uR (w : List Int) : Option Rc := oA decC w
theorem aCF {w : List Int} {x : Rc} (h : uR w = some x) : x.ok ∧ iA x = w := xP h
theorem aCG {w : List Int} (h : ∀ x : Rc, x.ok → iA x ≠ w) : uR w = none := by
  cases e : uR w with
  | none => rfl
  | some x => exact absurd (aCF e).2 (h x (aCF e).1)
def jZ : Rc := ⟨0, [], [], 0⟩
end Lam
namespace Lam
open Go
def eO (w : List Int) (b : Int) : Option Nd := if (decide (b < 0) || decide (((w.length / 16 : Nat) : Int) ≤ b)) = true then none else aCD (kT w b.toNat)
def recO (w : List Int) (b : Int) : Option Rc := if (decide (b < 0) || decide (((w.length / 16 : Nat) : Int) ≤ b)) = true then none else uR (kT w b.toNat)
theorem aCH {w : List Int} {b : Int} {n : Nd} (h : eO w b = some n) : n.ok ∧ 0 ≤ b ∧ b < ((w.length / 16 : Nat) : Int) ∧ aCD (kT w b.toNat) = some n := by
  unfold eO at h
  split at h
  · cases h
  · rename_i hb
    simp only [Bool.or_eq_true, decide_eq_true_eq, not_or] at hb
    exact ⟨(aIt h).1, by omega, by omega, h⟩
def wI (w : List Int) : Nat → Int → List Int → Option (List Int)
  | 0, _, _ => none
  | m + 1, b, out => if b = 0 then some out else match eO w b with
    | none => none
    | some n => if n.level = 0 ∧ b ∉ out then wI w m n.next (out ++ [b]) else none
theorem aMY {N : Nat} : ∀ {l : List Int}, l.Nodup → (∀ x ∈ l, 0 ≤ x ∧ x < (N : Int)) → l.length ≤ N := by
  intro l hn hx
  have h1 : (l.map Int.toNat).Nodup := by
    unfold List.Nodup at hn ⊢
    rw [List.pairwise_map]
    exact hn.imp_of_mem fun {a b} ha hb hne => by have := hx a ha; have := hx b hb; omega
  have h2 : ∀ x ∈ l.map Int.toNat, x ∈ List.range N := by
    intro x hm
    obtain ⟨y, hy, rfl⟩ := List.mem_map.1 hm
    have := hx y hy
    rw [List.mem_range]; omega
  have := List.Nodup.length_le_of_subset h1 (fun x hx => h2 x hx)
  simpa using this
theorem aAT {w : List Int} : ∀ (m : Nat) (b : Int) (out l : List Int), wI w m b out = some l → out.Nodup → (∀ x ∈ out, 0 ≤ x ∧ x < ((w.length / 16 : Nat) : Int)) →
    l.Nodup ∧ (∀ x ∈ l, 0 ≤ x ∧ x < ((w.length / 16 : Nat) : Int)) ∧ ∃ r, l = out ++ r ∧ (b ≠ 0 → ∃ r', r = b :: r') ∧ ∀ x ∈ r, ∃ n, eO w x = some n ∧ n.level = 0
  | 0, b, out, l, h, _, _ => by cases h
  | m + 1, b, out, l, h, hn, hr => by
    simp only [wI] at h
    split at h
    · rename_i h0
      cases h
      exact ⟨hn, hr, [], by simp, fun h => absurd h0 h, by simp⟩
    · rename_i h0
      cases hnd : eO w b with
      | none => rw [hnd] at h; cases h
      | some n =>
        rw [hnd] at h
        simp only at h
        split at h
        rotate_left
        · cases h
        rename_i hc
        obtain ⟨_, q0, q1, _⟩ := aCH hnd
        have hn' : (out ++ [b]).Nodup := by
          rw [List.nodup_append]
          refine ⟨hn, by simp, fun a ha b' hb' => ?_⟩
          simp only [List.mem_singleton] at hb'
          subst hb'
          rintro rfl
          exact hc.2 ha
        have hr' : ∀ x ∈ out ++ [b], 0 ≤ x ∧ x < ((w.length / 16 : Nat) : Int) := by
          intro x hx
          simp only [List.mem_append, List.mem_singleton] at hx
          rcases hx with hx | rfl
          · exact hr x hx
          · exact ⟨q0, q1⟩
        obtain ⟨g1, g2, r, g3, _, g4⟩ := aAT m _ _ _ h hn' hr'
        refine ⟨g1, g2, b :: r, by rw [g3]; simp, fun _ => ⟨r, rfl⟩, fun x hx => ?_⟩
        rcases List.mem_cons.1 hx with rfl | hx
        · exact ⟨n, hnd, hc.1⟩
        · exact g4 x hx
def zY (hb : Bool) (w : List Int) : Option (List Int) := if hb = true then wI w (w.length / 16 + 1) 1 [] else none
theorem aGJ {hb : Bool} {w l : List Int} (h : zY hb w = some l) : hb = true ∧ l.Nodup ∧ (∀ x ∈ l, 0 ≤ x ∧ x < ((w.length / 16 : Nat) : Int)) ∧ l.length ≤ w.length / 16 ∧ (∃ r, l = 1 :: r) ∧ ∀ x ∈ l, ∃ n, eO w x = some n ∧ n.level = 0 := by
  unfold zY at h
  split at h
  rotate_left
  · cases h
  rename_i hb
  obtain ⟨g1, g2, r, g3, g4, g5⟩ := aAT _ _ _ _ h List.nodup_nil (by simp)
  rw [List.nil_append] at g3
  subst g3
  exact ⟨hb, g1, g2, aMY g1 g2, g4 (by decide), g5⟩
def lowO (w : List Int) (n : Nd) : Option bF := if n.low = 0 then some [] else (recO w n.low).map (·.key)
def wJ (w : List Int) (low : bF) : List Int → Nat → bF → Bool
  | [], _, _ => true
  | s :: r, k, last => match recO w s with
    | none => false
    | some x => decide (x.kind = 1) && !ltB x.key low && (decide (k = 0) || ltB last x.key) && wJ w low r (k + 1) (if ltB last x.key then x.key else last)
def xQ (w : List Int) (i : Nat) (last : bF) (b : Int) : Option bF :=
  match eO w b with
  | none => none
  | some n => match lowO w n with
    | none => none
    | some low => if ((decide (i = 0) && decide (n.low = 0)) || (decide (0 < i) && ltB last low)) && wJ w low (plain n.slots) 0 low then some low else none
def pL (w : List Int) : List Int → Nat → bF → Bool
  | [], _, _ => true
  | b :: r, i, last => match xQ w i last b with
    | none => false
    | some low => pL w r (i + 1) low
def xR (hb : Bool) (w : List Int) : Option (List Int) :=
  match zY hb w with
  | none => none
  | some l => if pL w l 0 [] = true then some l else none
end Lam
namespace Lam
open Go
theorem tY : ∀ a : bF, ltB a a = false
  | [] => rfl
  | a :: x => by simp [ltB, tY x]
theorem kA : ∀ {a b c : bF}, ltB a b = true → ltB b c = true → ltB a c = true
  | _, [], _, h, _ => by simp [ltB] at h
  | _, _ :: _, [], _, h => by simp [ltB] at h
  | [], _ :: _, _ :: _, _, _ => rfl
  | a :: x, b :: y, c :: z, h1, h2 => by
    simp only [ltB, Bool.or_eq_true, decide_eq_true_eq, Bool.and_eq_true, beq_iff_eq] at h1 h2 ⊢
    rcases h1 with h1 | ⟨rfl, h1⟩
    · rcases h2 with h2 | ⟨rfl, h2⟩
      · exact .inl (UInt8.lt_trans h1 h2)
      · exact .inl h1
    · rcases h2 with h2 | ⟨rfl, h2⟩
      · exact .inl h2
      · exact .inr ⟨rfl, kA h1 h2⟩
theorem wK : ∀ (a b : bF), ltB a b = true ∨ a = b ∨ ltB b a = true
  | [], [] => .inr (.inl rfl)
  | [], _ :: _ => .inl rfl
  | _ :: _, [] => .inr (.inr rfl)
  | a :: x, b :: y => by
    simp only [ltB, Bool.or_eq_true, decide_eq_true_eq, Bool.and_eq_true, beq_iff_eq, List.cons.injEq]
    by_cases hab : a < b
    · exact .inl (.inl hab)
    by_cases hba : b < a
    · exact .inr (.inr (.inl hba))
    have e : a = b := UInt8.le_antisymm (UInt8.not_lt.1 hba) (UInt8.not_lt.1 hab)
    subst e
    rcases wK x y with h | h | h
    · exact .inl (.inr ⟨rfl, h⟩)
    · exact .inr (.inl ⟨rfl, h⟩)
    · exact .inr (.inr (.inr ⟨rfl, h⟩))
def leB (a b : bF) : Prop := ltB b a = false
theorem pM {a b : bF} (h : ltB a b = true) : leB a b := by
  unfold leB
  cases e : ltB b a with
  | false => rfl
  | true => have := kA h e; rw [tY] at this; cases this
theorem xS (a : bF) : leB a a := tY a
theorem rX {a b c : bF} (h1 : leB a b) (h2 : leB b c) : leB a c := by
  unfold leB at *
  cases e : ltB c a with
  | false => rfl
  | true =>
    rcases wK a b with h | rfl | h
    · have := kA e h; rw [h2] at this; cases this
    · rw [h2] at e; cases e
    · rw [h1] at h; cases h
theorem vI {a b : bF} (h : leB a b) (hne : a ≠ b) : ltB a b = true := by
  rcases wK a b with e | e | e
  · exact e
  · exact absurd e hne
  · unfold leB at h; rw [h] at e; cases e
def d0 : RecT := ⟨0, [], [], 0⟩
def fY (l : List RecT) (i j : Nat) : List RecT := (l.set i (l.getD j d0)).set j (l.getD i d0)
theorem mI {l : List RecT} {i j : Nat} : (fY l i j).length = l.length := by simp [fY]
theorem rY {l : List RecT} {i j : Nat} (hi : i < l.length) (hj : j < l.length) (k : Nat) : (fY l i j).getD k d0 = if k = j then l.getD i d0 else if k = i then l.getD j d0 else l.getD k d0 := by
  unfold fY
  simp only [List.getD_eq_getElem?_getD, List.getElem?_set, List.length_set]
  by_cases h1 : j = k
  · subst h1; simp [hj]
  · rw [if_neg h1, if_neg (Ne.symm h1)]
    by_cases h2 : i = k
    · subst h2; simp [hi]
    · rw [if_neg h2, if_neg (Ne.symm h2)]
theorem aIE {l : List RecT} {i j : Nat} (hi : i < l.length) (hj : j < l.length) : (fY l i j).Perm l := by
  have h := @List.set_set_perm _ l i j hi hj
  have e1 : l.getD i d0 = l[i] := by rw [List.getD_eq_getElem?_getD, List.getElem?_eq_getElem hi]; rfl
  have e2 : l.getD j d0 = l[j] := by rw [List.getD_eq_getElem?_getD, List.getElem?_eq_getElem hj]; rfl
  unfold fY
  rw [e1, e2]; exact h
def SegP (a b : Nat) (l l' : List RecT) : Prop := l'.Perm l ∧ (∀ k, (k < a ∨ b ≤ k) → l'.getD k d0 = l.getD k d0) ∧ ∀ k, a ≤ k → k < b → ∃ k', a ≤ k' ∧ k' < b ∧ l'.getD k d0 = l.getD k' d0
theorem SegP.len {a b : Nat} {l l' : List RecT} (h : SegP a b l l') : l'.length = l.length := h.1.length_eq
theorem SegP.refl {a b : Nat} {l : List RecT} : SegP a b l l := ⟨.refl _, fun _ _ => rfl, fun k h1 h2 => ⟨k, h1, h2, rfl⟩⟩
theorem SegP.trans {a b : Nat} {l l' l'' : List RecT} (h : SegP a b l l') (h' : SegP a b l' l'') : SegP a b l l'' :=
  ⟨h'.1.trans h.1, fun k hk => (h'.2.1 k hk).trans (h.2.1 k hk), fun k h1 h2 => by
    obtain ⟨k', q1, q2, e⟩ := h'.2.2 k h1 h2
    obtain ⟨k'', r1, r2, e'⟩ := h.2.2 k' q1 q2
    exact ⟨k'', r1, r2, e.trans e'⟩⟩
theorem SegP.mono {a b a' b' : Nat} {l l' : List RecT} (h : SegP a b l l') (ha : a' ≤ a) (hb : b ≤ b') : SegP a' b' l l' :=
  ⟨h.1, fun k hk => h.2.1 k (by omega), fun k h1 h2 => by
    by_cases hk : a ≤ k ∧ k < b
    · obtain ⟨k', q1, q2, e⟩ := h.2.2 k hk.1 hk.2
      exact ⟨k', by omega, by omega, e⟩
    · exact ⟨k, h1, h2, h.2.1 k (by omega)⟩⟩
theorem SegP.swap {a b : Nat} {l : List RecT} {i j : Nat} (h1 : a ≤ i) (h2 : i < b) (h3 : a ≤ j) (h4 : j < b) (hb : b ≤ l.length) : SegP a b l (fY l i j) := by
  have hi : i < l.length := by omega
  have hj : j < l.length := by omega
  refine ⟨aIE hi hj, fun k hk => ?_, fun k q1 q2 => ?_⟩
  · rw [rY hi hj, if_neg (by omega), if_neg (by omega)]
  · rw [rY hi hj]
    split
    · exact ⟨i, h1, h2, rfl⟩
    · split
      · exact ⟨j, h3, h4, rfl⟩
      · exact ⟨k, q1, q2, rfl⟩
def kyL (l : List RecT) (i : Nat) : bF := (l.getD i d0).key
def SegS (a b : Nat) (l : List RecT) : Prop := ∀ p q, a ≤ p → p < q → q < b → leB (kyL l p) (kyL l q)
def InsS (a j i : Nat) (l : List RecT) : Prop := ∀ p q, a ≤ p → p < q → q < i → q ≠ j → leB (kyL l p) (kyL l q)
theorem InsS.begin {a i : Nat} {l : List RecT} (h : SegS a i l) : InsS a i (i + 1) l := fun p q h1 h2 h3 h4 => h p q h1 h2 (by omega)
theorem iN {l : List RecT} {i j : Nat} (hi : i < l.length) (hj : j < l.length) (k : Nat) : kyL (fY l i j) k = if k = j then kyL l i else if k = i then kyL l j else kyL l k := by
  unfold kyL
  rw [rY hi hj]
  split
  · rfl
  · split <;> rfl
theorem InsS.step {a j i : Nat} {l : List RecT} (h : InsS a j i l) (hj : a < j) (hji : j < i) (hi : i ≤ l.length) (hlt : ltB (kyL l j) (kyL l (j - 1)) = true) : InsS a (j - 1) i (fY l j (j - 1)) := by
  intro p q h1 h2 h3 h4
  have hjl : j < l.length := by omega
  have hjl' : j - 1 < l.length := by omega
  rw [iN hjl hjl', iN hjl hjl']
  rw [if_neg (show ¬ q = j - 1 from h4)]
  by_cases hq : q = j
  · subst hq
    rw [if_pos rfl]
    by_cases hp : p = q - 1
    · rw [if_pos hp]; exact pM hlt
    · rw [if_neg hp, if_neg (by omega)]
      exact h p (q - 1) h1 (by omega) (by omega) (by omega)
  · rw [if_neg hq]
    by_cases hp : p = j - 1
    · rw [if_pos hp]; exact h j q (by omega) (by omega) h3 hq
    · rw [if_neg hp]
      by_cases hp2 : p = j
      · rw [if_pos hp2]; exact h (j - 1) q (by omega) (by omega) h3 hq
      · rw [if_neg hp2]; exact h p q h1 h2 h3 hq
theorem InsS.done {a j i : Nat} {l : List RecT} (h : InsS a j i l) (hj : a ≤ j) (hji : j < i) (he : j = a ∨ leB (kyL l (j - 1)) (kyL l j)) : SegS a i l := by
  intro p q h1 h2 h3
  by_cases hq : q = j
  · subst hq
    rcases he with rfl | he
    · omega
    · by_cases hp : p = q - 1
      · subst hp; exact he
      · exact rX (h p (q - 1) h1 (by omega) (by omega) (by omega)) he
  · exact h p q h1 h2 h3 hq
theorem SegS.one {a b : Nat} {l : List RecT} (h : b ≤ a + 1) : SegS a b l := fun p q h1 h2 h3 => by omega
theorem SegP.same {a b : Nat} {l l' : List RecT} (h : SegP a b l l') {k : Nat} (hk : k < a ∨ b ≤ k) : kyL l' k = kyL l k := by unfold kyL; rw [h.2.1 k hk]
theorem SegP.from {a b : Nat} {l l' : List RecT} (h : SegP a b l l') {k : Nat} (h1 : a ≤ k) (h2 : k < b) : ∃ k', a ≤ k' ∧ k' < b ∧ kyL l' k = kyL l k' := by
  obtain ⟨k', q1, q2, e⟩ := h.2.2 k h1 h2
  exact ⟨k', q1, q2, by unfold kyL; rw [e]⟩
def oM (a m b : Nat) (l : List RecT) : Prop := (∀ k, a ≤ k → k < m → leB (kyL l k) (kyL l m)) ∧ ∀ k, m < k → k < b → leB (kyL l m) (kyL l k)
theorem oM.left {a m b : Nat} {l l' : List RecT} (h : oM a m b l) (s : SegP a m l l') : oM a m b l' := by
  refine ⟨fun k h1 h2 => ?_, fun k h1 h2 => ?_⟩
  · obtain ⟨k', q1, q2, e⟩ := s.from h1 h2
    rw [e, s.same (k := m) (by omega)]; exact h.1 k' q1 q2
  · rw [s.same (k := m) (by omega), s.same (k := k) (by omega)]; exact h.2 k h1 h2
theorem oM.right {a m b : Nat} {l l' : List RecT} (h : oM a m b l) (s : SegP (m + 1) b l l') : oM a m b l' := by
  refine ⟨fun k h1 h2 => ?_, fun k h1 h2 => ?_⟩
  · rw [s.same (k := m) (by omega), s.same (k := k) (by omega)]; exact h.1 k h1 h2
  · obtain ⟨k', q1, q2, e⟩ := s.from (k := k) (by omega) h2
    rw [e, s.same (k := m) (by omega)]; exact h.2 k' (by omega) q2
theorem SegS.keep {a b c d : Nat} {l l' : List RecT} (h : SegS a b l) (s : SegP c d l l') (hd : b ≤ c ∨ d ≤ a) : SegS a b l' := fun p q h1 h2 h3 => by
  rw [s.same (k := p) (by omega), s.same (k := q) (by omega)]; exact h p q h1 h2 h3
theorem oM.sorted {a m b : Nat} {l : List RecT} (h : oM a m b l) (h1 : SegS a m l) (h2 : SegS (m + 1) b l) : SegS a b l := by
  intro p q p1 p2 p3
  by_cases hq : q < m
  · exact h1 p q p1 p2 hq
  · by_cases hqm : q = m
    · subst hqm; exact h.1 p p1 p2
    · by_cases hp : p < m
      · exact rX (h.1 p p1 hp) (h.2 q (by omega) p3)
      · by_cases hpm : p = m
        · subst hpm; exact h.2 q (by omega) p3
        · exact h2 p q (by omega) p2 p3
end Lam
namespace Lam
open Go
def recZ (w : List Int) (s : Int) : Rc := (recO w s).getD ⟨0, [], [], 0⟩
def lowZ (w : List Int) (b : Int) : bF := ((eO w b).bind (lowO w)).getD []
def aIF (w : List Int) (b : Int) : Nd := (eO w b).getD ⟨0, 0, 0, 0, []⟩
def ownB (w : List Int) (n : Nd) (x : Rc) : Bool := decide (n.next = 0) || ltB x.key (lowZ w n.next)
def ownL (w : List Int) (n : Nd) : List Rc := ((plain n.slots).map (recZ w)).takeWhile (ownB w n)
def aMZ (x : Rc) : kZ := ⟨x.key, x.val⟩
def ownP (w : List Int) (b : Int) : List kZ := (ownL w (aIF w b)).map aMZ
def allP (w : List Int) (l : List Int) : List kZ := l.flatMap (ownP w)
end Lam
namespace Lam
open Go
def aAw (w : List Int) (b : Int) : Option (Int × bF) := match eO w b with
  | none => none
  | some n => match lowO w n with
    | none => none
    | some l => some (n.level, l)
def wL (w : List Int) (key : bF) (out : Int) (s : Int) : Int := match recO w s with
  | none => out
  | some x => if x.kind = 2 ∧ ltB key x.key = false then x.child else out
def zZ (w : List Int) (key : bF) (n : Nd) : Int := n.slots.foldl (wL w key) 0
def aJW (w : List Int) (key : bF) (n : Nd) : Option Int := match aAw w (zZ w key n) with
  | none => none
  | some (lv, lo) => if zZ w key n = 0 ∨ lv ≠ n.level - 1 ∨ ltB key lo = true then none else some (zZ w key n)
def aAx (w : List Int) (b : Int) (key : bF) (level : Int) (n : Nd) : Option Int := if level < n.level then aJW w key n else some b
def oB (w : List Int) (b : Int) (key : bF) (level : Int) : Option Int := match eO w b with
  | none => none
  | some n => if n.level < level then none else
    if n.next = 0 then aAx w b key level n else match aAw w n.next with
      | none => none
      | some (lv, lo) => if n.next = b ∨ lv ≠ n.level then none else if ltB key lo = false then some n.next else aAx w b key level n
end Lam
namespace Lam
open Go Go.Proofs
def aJX : TyD := (.tup [])
def aJY : TyD := .func
def aHp : TyD := (.int .i64)
def aA : TyD := (.int .i64)
def lT : TyD := .bool
def kU : TyD := (.int .u8)
def bS : TyD := .str
def aAU : TyD := .iface
def aP : TyD := (.slice (.int .i64))
def bY : TyD := (.slice .pend)
def aL : TyD := (.strct [(.slice (.int .i64)), (.slice (.int .i64)), (.slice .pend)])
def bW : TyD := (.strct [(.int .i64), (.int .i64), (.int .i64), (.slice (.int .i64)), .bool])
def aAa : TyD := (.strct [.str, (.int .i64), (.int .i64), (.int .i64), (.strct [(.int .i64), (.int .i64), (.int .i64), (.slice (.int .i64)), .bool]), .str, .bool])
def qE : TyD := (.tup [(.strct [(.slice (.int .i64)), (.slice (.int .i64)), (.slice .pend)]), (.strct [.str, (.int .i64), (.int .i64), (.int .i64), (.strct [(.int .i64), (.int .i64), (.int .i64), (.slice (.int .i64)), .bool]), .str, .bool])])
def cN : TyD := (.strct [(.int .i64), (.int .i64), .bool])
def jG : TyD := (.slice (.val .mem))
def hH : TyD := (.slice (.int .u8))
def bV : TyD := (.slice .pair)
def aG : TyD := (.strct [.str, .str, (.int .i64), (.int .i64), (.int .i64), (.int .i64), (.strct [(.int .i64), (.int .i64), (.int .i64), (.slice (.int .i64)), .bool]), .str, (.slice .pair)])
def dD : TyD := (.int .i64)
def oE : TyD := (.tup [(.strct [.str, .str, (.int .i64), (.int .i64), (.int .i64), (.int .i64), (.strct [(.int .i64), (.int .i64), (.int .i64), (.slice (.int .i64)), .bool]), .str, (.slice .pair)]), (.int .i64)])
def pN : TyD := (.tup [(.strct [(.slice (.int .i64)), (.slice (.int .i64)), (.slice .pend)]), (.strct [.str, .str, (.int .i64), (.int .i64), (.int .i64), (.int .i64), (.strct [(.int .i64), (.int .i64), (.int .i64), (.slice (.int .i64)), .bool]), .str, (.slice .pair)])])
def iL : TyD := (.strct [.str, .str])
def rZ : TyD := (.tup [(.slice (.int .i64)), (.int .i64)])
def oF : TyD := (.tup [(.slice .pair), (.int .i64)])
def oN : TyD := (.tup [(.strct [.str, (.int .i64), (.int .i64), (.int .i64), (.strct [(.int .i64), (.int .i64), (.int .i64), (.slice (.int .i64)), .bool]), .str, .bool]), (.int .i64)])
def qN : TyD := (.tup [(.strct [(.slice (.int .i64)), (.slice (.int .i64)), (.slice .pend)]), (.int .i64)])
def yF : TyD := (.tup [.str, .bool])
def wM : TyD := .func
def kV : TyD := (.map .ib)
def uS : TyD := .func
def sG : TyD := (.arr 8 .fnk)
def yG : TyD := .ptr
def aAV : TyD := (.strct [(.strct [(.slice (.int .i64)), (.slice (.int .i64)), (.slice .pend)]), (.strct [.str, (.int .i64), (.int .i64), (.int .i64), (.strct [(.int .i64), (.int .i64), (.int .i64), (.slice (.int .i64)), .bool]), .str, .bool])])
def qO : TyD := (.tup [(.int .i64), (.int .i64), (.int .i64)])
def qF : TyD := (.tup [(.strct [(.int .i64), (.int .i64), (.int .i64), (.slice (.int .i64)), .bool]), (.int .i64)])
def bK : TyD := (.strct [(.int .i64), (.int .i64), (.int .i64), (.int .i64), (.slice (.int .i64))])
def qG : TyD := (.tup [(.strct [(.int .i64), (.int .i64), (.int .i64), (.int .i64), (.slice (.int .i64))]), (.int .i64)])
def sA : TyD := (.tup [.str, (.int .i64)])
def uT : TyD := (.tup [(.int .i64), (.int .i64)])
def nT : TyD := .func
def qP : TyD := .func
def sH : TyD := .func
def qQ : TyD := .func
def cR : TyD := (.strct [(.int .i64), (.int .i64), (.int .i64), (.int .i64)])
def yH : TyD := .ptr
def eE : TyD := (.strct [(.strct [(.int .i64), (.int .i64), (.int .i64), (.slice (.int .i64)), .bool]), (.int .i64)])
def eT : TyD := (.strct [(.int .i64), (.int .i64), (.int .i64)])
def qH : TyD := (.strct [])
def aK : TyD := (.strct [(.int .i64), .str, .str, (.int .i64)])
def qR : TyD := (.tup [(.strct [(.int .i64), .str, .str, (.int .i64)]), (.int .i64)])
def qI : TyD := (.int .u64)
def sI : TyD := (.tup [(.int .i64), .str, .bool])
def aS : TyD := (.slice .rcd)
def sB : TyD := .func
def jC : TyD := (.slice .mic)
def cX : TyD := (.arr 16 (.int .i64))
def kL : TyD := (.map .sb)
def mT : TyD := .func
def jH : TyD := (.int .u32)
def iU : TyD := (.arr 256 (.int .u32))
def wN : TyD := .ptr
def kJ : TyD := (.int .u64)
def wO : TyD := .ptr
def iD : TyD := (.strct [(.strct [(.slice (.int .i64)), (.slice (.int .i64)), (.slice .pend)])])
def eD : TyD := (.map .ifn)
def lV : TyD := .func
def oO : TyD := .func
def sJ : TyD := .func
def lF : TyD := (.int .i64)
def oG : TyD := (.tup [(.int .i64), (.int .i64)])
def aCI : TyD := (.tup [(.int .i64), .bool])
def qJ : TyD := .func
def cQ : TyD := (.int .u64)
def aHq : TyD := .ptr
def lK : TyD := (.map .ii)
def qS : TyD := .ptr
def aEf : TyD := (.tup [(.int .i64), (.int .i64)])
def qT : TyD := .func
def wP : TyD := .func
def oP : TyD := .func
attribute [go_sem] aJX aJY aHp aA lT kU bS aAU aP bY aL bW aAa qE cN jG hH bV aG dD oE pN iL rZ oF oN qN yF wM kV uS sG yG aAV qO qF bK qG sA uT nT qP sH qQ cR yH eE eT qH aK qR qI sI aS sB jC cX kL mT jH iU wN kJ wO iD eD lV oO sJ lF oG aCI qJ cQ aHq lK qS aEf qT wP oP
def tab : TypeId → TyD
 | 0 => aJX
 | 1 => aJY
 | 2 => aHp
 | 3 => aA
 | 4 => lT
 | 5 => kU
 | 9 => bS
 | 20 => aAU
 | 22 => aP
 | 23 => bY
 | 25 => aL
 | 27 => bW
 | 29 => aAa
 | 32 => qE
 | 37 => cN
 | 39 => jG
 | 40 => hH
 | 41 => bV
 | 43 => aG
 | 44 => dD
 | 45 => oE
 | 47 => pN
 | 52 => iL
 | 56 => rZ
 | 60 => oF
 | 63 => oN
 | 65 => qN
 | 67 => yF
 | 76 => wM
 | 78 => kV
 | 79 => uS
 | 80 => sG
 | 82 => yG
 | 84 => aAV
 | 86 => qO
 | 89 => qF
 | 96 => bK
 | 97 => qG
 | 99 => sA
 | 102 => uT
 | 105 => nT
 | 106 => qP
 | 108 => sH
 | 110 => qQ
 | 114 => cR
 | 118 => yH
 | 120 => eE
 | 126 => eT
 | 128 => qH
 | 133 => aK
 | 134 => qR
 | 136 => qI
 | 138 => sI
 | 144 => aS
 | 147 => sB
 | 150 => jC
 | 153 => cX
 | 159 => kL
 | 162 => mT
 | 163 => jH
 | 164 => iU
 | 167 => wN
 | 175 => kJ
 | 177 => wO
 | 179 => iD
 | 180 => eD
 | 182 => lV
 | 183 => oO
 | 184 => sJ
 | 187 => lF
 | 188 => oG
 | 192 => aCI
 | 198 => qJ
 | 200 => cQ
 | 204 => aHq
 | 207 => lK
 | 211 => qS
 | 212 => aEf
 | 217 => qT
 | 218 => wP
 | 221 => oP
 | _ => .other
theorem aJZ : aHF Tryz.prog tab := by
 intro T
 unfold tab
 split <;> kernel_rfl
theorem aKa (T : TypeId) : (tab T).shallow := by
 unfold tab
 split <;> (unfold TyD.shallow; decide)
theorem mixed : Tryz.prog.follows .mixedOrders = true := by kernel_rfl
def ctx (F : List (FuncId × aF)) (S : List (FuncId × Con)) (lp : Nat → bX) : Ctx := ⟨tab, lQ F, nA S, fun _ _ _ _ _ => False, lp, false, fun _ _ _ _ => False⟩
def ctxI (F : List (FuncId × aF)) (S : List (FuncId × Con)) (Is : List (FuncId × (Con → Con))) (lp : Nat → bX) : Ctx := ⟨tab, lQ F, nA S, oV Is, lp, false, fun _ _ _ _ => False⟩
@[go_sem] theorem aUE (F : List (FuncId × aF)) (S : List (FuncId × Con)) (lp : Nat → bX) : (ctx F S lp).drawn = false := (rfl)
@[go_sem] theorem aRw (F : List (FuncId × aF)) (S : List (FuncId × Con)) (Is : List (FuncId × (Con → Con))) (lp : Nat → bX) : (ctxI F S Is lp).drawn = false := (rfl)
@[go_sem] theorem aUF (F : List (FuncId × aF)) (S : List (FuncId × Con)) (Is : List (FuncId × (Con → Con))) (lp : Nat → bX) : (ctxI F S Is lp).envF = lQ F := (rfl)
@[go_sem] theorem aUG (F : List (FuncId × aF)) (S : List (FuncId × Con)) (Is : List (FuncId × (Con → Con))) (lp : Nat → bX) : (ctxI F S Is lp).envS = nA S := (rfl)
@[go_sem] theorem aRx (F : List (FuncId × aF)) (S : List (FuncId × Con)) (Is : List (FuncId × (Con → Con))) (lp : Nat → bX) : (ctxI F S Is lp).iterS = oV Is := (rfl)
@[go_sem] theorem aKX (F : List (FuncId × aF)) (S : List (FuncId × Con)) (lp : Nat → bX) : (ctx F S lp).envF = lQ F := (rfl)
@[go_sem] theorem aXx (F : List (FuncId × aF)) (S : List (FuncId × Con)) (lp : Nat → bX) : (ctx F S lp).envS = nA S := (rfl)
theorem bU {F : List (FuncId × aF)} {S : List (FuncId × Con)} (hF : ∀ p ∈ F, bJ Tryz.prog p.1 p.2) (hS : ∀ p ∈ S, dB Tryz.prog p.1 p.2) (lp : Nat → bX) : Ok Tryz.prog (ctx F S lp) :=
 ⟨⟨⟨aJZ, aKa, aBr hF⟩, aBs hS, rfl, mixed, aLX⟩, fun _ _ _ _ h => h⟩
theorem aDl {F : List (FuncId × aF)} {S : List (FuncId × Con)} {Is : List (FuncId × (Con → Con))} (hF : ∀ p ∈ F, bJ Tryz.prog p.1 p.2) (hS : ∀ p ∈ S, dB Tryz.prog p.1 p.2) (hI : ∀ p ∈ Is, rI Tryz.prog p.1 p.2) (lp : Nat → bX) : Ok Tryz.prog (ctxI F S Is lp) :=
 ⟨⟨⟨aJZ, aKa, aBr hF⟩, aBs hS, rfl, mixed, aDQ hI⟩, fun _ _ _ _ h => h⟩
end Lam
namespace Lam
open Go Go.Proofs
def gE.loops : Nat → bX
 | 1 => ⟨[], [], [], [(3, none), (2, some [11, 13])], [], []⟩
 | _ => ⟨[], [], [], [], [], []⟩
def gE.H (c : Ctx) (t0 : AV) (h : List AObj) (K : AOut → List AObj → Prop) : Prop :=
 runD (binD aA .lss t0 (.int .i64 2)) h fun t10 h =>
 aM (fun (J1 : AV → AV → List AObj → Prop) =>
 aX t10 false
 (runD (binD aA .gtr t0 (.int .i64 256)) h fun t13 h =>
 J1 (.bool false) t13 h)
 (J1 (.bool true) .und h))
 (fun t11 t13 h => runD (bP t11 (.bool true) t13) h fun t14 h =>
 aZ t14
 (K (.ret (.tup [(.sl true (.ints .i64 [])), (.int .i64 1)])) h)
 (bB false c (.fn (.func 56) [] []) [t0, (.int .i64 1)] h (fun t17 h =>
 runD (bM t17 0) h fun t18 h =>
 runD (bM t17 1) h fun t19 h =>
 runD (gC bK []) h fun t21 h =>
 bB false c (.fn (.func 57) [] []) [t21] h (fun t22 h =>
 runD (bM t22 0) h fun t23 h =>
 runD (bM t22 1) h fun t24 h =>
 runD (binD aA .mul (.int .i64 16) t0) h fun t26 h =>
 runD (jD aP t26 t26 h.length) h fun t27 h =>
 runM (lA aP h t27 t18) h fun t30 h =>
 runD (dO aP h t27 (some (.int .i64 16)) none none) h fun t32 h =>
 runM (lA aP h t32 t23) h fun t34 h =>
 K (.ret (.tup [t27, (.int .i64 0)])) h)
 (fun v h => K (.pan v) h))
 (fun v h => K (.pan v) h)))
def fA.loops : Nat → bX
 | _ => ⟨[], [], [], [], [], []⟩
def fA.H (c : Ctx) (t0 : AV) (t1 : AV) (h : List AObj) (K : AOut → List AObj → Prop) : Prop :=
 cK dD h fun t5 h =>
 defX t5 fun dp =>
 bB false c (.fn (.func 75) [] []) [t0, t1] h (fun t9 h =>
 bB false c (.fn (.func 76) [] []) [t0, t9] h (fun t10 h =>
 runH (aQ dD h t5 (.int .i64 0)) h fun _ h =>
 cL (fitD dD (aD h t5)) fun r1 => K (.ret (.tup [t10, r1])) h)
 (fun v h => aCz 128 110 v dp h fun h => cL (fitD dD (aD h t5)) fun r1 => K (.ret (.tup [(.str []), r1])) h))
 (fun v h => aCz 128 110 v dp h fun h => cL (fitD dD (aD h t5)) fun r1 => K (.ret (.tup [(.str []), r1])) h)
def dF.loops : Nat → bX
 | _ => ⟨[], [], [], [], [], []⟩
def dF.H (c : Ctx) (t0 : AV) (t1 : AV) (h : List AObj) (K : AOut → List AObj → Prop) : Prop :=
 cK bK h fun t4 h =>
 bB false c (.fn (.func 46) [] []) [t0, t1] h (fun t10 h =>
 runD (bM t10 0) h fun t11 h =>
 runD (bM t10 1) h fun t12 h =>
 cK bK h fun t5 h =>
 runH (aQ bK h t5 t11) h fun _ h =>
 runD (binD dD .eql t12 (.int .i64 0)) h fun t14 h =>
 bB false c (.fn (.func 77) [] []) [t14] h (fun t15 h =>
 runD (fitD bK (aD h t5)) h fun t16 h =>
 runH (aQ bK h t4 t16) h fun _ h =>
 cL (fitD bK (aD h t4)) fun r0 => K (.ret r0) h)
 (fun v h => K (.pan v) h))
 (fun v h => K (.pan v) h)
def dL.loops : Nat → bX
 | _ => ⟨[], [], [], [], [], []⟩
def dL.H (c : Ctx) (t0 : AV) (t1 : AV) (h : List AObj) (K : AOut → List AObj → Prop) : Prop :=
 boxW bK t1 h fun t3 h =>
 runD (aC bK t3 3) h fun t5 h =>
 runD (fitD aA (aD h t5)) h fun t6 h =>
 runD (binD aA .eql t6 (.int .i64 0)) h fun t7 h =>
 aZ t7
 (K (.ret (.str [])) h)
 (runD (aC bK t3 3) h fun t9 h =>
 runD (fitD aA (aD h t9)) h fun t10 h =>
 bB false c (.fn (.func 97) [] []) [t0, t10] h (fun t11 h =>
 K (.ret t11) h)
 (fun v h => K (.pan v) h))
def cO.loops : Nat → bX
 | _ => ⟨[], [], [], [], [], []⟩
def cO.H (c : Ctx) (t0 : AV) (h : List AObj) (K : AOut → List AObj → Prop) : Prop :=
 runD (unD .not t0) h fun t3 h =>
 aM (fun (J1 : List AObj → Prop) =>
 aZ t3
 (runD (gC qH []) h fun t4 h =>
 K (.pan (.iface 128 t4)) h)
 (J1 h))
 (fun h => K (.ret (.tup [])) h)
def dM.loops : Nat → bX
 | _ => ⟨[], [], [], [], [], []⟩
def dM.H (c : Ctx) (t0 : AV) (t1 : AV) (h : List AObj) (K : AOut → List AObj → Prop) : Prop :=
 bB false c (.fn (.func 79) [] []) [t0, t1] h (fun t10 h =>
 runD (bM t10 0) h fun t11 h =>
 runD (bM t10 1) h fun t12 h =>
 cK aK h fun t5 h =>
 runH (aQ aK h t5 t11) h fun _ h =>
 runD (binD dD .eql t12 (.int .i64 0)) h fun t14 h =>
 bB false c (.fn (.func 77) [] []) [t14] h (fun t15 h =>
 runD (aC aK t5 1) h fun t16 h =>
 runD (fitD bS (aD h t16)) h fun t17 h =>
 K (.ret t17) h)
 (fun v h => K (.pan v) h))
 (fun v h => K (.pan v) h)
theorem gE.eq (F : List (FuncId × aF)) (S : List (FuncId × Con)) (t0 : AV) (h : List AObj) (K : AOut → List AObj → Prop) : funW (ctx F S gE.loops) Tryz.f32 [t0] h K = gE.H (ctx F S gE.loops) t0 h K := by kernel_rfl
theorem fA.eq (F : List (FuncId × aF)) (S : List (FuncId × Con)) (t0 t1 : AV) (h : List AObj) (K : AOut → List AObj → Prop) : aEE (ctx F S fA.loops) Tryz.f47 44 128 110 [t0, t1] h K = fA.H (ctx F S fA.loops) t0 t1 h K := by kernel_rfl
theorem dF.eq (F : List (FuncId × aF)) (S : List (FuncId × Con)) (t0 t1 : AV) (h : List AObj) (K : AOut → List AObj → Prop) : funW (ctx F S dF.loops) Tryz.f75 [t0, t1] h K = dF.H (ctx F S dF.loops) t0 t1 h K := by kernel_rfl
theorem dL.eq (F : List (FuncId × aF)) (S : List (FuncId × Con)) (t0 t1 : AV) (h : List AObj) (K : AOut → List AObj → Prop) : funW (ctx F S dL.loops) Tryz.f76 [t0, t1] h K = dL.H (ctx F S dL.loops) t0 t1 h K := by kernel_rfl
theorem cO.eq (F : List (FuncId × aF)) (S : List (FuncId × Con)) (t0 : AV) (h : List AObj) (K : AOut → List AObj → Prop) : funW (ctx F S cO.loops) Tryz.f77 [t0] h K = cO.H (ctx F S cO.loops) t0 h K := by kernel_rfl
theorem dM.eq (F : List (FuncId × aF)) (S : List (FuncId × Con)) (t0 t1 : AV) (h : List AObj) (K : AOut → List AObj → Prop) : funW (ctx F S dM.loops) Tryz.f97 [t0, t1] h K = dM.H (ctx F S dM.loops) t0 t1 h K := by kernel_rfl
theorem gE.at : Tryz.prog.funcs[32]? = some Tryz.f32 := by kernel_rfl
theorem gE.nm : (Tryz.f32.name == "runtime.NumGoroutine") = false := by kernel_rfl
theorem gE.bd : Tryz.f32.body.isNone = false := by kernel_rfl
theorem fA.at : Tryz.prog.funcs[47]? = some Tryz.f47 := by kernel_rfl
theorem fA.nm : (Tryz.f47.name == "runtime.NumGoroutine") = false := by kernel_rfl
theorem fA.bd : Tryz.f47.body.isNone = false := by kernel_rfl
theorem dF.at : Tryz.prog.funcs[75]? = some Tryz.f75 := by kernel_rfl
theorem dF.nm : (Tryz.f75.name == "runtime.NumGoroutine") = false := by kernel_rfl
theorem dF.bd : Tryz.f75.body.isNone = false := by kernel_rfl
theorem dL.at : Tryz.prog.funcs[76]? = some Tryz.f76 := by kernel_rfl
theorem dL.nm : (Tryz.f76.name == "runtime.NumGoroutine") = false := by kernel_rfl
theorem dL.bd : Tryz.f76.body.isNone = false := by kernel_rfl
theorem cO.at : Tryz.prog.funcs[77]? = some Tryz.f77 := by kernel_rfl
theorem cO.nm : (Tryz.f77.name == "runtime.NumGoroutine") = false := by kernel_rfl
theorem cO.bd : Tryz.f77.body.isNone = false := by kernel_rfl
theorem dM.at : Tryz.prog.funcs[97]? = some Tryz.f97 := by kernel_rfl
theorem dM.nm : (Tryz.f97.name == "runtime.NumGoroutine") = false := by kernel_rfl
theorem dM.bd : Tryz.f97.body.isNone = false := by kernel_rfl
end Lam
namespace Lam
open Go Go.Proofs
theorem kP.at : Tryz.prog.funcs[44]? = some Tryz.f44 := by kernel_rfl
theorem kP.nm : (Tryz.f44.name == "runtime.NumGoroutine") = false := by kernel_rfl
theorem kP.bd : Tryz.f44.body.isNone = false := by kernel_rfl
theorem aHr : Tryz.prog.underlying 20 = some (.interface (Tryz.prog.methodsAt 20)) := by kernel_rfl
theorem aKY (q : Value) (w : World) : ∃ c, Tryz.f44.body = some c ∧ ∀ (Q : Exit → Act → List Frame → World → Prop) (c₀ : Frame) (cs : List Frame), c₀.mode = .returning → (∀ a', a'.defers = [] → Q .normal a' (c₀ :: cs) w) →
      c.wpS Tryz.prog Q { tmps := #[q] ++ Array.replicate 12 undef, defers := [] } (c₀ :: cs) w := by
  delta Tryz.f44
  refine ⟨_, rfl, fun Q c₀ cs hu hQ => wpS_seq (wpS_region ?_)⟩
  simp [wpOpsS, Region.wanted, execOp, resolve, invoke, builtin, recoverD, hu, Exit.thenS, Act.put]
  refine wpS_of_wp (wp_block (wp_seq (wp_region ?_)))
  simp [wpOps, Region.wanted, Oper.wp, Oper.upon, execOp, Act.eval, Act.put, eqGuard, binOp, run_equal_nil_nil w 20 aHr]
  refine .inl (wp_cond_true (by simp [Act.eval]) (wp_region ?_))
  simp [wpOps, Region.wanted, Oper.wp, Oper.upon, execOp, Act.eval, Act.put, Exit.inBlock]
  exact .inl (hQ _ rfl)
def qK : Code → Nat × Array Oper × Nat × Array Oper
  | .seq _ (.block _ (.seq _ (.cond _ _ (.seq _ (.cond _ (.seq (.region i a _) (.region j b _)) _))))) => (i, a, j, b)
  | _ => (0, #[], 0, #[])
def aEG (c : Code) : List Oper := (qK c).2.1.toList
def aEH (c : Code) : List Oper := (qK c).2.2.2.toList
abbrev tZ : Ctx := ctx [] [] cO.loops
theorem pO : Ok Tryz.prog tZ := bU (by simp) (by simp) _
theorem aKZ (q : Value) : ∃ c, Tryz.f44.body = some c ∧ (aEG c).all (fun o => match o.dst with | none => true | some d => Nat.blt d 13) = true ∧ (aEH c).all (fun o => match o.dst with | none => true | some d => Nat.blt d 13) = true ∧
      (∀ (h : List AObj) (id : Nat) (n : Int) (KP : List (Nat × AV) → AV → List AObj → Prop), h[id]? = some (.box (.int .i64 n)) → opsW tZ [] (aEG c) KP (fun t h' => opsW tZ [] (aEH c) KP (fun _ h' => h' = (h ++ [AObj.box (.agg [])]).set id (AObj.box (.int .i64 110))) (aEH c) [] t h') (aEG c) [] [(0, .ptr id []), (10, .agg [])] h) ∧
      ∀ (u : Value) (w : World) (Q : Exit → Act → List Frame → World → Prop) (c₀ : Frame) (cs : List Frame), c₀.mode = .panicking [{ v := .iface 128 u, recovered := false }] →
      (∀ a : Act, a.defers = [] → a.tmps.size = 13 → a.tmps.getD 0 undef = q → a.tmps.getD 10 undef = u →
        (Code.seq (.region (qK c).1 (qK c).2.1 false) (.region (qK c).2.2.1 (qK c).2.2.2 false)).wpIn (FW none) 0 Tryz.prog (Exit.inBlock 0 fun e a' w' => Q e a' ({ c₀ with mode := .panicking [{ v := .iface 128 u, recovered := true }] } :: cs) w') a w) →
      c.wpS Tryz.prog Q { tmps := #[q] ++ Array.replicate 12 undef, defers := [] } (c₀ :: cs) w := by
  delta Tryz.f44
  refine ⟨_, rfl, by decide, by decide, ?_, fun u w Q c₀ cs hu hQ => wpS_seq (wpS_region ?_)⟩
  · intro h id n KP hid
    have hlt := (List.getElem?_eq_some_iff.1 hid).1
    have e1 : (h ++ [AObj.box (.agg [])])[h.length]? = some (.box (.agg [])) := by simp
    have e2 : ∀ o, ((h ++ [AObj.box (.agg [])]).set h.length o)[id]? = some (.box (.int .i64 n)) := fun o => by
      rw [List.getElem?_set, if_neg (by omega), List.getElem?_append_left hlt]; exact hid
    show cK (.strct []) h fun t3 h1 => runH (aQ (.strct []) h1 t3 (.agg [])) h1 fun _ h => runD (cJ (.ptr id [])) h fun t12 h => runH (aQ (.int .i64) h t12 (.int .i64 110)) h fun _ h' => h' = _
    simp only [e1, e2, go_sem, reduceEqDiff, Nat.reduceLT, reduceAdd, reduceSub, reduceLeDiff, reduceReplicate, reduceToNat]
    have e3 : (h ++ [AObj.box (.agg [])]).set h.length (AObj.box (.agg [])) = h ++ [AObj.box (.agg [])] := by simp
    rw [e3]
  · simp [wpOpsS, Region.wanted, execOp, resolve, invoke, builtin, recoverD, hu, Exit.thenS, Act.put]
    refine wpS_of_wp (wp_block (wp_seq (wp_region ?_)))
    simp [wpOps, Region.wanted, Oper.wp, Oper.upon, execOp, Act.eval, Act.put, eqGuard, binOp, run_equal_held_nil w 20 128 u aHr]
    refine .inl (wp_cond_false (by simp [Act.eval]) (wp_seq (wp_region ?_)))
    have hta : (Instr.typeAssert (.iface 128 u) 20 128 true).run Tryz.prog w = .ok (.tuple #[u, .bool true]) w := by
      have h0 : Tryz.prog.underlying 128 = some (.struct #[]) := by kernel_rfl
      simp [Instr.typeAssert, underlying, h0]
    have hr3 : List.range 3 = [0, 1, 2] := rfl
    simp [hr3, wpOps, Region.wanted, Oper.wp, Oper.upon, execOp, Act.eval, Act.put, hta, Instr.extract]
    refine .inl (.inl (.inl (wp_cond_true (by simp [Act.eval]) (wpIn_wide.1 (hQ { tmps := _, defers := [] } rfl ?_ ?_ ?_))))) <;> simp
theorem kP.tspec : aIj Tryz.prog 44 128 110 := by
  refine ⟨rC kP.at kP.nm kP.bd, fun q w => ?_, fun X id q z n H hq hz hbox => ?_⟩
  · obtain ⟨c, hb, h⟩ := aKY q w
    refine uO kP.at hb fun c₀ cs hu => h _ c₀ cs hu fun a' hd => ?_
    refine ⟨hd, .returning, ?_, .tuple #[], ?_, ⟨_, rfl⟩, rfl, rfl⟩
    · rw [← hu]
    · have : Tryz.f44.results = #[] := by kernel_rfl
      rw [sY, this, Array.mapM_eq_mapM_toList]; rfl
  · simp only [VV] at hz
    obtain ⟨u, rfl, hu⟩ := hz
    obtain ⟨c, hb, hd1, hd2, hW, h⟩ := aKZ q
    refine uO kP.at hb fun c₀ cs hc => h u X.w _ c₀ cs hc fun a had hs h0 h10 => wpIn_seq (wpIn_region_list ?_)
    have R : SR 13 ⟨X.w.heap.size, []⟩ X [(0, .ptr id []), (10, .agg [])] a := by
      refine ⟨fun i => ?_, Nat.le_of_eq hs.symm, [], had, trivial⟩
      simp only [get]
      split
      · rename_i e; obtain rfl := Nat.eq_of_beq_eq_true e; rw [h0]; exact hq
      · split
        · rename_i e; obtain rfl := Nat.eq_of_beq_eq_true e; rw [h10]; exact hu
        · trivial
    have dst : ∀ {l : List Oper}, (l.all fun o => match o.dst with | none => true | some d => Nat.blt d 13) = true → ∀ o ∈ l, ∀ i, o.dst = some i → i < 13 := by
      intro l hl o ho i hi
      rw [List.all_eq_true] at hl
      have := hl o ho
      rw [hi] at this
      simpa using this
    have hw := hW X.h id n (fun _ _ _ => False) hbox
    have := mN (ro := none) (n := 13) (ds := ⟨X.w.heap.size, []⟩) (rest := []) (c := tZ) pO.ok pO.s pO.plain (B := X) (fun l => xJ (pO.y l)) 0 (qK c).2.1 (aEG c) [] _ X a (dst hd1) (Kn.nil _) (Ext.refl X) H R hw
      (Q := Exit.then ((Code.region (qK c).2.2.1 (qK c).2.2.2 false).wpIn (FW none) 0 Tryz.prog (Exit.inBlock 0 fun e a' w' => bodyPostS Tryz.prog Tryz.f44 c₀ cs (fun e u' w' => (∃ v, e = .returned v) ∧ u' = .panicking [{ v := .iface 128 u, recovered := true }] ∧
      ∃ Y : Cx, Y.w = w' ∧ HR Y ∧ Ext X Y ∧ Y.h = (X.h ++ [AObj.box (.agg [])]).set id (AObj.box (.int .i64 110))) e a' ({ c₀ with mode := .panicking [{ v := .iface 128 u, recovered := true }] } :: cs) w')) (Exit.inBlock 0 fun e a' w' => bodyPostS Tryz.prog Tryz.f44 c₀ cs (fun e u' w' => (∃ v, e = .returned v) ∧ u' = .panicking [{ v := .iface 128 u, recovered := true }] ∧
      ∃ Y : Cx, Y.w = w' ∧ HR Y ∧ Ext X Y ∧ Y.h = (X.h ++ [AObj.box (.agg [])]).set id (AObj.box (.int .i64 110))) e a' ({ c₀ with mode := .panicking [{ v := .iface 128 u, recovered := true }] } :: cs) w')) ?_ (fun Y t' v q a' HY EY RY hf hv => hf.elim)
    · rw [List.append_nil] at this; exact this
    intro Y t' a' HY EY RY hs hk
    refine wpIn_region_list (F := FW none) (n := 0) (id := (qK c).2.2.1) ?_
    have := mN (ro := none) (n := 13) (ds := ⟨X.w.heap.size, []⟩) (rest := []) (c := tZ) pO.ok pO.s pO.plain (B := Y) (fun l => xJ (pO.y l)) 0 (qK c).2.2.2 (aEH c) [] _ Y a' (dst hd2) (Kn.nil _) (Ext.refl Y) HY RY hk
      (Q := Exit.inBlock 0 fun e a' w' => bodyPostS Tryz.prog Tryz.f44 c₀ cs (fun e u' w' => (∃ v, e = .returned v) ∧ u' = .panicking [{ v := .iface 128 u, recovered := true }] ∧
      ∃ Y : Cx, Y.w = w' ∧ HR Y ∧ Ext X Y ∧ Y.h = (X.h ++ [AObj.box (.agg [])]).set id (AObj.box (.int .i64 110))) e a' ({ c₀ with mode := .panicking [{ v := .iface 128 u, recovered := true }] } :: cs) w') ?_ (fun Y t' v q a' HY EY RY hf hv => hf.elim)
    · rw [List.append_nil] at this; exact this
    intro Z t'' a'' HZ EZ RZ hs2 hk2
    refine ⟨by rw [hs2.2, hs.2, had], _, rfl, .tuple #[], ?_, ⟨_, rfl⟩, rfl, Z, rfl, HZ, EY.trans EZ, hk2⟩
    have : Tryz.f44.results = #[] := by kernel_rfl
    rw [sY, this, Array.mapM_eq_mapM_toList]; rfl
end Lam
namespace Lam
open Go Go.Proofs
def bA.loops : Nat → bX
 | _ => ⟨[], [], [], [], [], []⟩
def bA.H (c : Ctx) (t0 : AV) (h : List AObj) (K : AOut → List AObj → Prop) : Prop :=
 pQ (AV.len aP h t0) h fun t4 h =>
 aZ t4
 (K (.ret (.sl true (.ints .i64 []))) h)
 (runD (fD aP 0 [] h.length) h fun t5 h =>
 jE (fT aP h t5 t0 h.length) (gJ aP h t5 t0) h fun t7 h =>
 K (.ret t7) h)
def bQ.loops : Nat → bX
 | 4 => ⟨[13], [false], [0, 1, 12], [], [], []⟩
 | _ => ⟨[], [], [], [], [], []⟩
def bQ.L1 (c : Ctx) (J1 : List AObj → Prop) (K : AOut → List AObj → Prop) (lv : List AV) (h0 : List AObj) (n0 : Nat) (c0 : AV) (c1 : AV) (c12 : AV) : Prop :=
 ∃ I : Nat → List AV → List AObj → Prop, (∃ n, I n lv h0) ∧ ∀ n h, ∀ t13, I n [t13] h →
 runD (binD aA .lss t13 c12) h fun t14 h =>
 aZ t14
 (runD (aH aP h c0 t13) h fun t18 h =>
 runD (fitD aA (aD h t18)) h fun t19 h =>
 runD (aH aP h c1 t13) h fun t22 h =>
 runD (fitD aA (aD h t22)) h fun t23 h =>
 runD (binD aA .neq t19 t23) h fun t24 h =>
 aZ t24
 (K (.ret (.bool false)) h)
 (runD (binD aA .add t13 (.int .i64 1)) h fun t25 h =>
 (∃ m, m < n ∧ I m (AV.norms n0 h [t25]) (cG n0 h)) ∧ AV.norms n0 h [c0, c1, c12] = [c0, c1, c12]))
 (J1 h)
def bQ.H (c : Ctx) (t0 : AV) (t1 : AV) (h : List AObj) (K : AOut → List AObj → Prop) : Prop :=
 runD (lenD aP h t0) h fun t7 h =>
 runD (lenD aP h t1) h fun t9 h =>
 runD (binD aA .neq t7 t9) h fun t10 h =>
 aZ t10
 (K (.ret (.bool false)) h)
 (runD (lenD aP h t0) h fun t12 h =>
 aM (fun (J1 : List AObj → Prop) =>
 dE [false] [(.int .i64 0)] h fun lv h => bQ.L1 c J1 K (AV.norms h.length h lv) (cG h.length h) h.length (AV.norm h.length h t0) (AV.norm h.length h t1) (AV.norm h.length h t12))
 (fun h => K (.ret (.bool true)) h))
def bL.loops : Nat → bX
 | _ => ⟨[], [], [], [], [], []⟩
def bL.H (c : Ctx) (t0 : AV) (h : List AObj) (K : AOut → List AObj → Prop) : Prop :=
 pQ (AV.len bV h t0) h fun t4 h =>
 aZ t4
 (K (.ret (.sl true (.pairs []))) h)
 (runD (fD bV 0 [] h.length) h fun t5 h =>
 jE (fT bV h t5 t0 h.length) (gJ bV h t5 t0) h fun t7 h =>
 K (.ret t7) h)
def bI.loops : Nat → bX
 | 2 => ⟨[8], [false], [0, 1, 7], [], [], []⟩
 | _ => ⟨[], [], [], [], [], []⟩
def bI.L1 (c : Ctx) (J1 : List AObj → Prop) (K : AOut → List AObj → Prop) (lv : List AV) (h0 : List AObj) (n0 : Nat) (c0 : AV) (c1 : AV) (c7 : AV) : Prop :=
 ∃ I : Nat → List AV → List AObj → Prop, (∃ n, I n lv h0) ∧ ∀ n h, ∀ t8, I n [t8] h →
 runD (binD aA .lss t8 c7) h fun t9 h =>
 aZ t9
 (runD (aH aP h c0 t8) h fun t14 h =>
 runD (fitD aA (aD h t14)) h fun t15 h =>
 bB false c c1 [t15] h (fun t16 h =>
 aZ t16
 (K (.ret t8) h)
 (runD (binD aA .add t8 (.int .i64 1)) h fun t18 h =>
 (∃ m, m < n ∧ I m (AV.norms n0 h [t18]) (cG n0 h)) ∧ AV.norms n0 h [c0, c1, c7] = [c0, c1, c7]))
 (fun v h => K (.pan v) h))
 (J1 h)
def bI.H (c : Ctx) (t0 : AV) (t1 : AV) (h : List AObj) (K : AOut → List AObj → Prop) : Prop :=
 runD (lenD aP h t0) h fun t7 h =>
 aM (fun (J1 : List AObj → Prop) =>
 dE [false] [(.int .i64 0)] h fun lv h => bI.L1 c J1 K (AV.norms h.length h lv) (cG h.length h) h.length (AV.norm h.length h t0) (AV.norm h.length h t1) (AV.norm h.length h t7))
 (fun h => K (.ret (.int .i64 (-1))) h)
def bR.loops : Nat → bX
 | _ => ⟨[], [], [], [], [], []⟩
def bR.H (c : Ctx) (t0 : AV) (t1 : AV) (h : List AObj) (K : AOut → List AObj → Prop) : Prop :=
 bB false c (.fn (.func 102) [] []) [t0, t1] h (fun t7 h =>
 runD (binD aA .geq t7 (.int .i64 0)) h fun t8 h =>
 K (.ret t8) h)
 (fun v h => K (.pan v) h)
def aR.loops : Nat → bX
 | _ => ⟨[], [], [], [], [], []⟩
def aR.H (c : Ctx) (t0 : AV) (t1 : AV) (h : List AObj) (K : AOut → List AObj → Prop) : Prop :=
 bB false c (.fn (.func 147) [] []) [t0, t1] h (fun t7 h =>
 runD (binD aA .geq t7 (.int .i64 0)) h fun t8 h =>
 K (.ret t8) h)
 (fun v h => K (.pan v) h)
def aN.loops : Nat → bX
 | 2 => ⟨[8], [false], [0, 1, 7], [], [], []⟩
 | _ => ⟨[], [], [], [], [], []⟩
def aN.L1 (c : Ctx) (J1 : List AObj → Prop) (K : AOut → List AObj → Prop) (lv : List AV) (h0 : List AObj) (n0 : Nat) (c0 : AV) (c1 : AV) (c7 : AV) : Prop :=
 ∃ I : Nat → List AV → List AObj → Prop, (∃ n, I n lv h0) ∧ ∀ n h, ∀ t8, I n [t8] h →
 runD (binD aA .lss t8 c7) h fun t9 h =>
 aZ t9
 (runD (aH jC h c0 t8) h fun t14 h =>
 runD (fitD eT (aD h t14)) h fun t15 h =>
 bB false c c1 [t15] h (fun t16 h =>
 aZ t16
 (K (.ret t8) h)
 (runD (binD aA .add t8 (.int .i64 1)) h fun t18 h =>
 (∃ m, m < n ∧ I m (AV.norms n0 h [t18]) (cG n0 h)) ∧ AV.norms n0 h [c0, c1, c7] = [c0, c1, c7]))
 (fun v h => K (.pan v) h))
 (J1 h)
def aN.H (c : Ctx) (t0 : AV) (t1 : AV) (h : List AObj) (K : AOut → List AObj → Prop) : Prop :=
 runD (lenD jC h t0) h fun t7 h =>
 aM (fun (J1 : List AObj → Prop) =>
 dE [false] [(.int .i64 0)] h fun lv h => aN.L1 c J1 K (AV.norms h.length h lv) (cG h.length h) h.length (AV.norm h.length h t0) (AV.norm h.length h t1) (AV.norm h.length h t7))
 (fun h => K (.ret (.int .i64 (-1))) h)
def bE.loops : Nat → bX
 | _ => ⟨[], [], [], [], [], []⟩
def bE.H (c : Ctx) (t0 : AV) (h : List AObj) (K : AOut → List AObj → Prop) : Prop :=
 runD (lenD bY h t0) h fun t5 h =>
 runD (lenD bY h t0) h fun t7 h =>
 runD (dO bY h t0 none (some t5) (some t7)) h fun t8 h =>
 K (.ret t8) h
def bD.loops : Nat → bX
 | _ => ⟨[], [], [], [], [], []⟩
def bD.H (c : Ctx) (t0 : AV) (h : List AObj) (K : AOut → List AObj → Prop) : Prop :=
 pQ (AV.len bY h t0) h fun t4 h =>
 aZ t4
 (K (.ret (.sl true (.pends []))) h)
 (runD (fD bY 0 [] h.length) h fun t5 h =>
 jE (fT bY h t5 t0 h.length) (gJ bY h t5 t0) h fun t7 h =>
 K (.ret t7) h)
theorem bA.eq (F : List (FuncId × aF)) (S : List (FuncId × Con)) (t0 : AV) (h : List AObj) (K : AOut → List AObj → Prop) : funW (ctx F S bA.loops) Tryz.f34 [t0] h K = bA.H (ctx F S bA.loops) t0 h K := by kernel_rfl
theorem bQ.eq (F : List (FuncId × aF)) (S : List (FuncId × Con)) (t0 t1 : AV) (h : List AObj) (K : AOut → List AObj → Prop) : funW (ctx F S bQ.loops) Tryz.f35 [t0, t1] h K = bQ.H (ctx F S bQ.loops) t0 t1 h K := by kernel_rfl
theorem bL.eq (F : List (FuncId × aF)) (S : List (FuncId × Con)) (t0 : AV) (h : List AObj) (K : AOut → List AObj → Prop) : funW (ctx F S bL.loops) Tryz.f72 [t0] h K = bL.H (ctx F S bL.loops) t0 h K := by kernel_rfl
theorem bI.eq (F : List (FuncId × aF)) (S : List (FuncId × Con)) (t0 t1 : AV) (h : List AObj) (K : AOut → List AObj → Prop) : funW (ctx F S bI.loops) Tryz.f102 [t0, t1] h K = bI.H (ctx F S bI.loops) t0 t1 h K := by kernel_rfl
theorem bR.eq (F : List (FuncId × aF)) (S : List (FuncId × Con)) (t0 t1 : AV) (h : List AObj) (K : AOut → List AObj → Prop) : funW (ctx F S bR.loops) Tryz.f106 [t0, t1] h K = bR.H (ctx F S bR.loops) t0 t1 h K := by kernel_rfl
theorem aR.eq (F : List (FuncId × aF)) (S : List (FuncId × Con)) (t0 t1 : AV) (h : List AObj) (K : AOut → List AObj → Prop) : funW (ctx F S aR.loops) Tryz.f136 [t0, t1] h K = aR.H (ctx F S aR.loops) t0 t1 h K := by kernel_rfl
theorem aN.eq (F : List (FuncId × aF)) (S : List (FuncId × Con)) (t0 t1 : AV) (h : List AObj) (K : AOut → List AObj → Prop) : funW (ctx F S aN.loops) Tryz.f147 [t0, t1] h K = aN.H (ctx F S aN.loops) t0 t1 h K := by kernel_rfl
theorem bE.eq (F : List (FuncId × aF)) (S : List (FuncId × Con)) (t0 : AV) (h : List AObj) (K : AOut → List AObj → Prop) : funW (ctx F S bE.loops) Tryz.f153 [t0] h K = bE.H (ctx F S bE.loops) t0 h K := by kernel_rfl
theorem bD.eq (F : List (FuncId × aF)) (S : List (FuncId × Con)) (t0 : AV) (h : List AObj) (K : AOut → List AObj → Prop) : funW (ctx F S bD.loops) Tryz.f155 [t0] h K = bD.H (ctx F S bD.loops) t0 h K := by kernel_rfl
theorem bA.at : Tryz.prog.funcs[34]? = some Tryz.f34 := by kernel_rfl
theorem bA.nm : (Tryz.f34.name == "runtime.NumGoroutine") = false := by kernel_rfl
theorem bA.bd : Tryz.f34.body.isNone = false := by kernel_rfl
theorem bQ.at : Tryz.prog.funcs[35]? = some Tryz.f35 := by kernel_rfl
theorem bQ.nm : (Tryz.f35.name == "runtime.NumGoroutine") = false := by kernel_rfl
theorem bQ.bd : Tryz.f35.body.isNone = false := by kernel_rfl
theorem bL.at : Tryz.prog.funcs[72]? = some Tryz.f72 := by kernel_rfl
theorem bL.nm : (Tryz.f72.name == "runtime.NumGoroutine") = false := by kernel_rfl
theorem bL.bd : Tryz.f72.body.isNone = false := by kernel_rfl
theorem bI.at : Tryz.prog.funcs[102]? = some Tryz.f102 := by kernel_rfl
theorem bI.nm : (Tryz.f102.name == "runtime.NumGoroutine") = false := by kernel_rfl
theorem bI.bd : Tryz.f102.body.isNone = false := by kernel_rfl
theorem bR.at : Tryz.prog.funcs[106]? = some Tryz.f106 := by kernel_rfl
theorem bR.nm : (Tryz.f106.name == "runtime.NumGoroutine") = false := by kernel_rfl
theorem bR.bd : Tryz.f106.body.isNone = false := by kernel_rfl
theorem aR.at : Tryz.prog.funcs[136]? = some Tryz.f136 := by kernel_rfl
theorem aR.nm : (Tryz.f136.name == "runtime.NumGoroutine") = false := by kernel_rfl
theorem aR.bd : Tryz.f136.body.isNone = false := by kernel_rfl
theorem aN.at : Tryz.prog.funcs[147]? = some Tryz.f147 := by kernel_rfl
theorem aN.nm : (Tryz.f147.name == "runtime.NumGoroutine") = false := by kernel_rfl
theorem aN.bd : Tryz.f147.body.isNone = false := by kernel_rfl
theorem bE.at : Tryz.prog.funcs[153]? = some Tryz.f153 := by kernel_rfl
theorem bE.nm : (Tryz.f153.name == "runtime.NumGoroutine") = false := by kernel_rfl
theorem bE.bd : Tryz.f153.body.isNone = false := by kernel_rfl
theorem bD.at : Tryz.prog.funcs[155]? = some Tryz.f155 := by kernel_rfl
theorem bD.nm : (Tryz.f155.name == "runtime.NumGoroutine") = false := by kernel_rfl
theorem bD.bd : Tryz.f155.body.isNone = false := by kernel_rfl
end Lam
namespace Lam
open Go Go.Proofs
def fJ.loops : Nat → bX
 | 1 => ⟨[], [], [], [(4, none), (2, some [8, 10]), (2, none), (2, some [12, 14])], [], []⟩
 | _ => ⟨[], [], [], [], [], []⟩
def fJ.H (c : Ctx) (t0 : AV) (t1 : AV) (h : List AObj) (K : AOut → List AObj → Prop) : Prop :=
 bB false c (.fn (.func 94) [] []) [t0] h (fun t6 h =>
 runD (unD .not t6) h fun t7 h =>
 aM (fun (J1 : AV → AV → List AObj → Prop) =>
 aX t7 false
 (runD (binD aA .lss t1 (.int .i64 0)) h fun t10 h =>
 J1 (.bool false) t10 h)
 (J1 (.bool true) .und h))
 (fun t8 t10 h => runD (bP t8 (.bool true) t10) h fun t11 h =>
 aM (fun (J2 : AV → AV → List AObj → Prop) =>
 aX t11 false
 (runD (binD aA .geq t1 (.int .i64 13)) h fun t14 h =>
 J2 (.bool false) t14 h)
 (J2 (.bool true) .und h))
 (fun t12 t14 h => runD (bP t12 (.bool true) t14) h fun t15 h =>
 aZ t15
 (K (.ret (.int .i64 (-1))) h)
 (runD (binD aA .add t0 (.int .i64 3)) h fun t17 h =>
 runD (binD aA .add t17 t1) h fun t19 h =>
 K (.ret t19) h))))
 (fun v h => K (.pan v) h)
def fK.loops : Nat → bX
 | 1 => ⟨[], [], [], [(4, none), (5, some [10, 15])], [], []⟩
 | _ => ⟨[], [], [], [], [], []⟩
def fK.H (c : Ctx) (t0 : AV) (t1 : AV) (h : List AObj) (K : AOut → List AObj → Prop) : Prop :=
 bB false c (.fn (.func 94) [] []) [t1] h (fun t8 h =>
 runD (unD .not t8) h fun t9 h =>
 aM (fun (J1 : AV → AV → List AObj → Prop) =>
 aX t9 false
 (runD (binD aA .add t1 (.int .i64 16)) h fun t12 h =>
 runD (lenD aP h t0) h fun t14 h =>
 runD (binD aA .gtr t12 t14) h fun t15 h =>
 J1 (.bool false) t15 h)
 (J1 (.bool true) .und h))
 (fun t10 t15 h => runD (bP t10 (.bool true) t15) h fun t16 h =>
 aZ t16
 (K (.ret (.sl true (.ints .i64 []))) h)
 (runD (binD aA .add t1 (.int .i64 3)) h fun t19 h =>
 runD (binD aA .add t1 (.int .i64 16)) h fun t21 h =>
 runD (binD aA .add t1 (.int .i64 16)) h fun t23 h =>
 runD (dO aP h t0 (some t19) (some t21) (some t23)) h fun t24 h =>
 bB false c (.fn (.func 102) [] []) [t24, (.fn (.func 103) [] [])] h (fun t26 h =>
 runD (binD aA .lss t26 (.int .i64 0)) h fun t28 h =>
 aM (fun (J2 : AV → List AObj → Prop) =>
 aZ t28
 (runD (lenD aP h t24) h fun t30 h =>
 J2 t30 h)
 (J2 t26 h))
 (fun t6 h => runD (dO aP h t24 none (some t6) none) h fun t33 h =>
 bB false c (.fn (.func 34) [] []) [t33] h (fun t34 h =>
 K (.ret t34) h)
 (fun v h => K (.pan v) h)))
 (fun v h => K (.pan v) h))))
 (fun v h => K (.pan v) h)
def fH.loops : Nat → bX
 | 1 => ⟨[], [], [], [(3, none), (3, some [5, 8]), (2, none), (3, some [10, 13])], [], []⟩
 | _ => ⟨[], [], [], [], [], []⟩
def fH.H (c : Ctx) (t0 : AV) (h : List AObj) (K : AOut → List AObj → Prop) : Prop :=
 runD (binD aA .geq t0 (.int .i64 0)) h fun t4 h =>
 aM (fun (J1 : AV → AV → List AObj → Prop) =>
 aX t4 true
 (runD (binD aA .add t0 (.int .i64 16)) h fun t7 h =>
 runD (binD aA .leq t7 (.int .i64 4096)) h fun t8 h =>
 J1 (.bool true) t8 h)
 (J1 (.bool false) .und h))
 (fun t5 t8 h => runD (bP t5 t8 (.bool false)) h fun t9 h =>
 aM (fun (J2 : AV → AV → List AObj → Prop) =>
 aX t9 true
 (runD (binD aA .rem t0 (.int .i64 16)) h fun t12 h =>
 runD (binD aA .eql t12 (.int .i64 0)) h fun t13 h =>
 J2 (.bool true) t13 h)
 (J2 (.bool false) .und h))
 (fun t10 t13 h => runD (bP t10 t13 (.bool false)) h fun t14 h =>
 K (.ret t14) h))
def eF.loops : Nat → bX
 | _ => ⟨[], [], [], [], [], []⟩
def eF.H (c : Ctx) (t0 : AV) (h : List AObj) (K : AOut → List AObj → Prop) : Prop :=
 runD (binD aA .lss t0 (.int .i64 1)) h fun t4 h =>
 K (.ret t4) h
theorem fJ.eq (F : List (FuncId × aF)) (S : List (FuncId × Con)) (t0 t1 : AV) (h : List AObj) (K : AOut → List AObj → Prop) : funW (ctx F S fJ.loops) Tryz.f68 [t0, t1] h K = fJ.H (ctx F S fJ.loops) t0 t1 h K := by kernel_rfl
theorem fK.eq (F : List (FuncId × aF)) (S : List (FuncId × Con)) (t0 t1 : AV) (h : List AObj) (K : AOut → List AObj → Prop) : funW (ctx F S fK.loops) Tryz.f80 [t0, t1] h K = fK.H (ctx F S fK.loops) t0 t1 h K := by kernel_rfl
theorem fH.eq (F : List (FuncId × aF)) (S : List (FuncId × Con)) (t0 : AV) (h : List AObj) (K : AOut → List AObj → Prop) : funW (ctx F S fH.loops) Tryz.f94 [t0] h K = fH.H (ctx F S fH.loops) t0 h K := by kernel_rfl
theorem eF.eq (F : List (FuncId × aF)) (S : List (FuncId × Con)) (t0 : AV) (h : List AObj) (K : AOut → List AObj → Prop) : funW (ctx F S eF.loops) Tryz.f103 [t0] h K = eF.H (ctx F S eF.loops) t0 h K := by kernel_rfl
theorem fJ.at : Tryz.prog.funcs[68]? = some Tryz.f68 := by kernel_rfl
theorem fJ.nm : (Tryz.f68.name == "runtime.NumGoroutine") = false := by kernel_rfl
theorem fJ.bd : Tryz.f68.body.isNone = false := by kernel_rfl
theorem fK.at : Tryz.prog.funcs[80]? = some Tryz.f80 := by kernel_rfl
theorem fK.nm : (Tryz.f80.name == "runtime.NumGoroutine") = false := by kernel_rfl
theorem fK.bd : Tryz.f80.body.isNone = false := by kernel_rfl
theorem fH.at : Tryz.prog.funcs[94]? = some Tryz.f94 := by kernel_rfl
theorem fH.nm : (Tryz.f94.name == "runtime.NumGoroutine") = false := by kernel_rfl
theorem fH.bd : Tryz.f94.body.isNone = false := by kernel_rfl
theorem eF.at : Tryz.prog.funcs[103]? = some Tryz.f103 := by kernel_rfl
theorem eF.nm : (Tryz.f103.name == "runtime.NumGoroutine") = false := by kernel_rfl
theorem eF.bd : Tryz.f103.body.isNone = false := by kernel_rfl
end Lam
namespace Lam
open Go Go.Proofs
def cS.loops : Nat → bX
 | 1 => ⟨[], [], [], [(3, none), (5, some [12, 17])], [], []⟩
 | 6 => ⟨[], [], [], [(3, none), (4, some [52, 56])], [], []⟩
 | _ => ⟨[], [], [], [], [], []⟩
def cS.H (c : Ctx) (t0 : AV) (t1 : AV) (h : List AObj) (K : AOut → List AObj → Prop) : Prop :=
 cK bK h fun t4 h =>
 runD (binD aA .lss t1 (.int .i64 0)) h fun t11 h =>
 aM (fun (J1 : AV → AV → List AObj → Prop) =>
 aX t11 false
 (runD (lenD aP h t0) h fun t15 h =>
 runD (binD aA .quo t15 (.int .i64 16)) h fun t16 h =>
 runD (binD aA .geq t1 t16) h fun t17 h =>
 J1 (.bool false) t17 h)
 (J1 (.bool true) .und h))
 (fun t12 t17 h => runD (bP t12 (.bool true) t17) h fun t18 h =>
 aZ t18
 (runD (gC bK []) h fun t19 h =>
 runH (aQ bK h t4 t19) h fun _ h =>
 cL (fitD bK (aD h t4)) fun r0 => K (.ret (.tup [r0, (.int .i64 1)])) h)
 (runD (binD aA .mul (.int .i64 16) t1) h fun t22 h =>
 runD (binD aA .add t1 (.int .i64 1)) h fun t24 h =>
 runD (binD aA .mul (.int .i64 16) t24) h fun t25 h =>
 runD (dO aP h t0 (some t22) (some t25) none) h fun t26 h =>
 runD (aH aP h t26 (.int .i64 0)) h fun t28 h =>
 runD (fitD aA (aD h t28)) h fun t29 h =>
 runD (binD aA .and t29 (.int .i64 15)) h fun t30 h =>
 runD (aH aP h t26 (.int .i64 0)) h fun t32 h =>
 runD (fitD aA (aD h t32)) h fun t33 h =>
 runD (binD aA .andNot t33 (.int .i64 1152921504606846976)) h fun t34 h =>
 runD (binD aA .shr t34 (.int .u64 4)) h fun t35 h =>
 runD (aH aP h t26 (.int .i64 1)) h fun t37 h =>
 runD (fitD aA (aD h t37)) h fun t38 h =>
 runD (aH aP h t26 (.int .i64 2)) h fun t40 h =>
 runD (fitD aA (aD h t40)) h fun t41 h =>
 bB false c.noS (.fn (.func 80) [] []) [t26, (.int .i64 0)] h (fun t43 h =>
 runD (gC bK [(0, t30), (1, t35), (2, t38), (3, t41), (4, t43)]) h fun t44 h =>
 cK bK h fun t7 h =>
 runH (aQ bK h t7 t44) h fun _ h =>
 runD (fitD bK (aD h t7)) h fun t46 h =>
 bB false c (.fn (.func 57) [] []) [t46] h (fun t47 h =>
 runD (bM t47 0) h fun t48 h =>
 runD (bM t47 1) h fun t49 h =>
 runD (binD dD .neq t49 (.int .i64 0)) h fun t51 h =>
 aM (fun (J2 : AV → AV → List AObj → Prop) =>
 aX t51 false
 (bB false c (.fn (.func 35) [] []) [t48, t26] h (fun t55 h =>
 runD (unD .not t55) h fun t56 h =>
 J2 (.bool false) t56 h)
 (fun v h => K (.pan v) h))
 (J2 (.bool true) .und h))
 (fun t52 t56 h => runD (bP t52 (.bool true) t56) h fun t57 h =>
 aZ t57
 (runD (gC bK []) h fun t58 h =>
 runH (aQ bK h t4 t58) h fun _ h =>
 cL (fitD bK (aD h t4)) fun r0 => K (.ret (.tup [r0, (.int .i64 90)])) h)
 (runD (fitD bK (aD h t7)) h fun t59 h =>
 runH (aQ bK h t4 t59) h fun _ h =>
 cL (fitD bK (aD h t4)) fun r0 => K (.ret (.tup [r0, (.int .i64 0)])) h)))
 (fun v h => K (.pan v) h))
 (fun _ _ => False)))
def eJ.loops : Nat → bX
 | _ => ⟨[], [], [], [], [], []⟩
def eJ.H (c : Ctx) (t0 : AV) (h : List AObj) (K : AOut → List AObj → Prop) : Prop :=
 boxW bK t0 h fun t1 h =>
 runD (fitD bK (aD h t1)) h fun t5 h =>
 bB false c (.fn (.func 86) [] []) [t5] h (fun t6 h =>
 runD (unD .not t6) h fun t7 h =>
 aZ t7
 (K (.ret (.tup [(.sl true (.ints .i64 [])), (.int .i64 90)])) h)
 (runD (jD aP (.int .i64 16) (.int .i64 16) h.length) h fun t8 h =>
 runD (fitD bK (aD h t1)) h fun t12 h =>
 bB false c.noS (.fn (.func 87) [] []) [t12] h (fun t13 h =>
 runD (aC bK t1 2) h fun t14 h =>
 runD (fitD aA (aD h t14)) h fun t15 h =>
 runD (aC bK t1 3) h fun t16 h =>
 runD (fitD aA (aD h t16)) h fun t17 h =>
 runD (aH aP h t8 (.int .i64 0)) h fun t18 h =>
 runH (aQ aA h t18 t13) h fun _ h =>
 runD (aH aP h t8 (.int .i64 1)) h fun t19 h =>
 runH (aQ aA h t19 t15) h fun _ h =>
 runD (aH aP h t8 (.int .i64 2)) h fun t20 h =>
 runH (aQ aA h t20 t17) h fun _ h =>
 sepB t18 [t14] = true ∧ sepB t18 [t16] = true ∧ sepB t19 [t16] = true ∧ runD (dO aP h t8 (some (.int .i64 3)) none none) h fun t22 h =>
 runD (aC bK t1 4) h fun t23 h =>
 runD (fitD aP (aD h t23)) h fun t24 h =>
 runM (lA aP h t22 t24) h fun t25 h =>
 K (.ret (.tup [t8, (.int .i64 0)])) h)
 (fun _ _ => False)))
 (fun v h => K (.pan v) h)
def fL.loops : Nat → bX
 | 10 => ⟨[], [], [], [(2, none), (4, some [32, 36])], [], []⟩
 | _ => ⟨[], [], [], [], [], []⟩
def fL.H (c : Ctx) (t0 : AV) (h : List AObj) (K : AOut → List AObj → Prop) : Prop :=
 boxW bK t0 h fun t1 h =>
 aM (fun (J1 : AV → List AObj → Prop) =>
 aM (fun (J2 : List AObj → Prop) =>
 aM (fun (J3 : List AObj → Prop) =>
 runD (aC bK t1 0) h fun t5 h =>
 runD (fitD aA (aD h t5)) h fun t6 h =>
 runD (binD aA .lss t6 (.int .i64 0)) h fun t7 h =>
 aM (fun (J4 : AV → List AObj → Prop) =>
 aZ t7
 (J4 t7 h)
 (runD (aC bK t1 0) h fun t8 h =>
 runD (fitD aA (aD h t8)) h fun t9 h =>
 runD (binD aA .gtr t9 (.int .i64 9)) h fun t10 h =>
 J4 t10 h))
 (fun t4 h => aZ t4
 (J3 h)
 (runD (aC bK t1 1) h fun t12 h =>
 runD (fitD aA (aD h t12)) h fun t13 h =>
 runD (binD aA .lss t13 (.int .i64 0)) h fun t14 h =>
 aM (fun (J5 : AV → List AObj → Prop) =>
 aZ t14
 (J5 t14 h)
 (runD (aC bK t1 1) h fun t15 h =>
 runD (fitD aA (aD h t15)) h fun t16 h =>
 runD (binD aA .gtr t16 (.int .i64 1099511627776)) h fun t17 h =>
 J5 t17 h))
 (fun t11 h => aZ t11
 (J3 h)
 (runD (aC bK t1 2) h fun t19 h =>
 runD (fitD aA (aD h t19)) h fun t20 h =>
 bB false c (.fn (.func 105) [] []) [t20] h (fun t21 h =>
 runD (unD .not t21) h fun t22 h =>
 aM (fun (J6 : AV → List AObj → Prop) =>
 aZ t22
 (J6 t22 h)
 (runD (aC bK t1 3) h fun t23 h =>
 runD (fitD aA (aD h t23)) h fun t24 h =>
 bB false c (.fn (.func 105) [] []) [t24] h (fun t25 h =>
 runD (unD .not t25) h fun t26 h =>
 aM (fun (J7 : AV → List AObj → Prop) =>
 aZ t26
 (J7 t26 h)
 (runD (aC bK t1 4) h fun t27 h =>
 runD (fitD aP (aD h t27)) h fun t28 h =>
 runD (lenD aP h t28) h fun t29 h =>
 runD (binD aA .gtr t29 (.int .i64 13)) h fun t30 h =>
 J7 t30 h))
 (fun t18 h => J6 t18 h))
 (fun v h => K (.pan v) h)))
 (fun t18 h => aZ t18
 (J2 h)
 (J1 (.bool true) h)))
 (fun v h => K (.pan v) h))))))
 (fun h => J2 h))
 (fun h => J1 (.bool false) h))
 (fun t3 h => aM (fun (J8 : AV → AV → List AObj → Prop) =>
 aX t3 true
 (runD (aC bK t1 4) h fun t33 h =>
 runD (fitD aP (aD h t33)) h fun t34 h =>
 bB false c (.fn (.func 106) [] []) [t34, (.fn (.func 107) [] [])] h (fun t35 h =>
 runD (unD .not t35) h fun t36 h =>
 J8 (.bool true) t36 h)
 (fun v h => K (.pan v) h))
 (J8 (.bool false) .und h))
 (fun t32 t36 h => runD (bP t32 t36 (.bool false)) h fun t37 h =>
 K (.ret t37) h))
def fM.loops : Nat → bX
 | _ => ⟨[], [], [], [], [], []⟩
def fM.H (c : Ctx) (t0 : AV) (h : List AObj) (K : AOut → List AObj → Prop) : Prop :=
 boxW bK t0 h fun t1 h =>
 runD (aC bK t1 1) h fun t3 h =>
 runD (fitD aA (aD h t3)) h fun t4 h =>
 runD (binD aA .shl t4 (.int .u64 4)) h fun t5 h =>
 runD (binD aA .or (.int .i64 1152921504606846976) t5) h fun t6 h =>
 runD (aC bK t1 0) h fun t7 h =>
 runD (fitD aA (aD h t7)) h fun t8 h =>
 runD (binD aA .or t6 t8) h fun t9 h =>
 K (.ret t9) h
def eB.loops : Nat → bX
 | 1 => ⟨[], [], [], [(3, none), (2, some [5, 7])], [], []⟩
 | _ => ⟨[], [], [], [], [], []⟩
def eB.H (c : Ctx) (t0 : AV) (h : List AObj) (K : AOut → List AObj → Prop) : Prop :=
 runD (binD aA .geq t0 (.int .i64 0)) h fun t4 h =>
 aM (fun (J1 : AV → AV → List AObj → Prop) =>
 aX t4 true
 (runD (binD aA .lss t0 (.int .i64 256)) h fun t7 h =>
 J1 (.bool true) t7 h)
 (J1 (.bool false) .und h))
 (fun t5 t7 h => runD (bP t5 t7 (.bool false)) h fun t8 h =>
 K (.ret t8) h)
def eG.loops : Nat → bX
 | 1 => ⟨[], [], [], [(3, none), (3, some [5, 8])], [], []⟩
 | _ => ⟨[], [], [], [], [], []⟩
def eG.H (c : Ctx) (t0 : AV) (h : List AObj) (K : AOut → List AObj → Prop) : Prop :=
 runD (binD aA .eql t0 (.int .i64 0)) h fun t4 h =>
 aM (fun (J1 : AV → AV → List AObj → Prop) =>
 aX t4 false
 (bB false c (.fn (.func 105) [] []) [t0] h (fun t7 h =>
 runD (unD .not t7) h fun t8 h =>
 J1 (.bool false) t8 h)
 (fun v h => K (.pan v) h))
 (J1 (.bool true) .und h))
 (fun t5 t8 h => runD (bP t5 (.bool true) t8) h fun t9 h =>
 K (.ret t9) h)
theorem cS.eq (F : List (FuncId × aF)) (S : List (FuncId × Con)) (t0 t1 : AV) (h : List AObj) (K : AOut → List AObj → Prop) : funW (ctx F S cS.loops) Tryz.f46 [t0, t1] h K = cS.H (ctx F S cS.loops) t0 t1 h K := by kernel_rfl
theorem eJ.eq (F : List (FuncId × aF)) (S : List (FuncId × Con)) (t0 : AV) (h : List AObj) (K : AOut → List AObj → Prop) : funW (ctx F S eJ.loops) Tryz.f57 [t0] h K = eJ.H (ctx F S eJ.loops) t0 h K := by kernel_rfl
theorem fL.eq (F : List (FuncId × aF)) (S : List (FuncId × Con)) (t0 : AV) (h : List AObj) (K : AOut → List AObj → Prop) : funW (ctx F S fL.loops) Tryz.f86 [t0] h K = fL.H (ctx F S fL.loops) t0 h K := by kernel_rfl
theorem fM.eq (F : List (FuncId × aF)) (S : List (FuncId × Con)) (t0 : AV) (h : List AObj) (K : AOut → List AObj → Prop) : funW (ctx F S fM.loops) Tryz.f87 [t0] h K = fM.H (ctx F S fM.loops) t0 h K := by kernel_rfl
theorem eB.eq (F : List (FuncId × aF)) (S : List (FuncId × Con)) (t0 : AV) (h : List AObj) (K : AOut → List AObj → Prop) : funW (ctx F S eB.loops) Tryz.f105 [t0] h K = eB.H (ctx F S eB.loops) t0 h K := by kernel_rfl
theorem eG.eq (F : List (FuncId × aF)) (S : List (FuncId × Con)) (t0 : AV) (h : List AObj) (K : AOut → List AObj → Prop) : funW (ctx F S eG.loops) Tryz.f107 [t0] h K = eG.H (ctx F S eG.loops) t0 h K := by kernel_rfl
theorem cS.at : Tryz.prog.funcs[46]? = some Tryz.f46 := by kernel_rfl
theorem cS.nm : (Tryz.f46.name == "runtime.NumGoroutine") = false := by kernel_rfl
theorem cS.bd : Tryz.f46.body.isNone = false := by kernel_rfl
theorem eJ.at : Tryz.prog.funcs[57]? = some Tryz.f57 := by kernel_rfl
theorem eJ.nm : (Tryz.f57.name == "runtime.NumGoroutine") = false := by kernel_rfl
theorem eJ.bd : Tryz.f57.body.isNone = false := by kernel_rfl
theorem fL.at : Tryz.prog.funcs[86]? = some Tryz.f86 := by kernel_rfl
theorem fL.nm : (Tryz.f86.name == "runtime.NumGoroutine") = false := by kernel_rfl
theorem fL.bd : Tryz.f86.body.isNone = false := by kernel_rfl
theorem fM.at : Tryz.prog.funcs[87]? = some Tryz.f87 := by kernel_rfl
theorem fM.nm : (Tryz.f87.name == "runtime.NumGoroutine") = false := by kernel_rfl
theorem fM.bd : Tryz.f87.body.isNone = false := by kernel_rfl
theorem eB.at : Tryz.prog.funcs[105]? = some Tryz.f105 := by kernel_rfl
theorem eB.nm : (Tryz.f105.name == "runtime.NumGoroutine") = false := by kernel_rfl
theorem eB.bd : Tryz.f105.body.isNone = false := by kernel_rfl
theorem eG.at : Tryz.prog.funcs[107]? = some Tryz.f107 := by kernel_rfl
theorem eG.nm : (Tryz.f107.name == "runtime.NumGoroutine") = false := by kernel_rfl
theorem eG.bd : Tryz.f107.body.isNone = false := by kernel_rfl
end Lam
namespace Lam
open Go Go.Proofs
def dG.loops : Nat → bX
 | 1 => ⟨[], [], [], [(8, none), (5, some [14, 19])], [], []⟩
 | 6 => ⟨[28], [false], [1, 3, 4, 26, 27], [], [], []⟩
 | 8 => ⟨[], [], [], [(4, none), (5, some [35, 40]), (2, none), (9, some [42, 51])], [], []⟩
 | 10 => ⟨[], [], [], [(10, none), (3, some [62, 65])], [], []⟩
 | _ => ⟨[], [], [], [], [], []⟩
def dG.L1 (c : Ctx) (J2 : AV → AV → List AObj → Prop) (K : AOut → List AObj → Prop) (lv : List AV) (h0 : List AObj) (n0 : Nat) (c1 : AV) (c3 : AV) (c4 : AV) (c26 : AV) (c27 : AV) : Prop :=
 ∃ I : Nat → List AV → List AObj → Prop, (∃ n, I n lv h0) ∧ ∀ n h, ∀ t28, I n [t28] h →
 runD (binD aA .lss t28 c27) h fun t29 h =>
 aZ t29
 (runD (aH bY h c26 t28) h fun t30 h =>
 runD (fitD cN (aD h t30)) h fun t31 h =>
 cK cN h fun t6 h =>
 runH (aQ cN h t6 t31) h fun _ h =>
 runD (aC cN t6 0) h fun t32 h =>
 runD (fitD aA (aD h t32)) h fun t33 h =>
 runD (binD aA .lss t33 (.int .i64 0)) h fun t34 h =>
 aM (fun (J3 : AV → AV → List AObj → Prop) =>
 aX t34 false
 (runD (aC cN t6 0) h fun t36 h =>
 runD (fitD aA (aD h t36)) h fun t37 h =>
 runD (lenD aP h c3) h fun t39 h =>
 runD (binD aA .geq t37 t39) h fun t40 h =>
 J3 (.bool false) t40 h)
 (J3 (.bool true) .und h))
 (fun t35 t40 h => runD (bP t35 (.bool true) t40) h fun t41 h =>
 aM (fun (J4 : AV → AV → List AObj → Prop) =>
 aX t41 false
 (runD (aC cN t6 2) h fun t43 h =>
 runD (fitD lT (aD h t43)) h fun t44 h =>
 aM (fun (J5 : AV → AV → List AObj → Prop) =>
 aX t44 true
 (runD (aC cN t6 0) h fun t47 h =>
 runD (fitD aA (aD h t47)) h fun t48 h =>
 runD (binD aA .quo t48 (.int .i64 8)) h fun t49 h =>
 runD (kS kV h c4 t49) h fun t50 h =>
 J5 (.bool true) t50 h)
 (J5 (.bool false) .und h))
 (fun t45 t50 h => runD (bP t45 t50 (.bool false)) h fun t51 h =>
 J4 (.bool false) t51 h))
 (J4 (.bool true) .und h))
 (fun t42 t51 h => runD (bP t42 (.bool true) t51) h fun t52 h =>
 aZ t52
 (K (.ret (.bool false)) h)
 (runD (aC cN t6 0) h fun t54 h =>
 runD (fitD aA (aD h t54)) h fun t55 h =>
 runD (binD aA .quo t55 (.int .i64 8)) h fun t56 h =>
 runD (aC cN t6 0) h fun t58 h =>
 runD (fitD aA (aD h t58)) h fun t59 h =>
 runD (binD aA .quo t59 (.int .i64 8)) h fun t60 h =>
 runD (kS kV h c4 t60) h fun t61 h =>
 aM (fun (J6 : AV → AV → List AObj → Prop) =>
 aX t61 false
 (runD (aC cN t6 2) h fun t63 h =>
 runD (fitD lT (aD h t63)) h fun t64 h =>
 runD (unD .not t64) h fun t65 h =>
 J6 (.bool false) t65 h)
 (J6 (.bool true) .und h))
 (fun t62 t65 h => runD (bP t62 (.bool true) t65) h fun t66 h =>
 runH (iQ kV h c4 t56 t66) h fun _ h =>
 runD (aC cN t6 0) h fun t68 h =>
 runD (fitD aA (aD h t68)) h fun t69 h =>
 runD (aC cN t6 1) h fun t70 h =>
 runD (fitD aA (aD h t70)) h fun t71 h =>
 runD (aH aP h c3 t69) h fun t72 h =>
 runH (aQ aA h t72 t71) h fun _ h =>
 runD (binD aA .add t28 (.int .i64 1)) h fun t73 h =>
 (∃ m, m < n ∧ I m (AV.norms n0 h [t73]) (cG n0 h)) ∧ AV.norms n0 h [c1, c3, c4, c26, c27] = [c1, c3, c4, c26, c27])))))
 (J2 c1 c3 h)
def dG.H (c : Ctx) (t0 : AV) (h : List AObj) (K : AOut → List AObj → Prop) : Prop :=
 boxW aL t0 h fun t1 h =>
 runD (aC aL t1 0) h fun t7 h =>
 runD (fitD aP (aD h t7)) h fun t8 h =>
 runD (lenD aP h t8) h fun t9 h =>
 runD (aC aL t1 1) h fun t10 h =>
 runD (fitD aP (aD h t10)) h fun t11 h =>
 runD (lenD aP h t11) h fun t12 h =>
 runD (binD aA .neq t9 t12) h fun t13 h =>
 aM (fun (J1 : AV → AV → List AObj → Prop) =>
 aX t13 false
 (runD (aC aL t1 0) h fun t15 h =>
 runD (fitD aP (aD h t15)) h fun t16 h =>
 runD (lenD aP h t16) h fun t17 h =>
 bB false c (.fn (.func 33) [] []) [t17] h (fun t18 h =>
 runD (unD .not t18) h fun t19 h =>
 J1 (.bool false) t19 h)
 (fun v h => K (.pan v) h))
 (J1 (.bool true) .und h))
 (fun t14 t19 h => runD (bP t14 (.bool true) t19) h fun t20 h =>
 aZ t20
 (K (.ret (.bool false)) h)
 (runD (aC aL t1 1) h fun t21 h =>
 runD (fitD aP (aD h t21)) h fun t22 h =>
 bB false c (.fn (.func 34) [] []) [t22] h (fun t23 h =>
 runD (jP kV h.length) h fun t24 h =>
 runD (aC aL t1 2) h fun t25 h =>
 runD (fitD bY (aD h t25)) h fun t26 h =>
 runD (lenD bY h t26) h fun t27 h =>
 aM (fun (J2 : AV → AV → List AObj → Prop) =>
 dE [false] [(.int .i64 0)] h fun lv h => dG.L1 c J2 K (AV.norms h.length h lv) (cG h.length h) h.length (AV.norm h.length h t1) (AV.norm h.length h t23) (AV.norm h.length h t24) (AV.norm h.length h t26) (AV.norm h.length h t27))
 (fun t1 t3 h => runD (aC aL t1 0) h fun t75 h =>
 runD (fitD aP (aD h t75)) h fun t76 h =>
 bB false c (.fn (.func 35) [] []) [t3, t76] h (fun t77 h =>
 K (.ret t77) h)
 (fun v h => K (.pan v) h)))
 (fun v h => K (.pan v) h)))
def gM.loops : Nat → bX
 | _ => ⟨[], [], [], [], [], []⟩
def gM.H (c : Ctx) (t0 : AV) (h : List AObj) (K : AOut → List AObj → Prop) : Prop :=
 cK aL h fun t2 h =>
 runD (lenD aP h t0) h fun t5 h =>
 bB false c (.fn (.func 33) [] []) [t5] h (fun t6 h =>
 runD (unD .not t6) h fun t7 h =>
 aZ t7
 (runD (gC aL []) h fun t8 h =>
 runH (aQ aL h t2 t8) h fun _ h =>
 cL (fitD aL (aD h t2)) fun r0 => K (.ret (.tup [r0, (.int .i64 40)])) h)
 (bB false c (.fn (.func 34) [] []) [t0] h (fun t10 h =>
 bB false c (.fn (.func 34) [] []) [t0] h (fun t12 h =>
 runD (gC aL [(0, t10), (1, t12)]) h fun t13 h =>
 runH (aQ aL h t2 t13) h fun _ h =>
 cL (fitD aL (aD h t2)) fun r0 => K (.ret (.tup [r0, (.int .i64 0)])) h)
 (fun v h => K (.pan v) h))
 (fun v h => K (.pan v) h)))
 (fun v h => K (.pan v) h)
def eK.loops : Nat → bX
 | 1 => ⟨[], [], [], [(3, none), (3, some [5, 8])], [], []⟩
 | _ => ⟨[], [], [], [], [], []⟩
def eK.H (c : Ctx) (t0 : AV) (h : List AObj) (K : AOut → List AObj → Prop) : Prop :=
 runD (binD aA .leq t0 (.int .i64 4096)) h fun t4 h =>
 aM (fun (J1 : AV → AV → List AObj → Prop) =>
 aX t4 true
 (runD (binD aA .rem t0 (.int .i64 8)) h fun t7 h =>
 runD (binD aA .eql t7 (.int .i64 0)) h fun t8 h =>
 J1 (.bool true) t8 h)
 (J1 (.bool false) .und h))
 (fun t5 t8 h => runD (bP t5 t8 (.bool false)) h fun t9 h =>
 K (.ret t9) h)
def gN.loops : Nat → bX
 | _ => ⟨[], [], [], [], [], []⟩
def gN.H (c : Ctx) (t0 : AV) (t1 : AV) (t2 : AV) (h : List AObj) (K : AOut → List AObj → Prop) : Prop :=
 boxW aL t0 h fun t3 h =>
 cK aL h fun t6 h =>
 runD (fitD aL (aD h t3)) h fun t9 h =>
 bB false c (.fn (.func 152) [] []) [t9, t1] h (fun t11 h =>
 runD (unD .not t11) h fun t12 h =>
 aZ t12
 (runD (fitD aL (aD h t3)) h fun t13 h =>
 runH (aQ aL h t6 t13) h fun _ h =>
 cL (fitD aL (aD h t6)) fun r0 => K (.ret (.tup [r0, (.int .i64 40)])) h)
 (runD (aC aL t3 0) h fun t14 h =>
 runD (fitD aP (aD h t14)) h fun t15 h =>
 runD (lenD aP h t15) h fun t16 h =>
 runD (jD aP t16 t16 h.length) h fun t17 h =>
 runD (aC aL t3 0) h fun t19 h =>
 runD (fitD aP (aD h t19)) h fun t20 h =>
 runM (lA aP h t17 t20) h fun t21 h =>
 runD (aH aP h t17 t1) h fun t25 h =>
 runH (aQ aA h t25 t2) h fun _ h =>
 runD (aC aL t3 1) h fun t27 h =>
 runD (fitD aP (aD h t27)) h fun t28 h =>
 runD (aC aL t3 2) h fun t29 h =>
 runD (fitD bY (aD h t29)) h fun t30 h =>
 bB false c.noS (.fn (.func 153) [] []) [t30] h (fun t31 h =>
 runD (gC cN [(0, t1), (1, t2)]) h fun t34 h =>
 runD (fD bY 1 [(0, t34)] h.length) h fun t35 h =>
 jE (fT bY h t31 t35 h.length) (gJ bY h t31 t35) h fun t36 h =>
 runD (gC aL [(0, t17), (1, t28), (2, t36)]) h fun t37 h =>
 runH (aQ aL h t6 t37) h fun _ h =>
 sepB t31 [t27] = true ∧ cL (fitD aL (aD h t6)) fun r0 => K (.ret (.tup [r0, (.int .i64 0)])) h)
 (fun _ _ => False)))
 (fun v h => K (.pan v) h)
def fE.loops : Nat → bX
 | _ => ⟨[], [], [], [], [], []⟩
def fE.H (c : Ctx) (t0 : AV) (t1 : AV) (h : List AObj) (K : AOut → List AObj → Prop) : Prop :=
 boxW aL t0 h fun t2 h =>
 cK aL h fun t4 h =>
 runD (fitD aL (aD h t2)) h fun t8 h =>
 runD (fitD aL (aD h t2)) h fun t9 h =>
 bB false c.noS (.fn (.func 154) [] []) [t9, t1] h (fun t11 h =>
 bB false c.noS (.fn (.func 152) [] []) [t8, t11] h (fun t12 h =>
 runD (unD .not t12) h fun t13 h =>
 aZ t13
 (runD (fitD aL (aD h t2)) h fun t14 h =>
 runH (aQ aL h t4 t14) h fun _ h =>
 cL (fitD aL (aD h t4)) fun r0 => K (.ret (.tup [r0, (.int .i64 40)])) h)
 (runD (aC aL t2 2) h fun t15 h =>
 runD (fitD bY (aD h t15)) h fun t16 h =>
 bB false c (.fn (.func 155) [] []) [t16] h (fun t17 h =>
 cK bY h fun t6 h =>
 runH (aQ bY h t6 t17) h fun _ h =>
 runD (fitD aL (aD h t2)) h fun t18 h =>
 bB false c (.fn (.func 156) [] []) [t18, t1] h (fun t20 h =>
 aM (fun (J1 : AV → AV → AV → List AObj → Prop) =>
 vQ c.iterS t20 h
 (fun id r args h K => lpIs h id .ready r ∧ aAi args fun t21 =>
 lpIs h id .ready r ∧
 runD (fitD bY (aD (List.set h id (.lp .busy none r)) t6)) (List.set h id (.lp .busy none r)) fun t22 h =>
 runD (aH bY h t22 t21) h fun t24 h =>
 runD (aC cN t24 2) h fun t25 h =>
 runH (aQ lT h t25 (.bool true)) h fun _ h =>
 lpIs h id .busy r ∧ K (.ret (.bool true)) (List.set h id (.lp .ready none r)))
 (fun id r ao h => endX id r ao h
 (fun h => J1 t2 t4 t6 h)
 (fun h => cL (fitD aL (aD h t4)) fun r0 => K (.ret (.tup [r0, (.int .i64 0)])) h)
 (fun i h => aEx i 0 (J1 t2 t4 t6 h) (False))
 (fun l h => False)
 (fun v h => K (.pan v) h)))
 (fun t2 t4 t6 h => runD (fitD bY (aD h t6)) h fun t26 h =>
 runD (aC aL t2 2) h fun t27 h =>
 runH (aQ bY h t27 t26) h fun _ h =>
 runD (fitD aL (aD h t2)) h fun t28 h =>
 runH (aQ aL h t4 t28) h fun _ h =>
 cL (fitD aL (aD h t4)) fun r0 => K (.ret (.tup [r0, (.int .i64 0)])) h))
 (fun v h => K (.pan v) h))
 (fun v h => K (.pan v) h)))
 (fun _ _ => False))
 (fun _ _ => False)
def fF.loops : Nat → bX
 | _ => ⟨[], [], [], [], [], []⟩
def fF.H (c : Ctx) (t0 : AV) (h : List AObj) (K : AOut → List AObj → Prop) : Prop :=
 boxW aL t0 h fun t1 h =>
 cK aL h fun t2 h =>
 runD (fitD aL (aD h t1)) h fun t4 h =>
 bB false c (.fn (.func 13) [] []) [t4] h (fun t5 h =>
 runD (unD .not t5) h fun t6 h =>
 aZ t6
 (runD (fitD aL (aD h t1)) h fun t7 h =>
 runH (aQ aL h t2 t7) h fun _ h =>
 cL (fitD aL (aD h t2)) fun r0 => K (.ret (.tup [r0, (.int .i64 40)])) h)
 (runD (fitD aL (aD h t1)) h fun t8 h =>
 bB false c (.fn (.func 157) [] []) [t8, (.fn (.func 158) [] [])] h (fun t9 h =>
 runH (aQ aL h t2 t9) h fun _ h =>
 cL (fitD aL (aD h t2)) fun r0 => K (.ret (.tup [r0, (.int .i64 0)])) h)
 (fun v h => K (.pan v) h)))
 (fun v h => K (.pan v) h)
def eL.loops : Nat → bX
 | 1 => ⟨[], [], [], [(3, none), (5, some [7, 12]), (2, none), (2, some [14, 16])], [], []⟩
 | _ => ⟨[], [], [], [], [], []⟩
def eL.H (c : Ctx) (t0 : AV) (t1 : AV) (h : List AObj) (K : AOut → List AObj → Prop) : Prop :=
 boxW aL t0 h fun t2 h =>
 runD (binD aA .geq t1 (.int .i64 0)) h fun t6 h =>
 aM (fun (J1 : AV → AV → List AObj → Prop) =>
 aX t6 true
 (runD (aC aL t2 0) h fun t9 h =>
 runD (fitD aP (aD h t9)) h fun t10 h =>
 runD (lenD aP h t10) h fun t11 h =>
 runD (binD aA .lss t1 t11) h fun t12 h =>
 J1 (.bool true) t12 h)
 (J1 (.bool false) .und h))
 (fun t7 t12 h => runD (bP t7 t12 (.bool false)) h fun t13 h =>
 aM (fun (J2 : AV → AV → List AObj → Prop) =>
 aX t13 true
 (runD (fitD aL (aD h t2)) h fun t15 h =>
 bB false c (.fn (.func 13) [] []) [t15] h (fun t16 h =>
 J2 (.bool true) t16 h)
 (fun v h => K (.pan v) h))
 (J2 (.bool false) .und h))
 (fun t14 t16 h => runD (bP t14 t16 (.bool false)) h fun t17 h =>
 K (.ret t17) h))
def fN.loops : Nat → bX
 | 1 => ⟨[], [], [], [(3, none), (6, some [7, 13])], [], []⟩
 | _ => ⟨[], [], [], [], [], []⟩
def fN.H (c : Ctx) (t0 : AV) (t1 : AV) (h : List AObj) (K : AOut → List AObj → Prop) : Prop :=
 boxW aL t0 h fun t2 h =>
 runD (binD aA .lss t1 (.int .i64 0)) h fun t6 h =>
 aM (fun (J1 : AV → AV → List AObj → Prop) =>
 aX t6 false
 (runD (aC aL t2 0) h fun t9 h =>
 runD (fitD aP (aD h t9)) h fun t10 h =>
 runD (lenD aP h t10) h fun t11 h =>
 runD (binD aA .quo t11 (.int .i64 8)) h fun t12 h =>
 runD (binD aA .geq t1 t12) h fun t13 h =>
 J1 (.bool false) t13 h)
 (J1 (.bool true) .und h))
 (fun t7 t13 h => runD (bP t7 (.bool true) t13) h fun t14 h =>
 aZ t14
 (K (.ret (.int .i64 (-1))) h)
 (runD (binD aA .mul t1 (.int .i64 8)) h fun t16 h =>
 K (.ret t16) h))
def gV.loops : Nat → bX
 | _ => ⟨[], [], [], [], [], []⟩
def gV.H (c : Ctx) (t0 : AV) (t1 : AV) (h : List AObj) (K : AOut → List AObj → Prop) : Prop :=
 boxW aL t0 h fun t2 h =>
 boxW aA t1 h fun t3 h =>
 K (.ret (.fn (.func 159) [] [t2, t3])) h
def eP.loops : Nat → bX
 | 3 => ⟨[17], [false], [1, 4, 5, 15, 16], [], [5], []⟩
 | _ => ⟨[], [], [], [], [], []⟩
def eP.L1 (c : Ctx) (J1 : AV → AV → List AObj → Prop) (K : AOut → List AObj → Prop) (lv : List AV) (h0 : List AObj) (n0 : Nat) (c1 : AV) (c4 : AV) (c5 : AV) (c15 : AV) (c16 : AV) : Prop :=
 ∃ I : Nat → List AV → List AObj → Prop, (∃ n, I n lv h0) ∧ ∀ n h, ∀ t17, I n [t17] h →
 runD (binD aA .lss t17 c16) h fun t18 h =>
 aZ t18
 (aM (fun (J2 : List AObj → Prop) =>
 runD (aH bY h c15 t17) h fun t19 h =>
 runD (fitD cN (aD h t19)) h fun t20 h =>
 cK cN h fun t7 h =>
 runH (aQ cN h t7 t20) h fun _ h =>
 runD (fitD cN (aD h t7)) h fun t22 h =>
 bB false c c1 [t22] h (fun t23 h =>
 aZ t23
 (runD (aC aL c5 1) h fun t24 h =>
 runD (fitD aP (aD h t24)) h fun t25 h =>
 runD (aC cN t7 0) h fun t26 h =>
 runD (fitD aA (aD h t26)) h fun t27 h =>
 runD (aC cN t7 1) h fun t28 h =>
 runD (fitD aA (aD h t28)) h fun t29 h =>
 runD (aH aP h t25 t27) h fun t30 h =>
 runH (aQ aA h t30 t29) h fun _ h =>
 J2 h)
 (runD (aC aL c5 2) h fun t31 h =>
 runD (fitD bY (aD h t31)) h fun t32 h =>
 runD (fitD cN (aD h t7)) h fun t33 h =>
 runD (fD bY 1 [(0, t33)] h.length) h fun t34 h =>
 jE (fT bY h t32 t34 h.length) (gJ bY h t32 t34) h fun t35 h =>
 runD (aC aL c5 2) h fun t36 h =>
 runH (aQ bY h t36 t35) h fun _ h =>
 J2 h))
 (fun v h => K (.pan v) h))
 (fun h => runD (binD aA .add t17 (.int .i64 1)) h fun t37 h =>
 (∃ m, m < n ∧ I m (AV.norms n0 h [t37]) (cG n0 h)) ∧ AV.norms n0 h [c1, c4, c5, c15, c16] = [c1, c4, c5, c15, c16]))
 (J1 c4 c5 h)
def eP.H (c : Ctx) (t0 : AV) (t1 : AV) (h : List AObj) (K : AOut → List AObj → Prop) : Prop :=
 boxW aL t0 h fun t2 h =>
 cK aL h fun t4 h =>
 runD (aC aL t2 0) h fun t8 h =>
 runD (fitD aP (aD h t8)) h fun t9 h =>
 runD (aC aL t2 1) h fun t10 h =>
 runD (fitD aP (aD h t10)) h fun t11 h =>
 bB false c.noS (.fn (.func 34) [] []) [t11] h (fun t12 h =>
 runD (gC aL [(0, t9), (1, t12)]) h fun t13 h =>
 cK aL h fun t5 h =>
 runH (aQ aL h t5 t13) h fun _ h =>
 runD (aC aL t2 2) h fun t14 h =>
 runD (fitD bY (aD h t14)) h fun t15 h =>
 runD (lenD bY h t15) h fun t16 h =>
 aM (fun (J1 : AV → AV → List AObj → Prop) =>
 dE [false] [(.int .i64 0)] (boxH [t5] h) fun lv h => eP.L1 c J1 K (AV.norms h.length h lv) (cG h.length h) h.length (AV.norm h.length h t1) (AV.norm h.length h t4) (AV.norm h.length h t5) (AV.norm h.length h t15) (AV.norm h.length h t16))
 (fun t4 t5 h => runD (fitD aL (aD h t5)) h fun t38 h =>
 runH (aQ aL h t4 t38) h fun _ h =>
 cL (fitD aL (aD h t4)) fun r0 => K (.ret r0) h))
 (fun _ _ => False)
def dQ.loops : Nat → bX
 | _ => ⟨[], [], [], [], [], []⟩
def dQ.H (c : Ctx) (t0 : AV) (h : List AObj) (K : AOut → List AObj → Prop) : Prop :=
 boxW cN t0 h fun t1 h =>
 runD (aC cN t1 2) h fun t3 h =>
 runD (fitD lT (aD h t3)) h fun t4 h =>
 K (.ret t4) h
def eQ.loops : Nat → bX
 | 1 => ⟨[9], [false], [0, 2, 7, 8], [], [], []⟩
 | 3 => ⟨[], [], [], [(6, none), (4, some [19, 23])], [], []⟩
 | _ => ⟨[], [], [], [], [], []⟩
def eQ.L1 (c : Ctx) (J1 : List AObj → Prop) (K : AOut → List AObj → Prop) (lv : List AV) (h0 : List AObj) (n0 : Nat) (c0 : AV) (c2 : AV) (c7 : AV) (c8 : AV) : Prop :=
 ∃ I : Nat → List AV → List AObj → Prop, (∃ n, I n lv h0) ∧ ∀ n h, ∀ t9, I n [t9] h →
 runD (binD aA .lss t9 c8) h fun t10 h =>
 aZ t10
 (runD (aH bY h c7 t9) h fun t12 h =>
 runD (fitD cN (aD h t12)) h fun t13 h =>
 cK cN h fun t5 h =>
 runH (aQ cN h t5 t13) h fun _ h =>
 runD (aC cN t5 0) h fun t14 h =>
 runD (fitD aA (aD h t14)) h fun t15 h =>
 runD (binD aA .quo t15 (.int .i64 8)) h fun t16 h =>
 runD (fitD aA (aD h c2)) h fun t17 h =>
 runD (binD aA .eql t16 t17) h fun t18 h =>
 aM (fun (J2 : AV → AV → List AObj → Prop) =>
 aX t18 true
 (bB false c c0 [t9] h (fun t22 h =>
 runD (unD .not t22) h fun t23 h =>
 J2 (.bool true) t23 h)
 (fun v h => K (.pan v) h))
 (J2 (.bool false) .und h))
 (fun t19 t23 h => runD (bP t19 t23 (.bool false)) h fun t24 h =>
 aZ t24
 (K (.ret (.tup [])) h)
 (runD (binD aA .add t9 (.int .i64 1)) h fun t25 h =>
 (∃ m, m < n ∧ I m (AV.norms n0 h [t25]) (cG n0 h)) ∧ AV.norms n0 h [c0, c2, c7, c8] = [c0, c2, c7, c8])))
 (J1 h)
def eQ.H (c : Ctx) (t0 : AV) (t1 : AV) (t2 : AV) (h : List AObj) (K : AOut → List AObj → Prop) : Prop :=
 runD (aC aL t1 2) h fun t6 h =>
 runD (fitD bY (aD h t6)) h fun t7 h =>
 runD (lenD bY h t7) h fun t8 h =>
 aM (fun (J1 : List AObj → Prop) =>
 dE [false] [(.int .i64 0)] h fun lv h => eQ.L1 c J1 K (AV.norms h.length h lv) (cG h.length h) h.length (AV.norm h.length h t0) (AV.norm h.length h t2) (AV.norm h.length h t7) (AV.norm h.length h t8))
 (fun h => K (.ret (.tup [])) h)
theorem dG.eq (F : List (FuncId × aF)) (S : List (FuncId × Con)) (t0 : AV) (h : List AObj) (K : AOut → List AObj → Prop) : funW (ctx F S dG.loops) Tryz.f13 [t0] h K = dG.H (ctx F S dG.loops) t0 h K := by kernel_rfl
theorem gM.eq (F : List (FuncId × aF)) (S : List (FuncId × Con)) (t0 : AV) (h : List AObj) (K : AOut → List AObj → Prop) : funW (ctx F S gM.loops) Tryz.f28 [t0] h K = gM.H (ctx F S gM.loops) t0 h K := by kernel_rfl
theorem eK.eq (F : List (FuncId × aF)) (S : List (FuncId × Con)) (t0 : AV) (h : List AObj) (K : AOut → List AObj → Prop) : funW (ctx F S eK.loops) Tryz.f33 [t0] h K = eK.H (ctx F S eK.loops) t0 h K := by kernel_rfl
theorem gN.eq (F : List (FuncId × aF)) (S : List (FuncId × Con)) (t0 t1 t2 : AV) (h : List AObj) (K : AOut → List AObj → Prop) : funW (ctx F S gN.loops) Tryz.f148 [t0, t1, t2] h K = gN.H (ctx F S gN.loops) t0 t1 t2 h K := by kernel_rfl
theorem fE.eq (F : List (FuncId × aF)) (S : List (FuncId × Con)) (Is : List (FuncId × (Con → Con))) (t0 t1 : AV) (h : List AObj) (K : AOut → List AObj → Prop) : funW (ctxI F S Is fE.loops) Tryz.f149 [t0, t1] h K = fE.H (ctxI F S Is fE.loops) t0 t1 h K := by kernel_rfl
theorem fF.eq (F : List (FuncId × aF)) (S : List (FuncId × Con)) (t0 : AV) (h : List AObj) (K : AOut → List AObj → Prop) : funW (ctx F S fF.loops) Tryz.f150 [t0] h K = fF.H (ctx F S fF.loops) t0 h K := by kernel_rfl
theorem eL.eq (F : List (FuncId × aF)) (S : List (FuncId × Con)) (t0 t1 : AV) (h : List AObj) (K : AOut → List AObj → Prop) : funW (ctx F S eL.loops) Tryz.f152 [t0, t1] h K = eL.H (ctx F S eL.loops) t0 t1 h K := by kernel_rfl
theorem fN.eq (F : List (FuncId × aF)) (S : List (FuncId × Con)) (t0 t1 : AV) (h : List AObj) (K : AOut → List AObj → Prop) : funW (ctx F S fN.loops) Tryz.f154 [t0, t1] h K = fN.H (ctx F S fN.loops) t0 t1 h K := by kernel_rfl
theorem gV.eq (F : List (FuncId × aF)) (S : List (FuncId × Con)) (t0 t1 : AV) (h : List AObj) (K : AOut → List AObj → Prop) : funW (ctx F S gV.loops) Tryz.f156 [t0, t1] h K = gV.H (ctx F S gV.loops) t0 t1 h K := by kernel_rfl
theorem eP.eq (F : List (FuncId × aF)) (S : List (FuncId × Con)) (t0 t1 : AV) (h : List AObj) (K : AOut → List AObj → Prop) : funW (ctx F S eP.loops) Tryz.f157 [t0, t1] h K = eP.H (ctx F S eP.loops) t0 t1 h K := by kernel_rfl
theorem dQ.eq (F : List (FuncId × aF)) (S : List (FuncId × Con)) (t0 : AV) (h : List AObj) (K : AOut → List AObj → Prop) : funW (ctx F S dQ.loops) Tryz.f158 [t0] h K = dQ.H (ctx F S dQ.loops) t0 h K := by kernel_rfl
theorem eQ.eq (F : List (FuncId × aF)) (S : List (FuncId × Con)) (l : Nat) (Y : Con) (t0 t1 t2 : AV) (h : List AObj) (K : AOut → List AObj → Prop) : funW ((ctx F S eQ.loops).withY l Y) Tryz.f159 [t0, t1, t2] h K = eQ.H ((ctx F S eQ.loops).withY l Y) t0 t1 t2 h K := by kernel_rfl
theorem dG.at : Tryz.prog.funcs[13]? = some Tryz.f13 := by kernel_rfl
theorem dG.nm : (Tryz.f13.name == "runtime.NumGoroutine") = false := by kernel_rfl
theorem dG.bd : Tryz.f13.body.isNone = false := by kernel_rfl
theorem gM.at : Tryz.prog.funcs[28]? = some Tryz.f28 := by kernel_rfl
theorem gM.nm : (Tryz.f28.name == "runtime.NumGoroutine") = false := by kernel_rfl
theorem gM.bd : Tryz.f28.body.isNone = false := by kernel_rfl
theorem eK.at : Tryz.prog.funcs[33]? = some Tryz.f33 := by kernel_rfl
theorem eK.nm : (Tryz.f33.name == "runtime.NumGoroutine") = false := by kernel_rfl
theorem eK.bd : Tryz.f33.body.isNone = false := by kernel_rfl
theorem gN.at : Tryz.prog.funcs[148]? = some Tryz.f148 := by kernel_rfl
theorem gN.nm : (Tryz.f148.name == "runtime.NumGoroutine") = false := by kernel_rfl
theorem gN.bd : Tryz.f148.body.isNone = false := by kernel_rfl
theorem fE.at : Tryz.prog.funcs[149]? = some Tryz.f149 := by kernel_rfl
theorem fE.nm : (Tryz.f149.name == "runtime.NumGoroutine") = false := by kernel_rfl
theorem fE.bd : Tryz.f149.body.isNone = false := by kernel_rfl
theorem fF.at : Tryz.prog.funcs[150]? = some Tryz.f150 := by kernel_rfl
theorem fF.nm : (Tryz.f150.name == "runtime.NumGoroutine") = false := by kernel_rfl
theorem fF.bd : Tryz.f150.body.isNone = false := by kernel_rfl
theorem eL.at : Tryz.prog.funcs[152]? = some Tryz.f152 := by kernel_rfl
theorem eL.nm : (Tryz.f152.name == "runtime.NumGoroutine") = false := by kernel_rfl
theorem eL.bd : Tryz.f152.body.isNone = false := by kernel_rfl
theorem fN.at : Tryz.prog.funcs[154]? = some Tryz.f154 := by kernel_rfl
theorem fN.nm : (Tryz.f154.name == "runtime.NumGoroutine") = false := by kernel_rfl
theorem fN.bd : Tryz.f154.body.isNone = false := by kernel_rfl
theorem gV.at : Tryz.prog.funcs[156]? = some Tryz.f156 := by kernel_rfl
theorem gV.nm : (Tryz.f156.name == "runtime.NumGoroutine") = false := by kernel_rfl
theorem gV.bd : Tryz.f156.body.isNone = false := by kernel_rfl
theorem eP.at : Tryz.prog.funcs[157]? = some Tryz.f157 := by kernel_rfl
theorem eP.nm : (Tryz.f157.name == "runtime.NumGoroutine") = false := by kernel_rfl
theorem eP.bd : Tryz.f157.body.isNone = false := by kernel_rfl
theorem dQ.at : Tryz.prog.funcs[158]? = some Tryz.f158 := by kernel_rfl
theorem dQ.nm : (Tryz.f158.name == "runtime.NumGoroutine") = false := by kernel_rfl
theorem dQ.bd : Tryz.f158.body.isNone = false := by kernel_rfl
theorem eQ.at : Tryz.prog.funcs[159]? = some Tryz.f159 := by kernel_rfl
theorem eQ.nm : (Tryz.f159.name == "runtime.NumGoroutine") = false := by kernel_rfl
theorem eQ.bd : Tryz.f159.body.isNone = false := by kernel_rfl
end Lam
