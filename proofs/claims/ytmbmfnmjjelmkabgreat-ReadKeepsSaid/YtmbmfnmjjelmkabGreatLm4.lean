/- What functions of the program come to, each proved from its code. -/
import Derived.Test.YtmbmfnmjjelmkabGreatLm3
import Derived.Attr
import Derived.KernelRfl
import Derived.Test.YtmbmfnmjjelmkabGreatProg
import Derived.WideLaws
set_option linter.unusedVariables false
set_option linter.unusedSimpArgs false
set_option linter.unnecessarySimpa false
set_option linter.unusedSectionVars false
namespace Lam
open Go

/-- bits of whole numbers -/
def xorI (k : IntKind) (a b : Int) : Int := k.wrap (BitVec.ofInt k.bits a ^^^ BitVec.ofInt k.bits b).toNat
def andI (k : IntKind) (a b : Int) : Int := k.wrap (BitVec.ofInt k.bits a &&& BitVec.ofInt k.bits b).toNat
def orI (k : IntKind) (a b : Int) : Int := k.wrap (BitVec.ofInt k.bits a ||| BitVec.ofInt k.bits b).toNat
def andNotI (k : IntKind) (a b : Int) : Int := k.wrap (BitVec.ofInt k.bits a &&& ~~~ BitVec.ofInt k.bits b).toNat
def notI (k : IntKind) (a : Int) : Int := k.wrap (BitVec.ofInt k.bits (if k.signed then -1 else k.max) ^^^ BitVec.ofInt k.bits a).toNat

section runs
variable (S : Prop) (v : AV) (news h : List AObj) (K KP : AV → List AObj → Prop)
@[go_sem] theorem runD_p : runD (pD S v) h K = (S ∧ K v h) := by simp [pD, runD]
@[go_sem] theorem aGW : runD (some (S, v, news)) h K = (S ∧ K v (h ++ news)) := (rfl)
@[go_sem] theorem aGX (id : Nat) (o : AObj) : runH (some (S, id, o)) h K = (S ∧ K .und (h.set id o)) := (rfl)
@[go_sem] theorem aGY (id : Nat) (o : AObj) : runM (some (S, v, id, o)) h K = (S ∧ K v (h.set id o)) := (rfl)
@[go_sem] theorem runDM_p (y) : runDM (pD S v) y h K = (S ∧ K v h) := by simp [pD, runDM]
@[go_sem] theorem aEp (y) : runDM (some (S, v, news)) y h K = (S ∧ K v (h ++ news)) := (rfl)
@[go_sem] theorem aEq (y) : runDM none y h K = runM y h K := (rfl)
@[go_sem] theorem aCZ (n : Nat) : nilEqO (some n) h K = ∀ b : Bool, (b = true → n = 0) → K (.bool b) h := (rfl)
@[go_sem] theorem aGZ (d : TyD) : allocW d h K = (zeroP d ∧ K (.ptr h.length []) (h ++ [boxO d.zero])) := (rfl)
@[go_sem] theorem aHa (m : MK) : zeroP (.map m) = True := (rfl)
@[go_sem] theorem aHb (k : IntKind) : zeroP (.int k) = fitP (.int k) (TyD.int k).zero := (rfl)
@[go_sem] theorem aEr : zeroP .bool = fitP .bool TyD.bool.zero := (rfl)
@[go_sem] theorem aHc : zeroP .str = fitP .str TyD.str.zero := (rfl)
@[go_sem] theorem aDa (e : LK) : zeroP (.slice e) = fitP (.slice e) (TyD.slice e).zero := (rfl)
@[go_sem] theorem aDb (fs : List TyD) : zeroP (.strct fs) = fitP (.strct fs) (TyD.strct fs).zero := (rfl)
@[go_sem] theorem aHd (n : Nat) (e : LK) : zeroP (.arr n e) = fitP (.arr n e) (TyD.arr n e).zero := (rfl)
@[go_sem] theorem aHe : zeroP .ptr = fitP .ptr TyD.ptr.zero := (rfl)
@[go_sem] theorem aEs : zeroP .func = fitP .func TyD.func.zero := (rfl)
@[go_sem] theorem aDc : zeroP .iface = fitP .iface TyD.iface.zero := (rfl)
@[congr] theorem aCH {d d' : TyD} {h h' : List AObj} {K : AV → List AObj → Prop} (e2 : d = d') (e : h = h') : allocW d h K = allocW d' h' K := by rw [e, e2]
@[go_sem] theorem boxW_eq (d : TyD) : boxW d v h K = (fitP d v ∧ K (.ptr h.length []) (h ++ [boxO v])) := (rfl)
@[go_sem] theorem aEt (t : TypeId) (u : AV) : panW (.iface t u) h KP = KP (.iface t u) h := (rfl)
@[go_sem] theorem aEu (A : Prop) : whenP true A = A := (rfl)
@[go_sem] theorem aEv (x : D) : whenD true x = x := (rfl)
theorem iI (b w : Bool) (A B : Prop) : guardW (.bool b) w A B = ((b = w → A) ∧ (b = (!w) → B)) := (rfl)
@[go_sem] theorem aEw (b : Bool) (A B : Prop) : condW (.bool b) A B = ((b = true → A) ∧ (b = false → B)) := (rfl)
@[go_sem] theorem aJZ (mt : Bool) (c : Ctx) (f : FuncId) (first cap args : List AV) : callW mt c (.fn (.func f) first cap) args h K KP =
    callR (lastId mt args) c.drawn (iK c f (AV.vals h (first ++ args ++ cap))) (AV.rowss (first ++ args ++ cap)) h K (c.envS f (first ++ args ++ cap) h (outW K KP)) := (rfl)
@[go_sem] theorem aCu (c : Ctx) (f : FuncId) (vs : List AV) : iK c f (some vs) = if AV.closeds vs = true then c.envF f vs else none := by
  cases h : AV.closeds vs <;> simp [iK, h]
@[go_sem] theorem aCv (c : Ctx) (f : FuncId) : iK c f none = none := (rfl)
@[go_sem] theorem aDd (la : Option Nat) (dr : Bool) (rows : List Nat) (els : Prop) : callR la dr (some (true, some (S, v, news))) rows h K els = (S ∧ K (v.shift h.length) (h ++ news)) := (rfl)
@[go_sem] theorem aCI (la : Option Nat) (dr : Bool) (rows : List Nat) (els : Prop) : callR la dr (some (true, pD S v)) rows h K els = (S ∧ K (v.shift h.length) h) := by simp [pD, callR]
@[go_sem] theorem aDe (la : Option Nat) (dr : Bool) (rows : List Nat) (els : Prop) (hv : v.noSl = true) : callR la dr (some (false, pD S v)) rows h K els = (S ∧ K v h) := by simp [pD, callR, hv]
@[go_sem] theorem aEx (la : Option Nat) (rows : List Nat) (els : Prop) (hv : v.noSl = false) : callR la false (some (false, pD S v)) rows h K els = (S ∧ K v (freeze rows h)) := by simp [pD, callR, hv]
@[go_sem] theorem aHf (id : Nat) (els : Prop) (hv : v.noSl = false) : callR (some id) true (some (false, pD S v)) [id] h K els = (S ∧ K v (freeze [id] h)) := by simp [pD, callR, hv]
@[go_sem] theorem aCJ (args : List AV) : lastId false args = none := (rfl)
@[go_sem] theorem aEy (x : Bool) (id ver off len : Nat) : lastId true [.sref x id ver off len] = some id := (rfl)
@[go_sem] theorem aHg (x : Bool) (l : Lst) : lastId true [.sl x l] = none := (rfl)
@[go_sem] theorem aDf (a b : AV) (r : List AV) : lastId true (a :: b :: r) = lastId true (b :: r) := by simp [lastId]
@[go_sem] theorem aDg (la : Option Nat) (dr : Bool) (els : Prop) : callR la dr (some (false, pD S v)) [] h K els = (S ∧ K v h) := by cases hv : v.noSl <;> simp [pD, callR, hv, freeze]
@[go_sem] theorem aEz (la : Option Nat) (dr : Bool) (rows : List Nat) (els : Prop) : callR la dr none rows h K els = els := (rfl)
@[go_sem] theorem aEA : freeze [] h = h := (rfl)
@[go_sem] theorem aDh (id : Nat) (r : List Nat) : freeze (id :: r) h = freeze r (h.modify id froO) := (rfl)
@[go_sem] theorem aKa (k : RK) (ver : Nat) (l : Lst) : froO (.row k ver l) = .row .fro ver l := (rfl)
@[go_sem] theorem aKb (u : AV) : froO (.box u) = .box u := (rfl)
@[go_sem] theorem froO_lp (st : LoopState) (pd : Option Code) (r : Loop) : froO (.lp st pd r) = .lp st pd r := (rfl)
@[go_sem] theorem aKc (n : Nat) (st : LoopState) (pd : Option Code) (r : Loop) : normO n h (.lp st pd r) = .lp st pd r := (rfl)
@[go_sem] theorem aDi (mt : Bool) (c : Ctx) (l : Nat) (args : List AV) (KP : AV → List AObj → Prop) : callW mt c (.fn (.yield l) [] []) args h K KP = c.envY l args h (outW K KP) := (rfl)
@[go_sem] theorem aKd (c : Ctx) (l : Nat) (a : List AV) (K' : AOut → List AObj → Prop) : c.noS.envY l a h K' = False := (rfl)
@[go_sem] theorem aHh (c : Ctx) : c.noI.drawn = c.drawn := (rfl)
@[go_sem] theorem aKe (c : Ctx) : c.noI.envF = c.envF := (rfl)
@[go_sem] theorem aKf (c : Ctx) : c.noI.envS = c.envS := (rfl)
@[go_sem] theorem aKg (c : Ctx) : c.noI.envY = c.envY := (rfl)
@[go_sem] theorem noI_tab (c : Ctx) : c.noI.tab = c.tab := (rfl)
@[go_sem] theorem aDj (c : Ctx) (l : Nat) (Y : Con) : (c.withY l Y).drawn = c.drawn := (rfl)
@[go_sem] theorem aEB (c : Ctx) (l : Nat) (Y : Con) : (c.withY l Y).envF = c.envF := (rfl)
@[go_sem] theorem aEC (c : Ctx) (l : Nat) (Y : Con) : (c.withY l Y).envS = c.envS := (rfl)
@[go_sem] theorem aED (c : Ctx) (l l' : Nat) (Y : Con) (a : List AV) (K' : AOut → List AObj → Prop) : (c.withY l Y).envY l' a h K' = (l' = l ∧ Y a h K') := (rfl)
@[go_sem] theorem aHi (iterS : FuncId → Con → Con) (f : FuncId) (cap : List AV) (rd : Nat → Loop → Con) (fin : Nat → Loop → AOut → List AObj → Prop) :
    rangeX iterS (.fn (.func f) [] cap) h rd fin = rangeY iterS f cap h rd fin := (rfl)
@[go_sem] theorem aHj (iterS : FuncId → Con → Con) (f : FuncId) (cap : List AV) (rd : Nat → Loop → Con) (fin : Nat → Loop → AOut → List AObj → Prop) :
    rangeY iterS f cap h rd fin = ∀ (l : Nat) (r : Loop), iterS f (rd h.length r) (.fn (.yield l) [] [] :: cap) (h ++ [.lp .ready none r]) (fin h.length r) := (rfl)
@[go_sem] theorem aKh : boxH [] h = h := (rfl)
@[go_sem] theorem aHk (a : AV) (r : List AV) : boxH (a :: r) h = boxH r (promP a h) := (rfl)
@[go_sem] theorem aHl (id : Nat) : promP (.ptr id []) h = promO id (h.getD id .dead) h := (rfl)
@[go_sem] theorem aHm (i : Nat) : promB [] i h = h := (rfl)
@[go_sem] theorem aEE (o : AObj) (r : List AObj) (i : Nat) : promB (o :: r) i h = promB r (i + 1) (promO i o h) := (rfl)
@[go_sem] theorem aHn (v : AV) (i : Nat) : promO i (.box v) h = promS i (promA v h.length) h := (rfl)
@[go_sem] theorem aHo (k : RK) (v i : Nat) (l : Lst) : promO i (.row k v l) h = h := (rfl)
@[go_sem] theorem aKi (m : MapC) (i : Nat) : promO i (.map m) h = h := (rfl)
@[go_sem] theorem aKj (st : LoopState) (pd : Option Code) (r : Loop) (i : Nat) : promO i (.lp st pd r) h = h := (rfl)
@[go_sem] theorem aEF (i : Nat) : promO i .dead h = h := (rfl)
@[go_sem] theorem aHp (i : Nat) (v : AV) : promS i (v, []) h = h := (rfl)
@[go_sem] theorem aEG (i : Nat) (v : AV) (l : Lst) (r : List Lst) : promS i (v, l :: r) h = (h ++ rowsOf (l :: r)).set i (.box v) := (rfl)
@[go_sem] theorem aEH : rowsOf [] = [] := (rfl)
@[go_sem] theorem aDk (l : Lst) (r : List Lst) : rowsOf (l :: r) = .row .own 0 l :: rowsOf r := (rfl)
@[go_sem] theorem aEI (i : Nat) : promAs [] i = ([], []) := (rfl)
@[go_sem] theorem aDl (v : AV) (r : List AV) (n : Nat) : promAs (v :: r) n = ((promA v n).1 :: (promAs r (n + (promA v n).2.length)).1, (promA v n).2 ++ (promAs r (n + (promA v n).2.length)).2) := (rfl)
@[go_sem] theorem aHq (vs : List AV) (n : Nat) : promA (.agg vs) n = (.agg (promAs vs n).1, (promAs vs n).2) := (rfl)
@[go_sem] theorem aHr (l : Lst) (n : Nat) : promA (.sl true l) n = promL l n := (rfl)
@[go_sem] theorem aHs (l : Lst) (i : Nat) : promA (.sl false l) i = (.sl false l, []) := (rfl)
@[go_sem] theorem aHt (k : IntKind) (n : Int) (i : Nat) : promA (.int k n) i = (.int k n, []) := (rfl)
@[go_sem] theorem aEJ (b : Bool) (i : Nat) : promA (.bool b) i = (.bool b, []) := (rfl)
@[go_sem] theorem aHu (b : Bytes) (i : Nat) : promA (.str b) i = (.str b, []) := (rfl)
@[go_sem] theorem aEK (x : Bool) (a b c d : Nat) (i : Nat) : promA (.sref x a b c d) i = (.sref x a b c d, []) := (rfl)
@[go_sem] theorem aHv (a : Nat) (i : Nat) : promA (.map a) i = (.map a, []) := (rfl)
@[go_sem] theorem aHw (a : Nat) (p : List PS) (i : Nat) : promA (.ptr a p) i = (.ptr a p, []) := (rfl)
@[go_sem] theorem aKk (f : Fn) (a b : List AV) (i : Nat) : promA (.fn f a b) i = (.fn f a b, []) := (rfl)
@[go_sem] theorem aEL (i : Nat) : promA .nilp i = (.nilp, []) := (rfl)
@[go_sem] theorem aDm (i : Nat) : promA .nilfn i = (.nilfn, []) := (rfl)
@[go_sem] theorem aCq (i : Nat) : promA .niliface i = (.niliface, []) := (rfl)
@[go_sem] theorem aDn (t : TypeId) (v : AV) (i : Nat) : promA (.iface t v) i = (.iface t v, []) := (rfl)
@[go_sem] theorem aHx (i : Nat) : promA .top i = (.top, []) := (rfl)
@[go_sem] theorem aHy (i : Nat) : promA .und i = (.und, []) := (rfl)
@[go_sem] theorem aHz (l : Lst) (i : Nat) : promA (.arr l) i = (.arr l, []) := (rfl)
@[go_sem] theorem aEM (k : IntKind) (n : Nat) : promL (.ints k []) n = (.sref false n 0 0 0, [.ints k []]) := (rfl)
@[go_sem] theorem aDo (n : Nat) : promL (.bools []) n = (.sref false n 0 0 0, [.bools []]) := (rfl)
@[go_sem] theorem aEN (n : Nat) : promL (.strs []) n = (.sref false n 0 0 0, [.strs []]) := (rfl)
@[go_sem] theorem aDp (n : Nat) : promL (.pends []) n = (.sref false n 0 0 0, [.pends []]) := (rfl)
@[go_sem] theorem aEO (n : Nat) : promL (.mics []) n = (.sref false n 0 0 0, [.mics []]) := (rfl)
@[go_sem] theorem aEP (n : Nat) : promL (.recs []) n = (.sref false n 0 0 0, [.recs []]) := (rfl)
@[go_sem] theorem aDq (n : Nat) : promL (.pairs []) n = (.sref false n 0 0 0, [.pairs []]) := (rfl)
@[go_sem] theorem aDr (n : Nat) : promL (.slots []) n = (.sref false n 0 0 0, [.slots []]) := (rfl)
@[go_sem] theorem aHA (n : Nat) : promL (.fns []) n = (.sref false n 0 0 0, [.fns []]) := (rfl)
@[go_sem] theorem lpIs_eq (id : Nat) (st : LoopState) (r : Loop) : lpIs h id st r = (h[id]? = some (.lp st none r)) := (rfl)
@[go_sem] theorem aHB (A : Prop) : argX0 [] A = A := (rfl)
@[go_sem] theorem aEQ (v : AV) (vs : List AV) (A : AV → Prop) : argX1 (v :: vs) A = argX0 vs (A v) := (rfl)
@[go_sem] theorem aER (v : AV) (vs : List AV) (A : AV → AV → Prop) : argX2 (v :: vs) A = argX1 vs (A v) := (rfl)
section
variable (id : Nat) (r r' : Loop) (kn kr : List AObj → Prop) (ke kg : Nat → List AObj → Prop) (kp : AV → List AObj → Prop)
@[go_sem] theorem aKl (v : AV) : endX id r (.ret v) h kn kr ke kg kp = endO (h[id]?) id r h kn kr ke kg := (rfl)
@[go_sem] theorem aKm (v : AV) : endX id r (.pan v) h kn kr ke kg kp = kp v h := (rfl)
@[go_sem] theorem aES : endO (some (.lp .ready none r')) id r h kn kr ke kg = (r' = r ∧ kn (h.set id (.lp .exhausted none r))) := (rfl)
@[go_sem] theorem aKn : endO (some (.lp .done (some .ret) r')) id r h kn kr ke kg = (r' = r ∧ kr (h.set id (.lp .exhausted (some .ret) r))) := (rfl)
@[go_sem] theorem aHC (i : Nat) : endO (some (.lp .done (some (.exit i)) r')) id r h kn kr ke kg = (r' = r ∧ ke i (h.set id (.lp .exhausted (some (.exit i)) r))) := (rfl)
@[go_sem] theorem aHD (i : Nat) : endO (some (.lp .done (some (.goto i)) r')) id r h kn kr ke kg = (r' = r ∧ kg i (h.set id (.lp .exhausted (some (.goto i)) r))) := (rfl)
end
@[go_sem] theorem aKo (i id : Nat) (A B : Prop) : exitW i id A B = match Nat.beq i id with
  | true => A
  | false => B := (rfl)
@[go_sem] theorem aHE (c : Ctx) : c.noS.drawn = true := (rfl)
@[go_sem] theorem aKp (c : Ctx) : c.noS.envF = c.envF := (rfl)
@[go_sem] theorem noS_tab (c : Ctx) : c.noS.tab = c.tab := (rfl)
@[go_sem] theorem aKq (c : Ctx) (f : FuncId) (a : List AV) (K' : AOut → List AObj → Prop) : c.noS.envS f a h K' = False := (rfl)
@[go_sem] theorem aKr : outW K KP (.ret v) h = K v h := (rfl)
@[go_sem] theorem aKs : outW K KP (.pan v) h = KP v h := (rfl)
@[go_sem] theorem aHF (K : AV → Prop) : loadRes (pD S v) K = (S ∧ K v) := (rfl)
@[go_sem] theorem aET {α : Type} (a : α) (f : α → D) : someD (some a) f = f a := (rfl)
@[go_sem] theorem aEU {α : Type} (f : α → D) : someD (none : Option α) f = none := (rfl)
end runs

section congrs
variable {K KP : AV → List AObj → Prop} {h h' : List AObj}
@[congr] theorem aEV {x x' : D} (e : x = x') (e' : h = h') : runD x h K = runD x' h' K := by rw [e, e']
@[congr] theorem aEW {x x' : Option (Prop × Nat × AObj)} (e : x = x') (e' : h = h') : runH x h K = runH x' h' K := by rw [e, e']
@[congr] theorem aEX {x x' : Option (Prop × AV × Nat × AObj)} (e : x = x') (e' : h = h') : runM x h K = runM x' h' K := by rw [e, e']
@[congr] theorem aDs {x x' : D} {y : Option (Prop × AV × Nat × AObj)} (e : x = x') (e' : h = h') : runDM x y h K = runDM x' y h' K := by rw [e, e']
@[congr] theorem aDt {v v' : AV} {A B : Prop} (e : v = v') : condW v A B = condW v' A B := by rw [e]
@[congr] theorem aCK {v v' : AV} {w : Bool} {A B : Prop} (e : v = v') : guardW v w A B = guardW v' w A B := by rw [e]
@[congr] theorem aCL {x x' : Option Nat} (e' : x = x') (e : h = h') : nilEqO x h K = nilEqO x' h' K := by rw [e, e']
@[congr] theorem aEY {d d' : TyD} {x x' : AV} (e2 : d = d') (e' : x = x') (e : h = h') : boxW d x h K = boxW d' x' h' K := by rw [e, e', e2]
@[congr] theorem aEZ {x x' : AV} (e' : x = x') (e : h = h') : panW x h KP = panW x' h' KP := by rw [e, e']
@[congr] theorem aDu {b b' : Bool} {A : Prop} (e : b = b') : whenP b A = whenP b' A := by rw [e]
@[congr] theorem aDv {mt : Bool} {c : Ctx} {f f' : AV} {a a' : List AV} (e2 : f = f') (e' : a = a') (e : h = h') : callW mt c f a h K KP = callW mt c f' a' h' K KP := by rw [e, e', e2]
@[congr] theorem aDw {la la' : Option Nat} {dr dr' : Bool} {x x' : Option (Bool × D)} {rows rows' : List Nat} {els : Prop} (e1 : la = la') (e2 : dr = dr') (e : x = x') (e3 : rows = rows') (e' : h = h') : callR la dr x rows h K els = callR la' dr' x' rows' h' K els := by rw [e1, e, e', e2, e3]
@[congr] theorem aFa {t t' : List (Nat × AV)} {l : List (Option Operand × List Operand)} {A : Prop} (e : t = t') : sepW t l A = sepW t' l A := by rw [e]
@[congr] theorem aCw {x x' : D} {K : AV → Prop} (e : x = x') : loadRes x K = loadRes x' K := by rw [e]
@[congr] theorem aDx {fs : List Bool} {vs vs' : List AV} {K : List AV → List AObj → Prop} (e : vs = vs') (e' : h = h') : promV fs vs h K = promV fs vs' h' K := by rw [e, e']
end congrs

section lists
@[go_sem] theorem aHG : AV.sizes [] = 0 := (rfl)
@[go_sem] theorem aFb (v : AV) (r : List AV) : AV.sizes (v :: r) = v.size + AV.sizes r := (rfl)
@[go_sem] theorem aKt (vs : List AV) : (AV.agg vs).size = AV.sizes vs := (rfl)
@[go_sem] theorem aKu (k : IntKind) (n : Int) : (AV.int k n).size = 1 := (rfl)
@[go_sem] theorem aHH (b : Bool) : (AV.bool b).size = 1 := (rfl)
@[go_sem] theorem aKv (s : Bytes) : (AV.str s).size = 1 := (rfl)
@[go_sem] theorem size_sl (x : Bool) (l : Lst) : (AV.sl x l).size = 1 := (rfl)
@[go_sem] theorem aHI (x : Bool) (a b c d : Nat) : (AV.sref x a b c d).size = 1 := (rfl)
@[go_sem] theorem aKw (a : Nat) (p : List PS) : (AV.ptr a p).size = 1 := (rfl)
@[go_sem] theorem aHJ : (AV.nilp).size = 1 := (rfl)
@[go_sem] theorem size_ep (l : Lst) (a : Nat) (p : List PS) : (AV.ep l a p).size = 1 := (rfl)
@[go_sem] theorem aKx (a : Nat) : (AV.map a).size = 1 := (rfl)
@[go_sem] theorem size_fn (f : Fn) (a b : List AV) : (AV.fn f a b).size = 1 := (rfl)
@[go_sem] theorem aKy : (AV.top).size = 1 := (rfl)
@[go_sem] theorem aFc : (AV.nilfn).size = 1 := (rfl)
@[go_sem] theorem aFd (t : TypeId) (v : AV) : (AV.iface t v).size = 1 := (rfl)
@[go_sem] theorem aCx : (AV.niliface).size = 1 := (rfl)
@[go_sem] theorem aHK (k : IntKind) : (TyD.int k).size = 1 := (rfl)
@[go_sem] theorem aFe : TyD.bool.size = 1 := (rfl)
@[go_sem] theorem aHL : TyD.str.size = 1 := (rfl)
@[go_sem] theorem aDy (e : LK) : (TyD.slice e).size = 1 := (rfl)
@[go_sem] theorem aHM : TyD.ptr.size = 1 := (rfl)
@[go_sem] theorem aHN (m : MK) : (TyD.map m).size = 1 := (rfl)
@[go_sem] theorem aFf : TyD.func.size = 1 := (rfl)
@[go_sem] theorem aDz : TyD.other.size = 1 := (rfl)
@[go_sem] theorem aDA (fs : List TyD) : (TyD.strct fs).size = TyD.sizes fs := (rfl)
@[go_sem] theorem aFg : TyD.sizes [] = 0 := (rfl)
@[go_sem] theorem aDB (t : TyD) (r : List TyD) : TyD.sizes (t :: r) = t.size + TyD.sizes r := (rfl)
@[go_sem] theorem aKz (k : IntKind) : (TyD.int k).zero = .int k 0 := (rfl)
@[go_sem] theorem aHO : TyD.bool.zero = .bool false := (rfl)
@[go_sem] theorem aKA : TyD.str.zero = .str [] := (rfl)
@[go_sem] theorem aFh (e : LK) : (TyD.slice e).zero = .sl true e.empty := (rfl)
@[go_sem] theorem aKB : TyD.ptr.zero = .nilp := (rfl)
@[go_sem] theorem aKC (m : MK) : (TyD.map m).zero = .top := (rfl)
@[go_sem] theorem aHP : TyD.func.zero = .nilfn := (rfl)
@[go_sem] theorem aKD (n : Nat) (e : LK) : (TyD.arr n e).zero = .arr (e.zeros n) := (rfl)
@[go_sem] theorem aFi (fs : List TyD) : (TyD.strct fs).zero = .agg (TyD.zeros fs) := (rfl)
@[go_sem] theorem aHQ : TyD.zeros [] = [] := (rfl)
@[go_sem] theorem aFj (t : TyD) (r : List TyD) : TyD.zeros (t :: r) = t.zero :: TyD.zeros r := (rfl)
@[go_sem] theorem aHR (k : IntKind) : (LK.int k).empty = .ints k [] := (rfl)
@[go_sem] theorem aFk : LK.bool.empty = .bools [] := (rfl)
@[go_sem] theorem aHS : LK.str.empty = .strs [] := (rfl)
@[go_sem] theorem aFl : LK.pend.empty = .pends [] := (rfl)
@[go_sem] theorem aHT : LK.mic.empty = .mics [] := (rfl)
@[go_sem] theorem aHU : LK.rcd.empty = .recs [] := (rfl)
@[go_sem] theorem aFm : LK.pair.empty = .pairs [] := (rfl)
@[go_sem] theorem aFn : LK.slot.empty = .slots [] := (rfl)
@[go_sem] theorem aHV : LK.fnk.empty = .fns [] := (rfl)
@[go_sem] theorem aHW (n : Nat) (k : IntKind) : (LK.int k).zeros n = .ints k (List.replicate n 0) := (rfl)
@[go_sem] theorem aFo (n : Nat) : LK.bool.zeros n = .bools (List.replicate n false) := (rfl)
@[go_sem] theorem aFp (n : Nat) : LK.pend.zeros n = .pends (List.replicate n ⟨0, 0, false⟩) := (rfl)
@[go_sem] theorem aHX (n : Nat) : LK.mic.zeros n = .mics (List.replicate n ⟨0, 0, 0⟩) := (rfl)
@[go_sem] theorem aFq (n : Nat) : LK.slot.zeros n = .slots (List.replicate n ⟨0, 0⟩) := (rfl)
@[go_sem] theorem aHY (n : Nat) : LK.fnk.zeros n = .fns (List.replicate n none) := (rfl)
@[go_sem] theorem aHZ (n : Nat) : LK.rcd.zeros n = .recs (List.replicate n ⟨0, [], [], 0⟩) := (rfl)
@[go_sem] theorem aFr (n : Nat) : LK.pair.zeros n = .pairs (List.replicate n ⟨[], []⟩) := (rfl)
@[go_sem] theorem aIa (n : Nat) : LK.str.zeros n = .strs (List.replicate n []) := (rfl)
@[go_sem] theorem aFs (k : IntKind) : (LK.int k).size = 1 := (rfl)
@[go_sem] theorem aDC : LK.bool.size = 1 := (rfl)
@[go_sem] theorem aFt : LK.str.size = 1 := (rfl)
@[go_sem] theorem aDD : LK.pend.size = 3 := (rfl)
@[go_sem] theorem aFu : LK.mic.size = 3 := (rfl)
@[go_sem] theorem aFv : LK.rcd.size = 4 := (rfl)
@[go_sem] theorem aDE : LK.pair.size = 2 := (rfl)
@[go_sem] theorem aDF : LK.slot.size = 2 := (rfl)
@[go_sem] theorem aFw : LK.fnk.size = 1 := (rfl)
variable (k : IntKind) (xs ys : List Int) (bs cs : List Bool) (ps qs : List Pend) (ms ns : List Mic) (rs ss : List RecT) (ts us : List PairT) (vs ws : List SlotT) (ys1 ys2 : List Bytes) (i n : Nat)
@[go_sem] theorem aKE : (Lst.ints k xs).len = xs.length := (rfl)
@[go_sem] theorem aIb : (Lst.bools bs).len = bs.length := (rfl)
@[go_sem] theorem aKF : (Lst.strs ys1).len = ys1.length := (rfl)
@[go_sem] theorem aIc : (Lst.pends ps).len = ps.length := (rfl)
@[go_sem] theorem aKG : (Lst.mics ms).len = ms.length := (rfl)
@[go_sem] theorem aKH : (Lst.recs rs).len = rs.length := (rfl)
@[go_sem] theorem aId : (Lst.pairs ts).len = ts.length := (rfl)
@[go_sem] theorem aIe : (Lst.slots vs).len = vs.length := (rfl)
@[go_sem] theorem len_fns (fs : List (Option FuncId)) : (Lst.fns fs).len = fs.length := (rfl)
@[go_sem] theorem aIf : (Lst.ints k xs).kind = .int k := (rfl)
@[go_sem] theorem aFx : (Lst.bools bs).kind = .bool := (rfl)
@[go_sem] theorem aIg : (Lst.strs ys1).kind = .str := (rfl)
@[go_sem] theorem aFy : (Lst.pends ps).kind = .pend := (rfl)
@[go_sem] theorem aIh : (Lst.mics ms).kind = .mic := (rfl)
@[go_sem] theorem aIi : (Lst.recs rs).kind = .rcd := (rfl)
@[go_sem] theorem aFz : (Lst.pairs ts).kind = .pair := (rfl)
@[go_sem] theorem aFA : (Lst.slots vs).kind = .slot := (rfl)
@[go_sem] theorem aKI (fs : List (Option FuncId)) : (Lst.fns fs).kind = .fnk := (rfl)
@[go_sem] theorem aKJ : (Lst.ints k xs).nth i = .int k (xs.getD i 0) := (rfl)
@[go_sem] theorem aIj : (Lst.bools bs).nth i = .bool (bs.getD i false) := (rfl)
@[go_sem] theorem aKK : (Lst.strs ys1).nth i = .str (ys1.getD i []) := (rfl)
@[go_sem] theorem aIk : (Lst.pends ps).nth i = .agg [.int .i64 (ps.getD i ⟨0, 0, false⟩).at_, .int .i64 (ps.getD i ⟨0, 0, false⟩).val, .bool (ps.getD i ⟨0, 0, false⟩).fl] := (rfl)
@[go_sem] theorem aKL : (Lst.mics ms).nth i = .agg [.int .i64 (ms.getD i ⟨0, 0, 0⟩).kind, .int .i64 (ms.getD i ⟨0, 0, 0⟩).at_, .int .i64 (ms.getD i ⟨0, 0, 0⟩).val] := (rfl)
@[go_sem] theorem aKM : (Lst.recs rs).nth i = .agg [.int .i64 (rs.getD i ⟨0, [], [], 0⟩).kind, .str (rs.getD i ⟨0, [], [], 0⟩).key, .str (rs.getD i ⟨0, [], [], 0⟩).val, .int .i64 (rs.getD i ⟨0, [], [], 0⟩).child] := (rfl)
@[go_sem] theorem aIl : (Lst.pairs ts).nth i = .agg [.str (ts.getD i ⟨[], []⟩).key, .str (ts.getD i ⟨[], []⟩).val] := (rfl)
@[go_sem] theorem aIm : (Lst.slots vs).nth i = .agg [.int .i64 (vs.getD i ⟨0, 0⟩).at_, .int .i64 (vs.getD i ⟨0, 0⟩).val] := (rfl)
@[go_sem] theorem aKN (f : FuncId) : fnA (some f) = .fn (.func f) [] [] := (rfl)
@[go_sem] theorem aKO : fnA none = .nilfn := (rfl)
@[go_sem] theorem nth_fns (fs : List (Option FuncId)) (i : Nat) : (Lst.fns fs).nth i = fnA (fs.getD i none) := (rfl)
@[go_sem] theorem aKP : (Lst.ints k xs).cut i n = .ints k ((xs.drop i).take n) := (rfl)
@[go_sem] theorem aIn : (Lst.bools bs).cut i n = .bools ((bs.drop i).take n) := (rfl)
@[go_sem] theorem aKQ : (Lst.strs ys1).cut i n = .strs ((ys1.drop i).take n) := (rfl)
@[go_sem] theorem aIo : (Lst.pends ps).cut i n = .pends ((ps.drop i).take n) := (rfl)
@[go_sem] theorem aKR : (Lst.mics ms).cut i n = .mics ((ms.drop i).take n) := (rfl)
@[go_sem] theorem aKS : (Lst.recs rs).cut i n = .recs ((rs.drop i).take n) := (rfl)
@[go_sem] theorem aIp : (Lst.pairs ts).cut i n = .pairs ((ts.drop i).take n) := (rfl)
@[go_sem] theorem aIq : (Lst.slots vs).cut i n = .slots ((vs.drop i).take n) := (rfl)
@[go_sem] theorem cut_fns (fs : List (Option FuncId)) (i n : Nat) : (Lst.fns fs).cut i n = .fns ((fs.drop i).take n) := (rfl)
@[go_sem] theorem aKT : (Lst.ints k xs).app (.ints k ys) = some (.ints k (xs ++ ys)) := by simp [Lst.app]
@[go_sem] theorem aIr : (Lst.bools bs).app (.bools cs) = some (.bools (bs ++ cs)) := (rfl)
@[go_sem] theorem aKU : (Lst.strs ys1).app (.strs ys2) = some (.strs (ys1 ++ ys2)) := (rfl)
@[go_sem] theorem aIs : (Lst.pends ps).app (.pends qs) = some (.pends (ps ++ qs)) := (rfl)
@[go_sem] theorem aKV : (Lst.mics ms).app (.mics ns) = some (.mics (ms ++ ns)) := (rfl)
@[go_sem] theorem aKW : (Lst.recs rs).app (.recs ss) = some (.recs (rs ++ ss)) := (rfl)
@[go_sem] theorem aIt : (Lst.pairs ts).app (.pairs us) = some (.pairs (ts ++ us)) := (rfl)
@[go_sem] theorem aIu : (Lst.slots vs).app (.slots ws) = some (.slots (vs ++ ws)) := (rfl)
@[go_sem] theorem app_fns (fs gs : List (Option FuncId)) : (Lst.fns fs).app (.fns gs) = some (.fns (fs ++ gs)) := (rfl)
variable (a b : Int) (x y : Bytes) (p q : Bool)
@[go_sem] theorem aKX : (Lst.ints k xs).set i (.int k a) = some (.ints k (xs.set i a)) := by simp [Lst.set]
@[go_sem] theorem aIv : (Lst.bools bs).set i (.bool p) = some (.bools (bs.set i p)) := (rfl)
@[go_sem] theorem aKY : (Lst.strs ys1).set i (.str x) = some (.strs (ys1.set i x)) := (rfl)
@[go_sem] theorem aIw : (Lst.pends ps).set i (.agg [.int .i64 a, .int .i64 b, .bool p]) = some (.pends (ps.set i ⟨a, b, p⟩)) := (rfl)
@[go_sem] theorem aKZ (c : Int) : (Lst.mics ms).set i (.agg [.int .i64 a, .int .i64 b, .int .i64 c]) = some (.mics (ms.set i ⟨a, b, c⟩)) := (rfl)
@[go_sem] theorem aLa : (Lst.recs rs).set i (.agg [.int .i64 a, .str x, .str y, .int .i64 b]) = some (.recs (rs.set i ⟨a, x, y, b⟩)) := (rfl)
@[go_sem] theorem aIx : (Lst.pairs ts).set i (.agg [.str x, .str y]) = some (.pairs (ts.set i ⟨x, y⟩)) := (rfl)
@[go_sem] theorem aIy : (Lst.slots vs).set i (.agg [.int .i64 a, .int .i64 b]) = some (.slots (vs.set i ⟨a, b⟩)) := (rfl)
@[go_sem] theorem set_fns (fs : List (Option FuncId)) (i : Nat) (f : FuncId) : (Lst.fns fs).set i (.fn (.func f) [] []) = some (.fns (fs.set i (some f))) := (rfl)
@[go_sem] theorem aLb (fs : List (Option FuncId)) (i : Nat) : (Lst.fns fs).set i .nilfn = some (.fns (fs.set i none)) := (rfl)
end lists

section ops
variable (k : IntKind) (a b : Int) (x y : Bytes) (p q : Bool) (h : List AObj) (op : BinOp) (vs ws : List AV) (l l' : Lst) (S : Prop)
@[go_sem] theorem at_nil (v : AV) : v.at_ [] = some v := by cases v <;> exact (rfl)
@[go_sem] theorem at_agg (i off : Nat) (ps : List PS) : (AV.agg vs).at_ (.f i off :: ps) = if AV.sizes (vs.take i) = off then (vs[i]?).bind fun v => v.at_ ps else none := (rfl)
@[go_sem] theorem aIz (u v : AV) : u.setAt [] v = if u.size = v.size then some v else none := by cases u <;> exact (rfl)
@[go_sem] theorem aIA (i off : Nat) (ps : List PS) (v : AV) : (AV.agg vs).setAt (.f i off :: ps) v = if AV.sizes (vs.take i) = off then (vs[i]?).bind fun u => (u.setAt ps v).map fun u' => .agg (vs.set i u') else none := (rfl)
@[go_sem] theorem aLc (d : TyD) : binD d op (.int k a) (.int k b) = intBinD op k a b := by simp [binD]
@[go_sem] theorem aLd (d : TyD) (k' : IntKind) : binD d .shl (.int k a) (.int k' b) = intBinD .shl k a b := by simp [binD, isShift]
@[go_sem] theorem aLe (d : TyD) (k' : IntKind) : binD d .shr (.int k a) (.int k' b) = intBinD .shr k a b := by simp [binD, isShift]
@[go_sem] theorem aLf (d : TyD) : binD d op (.str x) (.str y) = strBinD op x y := (rfl)
@[go_sem] theorem aIB (d : TyD) : binD d op (.bool p) (.bool q) = eqOpD op (AV.eqD d (.bool p) (.bool q)) := (rfl)
@[go_sem] theorem aLg (d : TyD) : binD d op (.agg vs) (.agg ws) = eqOpD op (AV.eqD d (.agg vs) (.agg ws)) := (rfl)
@[go_sem] theorem aLh (d : TyD) : binD d op (.arr l) (.arr l') = eqOpD op (AV.eqD d (.arr l) (.arr l')) := (rfl)
@[go_sem] theorem aFB (d : TyD) : binD d op .nilfn .nilfn = eqOpD op (AV.eqD d .nilfn .nilfn) := (rfl)
@[go_sem] theorem aIC : eqOpD .eql (some p) = pD True (.bool p) := (rfl)
@[go_sem] theorem aID : eqOpD .neq (some p) = pD True (.bool (!p)) := (rfl)
@[go_sem] theorem eqD_int (k' : IntKind) : AV.eqD (.int k') (.int k a) (.int k b) = some (decide (a = b)) := by simp [AV.eqD, scalEq]
@[go_sem] theorem eqD_str : AV.eqD .str (.str x) (.str y) = some (decide (x = y)) := by simp [AV.eqD, scalEq]
@[go_sem] theorem aLi : AV.eqD .bool (.bool p) (.bool q) = some (p == q) := by simp [AV.eqD, scalEq]
@[go_sem] theorem aIE : AV.eqD .func .nilfn .nilfn = some true := by simp [AV.eqD, scalEq]
@[go_sem] theorem eqD_agg (fs : List TyD) : AV.eqD (.strct fs) (.agg vs) (.agg ws) = AV.eqsD fs vs ws := by simp [AV.eqD]
@[go_sem] theorem eqD_arr (n : Nat) (xs ys : List Int) : AV.eqD (.arr n (.int k)) (.arr (.ints k xs)) (.arr (.ints k ys)) = if xs.length = n ∧ ys.length = n then some (decide (xs = ys)) else none := by simp [AV.eqD, scalEq]
@[go_sem] theorem aLj : AV.eqsD [] [] [] = some true := by simp [AV.eqsD]
def bothO : Option Bool → Option Bool → Option Bool
  | some a, some b => some (a && b)
  | _, _ => none
@[go_sem] theorem aIF (d : TyD) (ds : List TyD) (v w : AV) (r r' : List AV) : AV.eqsD (d :: ds) (v :: r) (w :: r') = bothO (AV.eqD d v w) (AV.eqsD ds r r') := by
  simp only [AV.eqsD]; cases AV.eqD d v w <;> cases AV.eqsD ds r r' <;> rfl
@[go_sem] theorem aFC : bothO (some p) (some q) = some (p && q) := (rfl)
@[go_sem] theorem ib_add : intBinD .add k a b = pD True (.int k (k.wrap (a + b))) := (rfl)
@[go_sem] theorem ib_sub : intBinD .sub k a b = pD True (.int k (k.wrap (a - b))) := (rfl)
@[go_sem] theorem ib_mul : intBinD .mul k a b = pD True (.int k (k.wrap (a * b))) := (rfl)
@[go_sem] theorem ib_quo : intBinD .quo k a b = pD (b ≠ 0) (.int k (k.wrap (a.tdiv b))) := (rfl)
@[go_sem] theorem ib_rem : intBinD .rem k a b = pD (b ≠ 0) (.int k (a.tmod b)) := (rfl)
@[go_sem] theorem ib_and : intBinD .and k a b = pD True (.int k (andI k a b)) := (rfl)
@[go_sem] theorem ib_or : intBinD .or k a b = pD True (.int k (orI k a b)) := (rfl)
@[go_sem] theorem ib_xor : intBinD .xor k a b = pD True (.int k (xorI k a b)) := (rfl)
@[go_sem] theorem aIG : intBinD .andNot k a b = pD True (.int k (andNotI k a b)) := (rfl)
@[go_sem] theorem ib_shl : intBinD .shl k a b = pD (0 ≤ b) (.int k (k.wrap (a * 2 ^ (min b.toNat k.bits)))) := (rfl)
@[go_sem] theorem ib_shr : intBinD .shr k a b = pD (0 ≤ b) (.int k (a.fdiv (2 ^ (min b.toNat k.bits)))) := (rfl)
@[go_sem] theorem ib_eql : intBinD .eql k a b = pD True (.bool (decide (a = b))) := (rfl)
@[go_sem] theorem ib_neq : intBinD .neq k a b = pD True (.bool (!decide (a = b))) := (rfl)
@[go_sem] theorem ib_lss : intBinD .lss k a b = pD True (.bool (decide (a < b))) := (rfl)
@[go_sem] theorem ib_leq : intBinD .leq k a b = pD True (.bool (decide (a ≤ b))) := (rfl)
@[go_sem] theorem ib_gtr : intBinD .gtr k a b = pD True (.bool (decide (b < a))) := (rfl)
@[go_sem] theorem ib_geq : intBinD .geq k a b = pD True (.bool (decide (b ≤ a))) := (rfl)
@[go_sem] theorem sb_add : strBinD .add x y = pD (x.length + y.length ≤ 1099511627776) (.str (x ++ y)) := (rfl)
@[go_sem] theorem sb_eql : strBinD .eql x y = pD True (.bool (decide (x = y))) := (rfl)
@[go_sem] theorem sb_neq : strBinD .neq x y = pD True (.bool (!decide (x = y))) := (rfl)
@[go_sem] theorem sb_lss : strBinD .lss x y = pD True (.bool (ltB x y)) := (rfl)
@[go_sem] theorem sb_gtr : strBinD .gtr x y = pD True (.bool (ltB y x)) := (rfl)
@[go_sem] theorem sb_leq : strBinD .leq x y = pD True (.bool (!ltB y x)) := (rfl)
@[go_sem] theorem sb_geq : strBinD .geq x y = pD True (.bool (!ltB x y)) := (rfl)
@[go_sem] theorem aIH (rk : RK) (ver ver' off len : Nat) : listO (some (.row rk ver' l)) ver off len = if ver = ver' then some (l.cut off len) else none := (rfl)
@[go_sem] theorem list_sl (x : Bool) : (AV.sl x l).list h = some l := (rfl)
@[go_sem] theorem aII (x : Bool) (id ver off len : Nat) : (AV.sref x id ver off len).list h = listO (h[id]?) ver off len := (rfl)
@[go_sem] theorem aLk (rk : RK) (ver ver' len : Nat) : lenO (some (.row rk ver' l)) ver len = if ver = ver' then some len else none := (rfl)
@[go_sem] theorem aLl (e : LK) (x : Bool) : (AV.sl x l).len (.slice e) h = some l.len := (rfl)
@[go_sem] theorem aFD (e : LK) (x : Bool) (id ver off len : Nat) : (AV.sref x id ver off len).len (.slice e) h = lenO (h[id]?) ver len := (rfl)
@[go_sem] theorem aIJ : (AV.str x).len .str h = some x.length := (rfl)
@[go_sem] theorem aIK (n : Nat) (e : LK) (v : AV) : v.len (.arr n e) h = some n := (rfl)
@[go_sem] theorem lenD_eq (d : TyD) (v : AV) : lenD d h v = someD (v.len d h) fun n => pD True (.int .i64 n) := (rfl)
@[go_sem] theorem aIL (e : LK) : (TyD.slice e).slc = true := (rfl)
@[go_sem] theorem aCy (e e' : LK) : (TyD.slice e).isSlice e' = decide (e = e') := (rfl)
@[go_sem] theorem aIM (n m : Nat) (e e' : LK) : (TyD.arr n e).isArr m e' = (decide (n = m) && decide (e = e')) := (rfl)
@[go_sem] theorem aIN : TyD.str.isStr = true := (rfl)
@[go_sem] theorem aDG (rk : RK) (ver : Nat) : rowKind (some (.row rk ver l)) = some l.kind := (rfl)
@[go_sem] theorem aCz (e e' : LK) : (TyD.slice e).fitsRow (some e') = decide (e = e') := (rfl)
@[go_sem] theorem aLm (rk : RK) (ver ver' : Nat) : verB (some (.row rk ver' l)) ver = decide (ver = ver') := (rfl)
@[go_sem] theorem aLn : (TyD.map .ib).isMap .ib = true := (rfl)
@[go_sem] theorem aLo : (TyD.map .ii).isMap .ii = true := (rfl)
@[go_sem] theorem aLp : (TyD.map .sb).isMap .sb = true := (rfl)
@[go_sem] theorem aIO : (TyD.map .ifn).isMap .ifn = true := (rfl)
@[go_sem] theorem aIP : (TyD.int k).known = true := (rfl)
@[go_sem] theorem aFE : TyD.bool.known = true := (rfl)
@[go_sem] theorem aIQ : TyD.str.known = true := (rfl)
@[go_sem] theorem aDH (fs : List TyD) : (TyD.strct fs).known = true := (rfl)
@[go_sem] theorem aIR (id : Nat) (ps : List PS) : loadD h (.ptr id ps) = loadO (h[id]?) ps := (rfl)
@[go_sem] theorem aLq (i : Nat) (fs : List PS) : loadD h (.ep l i fs) = someD ((l.nth i).at_ fs) fun v => pD True v := (rfl)
@[go_sem] theorem aIS (v : AV) (ps : List PS) : loadO (some (.box v)) ps = someD (v.at_ ps) fun u => pD True u := (rfl)
@[go_sem] theorem aIT (ver : Nat) : loadO (some (.row .arr ver l)) [] = pD True (.arr l) := (rfl)
@[go_sem] theorem aDI (rk : RK) (ver v i sz : Nat) (ps : List PS) : loadO (some (.row rk ver l)) (.i v i sz :: ps) = if v = ver ∧ sz = l.kind.size then someD ((l.nth i).at_ ps) fun v => pD (i < l.len) v else none := by cases rk <;> rfl
@[go_sem] theorem aFF (d : TyD) (id : Nat) (ps : List PS) (v : AV) : storeH d h (.ptr id ps) v = (storeO (h[id]?) ps v).map fun r => (r.1 ∧ fitP d v, id, r.2) := by
  show (match storeO (h[id]?) ps v with | some (S, o) => some (S ∧ fitP d v, id, o) | none => none) = _
  cases storeO (h[id]?) ps v <;> rfl
@[go_sem] theorem aFG (u v : AV) (ps : List PS) : storeO (some (.box u)) ps v = (u.setAt ps v).map fun u' => (True, .box u') := by
  show (match u.setAt ps v with | some u' => some (True, AObj.box u') | none => none) = _
  cases u.setAt ps v <;> rfl
@[go_sem] theorem aFH (ver : Nat) : storeO (some (.row .arr ver l)) [] (.arr l') = if l'.kind = l.kind then some (l'.len = l.len, .row .arr ver l') else none := (rfl)
theorem oW (rk : RK) (hk : rk ≠ .fro) (ver vr i sz : Nat) (ps : List PS) (v : AV) : storeO (some (.row rk ver l)) (.i vr i sz :: ps) v = if vr = ver ∧ sz = l.kind.size then ((l.nth i).setAt ps v).bind fun u => (l.set i u).map fun l' => (i < l.len, .row rk ver l') else none := by
  have : storeO (some (.row rk ver l)) (.i vr i sz :: ps) v = if vr = ver ∧ sz = l.kind.size ∧ rk ≠ .fro then (match (l.nth i).setAt ps v with
        | some u => match l.set i u with
          | some l' => some (i < l.len, AObj.row rk ver l')
          | none => none
        | none => none) else none := by cases rk <;> rfl
  rw [this]
  have e : (vr = ver ∧ sz = l.kind.size ∧ rk ≠ .fro) ↔ (vr = ver ∧ sz = l.kind.size) := by simp [hk]
  simp only [e]
  congr 1
  cases (l.nth i).setAt ps v with
  | none => rfl
  | some u => show (match l.set i u with | some l' => some (i < l.len, AObj.row rk ver l') | none => none) = _; cases h0 : l.set i u <;> simp [h0]
@[go_sem] theorem aCM (ver vr i sz : Nat) (ps : List PS) (v : AV) : storeO (some (.row .own ver l)) (.i vr i sz :: ps) v = if vr = ver ∧ sz = l.kind.size then ((l.nth i).setAt ps v).bind fun u => (l.set i u).map fun l' => (i < l.len, .row .own ver l') else none := oW l _ (by simp) _ _ _ _ _ _
@[go_sem] theorem aCN (ver vr i sz : Nat) (ps : List PS) (v : AV) : storeO (some (.row .arr ver l)) (.i vr i sz :: ps) v = if vr = ver ∧ sz = l.kind.size then ((l.nth i).setAt ps v).bind fun u => (l.set i u).map fun l' => (i < l.len, .row .arr ver l') else none := oW l _ (by simp) _ _ _ _ _ _
@[go_sem] theorem aDJ (d : TyD) (id : Nat) (kk v : AV) : mapSetH d h (.map id) kk v = (mapSetO d (h[id]?) kk v).map fun m => (True, id, .map m) := by
  show (match mapSetO d (h[id]?) kk v with | some m => some (True, id, AObj.map m) | none => none) = _
  cases mapSetO d (h[id]?) kk v <;> rfl
@[go_sem] theorem aFI (m : Int → Bool) : mapSetO (.map .ib) (some (.map (.ib m))) (.int .i64 a) (.bool p) = some (.ib fun j => if j = a then p else m j) := (rfl)
@[go_sem] theorem aFJ (m : Int → Int) : mapSetO (.map .ii) (some (.map (.ii m))) (.int .i64 a) (.int .i64 b) = some (.ii fun j => if j = a then b else m j) := (rfl)
@[go_sem] theorem aDK (m : Int → Option FuncId) (f : FuncId) : mapSetO (.map .ifn) (some (.map (.ifn m))) (.int .i64 a) (.fn (.func f) [] []) = some (.ifn fun j => if j = a then some f else m j) := (rfl)
@[go_sem] theorem aFK (m : Bytes → Bool) : mapSetO (.map .sb) (some (.map (.sb m))) (.str x) (.bool p) = some (.sb fun j => if j = x then p else m j) := (rfl)
@[go_sem] theorem aDL (d : TyD) (id : Nat) (kk : AV) : lookupD d h (.map id) kk = lookupO d (h[id]?) kk := (rfl)
@[go_sem] theorem aFL (m : Int → Bool) : lookupO (.map .ib) (some (.map (.ib m))) (.int .i64 a) = pD True (.bool (m a)) := (rfl)
@[go_sem] theorem aFM (m : Int → Int) : lookupO (.map .ii) (some (.map (.ii m))) (.int .i64 a) = pD True (.int .i64 (m a)) := (rfl)
@[go_sem] theorem aDM (m : Int → Option FuncId) : lookupO (.map .ifn) (some (.map (.ifn m))) (.int .i64 a) = pD True (fnOpt (m a)) := (rfl)
@[go_sem] theorem aFN (m : Bytes → Bool) : lookupO (.map .sb) (some (.map (.sb m))) (.str x) = pD True (.bool (m x)) := (rfl)
@[go_sem] theorem aFO (f : FuncId) : fnOpt (some f) = .fn (.func f) [] [] := (rfl)
@[go_sem] theorem aFP (d : TyD) (e : LK) (s x : AV) (K : AV → List AObj → Prop) : appendW d (.slice e) s x h K = runDM (appendD d h s x h.length) (appendH d h s x) h K := (rfl)
@[go_sem] theorem aDN (d : TyD) (kk : IntKind) (s : AV) (n : Int) (K : AV → List AObj → Prop) : appendW d (.int kk) s (.int .i64 n) h K = ((0 ≤ n ∧ n ≤ 1099511627776) ∧ runDM (appendD d h s (zeroSl d n) h.length) (appendH d h s (zeroSl d n)) h K) := (rfl)
@[go_sem] theorem aCO (e : LK) (n : Int) : zeroSl (.slice e) n = .sl true (e.zeros n.toNat) := (rfl)
@[go_sem] theorem aFQ (d : TyD) (xs : Lst) (v : AV) (n : Nat) : appendD d h (.sl true xs) v n = whenD (d.isSlice xs.kind) (someD (v.list h) fun ys => gS xs ys n) := (rfl)
@[go_sem] theorem aCP {α : Type} (p : Prop) [Decidable p] (A B : α) : (if p ∨ False then A else B) = if p then A else B := by
  by_cases h : p <;> simp [h]
@[go_sem] theorem aDO {α : Type} (p : Prop) [Decidable p] (A B : α) : (if p ∨ True then A else B) = A := by simp
@[go_sem] theorem aCQ {α : Type} (A B : α) : (if False then A else B) = B := by simp
@[go_sem] theorem aFR (d : TyD) (v : AV) (n id ver off len : Nat) : appendD d h (.sref true id ver off len) v n = if len = 0 ∨ ownRow (h[id]?) = false then whenD (d.fitsRow (rowKind (h[id]?))) (someD (listO (h[id]?) ver off len) fun xs => someD (v.list h) fun ys => gS xs ys n) else none := (rfl)
@[go_sem] theorem aFS (ver : Nat) (l : Lst) : ownRow (some (.row .own ver l)) = true := (rfl)
@[go_sem] theorem aFT (ver : Nat) (l : Lst) : ownRow (some (.row .arr ver l)) = false := (rfl)
@[go_sem] theorem aFU (ver : Nat) (l : Lst) : ownRow (some (.row .fro ver l)) = false := (rfl)
@[go_sem] theorem aFV (v : AV) : ownRow (some (.box v)) = false := (rfl)
@[go_sem] theorem aFW (d : TyD) (v : AV) (n id ver off len : Nat) : appendD d h (.sref false id ver off len) v n = none := (rfl)
@[go_sem] theorem aCR (xs ys : Lst) (s : Nat) : gS xs ys s = someD (xs.app ys) fun zs => some ((0 < ys.len ∨ xs.len = 0) ∧ roomy zs.len, .sref false s 0 0 zs.len, [.row .own 0 zs]) := (rfl)
@[go_sem] theorem aFX (d : TyD) (v : AV) (id ver off len : Nat) : appendH d h (.sref false id ver off len) v = if d.fitsRow (rowKind (h[id]?)) = true then appendO (h[id]?) id ver off len (v.list h) else none := (rfl)
@[go_sem] theorem aFY (d : TyD) (v : AV) (id ver off len : Nat) : appendH d h (.sref true id ver off len) v = if d.fitsRow (rowKind (h[id]?)) = true then appendO (h[id]?) id ver off len (v.list h) else none := (rfl)
@[go_sem] theorem aDP (ver ver' id off len : Nat) (ys : Lst) : appendO (some (.row .own ver' l)) id ver off len (some ys) =
    if ver = ver' then (l.app ys).map fun zs => (off = 0 ∧ len = l.len ∧ roomy zs.len, .sref false id (ver + 1) 0 zs.len, id, .row .own (ver + 1) zs) else none := by
  show (if ver = ver' then (match l.app ys with
      | some zs => some (off = 0 ∧ len = l.len ∧ roomy zs.len, AV.sref false id (ver + 1) 0 zs.len, id, AObj.row .own (ver + 1) zs)
      | none => none) else none) = _
  congr 1; cases l.app ys <;> rfl
@[go_sem] theorem aLr (d : TyD) (x : Bool) (id ver off len : Nat) (s : AV) : copyH d h (.sref x id ver off len) s = if d.fitsRow (rowKind (h[id]?)) = true then copyO (h[id]?) id ver off len (s.list h) else none := (rfl)
theorem uN (rk : RK) (hk : rk ≠ .fro) (ver ver' id off len : Nat) (ys : Lst) : copyO (some (.row rk ver' l)) id ver off len (some ys) =
    if ver = ver' then (l.over off len ys).map fun l' => (True, .int .i64 (min len ys.len : Nat), id, .row rk ver' l') else none := by
  show (if ver = ver' ∧ rk ≠ .fro then (match l.over off len ys with
      | some l' => some (True, AV.int .i64 (min len ys.len : Nat), id, AObj.row rk ver' l')
      | none => none) else none) = _
  have e : (ver = ver' ∧ rk ≠ .fro) ↔ ver = ver' := by simp [hk]
  simp only [e]
  congr 1; cases l.over off len ys <;> rfl
@[go_sem] theorem aIU (ver ver' id off len : Nat) (ys : Lst) : copyO (some (.row .own ver' l)) id ver off len (some ys) =
    if ver = ver' then (l.over off len ys).map fun l' => (True, .int .i64 (min len ys.len : Nat), id, .row .own ver' l') else none := uN l _ (by simp) _ _ _ _ _ _
@[go_sem] theorem aIV (ver ver' id off len : Nat) (ys : Lst) : copyO (some (.row .arr ver' l)) id ver off len (some ys) =
    if ver = ver' then (l.over off len ys).map fun l' => (True, .int .i64 (min len ys.len : Nat), id, .row .arr ver' l') else none := uN l _ (by simp) _ _ _ _ _ _
@[go_sem] theorem aIW (xs ys : List Int) (off len : Nat) : (Lst.ints k xs).over off len (.ints k ys) =
    some (.ints k (xs.take off ++ ys.take len ++ (xs.drop (off + min len ys.length)).take (xs.length - (off + min len ys.length)))) := by
  simp [Lst.over, Lst.cut, Lst.app, Lst.len]
@[go_sem] theorem aCA (d : TyD) (x : Bool) (k : IntKind) : aF d h (.sl x l) (.int k a) = whenD (d.isSlice l.kind) (pD (0 ≤ a ∧ a < l.len) (.ep l a.toNat [])) := (rfl)
@[go_sem] theorem aCp (d : TyD) (x : Bool) (id ver off len : Nat) (k : IntKind) : aF d h (.sref x id ver off len) (.int k a) = mD (h[id]?) d id ver off len a := (rfl)
@[go_sem] theorem aCr (d : TyD) (id : Nat) (k : IntKind) : aF d h (.ptr id []) (.int k a) = mE (h[id]?) d id a := (rfl)
@[go_sem] theorem aCB (d : TyD) (rk : RK) (ver ver' id off len : Nat) : mD (some (.row rk ver' l)) d id ver off len a = whenD (d.isSlice l.kind) (if ver = ver' then pD (0 ≤ a ∧ a < len) (.ptr id [.i ver (off + a.toNat) l.kind.size]) else none) := (rfl)
@[go_sem] theorem aCC (d : TyD) (ver id : Nat) : mE (some (.row .arr ver l)) d id a = whenD (d.isArr l.len l.kind) (pD (0 ≤ a ∧ a < l.len) (.ptr id [.i ver a.toNat l.kind.size])) := (rfl)
@[go_sem] theorem aFZ (k : IntKind) : indexD .str (.str x) (.int k a) = pD (0 ≤ a ∧ a < x.length) (.int .u8 (x.getD a.toNat 0).toNat) := (rfl)
@[go_sem] theorem aGa (d : TyD) (k : IntKind) : indexD d (.arr l) (.int k a) = whenD (d.isArr l.len l.kind) (pD (0 ≤ a ∧ a < l.len) (l.nth a.toNat)) := (rfl)
@[go_sem] theorem unD_not : unD .not (.bool p) = pD True (.bool (!p)) := (rfl)
@[go_sem] theorem unD_neg : unD .neg (.int k a) = pD True (.int k (k.wrap (0 - a))) := (rfl)
@[go_sem] theorem unD_xor : unD .xor (.int k a) = pD True (.int k (notI k a)) := (rfl)
@[go_sem] theorem aIX (k1 k' k2 : IntKind) : convD h (.int k1) (.int k') (.int k2 a) = pD True (.int k' (k'.wrap a)) := (rfl)
@[go_sem] theorem aIY : convD h .str .str (.str x) = pD True (.str x) := (rfl)
@[go_sem] theorem aLs (x : Bool) : convD h (.slice (.int .u8)) .str (.sl x l) = bytesD (some l) := (rfl)
@[go_sem] theorem aGb (x : Bool) (id ver off len : Nat) : convD h (.slice (.int .u8)) .str (.sref x id ver off len) = bytesD (listO (h[id]?) ver off len) := (rfl)
@[go_sem] theorem aDQ (xs : List Int) : bytesD (some (.ints .u8 xs)) = pD True (.str (xs.map fun n => UInt8.ofNat n.toNat)) := (rfl)
@[go_sem] theorem aIZ (fs : List TyD) (f : Nat) : fieldD (.strct fs) (.agg vs) f = if AV.sizes (vs.take f) = TyD.sizes (fs.take f) ∧ f < fs.length ∧ f < vs.length then pD (fitP (fs.getD f .other) (vs.getD f .top)) (vs.getD f .top) else none := (rfl)
@[go_sem] theorem aCs (fs : List TyD) (id f : Nat) (ps : List PS) : aB (.strct fs) (.ptr id ps) f = if f < fs.length then pD True (.ptr id (ps ++ [.f f (TyD.sizes (fs.take f))])) else none := (rfl)
@[go_sem] theorem aCD (fs : List TyD) (i f : Nat) (ps : List PS) : aB (.strct fs) (.ep l i ps) f = if f < fs.length then pD True (.ep l i (ps ++ [.f f (TyD.sizes (fs.take f))])) else none := (rfl)
@[go_sem] theorem aCE (e : LK) (s : Nat) : gC (.slice e) (.int .i64 a) (.int .i64 b) s = some (0 ≤ a ∧ a ≤ b ∧ roomy b.toNat, .sref (decide (a = b)) s 0 0 a.toNat, [.row .own 0 (e.zeros a.toNat)]) := (rfl)
@[go_sem] theorem aDR (s : Nat) : gG (.map .ib) s = some (True, .map s, [.map (.ib fun _ => false)]) := (rfl)
@[go_sem] theorem aDS (s : Nat) : gG (.map .ii) s = some (True, .map s, [.map (.ii fun _ => 0)]) := (rfl)
@[go_sem] theorem aDT (s : Nat) : gG (.map .sb) s = some (True, .map s, [.map (.sb fun _ => false)]) := (rfl)
@[go_sem] theorem aCS (s : Nat) : gG (.map .ifn) s = some (True, .map s, [.map (.ifn fun _ => none)]) := (rfl)
@[go_sem] theorem aCF (id : Nat) (ps : List PS) : aY (.ptr id ps) = pD True (.ptr id ps) := (rfl)
@[go_sem] theorem aCT (i : Nat) (ps : List PS) : aY (.ep l i ps) = pD True (.ep l i ps) := (rfl)
@[go_sem] theorem aDU (i : Nat) : bH (.tup vs) i = if i < vs.length then pD True (vs.getD i .top) else none := (rfl)
@[go_sem] theorem aGc (v w : AV) : pickD (.bool true) v w = pD True v := (rfl)
@[go_sem] theorem aDV (v w : AV) : pickD (.bool false) v w = pD True w := (rfl)
@[go_sem] theorem aLt : minD (.int k a) (.int k b) = pD True (.int k (if b < a then b else a)) := by simp [minD]
@[go_sem] theorem aLu : maxD (.int k a) (.int k b) = pD True (.int k (if b > a then b else a)) := by simp [maxD]
@[go_sem] theorem aJa : maxD (.str x) (.str y) = pD True (.str (if ltB x y then y else x)) := (rfl)
@[go_sem] theorem aCU (fs : List TyD) (parts : List (Nat × AV)) : buildD (.strct fs) parts = someD (fillAgg (TyD.zeros fs) parts) fun vs => pD True (.agg vs) := (rfl)
@[go_sem] theorem aGd (n : Nat) (e : LK) (parts : List (Nat × AV)) : buildD (.arr n e) parts = someD (fillLst (e.zeros n) parts) fun l => pD True (.arr l) := (rfl)
@[go_sem] theorem aCt (e : LK) (n s : Nat) (parts : List (Nat × AV)) : fB (.slice e) n parts s = someD (fillLst (e.zeros n) parts) fun l => some (n ≤ 1048576, .sref true s 0 0 n, [.row .own 0 l]) := (rfl)
@[go_sem] theorem aDW : fillAgg vs [] = some vs := (rfl)
@[go_sem] theorem aCV (i : Nat) (v : AV) (r : List (Nat × AV)) : fillAgg vs ((i, v) :: r) = if i < vs.length ∧ (vs.getD i .top).size = v.size ∧ v.solid = true then fillAgg (vs.set i v) r else none := (rfl)
@[go_sem] theorem aDX : fillLst l [] = some l := (rfl)
@[go_sem] theorem aCW (i : Nat) (v : AV) (r : List (Nat × AV)) : fillLst l ((i, v) :: r) = if i < l.len then (l.set i v).bind fun l' => fillLst l' r else none := by
  show (if i < l.len then (match l.set i v with | some l' => fillLst l' r | none => none) else none) = _
  congr 1; cases l.set i v <;> rfl
@[go_sem] theorem aLv : boxO (.arr l) = .row .arr 0 l := (rfl)
@[go_sem] theorem aLw : boxO (.int k a) = .box (.int k a) := (rfl)
@[go_sem] theorem aJb : boxO (.bool p) = .box (.bool p) := (rfl)
@[go_sem] theorem aLx : boxO (.str x) = .box (.str x) := (rfl)
@[go_sem] theorem aLy : boxO (.agg vs) = .box (.agg vs) := (rfl)
@[go_sem] theorem boxO_sl (x : Bool) : boxO (.sl x l) = .box (.sl x l) := (rfl)
@[go_sem] theorem aJc (x : Bool) (id ver off len : Nat) : boxO (.sref x id ver off len) = .box (.sref x id ver off len) := (rfl)
@[go_sem] theorem aLz (id : Nat) (ps : List PS) : boxO (.ptr id ps) = .box (.ptr id ps) := (rfl)
@[go_sem] theorem aLA (id : Nat) : boxO (.map id) = .box (.map id) := (rfl)
@[go_sem] theorem aJd : boxO .nilp = .box .nilp := (rfl)
@[go_sem] theorem aLB : boxO .top = .box .top := (rfl)
@[go_sem] theorem boxO_fn (f : Fn) : boxO (.fn f vs ws) = .box (.fn f vs ws) := (rfl)
@[go_sem] theorem aGe : boxO .nilfn = .box .nilfn := (rfl)
@[go_sem] theorem fitD_p (d : TyD) (v : AV) : fitD d (pD S v) = pD (S ∧ fitP d v) v := (rfl)
@[go_sem] theorem aGf (fs : List TyD) : fitP (.strct fs) (.agg vs) = (AV.sizes vs = TyD.sizes fs) := (rfl)
@[go_sem] theorem aLC (n : Nat) (e : LK) : fitP (.arr n e) (.arr l) = (l.len = n ∧ l.kind = e) := (rfl)
@[go_sem] theorem aLD (k' : IntKind) : fitP (.int k') (.int k a) = True := (rfl)
@[go_sem] theorem aJe : fitP .bool (.bool p) = True := (rfl)
@[go_sem] theorem aLE : fitP .str (.str x) = True := (rfl)
@[go_sem] theorem fitP_sl (e : LK) (x : Bool) : fitP (.slice e) (.sl x l) = True := (rfl)
@[go_sem] theorem aJf (e : LK) (x : Bool) (id ver off len : Nat) : fitP (.slice e) (.sref x id ver off len) = True := (rfl)
@[go_sem] theorem aLF (id : Nat) (ps : List PS) : fitP .ptr (.ptr id ps) = True := (rfl)
@[go_sem] theorem aJg : fitP .ptr .nilp = True := (rfl)
@[go_sem] theorem fitP_ep (i : Nat) (ps : List PS) : fitP .ptr (.ep l i ps) = True := (rfl)
@[go_sem] theorem aLG (m : MK) (id : Nat) : fitP (.map m) (.map id) = True := (rfl)
@[go_sem] theorem fitP_fn (f : Fn) : fitP .func (.fn f vs ws) = True := (rfl)
@[go_sem] theorem aGg : fitP .func .nilfn = True := (rfl)
end ops

section slices
variable (h : List AObj) (x : Bool) (l : Lst) (s : Bytes) (a b c : Int) (k k' k'' : IntKind) (id ver off len : Nat) (lo hi mx : Option AV)
variable (d : TyD)
@[go_sem] theorem aLH : sliceD .str h (.str s) none (some (.int k b)) none = pD (0 ≤ b ∧ b ≤ s.length) (.str (s.take b.toNat)) := (rfl)
@[go_sem] theorem aLI : sliceD .str h (.str s) (some (.int k a)) none none = pD (0 ≤ a ∧ a ≤ s.length) (.str (s.drop a.toNat)) := (rfl)
@[go_sem] theorem aLJ : sliceD .str h (.str s) (some (.int k a)) (some (.int k' b)) none = pD (0 ≤ a ∧ a ≤ b ∧ b ≤ s.length) (.str ((s.drop a.toNat).take (b.toNat - a.toNat))) := (rfl)
@[go_sem] theorem aLK : sliceD d h (.sl x l) none none none = whenD (d.isSlice l.kind) (pD True (.sl x l)) := (rfl)
@[go_sem] theorem aLL : sliceD d h (.sl x l) none (some (.int k b)) none = whenD (d.isSlice l.kind) (pD (0 ≤ b ∧ b ≤ l.len) (.sl false (l.cut 0 b.toNat))) := (rfl)
@[go_sem] theorem aLM : sliceD d h (.sl x l) (some (.int k a)) none none = whenD (d.isSlice l.kind) (pD (0 ≤ a ∧ a ≤ l.len) (.sl x (l.cut a.toNat (l.len - a.toNat)))) := (rfl)
@[go_sem] theorem aLN : sliceD d h (.sl x l) (some (.int k a)) (some (.int k' b)) none = whenD (d.isSlice l.kind) (pD (0 ≤ a ∧ a ≤ b ∧ b ≤ l.len) (.sl false (l.cut a.toNat (b.toNat - a.toNat)))) := (rfl)
@[go_sem] theorem aLO : sliceD d h (.sl x l) none (some (.int k' b)) (some (.int k'' c)) = whenD (d.isSlice l.kind) (pD (0 ≤ b ∧ b ≤ l.len ∧ b = c) (.sl true (l.cut 0 b.toNat))) := (rfl)
@[go_sem] theorem aLP : sliceD d h (.sl x l) (some (.int k a)) (some (.int k' b)) (some (.int k'' c)) = whenD (d.isSlice l.kind) (pD (0 ≤ a ∧ a ≤ b ∧ b ≤ l.len ∧ b = c) (.sl true (l.cut a.toNat (b.toNat - a.toNat)))) := (rfl)
@[go_sem] theorem aLQ : sliceD d h (.sref x id ver off len) none (some (.int k b)) none = whenD (d.fitsRow (rowKind (h[id]?))) (whenD (verB (h[id]?) ver) (pD (0 ≤ b ∧ b ≤ len) (.sref false id ver off b.toNat))) := by
  simp [sliceD, iJ]
@[go_sem] theorem aLR : sliceD d h (.sref x id ver off len) (some (.int k a)) none none = whenD (d.fitsRow (rowKind (h[id]?))) (whenD (verB (h[id]?) ver) (pD (0 ≤ a ∧ a ≤ len) (.sref x id ver (off + a.toNat) (len - a.toNat)))) := by
  simp [sliceD, iJ]
@[go_sem] theorem aLS : sliceD d h (.sref x id ver off len) (some (.int k a)) (some (.int k' b)) none = whenD (d.fitsRow (rowKind (h[id]?))) (whenD (verB (h[id]?) ver) (pD (0 ≤ a ∧ a ≤ b ∧ b ≤ len) (.sref false id ver (off + a.toNat) (b.toNat - a.toNat)))) := by
  simp [sliceD, iJ]
@[go_sem] theorem aLT : sliceD d h (.sref x id ver off len) none (some (.int k' b)) (some (.int k'' c)) = whenD (d.fitsRow (rowKind (h[id]?))) (whenD (verB (h[id]?) ver) (pD (0 ≤ b ∧ b ≤ len ∧ b = c) (.sref true id ver off b.toNat))) := by
  simp [sliceD, iJ]
@[go_sem] theorem aLU : sliceD d h (.sref x id ver off len) (some (.int k a)) (some (.int k' b)) (some (.int k'' c)) = whenD (d.fitsRow (rowKind (h[id]?))) (whenD (verB (h[id]?) ver) (pD (0 ≤ a ∧ a ≤ b ∧ b ≤ len ∧ b = c) (.sref true id ver (off + a.toNat) (b.toNat - a.toNat)))) := by
  simp [sliceD, iJ]
@[go_sem] theorem slice_p (lo hi mx : Option AV) : sliceD d h (.ptr id []) lo hi mx = gF (h[id]?) id d lo hi mx := (rfl)
@[go_sem] theorem aGh : gF (some (.row .arr ver l)) id d none none none = whenD (d.isArr l.len l.kind) (pD True (.sref true id ver 0 l.len)) := by
  simp [gF]
@[go_sem] theorem aGi : gF (some (.row .arr ver l)) id d (some (.int k a)) none none = whenD (d.isArr l.len l.kind) (pD (0 ≤ a ∧ a ≤ l.len) (.sref true id ver a.toNat (l.len - a.toNat))) := by
  simp [gF]
@[go_sem] theorem aGj : gF (some (.row .arr ver l)) id d none (some (.int k' b)) none = whenD (d.isArr l.len l.kind) (pD (0 ≤ b ∧ b ≤ l.len) (.sref false id ver 0 b.toNat)) := by
  simp [gF]
@[go_sem] theorem aGk : gF (some (.row .arr ver l)) id d (some (.int k a)) (some (.int k' b)) none = whenD (d.isArr l.len l.kind) (pD (0 ≤ a ∧ a ≤ b ∧ b ≤ l.len) (.sref false id ver a.toNat (b.toNat - a.toNat))) := by
  simp [gF]
end slices

section vals
variable (h : List AObj) (x : Bool) (l : Lst) (vs ws : List AV) (n : Nat)
@[go_sem] theorem aLV : AV.vals h [] = some [] := (rfl)
def consO : Option AV → Option (List AV) → Option (List AV)
  | some a, some b => some (a :: b)
  | _, _ => none
@[go_sem] theorem aJh (v : AV) (r : List AV) : AV.vals h (v :: r) = consO (v.val h) (AV.vals h r) := by
  show (match v.val h, AV.vals h r with | some a, some b => some (a :: b) | _, _ => none) = _
  cases v.val h <;> cases AV.vals h r <;> rfl
@[go_sem] theorem aGl (a : AV) (b : List AV) : consO (some a) (some b) = some (a :: b) := (rfl)
@[go_sem] theorem aLW (id ver off len : Nat) : (AV.sref x id ver off len).val h = (listO (h[id]?) ver off len).map fun l => .sl false l := (rfl)
@[go_sem] theorem val_sl : (AV.sl x l).val h = some (.sl false l) := (rfl)
@[go_sem] theorem val_agg : (AV.agg vs).val h = (AV.vals h vs).map .agg := (rfl)
@[go_sem] theorem val_tup : (AV.tup vs).val h = (AV.vals h vs).map .tup := (rfl)
@[go_sem] theorem val_int (k : IntKind) (a : Int) : (AV.int k a).val h = some (.int k a) := (rfl)
@[go_sem] theorem aLX (b : Bool) : (AV.bool b).val h = some (.bool b) := (rfl)
@[go_sem] theorem val_str (s : Bytes) : (AV.str s).val h = some (.str s) := (rfl)
@[go_sem] theorem val_ptr (id : Nat) (p : List PS) : (AV.ptr id p).val h = some (.ptr id p) := (rfl)
@[go_sem] theorem val_map (id : Nat) : (AV.map id).val h = some (.map id) := (rfl)
@[go_sem] theorem val_fn (f : Fn) : (AV.fn f vs ws).val h = some (.fn f vs ws) := (rfl)
@[go_sem] theorem val_arr : (AV.arr l).val h = some (.arr l) := (rfl)
@[go_sem] theorem aLY : AV.nilp.val h = some .nilp := (rfl)
@[go_sem] theorem val_top : AV.top.val h = some .top := (rfl)
@[go_sem] theorem aJi (k : IntKind) (a : Int) : (AV.int k a).shift n = .int k a := (rfl)
@[go_sem] theorem aGm (b : Bool) : (AV.bool b).shift n = .bool b := (rfl)
@[go_sem] theorem aJj (s : Bytes) : (AV.str s).shift n = .str s := (rfl)
@[go_sem] theorem aLZ : (AV.sl x l).shift n = .sl x l := (rfl)
@[go_sem] theorem aJk : (AV.arr l).shift n = .arr l := (rfl)
@[go_sem] theorem aMa (f : Fn) : (AV.fn f vs ws).shift n = .fn f vs ws := (rfl)
@[go_sem] theorem aGn (id ver off len : Nat) : (AV.sref x id ver off len).shift n = .sref x (n + id) ver off len := (rfl)
@[go_sem] theorem aJl (id : Nat) : (AV.map id).shift n = .map (n + id) := (rfl)
@[go_sem] theorem aJm (id : Nat) (p : List PS) : (AV.ptr id p).shift n = .ptr (n + id) p := (rfl)
@[go_sem] theorem aJn : (AV.agg vs).shift n = .agg (AV.shifts n vs) := (rfl)
@[go_sem] theorem aJo : (AV.tup vs).shift n = .tup (AV.shifts n vs) := (rfl)
@[go_sem] theorem aGo : AV.shifts n [] = [] := (rfl)
@[go_sem] theorem aDY (v : AV) (r : List AV) : AV.shifts n (v :: r) = v.shift n :: AV.shifts n r := (rfl)
@[go_sem] theorem aJp (id ver off len : Nat) : (AV.sref x id ver off len).rows = [id] := (rfl)
@[go_sem] theorem rows_sl : (AV.sl x l).rows = [] := (rfl)
@[go_sem] theorem aMb : (AV.agg vs).rows = AV.rowss vs := (rfl)
@[go_sem] theorem aMc : (AV.tup vs).rows = AV.rowss vs := (rfl)
@[go_sem] theorem aMd (k : IntKind) (a : Int) : (AV.int k a).rows = [] := (rfl)
@[go_sem] theorem aJq (b : Bool) : (AV.bool b).rows = [] := (rfl)
@[go_sem] theorem aMe (s : Bytes) : (AV.str s).rows = [] := (rfl)
@[go_sem] theorem aMf : (AV.arr l).rows = [] := (rfl)
@[go_sem] theorem aMg (id : Nat) (p : List PS) : (AV.ptr id p).rows = [] := (rfl)
@[go_sem] theorem aMh (id : Nat) : (AV.map id).rows = [] := (rfl)
@[go_sem] theorem rows_fn (f : Fn) : (AV.fn f vs ws).rows = [] := (rfl)
@[go_sem] theorem aGp : AV.nilfn.rows = [] := (rfl)
@[go_sem] theorem aJr : AV.nilp.rows = [] := (rfl)
@[go_sem] theorem rows_ep (i : Nat) (fs : List PS) : (AV.ep l i fs).rows = [] := (rfl)
@[go_sem] theorem aMi : AV.top.rows = [] := (rfl)
@[go_sem] theorem aGq (t : TypeId) (v : AV) : (AV.iface t v).rows = [] := (rfl)
@[go_sem] theorem aCG : AV.niliface.rows = [] := (rfl)
@[go_sem] theorem aJs : AV.rowss [] = [] := (rfl)
@[go_sem] theorem aGr (v : AV) (r : List AV) : AV.rowss (v :: r) = v.rows ++ AV.rowss r := (rfl)
@[go_sem] theorem aMj (k : IntKind) (a : Int) : (AV.int k a).noSl = true := (rfl)
@[go_sem] theorem aJt (b : Bool) : (AV.bool b).noSl = true := (rfl)
@[go_sem] theorem aMk (s : Bytes) : (AV.str s).noSl = true := (rfl)
@[go_sem] theorem aMl : (AV.arr l).noSl = true := (rfl)
@[go_sem] theorem aJu : AV.nilp.noSl = true := (rfl)
@[go_sem] theorem aGs : AV.nilfn.noSl = true := (rfl)
@[go_sem] theorem noSl_sl : (AV.sl x l).noSl = false := (rfl)
@[go_sem] theorem aMm : (AV.agg vs).noSl = AV.noSls vs := (rfl)
@[go_sem] theorem aMn : (AV.tup vs).noSl = AV.noSls vs := (rfl)
@[go_sem] theorem noSl_fn (f : Fn) : (AV.fn f vs ws).noSl = (AV.noSls vs && AV.noSls ws) := (rfl)
@[go_sem] theorem aJv : AV.noSls [] = true := (rfl)
@[go_sem] theorem aGt (v : AV) (r : List AV) : AV.noSls (v :: r) = (v.noSl && AV.noSls r) := (rfl)
@[go_sem] theorem aMo (p : Prop) [Decidable p] (v w : AV) : (if p then v else w).noSl = (if p then v.noSl else w.noSl) := by split <;> rfl
@[go_sem] theorem aDZ (id ver off len : Nat) : (AV.sref x id ver off len).closed = false := (rfl)
@[go_sem] theorem aGu (id : Nat) (p : List PS) : (AV.ptr id p).closed = false := (rfl)
@[go_sem] theorem aGv (id : Nat) : (AV.map id).closed = false := (rfl)
@[go_sem] theorem aEa : AV.nilp.closed = true := (rfl)
@[go_sem] theorem aCX : AV.nilfn.closed = true := (rfl)
@[go_sem] theorem aJw (k : IntKind) (a : Int) : (AV.int k a).solid = true := (rfl)
@[go_sem] theorem aGw (b : Bool) : (AV.bool b).solid = true := (rfl)
@[go_sem] theorem aJx (s : Bytes) : (AV.str s).solid = true := (rfl)
@[go_sem] theorem aMp : (AV.sl x l).solid = true := (rfl)
@[go_sem] theorem aGx (id ver off len : Nat) : (AV.sref x id ver off len).solid = true := (rfl)
@[go_sem] theorem aJy : (AV.agg vs).solid = true := (rfl)
@[go_sem] theorem aJz : (AV.arr l).solid = true := (rfl)
@[go_sem] theorem aJA (id : Nat) (p : List PS) : (AV.ptr id p).solid = true := (rfl)
@[go_sem] theorem aJB (id : Nat) : (AV.map id).solid = true := (rfl)
@[go_sem] theorem aGy : AV.nilp.solid = true := (rfl)
@[go_sem] theorem aEb : AV.nilfn.solid = true := (rfl)
@[go_sem] theorem aMq (f : Fn) : (AV.fn f vs ws).solid = true := (rfl)
@[go_sem] theorem aMr (id ver off len : Nat) : (AV.sref x id ver off len).ids = [id] := (rfl)
@[go_sem] theorem ids_sl : (AV.sl x l).ids = [] := (rfl)
@[go_sem] theorem ids_agg : (AV.agg vs).ids = AV.idss vs := (rfl)
@[go_sem] theorem ids_tup : (AV.tup vs).ids = AV.idss vs := (rfl)
@[go_sem] theorem ids_int (k : IntKind) (a : Int) : (AV.int k a).ids = [] := (rfl)
@[go_sem] theorem aMs (b : Bool) : (AV.bool b).ids = [] := (rfl)
@[go_sem] theorem ids_str (s : Bytes) : (AV.str s).ids = [] := (rfl)
@[go_sem] theorem ids_arr : (AV.arr l).ids = [] := (rfl)
@[go_sem] theorem ids_ptr (id : Nat) (p : List PS) : (AV.ptr id p).ids = [id] := (rfl)
@[go_sem] theorem ids_map (id : Nat) : (AV.map id).ids = [id] := (rfl)
@[go_sem] theorem ids_fn (f : Fn) : (AV.fn f vs ws).ids = AV.idss vs ++ AV.idss ws := (rfl)
@[go_sem] theorem aMt : AV.nilp.ids = [] := (rfl)
@[go_sem] theorem aJC : AV.nilfn.ids = [] := (rfl)
@[go_sem] theorem ids_ep (i : Nat) (fs : List PS) : (AV.ep l i fs).ids = [] := (rfl)
@[go_sem] theorem ids_top : AV.top.ids = [] := (rfl)
@[go_sem] theorem aMu : AV.idss [] = [] := (rfl)
@[go_sem] theorem aJD (v : AV) (r : List AV) : AV.idss (v :: r) = v.ids ++ AV.idss r := (rfl)
@[go_sem] theorem aGz : AV.nilfn.norm n h = .nilfn := (rfl)
@[go_sem] theorem aEc : AV.closeds [] = true := (rfl)
@[go_sem] theorem aCY (v : AV) (r : List AV) : AV.closeds (v :: r) = (v.closed && AV.closeds r) := (rfl)
@[go_sem] theorem aGA (k : IntKind) (a : Int) : (AV.int k a).closed = true := (rfl)
@[go_sem] theorem aEd (b : Bool) : (AV.bool b).closed = true := (rfl)
@[go_sem] theorem aGB (s : Bytes) : (AV.str s).closed = true := (rfl)
@[go_sem] theorem aJE : (AV.sl x l).closed = true := (rfl)
@[go_sem] theorem aGC : (AV.arr l).closed = true := (rfl)
@[go_sem] theorem aGD : (AV.agg vs).closed = AV.closeds vs := (rfl)
@[go_sem] theorem aJF (f : Fn) : (AV.fn f vs ws).closed = (AV.closeds vs && AV.closeds ws) := (rfl)
@[go_sem] theorem aJG : AV.norms n h [] = [] := (rfl)
@[go_sem] theorem aGE (v : AV) (r : List AV) : AV.norms n h (v :: r) = v.norm n h :: AV.norms n h r := (rfl)
@[go_sem] theorem aMv (k : IntKind) (a : Int) : (AV.int k a).norm n h = .int k a := (rfl)
@[go_sem] theorem aJH (b : Bool) : (AV.bool b).norm n h = .bool b := (rfl)
@[go_sem] theorem aMw (s : Bytes) : (AV.str s).norm n h = .str s := (rfl)
@[go_sem] theorem norm_sl : (AV.sl x l).norm n h = .sl false l := (rfl)
@[go_sem] theorem aMx : (AV.arr l).norm n h = .arr l := (rfl)
@[go_sem] theorem aJI : AV.nilp.norm n h = .nilp := (rfl)
@[go_sem] theorem aMy : AV.top.norm n h = .top := (rfl)
@[go_sem] theorem aMz : AV.und.norm n h = .und := (rfl)
@[go_sem] theorem aMA (id : Nat) (p : List PS) : (AV.ptr id p).norm n h = if id < n then .ptr id p else .top := (rfl)
@[go_sem] theorem aMB (id : Nat) : (AV.map id).norm n h = if id < n then .map id else .top := (rfl)
@[go_sem] theorem aMC : (AV.agg vs).norm n h = .agg (AV.norms n h vs) := (rfl)
@[go_sem] theorem aMD : (AV.tup vs).norm n h = .tup (AV.norms n h vs) := (rfl)
@[go_sem] theorem norm_fn (f : Fn) : (AV.fn f vs ws).norm n h = .fn f (AV.norms n h vs) (AV.norms n h ws) := (rfl)
@[go_sem] theorem norm_ep (i : Nat) (fs : List PS) : (AV.ep l i fs).norm n h = .ep l i fs := (rfl)
@[go_sem] theorem aJJ (id ver off len : Nat) : (AV.sref x id ver off len).norm n h = normR n (h[id]?) id ver off len := (rfl)
@[go_sem] theorem aJK (rk : RK) (id ver ver' off len : Nat) : normR n (some (.row rk ver' l)) id ver off len = if ver = ver' then (if id < n then .sref false id ver off len else .sl false (l.cut off len)) else .top := (rfl)
@[go_sem] theorem aME : normH n h = (h.take n).map (normO n h) := (rfl)
@[go_sem] theorem aJL (v : AV) : normO n h (.box v) = .box (v.norm n h) := (rfl)
@[go_sem] theorem aJM (rk : RK) (ver : Nat) : normO n h (.row rk ver l) = .row rk ver l := (rfl)
@[go_sem] theorem aJN (m : MapC) : normO n h (.map m) = .map m := (rfl)
@[go_sem] theorem aGF : normO n h .dead = .dead := (rfl)
@[go_sem] theorem aJO (K : List AV → List AObj → Prop) : promV [] vs h K = K vs h := by cases vs <;> rfl
@[go_sem] theorem aGG (fs : List Bool) (K : List AV → List AObj → Prop) : promV fs [] h K = K [] h := by
  cases fs with
  | nil => rfl
  | cons f r => cases f <;> rfl
@[go_sem] theorem aEe (fs : List Bool) (v : AV) (K : List AV → List AObj → Prop) : promV (false :: fs) (v :: vs) h K = promV fs vs h fun us h' => K (v :: us) h' := (rfl)
@[go_sem] theorem aGH (fs : List Bool) (x : Bool) (id ver off len : Nat) (vs : List AV) (K : List AV → List AObj → Prop) : promV (true :: fs) (.sref x id ver off len :: vs) h K = promV fs vs h fun us h' => K (.sref x id ver off len :: us) h' := (rfl)
@[go_sem] theorem aGI (fs : List Bool) (l : Lst) (K : List AV → List AObj → Prop) : promV (true :: fs) (.sl true l :: vs) h K = (l.len = 0 ∧ promV fs vs (h ++ [.row .own 0 l]) fun us h' => K (.sref false h.length 0 0 0 :: us) h') := (rfl)
end vals

@[go_sem] theorem aMF (n : Nat) : ((no_index (OfNat.ofNat n) : Nat) : Int) = OfNat.ofNat n := (rfl)
attribute [go_sem] Bool.and_false Bool.false_and ite_self List.take_length false_imp_iff true_imp_iff not_true_eq_false decide_true decide_false List.length_replicate List.length_set Int.toNat_natCast Bool.and_self List.modify_zero_cons List.modify_succ_cons eq_self and_self implies_true List.getElem?_cons_zero List.getElem?_cons_succ List.set_cons_zero List.set_cons_succ List.cons_append List.nil_append List.append_nil List.length_cons List.length_nil List.take_succ_cons List.take_zero List.take_nil List.getD_cons_zero List.getD_cons_succ List.map_cons List.map_nil Option.bind_some Option.bind_none Option.map_some Option.map_none true_and and_true Nat.add_zero Nat.zero_add if_true if_false Bool.true_eq_false Bool.false_eq_true Bool.not_true Bool.not_false Bool.and_true Bool.true_and or_true true_or reduceCtorEq reduceIte List.drop_zero List.append_assoc decide_eq_true_eq decide_eq_false_iff_not Bool.not_eq_true' Bool.not_eq_false' ne_eq not_false_eq_true forall_const
end Lam
set_option linter.unusedVariables false
set_option linter.unusedSimpArgs false
set_option linter.unnecessarySimpa false
set_option linter.unusedSectionVars false
namespace Lam
open Go
@[go_sem] theorem aJP (f : FuncId) (vs : List AV) : lookF [] f vs = none := (rfl)
@[go_sem] theorem aJQ (f : FuncId) (Y : Con) (a : List AV) (h : List AObj) (K' : AOut → List AObj → Prop) : lookI [] f Y a h K' = False := (rfl)
@[go_sem] theorem aGJ (f g : FuncId) (C : Con → Con) (r : List (FuncId × (Con → Con))) : lookI ((g, C) :: r) f = if f = g then C else lookI r f := by
  by_cases h : f = g
  · subst h; simp [lookI]
  · have : Nat.beq f g = false := by rw [Bool.eq_false_iff]; intro e; exact h (Nat.eq_of_beq_eq_true e)
    simp [lookI, this, h]
@[go_sem] theorem aGK (g f : FuncId) (C : aD) (r : List (FuncId × aD)) : lookF ((g, C) :: r) f = if f = g then C else lookF r f := by
  by_cases h : f = g
  · subst h; simp [lookF]
  · have : Nat.beq f g = false := by rw [Bool.eq_false_iff]; intro e; exact h (Nat.eq_of_beq_eq_true e)
    simp [lookF, this, h]
@[go_sem] theorem aJR (f : FuncId) (vs : List AV) (h : List AObj) (K : AOut → List AObj → Prop) : lookS [] f vs h K = False := (rfl)
@[go_sem] theorem aGL (g f : FuncId) (C : Con) (r : List (FuncId × Con)) : lookS ((g, C) :: r) f = if f = g then C else lookS r f := by
  by_cases h : f = g
  · subst h; simp [lookS]
  · have : Nat.beq f g = false := by rw [Bool.eq_false_iff]; intro e; exact h (Nat.eq_of_beq_eq_true e)
    simp [lookS, this, h]
theorem w64 {n : Int} (h1 : -9223372036854775808 ≤ n) (h2 : n < 9223372036854775808) : IntKind.i64.wrap n = n := by rw [IntKind.wrap_i64]; omega
theorem wV (n : Int) : 0 ≤ IntKind.u8.wrap n ∧ IntKind.u8.wrap n < 256 := by simp [IntKind.wrap, IntKind.bits, IntKind.signed]; omega
theorem aBc (n : Int) : 0 ≤ IntKind.u64.wrap n ∧ IntKind.u64.wrap n < 18446744073709551616 := by simp [IntKind.wrap, IntKind.bits, IntKind.signed]; omega
theorem u64_id {n : Int} (h1 : 0 ≤ n) (h2 : n < 18446744073709551616) : IntKind.u64.wrap n = n := by simp [IntKind.wrap, IntKind.bits, IntKind.signed]; omega
abbrev J2 := AV → AV → List AObj → Prop
@[congr] theorem aEf {α : Type} {A A' : α → Prop} {k : α} (e : ∀ J, A J = A' J) : joinW A k = joinW A' k := by unfold joinW; exact e k
theorem aA {α : Type} (A : α → Prop) (k : α) : joinW A k = A k := (rfl)
section
variable (p q : Bool) (S : Prop) (h : List AObj) (F : AV → List AObj → Prop)
@[go_sem] theorem aMG : joinW (fun J : J2 => guardW (.bool p) true (J (.bool true) (.bool q) h) (J (.bool false) .und h)) (fun t v h' => runD (pickD t v (.bool false)) h' F) = F (.bool (p && q)) h := by
  cases p <;> simp [joinW, guardW, pickD, pD, runD]
@[go_sem] theorem aGM : joinW (fun J : J2 => guardW (.bool p) true (S ∧ J (.bool true) (.bool q) h) (J (.bool false) .und h)) (fun t v h' => runD (pickD t v (.bool false)) h' F) = ((p = true → S) ∧ F (.bool (p && q)) h) := by
  cases p <;> simp [joinW, guardW, pickD, pD, runD]
@[go_sem] theorem join_or : joinW (fun J : J2 => guardW (.bool p) false (J (.bool false) (.bool q) h) (J (.bool true) .und h)) (fun t v h' => runD (pickD t (.bool true) v) h' F) = F (.bool (p || q)) h := by
  cases p <;> simp [joinW, guardW, pickD, pD, runD]
@[go_sem] theorem aJS : joinW (fun J : J2 => guardW (.bool p) false (S ∧ J (.bool false) (.bool q) h) (J (.bool true) .und h)) (fun t v h' => runD (pickD t (.bool true) v) h' F) = ((p = false → S) ∧ F (.bool (p || q)) h) := by
  cases p <;> simp [joinW, guardW, pickD, pD, runD]
variable (S2 S3 S4 S5 : Prop)
@[go_sem] theorem aEg : joinW (fun J : J2 => guardW (.bool p) true (S ∧ S2 ∧ J (.bool true) (.bool q) h) (J (.bool false) .und h)) (fun t v h' => runD (pickD t v (.bool false)) h' F) = ((p = true → S ∧ S2) ∧ F (.bool (p && q)) h) := by
  cases p <;> simp [joinW, guardW, pickD, pD, runD, and_assoc]
@[go_sem] theorem aGN : joinW (fun J : J2 => guardW (.bool p) false (S ∧ S2 ∧ J (.bool false) (.bool q) h) (J (.bool true) .und h)) (fun t v h' => runD (pickD t (.bool true) v) h' F) = ((p = false → S ∧ S2) ∧ F (.bool (p || q)) h) := by
  cases p <;> simp [joinW, guardW, pickD, pD, runD, and_assoc]
@[go_sem] theorem aEh : joinW (fun J : J2 => guardW (.bool p) true (S ∧ S2 ∧ S3 ∧ J (.bool true) (.bool q) h) (J (.bool false) .und h)) (fun t v h' => runD (pickD t v (.bool false)) h' F) = ((p = true → S ∧ S2 ∧ S3) ∧ F (.bool (p && q)) h) := by
  cases p <;> simp [joinW, guardW, pickD, pD, runD, and_assoc]
@[go_sem] theorem aGO : joinW (fun J : J2 => guardW (.bool p) false (S ∧ S2 ∧ S3 ∧ J (.bool false) (.bool q) h) (J (.bool true) .und h)) (fun t v h' => runD (pickD t (.bool true) v) h' F) = ((p = false → S ∧ S2 ∧ S3) ∧ F (.bool (p || q)) h) := by
  cases p <;> simp [joinW, guardW, pickD, pD, runD, and_assoc]
@[go_sem] theorem aEi : joinW (fun J : J2 => guardW (.bool p) true (S ∧ S2 ∧ S3 ∧ S4 ∧ J (.bool true) (.bool q) h) (J (.bool false) .und h)) (fun t v h' => runD (pickD t v (.bool false)) h' F) = ((p = true → S ∧ S2 ∧ S3 ∧ S4) ∧ F (.bool (p && q)) h) := by
  cases p <;> simp [joinW, guardW, pickD, pD, runD, and_assoc]
@[go_sem] theorem aGP : joinW (fun J : J2 => guardW (.bool p) false (S ∧ S2 ∧ S3 ∧ S4 ∧ J (.bool false) (.bool q) h) (J (.bool true) .und h)) (fun t v h' => runD (pickD t (.bool true) v) h' F) = ((p = false → S ∧ S2 ∧ S3 ∧ S4) ∧ F (.bool (p || q)) h) := by
  cases p <;> simp [joinW, guardW, pickD, pD, runD, and_assoc]
@[go_sem] theorem aEj : joinW (fun J : J2 => guardW (.bool p) true (S ∧ S2 ∧ S3 ∧ S4 ∧ S5 ∧ J (.bool true) (.bool q) h) (J (.bool false) .und h)) (fun t v h' => runD (pickD t v (.bool false)) h' F) = ((p = true → S ∧ S2 ∧ S3 ∧ S4 ∧ S5) ∧ F (.bool (p && q)) h) := by
  cases p <;> simp [joinW, guardW, pickD, pD, runD, and_assoc]
@[go_sem] theorem aGQ : joinW (fun J : J2 => guardW (.bool p) false (S ∧ S2 ∧ S3 ∧ S4 ∧ S5 ∧ J (.bool false) (.bool q) h) (J (.bool true) .und h)) (fun t v h' => runD (pickD t (.bool true) v) h' F) = ((p = false → S ∧ S2 ∧ S3 ∧ S4 ∧ S5) ∧ F (.bool (p || q)) h) := by
  cases p <;> simp [joinW, guardW, pickD, pD, runD, and_assoc]
end
theorem gA {α : Type} (l : List α) (k : Nat) (d : α) (h : k < l.length) : l.take (k + 1) = l.take k ++ [l.getD k d] := by
  rw [List.take_add_one, List.getD_eq_getElem?_getD, List.getElem?_eq_getElem h]; rfl
theorem gH {α : Type} (l : List α) (k : Nat) (d : α) (h : k < l.length) : l.getD k d ∈ l := by
  rw [List.getD_eq_getElem?_getD, List.getElem?_eq_getElem h]; exact List.getElem_mem h
theorem tdiv16 (n : Nat) : (n : Int).tdiv 16 = ((n / 16 : Nat) : Int) := rfl
theorem tdiv8 (n : Nat) : (n : Int).tdiv 8 = ((n / 8 : Nat) : Int) := rfl
attribute [go_sem] Bool.true_or Bool.false_or Bool.or_false Bool.or_true Bool.and_false Bool.false_and beq_self_eq_true
theorem wf_u8 {n : Int} (h : (Lit.int .u8 n).wf = true) : 0 ≤ n ∧ n < 256 := by
  simp [Lit.wf, IntKind.min, IntKind.max, IntKind.signed, IntKind.bits] at h; omega
theorem wf_64 {n : Int} (h : (Lit.int .i64 n).wf = true) : -9223372036854775808 ≤ n ∧ n < 9223372036854775808 := by
  simp [Lit.wf, IntKind.min, IntKind.max, IntKind.signed, IntKind.bits] at h; omega
end Lam
namespace Lam
open Go
set_option linter.unusedVariables false
set_option linter.unnecessarySimpa false
set_option linter.unusedSimpArgs false
section
variable {σ : Type}
abbrev LB := Nat → List AV → List AObj → Prop
theorem loop1 {B : LB → Nat → List AObj → AV → Prop} {lv : List AV} {h0 : List AObj} (V0 : σ → AV) (H : σ → List AObj) (M : σ → Nat) (Q : σ → Prop) (s0 : σ) (hv : lv = [V0 s0]) (hh : h0 = H s0) (q0 : Q s0)
    (step : ∀ (I : LB), (∀ {n : Nat} {lv : List AV} {h : List AObj} (s : σ), M s < n → lv = [V0 s] → h = H s → Q s → ∃ m, m < n ∧ I m lv h) → ∀ s, Q s → B I (M s) (H s) (V0 s)) : ∃ I : LB, (∃ n, I n lv h0) ∧ ∀ n h, ∀ t0, I n [t0] h → B I n h t0 := by
  refine ⟨fun m lv h => ∃ s, m = M s ∧ lv = [V0 s] ∧ h = H s ∧ Q s, ⟨_, s0, rfl, hv, hh, q0⟩, ?_⟩
  rintro n h t0 ⟨s, rfl, e, rfl, q⟩
  cases e
  exact step _ (fun s hm hv hh q => ⟨_, hm, s, rfl, hv, hh, q⟩) s q
theorem loop2 {B : LB → Nat → List AObj → AV → AV → Prop} {lv : List AV} {h0 : List AObj} (V0 V1 : σ → AV) (H : σ → List AObj) (M : σ → Nat) (Q : σ → Prop) (s0 : σ) (hv : lv = [V0 s0, V1 s0]) (hh : h0 = H s0) (q0 : Q s0)
    (step : ∀ (I : LB), (∀ {n : Nat} {lv : List AV} {h : List AObj} (s : σ), M s < n → lv = [V0 s, V1 s] → h = H s → Q s → ∃ m, m < n ∧ I m lv h) → ∀ s, Q s → B I (M s) (H s) (V0 s) (V1 s)) : ∃ I : LB, (∃ n, I n lv h0) ∧ ∀ n h, ∀ t0 t1, I n [t0, t1] h → B I n h t0 t1 := by
  refine ⟨fun m lv h => ∃ s, m = M s ∧ lv = [V0 s, V1 s] ∧ h = H s ∧ Q s, ⟨_, s0, rfl, hv, hh, q0⟩, ?_⟩
  rintro n h t0 t1 ⟨s, rfl, e, rfl, q⟩
  cases e
  exact step _ (fun s hm hv hh q => ⟨_, hm, s, rfl, hv, hh, q⟩) s q
theorem loop5 {B : LB → Nat → List AObj → AV → AV → AV → AV → AV → Prop} {lv : List AV} {h0 : List AObj} (V0 V1 V2 V3 V4 : σ → AV) (H : σ → List AObj) (M : σ → Nat) (Q : σ → Prop) (s0 : σ) (hv : lv = [V0 s0, V1 s0, V2 s0, V3 s0, V4 s0]) (hh : h0 = H s0) (q0 : Q s0)
    (step : ∀ (I : LB), (∀ {n : Nat} {lv : List AV} {h : List AObj} (s : σ), M s < n → lv = [V0 s, V1 s, V2 s, V3 s, V4 s] → h = H s → Q s → ∃ m, m < n ∧ I m lv h) → ∀ s, Q s → B I (M s) (H s) (V0 s) (V1 s) (V2 s) (V3 s) (V4 s)) : ∃ I : LB, (∃ n, I n lv h0) ∧ ∀ n h, ∀ t0 t1 t2 t3 t4, I n [t0, t1, t2, t3, t4] h → B I n h t0 t1 t2 t3 t4 := by
  refine ⟨fun m lv h => ∃ s, m = M s ∧ lv = [V0 s, V1 s, V2 s, V3 s, V4 s] ∧ h = H s ∧ Q s, ⟨_, s0, rfl, hv, hh, q0⟩, ?_⟩
  rintro n h t0 t1 t2 t3 t4 ⟨s, rfl, e, rfl, q⟩
  cases e
  exact step _ (fun s hm hv hh q => ⟨_, hm, s, rfl, hv, hh, q⟩) s q
end
section
variable {A B : Prop}
theorem aBM : guardW (.bool true) true A B = A := by simp [iI]
theorem wW : guardW (.bool true) false A B = B := by simp [iI]
theorem aBN : guardW (.bool false) true A B = B := by simp [iI]
theorem aBO : guardW (.bool false) false A B = A := by simp [iI]
end
theorem wnext {k : Nat} (h : k < 4611686018427387904) : IntKind.i64.wrap ((k : Int) + 1) = ((k + 1 : Nat) : Int) := by rw [w64 (by omega) (by omega)]; rfl
theorem pO {α : Type} (a b : List α) (k : Nat) (d : α) (h : a.length ≤ k) : (a ++ b).getD k d = b.getD (k - a.length) d := by
  rw [List.getD_eq_getElem?_getD, List.getElem?_append_right h, List.getD_eq_getElem?_getD]
theorem jI {α : Type} (l : List α) {n : Nat} (h : l.length ≤ n) : l.take n = l := List.take_of_length_le h
/-- lists that are alike, place by place -/
theorem ext_d {α : Type} (d : α) {a b : List α} (hl : a.length = b.length) (h : ∀ i, i < a.length → a.getD i d = b.getD i d) : a = b := by
  apply List.ext_getElem hl
  intro i h1 h2
  have := h i h1
  rw [List.getD_eq_getElem?_getD, List.getD_eq_getElem?_getD, List.getElem?_eq_getElem h1, List.getElem?_eq_getElem h2] at this
  exact this
theorem iR {α : Type} {A : α → Prop} {k : α} (h : ∀ k', k' = k → joinW A k') : joinW A k := h k rfl
theorem gq : (∀ A B : Prop, guardW (.bool true) true A B = A) ∧ (∀ A B : Prop, guardW (.bool true) false A B = B) ∧ (∀ A B : Prop, guardW (.bool false) true A B = B) ∧ (∀ A B : Prop, guardW (.bool false) false A B = A) ∧
    (∀ h : Decidable False, @decide False h = false) ∧ (∀ h : Decidable True, @decide True h = true) ∧ ((!false) = true) ∧ ((!true) = false) ∧ (∀ b : Bool, (!!b) = b) ∧ ((¬ True) = False) ∧ ((¬ False) = True) ∧ (∀ p : Prop, (True → p) = p) ∧ (∀ p : Prop, (False → p) = True) ∧
    (∀ p : Prop, (p ∧ True) = p) ∧ (∀ p : Prop, (True ∧ p) = p) ∧ (∀ b : Bool, (b && b) = b) ∧ (∀ b : Bool, (b || b) = b) ∧ (∀ b : Bool, (b && true) = b) ∧ (∀ b : Bool, (true && b) = b) ∧ ((false = true) = False) :=
  ⟨fun _ _ => aBM, fun _ _ => wW, fun _ _ => aBN, fun _ _ => aBO, decide_false, decide_true, Bool.not_false, Bool.not_true, Bool.not_not, not_true_eq_false, not_false_eq_true, fun _ => true_implies _, fun _ => false_implies _, and_true, true_and, Bool.and_self, Bool.or_self, Bool.and_true, Bool.true_and, Bool.false_eq_true⟩
end Lam
namespace Lam
open Go
set_option linter.unusedVariables false
set_option linter.unnecessarySimpa false
set_option linter.unusedSimpArgs false
/-! ### Memories -/
def memV (vol per : List Int) (pend : List Pend) : AV := .agg [.sl false (.ints .i64 vol), .sl false (.ints .i64 per), .sl false (.pends pend)]
attribute [go_sem] memV
def lineOf (at_ : Int) : Int := IntKind.i64.wrap (at_.tdiv 8)
def szB (n : Int) : Bool := decide (n ≤ 4096) && decide (n.tmod 8 = 0)

/-- what is seen of what is kept, by what is pending; none: it may not be -/
def badB (p : Pend) (n : Nat) (o : Int → Bool) : Bool := decide (p.at_ < 0) || decide ((n : Int) ≤ p.at_) || (p.fl && o (lineOf p.at_))
def opens (p : Pend) (o : Int → Bool) : Int → Bool := fun j => if j = lineOf p.at_ then (o (lineOf p.at_) || !p.fl) else o j
def chk : List Pend → List Int → (Int → Bool) → Option (List Int)
  | [], l, _ => some l
  | p :: r, l, o => match badB p l.length o with
    | true => none
    | false => chk r (l.set p.at_.toNat p.val) (opens p o)
def checkB (vol per : List Int) (pend : List Pend) : Bool := decide (vol.length = per.length) && szB vol.length && decide (chk pend per (fun _ => false) = some vol)
def smallM (vol per : List Int) (pend : List Pend) : Prop := roomy vol.length ∧ roomy per.length ∧ roomy pend.length
def placeB (vol per : List Int) (pend : List Pend) (at_ : Int) : Bool := decide (0 ≤ at_) && decide (at_ < (vol.length : Int)) && checkB vol per pend
def firstI (vol : List Int) (line : Int) : Int := if decide (line < 0) || decide (((vol.length / 8 : Nat) : Int) ≤ line) then -1 else line * 8
def putM (vol per : List Int) (pend : List Pend) (at_ val : Int) : AV :=
  .tup [memV (if placeB vol per pend at_ = true then vol.set at_.toNat val else vol) per (if placeB vol per pend at_ = true then pend ++ [⟨at_, val, false⟩] else pend), .int .i64 (if placeB vol per pend at_ = true then 0 else 40)]
def flushP (line : Int) (pend : List Pend) : List Pend := pend.map fun p => if lineOf p.at_ = line then { p with fl := true } else p
def flushM (vol per : List Int) (pend : List Pend) (line : Int) : AV :=
  .tup [memV vol per (if placeB vol per pend (firstI vol line) = true then flushP line pend else pend), .int .i64 (if placeB vol per pend (firstI vol line) = true then 0 else 40)]
/-- those of which something holds are kept, and are pending no longer -/
def keepW (f : Pend → Bool) : List Pend → List Int → List Int
  | [], per => per
  | p :: r, per => keepW f r (match f p with | true => per.set p.at_.toNat p.val | false => per)
def keepP (f : Pend → Bool) (pend : List Pend) : List Pend := pend.filter fun p => !f p
theorem oX (f : Pend → Bool) : ∀ (l : List Pend) (per : List Int), (keepW f l per).length = per.length
  | [], per => rfl
  | p :: r, per => by
    simp only [keepW]
    rw [oX f r]
    split <;> simp
theorem sT (f : Pend → Bool) (p : Pend) : ∀ (l : List Pend) (per : List Int), keepW f (l ++ [p]) per = match f p with | true => (keepW f l per).set p.at_.toNat p.val | false => keepW f l per
  | [], per => by simp only [List.nil_append, keepW]
  | q :: r, per => by simp only [List.cons_append, keepW]; exact sT f p r _
theorem aAc (f : Pend → Bool) (p : Pend) (l : List Pend) : keepP f (l ++ [p]) = match f p with | true => keepP f l | false => keepP f l ++ [p] := by
  unfold keepP
  rw [List.filter_append]
  cases h : f p <;> simp [h]
theorem uO : ∀ (l : List Pend) (w : List Int) (o : Int → Bool) {v : List Int}, chk l w o = some v → (∀ p ∈ l, 0 ≤ p.at_ ∧ p.at_ < (w.length : Int)) ∧ v.length = w.length
  | [], w, o, v, h => by simp only [chk, Option.some.injEq] at h; subst h; exact ⟨fun p hp => (by cases hp), rfl⟩
  | p :: r, w, o, v, h => by
    simp only [chk] at h
    split at h
    · cases h
    · rename_i hb
      obtain ⟨c1, c2⟩ := uO r _ _ h
      rw [List.length_set] at c1 c2
      refine ⟨fun q hq => ?_, c2⟩
      rcases List.mem_cons.1 hq with rfl | hq
      · simp only [badB, Bool.or_eq_false_iff, decide_eq_false_iff_not] at hb
        omega
      · exact c1 q hq
theorem qB {vol per : List Int} {pend : List Pend} (h : checkB vol per pend = true) : vol.length = per.length ∧ szB vol.length = true ∧ chk pend per (fun _ => false) = some vol := by
  simp only [checkB, Bool.and_eq_true, decide_eq_true_eq] at h
  exact ⟨h.1.1, h.1.2, h.2⟩
theorem yS {vol per : List Int} {pend : List Pend} (h : checkB vol per pend = true) : ∀ p ∈ pend, 0 ≤ p.at_ ∧ p.at_ < (per.length : Int) := (uO _ _ _ (qB h).2.2).1
def fFl (p : Pend) : Bool := p.fl
def fLn (line : Int) (p : Pend) : Bool := decide (lineOf p.at_ = line)
def fenceM (f : Pend → Bool) (ok : Bool) (vol per : List Int) (pend : List Pend) : AV :=
  .tup [memV vol (if ok = true then keepW f pend per else per) (if ok = true then keepP f pend else pend), .int .i64 (if ok = true then 0 else 40)]
theorem aBd {a : Int} (h0 : 0 ≤ a) (h1 : a ≤ 1099511627776) : lineOf a = a / 8 := by
  unfold lineOf
  rw [Int.tdiv_eq_ediv_of_nonneg h0]
  exact w64 (by omega) (by omega)

theorem aBP {a b : List Int} (hl : a.length = b.length) (h : ∀ i, i < a.length → a.getD i 0 = b.getD i 0) : a = b := by
  apply List.ext_getElem hl
  intro i h1 h2
  have := h i h1
  rw [List.getD_eq_getElem?_getD, List.getD_eq_getElem?_getD, List.getElem?_eq_getElem h1, List.getElem?_eq_getElem h2] at this
  exact this
theorem aBQ (l : List Int) (i j : Nat) (v : Int) : (l.set i v).getD j 0 = if i = j ∧ i < l.length then v else l.getD j 0 := by
  rw [List.getD_eq_getElem?_getD, List.getElem?_set, List.getD_eq_getElem?_getD]
  by_cases h : i = j
  · subst h
    by_cases h2 : i < l.length
    · simp [h2]
    · simp [h2]
  · simp [h]

/-- pending stores are done -/
def app : List Pend → List Int → List Int
  | [], w => w
  | p :: r, w => app r (w.set p.at_.toNat p.val)
theorem app_len : ∀ (l : List Pend) (w : List Int), (app l w).length = w.length
  | [], w => rfl
  | p :: r, w => by rw [app, app_len r, List.length_set]
theorem nO : ∀ (l r : List Pend) (w : List Int), app (l ++ r) w = app r (app l w)
  | [], r, w => rfl
  | p :: l, r, w => by rw [List.cons_append, app, nO l, app]
theorem oY (f : Pend → Bool) : ∀ (l : List Pend) (w : List Int), keepW f l w = app (l.filter f) w
  | [], w => rfl
  | p :: r, w => by
    simp only [keepW]
    rw [oY f r]
    cases h : f p <;> simp [h, app]

/-- what stands at a place behind pending stores -/
def seen (a : Nat) : List Pend → Int → Int
  | [], d => d
  | p :: r, d => seen a r (if p.at_.toNat = a then p.val else d)
theorem qC (a : Nat) : ∀ (l r : List Pend) (d : Int), seen a (l ++ r) d = seen a r (seen a l d)
  | [], r, d => rfl
  | p :: l, r, d => by rw [List.cons_append, seen, qC a l, seen]
theorem lY : ∀ (l : List Pend) (w : List Int) (a : Nat), a < w.length → (app l w).getD a 0 = seen a l (w.getD a 0)
  | [], w, a, h => rfl
  | p :: r, w, a, h => by
    rw [app, lY r _ a (by rw [List.length_set]; exact h), seen, aBQ]
    congr 1
    by_cases e : p.at_.toNat = a
    · simp [e, h]
    · simp [e]
theorem uP (a : Nat) : ∀ (l : List Pend) (d : Int), (∀ p ∈ l, p.at_.toNat ≠ a) → seen a l d = d
  | [], d, h => rfl
  | p :: r, d, h => by
    rw [seen, if_neg (h p (by simp)), uP a r d fun q hq => h q (by simp [hq])]
theorem qD (a : Nat) (f : Pend → Bool) : ∀ (l : List Pend) (d : Int), (∀ p ∈ l, p.at_.toNat = a → f p = true) → seen a (l.filter f) d = seen a l d
  | [], d, h => rfl
  | p :: r, d, h => by
    have ih := fun d => qD a f r d fun q hq => h q (by simp [hq])
    cases hf : f p with
    | true => rw [List.filter_cons_of_pos hf, seen, seen, ih]
    | false =>
      rw [List.filter_cons_of_neg (by simp [hf]), ih, seen]
      have : ¬ p.at_.toNat = a := fun e => by have := h p (by simp) e; rw [hf] at this; cases this
      rw [if_neg this]
theorem seen_at (a : Nat) (l : List Pend) (d : Int) : seen a (l.filter fun p => decide (p.at_.toNat = a)) d = seen a l d := qD a _ l d fun p _ h => by simp [h]

/-- who is kept is ahead of who is not, place by place -/
theorem oZ {f : Pend → Bool} : ∀ {l : List Pend}, l.Pairwise (fun p q => f q = true → f p = true) → l.filter f ++ l.filter (fun p => !f p) = l
  | [], _ => rfl
  | p :: r, h => by
    rw [List.pairwise_cons] at h
    cases hf : f p with
    | true => rw [List.filter_cons_of_pos hf, List.filter_cons_of_neg (by simp [hf]), List.cons_append, oZ h.2]
    | false =>
      have hn : ∀ q ∈ r, f q = false := fun q hq => by
        cases e : f q with
        | false => rfl
        | true => rw [h.1 q hq e] at hf; cases hf
      rw [List.filter_cons_of_neg (by simp [hf]), List.filter_cons_of_pos (by simp [hf])]
      have e1 : r.filter f = [] := List.filter_eq_nil_iff.2 fun q hq => by simp [hn q hq]
      have e2 : r.filter (fun p => !f p) = r := List.filter_eq_self.2 fun q hq => by simp [hn q hq]
      rw [e1, e2]; rfl
def iS (f : Pend → Bool) (l : List Pend) : Prop := l.Pairwise fun p q => lineOf p.at_ = lineOf q.at_ → f q = true → f p = true
theorem aAd {p q : Pend} (hp : 0 ≤ p.at_) (hq : 0 ≤ q.at_) (h : p.at_.toNat = q.at_.toNat) : lineOf p.at_ = lineOf q.at_ := by
  have : p.at_ = q.at_ := by omega
  rw [this]
theorem aAe {f : Pend → Bool} {l : List Pend} (h0 : ∀ p ∈ l, 0 ≤ p.at_) (h : iS f l) (a : Nat) (d : Int) : seen a (l.filter fun p => !f p) (seen a (l.filter f) d) = seen a l d := by
  rw [← qC, ← seen_at a (_ ++ _), ← seen_at a l]
  congr 1
  rw [List.filter_append, List.filter_filter, List.filter_filter]
  have hp : (l.filter fun p => decide (p.at_.toNat = a)).Pairwise fun p q => f q = true → f p = true := by
    refine (List.Pairwise.and_mem.1 (List.Pairwise.filter _ h)).imp ?_
    rintro p q ⟨hp, hq, hpq⟩ hf
    rw [List.mem_filter, decide_eq_true_eq] at hp hq
    exact hpq (aAd (h0 p hp.1) (h0 q hq.1) (by omega)) hf
  have := oZ hp
  rw [List.filter_filter, List.filter_filter] at this
  simpa [Bool.and_comm] using this

/-- a memory that may be -/
structure OkM (vol per : List Int) (pend : List Pend) : Prop where
  len : vol.length = per.length
  sz : vol.length ≤ 4096
  md : vol.length % 8 = 0
  rng : ∀ p ∈ pend, 0 ≤ p.at_ ∧ p.at_ < (per.length : Int)
  ord : iS (fun p => p.fl) pend
  eq : app pend per = vol

theorem chk_iff : ∀ (l : List Pend) (w v : List Int) (o : Int → Bool), chk l w o = some v ↔ (∀ p ∈ l, 0 ≤ p.at_ ∧ p.at_ < (w.length : Int)) ∧ iS (fun p => p.fl) l ∧ app l w = v ∧ ∀ q ∈ l, o (lineOf q.at_) = true → q.fl = false
  | [], w, v, o => by simp [chk, iS, app]
  | p :: r, w, v, o => by
    simp only [chk]
    cases hb : badB p w.length o with
    | true =>
      simp only [reduceCtorEq, false_iff]
      rintro ⟨h1, h2, h3, h4⟩
      have := h1 p (by simp)
      simp only [badB, Bool.or_eq_true, decide_eq_true_eq, Bool.and_eq_true] at hb
      rcases hb with (hb | hb) | hb
      · omega
      · omega
      · have := h4 p (by simp) hb.2
        rw [hb.1] at this; cases this
    | false =>
      simp only
      rw [chk_iff r _ v (opens p o), List.length_set]
      simp only [badB, Bool.or_eq_false_iff, decide_eq_false_iff_not, Bool.and_eq_false_iff] at hb
      simp only [List.forall_mem_cons, iS, List.pairwise_cons, app]
      constructor
      · rintro ⟨h1, h2, h3, h4⟩
        refine ⟨⟨by omega, h1⟩, ⟨fun q hq hl hf => ?_, h2⟩, h3, fun ho => ?_, fun q hq ho => ?_⟩
        · cases e : p.fl with
          | true => rfl
          | false =>
            have := h4 q hq (by unfold opens; rw [if_pos hl.symm]; simp [e])
            rw [hf] at this; cases this
        · rcases hb.2 with h | h
          · exact h
          · rw [ho] at h; cases h
        · apply h4 q hq
          unfold opens
          split
          · rename_i e; rw [← e, ho]; rfl
          · exact ho
      · rintro ⟨⟨h0, h1⟩, ⟨h5, h2⟩, h3, h6, h4⟩
        refine ⟨h1, h2, h3, fun q hq ho => ?_⟩
        unfold opens at ho
        split at ho
        · rename_i e
          rw [Bool.or_eq_true] at ho
          rcases ho with ho | ho
          · exact h4 q hq (by rw [e]; exact ho)
          · cases e2 : q.fl with
            | false => rfl
            | true =>
              have := h5 q hq e.symm e2
              rw [this] at ho; cases ho
        · exact h4 q hq ho

theorem kT {vol per : List Int} {pend : List Pend} : checkB vol per pend = true ↔ OkM vol per pend := by
  constructor
  · intro h
    obtain ⟨h1, h2, h3⟩ := qB h
    rw [chk_iff] at h3
    simp only [szB, Bool.and_eq_true, decide_eq_true_eq] at h2
    refine ⟨h1, by omega, ?_, h3.1, h3.2.1, h3.2.2.1⟩
    have := h2.2
    rw [Int.tmod_eq_emod_of_nonneg (by omega)] at this
    omega
  · intro h
    have h3 : chk pend per (fun _ => false) = some vol := by
      rw [chk_iff]
      exact ⟨h.rng, h.ord, h.eq, fun q _ hq => by cases hq⟩
    have hsz := h.sz
    have hmd := h.md
    simp only [checkB, Bool.and_eq_true, decide_eq_true_eq, szB]
    refine ⟨⟨h.len, by omega, ?_⟩, h3⟩
    rw [Int.tmod_eq_emod_of_nonneg (by omega)]
    omega

theorem OkM.vol_at {vol per : List Int} {pend : List Pend} (h : OkM vol per pend) {a : Nat} (ha : a < per.length) : vol.getD a 0 = seen a pend (per.getD a 0) := by
  rw [← h.eq, lY pend per a ha]

theorem OkM.put {vol per : List Int} {pend : List Pend} (h : OkM vol per pend) {a v : Int} (h0 : 0 ≤ a) (h1 : a < (vol.length : Int)) : OkM (vol.set a.toNat v) per (pend ++ [⟨a, v, false⟩]) := by
  refine ⟨by rw [List.length_set]; exact h.len, by rw [List.length_set]; exact h.sz, by rw [List.length_set]; exact h.md, fun p hp => ?_, ?_, ?_⟩
  · rcases List.mem_append.1 hp with hp | hp
    · exact h.rng p hp
    · rw [List.mem_singleton] at hp; subst hp
      have := h.len
      exact ⟨h0, by show a < _; omega⟩
  · unfold iS
    rw [List.pairwise_append]
    refine ⟨h.ord, List.pairwise_singleton _ _, fun p hp q hq => ?_⟩
    rw [List.mem_singleton] at hq; subst hq
    intro _ hf; cases hf
  · rw [nO, h.eq]; rfl

theorem uQ (line : Int) : ∀ (l : List Pend) (w : List Int), app (flushP line l) w = app l w
  | [], w => rfl
  | p :: r, w => by
    show app ((if lineOf p.at_ = line then { p with fl := true } else p) :: flushP line r) w = _
    rw [app, app, uQ line r]
    split <;> rfl
theorem OkM.flush {vol per : List Int} {pend : List Pend} (h : OkM vol per pend) (line : Int) : OkM vol per (flushP line pend) := by
  refine ⟨h.len, h.sz, h.md, fun p hp => ?_, ?_, by rw [uQ]; exact h.eq⟩
  · obtain ⟨q, hq, rfl⟩ := List.mem_map.1 hp
    have := h.rng q hq
    split <;> exact this
  · unfold iS flushP
    rw [List.pairwise_map]
    refine h.ord.imp ?_
    intro p q hpq
    by_cases e1 : lineOf p.at_ = line <;> by_cases e2 : lineOf q.at_ = line
    · rw [if_pos e1, if_pos e2]; intros; rfl
    · rw [if_pos e1, if_neg e2]; intros; rfl
    · rw [if_neg e1, if_pos e2]; intro e; exact absurd (e.trans e2) e1
    · rw [if_neg e1, if_neg e2]; exact hpq
theorem OkM.keep {vol per : List Int} {pend : List Pend} (h : OkM vol per pend) {f : Pend → Bool} (hf : iS f pend) : OkM vol (keepW f pend per) (keepP f pend) := by
  rw [oY]
  refine ⟨by rw [app_len]; exact h.len, h.sz, h.md, fun p hp => ?_, List.Pairwise.filter _ h.ord, ?_⟩
  · rw [app_len]; exact h.rng p (List.mem_filter.1 hp).1
  · apply aBP
    · rw [app_len, app_len]; exact h.len.symm
    intro i hi
    rw [app_len, app_len] at hi
    unfold keepP
    rw [lY _ _ _ (by rw [app_len]; exact hi), lY _ _ _ hi, aAe (fun p hp => (h.rng p hp).1) hf, h.vol_at hi]
theorem OkM.fence {vol per : List Int} {pend : List Pend} (h : OkM vol per pend) : OkM vol (keepW fFl pend per) (keepP fFl pend) := h.keep h.ord
/-- words that are words -/
def i64s (l : List Int) : Prop := ∀ x ∈ l, x < 9223372036854775808
def newM (l : List Int) : AV := .tup [memV (if szB l.length = true then l else []) (if szB l.length = true then l else []) [], .int .i64 (if szB l.length = true then 0 else 40)]
section
variable {vol per : List Int} {pend : List Pend} {a v line : Int} {f : Pend → Bool} {keep : List Int}
theorem putM_ok (h : placeB vol per pend a = true) : putM vol per pend a v = .tup [memV (vol.set a.toNat v) per (pend ++ [⟨a, v, false⟩]), .int .i64 0] := by unfold putM; simp only [h, if_true]
theorem aBe (h : placeB vol per pend (firstI vol line) = true) : flushM vol per pend line = .tup [memV vol per (flushP line pend), .int .i64 0] := by unfold flushM; simp only [h, if_true]
theorem aBf : fenceM f true vol per pend = .tup [memV vol (keepW f pend per) (keepP f pend), .int .i64 0] := rfl
theorem uR : placeB vol per pend a = true ↔ (0 ≤ a ∧ a < (vol.length : Int)) ∧ OkM vol per pend := by
  simp only [placeB, Bool.and_eq_true, decide_eq_true_eq, kT]
theorem OkM.small (h : OkM vol per pend) (hp : pend.length ≤ 1000000) : smallM vol per pend := by
  have := h.sz; have := h.len
  unfold smallM roomy; omega
theorem OkM.first (h : OkM vol per pend) (h0 : 0 ≤ line) (h1 : line < ((vol.length / 8 : Nat) : Int)) : firstI vol line = line * 8 ∧ placeB vol per pend (firstI vol line) = true := by
  have e : firstI vol line = line * 8 := by
    unfold firstI
    rw [if_neg]
    simp only [Bool.or_eq_true, decide_eq_true_eq]; omega
  refine ⟨e, uR.2 ⟨?_, h⟩⟩
  rw [e]; omega
theorem aAf (line : Int) (l : List Pend) : (flushP line l).length = l.length := by simp [flushP]
theorem wf_i64s {l : List Int} (h : wfL (.ints .i64 l)) : i64s l := fun x hx => (wf_64 (h x hx)).2
end
theorem fLn_at {vol per : List Int} {pend : List Pend} (h : OkM vol per pend) {p : Pend} (hp : p ∈ pend) {i : Nat} : p.at_.toNat = i → fLn ((i : Int) / 8) p = true := by
  intro e
  have hr := h.rng p hp
  have := h.len
  have := h.sz
  unfold fLn
  rw [decide_eq_true_eq, aBd hr.1 (by omega)]
  omega
end Lam
namespace Lam
open Go
set_option linter.unusedVariables false
set_option linter.unnecessarySimpa false
set_option linter.unusedSimpArgs false

structure Mm where
  vol : List Int
  per : List Int
  pend : List Pend
  deriving DecidableEq
def Mm.V (m : Mm) : AV := memV m.vol m.per m.pend
attribute [go_sem] Mm.V
def Mm.ok (m : Mm) : Prop := OkM m.vol m.per m.pend
def Mm.okB (m : Mm) : Bool := checkB m.vol m.per m.pend
theorem Mm.ok_iff {m : Mm} : m.okB = true ↔ m.ok := kT
/-- a small step that may be -/
def mmay (x : Mic) (n : Int) : Bool := decide (0 ≤ x.at_) && decide (x.at_ < (if x.kind = 2 then IntKind.i64.wrap (n.tdiv 8) else if x.kind = 1 then n else 0)) && (decide (x.kind = 1) || decide (x.val = 0))
def sizedB (n : Int) : Bool := decide (0 ≤ n) && decide (n ≤ 4096) && decide (n.tmod 8 = 0)
def stepsB (l : List Mic) (n : Int) : Bool := sizedB n && l.all (mmay · n)
def store (m : Mm) (a v : Int) : Mm := ⟨m.vol.set a.toNat v, m.per, m.pend ++ [⟨a, v, false⟩]⟩
def persist (m : Mm) (line : Int) : Mm := ⟨m.vol, keepW fFl (flushP line m.pend) m.per, keepP fFl (flushP line m.pend)⟩
def stepM (m : Mm) (x : Mic) : Mm := if x.kind = 1 then store m x.at_ x.val else persist m x.at_
def runS (m : Mm) (l : List Mic) : Mm := l.foldl stepM m

theorem aBR (m : Mm) : runS m [] = m := rfl
theorem pA (m : Mm) (x : Mic) (l : List Mic) : runS m (x :: l) = runS (stepM m x) l := rfl
theorem yT (m : Mm) (a b : List Mic) : runS m (a ++ b) = runS (runS m a) b := List.foldl_append
/-- of a memory of n words -/
def MayN (x : Mic) (n : Nat) : Prop := (x.kind = 1 ∧ 0 ≤ x.at_ ∧ x.at_ < (n : Int)) ∨ (x.kind = 2 ∧ 0 ≤ x.at_ ∧ x.at_ < ((n / 8 : Nat) : Int) ∧ x.val = 0)
theorem wX {x : Mic} {n : Nat} (hn : n ≤ 4096) : mmay x n = true ↔ MayN x n := by
  have e : IntKind.i64.wrap ((n : Int).tdiv 8) = ((n / 8 : Nat) : Int) := by rw [tdiv8]; exact w64 (by omega) (by omega)
  simp only [mmay, e, Bool.and_eq_true, decide_eq_true_eq, Bool.or_eq_true]
  unfold MayN
  by_cases h2 : x.kind = 2
  · rw [if_pos h2]; omega
  · rw [if_neg h2]
    by_cases h1 : x.kind = 1
    · rw [if_pos h1]; omega
    · rw [if_neg h1]; omega
theorem aBg (m : Mm) (a v : Int) : (store m a v).vol.length = m.vol.length := by simp [store]
theorem uS (m : Mm) (x : Mic) : (stepM m x).vol.length = m.vol.length := by unfold stepM; split; exact aBg _ _ _; rfl
theorem wY : ∀ (l : List Mic) (m : Mm), (runS m l).vol.length = m.vol.length
  | [], m => rfl
  | x :: l, m => by rw [pA, wY l, uS]
theorem jN (m : Mm) (x : Mic) : (stepM m x).per.length = m.per.length := by
  unfold stepM; split
  · rfl
  · exact oX _ _ _
theorem sU {m : Mm} (h : m.ok) (l : Int) : (persist m l).ok := (OkM.flush h l).fence
theorem lZ {m : Mm} (h : m.ok) {x : Mic} (hx : MayN x m.vol.length) : (stepM m x).ok := by
  unfold stepM
  rcases hx with ⟨hk, h0, h1⟩ | ⟨hk, _⟩
  · rw [if_pos hk]; exact OkM.put h h0 h1
  · rw [if_neg (by omega)]; exact sU h _
theorem runS_ok : ∀ (l : List Mic) {m : Mm}, m.ok → (∀ x ∈ l, MayN x m.vol.length) → (runS m l).ok
  | [], m, h, _ => h
  | x :: l, m, h, hl => by
    rw [pA]
    refine runS_ok l (lZ h (hl x (by simp))) fun y hy => ?_
    rw [uS]; exact hl y (by simp [hy])
theorem pB : ∀ (l : List Mic) (m : Mm), (runS m l).pend.length ≤ m.pend.length + l.length
  | [], m => by simp [aBR]
  | x :: l, m => by
    rw [pA]
    refine Nat.le_trans (pB l _) ?_
    have : (stepM m x).pend.length ≤ m.pend.length + 1 := by
      unfold stepM
      split
      · simp [store]
      · refine Nat.le_trans (List.length_filter_le _ _) ?_
        simp [flushP]
    simp only [List.length_cons]; omega

/-- persisting, place by place -/
def gL (line : Int) (p : Pend) : Bool := p.fl || fLn line p
theorem pC (line : Int) (f : Pend → Bool) (hf : ∀ p, f p = fFl p) : ∀ l : List Pend, (flushP line l).filter f = (l.filter (gL line)).map fun p => if lineOf p.at_ = line then { p with fl := true } else p
  | [] => rfl
  | p :: r => by
    have ih := pC line f hf r
    show ((if lineOf p.at_ = line then { p with fl := true } else p) :: flushP line r).filter f = _
    by_cases e : lineOf p.at_ = line
    · rw [if_pos e, List.filter_cons_of_pos (by rw [hf]; rfl), List.filter_cons_of_pos (by simp [gL, fLn, e]), ih, List.map_cons, if_pos e]
    · rw [if_neg e]
      cases h : p.fl with
      | true => rw [List.filter_cons_of_pos (by rw [hf]; exact h), List.filter_cons_of_pos (by simp [gL, h]), ih, List.map_cons, if_neg e]
      | false => rw [List.filter_cons_of_neg (by rw [hf]; simp [fFl, h]), List.filter_cons_of_neg (by simp [gL, fLn, h, e]), ih]
theorem mA (m : Mm) (line : Int) : (persist m line).pend = m.pend.filter fun p => !gL line p := by
  show keepP fFl (flushP line m.pend) = _
  unfold keepP
  induction m.pend with
  | nil => rfl
  | cons p r ih =>
    show ((if lineOf p.at_ = line then { p with fl := true } else p) :: flushP line r).filter _ = _
    by_cases e : lineOf p.at_ = line
    · rw [if_pos e, List.filter_cons_of_neg (by simp [fFl]), List.filter_cons_of_neg (by simp [gL, fLn, e]), ih]
    · rw [if_neg e]
      cases h : p.fl with
      | true => rw [List.filter_cons_of_neg (by simp [fFl, h]), List.filter_cons_of_neg (by simp [gL, h]), ih]
      | false => rw [List.filter_cons_of_pos (by simp [fFl, h]), List.filter_cons_of_pos (by simp [gL, fLn, h, e]), ih]
theorem app_map (g : Pend → Pend) (hg : ∀ p, (g p).at_ = p.at_ ∧ (g p).val = p.val) : ∀ (l : List Pend) (w : List Int), app (l.map g) w = app l w
  | [], w => rfl
  | p :: r, w => by rw [List.map_cons, app, app, (hg p).1, (hg p).2, app_map g hg r]
theorem yU (m : Mm) (line : Int) : (persist m line).per = app (m.pend.filter (gL line)) m.per := by
  show keepW fFl (flushP line m.pend) m.per = _
  rw [oY, pC line _ (fun _ => rfl), app_map]
  intro p; split <;> exact ⟨rfl, rfl⟩
theorem wZ {m : Mm} {line : Int} : ∀ p ∈ (persist m line).pend, lineOf p.at_ ≠ line := by
  intro p hp
  rw [mA, List.mem_filter] at hp
  have := hp.2
  simp only [gL, fLn, Bool.not_or, Bool.and_eq_true, Bool.not_eq_true', decide_eq_false_iff_not] at this
  exact this.2
theorem qE (m : Mm) (line : Int) : (persist m line).pend.Sublist m.pend := by rw [mA]; exact List.filter_sublist
/-! ### Steps whose lines are persisted as they are left: a crash leaves a beginning -/
def isS (x : Mic) : Bool := decide (x.kind = 1)
structure Begun (w : List Int) (m : Mm) (S : List Pend) (o : Option Int) : Prop where
  ok : m.ok
  cut : ∃ i, i ≤ S.length ∧ m.per = app (S.take i) w ∧ m.pend = S.drop i
  one : ∀ p ∈ m.pend, o = some (lineOf p.at_) ∧ p.fl = false
  all : m.vol = app S w
theorem Begun.store {w : List Int} {m : Mm} {S : List Pend} {o : Option Int} (h : Begun w m S o) {x : Mic} (hk : x.kind = 1) (hx : MayN x m.vol.length) (ho : ∀ L, o = some L → lineOf x.at_ = L) :
    Begun w (stepM m x) (S ++ [⟨x.at_, x.val, false⟩]) (some (lineOf x.at_)) := by
  have e : stepM m x = Lam.store m x.at_ x.val := by unfold stepM; rw [if_pos hk]
  refine ⟨lZ h.ok hx, ?_, ?_, ?_⟩
  · obtain ⟨i, hi, h1, h2⟩ := h.cut
    refine ⟨i, by simp; omega, ?_, ?_⟩
    · rw [e, List.take_append_of_le_length hi]; exact h1
    · rw [e, List.drop_append_of_le_length hi, ← h2]; rfl
  · intro p hp
    rw [e] at hp
    rcases List.mem_append.1 hp with hp | hp
    · obtain ⟨h1, h2⟩ := h.one p hp
      exact ⟨by rw [ho _ h1], h2⟩
    · rw [List.mem_singleton] at hp; subst hp; exact ⟨rfl, rfl⟩
  · rw [e, nO, ← h.all]; rfl
/-! ### What is seen, and kept, of a place -/
/-! ### A line's own -/
def mline (x : Mic) : Int := if x.kind = 1 then lineOf x.at_ else x.at_
def unfl (m : Mm) : Prop := ∀ p ∈ m.pend, p.fl = false
structure AgreeL (L : Int) (m m' : Mm) : Prop where
  ok : m.ok
  ok' : m'.ok
  len : m.per.length = m'.per.length
  un : unfl m
  un' : unfl m'
  per : ∀ p : Nat, p < m.per.length → (p : Int) / 8 = L → m.per.getD p 0 = m'.per.getD p 0
  pend : m.pend.filter (fLn L) = m'.pend.filter (fLn L)
theorem pE {m : Mm} (h : unfl m) (x : Mic) : unfl (stepM m x) := by
  unfold stepM
  split
  · intro p hp
    rcases List.mem_append.1 hp with hp | hp
    · exact h p hp
    · rw [List.mem_singleton] at hp; subst hp; rfl
  · intro p hp; exact h p ((qE _ _).subset hp)
theorem gL_un {m : Mm} (h : unfl m) (L : Int) : m.pend.filter (gL L) = m.pend.filter (fLn L) ∧ m.pend.filter (fun p => !gL L p) = m.pend.filter (fun p => !fLn L p) := by
  constructor <;> apply List.filter_congr <;> intro p hp <;> simp [gL, h p hp]
/-- what a step makes of a line -/
theorem pF {m : Mm} (ok : m.ok) (un : unfl m) {x : Mic} {L : Int} : (stepM m x).pend.filter (fLn L) = (if x.kind = 1 then m.pend.filter (fLn L) ++ (if lineOf x.at_ = L then [⟨x.at_, x.val, false⟩] else []) else if x.at_ = L then [] else m.pend.filter (fLn L)) ∧
    ∀ p : Nat, p < m.per.length → (p : Int) / 8 = L → (stepM m x).per.getD p 0 = if x.kind = 1 then m.per.getD p 0 else if x.at_ = L then seen p (m.pend.filter (fLn L)) (m.per.getD p 0) else m.per.getD p 0 := by
  unfold stepM
  by_cases hk : x.kind = 1
  · rw [if_pos hk, if_pos hk]
    refine ⟨?_, fun p _ _ => by rw [if_pos hk]; rfl⟩
    show (m.pend ++ [_]).filter _ = _
    rw [List.filter_append]
    congr 1
    by_cases e : lineOf x.at_ = L
    · rw [if_pos e, List.filter_cons_of_pos (show fLn L ⟨x.at_, x.val, false⟩ = true from decide_eq_true e)]; rfl
    · rw [if_neg e, List.filter_cons_of_neg (by unfold fLn; simpa using e)]; rfl
  · rw [if_neg hk, if_neg hk]
    obtain ⟨g1, g2⟩ := gL_un un x.at_
    refine ⟨?_, fun p hp hL => ?_⟩
    · rw [mA, g2, List.filter_filter]
      by_cases e : x.at_ = L
      · rw [if_pos e, e, List.filter_eq_nil_iff]
        intro p _; simp
      · rw [if_neg e]
        apply List.filter_congr
        intro p _
        unfold fLn
        by_cases e2 : lineOf p.at_ = L
        · rw [e2, decide_eq_true rfl, decide_eq_false (fun h => e h.symm)]; rfl
        · rw [decide_eq_false e2]; rfl
    · rw [yU, g1, lY _ _ _ hp, if_neg hk]
      by_cases e : x.at_ = L
      · rw [if_pos e, e]
      · rw [if_neg e, uP]
        intro q hq e2
        obtain ⟨hq1, hq2⟩ := List.mem_filter.1 hq
        have := fLn_at ok hq1 e2
        unfold fLn at this hq2
        rw [decide_eq_true_eq] at this hq2
        rw [hL] at this
        exact e (hq2.symm.trans this)
theorem AgreeL.same {L : Int} {m m' : Mm} (h : AgreeL L m m') {x : Mic} (hx : MayN x m.vol.length) : AgreeL L (stepM m x) (stepM m' x) := by
  obtain ⟨p1, p2⟩ := pF h.ok h.un (x := x) (L := L)
  obtain ⟨q1, q2⟩ := pF h.ok' h.un' (x := x) (L := L)
  have hlen : m.vol.length = m'.vol.length := by rw [OkM.len h.ok, OkM.len h.ok', h.len]
  refine ⟨lZ h.ok hx, lZ h.ok' (by rw [← hlen]; exact hx), by rw [jN, jN]; exact h.len, pE h.un x, pE h.un' x, fun p hp hL => ?_, by rw [p1, q1, h.pend]⟩
  rw [jN] at hp
  rw [p2 p hp hL, q2 p (by rw [← h.len]; exact hp) hL, h.per p hp hL, h.pend]
theorem AgreeL.skip {L : Int} {m m' : Mm} (h : AgreeL L m m') {x : Mic} (hx : MayN x m.vol.length) (hne : mline x ≠ L) : AgreeL L (stepM m x) m' := by
  obtain ⟨p1, p2⟩ := pF h.ok h.un (x := x) (L := L)
  unfold mline at hne
  refine ⟨lZ h.ok hx, h.ok', by rw [jN]; exact h.len, pE h.un x, h.un', fun p hp hL => ?_, ?_⟩
  · rw [jN] at hp
    rw [p2 p hp hL, ← h.per p hp hL]
    by_cases hk : x.kind = 1
    · rw [if_pos hk]
    · rw [if_neg hk] at hne ⊢; rw [if_neg hne]
  · rw [p1, ← h.pend]
    by_cases hk : x.kind = 1
    · rw [if_pos hk] at hne ⊢
      rw [if_neg hne, List.append_nil]
    · rw [if_neg hk] at hne ⊢; rw [if_neg hne]
theorem AgreeL.refl {L : Int} {m : Mm} (ok : m.ok) (un : unfl m) : AgreeL L m m := ⟨ok, ok, rfl, un, un, fun _ _ _ => rfl, rfl⟩
end Lam
namespace Lam
open Go
set_option linter.unusedVariables false
set_option linter.unnecessarySimpa false
set_option linter.unusedSimpArgs false

def nodeB (b : Int) : Bool := decide (0 ≤ b) && decide (IntKind.i64.wrap (b + 16) ≤ 4096) && decide (b.tmod 16 = 0)
theorem rE {b : Int} (h : b ≤ 1099511627776) : nodeB b = true ↔ 0 ≤ b ∧ b ≤ 4080 ∧ b % 16 = 0 := by
  unfold nodeB
  simp only [Bool.and_eq_true, decide_eq_true_eq]
  constructor
  · rintro ⟨⟨h0, h1⟩, h2⟩
    rw [w64 (by omega) (by omega)] at h1
    rw [Int.tmod_eq_emod_of_nonneg h0] at h2
    omega
  · rintro ⟨h0, h1, h2⟩
    rw [w64 (by omega) (by omega), Int.tmod_eq_emod_of_nonneg h0]
    omega
def placeI (base slot : Int) : Int := if (nodeB base && decide (0 ≤ slot) && decide (slot < 13)) = true then IntKind.i64.wrap (IntKind.i64.wrap (base + 3) + slot) else -1
theorem aBS {b s : Int} (hb : nodeB b = true) (h : b ≤ 1099511627776) (h0 : 0 ≤ s) (h1 : s < 13) : placeI b s = b + 3 + s := by
  have := (rE h).1 hb
  unfold placeI
  rw [hb, decide_eq_true h0, decide_eq_true h1]
  rw [if_pos (by rfl), w64 (n := b + 3) (by omega) (by omega), w64 (by omega) (by omega)]
def lt1 (n : Int) : Bool := decide (n < 1)
def idxI (p : Int → Bool) (l : List Int) : Int := if l.any p = true then (l.findIdx p : Nat) else -1
/-- slots, up to the first empty one -/
def upTo (l : List Int) : List Int := l.takeWhile fun w => !lt1 w
def slotsOf (words : List Int) (base : Int) : List Int := if (nodeB base && decide (base + 16 ≤ (words.length : Int))) = true then upTo ((words.drop (base.toNat + 3)).take 13) else []
theorem aBT (l : List Int) : l.take (if idxI lt1 l < 0 then (l.length : Int) else idxI lt1 l).toNat = upTo l := by
  unfold idxI upTo
  induction l with
  | nil => rfl
  | cons a r ih =>
    rw [List.any_cons, List.findIdx_cons, List.takeWhile_cons]
    cases ha : lt1 a with
    | true => simp
    | false =>
      simp only [Bool.false_or, Bool.not_false, if_true, cond_false]
      cases hr : r.any lt1 with
      | true =>
        rw [hr] at ih
        simp only [if_true] at ih ⊢
        rw [if_neg (by omega)] at ih ⊢
        rw [← ih]
        simp
      | false =>
        rw [hr] at ih
        simp only [Bool.false_eq_true, if_false] at ih ⊢
        rw [if_pos (by omega)] at ih ⊢
        rw [← ih]
        simp
theorem aAg (p : Int → Bool) (l : List Int) : -1 ≤ idxI p l ∧ idxI p l ≤ (l.length : Int) := by
  unfold idxI
  split
  · have := List.findIdx_le_length (p := p) (xs := l)
    omega
  · omega

/-- without those that are as the one ahead -/
def plain : List Int → List Int
  | [] => []
  | [a] => [a]
  | a :: b :: r => if a = b then plain (b :: r) else a :: plain (b :: r)
/-! ### Steps by which slots are stored -/
end Lam
namespace Lam
open Go
set_option linter.unusedVariables false
set_option linter.unnecessarySimpa false
set_option linter.unusedSimpArgs false

/-! ### A memory of two nodes -/
theorem aAh (z : List Int) (n : Nat) : upTo (z ++ List.replicate n 0) = upTo z := by
  unfold upTo
  induction z with
  | nil => cases n with
    | zero => rfl
    | succ n => rw [List.nil_append, List.replicate_succ, List.takeWhile_cons]; rfl
  | cons a r ih => rw [List.cons_append, List.takeWhile_cons, List.takeWhile_cons, ih]
theorem aBU {z : List Int} (h : ∀ x ∈ z, 0 < x) : upTo z = z := by
  unfold upTo
  induction z with
  | nil => rfl
  | cons a r ih =>
    have : lt1 a = false := decide_eq_false (by have := h a (by simp); omega)
    rw [List.takeWhile_cons, this, ih fun x hx => h x (by simp [hx])]; rfl
/-! ### Unlike slots -/
/-! ### Steps by which slots are stored, of the second node -/
def inSlots (l : List SlotT) : Prop := ∀ s ∈ l, 0 ≤ s.at_ ∧ s.at_ < 13
theorem inSlots.get {l : List SlotT} (h : inSlots l) {n : Nat} (hn : n < l.length) : 0 ≤ (l.getD n ⟨0, 0⟩).at_ ∧ (l.getD n ⟨0, 0⟩).at_ < 13 := h _ (gH l n _ hn)
end Lam
namespace Lam
open Go
set_option linter.unusedVariables false
set_option linter.unnecessarySimpa false
set_option linter.unusedSimpArgs false
/-! ### Insert -/
/-! ### Delete -/
/-! ### Cut, swap -/
/-! ### How far -/
end Lam
namespace Lam
open Go
set_option linter.unusedVariables false
set_option linter.unnecessarySimpa false
set_option linter.unusedSimpArgs false
structure Nd where
  level : Int
  turn : Int
  next : Int
  low : Int
  slots : List Int
  deriving DecidableEq
def Nd.V (n : Nd) : AV := .agg [.int .i64 n.level, .int .i64 n.turn, .int .i64 n.next, .int .i64 n.low, .sl false (.ints .i64 n.slots)]
attribute [go_sem] Nd.V
def noBlock (n : Int) : Bool := decide (n = 0) || !(decide (0 ≤ n) && decide (n < 256))
def blockB (n : Int) : Bool := decide (0 ≤ n) && decide (n < 256)
def Nd.ok (n : Nd) : Prop := 0 ≤ n.level ∧ n.level ≤ 9 ∧ 0 ≤ n.turn ∧ n.turn ≤ 1099511627776 ∧ (0 ≤ n.next ∧ n.next < 256) ∧ (0 ≤ n.low ∧ n.low < 256) ∧ n.slots.length ≤ 13 ∧ ∀ x ∈ n.slots, 1 ≤ x ∧ x < 256
def ndB (n : Nd) : Bool := decide (0 ≤ n.level) && decide (n.level ≤ 9) && decide (0 ≤ n.turn) && decide (n.turn ≤ 1099511627776) && blockB n.next && blockB n.low && decide (n.slots.length ≤ 13) && !n.slots.any noBlock
theorem nd_iff {n : Nd} : ndB n = true ↔ n.ok := by
  unfold ndB Nd.ok blockB noBlock
  simp only [Bool.and_eq_true, decide_eq_true_eq, Bool.not_eq_true', List.any_eq_false, Bool.or_eq_true, Bool.and_eq_false_iff, decide_eq_false_iff_not, not_or, not_and, Bool.not_eq_false']
  constructor
  · rintro ⟨⟨⟨⟨⟨⟨⟨h1, h2⟩, h3⟩, h4⟩, h5⟩, h6⟩, h7⟩, h8⟩
    exact ⟨h1, h2, h3, h4, h5, h6, h7, fun x hx => by have := h8 x hx; omega⟩
  · rintro ⟨h1, h2, h3, h4, h5, h6, h7, h8⟩
    exact ⟨⟨⟨⟨⟨⟨⟨h1, h2⟩, h3⟩, h4⟩, h5⟩, h6⟩, h7⟩, fun x hx => by have := h8 x hx; omega⟩
def firstN (n : Nd) : Int := 1152921504606846976 + 16 * n.turn + n.level
def wordsNd (n : Nd) : List Int := firstN n :: n.next :: n.low :: (n.slots ++ List.replicate (13 - n.slots.length) 0)
theorem pG {n : Nd} (h : n.ok) : (wordsNd n).length = 16 := by
  have := h.2.2.2.2.2.2.1
  simp [wordsNd]; omega
def readBy (d : List Int → Nd) (w : List Int) : Option Nd := if (ndB (d w) && decide (wordsNd (d w) = w)) = true then some (d w) else none
theorem mU {d : List Int → Nd} {w : List Int} {n : Nd} (h : readBy d w = some n) : n.ok ∧ wordsNd n = w := by
  unfold readBy at h
  split at h
  · rename_i hc
    rw [Bool.and_eq_true, decide_eq_true_eq] at hc
    cases h
    exact ⟨nd_iff.1 hc.1, hc.2⟩
  · cases h
theorem uT {d : List Int → Nd} (hd : ∀ n, n.ok → d (wordsNd n) = n) {n : Nd} (h : n.ok) : readBy d (wordsNd n) = some n := by
  unfold readBy
  rw [hd n h, nd_iff.2 h, decide_eq_true rfl]; rfl
theorem aBh {d d' : List Int → Nd} (hd : ∀ n, n.ok → d (wordsNd n) = n) (hd' : ∀ n, n.ok → d' (wordsNd n) = n) (w : List Int) : readBy d w = readBy d' w := by
  cases h : readBy d w with
  | some n =>
    obtain ⟨h1, rfl⟩ := mU h
    rw [uT hd' h1]
  | none =>
    cases h' : readBy d' w with
    | none => rfl
    | some n =>
      obtain ⟨h1, rfl⟩ := mU h'
      rw [uT hd h1] at h; cases h
/-- a node's, of its words -/
def decN (w : List Int) : Nd := ⟨(w.getD 0 0 - 1152921504606846976) % 16, (w.getD 0 0 - 1152921504606846976) / 16, w.getD 1 0, w.getD 2 0, upTo (w.drop 3)⟩
theorem sV {n : Nd} (h : n.ok) : upTo ((wordsNd n).drop 3) = n.slots := by
  show upTo (n.slots ++ _) = _
  rw [aAh, aBU fun x hx => by have := h.2.2.2.2.2.2.2 x hx; omega]
theorem aAi {n : Nd} (h : n.ok) : decN (wordsNd n) = n := by
  unfold decN
  rw [sV h]
  have h5 := h.1
  have h6 := h.2.1
  have e0 : (wordsNd n).getD 0 0 = 1152921504606846976 + 16 * n.turn + n.level := rfl
  have e1 : (wordsNd n).getD 1 0 = n.next := rfl
  have e2 : (wordsNd n).getD 2 0 = n.low := rfl
  rw [e0, e1, e2]
  cases n
  simp only at *
  simp only [Nd.mk.injEq, and_true]
  exact ⟨by omega, by omega⟩
def readN (w : List Int) : Option Nd := readBy decN w
theorem aAj {w : List Int} {n : Nd} (h : readN w = some n) : n.ok ∧ wordsNd n = w := mU h
def blockAt (words : List Int) (k : Nat) : List Int := (words.drop (16 * k)).take 16
def zeroNd : Nd := ⟨0, 0, 0, 0, []⟩
/-! ### Bits -/
theorem orI_nat {a b : Nat} (h : a ||| b < 2 ^ 63) (ha : a < 2 ^ 63) (hb : b < 2 ^ 63) : orI .i64 a b = ((a ||| b : Nat) : Int) := by
  have e : (BitVec.ofInt 64 (a : Int) ||| BitVec.ofInt 64 (b : Int)).toNat = a ||| b := by
    rw [BitVec.toNat_or, BitVec.ofInt_natCast, BitVec.ofInt_natCast, BitVec.toNat_ofNat, BitVec.toNat_ofNat, Nat.mod_eq_of_lt (by omega), Nat.mod_eq_of_lt (by omega)]
  show IntKind.i64.wrap ((BitVec.ofInt 64 (a : Int) ||| BitVec.ofInt 64 (b : Int)).toNat) = _
  rw [e]
  exact w64 (by omega) (by omega)
theorem aBV {a b : Nat} (ha : a < 2 ^ 63) (hb : b < 2 ^ 63) : andI .i64 a b = ((a &&& b : Nat) : Int) := by
  have e : (BitVec.ofInt 64 (a : Int) &&& BitVec.ofInt 64 (b : Int)).toNat = a &&& b := by
    rw [BitVec.toNat_and, BitVec.ofInt_natCast, BitVec.ofInt_natCast, BitVec.toNat_ofNat, BitVec.toNat_ofNat, Nat.mod_eq_of_lt (by omega), Nat.mod_eq_of_lt (by omega)]
  have hle : a &&& b ≤ a := Nat.and_le_left
  show IntKind.i64.wrap ((BitVec.ofInt 64 (a : Int) &&& BitVec.ofInt 64 (b : Int)).toNat) = _
  rw [e]
  exact w64 (by omega) (by omega)
theorem or_add {i a b : Nat} (h : b < 2 ^ i) : 2 ^ i * a ||| b = 2 ^ i * a + b := (Nat.two_pow_add_eq_or_of_lt h a).symm
theorem aAk {r : Nat} (h : r < 2 ^ 60) : andNotI .i64 ((1152921504606846976 + r : Nat) : Int) 1152921504606846976 = (r : Int) := by
  have e : (BitVec.ofInt 64 ((1152921504606846976 + r : Nat) : Int) &&& ~~~ BitVec.ofInt 64 1152921504606846976).toNat = r := by
    have h1 : BitVec.ofInt 64 (1152921504606846976 : Int) = BitVec.ofNat 64 (2 ^ 60) := by decide
    have h2 : 1152921504606846976 + r = 2 ^ 60 * 1 ||| r := by rw [or_add h]
    rw [h1, BitVec.ofInt_natCast, h2]
    have h3 : BitVec.ofNat 64 (2 ^ 60 * 1 ||| r) = BitVec.ofNat 64 (2 ^ 60) ||| BitVec.ofNat 64 r := by
      apply BitVec.eq_of_toNat_eq
      rw [BitVec.toNat_or, BitVec.toNat_ofNat, BitVec.toNat_ofNat, BitVec.toNat_ofNat, Nat.mod_eq_of_lt (by rw [or_add h]; omega), Nat.mod_eq_of_lt (by omega), Nat.mod_eq_of_lt (by omega)]
    rw [h3]
    have h4 : (BitVec.ofNat 64 (2 ^ 60) ||| BitVec.ofNat 64 r) &&& ~~~ BitVec.ofNat 64 (2 ^ 60) = BitVec.ofNat 64 r := by
      apply BitVec.eq_of_getLsbD_eq
      intro i hi
      rw [BitVec.getLsbD_and, BitVec.getLsbD_or, BitVec.getLsbD_not, BitVec.getLsbD_ofNat, BitVec.getLsbD_ofNat, Nat.testBit_two_pow]
      by_cases e : 60 = i
      · subst e
        have : r.testBit 60 = false := Nat.testBit_lt_two_pow h
        rw [this]; simp
      · simp [e, hi]
    rw [h4, BitVec.toNat_ofNat, Nat.mod_eq_of_lt (by omega)]
  show IntKind.i64.wrap ((BitVec.ofInt 64 ((1152921504606846976 + r : Nat) : Int) &&& ~~~ BitVec.ofInt 64 1152921504606846976).toNat) = _
  rw [e]
  exact w64 (by omega) (by omega)
theorem aAl {a b : Int} (ha : 0 ≤ a) (ha2 : a < 16) (hb : 0 ≤ b) (hb2 : b ≤ 1099511627776) : orI .i64 (orI .i64 1152921504606846976 (IntKind.i64.wrap (b * 2 ^ min 4 64))) a = 1152921504606846976 + 16 * b + a := by
  obtain ⟨m, rfl⟩ := Int.eq_ofNat_of_zero_le ha
  obtain ⟨t, rfl⟩ := Int.eq_ofNat_of_zero_le hb
  have e1 : IntKind.i64.wrap ((t : Int) * 2 ^ min 4 64) = ((t * 16 : Nat) : Int) := by
    rw [show (2 : Int) ^ min 4 64 = 16 from by decide, show (t : Int) * 16 = ((t * 16 : Nat) : Int) from by simp]
    exact w64 (by omega) (by omega)
  have hlt : t * 16 < 2 ^ 60 := by omega
  have o1 : (2 ^ 60 * 1 ||| t * 16) = 2 ^ 60 + t * 16 := by rw [or_add hlt]
  have e2 : orI .i64 1152921504606846976 ((t * 16 : Nat) : Int) = ((2 ^ 60 + t * 16 : Nat) : Int) := by
    have := orI_nat (a := 2 ^ 60 * 1) (b := t * 16) (by rw [o1]; omega) (by omega) (by omega)
    rw [o1] at this
    exact this
  have o2 : (2 ^ 60 + t * 16 ||| m) = 2 ^ 60 + t * 16 + m := by
    have : 2 ^ 60 + t * 16 = 2 ^ 4 * (2 ^ 56 + t) := by omega
    rw [this, or_add (by omega)]
  rw [e1, e2, orI_nat (by rw [o2]; omega) (by omega) (by omega), o2]
  omega
/-- a node's, of its words, as the program reckons it -/
def decP (w : List Int) : Nd := ⟨andI .i64 (w.getD 0 0) 15, (andNotI .i64 (w.getD 0 0) 1152921504606846976).fdiv (2 ^ min 4 64), w.getD 1 0, w.getD 2 0, slotsOf w 0⟩
theorem aAm {n : Nd} (h : n.ok) : decP (wordsNd n) = n := by
  unfold decP
  have hs : slotsOf (wordsNd n) 0 = n.slots := by
    unfold slotsOf
    rw [pG h, if_pos (by decide)]
    have := h.2.2.2.2.2.2.1
    rw [show (0 : Int).toNat + 3 = 3 from rfl, List.take_of_length_le (by simp [wordsNd]; omega), sV h]
  have h5 := h.1
  have h6 := h.2.1
  have h7 := h.2.2.1
  have h8 := h.2.2.2.1
  have e1 : (wordsNd n).getD 1 0 = n.next := rfl
  have e2 : (wordsNd n).getD 2 0 = n.low := rfl
  obtain ⟨m, hm⟩ := Int.eq_ofNat_of_zero_le h5
  obtain ⟨t, ht⟩ := Int.eq_ofNat_of_zero_le h7
  have e0 : (wordsNd n).getD 0 0 = ((1152921504606846976 + (16 * t + m) : Nat) : Int) := by
    show 1152921504606846976 + 16 * n.turn + n.level = _
    omega
  have a1 : andI .i64 ((1152921504606846976 + (16 * t + m) : Nat) : Int) 15 = (m : Int) := by
    have := aBV (a := 1152921504606846976 + (16 * t + m)) (b := 15) (by omega) (by omega)
    rw [show (15 : Nat) = 2 ^ 4 - 1 from rfl, Nat.and_two_pow_sub_one_eq_mod] at this
    refine this.trans ?_
    omega
  rw [hs, e0, e1, e2, a1, aAk (by omega), show (2 : Int) ^ min 4 64 = 16 from by decide, Int.fdiv_eq_ediv_of_nonneg _ (by decide)]
  cases n
  simp only at *
  simp only [Nd.mk.injEq, and_true]
  exact ⟨by omega, by omega⟩
theorem aBW (w : List Int) : readBy decP w = readN w := aBh (fun n h => aAm h) (fun n h => aAi h) w
theorem vO (w : List Int) (b : Int) : roomy (slotsOf w b).length := by
  unfold slotsOf
  split
  · unfold upTo
    have := (List.takeWhile_sublist (l := (w.drop (b.toNat + 3)).take 13) fun x => !lt1 x).length_le
    rw [List.length_take] at this
    unfold roomy; omega
  · unfold roomy; simp
end Lam
namespace Lam
open Go
set_option linter.unusedVariables false
set_option linter.unnecessarySimpa false
set_option linter.unusedSimpArgs false
def xor32 (a b : Int) : Int := xorI .u32 a b
def and32 (a b : Int) : Int := andI .u32 a b
def bitS (c : Int) : Int := xor32 (c.fdiv (2 ^ min (Int.toNat 1) 32)) (and32 3988292384 (IntKind.u32.wrap (0 - and32 c 1)))
def bitN : Nat → Int → Int
  | 0, c => c
  | n + 1, c => bitS (bitN n c)
def tabE (i : Nat) : Int := bitN 8 (IntKind.u32.wrap i)
def tabL : List Int := (List.range 256).map tabE
def withS (t : List Int) (c b : Int) : Int := xor32 (c.fdiv (2 ^ min (Int.toNat 8) 32)) (t.getD (xorI .u8 (IntKind.u8.wrap c) b).toNat 0)
def byteAt (w : Int) (k : Nat) : Int := IntKind.u8.wrap ((IntKind.u64.wrap w).fdiv (2 ^ min (Int.toNat (56 - 8 * k)) 64))
def wordN (t : List Int) (w : Int) : Nat → Int → Int
  | 0, c => c
  | k + 1, c => withS t (wordN t w k c) (byteAt w k)
def wordS (t : List Int) (c w : Int) : Int := wordN t w 8 c
def sumC (l : List Int) : Int := l.foldl (wordS tabL) 4294967295
def sumOf (l : List Int) : Int := IntKind.i64.wrap (notI .u32 (sumC l))
theorem aBX : tabL.length = 256 := by simp [tabL]
/-! ### As naturals -/
/-! ### As the reference has it -/
end Lam
namespace Lam
open Go
set_option linter.unusedVariables false
set_option linter.unnecessarySimpa false
set_option linter.unusedSimpArgs false
def pv (p : Bytes) : Nat := p.foldl (fun a b => a * 256 + b.toNat) 0
def pw (p : Bytes) : Nat := pv p * 256 ^ (7 - p.length)
def pieceN (s : Bytes) (k : Nat) : Bytes := (s.drop (7 * k)).take 7
def nPieces (s : Bytes) : Nat := (s.length + 6) / 7
def keyW (s : Bytes) : List Int := (List.range (nPieces s)).map fun k => (pw (pieceN s k) : Int)

theorem yV (x b m : Nat) (hb : b < 256) : x * 2 ^ (m + 8) ||| b * 2 ^ m = (x * 256 + b) * 2 ^ m := by
  have e1 : x * 2 ^ (m + 8) = (x <<< 8) <<< m := by rw [Nat.shiftLeft_eq, Nat.shiftLeft_eq, Nat.pow_add, Nat.mul_assoc, Nat.mul_comm (2 ^ m)]
  have e2 : b * 2 ^ m = b <<< m := by rw [Nat.shiftLeft_eq]
  have e3 : (x * 256 + b) * 2 ^ m = (x <<< 8 + b) <<< m := by rw [Nat.shiftLeft_eq, Nat.shiftLeft_eq]
  rw [e1, e2, e3, ← Nat.shiftLeft_or_distrib, Nat.shiftLeft_add_eq_or_of_lt (by omega)]

theorem pv_snoc (p : Bytes) (b : UInt8) : pv (p ++ [b]) = pv p * 256 + b.toNat := by simp [pv]
theorem pv_lt : ∀ (p : Bytes), pv p < 256 ^ p.length := by
  intro p
  have key : ∀ (p : Bytes) (a n : Nat), a < 256 ^ n → p.foldl (fun a b => a * 256 + b.toNat) a < 256 ^ (n + p.length) := by
    intro p
    induction p with
    | nil => intro a n h; simpa using h
    | cons b r ih =>
      intro a n h
      have hb : b.toNat < 256 := b.toNat_lt
      have := ih (a * 256 + b.toNat) (n + 1) (by rw [Nat.pow_succ]; omega)
      simpa [Nat.add_assoc, Nat.add_comm 1] using this
  have := key p 0 0 (by simp)
  simpa [pv] using this

/-- a byte more -/
theorem pv_step (p : Bytes) {j : Nat} (hp : p.length ≤ 7) (hj : j < p.length) :
    orI .i64 ((pv (p.take j) * 256 ^ (7 - j) : Nat) : Int) (IntKind.i64.wrap (IntKind.i64.wrap ((p.getD j 0).toNat : Int) * 2 ^ min (IntKind.i64.wrap (8 * IntKind.i64.wrap (6 - (j : Int)))).toNat 64)) = ((pv (p.take (j + 1)) * 256 ^ (7 - (j + 1)) : Nat) : Int) := by
  have hb : (p.getD j 0).toNat < 256 := (p.getD j 0).toNat_lt
  have hx : pv (p.take j) < 256 ^ j := by have := pv_lt (p.take j); rwa [List.length_take, Nat.min_eq_left (by omega)] at this
  rw [gA p j 0 hj, pv_snoc]
  generalize (p.getD j 0).toNat = b at *
  generalize pv (p.take j) = x at *
  have e1 : IntKind.i64.wrap (6 - (j : Int)) = ((6 - j : Nat) : Int) := by rw [w64 (by omega) (by omega)]; omega
  have e2 : IntKind.i64.wrap (8 * ((6 - j : Nat) : Int)) = ((8 * (6 - j) : Nat) : Int) := by rw [w64 (by omega) (by omega)]; omega
  have e3 : IntKind.i64.wrap ((b : Nat) : Int) = (b : Int) := w64 (by omega) (by omega)
  have hm : 8 * (6 - j) ≤ 48 := by omega
  have e4 : (256 : Nat) ^ (7 - j) = 2 ^ (8 * (6 - j) + 8) := by rw [show (256 : Nat) = 2 ^ 8 from rfl, ← Nat.pow_mul]; congr 1; omega
  have e5 : (256 : Nat) ^ (7 - (j + 1)) = 2 ^ (8 * (6 - j)) := by rw [show (256 : Nat) = 2 ^ 8 from rfl, ← Nat.pow_mul]; congr 1; omega
  rw [e1, e2, e3, Int.toNat_natCast, Nat.min_eq_left (by omega), e4, e5]
  have hpm : (2 : Nat) ^ (8 * (6 - j)) ≤ 2 ^ 48 := Nat.pow_le_pow_right (by omega) hm
  have hbm : b * 2 ^ (8 * (6 - j)) < 2 ^ 63 := by
    have : b * 2 ^ (8 * (6 - j)) ≤ 255 * 2 ^ 48 := Nat.mul_le_mul (by omega) hpm
    omega
  have ec : ((b : Int) * 2 ^ (8 * (6 - j))) = ((b * 2 ^ (8 * (6 - j)) : Nat) : Int) := by push_cast; rfl
  rw [ec, w64 (by omega) (by omega)]
  have hor := yV x b (8 * (6 - j)) hb
  have hall : (x * 256 + b) * 2 ^ (8 * (6 - j)) < 2 ^ 63 := by
    have h1 : x * 256 + b < 256 ^ (j + 1) := by rw [Nat.pow_succ]; omega
    have h2 : (256 : Nat) ^ (j + 1) * 2 ^ (8 * (6 - j)) = 2 ^ 56 := by
      rw [show (256 : Nat) = 2 ^ 8 from rfl, ← Nat.pow_mul, ← Nat.pow_add]; congr 1; omega
    have h3 : (x * 256 + b) * 2 ^ (8 * (6 - j)) ≤ 256 ^ (j + 1) * 2 ^ (8 * (6 - j)) := Nat.mul_le_mul_right _ (by omega)
    omega
  have hle : x * 2 ^ (8 * (6 - j) + 8) ≤ x * 2 ^ (8 * (6 - j) + 8) ||| b * 2 ^ (8 * (6 - j)) := Nat.left_le_or
  rw [orI_nat (by rw [hor]; exact hall) (by omega) hbm, hor]

theorem aAn (s : Bytes) {k : Nat} (hk : k < nPieces s) : (keyW s).getD k 0 = (pw (pieceN s k) : Int) := by
  simp [keyW, List.getD_eq_getElem?_getD, hk]

def byteI (w : Int) (i : Nat) : Int := IntKind.u8.wrap (w.fdiv (2 ^ (8 * (6 - i))))
def sevenI (w : Int) : List Int := (List.range 7).map (byteI w)
def flatI (l : List Int) : List Int := l.flatMap sevenI
def wMay (w : Int) : Bool := decide (0 ≤ w) && decide (w < 72057594037927936)
def lenT (n : Int) : Int := IntKind.i64.wrap (IntKind.i64.wrap (n.tdiv 7) + (if n.tmod 7 < 1 then n.tmod 7 else 1))
def textB (l : List Int) (n : Int) : Bool := !decide (n < 0) && decide ((l.length : Int) = lenT n) && l.all wMay && ((flatI l).drop n.toNat).all (fun b => decide (b = 0))
def textS (l : List Int) (n : Int) : Bytes := ((flatI l).take n.toNat).map fun b => UInt8.ofNat b.toNat
theorem xA (m : Nat) (h : (m : Int) < 9223372036854775808) : lenT m = ((m + 6) / 7 : Nat) := by
  unfold lenT
  have e1 : (m : Int).tdiv 7 = ((m / 7 : Nat) : Int) := rfl
  have e2 : (m : Int).tmod 7 = ((m % 7 : Nat) : Int) := rfl
  rw [e1, e2, w64 (n := ((m / 7 : Nat) : Int)) (by omega) (by omega)]
  split
  · rw [w64 (by omega) (by omega)]; omega
  · rw [w64 (by omega) (by omega)]; omega

theorem aBi (l : List Int) : (flatI l).length = 7 * l.length := by
  induction l with
  | nil => rfl
  | cons w r ih => simp only [flatI, List.flatMap_cons, List.length_append, List.length_cons] at ih ⊢; rw [ih]; simp [sevenI]; omega
theorem yW (w : Int) (i : Nat) : 0 ≤ byteI w i ∧ byteI w i < 256 := wV _

/-! ### Words and bytes -/
theorem uU (p q : Bytes) : pv (p ++ q) = pv p * 256 ^ q.length + pv q := by
  have key : ∀ (q : Bytes) (a : Nat), q.foldl (fun a b => a * 256 + b.toNat) a = a * 256 ^ q.length + pv q := by
    intro q
    induction q with
    | nil => intro a; simp [pv]
    | cons b r ih =>
      intro a
      have h1 := ih (a * 256 + b.toNat)
      have h2 := ih b.toNat
      have h3 : pv (b :: r) = r.foldl (fun a b => a * 256 + b.toNat) b.toNat := by simp [pv]
      rw [h3, h2, List.foldl_cons, h1, List.length_cons, Nat.pow_succ, Nat.add_mul]
      rw [Nat.mul_assoc a 256, Nat.mul_comm 256]
      omega
  have := key q (pv p)
  rw [← this]
  simp [pv]

theorem aBY (n : Nat) : pv (List.replicate n 0) = 0 := by
  induction n with
  | zero => rfl
  | succ n ih => simpa [pv, List.replicate_succ] using ih

/-- a piece, with bytes 0 behind it -/
def padB (p : Bytes) : Bytes := p ++ List.replicate (7 - p.length) 0
theorem pw_pad (p : Bytes) : pw p = pv (padB p) := by
  unfold pw padB
  rw [uU, aBY, List.length_replicate, Nat.add_zero]
theorem xB {p : Bytes} (h : p.length ≤ 7) : (padB p).length = 7 := by simp [padB]; omega

theorem pv_get (q : Bytes) {i : Nat} (hi : i < q.length) : pv q / 256 ^ (q.length - 1 - i) % 256 = (q.getD i 0).toNat := by
  have e : q = q.take (i + 1) ++ q.drop (i + 1) := (List.take_append_drop _ _).symm
  have hd : (q.drop (i + 1)).length = q.length - 1 - i := by simp; omega
  have hlt := pv_lt (q.drop (i + 1))
  have e2 : pv q = pv (q.take (i + 1)) * 256 ^ (q.length - 1 - i) + pv (q.drop (i + 1)) := by
    conv => lhs; rw [e]
    rw [uU, hd]
  rw [hd] at hlt
  have hpos : 0 < 256 ^ (q.length - 1 - i) := Nat.pow_pos (by omega)
  rw [e2, Nat.mul_comm, Nat.mul_add_div hpos, Nat.div_eq_of_lt hlt, Nat.add_zero, gA q i 0 hi, pv_snoc]
  have := (q.getD i 0).toNat_lt
  omega

theorem aBj (n i : Nat) : byteI n i = ((n / 256 ^ (6 - i) % 256 : Nat) : Int) := by
  unfold byteI
  have e : (2 : Int) ^ (8 * (6 - i)) = ((256 ^ (6 - i) : Nat) : Int) := by
    rw [show (256 : Nat) = 2 ^ 8 from rfl, ← Nat.pow_mul]; push_cast; rfl
  rw [e]
  have e2 : (n : Int).fdiv ((256 ^ (6 - i) : Nat) : Int) = ((n / 256 ^ (6 - i) : Nat) : Int) := by
    rw [Int.fdiv_eq_ediv_of_nonneg _ (Int.natCast_nonneg _)]; exact (Int.natCast_ediv _ _).symm
  rw [e2]
  simp [IntKind.wrap, IntKind.bits, IntKind.signed]

def natsI (p : Bytes) : List Int := p.map fun b => (b.toNat : Int)
theorem uV (p : Bytes) : (natsI p).length = p.length := by simp [natsI]

theorem aBk {q : Bytes} (h : q.length = 7) : sevenI (pv q : Nat) = natsI q := by
  apply List.ext_getElem
  · simp [sevenI, natsI, h]
  intro i h1 h2
  have hi : i < q.length := by simpa [natsI] using h2
  simp only [sevenI, natsI, List.getElem_map, List.getElem_range]
  rw [aBj]
  have := pv_get q hi
  rw [h] at this
  rw [show 6 - i = 7 - 1 - i by omega, this, List.getD_eq_getElem?_getD, List.getElem?_eq_getElem hi]
  rfl

theorem pv_lt7 {q : Bytes} (h : q.length = 7) : pv q < 72057594037927936 := by have := pv_lt q; rw [h] at this; exact this

theorem aBl {p q : Bytes} (h : natsI p = natsI q) : p = q := by
  apply List.ext_getElem
  · have := congrArg List.length h; simpa [natsI] using this
  intro i h1 h2
  have := congrArg (fun l => l.getD i 0) h
  simp [natsI, List.getD_eq_getElem?_getD, h1, h2] at this
  exact UInt8.toNat_inj.1 (Int.natCast_inj.1 this)

theorem yX {l : List Int} : ∀ b ∈ flatI l, 0 ≤ b ∧ b < 256 := by
  intro b hb
  simp only [flatI, List.mem_flatMap, sevenI, List.mem_map] at hb
  obtain ⟨w, _, i, _, rfl⟩ := hb
  exact yW w i

theorem aAo {l : List Int} {n : Nat} : natsI (textS l n) = (flatI l).take n := by
  unfold natsI textS
  rw [List.map_map, Int.toNat_natCast]
  conv => rhs; rw [← List.map_id ((flatI l).take n)]
  apply List.map_congr_left
  intro b hb
  obtain ⟨h1, h2⟩ := yX b (List.mem_of_mem_take hb)
  simp only [Function.comp, id]
  rw [UInt8.toNat_ofNat', Nat.mod_eq_of_lt (by omega)]
  omega

/-! ### A text's words -/
theorem aAp (s : Bytes) (k : Nat) : (pieceN s k).length ≤ 7 := by unfold pieceN; simp; omega
theorem mB (s : Bytes) : (keyW s).length = nPieces s := by simp [keyW]
theorem aBZ (s : Bytes) : (keyW s).all wMay = true := by
  rw [List.all_eq_true]
  intro w hw
  simp only [keyW, List.mem_map] at hw
  obtain ⟨k, _, rfl⟩ := hw
  rw [pw_pad]
  have := pv_lt7 (xB (aAp s k))
  simp [wMay]; omega

theorem aBm {s : Bytes} (h : s ≠ []) : keyW s = (pw (s.take 7) : Int) :: keyW (s.drop 7) := by
  have hp : 0 < s.length := List.length_pos_iff.2 h
  apply List.ext_getElem
  · simp [keyW, nPieces]; omega
  intro i h1 h2
  simp only [keyW, List.getElem_map, List.getElem_range]
  cases i with
  | zero => simp [pieceN]
  | succ i =>
    simp only [List.getElem_cons_succ, List.getElem_map, List.getElem_range, pieceN, List.drop_drop]
    rw [show 7 * (i + 1) = 7 + 7 * i by omega]

/-- as many bytes 0 as are lacking to whole sevens -/
theorem qF : ∀ (n : Nat) (s : Bytes), s.length ≤ n → flatI (keyW s) = natsI s ++ List.replicate (7 * nPieces s - s.length) 0
  | n, [], _ => rfl
  | 0, b :: r, h => by simp at h
  | n + 1, b :: r, h => by
    rw [aBm (by simp)]
    generalize hs : b :: r = s at *
    have hp : 0 < s.length := by rw [← hs]; simp
    have e1 : ∀ (x : Int) (l : List Int), flatI (x :: l) = sevenI x ++ flatI l := fun x l => by simp [flatI]
    have htl : (s.take 7).length ≤ 7 := by simp; omega
    rw [e1, pw_pad, aBk (xB htl), qF n (s.drop 7) (by simp; omega)]
    unfold padB
    simp only [natsI, List.map_append, List.append_assoc, List.map_replicate, List.length_take, List.length_drop]
    rcases Nat.lt_or_ge s.length 7 with h7 | h7
    · have h1 : s.take 7 = s := List.take_of_length_le (by omega)
      have h2 : s.drop 7 = [] := List.drop_eq_nil_of_le (by omega)
      rw [h1, h2]
      have h3 : nPieces s = 1 := by unfold nPieces; omega
      rw [h3]
      simp [nPieces, Nat.min_eq_right (Nat.le_of_lt h7)]
    · have h3 : nPieces (s.drop 7) = nPieces s - 1 := by unfold nPieces; simp; omega
      have h4 : 1 ≤ nPieces s := by unfold nPieces; omega
      rw [Nat.min_eq_left h7, h3]
      have h5 : 7 * (nPieces s - 1) - (s.length - 7) = 7 * nPieces s - s.length := by omega
      rw [h5]
      simp only [List.map_take, List.map_drop, Nat.sub_self, List.replicate_zero, List.nil_append]
      rw [← List.append_assoc, List.take_append_drop]

theorem aAq (s : Bytes) (h : s.length < 9223372036854775808) : textB (keyW s) s.length = true ∧ textS (keyW s) s.length = s := by
  have hf := qF s.length s (Nat.le_refl _)
  have ht : (flatI (keyW s)).take s.length = natsI s := by rw [hf, List.take_left' (uV s)]
  refine ⟨?_, aBl (by rw [aAo, ht])⟩
  unfold textB
  rw [aBZ, mB, xA _ (by omega), Int.toNat_natCast, hf, List.drop_left' (uV s)]
  have : ¬ ((s.length : Int) < 0) := by omega
  simp only [this, decide_false, Bool.not_false, Bool.true_and, nPieces, decide_true, Bool.and_true]
  rw [List.all_eq_true]
  intro b hb
  rw [List.eq_of_mem_replicate hb]; rfl

end Lam
namespace Lam
open Go
set_option linter.unusedVariables false
set_option linter.unnecessarySimpa false
set_option linter.unusedSimpArgs false
structure Rc where
  kind : Int
  key : Bytes
  val : Bytes
  child : Int
  deriving DecidableEq
def Rc.V (x : Rc) : AV := .agg [.int .i64 x.kind, .str x.key, .str x.val, .int .i64 x.child]
attribute [go_sem] Rc.V
def Rc.ok (x : Rc) : Prop := (x.kind = 1 ∧ x.key ≠ [] ∧ x.key.length ≤ 21 ∧ x.val.length ≤ 21 ∧ x.child = 0) ∨ (x.kind = 2 ∧ x.key.length ≤ 21 ∧ x.val = [] ∧ 0 < x.child ∧ x.child < 256)
def keyB (s : Bytes) : Bool := decide (s ≠ []) && decide ((s.length : Int) ≤ 21)
def recB (x : Rc) : Bool := (decide (x.kind = 1) && (keyB x.key && decide ((x.val.length : Int) ≤ 21) && decide (x.child = 0))) || (decide (x.kind = 2) && ((decide (x.key = []) || keyB x.key) && decide (x.val = []) && decide (0 < x.child) && decide (x.child < 256)))
theorem rec_iff {x : Rc} : recB x = true ↔ x.ok := by
  unfold recB Rc.ok keyB
  simp only [Bool.or_eq_true, Bool.and_eq_true, decide_eq_true_eq]
  constructor
  · rintro (⟨h1, ⟨⟨h2, h3⟩, h4⟩, h5⟩ | ⟨h1, ⟨⟨h2, h3⟩, h4⟩, h5⟩)
    · exact .inl ⟨h1, h2, by omega, by omega, h5⟩
    · refine .inr ⟨h1, ?_, h3, h4, h5⟩
      rcases h2 with h | h
      · rw [h]; exact Nat.zero_le _
      · omega
  · rintro (⟨h1, h2, h3, h4, h5⟩ | ⟨h1, h2, h3, h4, h5⟩)
    · exact .inl ⟨h1, ⟨⟨h2, by omega⟩, by omega⟩, h5⟩
    · refine .inr ⟨h1, ⟨⟨?_, h3⟩, h4⟩, h5⟩
      by_cases e : x.key = []
      · exact .inl e
      · exact .inr ⟨e, by omega⟩
theorem Rc.ok.key {x : Rc} (h : x.ok) : x.key.length ≤ 21 := by rcases h with h | h; exact h.2.2.1; exact h.2.1
theorem Rc.ok.val {x : Rc} (h : x.ok) : x.val.length ≤ 21 := by
  rcases h with h | h
  · exact h.2.2.2.1
  · rw [h.2.2.1]; exact Nat.zero_le _
/-- three words -/
def threeI (s : Bytes) : List Int := keyW s ++ List.replicate (3 - (keyW s).length) 0
theorem iT {s : Bytes} (h : s.length ≤ 21) : (threeI s).length = 3 := by
  have h1 : (keyW s).length = nPieces s := mB s
  have h2 : nPieces s = (s.length + 6) / 7 := rfl
  simp [threeI]; omega
def restR (x : Rc) : List Int := threeI x.key ++ ((if x.kind = 2 then [x.child, 0, 0] else threeI x.val) ++ List.replicate 7 0)
def lensR (x : Rc) : Int := 32 * (x.key.length : Int) + (x.val.length : Int)
def formR (x : Rc) : List Int := x.kind :: lensR x :: sumOf (x.kind :: lensR x :: restR x) :: restR x
theorem aCa {x : Rc} (h : x.ok) : (restR x).length = 13 := by
  have h1 := iT h.key
  have h2 := iT h.val
  unfold restR
  split <;> simp [h1, h2]
theorem rF {x : Rc} (h : x.ok) : (formR x).length = 16 := by
  have := aCa h
  simp [formR, this]
theorem uW (s : Bytes) (h : s.length ≤ 21) : textB ((threeI s).take ((s.length + 6) / 7)) s.length = true ∧ textS ((threeI s).take ((s.length + 6) / 7)) s.length = s := by
  have h1 : (keyW s).length = (s.length + 6) / 7 := mB s
  have : (threeI s).take ((s.length + 6) / 7) = keyW s := by
    unfold threeI; exact List.take_left' h1
  rw [this]
  exact aAq s (by omega)
/-- a text's words, from a place on -/
def txtB (w : List Int) (at_ : Nat) (n : Int) : Bool := decide (0 ≤ n) && decide (n ≤ 21) && textB ((w.drop at_).take ((n.toNat + 6) / 7)) n
def txtS (w : List Int) (at_ : Nat) (n : Int) : Bytes := if txtB w at_ n = true then textS ((w.drop at_).take ((n.toNat + 6) / 7)) n else []
theorem xC {x : Rc} (h : x.ok) : txtB (formR x) 3 (x.key.length : Int) = true ∧ txtS (formR x) 3 (x.key.length : Int) = x.key := by
  have hk := h.key
  have h3 := iT hk
  have e : ((formR x).drop 3).take ((x.key.length + 6) / 7) = (threeI x.key).take ((x.key.length + 6) / 7) := by
    show (threeI x.key ++ _).take _ = _
    exact List.take_append_of_le_length (by rw [h3]; omega)
  have ht := uW x.key hk
  have hb : txtB (formR x) 3 (x.key.length : Int) = true := by
    unfold txtB
    rw [Int.toNat_natCast, e, ht.1, decide_eq_true (by omega), decide_eq_true (by omega)]; rfl
  refine ⟨hb, ?_⟩
  unfold txtS
  rw [if_pos hb, Int.toNat_natCast, e]; exact ht.2
theorem xD {x : Rc} (h : x.ok) (h1 : x.kind = 1) : txtB (formR x) 6 (x.val.length : Int) = true ∧ txtS (formR x) 6 (x.val.length : Int) = x.val := by
  have hk := iT h.key
  have hv := h.val
  have h3 := iT hv
  have e : ((formR x).drop 6).take ((x.val.length + 6) / 7) = (threeI x.val).take ((x.val.length + 6) / 7) := by
    have : (formR x).drop 6 = threeI x.val ++ List.replicate 7 0 := by
      show (threeI x.key ++ _).drop 3 = _
      rw [List.drop_left' hk, if_neg (by rw [h1]; decide)]
    rw [this]
    exact List.take_append_of_le_length (by rw [h3]; omega)
  have ht := uW x.val hv
  have hb : txtB (formR x) 6 (x.val.length : Int) = true := by
    unfold txtB
    rw [Int.toNat_natCast, e, ht.1, decide_eq_true (by omega), decide_eq_true (by omega)]; rfl
  refine ⟨hb, ?_⟩
  unfold txtS
  rw [if_pos hb, Int.toNat_natCast, e]; exact ht.2
theorem aAr {x : Rc} (h : x.ok) (h2 : x.kind = 2) : (formR x).getD 6 0 = x.child := by
  have hk := iT h.key
  show (threeI x.key ++ _).getD 3 0 = _
  rw [pO _ _ _ _ (by omega), hk, if_pos h2]; rfl
/-- a record's, of its words -/
def decC (w : List Int) : Rc := ⟨w.getD 0 0, txtS w 3 (w.getD 1 0 / 32), if w.getD 0 0 = 1 then txtS w 6 (w.getD 1 0 % 32) else [], if w.getD 0 0 = 2 then w.getD 6 0 else 0⟩
theorem pH {x : Rc} (h : x.ok) : lensR x / 32 = x.key.length ∧ lensR x % 32 = x.val.length ∧ 0 ≤ lensR x ∧ lensR x ≤ 693 := by
  have := h.key; have := h.val
  unfold lensR; omega
theorem uX {x : Rc} (h : x.ok) : decC (formR x) = x := by
  have e0 : (formR x).getD 0 0 = x.kind := rfl
  have e1 : (formR x).getD 1 0 = lensR x := rfl
  have hl := pH h
  unfold decC
  rw [e0, e1, hl.1, hl.2.1, (xC h).2]
  have h' := h
  rcases h with ⟨h1, _, _, _, h5⟩ | ⟨h1, _, h3, _, _⟩
  · rw [if_pos h1, if_neg (by rw [h1]; decide), (xD h' h1).2]
    cases x; simp only at *; simp only [h5]
  · rw [if_neg (by rw [h1]; decide), if_pos h1, aAr h' h1]
    cases x; simp only at *; simp only [h3]
def readC (d : List Int → Rc) (w : List Int) : Option Rc := if (recB (d w) && decide (formR (d w) = w)) = true then some (d w) else none
theorem nP {d : List Int → Rc} {w : List Int} {n : Rc} (h : readC d w = some n) : n.ok ∧ formR n = w := by
  unfold readC at h
  split at h
  · rename_i hc
    rw [Bool.and_eq_true, decide_eq_true_eq] at hc
    cases h
    exact ⟨rec_iff.1 hc.1, hc.2⟩
  · cases h
theorem xE {d : List Int → Rc} (hd : ∀ n, n.ok → d (formR n) = n) {n : Rc} (h : n.ok) : readC d (formR n) = some n := by
  unfold readC
  rw [hd n h, rec_iff.2 h, decide_eq_true rfl]; rfl
theorem aCb {d d' : List Int → Rc} (hd : ∀ n, n.ok → d (formR n) = n) (hd' : ∀ n, n.ok → d' (formR n) = n) (w : List Int) : readC d w = readC d' w := by
  cases h : readC d w with
  | some n =>
    obtain ⟨h1, rfl⟩ := nP h
    rw [xE hd' h1]
  | none =>
    cases h' : readC d' w with
    | none => rfl
    | some n =>
      obtain ⟨h1, rfl⟩ := nP h'
      rw [xE hd h1] at h; cases h
def recOf (w : List Int) : Option Rc := readC decC w
theorem sW {w : List Int} {x : Rc} (h : recOf w = some x) : x.ok ∧ formR x = w := nP h
/-- what is read must be as it would be laid -/
theorem sX {w : List Int} (h : ∀ x : Rc, x.ok → formR x ≠ w) : recOf w = none := by
  cases e : recOf w with
  | none => rfl
  | some x => exact absurd (sW e).2 (h x (sW e).1)
def zeroRc : Rc := ⟨0, [], [], 0⟩
end Lam
namespace Lam
open Go
set_option linter.unusedVariables false
set_option linter.unusedSimpArgs false
def nodeO (w : List Int) (b : Int) : Option Nd := if (decide (b < 0) || decide (((w.length / 16 : Nat) : Int) ≤ b)) = true then none else readN (blockAt w b.toNat)
def recO (w : List Int) (b : Int) : Option Rc := if (decide (b < 0) || decide (((w.length / 16 : Nat) : Int) ≤ b)) = true then none else recOf (blockAt w b.toNat)
theorem aAs {w : List Int} {b : Int} {n : Nd} (h : nodeO w b = some n) : n.ok ∧ 0 ≤ b ∧ b < ((w.length / 16 : Nat) : Int) ∧ readN (blockAt w b.toNat) = some n := by
  unfold nodeO at h
  split at h
  · cases h
  · rename_i hb
    simp only [Bool.or_eq_true, decide_eq_true_eq, not_or] at hb
    exact ⟨(aAj h).1, by omega, by omega, h⟩
def lowO (w : List Int) (n : Nd) : Option Bytes := if n.low = 0 then some [] else (recO w n.low).map (·.key)
end Lam
namespace Lam
open Go
set_option linter.unusedVariables false
set_option linter.unusedSimpArgs false
theorem nQ : ∀ a : Bytes, ltB a a = false
  | [] => rfl
  | a :: x => by simp [ltB, nQ x]
theorem kU : ∀ {a b c : Bytes}, ltB a b = true → ltB b c = true → ltB a c = true
  | _, [], _, h, _ => by simp [ltB] at h
  | _, _ :: _, [], _, h => by simp [ltB] at h
  | [], _ :: _, _ :: _, _, _ => rfl
  | a :: x, b :: y, c :: z, h1, h2 => by
    simp only [ltB, Bool.or_eq_true, decide_eq_true_eq, Bool.and_eq_true, beq_iff_eq] at h1 h2 ⊢
    rcases h1 with h1 | ⟨rfl, h1⟩
    · rcases h2 with h2 | ⟨rfl, h2⟩
      · exact .inl (UInt8.lt_trans h1 h2)
      · exact .inl h1
    · rcases h2 with h2 | ⟨rfl, h2⟩
      · exact .inl h2
      · exact .inr ⟨rfl, kU h1 h2⟩
theorem ltB_tri : ∀ (a b : Bytes), ltB a b = true ∨ a = b ∨ ltB b a = true
  | [], [] => .inr (.inl rfl)
  | [], _ :: _ => .inl rfl
  | _ :: _, [] => .inr (.inr rfl)
  | a :: x, b :: y => by
    simp only [ltB, Bool.or_eq_true, decide_eq_true_eq, Bool.and_eq_true, beq_iff_eq, List.cons.injEq]
    by_cases hab : a < b
    · exact .inl (.inl hab)
    by_cases hba : b < a
    · exact .inr (.inr (.inl hba))
    have e : a = b := UInt8.le_antisymm (UInt8.not_lt.1 hba) (UInt8.not_lt.1 hab)
    subst e
    rcases ltB_tri x y with h | h | h
    · exact .inl (.inr ⟨rfl, h⟩)
    · exact .inr (.inl ⟨rfl, h⟩)
    · exact .inr (.inr (.inr ⟨rfl, h⟩))
/-- not behind -/
def leB (a b : Bytes) : Prop := ltB b a = false
theorem jO {a b : Bytes} (h : ltB a b = true) : leB a b := by
  unfold leB
  cases e : ltB b a with
  | false => rfl
  | true => have := kU h e; rw [nQ] at this; cases this
theorem nR (a : Bytes) : leB a a := nQ a
theorem kV {a b c : Bytes} (h1 : leB a b) (h2 : leB b c) : leB a c := by
  unfold leB at *
  cases e : ltB c a with
  | false => rfl
  | true =>
    rcases ltB_tri a b with h | rfl | h
    · have := kU e h; rw [h2] at this; cases this
    · rw [h2] at e; cases e
    · rw [h1] at h; cases h
theorem mV {a b : Bytes} (h : leB a b) (hne : a ≠ b) : ltB a b = true := by
  rcases ltB_tri a b with e | e | e
  · exact e
  · exact absurd e hne
  · unfold leB at h; rw [h] at e; cases e
def d0 : RecT := ⟨0, [], [], 0⟩
def swapL (l : List RecT) (i j : Nat) : List RecT := (l.set i (l.getD j d0)).set j (l.getD i d0)
theorem iA {l : List RecT} {i j : Nat} : (swapL l i j).length = l.length := by simp [swapL]
theorem kW {l : List RecT} {i j : Nat} (hi : i < l.length) (hj : j < l.length) (k : Nat) : (swapL l i j).getD k d0 = if k = j then l.getD i d0 else if k = i then l.getD j d0 else l.getD k d0 := by
  unfold swapL
  simp only [List.getD_eq_getElem?_getD, List.getElem?_set, List.length_set]
  by_cases h1 : j = k
  · subst h1; simp [hj]
  · rw [if_neg h1, if_neg (Ne.symm h1)]
    by_cases h2 : i = k
    · subst h2; simp [hi]
    · rw [if_neg h2, if_neg (Ne.symm h2)]
theorem aAt {l : List RecT} {i j : Nat} (hi : i < l.length) (hj : j < l.length) : (swapL l i j).Perm l := by
  have h := @List.set_set_perm _ l i j hi hj
  have e1 : l.getD i d0 = l[i] := by rw [List.getD_eq_getElem?_getD, List.getElem?_eq_getElem hi]; rfl
  have e2 : l.getD j d0 = l[j] := by rw [List.getD_eq_getElem?_getD, List.getElem?_eq_getElem hj]; rfl
  unfold swapL
  rw [e1, e2]; exact h
/-- the same list, but for the order of a part -/
def SegP (a b : Nat) (l l' : List RecT) : Prop := l'.Perm l ∧ (∀ k, (k < a ∨ b ≤ k) → l'.getD k d0 = l.getD k d0) ∧ ∀ k, a ≤ k → k < b → ∃ k', a ≤ k' ∧ k' < b ∧ l'.getD k d0 = l.getD k' d0
theorem SegP.len {a b : Nat} {l l' : List RecT} (h : SegP a b l l') : l'.length = l.length := h.1.length_eq
theorem SegP.refl {a b : Nat} {l : List RecT} : SegP a b l l := ⟨.refl _, fun _ _ => rfl, fun k h1 h2 => ⟨k, h1, h2, rfl⟩⟩
theorem SegP.trans {a b : Nat} {l l' l'' : List RecT} (h : SegP a b l l') (h' : SegP a b l' l'') : SegP a b l l'' :=
  ⟨h'.1.trans h.1, fun k hk => (h'.2.1 k hk).trans (h.2.1 k hk), fun k h1 h2 => by
    obtain ⟨k', q1, q2, e⟩ := h'.2.2 k h1 h2
    obtain ⟨k'', r1, r2, e'⟩ := h.2.2 k' q1 q2
    exact ⟨k'', r1, r2, e.trans e'⟩⟩
theorem SegP.mono {a b a' b' : Nat} {l l' : List RecT} (h : SegP a b l l') (ha : a' ≤ a) (hb : b ≤ b') : SegP a' b' l l' :=
  ⟨h.1, fun k hk => h.2.1 k (by omega), fun k h1 h2 => by
    by_cases hk : a ≤ k ∧ k < b
    · obtain ⟨k', q1, q2, e⟩ := h.2.2 k hk.1 hk.2
      exact ⟨k', by omega, by omega, e⟩
    · exact ⟨k, h1, h2, h.2.1 k (by omega)⟩⟩
theorem SegP.swap {a b : Nat} {l : List RecT} {i j : Nat} (h1 : a ≤ i) (h2 : i < b) (h3 : a ≤ j) (h4 : j < b) (hb : b ≤ l.length) : SegP a b l (swapL l i j) := by
  have hi : i < l.length := by omega
  have hj : j < l.length := by omega
  refine ⟨aAt hi hj, fun k hk => ?_, fun k q1 q2 => ?_⟩
  · rw [kW hi hj, if_neg (by omega), if_neg (by omega)]
  · rw [kW hi hj]
    split
    · exact ⟨i, h1, h2, rfl⟩
    · split
      · exact ⟨j, h3, h4, rfl⟩
      · exact ⟨k, q1, q2, rfl⟩
def kyL (l : List RecT) (i : Nat) : Bytes := (l.getD i d0).key
/-- a part is sorted -/
def SegS (a b : Nat) (l : List RecT) : Prop := ∀ p q, a ≤ p → p < q → q < b → leB (kyL l p) (kyL l q)
/-- sorted but for one that goes down -/
def InsS (a j i : Nat) (l : List RecT) : Prop := ∀ p q, a ≤ p → p < q → q < i → q ≠ j → leB (kyL l p) (kyL l q)
theorem InsS.begin {a i : Nat} {l : List RecT} (h : SegS a i l) : InsS a i (i + 1) l := fun p q h1 h2 h3 h4 => h p q h1 h2 (by omega)
theorem fW {l : List RecT} {i j : Nat} (hi : i < l.length) (hj : j < l.length) (k : Nat) : kyL (swapL l i j) k = if k = j then kyL l i else if k = i then kyL l j else kyL l k := by
  unfold kyL
  rw [kW hi hj]
  split
  · rfl
  · split <;> rfl
theorem InsS.step {a j i : Nat} {l : List RecT} (h : InsS a j i l) (hj : a < j) (hji : j < i) (hi : i ≤ l.length) (hlt : ltB (kyL l j) (kyL l (j - 1)) = true) : InsS a (j - 1) i (swapL l j (j - 1)) := by
  intro p q h1 h2 h3 h4
  have hjl : j < l.length := by omega
  have hjl' : j - 1 < l.length := by omega
  rw [fW hjl hjl', fW hjl hjl']
  rw [if_neg (show ¬ q = j - 1 from h4)]
  by_cases hq : q = j
  · subst hq
    rw [if_pos rfl]
    by_cases hp : p = q - 1
    · rw [if_pos hp]; exact jO hlt
    · rw [if_neg hp, if_neg (by omega)]
      exact h p (q - 1) h1 (by omega) (by omega) (by omega)
  · rw [if_neg hq]
    by_cases hp : p = j - 1
    · rw [if_pos hp]; exact h j q (by omega) (by omega) h3 hq
    · rw [if_neg hp]
      by_cases hp2 : p = j
      · rw [if_pos hp2]; exact h (j - 1) q (by omega) (by omega) h3 hq
      · rw [if_neg hp2]; exact h p q h1 h2 h3 hq
theorem InsS.done {a j i : Nat} {l : List RecT} (h : InsS a j i l) (hj : a ≤ j) (hji : j < i) (he : j = a ∨ leB (kyL l (j - 1)) (kyL l j)) : SegS a i l := by
  intro p q h1 h2 h3
  by_cases hq : q = j
  · subst hq
    rcases he with rfl | he
    · omega
    · by_cases hp : p = q - 1
      · subst hp; exact he
      · exact kV (h p (q - 1) h1 (by omega) (by omega) (by omega)) he
  · exact h p q h1 h2 h3 hq
theorem SegS.one {a b : Nat} {l : List RecT} (h : b ≤ a + 1) : SegS a b l := fun p q h1 h2 h3 => by omega
theorem SegP.same {a b : Nat} {l l' : List RecT} (h : SegP a b l l') {k : Nat} (hk : k < a ∨ b ≤ k) : kyL l' k = kyL l k := by unfold kyL; rw [h.2.1 k hk]
theorem SegP.from {a b : Nat} {l l' : List RecT} (h : SegP a b l l') {k : Nat} (h1 : a ≤ k) (h2 : k < b) : ∃ k', a ≤ k' ∧ k' < b ∧ kyL l' k = kyL l k' := by
  obtain ⟨k', q1, q2, e⟩ := h.2.2 k h1 h2
  exact ⟨k', q1, q2, by unfold kyL; rw [e]⟩
/-- parted at one -/
def Parted (a m b : Nat) (l : List RecT) : Prop := (∀ k, a ≤ k → k < m → leB (kyL l k) (kyL l m)) ∧ ∀ k, m < k → k < b → leB (kyL l m) (kyL l k)
theorem Parted.left {a m b : Nat} {l l' : List RecT} (h : Parted a m b l) (s : SegP a m l l') : Parted a m b l' := by
  refine ⟨fun k h1 h2 => ?_, fun k h1 h2 => ?_⟩
  · obtain ⟨k', q1, q2, e⟩ := s.from h1 h2
    rw [e, s.same (k := m) (by omega)]; exact h.1 k' q1 q2
  · rw [s.same (k := m) (by omega), s.same (k := k) (by omega)]; exact h.2 k h1 h2
theorem Parted.right {a m b : Nat} {l l' : List RecT} (h : Parted a m b l) (s : SegP (m + 1) b l l') : Parted a m b l' := by
  refine ⟨fun k h1 h2 => ?_, fun k h1 h2 => ?_⟩
  · rw [s.same (k := m) (by omega), s.same (k := k) (by omega)]; exact h.1 k h1 h2
  · obtain ⟨k', q1, q2, e⟩ := s.from (k := k) (by omega) h2
    rw [e, s.same (k := m) (by omega)]; exact h.2 k' (by omega) q2
theorem SegS.keep {a b c d : Nat} {l l' : List RecT} (h : SegS a b l) (s : SegP c d l l') (hd : b ≤ c ∨ d ≤ a) : SegS a b l' := fun p q h1 h2 h3 => by
  rw [s.same (k := p) (by omega), s.same (k := q) (by omega)]; exact h p q h1 h2 h3
theorem Parted.sorted {a m b : Nat} {l : List RecT} (h : Parted a m b l) (h1 : SegS a m l) (h2 : SegS (m + 1) b l) : SegS a b l := by
  intro p q p1 p2 p3
  by_cases hq : q < m
  · exact h1 p q p1 p2 hq
  · by_cases hqm : q = m
    · subst hqm; exact h.1 p p1 p2
    · by_cases hp : p < m
      · exact kV (h.1 p p1 hp) (h.2 q (by omega) p3)
      · by_cases hpm : p = m
        · subst hpm; exact h.2 q (by omega) p3
        · exact h2 p q (by omega) p2 p3
end Lam
namespace Lam
open Go
set_option linter.unusedVariables false
set_option linter.unusedSimpArgs false
/-- a node's level, and from which key on it is -/
def fromO (w : List Int) (b : Int) : Option (Int × Bytes) := match nodeO w b with
  | none => none
  | some n => match lowO w n with
    | none => none
    | some l => some (n.level, l)
/-- a node's child for a key -/
def childS (w : List Int) (key : Bytes) (out : Int) (s : Int) : Int := match recO w s with
  | none => out
  | some x => if x.kind = 2 ∧ ltB key x.key = false then x.child else out
def childO (w : List Int) (key : Bytes) (n : Nd) : Int := n.slots.foldl (childS w key) 0
def downTo (w : List Int) (key : Bytes) (n : Nd) : Option Int := match fromO w (childO w key n) with
  | none => none
  | some (lv, lo) => if childO w key n = 0 ∨ lv ≠ n.level - 1 ∨ ltB key lo = true then none else some (childO w key n)
def downN (w : List Int) (b : Int) (key : Bytes) (level : Int) (n : Nd) : Option Int := if level < n.level then downTo w key n else some b
def downO (w : List Int) (b : Int) (key : Bytes) (level : Int) : Option Int := match nodeO w b with
  | none => none
  | some n => if n.level < level then none else
    if n.next = 0 then downN w b key level n else match fromO w n.next with
      | none => none
      | some (lv, lo) => if n.next = b ∨ lv ≠ n.level then none else if ltB key lo = false then some n.next else downN w b key level n
end Lam
namespace Lam
open Go Go.Proofs
set_option linter.unusedVariables false
def T_unit : TyD := (.tup [])
def T_func : TyD := .func
def T_int64 : TyD := (.int .i64)
def T_int : TyD := (.int .i64)
def T_bool : TyD := .bool
def T_uint8 : TyD := (.int .u8)
def bN : TyD := .str
def qG : TyD := .iface
def aI : TyD := (.slice (.int .i64))
def bG : TyD := (.slice .pend)
def T_api_Mem : TyD := (.strct [(.slice (.int .i64)), (.slice (.int .i64)), (.slice .pend)])
def bC : TyD := (.strct [(.int .i64), (.int .i64), (.int .i64), (.slice (.int .i64)), .bool])
def T_api_Reader : TyD := (.strct [.str, (.int .i64), (.int .i64), (.int .i64), (.strct [(.int .i64), (.int .i64), (.int .i64), (.slice (.int .i64)), .bool]), .str, .bool])
def jS : TyD := (.tup [(.strct [(.slice (.int .i64)), (.slice (.int .i64)), (.slice .pend)]), (.strct [.str, (.int .i64), (.int .i64), (.int .i64), (.strct [(.int .i64), (.int .i64), (.int .i64), (.slice (.int .i64)), .bool]), .str, .bool])])
def bZ : TyD := (.strct [(.int .i64), (.int .i64), .bool])
def pI : TyD := .other
def gD : TyD := (.slice (.int .u8))
def oD : TyD := (.slice .pair)
def oE : TyD := (.strct [.str, .str, (.int .i64), (.int .i64), (.int .i64), (.int .i64), (.strct [(.int .i64), (.int .i64), (.int .i64), (.slice (.int .i64)), .bool]), .str, (.slice .pair)])
def dA : TyD := (.int .i64)
def iX : TyD := (.tup [(.strct [.str, .str, (.int .i64), (.int .i64), (.int .i64), (.int .i64), (.strct [(.int .i64), (.int .i64), (.int .i64), (.slice (.int .i64)), .bool]), .str, (.slice .pair)]), (.int .i64)])
def jP : TyD := (.tup [(.strct [(.slice (.int .i64)), (.slice (.int .i64)), (.slice .pend)]), (.strct [.str, .str, (.int .i64), (.int .i64), (.int .i64), (.int .i64), (.strct [(.int .i64), (.int .i64), (.int .i64), (.slice (.int .i64)), .bool]), .str, (.slice .pair)])])
def sY : TyD := (.strct [.str, .str])
def kX : TyD := (.tup [(.slice (.int .i64)), (.int .i64)])
def iY : TyD := (.tup [(.slice .pair), (.int .i64)])
def jB : TyD := (.tup [(.strct [.str, (.int .i64), (.int .i64), (.int .i64), (.strct [(.int .i64), (.int .i64), (.int .i64), (.slice (.int .i64)), .bool]), .str, .bool]), (.int .i64)])
def jZ : TyD := (.tup [(.strct [(.slice (.int .i64)), (.slice (.int .i64)), (.slice .pend)]), (.int .i64)])
def oF : TyD := (.tup [.str, .bool])
def mX : TyD := .func
def gT : TyD := (.map .ib)
def jT : TyD := .func
def fN : TyD := (.arr 8 .fnk)
def dP : TyD := .ptr
def bL : TyD := (.strct [(.strct [(.slice (.int .i64)), (.slice (.int .i64)), (.slice .pend)]), (.strct [.str, (.int .i64), (.int .i64), (.int .i64), (.strct [(.int .i64), (.int .i64), (.int .i64), (.slice (.int .i64)), .bool]), .str, .bool])])
def kA : TyD := (.tup [(.int .i64), (.int .i64), (.int .i64)])
def jU : TyD := (.tup [(.strct [(.int .i64), (.int .i64), (.int .i64), (.slice (.int .i64)), .bool]), (.int .i64)])
def bD : TyD := (.strct [(.int .i64), (.int .i64), (.int .i64), (.int .i64), (.slice (.int .i64))])
def jV : TyD := (.tup [(.strct [(.int .i64), (.int .i64), (.int .i64), (.int .i64), (.slice (.int .i64))]), (.int .i64)])
def kY : TyD := (.tup [.str, (.int .i64)])
def mM : TyD := (.tup [(.int .i64), (.int .i64)])
def iU : TyD := .func
def kB : TyD := .func
def lE : TyD := .func
def kC : TyD := .func
def cI : TyD := (.strct [(.int .i64), (.int .i64), (.int .i64), (.int .i64)])
def oG : TyD := .ptr
def dT : TyD := (.strct [(.strct [(.int .i64), (.int .i64), (.int .i64), (.slice (.int .i64)), .bool]), (.int .i64)])
def eF : TyD := (.strct [(.int .i64), (.int .i64), (.int .i64)])
def jW : TyD := (.strct [])
def aG : TyD := (.strct [(.int .i64), .str, .str, (.int .i64)])
def kD : TyD := (.tup [(.strct [(.int .i64), .str, .str, (.int .i64)]), (.int .i64)])
def T_uint : TyD := (.int .u64)
def lF : TyD := (.tup [(.int .i64), .str, .bool])
def aM : TyD := (.slice .rcd)
def kZ : TyD := .func
def gB : TyD := (.slice .mic)
def cS : TyD := (.arr 16 (.int .i64))
def gO : TyD := (.map .sb)
def iG : TyD := .func
def gE : TyD := (.int .u32)
def fY : TyD := (.arr 256 (.int .u32))
def mY : TyD := .ptr
def gN : TyD := (.int .u64)
def mZ : TyD := .ptr
def fS : TyD := (.strct [(.strct [(.slice (.int .i64)), (.slice (.int .i64)), (.slice .pend)])])
def dS : TyD := (.map .ifn)
def hG : TyD := .func
def jC : TyD := .func
def lG : TyD := .func
def gV : TyD := (.int .i64)
def iZ : TyD := (.tup [(.int .i64), (.int .i64)])
def sZ : TyD := (.tup [(.int .i64), .bool])
def jX : TyD := .func
def cH : TyD := (.int .u64)
def T_p_int : TyD := .ptr
def gX : TyD := (.map .ii)
def kE : TyD := .ptr
def uY : TyD := (.tup [(.int .i64), (.int .i64)])
def kF : TyD := .func
def nA : TyD := .func
def jD : TyD := .func
attribute [go_sem] T_unit T_func T_int64 T_int T_bool T_uint8 bN qG aI bG T_api_Mem bC T_api_Reader jS bZ pI gD oD oE dA iX jP sY kX iY jB jZ oF mX gT jT fN dP bL kA jU bD jV kY mM iU kB lE kC cI oG dT eF jW aG kD T_uint lF aM kZ gB cS gO iG gE fY mY gN mZ fS dS hG jC lG gV iZ sZ jX cH T_p_int gX kE uY kF nA jD
def tab : TypeId → TyD
  | 0 => T_unit
  | 1 => T_func
  | 2 => T_int64
  | 3 => T_int
  | 4 => T_bool
  | 5 => T_uint8
  | 9 => bN
  | 20 => qG
  | 22 => aI
  | 23 => bG
  | 25 => T_api_Mem
  | 27 => bC
  | 29 => T_api_Reader
  | 32 => jS
  | 37 => bZ
  | 39 => pI
  | 40 => gD
  | 41 => oD
  | 43 => oE
  | 44 => dA
  | 45 => iX
  | 47 => jP
  | 52 => sY
  | 56 => kX
  | 60 => iY
  | 63 => jB
  | 65 => jZ
  | 67 => oF
  | 76 => mX
  | 78 => gT
  | 79 => jT
  | 80 => fN
  | 82 => dP
  | 84 => bL
  | 86 => kA
  | 89 => jU
  | 96 => bD
  | 97 => jV
  | 99 => kY
  | 102 => mM
  | 105 => iU
  | 106 => kB
  | 108 => lE
  | 110 => kC
  | 114 => cI
  | 118 => oG
  | 120 => dT
  | 126 => eF
  | 128 => jW
  | 133 => aG
  | 134 => kD
  | 136 => T_uint
  | 138 => lF
  | 144 => aM
  | 147 => kZ
  | 150 => gB
  | 153 => cS
  | 159 => gO
  | 162 => iG
  | 163 => gE
  | 164 => fY
  | 167 => mY
  | 175 => gN
  | 177 => mZ
  | 179 => fS
  | 180 => dS
  | 182 => hG
  | 183 => jC
  | 184 => lG
  | 187 => gV
  | 188 => iZ
  | 192 => sZ
  | 198 => jX
  | 200 => cH
  | 204 => T_p_int
  | 207 => gX
  | 211 => kE
  | 212 => uY
  | 217 => kF
  | 218 => nA
  | 221 => jD
  | _ => .other
theorem tab_ok : TabOk Tryz.prog tab := by
  intro T
  unfold tab
  split <;> kernel_rfl
theorem tab_sh (T : TypeId) : (tab T).shallow := by
  unfold tab
  split <;> (unfold TyD.shallow; decide)
theorem mixed : Tryz.prog.follows .mixedOrders = true := by kernel_rfl
def ctx (F : List (FuncId × aD)) (S : List (FuncId × Con)) (lp : Nat → LInfo) : Ctx := ⟨tab, lookF F, lookS S, fun _ _ _ _ _ => False, lp, false, fun _ _ _ _ => False⟩
def ctxI (F : List (FuncId × aD)) (S : List (FuncId × Con)) (Is : List (FuncId × (Con → Con))) (lp : Nat → LInfo) : Ctx := ⟨tab, lookF F, lookS S, lookI Is, lp, false, fun _ _ _ _ => False⟩
@[go_sem] theorem aJT (F : List (FuncId × aD)) (S : List (FuncId × Con)) (lp : Nat → LInfo) : (ctx F S lp).drawn = false := (rfl)
@[go_sem] theorem aGR (F : List (FuncId × aD)) (S : List (FuncId × Con)) (Is : List (FuncId × (Con → Con))) (lp : Nat → LInfo) : (ctxI F S Is lp).drawn = false := (rfl)
@[go_sem] theorem aJU (F : List (FuncId × aD)) (S : List (FuncId × Con)) (Is : List (FuncId × (Con → Con))) (lp : Nat → LInfo) : (ctxI F S Is lp).envF = lookF F := (rfl)
@[go_sem] theorem aJV (F : List (FuncId × aD)) (S : List (FuncId × Con)) (Is : List (FuncId × (Con → Con))) (lp : Nat → LInfo) : (ctxI F S Is lp).envS = lookS S := (rfl)
@[go_sem] theorem aGS (F : List (FuncId × aD)) (S : List (FuncId × Con)) (Is : List (FuncId × (Con → Con))) (lp : Nat → LInfo) : (ctxI F S Is lp).iterS = lookI Is := (rfl)
@[go_sem] theorem aCc (F : List (FuncId × aD)) (S : List (FuncId × Con)) (lp : Nat → LInfo) : (ctx F S lp).envF = lookF F := (rfl)
@[go_sem] theorem aMH (F : List (FuncId × aD)) (S : List (FuncId × Con)) (lp : Nat → LInfo) : (ctx F S lp).envS = lookS S := (rfl)
theorem ctx_ok {F : List (FuncId × aD)} {S : List (FuncId × Con)} (hF : ∀ p ∈ F, FSpec Tryz.prog p.1 p.2) (hS : ∀ p ∈ S, SSpec Tryz.prog p.1 p.2) (lp : Nat → LInfo) : Ok Tryz.prog (ctx F S lp) :=
  ⟨⟨⟨tab_ok, tab_sh, rB hF⟩, rC hS, rfl, mixed, is_none⟩, fun _ _ _ _ h => h⟩
theorem ctxI_ok {F : List (FuncId × aD)} {S : List (FuncId × Con)} {Is : List (FuncId × (Con → Con))} (hF : ∀ p ∈ F, FSpec Tryz.prog p.1 p.2) (hS : ∀ p ∈ S, SSpec Tryz.prog p.1 p.2) (hI : ∀ p ∈ Is, ISpec Tryz.prog p.1 p.2) (lp : Nat → LInfo) : Ok Tryz.prog (ctxI F S Is lp) :=
  ⟨⟨⟨tab_ok, tab_sh, rB hF⟩, rC hS, rfl, mixed, uL hI⟩, fun _ _ _ _ h => h⟩
end Lam
namespace Lam
open Go Go.Proofs
set_option linter.unusedVariables false
def fF.loops : Nat → LInfo
  | 1 => ⟨[], [], [], [(3, none), (2, some [11, 13])], [], []⟩
  | _ => ⟨[], [], [], [], [], []⟩
def fF.H (c : Ctx) (t0 : AV) (h : List AObj) (K : AOut → List AObj → Prop) : Prop :=
  runD (binD T_int .lss t0 (.int .i64 2)) h fun t10 h =>
  joinW (fun (J1 : AV → AV → List AObj → Prop) =>
  guardW t10 false
  (runD (binD T_int .gtr t0 (.int .i64 256)) h fun t13 h =>
    J1 (.bool false) t13 h)
  (J1 (.bool true) .und h))
  (fun t11 t13 h => runD (pickD t11 (.bool true) t13) h fun t14 h =>
  condW t14
  (K (.ret (.tup [(.sl true (.ints .i64 [])), (.int .i64 1)])) h)
  (callW false c (.fn (.func 56) [] []) [t0, (.int .i64 1)] h (fun t17 h =>
  runD (bH t17 0) h fun t18 h =>
  runD (bH t17 1) h fun t19 h =>
  runD (buildD bD []) h fun t21 h =>
  callW false c (.fn (.func 57) [] []) [t21] h (fun t22 h =>
  runD (bH t22 0) h fun t23 h =>
  runD (bH t22 1) h fun t24 h =>
  runD (binD T_int .mul (.int .i64 16) t0) h fun t26 h =>
  runD (gC aI t26 t26 h.length) h fun t27 h =>
  runM (copyH aI h t27 t18) h fun t30 h =>
  runD (sliceD aI h t27 (some (.int .i64 16)) none none) h fun t32 h =>
  runM (copyH aI h t32 t23) h fun t34 h =>
  K (.ret (.tup [t27, (.int .i64 0)])) h)
  (fun v h => K (.pan v) h))
  (fun v h => K (.pan v) h)))
def eM.loops : Nat → LInfo
  | _ => ⟨[], [], [], [], [], []⟩
def eM.H (c : Ctx) (t0 : AV) (t1 : AV) (h : List AObj) (K : AOut → List AObj → Prop) : Prop :=
  allocW dA h fun t5 h =>
  defX t5 fun dp =>
  callW false c (.fn (.func 75) [] []) [t0, t1] h (fun t9 h =>
  callW false c (.fn (.func 76) [] []) [t0, t9] h (fun t10 h =>
  runH (storeH dA h t5 (.int .i64 0)) h fun _ h =>
  loadRes (fitD dA (loadD h t5)) fun r1 => K (.ret (.tup [t10, r1])) h)
  (fun v h => toldW 128 110 v dp h fun h => loadRes (fitD dA (loadD h t5)) fun r1 => K (.ret (.tup [(.str []), r1])) h))
  (fun v h => toldW 128 110 v dp h fun h => loadRes (fitD dA (loadD h t5)) fun r1 => K (.ret (.tup [(.str []), r1])) h)
def cX.loops : Nat → LInfo
  | _ => ⟨[], [], [], [], [], []⟩
def cX.H (c : Ctx) (t0 : AV) (t1 : AV) (h : List AObj) (K : AOut → List AObj → Prop) : Prop :=
  allocW bD h fun t4 h =>
  callW false c (.fn (.func 46) [] []) [t0, t1] h (fun t10 h =>
  runD (bH t10 0) h fun t11 h =>
  runD (bH t10 1) h fun t12 h =>
  allocW bD h fun t5 h =>
  runH (storeH bD h t5 t11) h fun _ h =>
  runD (binD dA .eql t12 (.int .i64 0)) h fun t14 h =>
  callW false c (.fn (.func 77) [] []) [t14] h (fun t15 h =>
  runD (fitD bD (loadD h t5)) h fun t16 h =>
  runH (storeH bD h t4 t16) h fun _ h =>
  loadRes (fitD bD (loadD h t4)) fun r0 => K (.ret r0) h)
  (fun v h => K (.pan v) h))
  (fun v h => K (.pan v) h)
def dB.loops : Nat → LInfo
  | _ => ⟨[], [], [], [], [], []⟩
def dB.H (c : Ctx) (t0 : AV) (t1 : AV) (h : List AObj) (K : AOut → List AObj → Prop) : Prop :=
  boxW bD t1 h fun t3 h =>
  runD (aB bD t3 3) h fun t5 h =>
  runD (fitD T_int (loadD h t5)) h fun t6 h =>
  runD (binD T_int .eql t6 (.int .i64 0)) h fun t7 h =>
  condW t7
  (K (.ret (.str [])) h)
  (runD (aB bD t3 3) h fun t9 h =>
  runD (fitD T_int (loadD h t9)) h fun t10 h =>
  callW false c (.fn (.func 97) [] []) [t0, t10] h (fun t11 h =>
  K (.ret t11) h)
  (fun v h => K (.pan v) h))
def cC.loops : Nat → LInfo
  | _ => ⟨[], [], [], [], [], []⟩
def cC.H (c : Ctx) (t0 : AV) (h : List AObj) (K : AOut → List AObj → Prop) : Prop :=
  runD (unD .not t0) h fun t3 h =>
  joinW (fun (J1 : List AObj → Prop) =>
  condW t3
  (runD (buildD jW []) h fun t4 h =>
    K (.pan (.iface 128 t4)) h)
  (J1 h))
  (fun h => K (.ret (.tup [])) h)
def dC.loops : Nat → LInfo
  | _ => ⟨[], [], [], [], [], []⟩
def dC.H (c : Ctx) (t0 : AV) (t1 : AV) (h : List AObj) (K : AOut → List AObj → Prop) : Prop :=
  callW false c (.fn (.func 79) [] []) [t0, t1] h (fun t10 h =>
  runD (bH t10 0) h fun t11 h =>
  runD (bH t10 1) h fun t12 h =>
  allocW aG h fun t5 h =>
  runH (storeH aG h t5 t11) h fun _ h =>
  runD (binD dA .eql t12 (.int .i64 0)) h fun t14 h =>
  callW false c (.fn (.func 77) [] []) [t14] h (fun t15 h =>
  runD (aB aG t5 1) h fun t16 h =>
  runD (fitD bN (loadD h t16)) h fun t17 h =>
  K (.ret t17) h)
  (fun v h => K (.pan v) h))
  (fun v h => K (.pan v) h)
theorem fF.eq (F : List (FuncId × aD)) (S : List (FuncId × Con)) (t0 : AV) (h : List AObj) (K : AOut → List AObj → Prop) : funW (ctx F S fF.loops) Tryz.f32 [t0] h K = fF.H (ctx F S fF.loops) t0 h K := by kernel_rfl
theorem eM.eq (F : List (FuncId × aD)) (S : List (FuncId × Con)) (t0 t1 : AV) (h : List AObj) (K : AOut → List AObj → Prop) : funDW (ctx F S eM.loops) Tryz.f47 44 128 110 [t0, t1] h K = eM.H (ctx F S eM.loops) t0 t1 h K := by kernel_rfl
theorem cX.eq (F : List (FuncId × aD)) (S : List (FuncId × Con)) (t0 t1 : AV) (h : List AObj) (K : AOut → List AObj → Prop) : funW (ctx F S cX.loops) Tryz.f75 [t0, t1] h K = cX.H (ctx F S cX.loops) t0 t1 h K := by kernel_rfl
theorem dB.eq (F : List (FuncId × aD)) (S : List (FuncId × Con)) (t0 t1 : AV) (h : List AObj) (K : AOut → List AObj → Prop) : funW (ctx F S dB.loops) Tryz.f76 [t0, t1] h K = dB.H (ctx F S dB.loops) t0 t1 h K := by kernel_rfl
theorem cC.eq (F : List (FuncId × aD)) (S : List (FuncId × Con)) (t0 : AV) (h : List AObj) (K : AOut → List AObj → Prop) : funW (ctx F S cC.loops) Tryz.f77 [t0] h K = cC.H (ctx F S cC.loops) t0 h K := by kernel_rfl
theorem dC.eq (F : List (FuncId × aD)) (S : List (FuncId × Con)) (t0 t1 : AV) (h : List AObj) (K : AOut → List AObj → Prop) : funW (ctx F S dC.loops) Tryz.f97 [t0, t1] h K = dC.H (ctx F S dC.loops) t0 t1 h K := by kernel_rfl
theorem fF.at : Tryz.prog.funcs[32]? = some Tryz.f32 := by kernel_rfl
theorem fF.nm : (Tryz.f32.name == "runtime.NumGoroutine") = false := by kernel_rfl
theorem fF.bd : Tryz.f32.body.isNone = false := by kernel_rfl
theorem eM.at : Tryz.prog.funcs[47]? = some Tryz.f47 := by kernel_rfl
theorem eM.nm : (Tryz.f47.name == "runtime.NumGoroutine") = false := by kernel_rfl
theorem eM.bd : Tryz.f47.body.isNone = false := by kernel_rfl
theorem cX.at : Tryz.prog.funcs[75]? = some Tryz.f75 := by kernel_rfl
theorem cX.nm : (Tryz.f75.name == "runtime.NumGoroutine") = false := by kernel_rfl
theorem cX.bd : Tryz.f75.body.isNone = false := by kernel_rfl
theorem dB.at : Tryz.prog.funcs[76]? = some Tryz.f76 := by kernel_rfl
theorem dB.nm : (Tryz.f76.name == "runtime.NumGoroutine") = false := by kernel_rfl
theorem dB.bd : Tryz.f76.body.isNone = false := by kernel_rfl
theorem cC.at : Tryz.prog.funcs[77]? = some Tryz.f77 := by kernel_rfl
theorem cC.nm : (Tryz.f77.name == "runtime.NumGoroutine") = false := by kernel_rfl
theorem cC.bd : Tryz.f77.body.isNone = false := by kernel_rfl
theorem dC.at : Tryz.prog.funcs[97]? = some Tryz.f97 := by kernel_rfl
theorem dC.nm : (Tryz.f97.name == "runtime.NumGoroutine") = false := by kernel_rfl
theorem dC.bd : Tryz.f97.body.isNone = false := by kernel_rfl
end Lam
namespace Lam
open Go Go.Proofs
set_option linter.unusedVariables false
set_option linter.unnecessarySimpa false
set_option linter.unusedSimpArgs false
theorem gR.at : Tryz.prog.funcs[44]? = some Tryz.f44 := by kernel_rfl
theorem gR.nm : (Tryz.f44.name == "runtime.NumGoroutine") = false := by kernel_rfl
theorem gR.bd : Tryz.f44.body.isNone = false := by kernel_rfl
theorem told_if : Tryz.prog.underlying 20 = some (.interface (Tryz.prog.methodsAt 20)) := by kernel_rfl
theorem aCd (q : Value) (w : World) : ∃ c, Tryz.f44.body = some c ∧ ∀ (Q : Exit → Act → List Frame → World → Prop) (c₀ : Frame) (cs : List Frame), c₀.mode = .returning → (∀ a', a'.defers = [] → Q .normal a' (c₀ :: cs) w) →
      c.wpS Tryz.prog Q { tmps := #[q] ++ Array.replicate 12 undef, defers := [] } (c₀ :: cs) w := by
  delta Tryz.f44
  refine ⟨_, rfl, fun Q c₀ cs hu hQ => wpS_seq (wpS_region ?_)⟩
  simp [wpOpsS, Region.wanted, execOp, resolve, invoke, builtin, recoverD, hu, Exit.thenS, Act.put]
  refine wpS_of_wp (wp_block (wp_seq (wp_region ?_)))
  simp [wpOps, Region.wanted, Oper.wp, Oper.upon, execOp, Act.eval, Act.put, eqGuard, binOp, run_equal_nil_nil w 20 told_if]
  refine .inl (wp_cond_true (by simp [Act.eval]) (wp_region ?_))
  simp [wpOps, Region.wanted, Oper.wp, Oper.upon, execOp, Act.eval, Act.put, Exit.inBlock]
  exact .inl (hQ _ rfl)
def toldP : Code → Nat × Array Oper × Nat × Array Oper
  | .seq _ (.block _ (.seq _ (.cond _ _ (.seq _ (.cond _ (.seq (.region i a _) (.region j b _)) _))))) => (i, a, j, b)
  | _ => (0, #[], 0, #[])
def toldA (c : Code) : List Oper := (toldP c).2.1.toList
def toldB (c : Code) : List Oper := (toldP c).2.2.2.toList
abbrev mC : Ctx := ctx [] [] cC.loops
theorem told_ok : Ok Tryz.prog mC := ctx_ok (by simp) (by simp) _
set_option maxRecDepth 20000 in
theorem aCe (q : Value) : ∃ c, Tryz.f44.body = some c ∧ (toldA c).all (fun o => match o.dst with | none => true | some d => Nat.blt d 13) = true ∧ (toldB c).all (fun o => match o.dst with | none => true | some d => Nat.blt d 13) = true ∧
      (∀ (h : List AObj) (id : Nat) (n : Int) (KP : List (Nat × AV) → AV → List AObj → Prop), h[id]? = some (.box (.int .i64 n)) → opsW mC [] (toldA c) KP (fun t h' => opsW mC [] (toldB c) KP (fun _ h' => h' = (h ++ [AObj.box (.agg [])]).set id (AObj.box (.int .i64 110))) (toldB c) [] t h') (toldA c) [] [(0, .ptr id []), (10, .agg [])] h) ∧
      ∀ (u : Value) (w : World) (Q : Exit → Act → List Frame → World → Prop) (c₀ : Frame) (cs : List Frame), c₀.mode = .panicking [{ v := .iface 128 u, recovered := false }] →
      (∀ a : Act, a.defers = [] → a.tmps.size = 13 → a.tmps.getD 0 undef = q → a.tmps.getD 10 undef = u →
        (Code.seq (.region (toldP c).1 (toldP c).2.1 false) (.region (toldP c).2.2.1 (toldP c).2.2.2 false)).wpIn (FW none) 0 Tryz.prog (Exit.inBlock 0 fun e a' w' => Q e a' ({ c₀ with mode := .panicking [{ v := .iface 128 u, recovered := true }] } :: cs) w') a w) →
      c.wpS Tryz.prog Q { tmps := #[q] ++ Array.replicate 12 undef, defers := [] } (c₀ :: cs) w := by
  delta Tryz.f44
  refine ⟨_, rfl, by decide, by decide, ?_, fun u w Q c₀ cs hu hQ => wpS_seq (wpS_region ?_)⟩
  · intro h id n KP hid
    have hlt := (List.getElem?_eq_some_iff.1 hid).1
    have e1 : (h ++ [AObj.box (.agg [])])[h.length]? = some (.box (.agg [])) := by simp
    have e2 : ∀ o, ((h ++ [AObj.box (.agg [])]).set h.length o)[id]? = some (.box (.int .i64 n)) := fun o => by
      rw [List.getElem?_set, if_neg (by omega), List.getElem?_append_left hlt]; exact hid
    show allocW (.strct []) h fun t3 h1 => runH (storeH (.strct []) h1 t3 (.agg [])) h1 fun _ h => runD (aY (.ptr id [])) h fun t12 h => runH (storeH (.int .i64) h t12 (.int .i64 110)) h fun _ h' => h' = _
    simp only [e1, e2, go_sem, Nat.reduceEqDiff, Nat.reduceLT, Nat.reduceAdd, Nat.reduceSub, Nat.reduceLeDiff, List.reduceReplicate, Int.reduceToNat]
    have e3 : (h ++ [AObj.box (.agg [])]).set h.length (AObj.box (.agg [])) = h ++ [AObj.box (.agg [])] := by simp
    rw [e3]
  · simp [wpOpsS, Region.wanted, execOp, resolve, invoke, builtin, recoverD, hu, Exit.thenS, Act.put]
    refine wpS_of_wp (wp_block (wp_seq (wp_region ?_)))
    simp [wpOps, Region.wanted, Oper.wp, Oper.upon, execOp, Act.eval, Act.put, eqGuard, binOp, run_equal_held_nil w 20 128 u told_if]
    refine .inl (wp_cond_false (by simp [Act.eval]) (wp_seq (wp_region ?_)))
    have hta : (Instr.typeAssert (.iface 128 u) 20 128 true).run Tryz.prog w = .ok (.tuple #[u, .bool true]) w := by
      have h0 : Tryz.prog.underlying 128 = some (.struct #[]) := by kernel_rfl
      simp [Instr.typeAssert, underlying, h0]
    have hr3 : List.range 3 = [0, 1, 2] := rfl
    simp [hr3, wpOps, Region.wanted, Oper.wp, Oper.upon, execOp, Act.eval, Act.put, hta, Instr.extract]
    refine .inl (.inl (.inl (wp_cond_true (by simp [Act.eval]) (wpIn_wide.1 (hQ { tmps := _, defers := [] } rfl ?_ ?_ ?_))))) <;> simp
theorem gR.tspec : TSpec Tryz.prog 44 128 110 := by
  refine ⟨kL gR.at gR.nm gR.bd, fun q w => ?_, fun X id q z n H hq hz hbox => ?_⟩
  · obtain ⟨c, hb, h⟩ := aCd q w
    refine mL gR.at hb fun c₀ cs hu => h _ c₀ cs hu fun a' hd => ?_
    refine ⟨hd, .returning, ?_, .tuple #[], ?_, ⟨_, rfl⟩, rfl, rfl⟩
    · rw [← hu]
    · have : Tryz.f44.results = #[] := by kernel_rfl
      rw [lQ, this, Array.mapM_eq_mapM_toList]; rfl
  · simp only [VV] at hz
    obtain ⟨u, rfl, hu⟩ := hz
    obtain ⟨c, hb, hd1, hd2, hW, h⟩ := aCe q
    refine mL gR.at hb fun c₀ cs hc => h u X.w _ c₀ cs hc fun a had hs h0 h10 => wpIn_seq (wpIn_region_list ?_)
    have R : SR 13 ⟨X.w.heap.size, []⟩ X [(0, .ptr id []), (10, .agg [])] a := by
      refine ⟨fun i => ?_, Nat.le_of_eq hs.symm, [], had, trivial⟩
      simp only [get]
      split
      · rename_i e; obtain rfl := Nat.eq_of_beq_eq_true e; rw [h0]; exact hq
      · split
        · rename_i e; obtain rfl := Nat.eq_of_beq_eq_true e; rw [h10]; exact hu
        · trivial
    have dst : ∀ {l : List Oper}, (l.all fun o => match o.dst with | none => true | some d => Nat.blt d 13) = true → ∀ o ∈ l, ∀ i, o.dst = some i → i < 13 := by
      intro l hl o ho i hi
      rw [List.all_eq_true] at hl
      have := hl o ho
      rw [hi] at this
      simpa using this
    have hw := hW X.h id n (fun _ _ _ => False) hbox
    have := iF (ro := none) (n := 13) (ds := ⟨X.w.heap.size, []⟩) (rest := []) (c := mC) told_ok.ok told_ok.s told_ok.plain (B := X) (fun l => nM (told_ok.y l)) 0 (toldP c).2.1 (toldA c) [] _ X a (dst hd1) (Kn.nil _) (Ext.refl X) H R hw
      (Q := Exit.then ((Code.region (toldP c).2.2.1 (toldP c).2.2.2 false).wpIn (FW none) 0 Tryz.prog (Exit.inBlock 0 fun e a' w' => bodyPostS Tryz.prog Tryz.f44 c₀ cs (fun e u' w' => (∃ v, e = .returned v) ∧ u' = .panicking [{ v := .iface 128 u, recovered := true }] ∧
      ∃ Y : Cx, Y.w = w' ∧ HR Y ∧ Ext X Y ∧ Y.h = (X.h ++ [AObj.box (.agg [])]).set id (AObj.box (.int .i64 110))) e a' ({ c₀ with mode := .panicking [{ v := .iface 128 u, recovered := true }] } :: cs) w')) (Exit.inBlock 0 fun e a' w' => bodyPostS Tryz.prog Tryz.f44 c₀ cs (fun e u' w' => (∃ v, e = .returned v) ∧ u' = .panicking [{ v := .iface 128 u, recovered := true }] ∧
      ∃ Y : Cx, Y.w = w' ∧ HR Y ∧ Ext X Y ∧ Y.h = (X.h ++ [AObj.box (.agg [])]).set id (AObj.box (.int .i64 110))) e a' ({ c₀ with mode := .panicking [{ v := .iface 128 u, recovered := true }] } :: cs) w')) ?_ (fun Y t' v q a' HY EY RY hf hv => hf.elim)
    · rw [List.append_nil] at this; exact this
    intro Y t' a' HY EY RY hs hk
    refine wpIn_region_list (F := FW none) (n := 0) (id := (toldP c).2.2.1) ?_
    have := iF (ro := none) (n := 13) (ds := ⟨X.w.heap.size, []⟩) (rest := []) (c := mC) told_ok.ok told_ok.s told_ok.plain (B := Y) (fun l => nM (told_ok.y l)) 0 (toldP c).2.2.2 (toldB c) [] _ Y a' (dst hd2) (Kn.nil _) (Ext.refl Y) HY RY hk
      (Q := Exit.inBlock 0 fun e a' w' => bodyPostS Tryz.prog Tryz.f44 c₀ cs (fun e u' w' => (∃ v, e = .returned v) ∧ u' = .panicking [{ v := .iface 128 u, recovered := true }] ∧
      ∃ Y : Cx, Y.w = w' ∧ HR Y ∧ Ext X Y ∧ Y.h = (X.h ++ [AObj.box (.agg [])]).set id (AObj.box (.int .i64 110))) e a' ({ c₀ with mode := .panicking [{ v := .iface 128 u, recovered := true }] } :: cs) w') ?_ (fun Y t' v q a' HY EY RY hf hv => hf.elim)
    · rw [List.append_nil] at this; exact this
    intro Z t'' a'' HZ EZ RZ hs2 hk2
    refine ⟨by rw [hs2.2, hs.2, had], _, rfl, .tuple #[], ?_, ⟨_, rfl⟩, rfl, Z, rfl, HZ, EY.trans EZ, hk2⟩
    have : Tryz.f44.results = #[] := by kernel_rfl
    rw [lQ, this, Array.mapM_eq_mapM_toList]; rfl
end Lam
namespace Lam
open Go Go.Proofs
set_option linter.unusedVariables false
def aT.loops : Nat → LInfo
  | _ => ⟨[], [], [], [], [], []⟩
def aT.H (c : Ctx) (t0 : AV) (h : List AObj) (K : AOut → List AObj → Prop) : Prop :=
  nilEqO (AV.len aI h t0) h fun t4 h =>
  condW t4
  (K (.ret (.sl true (.ints .i64 []))) h)
  (runD (fB aI 0 [] h.length) h fun t5 h =>
  runDM (appendD aI h t5 t0 h.length) (appendH aI h t5 t0) h fun t7 h =>
  K (.ret t7) h)
def bI.loops : Nat → LInfo
  | 4 => ⟨[13], [false], [0, 1, 12], [], [], []⟩
  | _ => ⟨[], [], [], [], [], []⟩
def bI.L1 (c : Ctx) (J1 : List AObj → Prop) (K : AOut → List AObj → Prop) (lv : List AV) (h0 : List AObj) (n0 : Nat) (c0 : AV) (c1 : AV) (c12 : AV) : Prop :=
  ∃ I : Nat → List AV → List AObj → Prop, (∃ n, I n lv h0) ∧ ∀ n h, ∀ t13, I n [t13] h →
    runD (binD T_int .lss t13 c12) h fun t14 h =>
    condW t14
    (runD (aF aI h c0 t13) h fun t18 h =>
    runD (fitD T_int (loadD h t18)) h fun t19 h =>
    runD (aF aI h c1 t13) h fun t22 h =>
    runD (fitD T_int (loadD h t22)) h fun t23 h =>
    runD (binD T_int .neq t19 t23) h fun t24 h =>
    condW t24
    (K (.ret (.bool false)) h)
    (runD (binD T_int .add t13 (.int .i64 1)) h fun t25 h =>
    (∃ m, m < n ∧ I m (AV.norms n0 h [t25]) (normH n0 h)) ∧ AV.norms n0 h [c0, c1, c12] = [c0, c1, c12]))
    (J1 h)
def bI.H (c : Ctx) (t0 : AV) (t1 : AV) (h : List AObj) (K : AOut → List AObj → Prop) : Prop :=
  runD (lenD aI h t0) h fun t7 h =>
  runD (lenD aI h t1) h fun t9 h =>
  runD (binD T_int .neq t7 t9) h fun t10 h =>
  condW t10
  (K (.ret (.bool false)) h)
  (runD (lenD aI h t0) h fun t12 h =>
  joinW (fun (J1 : List AObj → Prop) =>
  promV [false] [(.int .i64 0)] h fun lv h => bI.L1 c J1 K (AV.norms h.length h lv) (normH h.length h) h.length (AV.norm h.length h t0) (AV.norm h.length h t1) (AV.norm h.length h t12))
  (fun h => K (.ret (.bool true)) h))
def aN.loops : Nat → LInfo
  | 2 => ⟨[8], [false], [0, 1, 7], [], [], []⟩
  | _ => ⟨[], [], [], [], [], []⟩
def aN.L1 (c : Ctx) (J1 : List AObj → Prop) (K : AOut → List AObj → Prop) (lv : List AV) (h0 : List AObj) (n0 : Nat) (c0 : AV) (c1 : AV) (c7 : AV) : Prop :=
  ∃ I : Nat → List AV → List AObj → Prop, (∃ n, I n lv h0) ∧ ∀ n h, ∀ t8, I n [t8] h →
    runD (binD T_int .lss t8 c7) h fun t9 h =>
    condW t9
    (runD (aF aM h c0 t8) h fun t14 h =>
    runD (fitD aG (loadD h t14)) h fun t15 h =>
    callW false c c1 [t15] h (fun t16 h =>
    condW t16
    (K (.ret t8) h)
    (runD (binD T_int .add t8 (.int .i64 1)) h fun t18 h =>
    (∃ m, m < n ∧ I m (AV.norms n0 h [t18]) (normH n0 h)) ∧ AV.norms n0 h [c0, c1, c7] = [c0, c1, c7]))
    (fun v h => K (.pan v) h))
    (J1 h)
def aN.H (c : Ctx) (t0 : AV) (t1 : AV) (h : List AObj) (K : AOut → List AObj → Prop) : Prop :=
  runD (lenD aM h t0) h fun t7 h =>
  joinW (fun (J1 : List AObj → Prop) =>
  promV [false] [(.int .i64 0)] h fun lv h => aN.L1 c J1 K (AV.norms h.length h lv) (normH h.length h) h.length (AV.norm h.length h t0) (AV.norm h.length h t1) (AV.norm h.length h t7))
  (fun h => K (.ret (.int .i64 (-1))) h)
def bB.loops : Nat → LInfo
  | 2 => ⟨[8], [false], [0, 1, 7], [], [], []⟩
  | _ => ⟨[], [], [], [], [], []⟩
def bB.L1 (c : Ctx) (J1 : List AObj → Prop) (K : AOut → List AObj → Prop) (lv : List AV) (h0 : List AObj) (n0 : Nat) (c0 : AV) (c1 : AV) (c7 : AV) : Prop :=
  ∃ I : Nat → List AV → List AObj → Prop, (∃ n, I n lv h0) ∧ ∀ n h, ∀ t8, I n [t8] h →
    runD (binD T_int .lss t8 c7) h fun t9 h =>
    condW t9
    (runD (aF aI h c0 t8) h fun t14 h =>
    runD (fitD T_int (loadD h t14)) h fun t15 h =>
    callW false c c1 [t15] h (fun t16 h =>
    condW t16
    (K (.ret t8) h)
    (runD (binD T_int .add t8 (.int .i64 1)) h fun t18 h =>
    (∃ m, m < n ∧ I m (AV.norms n0 h [t18]) (normH n0 h)) ∧ AV.norms n0 h [c0, c1, c7] = [c0, c1, c7]))
    (fun v h => K (.pan v) h))
    (J1 h)
def bB.H (c : Ctx) (t0 : AV) (t1 : AV) (h : List AObj) (K : AOut → List AObj → Prop) : Prop :=
  runD (lenD aI h t0) h fun t7 h =>
  joinW (fun (J1 : List AObj → Prop) =>
  promV [false] [(.int .i64 0)] h fun lv h => bB.L1 c J1 K (AV.norms h.length h lv) (normH h.length h) h.length (AV.norm h.length h t0) (AV.norm h.length h t1) (AV.norm h.length h t7))
  (fun h => K (.ret (.int .i64 (-1))) h)
def bJ.loops : Nat → LInfo
  | _ => ⟨[], [], [], [], [], []⟩
def bJ.H (c : Ctx) (t0 : AV) (t1 : AV) (h : List AObj) (K : AOut → List AObj → Prop) : Prop :=
  callW false c (.fn (.func 102) [] []) [t0, t1] h (fun t7 h =>
  runD (binD T_int .geq t7 (.int .i64 0)) h fun t8 h =>
  K (.ret t8) h)
  (fun v h => K (.pan v) h)
def aL.loops : Nat → LInfo
  | _ => ⟨[], [], [], [], [], []⟩
def aL.H (c : Ctx) (t0 : AV) (t1 : AV) (h : List AObj) (K : AOut → List AObj → Prop) : Prop :=
  callW false c (.fn (.func 147) [] []) [t0, t1] h (fun t7 h =>
  runD (binD T_int .geq t7 (.int .i64 0)) h fun t8 h =>
  K (.ret t8) h)
  (fun v h => K (.pan v) h)
def aJ.loops : Nat → LInfo
  | 2 => ⟨[8], [false], [0, 1, 7], [], [], []⟩
  | _ => ⟨[], [], [], [], [], []⟩
def aJ.L1 (c : Ctx) (J1 : List AObj → Prop) (K : AOut → List AObj → Prop) (lv : List AV) (h0 : List AObj) (n0 : Nat) (c0 : AV) (c1 : AV) (c7 : AV) : Prop :=
  ∃ I : Nat → List AV → List AObj → Prop, (∃ n, I n lv h0) ∧ ∀ n h, ∀ t8, I n [t8] h →
    runD (binD T_int .lss t8 c7) h fun t9 h =>
    condW t9
    (runD (aF gB h c0 t8) h fun t14 h =>
    runD (fitD eF (loadD h t14)) h fun t15 h =>
    callW false c c1 [t15] h (fun t16 h =>
    condW t16
    (K (.ret t8) h)
    (runD (binD T_int .add t8 (.int .i64 1)) h fun t18 h =>
    (∃ m, m < n ∧ I m (AV.norms n0 h [t18]) (normH n0 h)) ∧ AV.norms n0 h [c0, c1, c7] = [c0, c1, c7]))
    (fun v h => K (.pan v) h))
    (J1 h)
def aJ.H (c : Ctx) (t0 : AV) (t1 : AV) (h : List AObj) (K : AOut → List AObj → Prop) : Prop :=
  runD (lenD gB h t0) h fun t7 h =>
  joinW (fun (J1 : List AObj → Prop) =>
  promV [false] [(.int .i64 0)] h fun lv h => aJ.L1 c J1 K (AV.norms h.length h lv) (normH h.length h) h.length (AV.norm h.length h t0) (AV.norm h.length h t1) (AV.norm h.length h t7))
  (fun h => K (.ret (.int .i64 (-1))) h)
def aW.loops : Nat → LInfo
  | _ => ⟨[], [], [], [], [], []⟩
def aW.H (c : Ctx) (t0 : AV) (h : List AObj) (K : AOut → List AObj → Prop) : Prop :=
  runD (lenD bG h t0) h fun t5 h =>
  runD (lenD bG h t0) h fun t7 h =>
  runD (sliceD bG h t0 none (some t5) (some t7)) h fun t8 h =>
  K (.ret t8) h
def aV.loops : Nat → LInfo
  | _ => ⟨[], [], [], [], [], []⟩
def aV.H (c : Ctx) (t0 : AV) (h : List AObj) (K : AOut → List AObj → Prop) : Prop :=
  nilEqO (AV.len bG h t0) h fun t4 h =>
  condW t4
  (K (.ret (.sl true (.pends []))) h)
  (runD (fB bG 0 [] h.length) h fun t5 h =>
  runDM (appendD bG h t5 t0 h.length) (appendH bG h t5 t0) h fun t7 h =>
  K (.ret t7) h)
theorem aT.eq (F : List (FuncId × aD)) (S : List (FuncId × Con)) (t0 : AV) (h : List AObj) (K : AOut → List AObj → Prop) : funW (ctx F S aT.loops) Tryz.f34 [t0] h K = aT.H (ctx F S aT.loops) t0 h K := by kernel_rfl
theorem bI.eq (F : List (FuncId × aD)) (S : List (FuncId × Con)) (t0 t1 : AV) (h : List AObj) (K : AOut → List AObj → Prop) : funW (ctx F S bI.loops) Tryz.f35 [t0, t1] h K = bI.H (ctx F S bI.loops) t0 t1 h K := by kernel_rfl
theorem aN.eq (F : List (FuncId × aD)) (S : List (FuncId × Con)) (t0 t1 : AV) (h : List AObj) (K : AOut → List AObj → Prop) : funW (ctx F S aN.loops) Tryz.f90 [t0, t1] h K = aN.H (ctx F S aN.loops) t0 t1 h K := by kernel_rfl
theorem bB.eq (F : List (FuncId × aD)) (S : List (FuncId × Con)) (t0 t1 : AV) (h : List AObj) (K : AOut → List AObj → Prop) : funW (ctx F S bB.loops) Tryz.f102 [t0, t1] h K = bB.H (ctx F S bB.loops) t0 t1 h K := by kernel_rfl
theorem bJ.eq (F : List (FuncId × aD)) (S : List (FuncId × Con)) (t0 t1 : AV) (h : List AObj) (K : AOut → List AObj → Prop) : funW (ctx F S bJ.loops) Tryz.f106 [t0, t1] h K = bJ.H (ctx F S bJ.loops) t0 t1 h K := by kernel_rfl
theorem aL.eq (F : List (FuncId × aD)) (S : List (FuncId × Con)) (t0 t1 : AV) (h : List AObj) (K : AOut → List AObj → Prop) : funW (ctx F S aL.loops) Tryz.f136 [t0, t1] h K = aL.H (ctx F S aL.loops) t0 t1 h K := by kernel_rfl
theorem aJ.eq (F : List (FuncId × aD)) (S : List (FuncId × Con)) (t0 t1 : AV) (h : List AObj) (K : AOut → List AObj → Prop) : funW (ctx F S aJ.loops) Tryz.f147 [t0, t1] h K = aJ.H (ctx F S aJ.loops) t0 t1 h K := by kernel_rfl
theorem aW.eq (F : List (FuncId × aD)) (S : List (FuncId × Con)) (t0 : AV) (h : List AObj) (K : AOut → List AObj → Prop) : funW (ctx F S aW.loops) Tryz.f153 [t0] h K = aW.H (ctx F S aW.loops) t0 h K := by kernel_rfl
theorem aV.eq (F : List (FuncId × aD)) (S : List (FuncId × Con)) (t0 : AV) (h : List AObj) (K : AOut → List AObj → Prop) : funW (ctx F S aV.loops) Tryz.f155 [t0] h K = aV.H (ctx F S aV.loops) t0 h K := by kernel_rfl
theorem aT.at : Tryz.prog.funcs[34]? = some Tryz.f34 := by kernel_rfl
theorem aT.nm : (Tryz.f34.name == "runtime.NumGoroutine") = false := by kernel_rfl
theorem aT.bd : Tryz.f34.body.isNone = false := by kernel_rfl
theorem bI.at : Tryz.prog.funcs[35]? = some Tryz.f35 := by kernel_rfl
theorem bI.nm : (Tryz.f35.name == "runtime.NumGoroutine") = false := by kernel_rfl
theorem bI.bd : Tryz.f35.body.isNone = false := by kernel_rfl
theorem aN.at : Tryz.prog.funcs[90]? = some Tryz.f90 := by kernel_rfl
theorem aN.nm : (Tryz.f90.name == "runtime.NumGoroutine") = false := by kernel_rfl
theorem aN.bd : Tryz.f90.body.isNone = false := by kernel_rfl
theorem bB.at : Tryz.prog.funcs[102]? = some Tryz.f102 := by kernel_rfl
theorem bB.nm : (Tryz.f102.name == "runtime.NumGoroutine") = false := by kernel_rfl
theorem bB.bd : Tryz.f102.body.isNone = false := by kernel_rfl
theorem bJ.at : Tryz.prog.funcs[106]? = some Tryz.f106 := by kernel_rfl
theorem bJ.nm : (Tryz.f106.name == "runtime.NumGoroutine") = false := by kernel_rfl
theorem bJ.bd : Tryz.f106.body.isNone = false := by kernel_rfl
theorem aL.at : Tryz.prog.funcs[136]? = some Tryz.f136 := by kernel_rfl
theorem aL.nm : (Tryz.f136.name == "runtime.NumGoroutine") = false := by kernel_rfl
theorem aL.bd : Tryz.f136.body.isNone = false := by kernel_rfl
theorem aJ.at : Tryz.prog.funcs[147]? = some Tryz.f147 := by kernel_rfl
theorem aJ.nm : (Tryz.f147.name == "runtime.NumGoroutine") = false := by kernel_rfl
theorem aJ.bd : Tryz.f147.body.isNone = false := by kernel_rfl
theorem aW.at : Tryz.prog.funcs[153]? = some Tryz.f153 := by kernel_rfl
theorem aW.nm : (Tryz.f153.name == "runtime.NumGoroutine") = false := by kernel_rfl
theorem aW.bd : Tryz.f153.body.isNone = false := by kernel_rfl
theorem aV.at : Tryz.prog.funcs[155]? = some Tryz.f155 := by kernel_rfl
theorem aV.nm : (Tryz.f155.name == "runtime.NumGoroutine") = false := by kernel_rfl
theorem aV.bd : Tryz.f155.body.isNone = false := by kernel_rfl
end Lam
namespace Lam
open Go Go.Proofs
set_option linter.unusedVariables false
def eV.loops : Nat → LInfo
  | 1 => ⟨[], [], [], [(4, none), (2, some [8, 10]), (2, none), (2, some [12, 14])], [], []⟩
  | _ => ⟨[], [], [], [], [], []⟩
def eV.H (c : Ctx) (t0 : AV) (t1 : AV) (h : List AObj) (K : AOut → List AObj → Prop) : Prop :=
  callW false c (.fn (.func 94) [] []) [t0] h (fun t6 h =>
  runD (unD .not t6) h fun t7 h =>
  joinW (fun (J1 : AV → AV → List AObj → Prop) =>
  guardW t7 false
  (runD (binD T_int .lss t1 (.int .i64 0)) h fun t10 h =>
    J1 (.bool false) t10 h)
  (J1 (.bool true) .und h))
  (fun t8 t10 h => runD (pickD t8 (.bool true) t10) h fun t11 h =>
  joinW (fun (J2 : AV → AV → List AObj → Prop) =>
  guardW t11 false
  (runD (binD T_int .geq t1 (.int .i64 13)) h fun t14 h =>
    J2 (.bool false) t14 h)
  (J2 (.bool true) .und h))
  (fun t12 t14 h => runD (pickD t12 (.bool true) t14) h fun t15 h =>
  condW t15
  (K (.ret (.int .i64 (-1))) h)
  (runD (binD T_int .add t0 (.int .i64 3)) h fun t17 h =>
  runD (binD T_int .add t17 t1) h fun t19 h =>
  K (.ret t19) h))))
  (fun v h => K (.pan v) h)
def eW.loops : Nat → LInfo
  | 1 => ⟨[], [], [], [(4, none), (5, some [10, 15])], [], []⟩
  | _ => ⟨[], [], [], [], [], []⟩
def eW.H (c : Ctx) (t0 : AV) (t1 : AV) (h : List AObj) (K : AOut → List AObj → Prop) : Prop :=
  callW false c (.fn (.func 94) [] []) [t1] h (fun t8 h =>
  runD (unD .not t8) h fun t9 h =>
  joinW (fun (J1 : AV → AV → List AObj → Prop) =>
  guardW t9 false
  (runD (binD T_int .add t1 (.int .i64 16)) h fun t12 h =>
    runD (lenD aI h t0) h fun t14 h =>
    runD (binD T_int .gtr t12 t14) h fun t15 h =>
    J1 (.bool false) t15 h)
  (J1 (.bool true) .und h))
  (fun t10 t15 h => runD (pickD t10 (.bool true) t15) h fun t16 h =>
  condW t16
  (K (.ret (.sl true (.ints .i64 []))) h)
  (runD (binD T_int .add t1 (.int .i64 3)) h fun t19 h =>
  runD (binD T_int .add t1 (.int .i64 16)) h fun t21 h =>
  runD (binD T_int .add t1 (.int .i64 16)) h fun t23 h =>
  runD (sliceD aI h t0 (some t19) (some t21) (some t23)) h fun t24 h =>
  callW false c (.fn (.func 102) [] []) [t24, (.fn (.func 103) [] [])] h (fun t26 h =>
  runD (binD T_int .lss t26 (.int .i64 0)) h fun t28 h =>
  joinW (fun (J2 : AV → List AObj → Prop) =>
  condW t28
  (runD (lenD aI h t24) h fun t30 h =>
    J2 t30 h)
  (J2 t26 h))
  (fun t6 h => runD (sliceD aI h t24 none (some t6) none) h fun t33 h =>
  callW false c (.fn (.func 34) [] []) [t33] h (fun t34 h =>
  K (.ret t34) h)
  (fun v h => K (.pan v) h)))
  (fun v h => K (.pan v) h))))
  (fun v h => K (.pan v) h)
def eS.loops : Nat → LInfo
  | 1 => ⟨[], [], [], [(3, none), (3, some [5, 8]), (2, none), (3, some [10, 13])], [], []⟩
  | _ => ⟨[], [], [], [], [], []⟩
def eS.H (c : Ctx) (t0 : AV) (h : List AObj) (K : AOut → List AObj → Prop) : Prop :=
  runD (binD T_int .geq t0 (.int .i64 0)) h fun t4 h =>
  joinW (fun (J1 : AV → AV → List AObj → Prop) =>
  guardW t4 true
  (runD (binD T_int .add t0 (.int .i64 16)) h fun t7 h =>
    runD (binD T_int .leq t7 (.int .i64 4096)) h fun t8 h =>
    J1 (.bool true) t8 h)
  (J1 (.bool false) .und h))
  (fun t5 t8 h => runD (pickD t5 t8 (.bool false)) h fun t9 h =>
  joinW (fun (J2 : AV → AV → List AObj → Prop) =>
  guardW t9 true
  (runD (binD T_int .rem t0 (.int .i64 16)) h fun t12 h =>
    runD (binD T_int .eql t12 (.int .i64 0)) h fun t13 h =>
    J2 (.bool true) t13 h)
  (J2 (.bool false) .und h))
  (fun t10 t13 h => runD (pickD t10 t13 (.bool false)) h fun t14 h =>
  K (.ret t14) h))
def dU.loops : Nat → LInfo
  | _ => ⟨[], [], [], [], [], []⟩
def dU.H (c : Ctx) (t0 : AV) (h : List AObj) (K : AOut → List AObj → Prop) : Prop :=
  runD (binD T_int .lss t0 (.int .i64 1)) h fun t4 h =>
  K (.ret t4) h
theorem eV.eq (F : List (FuncId × aD)) (S : List (FuncId × Con)) (t0 t1 : AV) (h : List AObj) (K : AOut → List AObj → Prop) : funW (ctx F S eV.loops) Tryz.f68 [t0, t1] h K = eV.H (ctx F S eV.loops) t0 t1 h K := by kernel_rfl
theorem eW.eq (F : List (FuncId × aD)) (S : List (FuncId × Con)) (t0 t1 : AV) (h : List AObj) (K : AOut → List AObj → Prop) : funW (ctx F S eW.loops) Tryz.f80 [t0, t1] h K = eW.H (ctx F S eW.loops) t0 t1 h K := by kernel_rfl
theorem eS.eq (F : List (FuncId × aD)) (S : List (FuncId × Con)) (t0 : AV) (h : List AObj) (K : AOut → List AObj → Prop) : funW (ctx F S eS.loops) Tryz.f94 [t0] h K = eS.H (ctx F S eS.loops) t0 h K := by kernel_rfl
theorem dU.eq (F : List (FuncId × aD)) (S : List (FuncId × Con)) (t0 : AV) (h : List AObj) (K : AOut → List AObj → Prop) : funW (ctx F S dU.loops) Tryz.f103 [t0] h K = dU.H (ctx F S dU.loops) t0 h K := by kernel_rfl
theorem eV.at : Tryz.prog.funcs[68]? = some Tryz.f68 := by kernel_rfl
theorem eV.nm : (Tryz.f68.name == "runtime.NumGoroutine") = false := by kernel_rfl
theorem eV.bd : Tryz.f68.body.isNone = false := by kernel_rfl
theorem eW.at : Tryz.prog.funcs[80]? = some Tryz.f80 := by kernel_rfl
theorem eW.nm : (Tryz.f80.name == "runtime.NumGoroutine") = false := by kernel_rfl
theorem eW.bd : Tryz.f80.body.isNone = false := by kernel_rfl
theorem eS.at : Tryz.prog.funcs[94]? = some Tryz.f94 := by kernel_rfl
theorem eS.nm : (Tryz.f94.name == "runtime.NumGoroutine") = false := by kernel_rfl
theorem eS.bd : Tryz.f94.body.isNone = false := by kernel_rfl
theorem dU.at : Tryz.prog.funcs[103]? = some Tryz.f103 := by kernel_rfl
theorem dU.nm : (Tryz.f103.name == "runtime.NumGoroutine") = false := by kernel_rfl
theorem dU.bd : Tryz.f103.body.isNone = false := by kernel_rfl
end Lam
namespace Lam
open Go Go.Proofs
set_option linter.unusedVariables false
def bY.loops : Nat → LInfo
  | 1 => ⟨[], [], [], [(3, none), (5, some [12, 17])], [], []⟩
  | 6 => ⟨[], [], [], [(3, none), (4, some [52, 56])], [], []⟩
  | _ => ⟨[], [], [], [], [], []⟩
def bY.H (c : Ctx) (t0 : AV) (t1 : AV) (h : List AObj) (K : AOut → List AObj → Prop) : Prop :=
  allocW bD h fun t4 h =>
  runD (binD T_int .lss t1 (.int .i64 0)) h fun t11 h =>
  joinW (fun (J1 : AV → AV → List AObj → Prop) =>
  guardW t11 false
  (runD (lenD aI h t0) h fun t15 h =>
    runD (binD T_int .quo t15 (.int .i64 16)) h fun t16 h =>
    runD (binD T_int .geq t1 t16) h fun t17 h =>
    J1 (.bool false) t17 h)
  (J1 (.bool true) .und h))
  (fun t12 t17 h => runD (pickD t12 (.bool true) t17) h fun t18 h =>
  condW t18
  (runD (buildD bD []) h fun t19 h =>
    runH (storeH bD h t4 t19) h fun _ h =>
    loadRes (fitD bD (loadD h t4)) fun r0 => K (.ret (.tup [r0, (.int .i64 1)])) h)
  (runD (binD T_int .mul (.int .i64 16) t1) h fun t22 h =>
  runD (binD T_int .add t1 (.int .i64 1)) h fun t24 h =>
  runD (binD T_int .mul (.int .i64 16) t24) h fun t25 h =>
  runD (sliceD aI h t0 (some t22) (some t25) none) h fun t26 h =>
  runD (aF aI h t26 (.int .i64 0)) h fun t28 h =>
  runD (fitD T_int (loadD h t28)) h fun t29 h =>
  runD (binD T_int .and t29 (.int .i64 15)) h fun t30 h =>
  runD (aF aI h t26 (.int .i64 0)) h fun t32 h =>
  runD (fitD T_int (loadD h t32)) h fun t33 h =>
  runD (binD T_int .andNot t33 (.int .i64 1152921504606846976)) h fun t34 h =>
  runD (binD T_int .shr t34 (.int .u64 4)) h fun t35 h =>
  runD (aF aI h t26 (.int .i64 1)) h fun t37 h =>
  runD (fitD T_int (loadD h t37)) h fun t38 h =>
  runD (aF aI h t26 (.int .i64 2)) h fun t40 h =>
  runD (fitD T_int (loadD h t40)) h fun t41 h =>
  callW false c.noS (.fn (.func 80) [] []) [t26, (.int .i64 0)] h (fun t43 h =>
  runD (buildD bD [(0, t30), (1, t35), (2, t38), (3, t41), (4, t43)]) h fun t44 h =>
  allocW bD h fun t7 h =>
  runH (storeH bD h t7 t44) h fun _ h =>
  runD (fitD bD (loadD h t7)) h fun t46 h =>
  callW false c (.fn (.func 57) [] []) [t46] h (fun t47 h =>
  runD (bH t47 0) h fun t48 h =>
  runD (bH t47 1) h fun t49 h =>
  runD (binD dA .neq t49 (.int .i64 0)) h fun t51 h =>
  joinW (fun (J2 : AV → AV → List AObj → Prop) =>
  guardW t51 false
  (callW false c (.fn (.func 35) [] []) [t48, t26] h (fun t55 h =>
    runD (unD .not t55) h fun t56 h =>
    J2 (.bool false) t56 h)
    (fun v h => K (.pan v) h))
  (J2 (.bool true) .und h))
  (fun t52 t56 h => runD (pickD t52 (.bool true) t56) h fun t57 h =>
  condW t57
  (runD (buildD bD []) h fun t58 h =>
    runH (storeH bD h t4 t58) h fun _ h =>
    loadRes (fitD bD (loadD h t4)) fun r0 => K (.ret (.tup [r0, (.int .i64 90)])) h)
  (runD (fitD bD (loadD h t7)) h fun t59 h =>
  runH (storeH bD h t4 t59) h fun _ h =>
  loadRes (fitD bD (loadD h t4)) fun r0 => K (.ret (.tup [r0, (.int .i64 0)])) h)))
  (fun v h => K (.pan v) h))
  (fun _ _ => False)))
def dY.loops : Nat → LInfo
  | _ => ⟨[], [], [], [], [], []⟩
def dY.H (c : Ctx) (t0 : AV) (h : List AObj) (K : AOut → List AObj → Prop) : Prop :=
  boxW bD t0 h fun t1 h =>
  runD (fitD bD (loadD h t1)) h fun t5 h =>
  callW false c (.fn (.func 86) [] []) [t5] h (fun t6 h =>
  runD (unD .not t6) h fun t7 h =>
  condW t7
  (K (.ret (.tup [(.sl true (.ints .i64 [])), (.int .i64 90)])) h)
  (runD (gC aI (.int .i64 16) (.int .i64 16) h.length) h fun t8 h =>
  runD (fitD bD (loadD h t1)) h fun t12 h =>
  callW false c.noS (.fn (.func 87) [] []) [t12] h (fun t13 h =>
  runD (aB bD t1 2) h fun t14 h =>
  runD (fitD T_int (loadD h t14)) h fun t15 h =>
  runD (aB bD t1 3) h fun t16 h =>
  runD (fitD T_int (loadD h t16)) h fun t17 h =>
  runD (aF aI h t8 (.int .i64 0)) h fun t18 h =>
  runH (storeH T_int h t18 t13) h fun _ h =>
  runD (aF aI h t8 (.int .i64 1)) h fun t19 h =>
  runH (storeH T_int h t19 t15) h fun _ h =>
  runD (aF aI h t8 (.int .i64 2)) h fun t20 h =>
  runH (storeH T_int h t20 t17) h fun _ h =>
  sepB t18 [t14] = true ∧ sepB t18 [t16] = true ∧ sepB t19 [t16] = true ∧ runD (sliceD aI h t8 (some (.int .i64 3)) none none) h fun t22 h =>
  runD (aB bD t1 4) h fun t23 h =>
  runD (fitD aI (loadD h t23)) h fun t24 h =>
  runM (copyH aI h t22 t24) h fun t25 h =>
  K (.ret (.tup [t8, (.int .i64 0)])) h)
  (fun _ _ => False)))
  (fun v h => K (.pan v) h)
def eX.loops : Nat → LInfo
  | 10 => ⟨[], [], [], [(2, none), (4, some [32, 36])], [], []⟩
  | _ => ⟨[], [], [], [], [], []⟩
def eX.H (c : Ctx) (t0 : AV) (h : List AObj) (K : AOut → List AObj → Prop) : Prop :=
  boxW bD t0 h fun t1 h =>
  joinW (fun (J1 : AV → List AObj → Prop) =>
  joinW (fun (J2 : List AObj → Prop) =>
  joinW (fun (J3 : List AObj → Prop) =>
  runD (aB bD t1 0) h fun t5 h =>
  runD (fitD T_int (loadD h t5)) h fun t6 h =>
  runD (binD T_int .lss t6 (.int .i64 0)) h fun t7 h =>
  joinW (fun (J4 : AV → List AObj → Prop) =>
  condW t7
  (J4 t7 h)
  (runD (aB bD t1 0) h fun t8 h =>
    runD (fitD T_int (loadD h t8)) h fun t9 h =>
    runD (binD T_int .gtr t9 (.int .i64 9)) h fun t10 h =>
    J4 t10 h))
  (fun t4 h => condW t4
  (J3 h)
  (runD (aB bD t1 1) h fun t12 h =>
  runD (fitD T_int (loadD h t12)) h fun t13 h =>
  runD (binD T_int .lss t13 (.int .i64 0)) h fun t14 h =>
  joinW (fun (J5 : AV → List AObj → Prop) =>
  condW t14
  (J5 t14 h)
  (runD (aB bD t1 1) h fun t15 h =>
    runD (fitD T_int (loadD h t15)) h fun t16 h =>
    runD (binD T_int .gtr t16 (.int .i64 1099511627776)) h fun t17 h =>
    J5 t17 h))
  (fun t11 h => condW t11
  (J3 h)
  (runD (aB bD t1 2) h fun t19 h =>
  runD (fitD T_int (loadD h t19)) h fun t20 h =>
  callW false c (.fn (.func 105) [] []) [t20] h (fun t21 h =>
  runD (unD .not t21) h fun t22 h =>
  joinW (fun (J6 : AV → List AObj → Prop) =>
  condW t22
  (J6 t22 h)
  (runD (aB bD t1 3) h fun t23 h =>
    runD (fitD T_int (loadD h t23)) h fun t24 h =>
    callW false c (.fn (.func 105) [] []) [t24] h (fun t25 h =>
    runD (unD .not t25) h fun t26 h =>
    joinW (fun (J7 : AV → List AObj → Prop) =>
    condW t26
    (J7 t26 h)
    (runD (aB bD t1 4) h fun t27 h =>
      runD (fitD aI (loadD h t27)) h fun t28 h =>
      runD (lenD aI h t28) h fun t29 h =>
      runD (binD T_int .gtr t29 (.int .i64 13)) h fun t30 h =>
      J7 t30 h))
    (fun t18 h => J6 t18 h))
    (fun v h => K (.pan v) h)))
  (fun t18 h => condW t18
  (J2 h)
  (J1 (.bool true) h)))
  (fun v h => K (.pan v) h))))))
  (fun h => J2 h))
  (fun h => J1 (.bool false) h))
  (fun t3 h => joinW (fun (J8 : AV → AV → List AObj → Prop) =>
  guardW t3 true
  (runD (aB bD t1 4) h fun t33 h =>
    runD (fitD aI (loadD h t33)) h fun t34 h =>
    callW false c (.fn (.func 106) [] []) [t34, (.fn (.func 107) [] [])] h (fun t35 h =>
    runD (unD .not t35) h fun t36 h =>
    J8 (.bool true) t36 h)
    (fun v h => K (.pan v) h))
  (J8 (.bool false) .und h))
  (fun t32 t36 h => runD (pickD t32 t36 (.bool false)) h fun t37 h =>
  K (.ret t37) h))
def eY.loops : Nat → LInfo
  | _ => ⟨[], [], [], [], [], []⟩
def eY.H (c : Ctx) (t0 : AV) (h : List AObj) (K : AOut → List AObj → Prop) : Prop :=
  boxW bD t0 h fun t1 h =>
  runD (aB bD t1 1) h fun t3 h =>
  runD (fitD T_int (loadD h t3)) h fun t4 h =>
  runD (binD T_int .shl t4 (.int .u64 4)) h fun t5 h =>
  runD (binD T_int .or (.int .i64 1152921504606846976) t5) h fun t6 h =>
  runD (aB bD t1 0) h fun t7 h =>
  runD (fitD T_int (loadD h t7)) h fun t8 h =>
  runD (binD T_int .or t6 t8) h fun t9 h =>
  K (.ret t9) h
def dQ.loops : Nat → LInfo
  | 1 => ⟨[], [], [], [(3, none), (2, some [5, 7])], [], []⟩
  | _ => ⟨[], [], [], [], [], []⟩
def dQ.H (c : Ctx) (t0 : AV) (h : List AObj) (K : AOut → List AObj → Prop) : Prop :=
  runD (binD T_int .geq t0 (.int .i64 0)) h fun t4 h =>
  joinW (fun (J1 : AV → AV → List AObj → Prop) =>
  guardW t4 true
  (runD (binD T_int .lss t0 (.int .i64 256)) h fun t7 h =>
    J1 (.bool true) t7 h)
  (J1 (.bool false) .und h))
  (fun t5 t7 h => runD (pickD t5 t7 (.bool false)) h fun t8 h =>
  K (.ret t8) h)
def dV.loops : Nat → LInfo
  | 1 => ⟨[], [], [], [(3, none), (3, some [5, 8])], [], []⟩
  | _ => ⟨[], [], [], [], [], []⟩
def dV.H (c : Ctx) (t0 : AV) (h : List AObj) (K : AOut → List AObj → Prop) : Prop :=
  runD (binD T_int .eql t0 (.int .i64 0)) h fun t4 h =>
  joinW (fun (J1 : AV → AV → List AObj → Prop) =>
  guardW t4 false
  (callW false c (.fn (.func 105) [] []) [t0] h (fun t7 h =>
    runD (unD .not t7) h fun t8 h =>
    J1 (.bool false) t8 h)
    (fun v h => K (.pan v) h))
  (J1 (.bool true) .und h))
  (fun t5 t8 h => runD (pickD t5 (.bool true) t8) h fun t9 h =>
  K (.ret t9) h)
theorem bY.eq (F : List (FuncId × aD)) (S : List (FuncId × Con)) (t0 t1 : AV) (h : List AObj) (K : AOut → List AObj → Prop) : funW (ctx F S bY.loops) Tryz.f46 [t0, t1] h K = bY.H (ctx F S bY.loops) t0 t1 h K := by kernel_rfl
theorem dY.eq (F : List (FuncId × aD)) (S : List (FuncId × Con)) (t0 : AV) (h : List AObj) (K : AOut → List AObj → Prop) : funW (ctx F S dY.loops) Tryz.f57 [t0] h K = dY.H (ctx F S dY.loops) t0 h K := by kernel_rfl
theorem eX.eq (F : List (FuncId × aD)) (S : List (FuncId × Con)) (t0 : AV) (h : List AObj) (K : AOut → List AObj → Prop) : funW (ctx F S eX.loops) Tryz.f86 [t0] h K = eX.H (ctx F S eX.loops) t0 h K := by kernel_rfl
theorem eY.eq (F : List (FuncId × aD)) (S : List (FuncId × Con)) (t0 : AV) (h : List AObj) (K : AOut → List AObj → Prop) : funW (ctx F S eY.loops) Tryz.f87 [t0] h K = eY.H (ctx F S eY.loops) t0 h K := by kernel_rfl
theorem dQ.eq (F : List (FuncId × aD)) (S : List (FuncId × Con)) (t0 : AV) (h : List AObj) (K : AOut → List AObj → Prop) : funW (ctx F S dQ.loops) Tryz.f105 [t0] h K = dQ.H (ctx F S dQ.loops) t0 h K := by kernel_rfl
theorem dV.eq (F : List (FuncId × aD)) (S : List (FuncId × Con)) (t0 : AV) (h : List AObj) (K : AOut → List AObj → Prop) : funW (ctx F S dV.loops) Tryz.f107 [t0] h K = dV.H (ctx F S dV.loops) t0 h K := by kernel_rfl
theorem bY.at : Tryz.prog.funcs[46]? = some Tryz.f46 := by kernel_rfl
theorem bY.nm : (Tryz.f46.name == "runtime.NumGoroutine") = false := by kernel_rfl
theorem bY.bd : Tryz.f46.body.isNone = false := by kernel_rfl
theorem dY.at : Tryz.prog.funcs[57]? = some Tryz.f57 := by kernel_rfl
theorem dY.nm : (Tryz.f57.name == "runtime.NumGoroutine") = false := by kernel_rfl
theorem dY.bd : Tryz.f57.body.isNone = false := by kernel_rfl
theorem eX.at : Tryz.prog.funcs[86]? = some Tryz.f86 := by kernel_rfl
theorem eX.nm : (Tryz.f86.name == "runtime.NumGoroutine") = false := by kernel_rfl
theorem eX.bd : Tryz.f86.body.isNone = false := by kernel_rfl
theorem eY.at : Tryz.prog.funcs[87]? = some Tryz.f87 := by kernel_rfl
theorem eY.nm : (Tryz.f87.name == "runtime.NumGoroutine") = false := by kernel_rfl
theorem eY.bd : Tryz.f87.body.isNone = false := by kernel_rfl
theorem dQ.at : Tryz.prog.funcs[105]? = some Tryz.f105 := by kernel_rfl
theorem dQ.nm : (Tryz.f105.name == "runtime.NumGoroutine") = false := by kernel_rfl
theorem dQ.bd : Tryz.f105.body.isNone = false := by kernel_rfl
theorem dV.at : Tryz.prog.funcs[107]? = some Tryz.f107 := by kernel_rfl
theorem dV.nm : (Tryz.f107.name == "runtime.NumGoroutine") = false := by kernel_rfl
theorem dV.bd : Tryz.f107.body.isNone = false := by kernel_rfl
end Lam
