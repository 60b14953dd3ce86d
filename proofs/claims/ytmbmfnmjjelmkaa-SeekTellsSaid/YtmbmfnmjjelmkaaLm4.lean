/- What functions of the program come to, each proved from its code. -/
import Derived.Test.YtmbmfnmjjelmkaaLm3
import Derived.Attr
import Derived.KernelRfl
import Derived.Test.YtmbmfnmjjelmkaaProg
set_option linter.unusedVariables false
set_option linter.unusedSimpArgs false
set_option linter.unnecessarySimpa false
set_option linter.unusedSectionVars false
namespace Lam
open Go

/-- bits of whole numbers -/
def xorI (k : IntKind) (a b : Int) : Int := k.wrap (BitVec.ofInt k.bits a ^^^ BitVec.ofInt k.bits b).toNat
def andI (k : IntKind) (a b : Int) : Int := k.wrap (BitVec.ofInt k.bits a &&& BitVec.ofInt k.bits b).toNat
def orI (k : IntKind) (a b : Int) : Int := k.wrap (BitVec.ofInt k.bits a ||| BitVec.ofInt k.bits b).toNat
def andNotI (k : IntKind) (a b : Int) : Int := k.wrap (BitVec.ofInt k.bits a &&& ~~~ BitVec.ofInt k.bits b).toNat
def notI (k : IntKind) (a : Int) : Int := k.wrap (BitVec.ofInt k.bits (if k.signed then -1 else k.max) ^^^ BitVec.ofInt k.bits a).toNat

section runs
variable (S : Prop) (v : AV) (news h : List AObj) (K KP : AV → List AObj → Prop)
@[go_sem] theorem runD_p : runD (pD S v) h K = (S ∧ K v h) := by simp [pD, runD]
@[go_sem] theorem runD_some : runD (some (S, v, news)) h K = (S ∧ K v (h ++ news)) := (rfl)
@[go_sem] theorem runH_some (id : Nat) (o : AObj) : runH (some (S, id, o)) h K = (S ∧ K .und (h.set id o)) := (rfl)
@[go_sem] theorem runM_some (id : Nat) (o : AObj) : runM (some (S, v, id, o)) h K = (S ∧ K v (h.set id o)) := (rfl)
@[go_sem] theorem runDM_p (y) : runDM (pD S v) y h K = (S ∧ K v h) := by simp [pD, runDM]
@[go_sem] theorem runDM_some (y) : runDM (some (S, v, news)) y h K = (S ∧ K v (h ++ news)) := (rfl)
@[go_sem] theorem runDM_none (y) : runDM none y h K = runM y h K := (rfl)
@[go_sem] theorem nilEqO_some (n : Nat) : nilEqO (some n) h K = ∀ b : Bool, (b = true → n = 0) → K (.bool b) h := (rfl)
@[go_sem] theorem allocW_eq (d : TyD) : allocW d h K = (zeroP d ∧ K (.ptr h.length []) (h ++ [boxO d.zero])) := (rfl)
@[go_sem] theorem zeroP_map (m : MK) : zeroP (.map m) = True := (rfl)
@[go_sem] theorem zeroP_int (k : IntKind) : zeroP (.int k) = fitP (.int k) (TyD.int k).zero := (rfl)
@[go_sem] theorem zeroP_bool : zeroP .bool = fitP .bool TyD.bool.zero := (rfl)
@[go_sem] theorem zeroP_str : zeroP .str = fitP .str TyD.str.zero := (rfl)
@[go_sem] theorem zeroP_slice (e : LK) : zeroP (.slice e) = fitP (.slice e) (TyD.slice e).zero := (rfl)
@[go_sem] theorem zeroP_strct (fs : List TyD) : zeroP (.strct fs) = fitP (.strct fs) (TyD.strct fs).zero := (rfl)
@[go_sem] theorem zeroP_arr (n : Nat) (e : LK) : zeroP (.arr n e) = fitP (.arr n e) (TyD.arr n e).zero := (rfl)
@[go_sem] theorem zeroP_ptr : zeroP .ptr = fitP .ptr TyD.ptr.zero := (rfl)
@[go_sem] theorem zeroP_func : zeroP .func = fitP .func TyD.func.zero := (rfl)
@[go_sem] theorem zeroP_iface : zeroP .iface = fitP .iface TyD.iface.zero := (rfl)
@[congr] theorem allocW_congr {d d' : TyD} {h h' : List AObj} {K : AV → List AObj → Prop} (e2 : d = d') (e : h = h') : allocW d h K = allocW d' h' K := by rw [e, e2]
@[go_sem] theorem boxW_eq (d : TyD) : boxW d v h K = (fitP d v ∧ K (.ptr h.length []) (h ++ [boxO v])) := (rfl)
@[go_sem] theorem panW_iface (t : TypeId) (u : AV) : panW (.iface t u) h KP = KP (.iface t u) h := (rfl)
@[go_sem] theorem whenP_true (A : Prop) : whenP true A = A := (rfl)
@[go_sem] theorem whenD_true (x : D) : whenD true x = x := (rfl)
theorem guardW_bool (b w : Bool) (A B : Prop) : guardW (.bool b) w A B = ((b = w → A) ∧ (b = (!w) → B)) := (rfl)
@[go_sem] theorem condW_bool (b : Bool) (A B : Prop) : condW (.bool b) A B = ((b = true → A) ∧ (b = false → B)) := (rfl)
@[go_sem] theorem callW_fn (mt : Bool) (c : Ctx) (f : FuncId) (first cap args : List AV) : callW mt c (.fn (.func f) first cap) args h K KP =
    callR (lastId mt args) c.drawn (callArgs c f (AV.vals h (first ++ args ++ cap))) (AV.rowss (first ++ args ++ cap)) h K (c.envS f (first ++ args ++ cap) h (outW K KP)) := (rfl)
@[go_sem] theorem callArgs_some (c : Ctx) (f : FuncId) (vs : List AV) : callArgs c f (some vs) = if AV.closeds vs = true then c.envF f vs else none := by
  cases h : AV.closeds vs <;> simp [callArgs, h]
@[go_sem] theorem callArgs_none (c : Ctx) (f : FuncId) : callArgs c f none = none := (rfl)
@[go_sem] theorem callR_fresh (la : Option Nat) (dr : Bool) (rows : List Nat) (els : Prop) : callR la dr (some (true, some (S, v, news))) rows h K els = (S ∧ K (v.shift h.length) (h ++ news)) := (rfl)
@[go_sem] theorem callR_freshp (la : Option Nat) (dr : Bool) (rows : List Nat) (els : Prop) : callR la dr (some (true, pD S v)) rows h K els = (S ∧ K (v.shift h.length) h) := by simp [pD, callR]
@[go_sem] theorem callR_plain (la : Option Nat) (dr : Bool) (rows : List Nat) (els : Prop) (hv : v.noSl = true) : callR la dr (some (false, pD S v)) rows h K els = (S ∧ K v h) := by simp [pD, callR, hv]
@[go_sem] theorem callR_valp (la : Option Nat) (rows : List Nat) (els : Prop) (hv : v.noSl = false) : callR la false (some (false, pD S v)) rows h K els = (S ∧ K v (freeze rows h)) := by simp [pD, callR, hv]
@[go_sem] theorem callR_app (id : Nat) (els : Prop) (hv : v.noSl = false) : callR (some id) true (some (false, pD S v)) [id] h K els = (S ∧ K v (freeze [id] h)) := by simp [pD, callR, hv]
@[go_sem] theorem lastId_false (args : List AV) : lastId false args = none := (rfl)
@[go_sem] theorem lastId_one (x : Bool) (id ver off len : Nat) : lastId true [.sref x id ver off len] = some id := (rfl)
@[go_sem] theorem lastId_sl (x : Bool) (l : Lst) : lastId true [.sl x l] = none := (rfl)
@[go_sem] theorem lastId_cons (a b : AV) (r : List AV) : lastId true (a :: b :: r) = lastId true (b :: r) := by simp [lastId]
@[go_sem] theorem callR_none0 (la : Option Nat) (dr : Bool) (els : Prop) : callR la dr (some (false, pD S v)) [] h K els = (S ∧ K v h) := by cases hv : v.noSl <;> simp [pD, callR, hv, freeze]
@[go_sem] theorem callR_none (la : Option Nat) (dr : Bool) (rows : List Nat) (els : Prop) : callR la dr none rows h K els = els := (rfl)
@[go_sem] theorem freeze_nil : freeze [] h = h := (rfl)
@[go_sem] theorem freeze_cons (id : Nat) (r : List Nat) : freeze (id :: r) h = freeze r (h.modify id froO) := (rfl)
@[go_sem] theorem froO_row (k : RK) (ver : Nat) (l : Lst) : froO (.row k ver l) = .row .fro ver l := (rfl)
@[go_sem] theorem froO_box (u : AV) : froO (.box u) = .box u := (rfl)
@[go_sem] theorem froO_lp (st : LoopState) (pd : Option Code) (r : Loop) : froO (.lp st pd r) = .lp st pd r := (rfl)
@[go_sem] theorem normO_lp (n : Nat) (st : LoopState) (pd : Option Code) (r : Loop) : normO n h (.lp st pd r) = .lp st pd r := (rfl)
@[go_sem] theorem callW_yield (mt : Bool) (c : Ctx) (l : Nat) (args : List AV) (KP : AV → List AObj → Prop) : callW mt c (.fn (.yield l) [] []) args h K KP = c.envY l args h (outW K KP) := (rfl)
@[go_sem] theorem noS_envY (c : Ctx) (l : Nat) (a : List AV) (K' : AOut → List AObj → Prop) : c.noS.envY l a h K' = False := (rfl)
@[go_sem] theorem noI_drawn (c : Ctx) : c.noI.drawn = c.drawn := (rfl)
@[go_sem] theorem noI_envF (c : Ctx) : c.noI.envF = c.envF := (rfl)
@[go_sem] theorem noI_envS (c : Ctx) : c.noI.envS = c.envS := (rfl)
@[go_sem] theorem noI_envY (c : Ctx) : c.noI.envY = c.envY := (rfl)
@[go_sem] theorem noI_tab (c : Ctx) : c.noI.tab = c.tab := (rfl)
@[go_sem] theorem withY_drawn (c : Ctx) (l : Nat) (Y : Con) : (c.withY l Y).drawn = c.drawn := (rfl)
@[go_sem] theorem withY_envF (c : Ctx) (l : Nat) (Y : Con) : (c.withY l Y).envF = c.envF := (rfl)
@[go_sem] theorem withY_envS (c : Ctx) (l : Nat) (Y : Con) : (c.withY l Y).envS = c.envS := (rfl)
@[go_sem] theorem withY_envY (c : Ctx) (l l' : Nat) (Y : Con) (a : List AV) (K' : AOut → List AObj → Prop) : (c.withY l Y).envY l' a h K' = (l' = l ∧ Y a h K') := (rfl)
@[go_sem] theorem rangeX_fn (iterS : FuncId → Con → Con) (f : FuncId) (cap : List AV) (rd : Nat → Loop → Con) (fin : Nat → Loop → AOut → List AObj → Prop) :
    rangeX iterS (.fn (.func f) [] cap) h rd fin = rangeY iterS f cap h rd fin := (rfl)
@[go_sem] theorem rangeY_eq (iterS : FuncId → Con → Con) (f : FuncId) (cap : List AV) (rd : Nat → Loop → Con) (fin : Nat → Loop → AOut → List AObj → Prop) :
    rangeY iterS f cap h rd fin = ∀ (l : Nat) (r : Loop), iterS f (rd h.length r) (.fn (.yield l) [] [] :: cap) (h ++ [.lp .ready none r]) (fin h.length r) := (rfl)
@[go_sem] theorem boxH_nil : boxH [] h = h := (rfl)
@[go_sem] theorem boxH_cons (a : AV) (r : List AV) : boxH (a :: r) h = boxH r (promP a h) := (rfl)
@[go_sem] theorem promP_ptr (id : Nat) : promP (.ptr id []) h = promO id (h.getD id .dead) h := (rfl)
@[go_sem] theorem promB_nil (i : Nat) : promB [] i h = h := (rfl)
@[go_sem] theorem promB_cons (o : AObj) (r : List AObj) (i : Nat) : promB (o :: r) i h = promB r (i + 1) (promO i o h) := (rfl)
@[go_sem] theorem promO_box (v : AV) (i : Nat) : promO i (.box v) h = promS i (promA v h.length) h := (rfl)
@[go_sem] theorem promO_row (k : RK) (v i : Nat) (l : Lst) : promO i (.row k v l) h = h := (rfl)
@[go_sem] theorem promO_mp (m : MapC) (i : Nat) : promO i (.map m) h = h := (rfl)
@[go_sem] theorem promO_lp (st : LoopState) (pd : Option Code) (r : Loop) (i : Nat) : promO i (.lp st pd r) h = h := (rfl)
@[go_sem] theorem promO_dead (i : Nat) : promO i .dead h = h := (rfl)
@[go_sem] theorem promS_nil (i : Nat) (v : AV) : promS i (v, []) h = h := (rfl)
@[go_sem] theorem promS_cons (i : Nat) (v : AV) (l : Lst) (r : List Lst) : promS i (v, l :: r) h = (h ++ rowsOf (l :: r)).set i (.box v) := (rfl)
@[go_sem] theorem rowsOf_nil : rowsOf [] = [] := (rfl)
@[go_sem] theorem rowsOf_cons (l : Lst) (r : List Lst) : rowsOf (l :: r) = .row .own 0 l :: rowsOf r := (rfl)
@[go_sem] theorem promAs_nil (i : Nat) : promAs [] i = ([], []) := (rfl)
@[go_sem] theorem promAs_cons (v : AV) (r : List AV) (n : Nat) : promAs (v :: r) n = ((promA v n).1 :: (promAs r (n + (promA v n).2.length)).1, (promA v n).2 ++ (promAs r (n + (promA v n).2.length)).2) := (rfl)
@[go_sem] theorem promA_agg (vs : List AV) (n : Nat) : promA (.agg vs) n = (.agg (promAs vs n).1, (promAs vs n).2) := (rfl)
@[go_sem] theorem promA_slt (l : Lst) (n : Nat) : promA (.sl true l) n = promL l n := (rfl)
@[go_sem] theorem promA_slf (l : Lst) (i : Nat) : promA (.sl false l) i = (.sl false l, []) := (rfl)
@[go_sem] theorem promA_int (k : IntKind) (n : Int) (i : Nat) : promA (.int k n) i = (.int k n, []) := (rfl)
@[go_sem] theorem promA_bool (b : Bool) (i : Nat) : promA (.bool b) i = (.bool b, []) := (rfl)
@[go_sem] theorem promA_str (b : Bytes) (i : Nat) : promA (.str b) i = (.str b, []) := (rfl)
@[go_sem] theorem promA_sref (x : Bool) (a b c d : Nat) (i : Nat) : promA (.sref x a b c d) i = (.sref x a b c d, []) := (rfl)
@[go_sem] theorem promA_map (a : Nat) (i : Nat) : promA (.map a) i = (.map a, []) := (rfl)
@[go_sem] theorem promA_ptr (a : Nat) (p : List PS) (i : Nat) : promA (.ptr a p) i = (.ptr a p, []) := (rfl)
@[go_sem] theorem promA_fn (f : Fn) (a b : List AV) (i : Nat) : promA (.fn f a b) i = (.fn f a b, []) := (rfl)
@[go_sem] theorem promA_nilp (i : Nat) : promA .nilp i = (.nilp, []) := (rfl)
@[go_sem] theorem promA_nilfn (i : Nat) : promA .nilfn i = (.nilfn, []) := (rfl)
@[go_sem] theorem promA_niliface (i : Nat) : promA .niliface i = (.niliface, []) := (rfl)
@[go_sem] theorem promA_iface (t : TypeId) (v : AV) (i : Nat) : promA (.iface t v) i = (.iface t v, []) := (rfl)
@[go_sem] theorem promA_top (i : Nat) : promA .top i = (.top, []) := (rfl)
@[go_sem] theorem promA_und (i : Nat) : promA .und i = (.und, []) := (rfl)
@[go_sem] theorem promA_arr (l : Lst) (i : Nat) : promA (.arr l) i = (.arr l, []) := (rfl)
@[go_sem] theorem promL_ints (k : IntKind) (n : Nat) : promL (.ints k []) n = (.sref false n 0 0 0, [.ints k []]) := (rfl)
@[go_sem] theorem promL_bools (n : Nat) : promL (.bools []) n = (.sref false n 0 0 0, [.bools []]) := (rfl)
@[go_sem] theorem promL_strs (n : Nat) : promL (.strs []) n = (.sref false n 0 0 0, [.strs []]) := (rfl)
@[go_sem] theorem promL_pends (n : Nat) : promL (.pends []) n = (.sref false n 0 0 0, [.pends []]) := (rfl)
@[go_sem] theorem promL_mics (n : Nat) : promL (.mics []) n = (.sref false n 0 0 0, [.mics []]) := (rfl)
@[go_sem] theorem promL_recs (n : Nat) : promL (.recs []) n = (.sref false n 0 0 0, [.recs []]) := (rfl)
@[go_sem] theorem promL_pairs (n : Nat) : promL (.pairs []) n = (.sref false n 0 0 0, [.pairs []]) := (rfl)
@[go_sem] theorem promL_slots (n : Nat) : promL (.slots []) n = (.sref false n 0 0 0, [.slots []]) := (rfl)
@[go_sem] theorem lpIs_eq (id : Nat) (st : LoopState) (r : Loop) : lpIs h id st r = (h[id]? = some (.lp st none r)) := (rfl)
@[go_sem] theorem argX0_nil (A : Prop) : argX0 [] A = A := (rfl)
@[go_sem] theorem argX1_cons (v : AV) (vs : List AV) (A : AV → Prop) : argX1 (v :: vs) A = argX0 vs (A v) := (rfl)
@[go_sem] theorem argX2_cons (v : AV) (vs : List AV) (A : AV → AV → Prop) : argX2 (v :: vs) A = argX1 vs (A v) := (rfl)
section
variable (id : Nat) (r r' : Loop) (kn kr : List AObj → Prop) (ke kg : Nat → List AObj → Prop) (kp : AV → List AObj → Prop)
@[go_sem] theorem endX_ret (v : AV) : endX id r (.ret v) h kn kr ke kg kp = endO (h[id]?) id r h kn kr ke kg := (rfl)
@[go_sem] theorem endX_pan (v : AV) : endX id r (.pan v) h kn kr ke kg kp = kp v h := (rfl)
@[go_sem] theorem endO_ready : endO (some (.lp .ready none r')) id r h kn kr ke kg = (r' = r ∧ kn (h.set id (.lp .exhausted none r))) := (rfl)
@[go_sem] theorem endO_ret : endO (some (.lp .done (some .ret) r')) id r h kn kr ke kg = (r' = r ∧ kr (h.set id (.lp .exhausted (some .ret) r))) := (rfl)
@[go_sem] theorem endO_exit (i : Nat) : endO (some (.lp .done (some (.exit i)) r')) id r h kn kr ke kg = (r' = r ∧ ke i (h.set id (.lp .exhausted (some (.exit i)) r))) := (rfl)
@[go_sem] theorem endO_goto (i : Nat) : endO (some (.lp .done (some (.goto i)) r')) id r h kn kr ke kg = (r' = r ∧ kg i (h.set id (.lp .exhausted (some (.goto i)) r))) := (rfl)
end
@[go_sem] theorem exitW_eq (i id : Nat) (A B : Prop) : exitW i id A B = match Nat.beq i id with
  | true => A
  | false => B := (rfl)
@[go_sem] theorem noS_drawn (c : Ctx) : c.noS.drawn = true := (rfl)
@[go_sem] theorem noS_envF (c : Ctx) : c.noS.envF = c.envF := (rfl)
@[go_sem] theorem noS_tab (c : Ctx) : c.noS.tab = c.tab := (rfl)
@[go_sem] theorem noS_envS (c : Ctx) (f : FuncId) (a : List AV) (K' : AOut → List AObj → Prop) : c.noS.envS f a h K' = False := (rfl)
@[go_sem] theorem outW_ret : outW K KP (.ret v) h = K v h := (rfl)
@[go_sem] theorem outW_pan : outW K KP (.pan v) h = KP v h := (rfl)
@[go_sem] theorem loadRes_p (K : AV → Prop) : loadRes (pD S v) K = (S ∧ K v) := (rfl)
@[go_sem] theorem someD_some {α : Type} (a : α) (f : α → D) : someD (some a) f = f a := (rfl)
@[go_sem] theorem someD_none {α : Type} (f : α → D) : someD (none : Option α) f = none := (rfl)
end runs

section congrs
variable {K KP : AV → List AObj → Prop} {h h' : List AObj}
@[congr] theorem runD_congr {x x' : D} (e : x = x') (e' : h = h') : runD x h K = runD x' h' K := by rw [e, e']
@[congr] theorem runH_congr {x x' : Option (Prop × Nat × AObj)} (e : x = x') (e' : h = h') : runH x h K = runH x' h' K := by rw [e, e']
@[congr] theorem runM_congr {x x' : Option (Prop × AV × Nat × AObj)} (e : x = x') (e' : h = h') : runM x h K = runM x' h' K := by rw [e, e']
@[congr] theorem runDM_congr {x x' : D} {y : Option (Prop × AV × Nat × AObj)} (e : x = x') (e' : h = h') : runDM x y h K = runDM x' y h' K := by rw [e, e']
@[congr] theorem condW_congr {v v' : AV} {A B : Prop} (e : v = v') : condW v A B = condW v' A B := by rw [e]
@[congr] theorem guardW_congr {v v' : AV} {w : Bool} {A B : Prop} (e : v = v') : guardW v w A B = guardW v' w A B := by rw [e]
@[congr] theorem nilEqO_congr {x x' : Option Nat} (e' : x = x') (e : h = h') : nilEqO x h K = nilEqO x' h' K := by rw [e, e']
@[congr] theorem boxW_congr {d d' : TyD} {x x' : AV} (e2 : d = d') (e' : x = x') (e : h = h') : boxW d x h K = boxW d' x' h' K := by rw [e, e', e2]
@[congr] theorem panW_congr {x x' : AV} (e' : x = x') (e : h = h') : panW x h KP = panW x' h' KP := by rw [e, e']
@[congr] theorem whenP_congr {b b' : Bool} {A : Prop} (e : b = b') : whenP b A = whenP b' A := by rw [e]
@[congr] theorem callW_congr {mt : Bool} {c : Ctx} {f f' : AV} {a a' : List AV} (e2 : f = f') (e' : a = a') (e : h = h') : callW mt c f a h K KP = callW mt c f' a' h' K KP := by rw [e, e', e2]
@[congr] theorem callR_congr {la la' : Option Nat} {dr dr' : Bool} {x x' : Option (Bool × D)} {rows rows' : List Nat} {els : Prop} (e1 : la = la') (e2 : dr = dr') (e : x = x') (e3 : rows = rows') (e' : h = h') : callR la dr x rows h K els = callR la' dr' x' rows' h' K els := by rw [e1, e, e', e2, e3]
@[congr] theorem sepW_congr {t t' : List (Nat × AV)} {l : List (Option Operand × List Operand)} {A : Prop} (e : t = t') : sepW t l A = sepW t' l A := by rw [e]
@[congr] theorem loadRes_congr {x x' : D} {K : AV → Prop} (e : x = x') : loadRes x K = loadRes x' K := by rw [e]
@[congr] theorem promV_congr {fs : List Bool} {vs vs' : List AV} {K : List AV → List AObj → Prop} (e : vs = vs') (e' : h = h') : promV fs vs h K = promV fs vs' h' K := by rw [e, e']
end congrs

section lists
@[go_sem] theorem sizes_nil : AV.sizes [] = 0 := (rfl)
@[go_sem] theorem sizes_cons (v : AV) (r : List AV) : AV.sizes (v :: r) = v.size + AV.sizes r := (rfl)
@[go_sem] theorem size_agg (vs : List AV) : (AV.agg vs).size = AV.sizes vs := (rfl)
@[go_sem] theorem size_int (k : IntKind) (n : Int) : (AV.int k n).size = 1 := (rfl)
@[go_sem] theorem size_bool (b : Bool) : (AV.bool b).size = 1 := (rfl)
@[go_sem] theorem size_str (s : Bytes) : (AV.str s).size = 1 := (rfl)
@[go_sem] theorem size_sl (x : Bool) (l : Lst) : (AV.sl x l).size = 1 := (rfl)
@[go_sem] theorem size_sref (x : Bool) (a b c d : Nat) : (AV.sref x a b c d).size = 1 := (rfl)
@[go_sem] theorem size_ptr (a : Nat) (p : List PS) : (AV.ptr a p).size = 1 := (rfl)
@[go_sem] theorem size_nilp : (AV.nilp).size = 1 := (rfl)
@[go_sem] theorem size_ep (l : Lst) (a : Nat) (p : List PS) : (AV.ep l a p).size = 1 := (rfl)
@[go_sem] theorem size_map (a : Nat) : (AV.map a).size = 1 := (rfl)
@[go_sem] theorem size_fn (f : Fn) (a b : List AV) : (AV.fn f a b).size = 1 := (rfl)
@[go_sem] theorem size_top : (AV.top).size = 1 := (rfl)
@[go_sem] theorem size_nilfn : (AV.nilfn).size = 1 := (rfl)
@[go_sem] theorem size_iface (t : TypeId) (v : AV) : (AV.iface t v).size = 1 := (rfl)
@[go_sem] theorem size_niliface : (AV.niliface).size = 1 := (rfl)
@[go_sem] theorem tsize_int (k : IntKind) : (TyD.int k).size = 1 := (rfl)
@[go_sem] theorem tsize_bool : TyD.bool.size = 1 := (rfl)
@[go_sem] theorem tsize_str : TyD.str.size = 1 := (rfl)
@[go_sem] theorem tsize_slice (e : LK) : (TyD.slice e).size = 1 := (rfl)
@[go_sem] theorem tsize_ptr : TyD.ptr.size = 1 := (rfl)
@[go_sem] theorem tsize_map (m : MK) : (TyD.map m).size = 1 := (rfl)
@[go_sem] theorem tsize_func : TyD.func.size = 1 := (rfl)
@[go_sem] theorem tsize_other : TyD.other.size = 1 := (rfl)
@[go_sem] theorem tsize_strct (fs : List TyD) : (TyD.strct fs).size = TyD.sizes fs := (rfl)
@[go_sem] theorem tsizes_nil : TyD.sizes [] = 0 := (rfl)
@[go_sem] theorem tsizes_cons (t : TyD) (r : List TyD) : TyD.sizes (t :: r) = t.size + TyD.sizes r := (rfl)
@[go_sem] theorem zero_int (k : IntKind) : (TyD.int k).zero = .int k 0 := (rfl)
@[go_sem] theorem zero_bool : TyD.bool.zero = .bool false := (rfl)
@[go_sem] theorem zero_str : TyD.str.zero = .str [] := (rfl)
@[go_sem] theorem zero_slice (e : LK) : (TyD.slice e).zero = .sl true e.empty := (rfl)
@[go_sem] theorem zero_ptr : TyD.ptr.zero = .nilp := (rfl)
@[go_sem] theorem zero_map (m : MK) : (TyD.map m).zero = .top := (rfl)
@[go_sem] theorem zero_func : TyD.func.zero = .nilfn := (rfl)
@[go_sem] theorem zero_arr (n : Nat) (e : LK) : (TyD.arr n e).zero = .arr (e.zeros n) := (rfl)
@[go_sem] theorem zero_strct (fs : List TyD) : (TyD.strct fs).zero = .agg (TyD.zeros fs) := (rfl)
@[go_sem] theorem zeros_nil : TyD.zeros [] = [] := (rfl)
@[go_sem] theorem zeros_cons (t : TyD) (r : List TyD) : TyD.zeros (t :: r) = t.zero :: TyD.zeros r := (rfl)
@[go_sem] theorem empty_int (k : IntKind) : (LK.int k).empty = .ints k [] := (rfl)
@[go_sem] theorem empty_bool : LK.bool.empty = .bools [] := (rfl)
@[go_sem] theorem empty_str : LK.str.empty = .strs [] := (rfl)
@[go_sem] theorem empty_pend : LK.pend.empty = .pends [] := (rfl)
@[go_sem] theorem empty_mic : LK.mic.empty = .mics [] := (rfl)
@[go_sem] theorem empty_rcd : LK.rcd.empty = .recs [] := (rfl)
@[go_sem] theorem empty_pair : LK.pair.empty = .pairs [] := (rfl)
@[go_sem] theorem empty_slot : LK.slot.empty = .slots [] := (rfl)
@[go_sem] theorem zeros_int (n : Nat) (k : IntKind) : (LK.int k).zeros n = .ints k (List.replicate n 0) := (rfl)
@[go_sem] theorem zeros_bool (n : Nat) : LK.bool.zeros n = .bools (List.replicate n false) := (rfl)
@[go_sem] theorem zeros_pend (n : Nat) : LK.pend.zeros n = .pends (List.replicate n ⟨0, 0, false⟩) := (rfl)
@[go_sem] theorem zeros_mic (n : Nat) : LK.mic.zeros n = .mics (List.replicate n ⟨0, 0, 0⟩) := (rfl)
@[go_sem] theorem zeros_slot (n : Nat) : LK.slot.zeros n = .slots (List.replicate n ⟨0, 0⟩) := (rfl)
@[go_sem] theorem zeros_rcd (n : Nat) : LK.rcd.zeros n = .recs (List.replicate n ⟨0, [], [], 0⟩) := (rfl)
@[go_sem] theorem zeros_pair (n : Nat) : LK.pair.zeros n = .pairs (List.replicate n ⟨[], []⟩) := (rfl)
@[go_sem] theorem zeros_str (n : Nat) : LK.str.zeros n = .strs (List.replicate n []) := (rfl)
@[go_sem] theorem lksize_int (k : IntKind) : (LK.int k).size = 1 := (rfl)
@[go_sem] theorem lksize_bool : LK.bool.size = 1 := (rfl)
@[go_sem] theorem lksize_str : LK.str.size = 1 := (rfl)
@[go_sem] theorem lksize_pend : LK.pend.size = 3 := (rfl)
@[go_sem] theorem lksize_mic : LK.mic.size = 3 := (rfl)
@[go_sem] theorem lksize_rcd : LK.rcd.size = 4 := (rfl)
@[go_sem] theorem lksize_pair : LK.pair.size = 2 := (rfl)
@[go_sem] theorem lksize_slot : LK.slot.size = 2 := (rfl)
variable (k : IntKind) (xs ys : List Int) (bs cs : List Bool) (ps qs : List Pend) (ms ns : List Mic) (rs ss : List RecT) (ts us : List PairT) (vs ws : List SlotT) (ys1 ys2 : List Bytes) (i n : Nat)
@[go_sem] theorem len_ints : (Lst.ints k xs).len = xs.length := (rfl)
@[go_sem] theorem len_bools : (Lst.bools bs).len = bs.length := (rfl)
@[go_sem] theorem len_strs : (Lst.strs ys1).len = ys1.length := (rfl)
@[go_sem] theorem len_pends : (Lst.pends ps).len = ps.length := (rfl)
@[go_sem] theorem len_mics : (Lst.mics ms).len = ms.length := (rfl)
@[go_sem] theorem len_recs : (Lst.recs rs).len = rs.length := (rfl)
@[go_sem] theorem len_pairs : (Lst.pairs ts).len = ts.length := (rfl)
@[go_sem] theorem len_slots : (Lst.slots vs).len = vs.length := (rfl)
@[go_sem] theorem kind_ints : (Lst.ints k xs).kind = .int k := (rfl)
@[go_sem] theorem kind_bools : (Lst.bools bs).kind = .bool := (rfl)
@[go_sem] theorem kind_strs : (Lst.strs ys1).kind = .str := (rfl)
@[go_sem] theorem kind_pends : (Lst.pends ps).kind = .pend := (rfl)
@[go_sem] theorem kind_mics : (Lst.mics ms).kind = .mic := (rfl)
@[go_sem] theorem kind_recs : (Lst.recs rs).kind = .rcd := (rfl)
@[go_sem] theorem kind_pairs : (Lst.pairs ts).kind = .pair := (rfl)
@[go_sem] theorem kind_slots : (Lst.slots vs).kind = .slot := (rfl)
@[go_sem] theorem nth_ints : (Lst.ints k xs).nth i = .int k (xs.getD i 0) := (rfl)
@[go_sem] theorem nth_bools : (Lst.bools bs).nth i = .bool (bs.getD i false) := (rfl)
@[go_sem] theorem nth_strs : (Lst.strs ys1).nth i = .str (ys1.getD i []) := (rfl)
@[go_sem] theorem nth_pends : (Lst.pends ps).nth i = .agg [.int .i64 (ps.getD i ⟨0, 0, false⟩).at_, .int .i64 (ps.getD i ⟨0, 0, false⟩).val, .bool (ps.getD i ⟨0, 0, false⟩).fl] := (rfl)
@[go_sem] theorem nth_mics : (Lst.mics ms).nth i = .agg [.int .i64 (ms.getD i ⟨0, 0, 0⟩).kind, .int .i64 (ms.getD i ⟨0, 0, 0⟩).at_, .int .i64 (ms.getD i ⟨0, 0, 0⟩).val] := (rfl)
@[go_sem] theorem nth_recs : (Lst.recs rs).nth i = .agg [.int .i64 (rs.getD i ⟨0, [], [], 0⟩).kind, .str (rs.getD i ⟨0, [], [], 0⟩).key, .str (rs.getD i ⟨0, [], [], 0⟩).val, .int .i64 (rs.getD i ⟨0, [], [], 0⟩).child] := (rfl)
@[go_sem] theorem nth_pairs : (Lst.pairs ts).nth i = .agg [.str (ts.getD i ⟨[], []⟩).key, .str (ts.getD i ⟨[], []⟩).val] := (rfl)
@[go_sem] theorem nth_slots : (Lst.slots vs).nth i = .agg [.int .i64 (vs.getD i ⟨0, 0⟩).at_, .int .i64 (vs.getD i ⟨0, 0⟩).val] := (rfl)
@[go_sem] theorem cut_ints : (Lst.ints k xs).cut i n = .ints k ((xs.drop i).take n) := (rfl)
@[go_sem] theorem cut_bools : (Lst.bools bs).cut i n = .bools ((bs.drop i).take n) := (rfl)
@[go_sem] theorem cut_strs : (Lst.strs ys1).cut i n = .strs ((ys1.drop i).take n) := (rfl)
@[go_sem] theorem cut_pends : (Lst.pends ps).cut i n = .pends ((ps.drop i).take n) := (rfl)
@[go_sem] theorem cut_mics : (Lst.mics ms).cut i n = .mics ((ms.drop i).take n) := (rfl)
@[go_sem] theorem cut_recs : (Lst.recs rs).cut i n = .recs ((rs.drop i).take n) := (rfl)
@[go_sem] theorem cut_pairs : (Lst.pairs ts).cut i n = .pairs ((ts.drop i).take n) := (rfl)
@[go_sem] theorem cut_slots : (Lst.slots vs).cut i n = .slots ((vs.drop i).take n) := (rfl)
@[go_sem] theorem app_ints : (Lst.ints k xs).app (.ints k ys) = some (.ints k (xs ++ ys)) := by simp [Lst.app]
@[go_sem] theorem app_bools : (Lst.bools bs).app (.bools cs) = some (.bools (bs ++ cs)) := (rfl)
@[go_sem] theorem app_strs : (Lst.strs ys1).app (.strs ys2) = some (.strs (ys1 ++ ys2)) := (rfl)
@[go_sem] theorem app_pends : (Lst.pends ps).app (.pends qs) = some (.pends (ps ++ qs)) := (rfl)
@[go_sem] theorem app_mics : (Lst.mics ms).app (.mics ns) = some (.mics (ms ++ ns)) := (rfl)
@[go_sem] theorem app_recs : (Lst.recs rs).app (.recs ss) = some (.recs (rs ++ ss)) := (rfl)
@[go_sem] theorem app_pairs : (Lst.pairs ts).app (.pairs us) = some (.pairs (ts ++ us)) := (rfl)
@[go_sem] theorem app_slots : (Lst.slots vs).app (.slots ws) = some (.slots (vs ++ ws)) := (rfl)
variable (a b : Int) (x y : Bytes) (p q : Bool)
@[go_sem] theorem set_ints : (Lst.ints k xs).set i (.int k a) = some (.ints k (xs.set i a)) := by simp [Lst.set]
@[go_sem] theorem set_bools : (Lst.bools bs).set i (.bool p) = some (.bools (bs.set i p)) := (rfl)
@[go_sem] theorem set_strs : (Lst.strs ys1).set i (.str x) = some (.strs (ys1.set i x)) := (rfl)
@[go_sem] theorem set_pends : (Lst.pends ps).set i (.agg [.int .i64 a, .int .i64 b, .bool p]) = some (.pends (ps.set i ⟨a, b, p⟩)) := (rfl)
@[go_sem] theorem set_mics (c : Int) : (Lst.mics ms).set i (.agg [.int .i64 a, .int .i64 b, .int .i64 c]) = some (.mics (ms.set i ⟨a, b, c⟩)) := (rfl)
@[go_sem] theorem set_recs : (Lst.recs rs).set i (.agg [.int .i64 a, .str x, .str y, .int .i64 b]) = some (.recs (rs.set i ⟨a, x, y, b⟩)) := (rfl)
@[go_sem] theorem set_pairs : (Lst.pairs ts).set i (.agg [.str x, .str y]) = some (.pairs (ts.set i ⟨x, y⟩)) := (rfl)
@[go_sem] theorem set_slots : (Lst.slots vs).set i (.agg [.int .i64 a, .int .i64 b]) = some (.slots (vs.set i ⟨a, b⟩)) := (rfl)
end lists

section ops
variable (k : IntKind) (a b : Int) (x y : Bytes) (p q : Bool) (h : List AObj) (op : BinOp) (vs ws : List AV) (l l' : Lst) (S : Prop)
@[go_sem] theorem at_nil (v : AV) : v.at_ [] = some v := by cases v <;> exact (rfl)
@[go_sem] theorem at_agg (i off : Nat) (ps : List PS) : (AV.agg vs).at_ (.f i off :: ps) = if AV.sizes (vs.take i) = off then (vs[i]?).bind fun v => v.at_ ps else none := (rfl)
@[go_sem] theorem setAt_nil (u v : AV) : u.setAt [] v = if u.size = v.size then some v else none := by cases u <;> exact (rfl)
@[go_sem] theorem setAt_agg (i off : Nat) (ps : List PS) (v : AV) : (AV.agg vs).setAt (.f i off :: ps) v = if AV.sizes (vs.take i) = off then (vs[i]?).bind fun u => (u.setAt ps v).map fun u' => .agg (vs.set i u') else none := (rfl)
@[go_sem] theorem binD_int (d : TyD) : binD d op (.int k a) (.int k b) = intBinD op k a b := by simp [binD]
@[go_sem] theorem binD_shl (d : TyD) (k' : IntKind) : binD d .shl (.int k a) (.int k' b) = intBinD .shl k a b := by simp [binD, isShift]
@[go_sem] theorem binD_shr (d : TyD) (k' : IntKind) : binD d .shr (.int k a) (.int k' b) = intBinD .shr k a b := by simp [binD, isShift]
@[go_sem] theorem binD_str (d : TyD) : binD d op (.str x) (.str y) = strBinD op x y := (rfl)
@[go_sem] theorem binD_bool (d : TyD) : binD d op (.bool p) (.bool q) = eqOpD op (AV.eqD d (.bool p) (.bool q)) := (rfl)
@[go_sem] theorem binD_agg (d : TyD) : binD d op (.agg vs) (.agg ws) = eqOpD op (AV.eqD d (.agg vs) (.agg ws)) := (rfl)
@[go_sem] theorem binD_arr (d : TyD) : binD d op (.arr l) (.arr l') = eqOpD op (AV.eqD d (.arr l) (.arr l')) := (rfl)
@[go_sem] theorem binD_nilfn (d : TyD) : binD d op .nilfn .nilfn = eqOpD op (AV.eqD d .nilfn .nilfn) := (rfl)
@[go_sem] theorem eqOpD_eql : eqOpD .eql (some p) = pD True (.bool p) := (rfl)
@[go_sem] theorem eqOpD_neq : eqOpD .neq (some p) = pD True (.bool (!p)) := (rfl)
@[go_sem] theorem eqD_int (k' : IntKind) : AV.eqD (.int k') (.int k a) (.int k b) = some (decide (a = b)) := by simp [AV.eqD, scalEq]
@[go_sem] theorem eqD_str : AV.eqD .str (.str x) (.str y) = some (decide (x = y)) := by simp [AV.eqD, scalEq]
@[go_sem] theorem eqD_bool : AV.eqD .bool (.bool p) (.bool q) = some (p == q) := by simp [AV.eqD, scalEq]
@[go_sem] theorem eqD_nilfn : AV.eqD .func .nilfn .nilfn = some true := by simp [AV.eqD, scalEq]
@[go_sem] theorem eqD_agg (fs : List TyD) : AV.eqD (.strct fs) (.agg vs) (.agg ws) = AV.eqsD fs vs ws := by simp [AV.eqD]
@[go_sem] theorem eqD_arr (n : Nat) (xs ys : List Int) : AV.eqD (.arr n (.int k)) (.arr (.ints k xs)) (.arr (.ints k ys)) = if xs.length = n ∧ ys.length = n then some (decide (xs = ys)) else none := by simp [AV.eqD, scalEq]
@[go_sem] theorem eqsD_nil : AV.eqsD [] [] [] = some true := by simp [AV.eqsD]
def bothO : Option Bool → Option Bool → Option Bool
  | some a, some b => some (a && b)
  | _, _ => none
@[go_sem] theorem eqsD_cons (d : TyD) (ds : List TyD) (v w : AV) (r r' : List AV) : AV.eqsD (d :: ds) (v :: r) (w :: r') = bothO (AV.eqD d v w) (AV.eqsD ds r r') := by
  simp only [AV.eqsD]; cases AV.eqD d v w <;> cases AV.eqsD ds r r' <;> rfl
@[go_sem] theorem bothO_some : bothO (some p) (some q) = some (p && q) := (rfl)
@[go_sem] theorem ib_add : intBinD .add k a b = pD True (.int k (k.wrap (a + b))) := (rfl)
@[go_sem] theorem ib_sub : intBinD .sub k a b = pD True (.int k (k.wrap (a - b))) := (rfl)
@[go_sem] theorem ib_mul : intBinD .mul k a b = pD True (.int k (k.wrap (a * b))) := (rfl)
@[go_sem] theorem ib_quo : intBinD .quo k a b = pD (b ≠ 0) (.int k (k.wrap (a.tdiv b))) := (rfl)
@[go_sem] theorem ib_rem : intBinD .rem k a b = pD (b ≠ 0) (.int k (a.tmod b)) := (rfl)
@[go_sem] theorem ib_and : intBinD .and k a b = pD True (.int k (andI k a b)) := (rfl)
@[go_sem] theorem ib_or : intBinD .or k a b = pD True (.int k (orI k a b)) := (rfl)
@[go_sem] theorem ib_xor : intBinD .xor k a b = pD True (.int k (xorI k a b)) := (rfl)
@[go_sem] theorem ib_andNot : intBinD .andNot k a b = pD True (.int k (andNotI k a b)) := (rfl)
@[go_sem] theorem ib_shl : intBinD .shl k a b = pD (0 ≤ b) (.int k (k.wrap (a * 2 ^ (min b.toNat k.bits)))) := (rfl)
@[go_sem] theorem ib_shr : intBinD .shr k a b = pD (0 ≤ b) (.int k (a.fdiv (2 ^ (min b.toNat k.bits)))) := (rfl)
@[go_sem] theorem ib_eql : intBinD .eql k a b = pD True (.bool (decide (a = b))) := (rfl)
@[go_sem] theorem ib_neq : intBinD .neq k a b = pD True (.bool (!decide (a = b))) := (rfl)
@[go_sem] theorem ib_lss : intBinD .lss k a b = pD True (.bool (decide (a < b))) := (rfl)
@[go_sem] theorem ib_leq : intBinD .leq k a b = pD True (.bool (decide (a ≤ b))) := (rfl)
@[go_sem] theorem ib_gtr : intBinD .gtr k a b = pD True (.bool (decide (b < a))) := (rfl)
@[go_sem] theorem ib_geq : intBinD .geq k a b = pD True (.bool (decide (b ≤ a))) := (rfl)
@[go_sem] theorem sb_add : strBinD .add x y = pD (x.length + y.length ≤ 1099511627776) (.str (x ++ y)) := (rfl)
@[go_sem] theorem sb_eql : strBinD .eql x y = pD True (.bool (decide (x = y))) := (rfl)
@[go_sem] theorem sb_neq : strBinD .neq x y = pD True (.bool (!decide (x = y))) := (rfl)
@[go_sem] theorem sb_lss : strBinD .lss x y = pD True (.bool (ltB x y)) := (rfl)
@[go_sem] theorem sb_gtr : strBinD .gtr x y = pD True (.bool (ltB y x)) := (rfl)
@[go_sem] theorem sb_leq : strBinD .leq x y = pD True (.bool (!ltB y x)) := (rfl)
@[go_sem] theorem sb_geq : strBinD .geq x y = pD True (.bool (!ltB x y)) := (rfl)
@[go_sem] theorem listO_row (rk : RK) (ver ver' off len : Nat) : listO (some (.row rk ver' l)) ver off len = if ver = ver' then some (l.cut off len) else none := (rfl)
@[go_sem] theorem list_sl (x : Bool) : (AV.sl x l).list h = some l := (rfl)
@[go_sem] theorem list_sref (x : Bool) (id ver off len : Nat) : (AV.sref x id ver off len).list h = listO (h[id]?) ver off len := (rfl)
@[go_sem] theorem lenO_row (rk : RK) (ver ver' len : Nat) : lenO (some (.row rk ver' l)) ver len = if ver = ver' then some len else none := (rfl)
@[go_sem] theorem avlen_sl (e : LK) (x : Bool) : (AV.sl x l).len (.slice e) h = some l.len := (rfl)
@[go_sem] theorem avlen_sref (e : LK) (x : Bool) (id ver off len : Nat) : (AV.sref x id ver off len).len (.slice e) h = lenO (h[id]?) ver len := (rfl)
@[go_sem] theorem avlen_str : (AV.str x).len .str h = some x.length := (rfl)
@[go_sem] theorem avlen_arr (n : Nat) (e : LK) (v : AV) : v.len (.arr n e) h = some n := (rfl)
@[go_sem] theorem lenD_eq (d : TyD) (v : AV) : lenD d h v = someD (v.len d h) fun n => pD True (.int .i64 n) := (rfl)
@[go_sem] theorem slc_slice (e : LK) : (TyD.slice e).slc = true := (rfl)
@[go_sem] theorem isSlice_slice (e e' : LK) : (TyD.slice e).isSlice e' = decide (e = e') := (rfl)
@[go_sem] theorem isArr_arr (n m : Nat) (e e' : LK) : (TyD.arr n e).isArr m e' = (decide (n = m) && decide (e = e')) := (rfl)
@[go_sem] theorem isStr_str : TyD.str.isStr = true := (rfl)
@[go_sem] theorem rowKind_row (rk : RK) (ver : Nat) : rowKind (some (.row rk ver l)) = some l.kind := (rfl)
@[go_sem] theorem fitsRow_slice (e e' : LK) : (TyD.slice e).fitsRow (some e') = decide (e = e') := (rfl)
@[go_sem] theorem verB_row (rk : RK) (ver ver' : Nat) : verB (some (.row rk ver' l)) ver = decide (ver = ver') := (rfl)
@[go_sem] theorem isMap_ib : (TyD.map .ib).isMap .ib = true := (rfl)
@[go_sem] theorem isMap_ii : (TyD.map .ii).isMap .ii = true := (rfl)
@[go_sem] theorem isMap_sb : (TyD.map .sb).isMap .sb = true := (rfl)
@[go_sem] theorem isMap_ifn : (TyD.map .ifn).isMap .ifn = true := (rfl)
@[go_sem] theorem known_int : (TyD.int k).known = true := (rfl)
@[go_sem] theorem known_bool : TyD.bool.known = true := (rfl)
@[go_sem] theorem known_str : TyD.str.known = true := (rfl)
@[go_sem] theorem known_strct (fs : List TyD) : (TyD.strct fs).known = true := (rfl)
@[go_sem] theorem loadD_ptr (id : Nat) (ps : List PS) : loadD h (.ptr id ps) = loadO (h[id]?) ps := (rfl)
@[go_sem] theorem loadD_ep (i : Nat) (fs : List PS) : loadD h (.ep l i fs) = someD ((l.nth i).at_ fs) fun v => pD True v := (rfl)
@[go_sem] theorem loadO_box (v : AV) (ps : List PS) : loadO (some (.box v)) ps = someD (v.at_ ps) fun u => pD True u := (rfl)
@[go_sem] theorem loadO_arr (ver : Nat) : loadO (some (.row .arr ver l)) [] = pD True (.arr l) := (rfl)
@[go_sem] theorem loadO_row_i (rk : RK) (ver v i sz : Nat) (ps : List PS) : loadO (some (.row rk ver l)) (.i v i sz :: ps) = if v = ver ∧ sz = l.kind.size then someD ((l.nth i).at_ ps) fun v => pD (i < l.len) v else none := by cases rk <;> rfl
@[go_sem] theorem storeH_ptr (d : TyD) (id : Nat) (ps : List PS) (v : AV) : storeH d h (.ptr id ps) v = (storeO (h[id]?) ps v).map fun r => (r.1 ∧ fitP d v, id, r.2) := by
  show (match storeO (h[id]?) ps v with | some (S, o) => some (S ∧ fitP d v, id, o) | none => none) = _
  cases storeO (h[id]?) ps v <;> rfl
@[go_sem] theorem storeO_box (u v : AV) (ps : List PS) : storeO (some (.box u)) ps v = (u.setAt ps v).map fun u' => (True, .box u') := by
  show (match u.setAt ps v with | some u' => some (True, AObj.box u') | none => none) = _
  cases u.setAt ps v <;> rfl
@[go_sem] theorem storeO_arr (ver : Nat) : storeO (some (.row .arr ver l)) [] (.arr l') = if l'.kind = l.kind then some (l'.len = l.len, .row .arr ver l') else none := (rfl)
theorem storeO_row_i (rk : RK) (hk : rk ≠ .fro) (ver vr i sz : Nat) (ps : List PS) (v : AV) : storeO (some (.row rk ver l)) (.i vr i sz :: ps) v = if vr = ver ∧ sz = l.kind.size then ((l.nth i).setAt ps v).bind fun u => (l.set i u).map fun l' => (i < l.len, .row rk ver l') else none := by
  have : storeO (some (.row rk ver l)) (.i vr i sz :: ps) v = if vr = ver ∧ sz = l.kind.size ∧ rk ≠ .fro then (match (l.nth i).setAt ps v with
        | some u => match l.set i u with
          | some l' => some (i < l.len, AObj.row rk ver l')
          | none => none
        | none => none) else none := by cases rk <;> rfl
  rw [this]
  have e : (vr = ver ∧ sz = l.kind.size ∧ rk ≠ .fro) ↔ (vr = ver ∧ sz = l.kind.size) := by simp [hk]
  simp only [e]
  congr 1
  cases (l.nth i).setAt ps v with
  | none => rfl
  | some u => show (match l.set i u with | some l' => some (i < l.len, AObj.row rk ver l') | none => none) = _; cases h0 : l.set i u <;> simp [h0]
@[go_sem] theorem storeO_own_i (ver vr i sz : Nat) (ps : List PS) (v : AV) : storeO (some (.row .own ver l)) (.i vr i sz :: ps) v = if vr = ver ∧ sz = l.kind.size then ((l.nth i).setAt ps v).bind fun u => (l.set i u).map fun l' => (i < l.len, .row .own ver l') else none := storeO_row_i l _ (by simp) _ _ _ _ _ _
@[go_sem] theorem storeO_arr_i (ver vr i sz : Nat) (ps : List PS) (v : AV) : storeO (some (.row .arr ver l)) (.i vr i sz :: ps) v = if vr = ver ∧ sz = l.kind.size then ((l.nth i).setAt ps v).bind fun u => (l.set i u).map fun l' => (i < l.len, .row .arr ver l') else none := storeO_row_i l _ (by simp) _ _ _ _ _ _
@[go_sem] theorem mapSetH_map (d : TyD) (id : Nat) (kk v : AV) : mapSetH d h (.map id) kk v = (mapSetO d (h[id]?) kk v).map fun m => (True, id, .map m) := by
  show (match mapSetO d (h[id]?) kk v with | some m => some (True, id, AObj.map m) | none => none) = _
  cases mapSetO d (h[id]?) kk v <;> rfl
@[go_sem] theorem mapSetO_ib (m : Int → Bool) : mapSetO (.map .ib) (some (.map (.ib m))) (.int .i64 a) (.bool p) = some (.ib fun j => if j = a then p else m j) := (rfl)
@[go_sem] theorem mapSetO_ii (m : Int → Int) : mapSetO (.map .ii) (some (.map (.ii m))) (.int .i64 a) (.int .i64 b) = some (.ii fun j => if j = a then b else m j) := (rfl)
@[go_sem] theorem mapSetO_ifn (m : Int → Option FuncId) (f : FuncId) : mapSetO (.map .ifn) (some (.map (.ifn m))) (.int .i64 a) (.fn (.func f) [] []) = some (.ifn fun j => if j = a then some f else m j) := (rfl)
@[go_sem] theorem mapSetO_sb (m : Bytes → Bool) : mapSetO (.map .sb) (some (.map (.sb m))) (.str x) (.bool p) = some (.sb fun j => if j = x then p else m j) := (rfl)
@[go_sem] theorem lookupD_map (d : TyD) (id : Nat) (kk : AV) : lookupD d h (.map id) kk = lookupO d (h[id]?) kk := (rfl)
@[go_sem] theorem lookupO_ib (m : Int → Bool) : lookupO (.map .ib) (some (.map (.ib m))) (.int .i64 a) = pD True (.bool (m a)) := (rfl)
@[go_sem] theorem lookupO_ii (m : Int → Int) : lookupO (.map .ii) (some (.map (.ii m))) (.int .i64 a) = pD True (.int .i64 (m a)) := (rfl)
@[go_sem] theorem lookupO_ifn (m : Int → Option FuncId) : lookupO (.map .ifn) (some (.map (.ifn m))) (.int .i64 a) = pD True (fnOpt (m a)) := (rfl)
@[go_sem] theorem lookupO_sb (m : Bytes → Bool) : lookupO (.map .sb) (some (.map (.sb m))) (.str x) = pD True (.bool (m x)) := (rfl)
@[go_sem] theorem fnOpt_some (f : FuncId) : fnOpt (some f) = .fn (.func f) [] [] := (rfl)
@[go_sem] theorem appendW_sl (d : TyD) (e : LK) (s x : AV) (K : AV → List AObj → Prop) : appendW d (.slice e) s x h K = runDM (appendD d h s x h.length) (appendH d h s x) h K := (rfl)
@[go_sem] theorem appendW_int (d : TyD) (kk : IntKind) (s : AV) (n : Int) (K : AV → List AObj → Prop) : appendW d (.int kk) s (.int .i64 n) h K = ((0 ≤ n ∧ n ≤ 1099511627776) ∧ runDM (appendD d h s (zeroSl d n) h.length) (appendH d h s (zeroSl d n)) h K) := (rfl)
@[go_sem] theorem zeroSl_slice (e : LK) (n : Int) : zeroSl (.slice e) n = .sl true (e.zeros n.toNat) := (rfl)
@[go_sem] theorem appendD_ex (d : TyD) (xs : Lst) (v : AV) (n : Nat) : appendD d h (.sl true xs) v n = whenD (d.isSlice xs.kind) (someD (v.list h) fun ys => appendExD xs ys n) := (rfl)
@[go_sem] theorem ite_or_false {α : Type} (p : Prop) [Decidable p] (A B : α) : (if p ∨ False then A else B) = if p then A else B := by
  by_cases h : p <;> simp [h]
@[go_sem] theorem ite_or_true {α : Type} (p : Prop) [Decidable p] (A B : α) : (if p ∨ True then A else B) = A := by simp
@[go_sem] theorem ite_is_false {α : Type} (A B : α) : (if False then A else B) = B := by simp
@[go_sem] theorem appendD_rx (d : TyD) (v : AV) (n id ver off len : Nat) : appendD d h (.sref true id ver off len) v n = if len = 0 ∨ ownRow (h[id]?) = false then whenD (d.fitsRow (rowKind (h[id]?))) (someD (listO (h[id]?) ver off len) fun xs => someD (v.list h) fun ys => appendExD xs ys n) else none := (rfl)
@[go_sem] theorem ownRow_own (ver : Nat) (l : Lst) : ownRow (some (.row .own ver l)) = true := (rfl)
@[go_sem] theorem ownRow_arr (ver : Nat) (l : Lst) : ownRow (some (.row .arr ver l)) = false := (rfl)
@[go_sem] theorem ownRow_fro (ver : Nat) (l : Lst) : ownRow (some (.row .fro ver l)) = false := (rfl)
@[go_sem] theorem ownRow_box (v : AV) : ownRow (some (.box v)) = false := (rfl)
@[go_sem] theorem appendD_ro (d : TyD) (v : AV) (n id ver off len : Nat) : appendD d h (.sref false id ver off len) v n = none := (rfl)
@[go_sem] theorem appendExD_eq (xs ys : Lst) (s : Nat) : appendExD xs ys s = someD (xs.app ys) fun zs => some ((0 < ys.len ∨ xs.len = 0) ∧ roomy zs.len, .sref false s 0 0 zs.len, [.row .own 0 zs]) := (rfl)
@[go_sem] theorem appendH_ro (d : TyD) (v : AV) (id ver off len : Nat) : appendH d h (.sref false id ver off len) v = if d.fitsRow (rowKind (h[id]?)) = true then appendO (h[id]?) id ver off len (v.list h) else none := (rfl)
@[go_sem] theorem appendH_rx (d : TyD) (v : AV) (id ver off len : Nat) : appendH d h (.sref true id ver off len) v = if d.fitsRow (rowKind (h[id]?)) = true then appendO (h[id]?) id ver off len (v.list h) else none := (rfl)
@[go_sem] theorem appendO_row (ver ver' id off len : Nat) (ys : Lst) : appendO (some (.row .own ver' l)) id ver off len (some ys) =
    if ver = ver' then (l.app ys).map fun zs => (off = 0 ∧ len = l.len ∧ roomy zs.len, .sref false id (ver + 1) 0 zs.len, id, .row .own (ver + 1) zs) else none := by
  show (if ver = ver' then (match l.app ys with
      | some zs => some (off = 0 ∧ len = l.len ∧ roomy zs.len, AV.sref false id (ver + 1) 0 zs.len, id, AObj.row .own (ver + 1) zs)
      | none => none) else none) = _
  congr 1; cases l.app ys <;> rfl
@[go_sem] theorem copyH_eq (d : TyD) (x : Bool) (id ver off len : Nat) (s : AV) : copyH d h (.sref x id ver off len) s = if d.fitsRow (rowKind (h[id]?)) = true then copyO (h[id]?) id ver off len (s.list h) else none := (rfl)
theorem copyO_row (rk : RK) (hk : rk ≠ .fro) (ver ver' id off len : Nat) (ys : Lst) : copyO (some (.row rk ver' l)) id ver off len (some ys) =
    if ver = ver' then (l.over off len ys).map fun l' => (True, .int .i64 (min len ys.len : Nat), id, .row rk ver' l') else none := by
  show (if ver = ver' ∧ rk ≠ .fro then (match l.over off len ys with
      | some l' => some (True, AV.int .i64 (min len ys.len : Nat), id, AObj.row rk ver' l')
      | none => none) else none) = _
  have e : (ver = ver' ∧ rk ≠ .fro) ↔ ver = ver' := by simp [hk]
  simp only [e]
  congr 1; cases l.over off len ys <;> rfl
@[go_sem] theorem copyO_own (ver ver' id off len : Nat) (ys : Lst) : copyO (some (.row .own ver' l)) id ver off len (some ys) =
    if ver = ver' then (l.over off len ys).map fun l' => (True, .int .i64 (min len ys.len : Nat), id, .row .own ver' l') else none := copyO_row l _ (by simp) _ _ _ _ _ _
@[go_sem] theorem copyO_arr (ver ver' id off len : Nat) (ys : Lst) : copyO (some (.row .arr ver' l)) id ver off len (some ys) =
    if ver = ver' then (l.over off len ys).map fun l' => (True, .int .i64 (min len ys.len : Nat), id, .row .arr ver' l') else none := copyO_row l _ (by simp) _ _ _ _ _ _
@[go_sem] theorem over_ints (xs ys : List Int) (off len : Nat) : (Lst.ints k xs).over off len (.ints k ys) =
    some (.ints k (xs.take off ++ ys.take len ++ (xs.drop (off + min len ys.length)).take (xs.length - (off + min len ys.length)))) := by
  simp [Lst.over, Lst.cut, Lst.app, Lst.len]
@[go_sem] theorem indexAddrD_sl (d : TyD) (x : Bool) (k : IntKind) : indexAddrD d h (.sl x l) (.int k a) = whenD (d.isSlice l.kind) (pD (0 ≤ a ∧ a < l.len) (.ep l a.toNat [])) := (rfl)
@[go_sem] theorem indexAddrD_sref (d : TyD) (x : Bool) (id ver off len : Nat) (k : IntKind) : indexAddrD d h (.sref x id ver off len) (.int k a) = indexArrO (h[id]?) d id ver off len a := (rfl)
@[go_sem] theorem indexAddrD_ptr (d : TyD) (id : Nat) (k : IntKind) : indexAddrD d h (.ptr id []) (.int k a) = indexPtrO (h[id]?) d id a := (rfl)
@[go_sem] theorem indexArrO_row (d : TyD) (rk : RK) (ver ver' id off len : Nat) : indexArrO (some (.row rk ver' l)) d id ver off len a = whenD (d.isSlice l.kind) (if ver = ver' then pD (0 ≤ a ∧ a < len) (.ptr id [.i ver (off + a.toNat) l.kind.size]) else none) := (rfl)
@[go_sem] theorem indexPtrO_arr (d : TyD) (ver id : Nat) : indexPtrO (some (.row .arr ver l)) d id a = whenD (d.isArr l.len l.kind) (pD (0 ≤ a ∧ a < l.len) (.ptr id [.i ver a.toNat l.kind.size])) := (rfl)
@[go_sem] theorem indexD_str (k : IntKind) : indexD .str (.str x) (.int k a) = pD (0 ≤ a ∧ a < x.length) (.int .u8 (x.getD a.toNat 0).toNat) := (rfl)
@[go_sem] theorem indexD_arr (d : TyD) (k : IntKind) : indexD d (.arr l) (.int k a) = whenD (d.isArr l.len l.kind) (pD (0 ≤ a ∧ a < l.len) (l.nth a.toNat)) := (rfl)
@[go_sem] theorem unD_not : unD .not (.bool p) = pD True (.bool (!p)) := (rfl)
@[go_sem] theorem unD_neg : unD .neg (.int k a) = pD True (.int k (k.wrap (0 - a))) := (rfl)
@[go_sem] theorem unD_xor : unD .xor (.int k a) = pD True (.int k (notI k a)) := (rfl)
@[go_sem] theorem convD_int (k1 k' k2 : IntKind) : convD h (.int k1) (.int k') (.int k2 a) = pD True (.int k' (k'.wrap a)) := (rfl)
@[go_sem] theorem convD_str : convD h .str .str (.str x) = pD True (.str x) := (rfl)
@[go_sem] theorem convD_sl (x : Bool) : convD h (.slice (.int .u8)) .str (.sl x l) = bytesD (some l) := (rfl)
@[go_sem] theorem convD_sref (x : Bool) (id ver off len : Nat) : convD h (.slice (.int .u8)) .str (.sref x id ver off len) = bytesD (listO (h[id]?) ver off len) := (rfl)
@[go_sem] theorem bytesD_some (xs : List Int) : bytesD (some (.ints .u8 xs)) = pD True (.str (xs.map fun n => UInt8.ofNat n.toNat)) := (rfl)
@[go_sem] theorem fieldD_eq (fs : List TyD) (f : Nat) : fieldD (.strct fs) (.agg vs) f = if AV.sizes (vs.take f) = TyD.sizes (fs.take f) ∧ f < fs.length ∧ f < vs.length then pD (fitP (fs.getD f .other) (vs.getD f .top)) (vs.getD f .top) else none := (rfl)
@[go_sem] theorem fieldAddrD_ptr (fs : List TyD) (id f : Nat) (ps : List PS) : fieldAddrD (.strct fs) (.ptr id ps) f = if f < fs.length then pD True (.ptr id (ps ++ [.f f (TyD.sizes (fs.take f))])) else none := (rfl)
@[go_sem] theorem fieldAddrD_ep (fs : List TyD) (i f : Nat) (ps : List PS) : fieldAddrD (.strct fs) (.ep l i ps) f = if f < fs.length then pD True (.ep l i (ps ++ [.f f (TyD.sizes (fs.take f))])) else none := (rfl)
@[go_sem] theorem makeSliceD_eq (e : LK) (s : Nat) : makeSliceD (.slice e) (.int .i64 a) (.int .i64 b) s = some (0 ≤ a ∧ a ≤ b ∧ roomy b.toNat, .sref (decide (a = b)) s 0 0 a.toNat, [.row .own 0 (e.zeros a.toNat)]) := (rfl)
@[go_sem] theorem makeMapD_ib (s : Nat) : makeMapD (.map .ib) s = some (True, .map s, [.map (.ib fun _ => false)]) := (rfl)
@[go_sem] theorem makeMapD_ii (s : Nat) : makeMapD (.map .ii) s = some (True, .map s, [.map (.ii fun _ => 0)]) := (rfl)
@[go_sem] theorem makeMapD_sb (s : Nat) : makeMapD (.map .sb) s = some (True, .map s, [.map (.sb fun _ => false)]) := (rfl)
@[go_sem] theorem makeMapD_ifn (s : Nat) : makeMapD (.map .ifn) s = some (True, .map s, [.map (.ifn fun _ => none)]) := (rfl)
@[go_sem] theorem nilCheckD_ptr (id : Nat) (ps : List PS) : nilCheckD (.ptr id ps) = pD True (.ptr id ps) := (rfl)
@[go_sem] theorem nilCheckD_ep (i : Nat) (ps : List PS) : nilCheckD (.ep l i ps) = pD True (.ep l i ps) := (rfl)
@[go_sem] theorem extractD_eq (i : Nat) : extractD (.tup vs) i = if i < vs.length then pD True (vs.getD i .top) else none := (rfl)
@[go_sem] theorem pickD_true (v w : AV) : pickD (.bool true) v w = pD True v := (rfl)
@[go_sem] theorem pickD_false (v w : AV) : pickD (.bool false) v w = pD True w := (rfl)
@[go_sem] theorem minD_int : minD (.int k a) (.int k b) = pD True (.int k (if b < a then b else a)) := by simp [minD]
@[go_sem] theorem maxD_int : maxD (.int k a) (.int k b) = pD True (.int k (if b > a then b else a)) := by simp [maxD]
@[go_sem] theorem maxD_str' : maxD (.str x) (.str y) = pD True (.str (if ltB x y then y else x)) := (rfl)
@[go_sem] theorem buildD_strct (fs : List TyD) (parts : List (Nat × AV)) : buildD (.strct fs) parts = someD (fillAgg (TyD.zeros fs) parts) fun vs => pD True (.agg vs) := (rfl)
@[go_sem] theorem buildD_arr (n : Nat) (e : LK) (parts : List (Nat × AV)) : buildD (.arr n e) parts = someD (fillLst (e.zeros n) parts) fun l => pD True (.arr l) := (rfl)
@[go_sem] theorem buildSliceD_eq (e : LK) (n s : Nat) (parts : List (Nat × AV)) : buildSliceD (.slice e) n parts s = someD (fillLst (e.zeros n) parts) fun l => some (n ≤ 1048576, .sref true s 0 0 n, [.row .own 0 l]) := (rfl)
@[go_sem] theorem fillAgg_nil : fillAgg vs [] = some vs := (rfl)
@[go_sem] theorem fillAgg_cons (i : Nat) (v : AV) (r : List (Nat × AV)) : fillAgg vs ((i, v) :: r) = if i < vs.length ∧ (vs.getD i .top).size = v.size ∧ v.solid = true then fillAgg (vs.set i v) r else none := (rfl)
@[go_sem] theorem fillLst_nil : fillLst l [] = some l := (rfl)
@[go_sem] theorem fillLst_cons (i : Nat) (v : AV) (r : List (Nat × AV)) : fillLst l ((i, v) :: r) = if i < l.len then (l.set i v).bind fun l' => fillLst l' r else none := by
  show (if i < l.len then (match l.set i v with | some l' => fillLst l' r | none => none) else none) = _
  congr 1; cases l.set i v <;> rfl
@[go_sem] theorem boxO_arr : boxO (.arr l) = .row .arr 0 l := (rfl)
@[go_sem] theorem boxO_int : boxO (.int k a) = .box (.int k a) := (rfl)
@[go_sem] theorem boxO_bool : boxO (.bool p) = .box (.bool p) := (rfl)
@[go_sem] theorem boxO_str : boxO (.str x) = .box (.str x) := (rfl)
@[go_sem] theorem boxO_agg : boxO (.agg vs) = .box (.agg vs) := (rfl)
@[go_sem] theorem boxO_sl (x : Bool) : boxO (.sl x l) = .box (.sl x l) := (rfl)
@[go_sem] theorem boxO_sref (x : Bool) (id ver off len : Nat) : boxO (.sref x id ver off len) = .box (.sref x id ver off len) := (rfl)
@[go_sem] theorem boxO_ptr (id : Nat) (ps : List PS) : boxO (.ptr id ps) = .box (.ptr id ps) := (rfl)
@[go_sem] theorem boxO_map (id : Nat) : boxO (.map id) = .box (.map id) := (rfl)
@[go_sem] theorem boxO_nilp : boxO .nilp = .box .nilp := (rfl)
@[go_sem] theorem boxO_top : boxO .top = .box .top := (rfl)
@[go_sem] theorem boxO_fn (f : Fn) : boxO (.fn f vs ws) = .box (.fn f vs ws) := (rfl)
@[go_sem] theorem boxO_nilfn : boxO .nilfn = .box .nilfn := (rfl)
@[go_sem] theorem fitD_p (d : TyD) (v : AV) : fitD d (pD S v) = pD (S ∧ fitP d v) v := (rfl)
@[go_sem] theorem fitP_strct (fs : List TyD) : fitP (.strct fs) (.agg vs) = (AV.sizes vs = TyD.sizes fs) := (rfl)
@[go_sem] theorem fitP_arr (n : Nat) (e : LK) : fitP (.arr n e) (.arr l) = (l.len = n ∧ l.kind = e) := (rfl)
@[go_sem] theorem fitP_int (k' : IntKind) : fitP (.int k') (.int k a) = True := (rfl)
@[go_sem] theorem fitP_bool : fitP .bool (.bool p) = True := (rfl)
@[go_sem] theorem fitP_str : fitP .str (.str x) = True := (rfl)
@[go_sem] theorem fitP_sl (e : LK) (x : Bool) : fitP (.slice e) (.sl x l) = True := (rfl)
@[go_sem] theorem fitP_sref (e : LK) (x : Bool) (id ver off len : Nat) : fitP (.slice e) (.sref x id ver off len) = True := (rfl)
@[go_sem] theorem fitP_ptr (id : Nat) (ps : List PS) : fitP .ptr (.ptr id ps) = True := (rfl)
@[go_sem] theorem fitP_nilp : fitP .ptr .nilp = True := (rfl)
@[go_sem] theorem fitP_ep (i : Nat) (ps : List PS) : fitP .ptr (.ep l i ps) = True := (rfl)
@[go_sem] theorem fitP_map (m : MK) (id : Nat) : fitP (.map m) (.map id) = True := (rfl)
@[go_sem] theorem fitP_fn (f : Fn) : fitP .func (.fn f vs ws) = True := (rfl)
@[go_sem] theorem fitP_nilfn : fitP .func .nilfn = True := (rfl)
end ops

section slices
variable (h : List AObj) (x : Bool) (l : Lst) (s : Bytes) (a b c : Int) (k k' k'' : IntKind) (id ver off len : Nat) (lo hi mx : Option AV)
variable (d : TyD)
@[go_sem] theorem slice_s1 : sliceD .str h (.str s) none (some (.int k b)) none = pD (0 ≤ b ∧ b ≤ s.length) (.str (s.take b.toNat)) := (rfl)
@[go_sem] theorem slice_s2 : sliceD .str h (.str s) (some (.int k a)) none none = pD (0 ≤ a ∧ a ≤ s.length) (.str (s.drop a.toNat)) := (rfl)
@[go_sem] theorem slice_s3 : sliceD .str h (.str s) (some (.int k a)) (some (.int k' b)) none = pD (0 ≤ a ∧ a ≤ b ∧ b ≤ s.length) (.str ((s.drop a.toNat).take (b.toNat - a.toNat))) := (rfl)
@[go_sem] theorem slice_l0 : sliceD d h (.sl x l) none none none = whenD (d.isSlice l.kind) (pD True (.sl x l)) := (rfl)
@[go_sem] theorem slice_l1 : sliceD d h (.sl x l) none (some (.int k b)) none = whenD (d.isSlice l.kind) (pD (0 ≤ b ∧ b ≤ l.len) (.sl false (l.cut 0 b.toNat))) := (rfl)
@[go_sem] theorem slice_l2 : sliceD d h (.sl x l) (some (.int k a)) none none = whenD (d.isSlice l.kind) (pD (0 ≤ a ∧ a ≤ l.len) (.sl x (l.cut a.toNat (l.len - a.toNat)))) := (rfl)
@[go_sem] theorem slice_l3 : sliceD d h (.sl x l) (some (.int k a)) (some (.int k' b)) none = whenD (d.isSlice l.kind) (pD (0 ≤ a ∧ a ≤ b ∧ b ≤ l.len) (.sl false (l.cut a.toNat (b.toNat - a.toNat)))) := (rfl)
@[go_sem] theorem slice_l4 : sliceD d h (.sl x l) none (some (.int k' b)) (some (.int k'' c)) = whenD (d.isSlice l.kind) (pD (0 ≤ b ∧ b ≤ l.len ∧ b = c) (.sl true (l.cut 0 b.toNat))) := (rfl)
@[go_sem] theorem slice_l5 : sliceD d h (.sl x l) (some (.int k a)) (some (.int k' b)) (some (.int k'' c)) = whenD (d.isSlice l.kind) (pD (0 ≤ a ∧ a ≤ b ∧ b ≤ l.len ∧ b = c) (.sl true (l.cut a.toNat (b.toNat - a.toNat)))) := (rfl)
@[go_sem] theorem slice_r1 : sliceD d h (.sref x id ver off len) none (some (.int k b)) none = whenD (d.fitsRow (rowKind (h[id]?))) (whenD (verB (h[id]?) ver) (pD (0 ≤ b ∧ b ≤ len) (.sref false id ver off b.toNat))) := by
  simp [sliceD, sliceSrD]
@[go_sem] theorem slice_r2 : sliceD d h (.sref x id ver off len) (some (.int k a)) none none = whenD (d.fitsRow (rowKind (h[id]?))) (whenD (verB (h[id]?) ver) (pD (0 ≤ a ∧ a ≤ len) (.sref x id ver (off + a.toNat) (len - a.toNat)))) := by
  simp [sliceD, sliceSrD]
@[go_sem] theorem slice_r3 : sliceD d h (.sref x id ver off len) (some (.int k a)) (some (.int k' b)) none = whenD (d.fitsRow (rowKind (h[id]?))) (whenD (verB (h[id]?) ver) (pD (0 ≤ a ∧ a ≤ b ∧ b ≤ len) (.sref false id ver (off + a.toNat) (b.toNat - a.toNat)))) := by
  simp [sliceD, sliceSrD]
@[go_sem] theorem slice_r4 : sliceD d h (.sref x id ver off len) none (some (.int k' b)) (some (.int k'' c)) = whenD (d.fitsRow (rowKind (h[id]?))) (whenD (verB (h[id]?) ver) (pD (0 ≤ b ∧ b ≤ len ∧ b = c) (.sref true id ver off b.toNat))) := by
  simp [sliceD, sliceSrD]
@[go_sem] theorem slice_r5 : sliceD d h (.sref x id ver off len) (some (.int k a)) (some (.int k' b)) (some (.int k'' c)) = whenD (d.fitsRow (rowKind (h[id]?))) (whenD (verB (h[id]?) ver) (pD (0 ≤ a ∧ a ≤ b ∧ b ≤ len ∧ b = c) (.sref true id ver (off + a.toNat) (b.toNat - a.toNat)))) := by
  simp [sliceD, sliceSrD]
@[go_sem] theorem slice_p (lo hi mx : Option AV) : sliceD d h (.ptr id []) lo hi mx = sliceArrD (h[id]?) id d lo hi mx := (rfl)
@[go_sem] theorem sliceArr_0 : sliceArrD (some (.row .arr ver l)) id d none none none = whenD (d.isArr l.len l.kind) (pD True (.sref true id ver 0 l.len)) := by
  simp [sliceArrD]
@[go_sem] theorem sliceArr_2 : sliceArrD (some (.row .arr ver l)) id d (some (.int k a)) none none = whenD (d.isArr l.len l.kind) (pD (0 ≤ a ∧ a ≤ l.len) (.sref true id ver a.toNat (l.len - a.toNat))) := by
  simp [sliceArrD]
@[go_sem] theorem sliceArr_1 : sliceArrD (some (.row .arr ver l)) id d none (some (.int k' b)) none = whenD (d.isArr l.len l.kind) (pD (0 ≤ b ∧ b ≤ l.len) (.sref false id ver 0 b.toNat)) := by
  simp [sliceArrD]
@[go_sem] theorem sliceArr_3 : sliceArrD (some (.row .arr ver l)) id d (some (.int k a)) (some (.int k' b)) none = whenD (d.isArr l.len l.kind) (pD (0 ≤ a ∧ a ≤ b ∧ b ≤ l.len) (.sref false id ver a.toNat (b.toNat - a.toNat))) := by
  simp [sliceArrD]
end slices

section vals
variable (h : List AObj) (x : Bool) (l : Lst) (vs ws : List AV) (n : Nat)
@[go_sem] theorem vals_nil : AV.vals h [] = some [] := (rfl)
def consO : Option AV → Option (List AV) → Option (List AV)
  | some a, some b => some (a :: b)
  | _, _ => none
@[go_sem] theorem vals_cons (v : AV) (r : List AV) : AV.vals h (v :: r) = consO (v.val h) (AV.vals h r) := by
  show (match v.val h, AV.vals h r with | some a, some b => some (a :: b) | _, _ => none) = _
  cases v.val h <;> cases AV.vals h r <;> rfl
@[go_sem] theorem consO_some (a : AV) (b : List AV) : consO (some a) (some b) = some (a :: b) := (rfl)
@[go_sem] theorem val_sref (id ver off len : Nat) : (AV.sref x id ver off len).val h = (listO (h[id]?) ver off len).map fun l => .sl false l := (rfl)
@[go_sem] theorem val_sl : (AV.sl x l).val h = some (.sl false l) := (rfl)
@[go_sem] theorem val_agg : (AV.agg vs).val h = (AV.vals h vs).map .agg := (rfl)
@[go_sem] theorem val_tup : (AV.tup vs).val h = (AV.vals h vs).map .tup := (rfl)
@[go_sem] theorem val_int (k : IntKind) (a : Int) : (AV.int k a).val h = some (.int k a) := (rfl)
@[go_sem] theorem val_bool (b : Bool) : (AV.bool b).val h = some (.bool b) := (rfl)
@[go_sem] theorem val_str (s : Bytes) : (AV.str s).val h = some (.str s) := (rfl)
@[go_sem] theorem val_ptr (id : Nat) (p : List PS) : (AV.ptr id p).val h = some (.ptr id p) := (rfl)
@[go_sem] theorem val_map (id : Nat) : (AV.map id).val h = some (.map id) := (rfl)
@[go_sem] theorem val_fn (f : Fn) : (AV.fn f vs ws).val h = some (.fn f vs ws) := (rfl)
@[go_sem] theorem val_arr : (AV.arr l).val h = some (.arr l) := (rfl)
@[go_sem] theorem val_nilp : AV.nilp.val h = some .nilp := (rfl)
@[go_sem] theorem val_top : AV.top.val h = some .top := (rfl)
@[go_sem] theorem shift_int (k : IntKind) (a : Int) : (AV.int k a).shift n = .int k a := (rfl)
@[go_sem] theorem shift_bool (b : Bool) : (AV.bool b).shift n = .bool b := (rfl)
@[go_sem] theorem shift_str (s : Bytes) : (AV.str s).shift n = .str s := (rfl)
@[go_sem] theorem shift_sl : (AV.sl x l).shift n = .sl x l := (rfl)
@[go_sem] theorem shift_arr : (AV.arr l).shift n = .arr l := (rfl)
@[go_sem] theorem shift_fn (f : Fn) : (AV.fn f vs ws).shift n = .fn f vs ws := (rfl)
@[go_sem] theorem shift_sref (id ver off len : Nat) : (AV.sref x id ver off len).shift n = .sref x (n + id) ver off len := (rfl)
@[go_sem] theorem shift_map (id : Nat) : (AV.map id).shift n = .map (n + id) := (rfl)
@[go_sem] theorem shift_ptr (id : Nat) (p : List PS) : (AV.ptr id p).shift n = .ptr (n + id) p := (rfl)
@[go_sem] theorem shift_agg : (AV.agg vs).shift n = .agg (AV.shifts n vs) := (rfl)
@[go_sem] theorem shift_tup : (AV.tup vs).shift n = .tup (AV.shifts n vs) := (rfl)
@[go_sem] theorem shifts_nil : AV.shifts n [] = [] := (rfl)
@[go_sem] theorem shifts_cons (v : AV) (r : List AV) : AV.shifts n (v :: r) = v.shift n :: AV.shifts n r := (rfl)
@[go_sem] theorem rows_sref (id ver off len : Nat) : (AV.sref x id ver off len).rows = [id] := (rfl)
@[go_sem] theorem rows_sl : (AV.sl x l).rows = [] := (rfl)
@[go_sem] theorem rows_agg : (AV.agg vs).rows = AV.rowss vs := (rfl)
@[go_sem] theorem rows_tup : (AV.tup vs).rows = AV.rowss vs := (rfl)
@[go_sem] theorem rows_int (k : IntKind) (a : Int) : (AV.int k a).rows = [] := (rfl)
@[go_sem] theorem rows_bool (b : Bool) : (AV.bool b).rows = [] := (rfl)
@[go_sem] theorem rows_str (s : Bytes) : (AV.str s).rows = [] := (rfl)
@[go_sem] theorem rows_arr : (AV.arr l).rows = [] := (rfl)
@[go_sem] theorem rows_ptr (id : Nat) (p : List PS) : (AV.ptr id p).rows = [] := (rfl)
@[go_sem] theorem rows_map (id : Nat) : (AV.map id).rows = [] := (rfl)
@[go_sem] theorem rows_fn (f : Fn) : (AV.fn f vs ws).rows = [] := (rfl)
@[go_sem] theorem rows_nilfn : AV.nilfn.rows = [] := (rfl)
@[go_sem] theorem rows_nilp : AV.nilp.rows = [] := (rfl)
@[go_sem] theorem rows_ep (i : Nat) (fs : List PS) : (AV.ep l i fs).rows = [] := (rfl)
@[go_sem] theorem rows_top : AV.top.rows = [] := (rfl)
@[go_sem] theorem rows_iface (t : TypeId) (v : AV) : (AV.iface t v).rows = [] := (rfl)
@[go_sem] theorem rows_niliface : AV.niliface.rows = [] := (rfl)
@[go_sem] theorem rowss_nil : AV.rowss [] = [] := (rfl)
@[go_sem] theorem rowss_cons (v : AV) (r : List AV) : AV.rowss (v :: r) = v.rows ++ AV.rowss r := (rfl)
@[go_sem] theorem noSl_int (k : IntKind) (a : Int) : (AV.int k a).noSl = true := (rfl)
@[go_sem] theorem noSl_bool (b : Bool) : (AV.bool b).noSl = true := (rfl)
@[go_sem] theorem noSl_str (s : Bytes) : (AV.str s).noSl = true := (rfl)
@[go_sem] theorem noSl_arr : (AV.arr l).noSl = true := (rfl)
@[go_sem] theorem noSl_nilp : AV.nilp.noSl = true := (rfl)
@[go_sem] theorem noSl_nilfn : AV.nilfn.noSl = true := (rfl)
@[go_sem] theorem noSl_sl : (AV.sl x l).noSl = false := (rfl)
@[go_sem] theorem noSl_agg : (AV.agg vs).noSl = AV.noSls vs := (rfl)
@[go_sem] theorem noSl_tup : (AV.tup vs).noSl = AV.noSls vs := (rfl)
@[go_sem] theorem noSl_fn (f : Fn) : (AV.fn f vs ws).noSl = (AV.noSls vs && AV.noSls ws) := (rfl)
@[go_sem] theorem noSls_nil : AV.noSls [] = true := (rfl)
@[go_sem] theorem noSls_cons (v : AV) (r : List AV) : AV.noSls (v :: r) = (v.noSl && AV.noSls r) := (rfl)
@[go_sem] theorem noSl_ite (p : Prop) [Decidable p] (v w : AV) : (if p then v else w).noSl = (if p then v.noSl else w.noSl) := by split <;> rfl
@[go_sem] theorem closed_sref (id ver off len : Nat) : (AV.sref x id ver off len).closed = false := (rfl)
@[go_sem] theorem closed_ptr (id : Nat) (p : List PS) : (AV.ptr id p).closed = false := (rfl)
@[go_sem] theorem closed_map (id : Nat) : (AV.map id).closed = false := (rfl)
@[go_sem] theorem closed_nilp : AV.nilp.closed = true := (rfl)
@[go_sem] theorem closed_nilfn : AV.nilfn.closed = true := (rfl)
@[go_sem] theorem solid_int (k : IntKind) (a : Int) : (AV.int k a).solid = true := (rfl)
@[go_sem] theorem solid_bool (b : Bool) : (AV.bool b).solid = true := (rfl)
@[go_sem] theorem solid_str (s : Bytes) : (AV.str s).solid = true := (rfl)
@[go_sem] theorem solid_sl : (AV.sl x l).solid = true := (rfl)
@[go_sem] theorem solid_sref (id ver off len : Nat) : (AV.sref x id ver off len).solid = true := (rfl)
@[go_sem] theorem solid_agg : (AV.agg vs).solid = true := (rfl)
@[go_sem] theorem solid_arr : (AV.arr l).solid = true := (rfl)
@[go_sem] theorem solid_ptr (id : Nat) (p : List PS) : (AV.ptr id p).solid = true := (rfl)
@[go_sem] theorem solid_map (id : Nat) : (AV.map id).solid = true := (rfl)
@[go_sem] theorem solid_nilp : AV.nilp.solid = true := (rfl)
@[go_sem] theorem solid_nilfn : AV.nilfn.solid = true := (rfl)
@[go_sem] theorem solid_fn (f : Fn) : (AV.fn f vs ws).solid = true := (rfl)
@[go_sem] theorem ids_sref (id ver off len : Nat) : (AV.sref x id ver off len).ids = [id] := (rfl)
@[go_sem] theorem ids_sl : (AV.sl x l).ids = [] := (rfl)
@[go_sem] theorem ids_agg : (AV.agg vs).ids = AV.idss vs := (rfl)
@[go_sem] theorem ids_tup : (AV.tup vs).ids = AV.idss vs := (rfl)
@[go_sem] theorem ids_int (k : IntKind) (a : Int) : (AV.int k a).ids = [] := (rfl)
@[go_sem] theorem ids_bool (b : Bool) : (AV.bool b).ids = [] := (rfl)
@[go_sem] theorem ids_str (s : Bytes) : (AV.str s).ids = [] := (rfl)
@[go_sem] theorem ids_arr : (AV.arr l).ids = [] := (rfl)
@[go_sem] theorem ids_ptr (id : Nat) (p : List PS) : (AV.ptr id p).ids = [id] := (rfl)
@[go_sem] theorem ids_map (id : Nat) : (AV.map id).ids = [id] := (rfl)
@[go_sem] theorem ids_fn (f : Fn) : (AV.fn f vs ws).ids = AV.idss vs ++ AV.idss ws := (rfl)
@[go_sem] theorem ids_nilp : AV.nilp.ids = [] := (rfl)
@[go_sem] theorem ids_nilfn : AV.nilfn.ids = [] := (rfl)
@[go_sem] theorem ids_ep (i : Nat) (fs : List PS) : (AV.ep l i fs).ids = [] := (rfl)
@[go_sem] theorem ids_top : AV.top.ids = [] := (rfl)
@[go_sem] theorem idss_nil : AV.idss [] = [] := (rfl)
@[go_sem] theorem idss_cons (v : AV) (r : List AV) : AV.idss (v :: r) = v.ids ++ AV.idss r := (rfl)
@[go_sem] theorem norm_nilfn : AV.nilfn.norm n h = .nilfn := (rfl)
@[go_sem] theorem closeds_nil : AV.closeds [] = true := (rfl)
@[go_sem] theorem closeds_cons (v : AV) (r : List AV) : AV.closeds (v :: r) = (v.closed && AV.closeds r) := (rfl)
@[go_sem] theorem closed_int (k : IntKind) (a : Int) : (AV.int k a).closed = true := (rfl)
@[go_sem] theorem closed_bool (b : Bool) : (AV.bool b).closed = true := (rfl)
@[go_sem] theorem closed_str (s : Bytes) : (AV.str s).closed = true := (rfl)
@[go_sem] theorem closed_sl : (AV.sl x l).closed = true := (rfl)
@[go_sem] theorem closed_arr : (AV.arr l).closed = true := (rfl)
@[go_sem] theorem closed_agg : (AV.agg vs).closed = AV.closeds vs := (rfl)
@[go_sem] theorem closed_fn (f : Fn) : (AV.fn f vs ws).closed = (AV.closeds vs && AV.closeds ws) := (rfl)
@[go_sem] theorem norms_nil : AV.norms n h [] = [] := (rfl)
@[go_sem] theorem norms_cons (v : AV) (r : List AV) : AV.norms n h (v :: r) = v.norm n h :: AV.norms n h r := (rfl)
@[go_sem] theorem norm_int (k : IntKind) (a : Int) : (AV.int k a).norm n h = .int k a := (rfl)
@[go_sem] theorem norm_bool (b : Bool) : (AV.bool b).norm n h = .bool b := (rfl)
@[go_sem] theorem norm_str (s : Bytes) : (AV.str s).norm n h = .str s := (rfl)
@[go_sem] theorem norm_sl : (AV.sl x l).norm n h = .sl false l := (rfl)
@[go_sem] theorem norm_arr : (AV.arr l).norm n h = .arr l := (rfl)
@[go_sem] theorem norm_nilp : AV.nilp.norm n h = .nilp := (rfl)
@[go_sem] theorem norm_top : AV.top.norm n h = .top := (rfl)
@[go_sem] theorem norm_und : AV.und.norm n h = .und := (rfl)
@[go_sem] theorem norm_ptr (id : Nat) (p : List PS) : (AV.ptr id p).norm n h = if id < n then .ptr id p else .top := (rfl)
@[go_sem] theorem norm_map (id : Nat) : (AV.map id).norm n h = if id < n then .map id else .top := (rfl)
@[go_sem] theorem norm_agg : (AV.agg vs).norm n h = .agg (AV.norms n h vs) := (rfl)
@[go_sem] theorem norm_tup : (AV.tup vs).norm n h = .tup (AV.norms n h vs) := (rfl)
@[go_sem] theorem norm_fn (f : Fn) : (AV.fn f vs ws).norm n h = .fn f (AV.norms n h vs) (AV.norms n h ws) := (rfl)
@[go_sem] theorem norm_ep (i : Nat) (fs : List PS) : (AV.ep l i fs).norm n h = .ep l i fs := (rfl)
@[go_sem] theorem norm_sref (id ver off len : Nat) : (AV.sref x id ver off len).norm n h = normR n (h[id]?) id ver off len := (rfl)
@[go_sem] theorem normR_row (rk : RK) (id ver ver' off len : Nat) : normR n (some (.row rk ver' l)) id ver off len = if ver = ver' then (if id < n then .sref false id ver off len else .sl false (l.cut off len)) else .top := (rfl)
@[go_sem] theorem normH_eq : normH n h = (h.take n).map (normO n h) := (rfl)
@[go_sem] theorem normO_box (v : AV) : normO n h (.box v) = .box (v.norm n h) := (rfl)
@[go_sem] theorem normO_row (rk : RK) (ver : Nat) : normO n h (.row rk ver l) = .row rk ver l := (rfl)
@[go_sem] theorem normO_map (m : MapC) : normO n h (.map m) = .map m := (rfl)
@[go_sem] theorem normO_dead : normO n h .dead = .dead := (rfl)
@[go_sem] theorem promV_nil (K : List AV → List AObj → Prop) : promV [] vs h K = K vs h := by cases vs <;> rfl
@[go_sem] theorem promV_nil' (fs : List Bool) (K : List AV → List AObj → Prop) : promV fs [] h K = K [] h := by
  cases fs with
  | nil => rfl
  | cons f r => cases f <;> rfl
@[go_sem] theorem promV_false (fs : List Bool) (v : AV) (K : List AV → List AObj → Prop) : promV (false :: fs) (v :: vs) h K = promV fs vs h fun us h' => K (v :: us) h' := (rfl)
@[go_sem] theorem promV_sref (fs : List Bool) (x : Bool) (id ver off len : Nat) (vs : List AV) (K : List AV → List AObj → Prop) : promV (true :: fs) (.sref x id ver off len :: vs) h K = promV fs vs h fun us h' => K (.sref x id ver off len :: us) h' := (rfl)
@[go_sem] theorem promV_true (fs : List Bool) (l : Lst) (K : List AV → List AObj → Prop) : promV (true :: fs) (.sl true l :: vs) h K = (l.len = 0 ∧ promV fs vs (h ++ [.row .own 0 l]) fun us h' => K (.sref false h.length 0 0 0 :: us) h') := (rfl)
end vals

@[go_sem] theorem cast_lit (n : Nat) : ((no_index (OfNat.ofNat n) : Nat) : Int) = OfNat.ofNat n := (rfl)
attribute [go_sem] Bool.and_false Bool.false_and ite_self List.take_length false_imp_iff true_imp_iff not_true_eq_false decide_true decide_false List.length_replicate List.length_set Int.toNat_natCast Bool.and_self List.modify_zero_cons List.modify_succ_cons eq_self and_self implies_true List.getElem?_cons_zero List.getElem?_cons_succ List.set_cons_zero List.set_cons_succ List.cons_append List.nil_append List.append_nil List.length_cons List.length_nil List.take_succ_cons List.take_zero List.take_nil List.getD_cons_zero List.getD_cons_succ List.map_cons List.map_nil Option.bind_some Option.bind_none Option.map_some Option.map_none true_and and_true Nat.add_zero Nat.zero_add if_true if_false Bool.true_eq_false Bool.false_eq_true Bool.not_true Bool.not_false Bool.and_true Bool.true_and or_true true_or reduceCtorEq reduceIte List.drop_zero List.append_assoc decide_eq_true_eq decide_eq_false_iff_not Bool.not_eq_true' Bool.not_eq_false' ne_eq not_false_eq_true forall_const
end Lam
set_option linter.unusedVariables false
set_option linter.unusedSimpArgs false
set_option linter.unnecessarySimpa false
set_option linter.unusedSectionVars false
namespace Lam
open Go
@[go_sem] theorem lookF_nil (f : FuncId) (vs : List AV) : lookF [] f vs = none := (rfl)
@[go_sem] theorem lookI_nil (f : FuncId) (Y : Con) (a : List AV) (h : List AObj) (K' : AOut → List AObj → Prop) : lookI [] f Y a h K' = False := (rfl)
@[go_sem] theorem lookI_cons (f g : FuncId) (C : Con → Con) (r : List (FuncId × (Con → Con))) : lookI ((g, C) :: r) f = if f = g then C else lookI r f := by
  by_cases h : f = g
  · subst h; simp [lookI]
  · have : Nat.beq f g = false := by rw [Bool.eq_false_iff]; intro e; exact h (Nat.eq_of_beq_eq_true e)
    simp [lookI, this, h]
@[go_sem] theorem lookF_cons (g f : FuncId) (C : Contract) (r : List (FuncId × Contract)) : lookF ((g, C) :: r) f = if f = g then C else lookF r f := by
  by_cases h : f = g
  · subst h; simp [lookF]
  · have : Nat.beq f g = false := by rw [Bool.eq_false_iff]; intro e; exact h (Nat.eq_of_beq_eq_true e)
    simp [lookF, this, h]
@[go_sem] theorem lookS_nil (f : FuncId) (vs : List AV) (h : List AObj) (K : AOut → List AObj → Prop) : lookS [] f vs h K = False := (rfl)
@[go_sem] theorem lookS_cons (g f : FuncId) (C : Con) (r : List (FuncId × Con)) : lookS ((g, C) :: r) f = if f = g then C else lookS r f := by
  by_cases h : f = g
  · subst h; simp [lookS]
  · have : Nat.beq f g = false := by rw [Bool.eq_false_iff]; intro e; exact h (Nat.eq_of_beq_eq_true e)
    simp [lookS, this, h]
theorem w64 {n : Int} (h1 : -9223372036854775808 ≤ n) (h2 : n < 9223372036854775808) : IntKind.i64.wrap n = n := by rw [IntKind.wrap_i64]; omega
theorem u8_range (n : Int) : 0 ≤ IntKind.u8.wrap n ∧ IntKind.u8.wrap n < 256 := by simp [IntKind.wrap, IntKind.bits, IntKind.signed]; omega
theorem u32_range (n : Int) : 0 ≤ IntKind.u32.wrap n ∧ IntKind.u32.wrap n < 4294967296 := by simp [IntKind.wrap, IntKind.bits, IntKind.signed]; omega
theorem u64_range (n : Int) : 0 ≤ IntKind.u64.wrap n ∧ IntKind.u64.wrap n < 18446744073709551616 := by simp [IntKind.wrap, IntKind.bits, IntKind.signed]; omega
theorem u64_id {n : Int} (h1 : 0 ≤ n) (h2 : n < 18446744073709551616) : IntKind.u64.wrap n = n := by simp [IntKind.wrap, IntKind.bits, IntKind.signed]; omega
abbrev J2 := AV → AV → List AObj → Prop
@[congr] theorem joinW_congr {α : Type} {A A' : α → Prop} {k : α} (e : ∀ J, A J = A' J) : joinW A k = joinW A' k := by unfold joinW; exact e k
theorem joinW_eq {α : Type} (A : α → Prop) (k : α) : joinW A k = A k := (rfl)
section
variable (p q : Bool) (S : Prop) (h : List AObj) (F : AV → List AObj → Prop)
@[go_sem] theorem join_and : joinW (fun J : J2 => guardW (.bool p) true (J (.bool true) (.bool q) h) (J (.bool false) .und h)) (fun t v h' => runD (pickD t v (.bool false)) h' F) = F (.bool (p && q)) h := by
  cases p <;> simp [joinW, guardW, pickD, pD, runD]
@[go_sem] theorem join_and_s : joinW (fun J : J2 => guardW (.bool p) true (S ∧ J (.bool true) (.bool q) h) (J (.bool false) .und h)) (fun t v h' => runD (pickD t v (.bool false)) h' F) = ((p = true → S) ∧ F (.bool (p && q)) h) := by
  cases p <;> simp [joinW, guardW, pickD, pD, runD]
@[go_sem] theorem join_or : joinW (fun J : J2 => guardW (.bool p) false (J (.bool false) (.bool q) h) (J (.bool true) .und h)) (fun t v h' => runD (pickD t (.bool true) v) h' F) = F (.bool (p || q)) h := by
  cases p <;> simp [joinW, guardW, pickD, pD, runD]
@[go_sem] theorem join_or_s : joinW (fun J : J2 => guardW (.bool p) false (S ∧ J (.bool false) (.bool q) h) (J (.bool true) .und h)) (fun t v h' => runD (pickD t (.bool true) v) h' F) = ((p = false → S) ∧ F (.bool (p || q)) h) := by
  cases p <;> simp [joinW, guardW, pickD, pD, runD]
variable (S2 S3 S4 S5 : Prop)
@[go_sem] theorem join_and_s2 : joinW (fun J : J2 => guardW (.bool p) true (S ∧ S2 ∧ J (.bool true) (.bool q) h) (J (.bool false) .und h)) (fun t v h' => runD (pickD t v (.bool false)) h' F) = ((p = true → S ∧ S2) ∧ F (.bool (p && q)) h) := by
  cases p <;> simp [joinW, guardW, pickD, pD, runD, and_assoc]
@[go_sem] theorem join_or_s2 : joinW (fun J : J2 => guardW (.bool p) false (S ∧ S2 ∧ J (.bool false) (.bool q) h) (J (.bool true) .und h)) (fun t v h' => runD (pickD t (.bool true) v) h' F) = ((p = false → S ∧ S2) ∧ F (.bool (p || q)) h) := by
  cases p <;> simp [joinW, guardW, pickD, pD, runD, and_assoc]
@[go_sem] theorem join_and_s3 : joinW (fun J : J2 => guardW (.bool p) true (S ∧ S2 ∧ S3 ∧ J (.bool true) (.bool q) h) (J (.bool false) .und h)) (fun t v h' => runD (pickD t v (.bool false)) h' F) = ((p = true → S ∧ S2 ∧ S3) ∧ F (.bool (p && q)) h) := by
  cases p <;> simp [joinW, guardW, pickD, pD, runD, and_assoc]
@[go_sem] theorem join_or_s3 : joinW (fun J : J2 => guardW (.bool p) false (S ∧ S2 ∧ S3 ∧ J (.bool false) (.bool q) h) (J (.bool true) .und h)) (fun t v h' => runD (pickD t (.bool true) v) h' F) = ((p = false → S ∧ S2 ∧ S3) ∧ F (.bool (p || q)) h) := by
  cases p <;> simp [joinW, guardW, pickD, pD, runD, and_assoc]
@[go_sem] theorem join_and_s4 : joinW (fun J : J2 => guardW (.bool p) true (S ∧ S2 ∧ S3 ∧ S4 ∧ J (.bool true) (.bool q) h) (J (.bool false) .und h)) (fun t v h' => runD (pickD t v (.bool false)) h' F) = ((p = true → S ∧ S2 ∧ S3 ∧ S4) ∧ F (.bool (p && q)) h) := by
  cases p <;> simp [joinW, guardW, pickD, pD, runD, and_assoc]
@[go_sem] theorem join_or_s4 : joinW (fun J : J2 => guardW (.bool p) false (S ∧ S2 ∧ S3 ∧ S4 ∧ J (.bool false) (.bool q) h) (J (.bool true) .und h)) (fun t v h' => runD (pickD t (.bool true) v) h' F) = ((p = false → S ∧ S2 ∧ S3 ∧ S4) ∧ F (.bool (p || q)) h) := by
  cases p <;> simp [joinW, guardW, pickD, pD, runD, and_assoc]
@[go_sem] theorem join_and_s5 : joinW (fun J : J2 => guardW (.bool p) true (S ∧ S2 ∧ S3 ∧ S4 ∧ S5 ∧ J (.bool true) (.bool q) h) (J (.bool false) .und h)) (fun t v h' => runD (pickD t v (.bool false)) h' F) = ((p = true → S ∧ S2 ∧ S3 ∧ S4 ∧ S5) ∧ F (.bool (p && q)) h) := by
  cases p <;> simp [joinW, guardW, pickD, pD, runD, and_assoc]
@[go_sem] theorem join_or_s5 : joinW (fun J : J2 => guardW (.bool p) false (S ∧ S2 ∧ S3 ∧ S4 ∧ S5 ∧ J (.bool false) (.bool q) h) (J (.bool true) .und h)) (fun t v h' => runD (pickD t (.bool true) v) h' F) = ((p = false → S ∧ S2 ∧ S3 ∧ S4 ∧ S5) ∧ F (.bool (p || q)) h) := by
  cases p <;> simp [joinW, guardW, pickD, pD, runD, and_assoc]
end
theorem take_next {α : Type} (l : List α) (k : Nat) (d : α) (h : k < l.length) : l.take (k + 1) = l.take k ++ [l.getD k d] := by
  rw [List.take_add_one, List.getD_eq_getElem?_getD, List.getElem?_eq_getElem h]; rfl
theorem getD_mem {α : Type} (l : List α) (k : Nat) (d : α) (h : k < l.length) : l.getD k d ∈ l := by
  rw [List.getD_eq_getElem?_getD, List.getElem?_eq_getElem h]; exact List.getElem_mem h
attribute [go_sem] Bool.true_or Bool.false_or Bool.or_false Bool.or_true Bool.and_false Bool.false_and beq_self_eq_true
theorem wf_64 {n : Int} (h : (Lit.int .i64 n).wf = true) : -9223372036854775808 ≤ n ∧ n < 9223372036854775808 := by
  simp [Lit.wf, IntKind.min, IntKind.max, IntKind.signed, IntKind.bits] at h; omega
end Lam
namespace Lam
open Go
set_option linter.unusedVariables false
set_option linter.unnecessarySimpa false
set_option linter.unusedSimpArgs false
section
variable {σ : Type}
abbrev LB := Nat → List AV → List AObj → Prop
theorem loop1 {B : LB → Nat → List AObj → AV → Prop} {lv : List AV} {h0 : List AObj} (V0 : σ → AV) (H : σ → List AObj) (M : σ → Nat) (Q : σ → Prop) (s0 : σ) (hv : lv = [V0 s0]) (hh : h0 = H s0) (q0 : Q s0)
    (step : ∀ (I : LB), (∀ {n : Nat} {lv : List AV} {h : List AObj} (s : σ), M s < n → lv = [V0 s] → h = H s → Q s → ∃ m, m < n ∧ I m lv h) → ∀ s, Q s → B I (M s) (H s) (V0 s)) : ∃ I : LB, (∃ n, I n lv h0) ∧ ∀ n h, ∀ t0, I n [t0] h → B I n h t0 := by
  refine ⟨fun m lv h => ∃ s, m = M s ∧ lv = [V0 s] ∧ h = H s ∧ Q s, ⟨_, s0, rfl, hv, hh, q0⟩, ?_⟩
  rintro n h t0 ⟨s, rfl, e, rfl, q⟩
  cases e
  exact step _ (fun s hm hv hh q => ⟨_, hm, s, rfl, hv, hh, q⟩) s q
theorem loop2 {B : LB → Nat → List AObj → AV → AV → Prop} {lv : List AV} {h0 : List AObj} (V0 V1 : σ → AV) (H : σ → List AObj) (M : σ → Nat) (Q : σ → Prop) (s0 : σ) (hv : lv = [V0 s0, V1 s0]) (hh : h0 = H s0) (q0 : Q s0)
    (step : ∀ (I : LB), (∀ {n : Nat} {lv : List AV} {h : List AObj} (s : σ), M s < n → lv = [V0 s, V1 s] → h = H s → Q s → ∃ m, m < n ∧ I m lv h) → ∀ s, Q s → B I (M s) (H s) (V0 s) (V1 s)) : ∃ I : LB, (∃ n, I n lv h0) ∧ ∀ n h, ∀ t0 t1, I n [t0, t1] h → B I n h t0 t1 := by
  refine ⟨fun m lv h => ∃ s, m = M s ∧ lv = [V0 s, V1 s] ∧ h = H s ∧ Q s, ⟨_, s0, rfl, hv, hh, q0⟩, ?_⟩
  rintro n h t0 t1 ⟨s, rfl, e, rfl, q⟩
  cases e
  exact step _ (fun s hm hv hh q => ⟨_, hm, s, rfl, hv, hh, q⟩) s q
theorem loop3 {B : LB → Nat → List AObj → AV → AV → AV → Prop} {lv : List AV} {h0 : List AObj} (V0 V1 V2 : σ → AV) (H : σ → List AObj) (M : σ → Nat) (Q : σ → Prop) (s0 : σ) (hv : lv = [V0 s0, V1 s0, V2 s0]) (hh : h0 = H s0) (q0 : Q s0)
    (step : ∀ (I : LB), (∀ {n : Nat} {lv : List AV} {h : List AObj} (s : σ), M s < n → lv = [V0 s, V1 s, V2 s] → h = H s → Q s → ∃ m, m < n ∧ I m lv h) → ∀ s, Q s → B I (M s) (H s) (V0 s) (V1 s) (V2 s)) : ∃ I : LB, (∃ n, I n lv h0) ∧ ∀ n h, ∀ t0 t1 t2, I n [t0, t1, t2] h → B I n h t0 t1 t2 := by
  refine ⟨fun m lv h => ∃ s, m = M s ∧ lv = [V0 s, V1 s, V2 s] ∧ h = H s ∧ Q s, ⟨_, s0, rfl, hv, hh, q0⟩, ?_⟩
  rintro n h t0 t1 t2 ⟨s, rfl, e, rfl, q⟩
  cases e
  exact step _ (fun s hm hv hh q => ⟨_, hm, s, rfl, hv, hh, q⟩) s q
theorem loop5 {B : LB → Nat → List AObj → AV → AV → AV → AV → AV → Prop} {lv : List AV} {h0 : List AObj} (V0 V1 V2 V3 V4 : σ → AV) (H : σ → List AObj) (M : σ → Nat) (Q : σ → Prop) (s0 : σ) (hv : lv = [V0 s0, V1 s0, V2 s0, V3 s0, V4 s0]) (hh : h0 = H s0) (q0 : Q s0)
    (step : ∀ (I : LB), (∀ {n : Nat} {lv : List AV} {h : List AObj} (s : σ), M s < n → lv = [V0 s, V1 s, V2 s, V3 s, V4 s] → h = H s → Q s → ∃ m, m < n ∧ I m lv h) → ∀ s, Q s → B I (M s) (H s) (V0 s) (V1 s) (V2 s) (V3 s) (V4 s)) : ∃ I : LB, (∃ n, I n lv h0) ∧ ∀ n h, ∀ t0 t1 t2 t3 t4, I n [t0, t1, t2, t3, t4] h → B I n h t0 t1 t2 t3 t4 := by
  refine ⟨fun m lv h => ∃ s, m = M s ∧ lv = [V0 s, V1 s, V2 s, V3 s, V4 s] ∧ h = H s ∧ Q s, ⟨_, s0, rfl, hv, hh, q0⟩, ?_⟩
  rintro n h t0 t1 t2 t3 t4 ⟨s, rfl, e, rfl, q⟩
  cases e
  exact step _ (fun s hm hv hh q => ⟨_, hm, s, rfl, hv, hh, q⟩) s q
end
section
variable {A B : Prop}
theorem guard_tt : guardW (.bool true) true A B = A := by simp [guardW_bool]
theorem guard_tf : guardW (.bool true) false A B = B := by simp [guardW_bool]
theorem guard_ft : guardW (.bool false) true A B = B := by simp [guardW_bool]
theorem guard_ff : guardW (.bool false) false A B = A := by simp [guardW_bool]
end
theorem wnext {k : Nat} (h : k < 4611686018427387904) : IntKind.i64.wrap ((k : Int) + 1) = ((k + 1 : Nat) : Int) := by rw [w64 (by omega) (by omega)]; rfl
theorem getD_append_left {α : Type} (a b : List α) (k : Nat) (d : α) (h : k < a.length) : (a ++ b).getD k d = a.getD k d := by
  rw [List.getD_eq_getElem?_getD, List.getElem?_append_left h, List.getD_eq_getElem?_getD]
theorem getD_append_right {α : Type} (a b : List α) (k : Nat) (d : α) (h : a.length ≤ k) : (a ++ b).getD k d = b.getD (k - a.length) d := by
  rw [List.getD_eq_getElem?_getD, List.getElem?_append_right h, List.getD_eq_getElem?_getD]
theorem take_len {α : Type} (l : List α) {n : Nat} (h : l.length ≤ n) : l.take n = l := List.take_of_length_le h
/-- lists that are alike, place by place -/
theorem ext_d {α : Type} (d : α) {a b : List α} (hl : a.length = b.length) (h : ∀ i, i < a.length → a.getD i d = b.getD i d) : a = b := by
  apply List.ext_getElem hl
  intro i h1 h2
  have := h i h1
  rw [List.getD_eq_getElem?_getD, List.getD_eq_getElem?_getD, List.getElem?_eq_getElem h1, List.getElem?_eq_getElem h2] at this
  exact this
end Lam
namespace Lam
open Go
set_option linter.unusedVariables false
set_option linter.unnecessarySimpa false
set_option linter.unusedSimpArgs false
/-! ### Memories -/
def memV (vol per : List Int) (pend : List Pend) : AV := .agg [.sl false (.ints .i64 vol), .sl false (.ints .i64 per), .sl false (.pends pend)]
attribute [go_sem] memV
def lineOf (at_ : Int) : Int := IntKind.i64.wrap (at_.tdiv 8)
def flushP (line : Int) (pend : List Pend) : List Pend := pend.map fun p => if lineOf p.at_ = line then { p with fl := true } else p
/-- those of which something holds are kept, and are pending no longer -/
def keepW (f : Pend → Bool) : List Pend → List Int → List Int
  | [], per => per
  | p :: r, per => keepW f r (match f p with | true => per.set p.at_.toNat p.val | false => per)
def keepP (f : Pend → Bool) (pend : List Pend) : List Pend := pend.filter fun p => !f p
theorem keepW_len (f : Pend → Bool) : ∀ (l : List Pend) (per : List Int), (keepW f l per).length = per.length
  | [], per => rfl
  | p :: r, per => by
    simp only [keepW]
    rw [keepW_len f r]
    split <;> simp
def fFl (p : Pend) : Bool := p.fl
def fLn (line : Int) (p : Pend) : Bool := decide (lineOf p.at_ = line)
theorem lineOf_eq {a : Int} (h0 : 0 ≤ a) (h1 : a ≤ 1099511627776) : lineOf a = a / 8 := by
  unfold lineOf
  rw [Int.tdiv_eq_ediv_of_nonneg h0]
  exact w64 (by omega) (by omega)

theorem ext_getD {a b : List Int} (hl : a.length = b.length) (h : ∀ i, i < a.length → a.getD i 0 = b.getD i 0) : a = b := by
  apply List.ext_getElem hl
  intro i h1 h2
  have := h i h1
  rw [List.getD_eq_getElem?_getD, List.getD_eq_getElem?_getD, List.getElem?_eq_getElem h1, List.getElem?_eq_getElem h2] at this
  exact this
theorem getD_set (l : List Int) (i j : Nat) (v : Int) : (l.set i v).getD j 0 = if i = j ∧ i < l.length then v else l.getD j 0 := by
  rw [List.getD_eq_getElem?_getD, List.getElem?_set, List.getD_eq_getElem?_getD]
  by_cases h : i = j
  · subst h
    by_cases h2 : i < l.length
    · simp [h2]
    · simp [h2]
  · simp [h]

/-- pending stores are done -/
def app : List Pend → List Int → List Int
  | [], w => w
  | p :: r, w => app r (w.set p.at_.toNat p.val)
theorem app_len : ∀ (l : List Pend) (w : List Int), (app l w).length = w.length
  | [], w => rfl
  | p :: r, w => by rw [app, app_len r, List.length_set]
theorem app_append : ∀ (l r : List Pend) (w : List Int), app (l ++ r) w = app r (app l w)
  | [], r, w => rfl
  | p :: l, r, w => by rw [List.cons_append, app, app_append l, app]
theorem keepW_app (f : Pend → Bool) : ∀ (l : List Pend) (w : List Int), keepW f l w = app (l.filter f) w
  | [], w => rfl
  | p :: r, w => by
    simp only [keepW]
    rw [keepW_app f r]
    cases h : f p <;> simp [h, app]

/-- what stands at a place behind pending stores -/
def seen (a : Nat) : List Pend → Int → Int
  | [], d => d
  | p :: r, d => seen a r (if p.at_.toNat = a then p.val else d)
theorem seen_append (a : Nat) : ∀ (l r : List Pend) (d : Int), seen a (l ++ r) d = seen a r (seen a l d)
  | [], r, d => rfl
  | p :: l, r, d => by rw [List.cons_append, seen, seen_append a l, seen]
theorem app_getD : ∀ (l : List Pend) (w : List Int) (a : Nat), a < w.length → (app l w).getD a 0 = seen a l (w.getD a 0)
  | [], w, a, h => rfl
  | p :: r, w, a, h => by
    rw [app, app_getD r _ a (by rw [List.length_set]; exact h), seen, getD_set]
    congr 1
    by_cases e : p.at_.toNat = a
    · simp [e, h]
    · simp [e]
theorem seen_none (a : Nat) : ∀ (l : List Pend) (d : Int), (∀ p ∈ l, p.at_.toNat ≠ a) → seen a l d = d
  | [], d, h => rfl
  | p :: r, d, h => by
    rw [seen, if_neg (h p (by simp)), seen_none a r d fun q hq => h q (by simp [hq])]
theorem seen_filter (a : Nat) (f : Pend → Bool) : ∀ (l : List Pend) (d : Int), (∀ p ∈ l, p.at_.toNat = a → f p = true) → seen a (l.filter f) d = seen a l d
  | [], d, h => rfl
  | p :: r, d, h => by
    have ih := fun d => seen_filter a f r d fun q hq => h q (by simp [hq])
    cases hf : f p with
    | true => rw [List.filter_cons_of_pos hf, seen, seen, ih]
    | false =>
      rw [List.filter_cons_of_neg (by simp [hf]), ih, seen]
      have : ¬ p.at_.toNat = a := fun e => by have := h p (by simp) e; rw [hf] at this; cases this
      rw [if_neg this]
theorem seen_at (a : Nat) (l : List Pend) (d : Int) : seen a (l.filter fun p => decide (p.at_.toNat = a)) d = seen a l d := seen_filter a _ l d fun p _ h => by simp [h]

/-- who is kept is ahead of who is not, place by place -/
theorem filter_split {f : Pend → Bool} : ∀ {l : List Pend}, l.Pairwise (fun p q => f q = true → f p = true) → l.filter f ++ l.filter (fun p => !f p) = l
  | [], _ => rfl
  | p :: r, h => by
    rw [List.pairwise_cons] at h
    cases hf : f p with
    | true => rw [List.filter_cons_of_pos hf, List.filter_cons_of_neg (by simp [hf]), List.cons_append, filter_split h.2]
    | false =>
      have hn : ∀ q ∈ r, f q = false := fun q hq => by
        cases e : f q with
        | false => rfl
        | true => rw [h.1 q hq e] at hf; cases hf
      rw [List.filter_cons_of_neg (by simp [hf]), List.filter_cons_of_pos (by simp [hf])]
      have e1 : r.filter f = [] := List.filter_eq_nil_iff.2 fun q hq => by simp [hn q hq]
      have e2 : r.filter (fun p => !f p) = r := List.filter_eq_self.2 fun q hq => by simp [hn q hq]
      rw [e1, e2]; rfl
def LineWise (f : Pend → Bool) (l : List Pend) : Prop := l.Pairwise fun p q => lineOf p.at_ = lineOf q.at_ → f q = true → f p = true
theorem toNat_line {p q : Pend} (hp : 0 ≤ p.at_) (hq : 0 ≤ q.at_) (h : p.at_.toNat = q.at_.toNat) : lineOf p.at_ = lineOf q.at_ := by
  have : p.at_ = q.at_ := by omega
  rw [this]
theorem seen_split {f : Pend → Bool} {l : List Pend} (h0 : ∀ p ∈ l, 0 ≤ p.at_) (h : LineWise f l) (a : Nat) (d : Int) : seen a (l.filter fun p => !f p) (seen a (l.filter f) d) = seen a l d := by
  rw [← seen_append, ← seen_at a (_ ++ _), ← seen_at a l]
  congr 1
  rw [List.filter_append, List.filter_filter, List.filter_filter]
  have hp : (l.filter fun p => decide (p.at_.toNat = a)).Pairwise fun p q => f q = true → f p = true := by
    refine (List.Pairwise.and_mem.1 (List.Pairwise.filter _ h)).imp ?_
    rintro p q ⟨hp, hq, hpq⟩ hf
    rw [List.mem_filter, decide_eq_true_eq] at hp hq
    exact hpq (toNat_line (h0 p hp.1) (h0 q hq.1) (by omega)) hf
  have := filter_split hp
  rw [List.filter_filter, List.filter_filter] at this
  simpa [Bool.and_comm] using this

/-- a memory that may be -/
structure OkM (vol per : List Int) (pend : List Pend) : Prop where
  len : vol.length = per.length
  sz : vol.length ≤ 4096
  md : vol.length % 8 = 0
  rng : ∀ p ∈ pend, 0 ≤ p.at_ ∧ p.at_ < (per.length : Int)
  ord : LineWise (fun p => p.fl) pend
  eq : app pend per = vol

theorem OkM.vol_at {vol per : List Int} {pend : List Pend} (h : OkM vol per pend) {a : Nat} (ha : a < per.length) : vol.getD a 0 = seen a pend (per.getD a 0) := by
  rw [← h.eq, app_getD pend per a ha]

theorem OkM.put {vol per : List Int} {pend : List Pend} (h : OkM vol per pend) {a v : Int} (h0 : 0 ≤ a) (h1 : a < (vol.length : Int)) : OkM (vol.set a.toNat v) per (pend ++ [⟨a, v, false⟩]) := by
  refine ⟨by rw [List.length_set]; exact h.len, by rw [List.length_set]; exact h.sz, by rw [List.length_set]; exact h.md, fun p hp => ?_, ?_, ?_⟩
  · rcases List.mem_append.1 hp with hp | hp
    · exact h.rng p hp
    · rw [List.mem_singleton] at hp; subst hp
      have := h.len
      exact ⟨h0, by show a < _; omega⟩
  · unfold LineWise
    rw [List.pairwise_append]
    refine ⟨h.ord, List.pairwise_singleton _ _, fun p hp q hq => ?_⟩
    rw [List.mem_singleton] at hq; subst hq
    intro _ hf; cases hf
  · rw [app_append, h.eq]; rfl

theorem app_flush (line : Int) : ∀ (l : List Pend) (w : List Int), app (flushP line l) w = app l w
  | [], w => rfl
  | p :: r, w => by
    show app ((if lineOf p.at_ = line then { p with fl := true } else p) :: flushP line r) w = _
    rw [app, app, app_flush line r]
    split <;> rfl
theorem OkM.flush {vol per : List Int} {pend : List Pend} (h : OkM vol per pend) (line : Int) : OkM vol per (flushP line pend) := by
  refine ⟨h.len, h.sz, h.md, fun p hp => ?_, ?_, by rw [app_flush]; exact h.eq⟩
  · obtain ⟨q, hq, rfl⟩ := List.mem_map.1 hp
    have := h.rng q hq
    split <;> exact this
  · unfold LineWise flushP
    rw [List.pairwise_map]
    refine h.ord.imp ?_
    intro p q hpq
    by_cases e1 : lineOf p.at_ = line <;> by_cases e2 : lineOf q.at_ = line
    · rw [if_pos e1, if_pos e2]; intros; rfl
    · rw [if_pos e1, if_neg e2]; intros; rfl
    · rw [if_neg e1, if_pos e2]; intro e; exact absurd (e.trans e2) e1
    · rw [if_neg e1, if_neg e2]; exact hpq
theorem OkM.keep {vol per : List Int} {pend : List Pend} (h : OkM vol per pend) {f : Pend → Bool} (hf : LineWise f pend) : OkM vol (keepW f pend per) (keepP f pend) := by
  rw [keepW_app]
  refine ⟨by rw [app_len]; exact h.len, h.sz, h.md, fun p hp => ?_, List.Pairwise.filter _ h.ord, ?_⟩
  · rw [app_len]; exact h.rng p (List.mem_filter.1 hp).1
  · apply ext_getD
    · rw [app_len, app_len]; exact h.len.symm
    intro i hi
    rw [app_len, app_len] at hi
    unfold keepP
    rw [app_getD _ _ _ (by rw [app_len]; exact hi), app_getD _ _ _ hi, seen_split (fun p hp => (h.rng p hp).1) hf, h.vol_at hi]
theorem OkM.fence {vol per : List Int} {pend : List Pend} (h : OkM vol per pend) : OkM vol (keepW fFl pend per) (keepP fFl pend) := h.keep h.ord
/-- words that are words -/
def i64s (l : List Int) : Prop := ∀ x ∈ l, x < 9223372036854775808
section
variable {vol per : List Int} {pend : List Pend} {a v line : Int} {f : Pend → Bool} {keep : List Int}
theorem wf_i64s {l : List Int} (h : wfL (.ints .i64 l)) : i64s l := fun x hx => (wf_64 (h x hx)).2
end
theorem fLn_at {vol per : List Int} {pend : List Pend} (h : OkM vol per pend) {p : Pend} (hp : p ∈ pend) {i : Nat} : p.at_.toNat = i → fLn ((i : Int) / 8) p = true := by
  intro e
  have hr := h.rng p hp
  have := h.len
  have := h.sz
  unfold fLn
  rw [decide_eq_true_eq, lineOf_eq hr.1 (by omega)]
  omega
end Lam
namespace Lam
open Go
set_option linter.unusedVariables false
set_option linter.unnecessarySimpa false
set_option linter.unusedSimpArgs false

structure Mm where
  vol : List Int
  per : List Int
  pend : List Pend
  deriving DecidableEq
def Mm.V (m : Mm) : AV := memV m.vol m.per m.pend
attribute [go_sem] Mm.V
def Mm.ok (m : Mm) : Prop := OkM m.vol m.per m.pend
def store (m : Mm) (a v : Int) : Mm := ⟨m.vol.set a.toNat v, m.per, m.pend ++ [⟨a, v, false⟩]⟩
def persist (m : Mm) (line : Int) : Mm := ⟨m.vol, keepW fFl (flushP line m.pend) m.per, keepP fFl (flushP line m.pend)⟩
def stepM (m : Mm) (x : Mic) : Mm := if x.kind = 1 then store m x.at_ x.val else persist m x.at_
/-- of a memory of n words -/
def MayN (x : Mic) (n : Nat) : Prop := (x.kind = 1 ∧ 0 ≤ x.at_ ∧ x.at_ < (n : Int)) ∨ (x.kind = 2 ∧ 0 ≤ x.at_ ∧ x.at_ < ((n / 8 : Nat) : Int) ∧ x.val = 0)
theorem stepM_per (m : Mm) (x : Mic) : (stepM m x).per.length = m.per.length := by
  unfold stepM; split
  · rfl
  · exact keepW_len _ _ _
theorem persist_ok {m : Mm} (h : m.ok) (l : Int) : (persist m l).ok := (OkM.flush h l).fence
theorem stepM_ok {m : Mm} (h : m.ok) {x : Mic} (hx : MayN x m.vol.length) : (stepM m x).ok := by
  unfold stepM
  rcases hx with ⟨hk, h0, h1⟩ | ⟨hk, _⟩
  · rw [if_pos hk]; exact OkM.put h h0 h1
  · rw [if_neg (by omega)]; exact persist_ok h _
/-- persisting, place by place -/
def gL (line : Int) (p : Pend) : Bool := p.fl || fLn line p
theorem flush_filter (line : Int) (f : Pend → Bool) (hf : ∀ p, f p = fFl p) : ∀ l : List Pend, (flushP line l).filter f = (l.filter (gL line)).map fun p => if lineOf p.at_ = line then { p with fl := true } else p
  | [] => rfl
  | p :: r => by
    have ih := flush_filter line f hf r
    show ((if lineOf p.at_ = line then { p with fl := true } else p) :: flushP line r).filter f = _
    by_cases e : lineOf p.at_ = line
    · rw [if_pos e, List.filter_cons_of_pos (by rw [hf]; rfl), List.filter_cons_of_pos (by simp [gL, fLn, e]), ih, List.map_cons, if_pos e]
    · rw [if_neg e]
      cases h : p.fl with
      | true => rw [List.filter_cons_of_pos (by rw [hf]; exact h), List.filter_cons_of_pos (by simp [gL, h]), ih, List.map_cons, if_neg e]
      | false => rw [List.filter_cons_of_neg (by rw [hf]; simp [fFl, h]), List.filter_cons_of_neg (by simp [gL, fLn, h, e]), ih]
theorem persist_pend (m : Mm) (line : Int) : (persist m line).pend = m.pend.filter fun p => !gL line p := by
  show keepP fFl (flushP line m.pend) = _
  unfold keepP
  induction m.pend with
  | nil => rfl
  | cons p r ih =>
    show ((if lineOf p.at_ = line then { p with fl := true } else p) :: flushP line r).filter _ = _
    by_cases e : lineOf p.at_ = line
    · rw [if_pos e, List.filter_cons_of_neg (by simp [fFl]), List.filter_cons_of_neg (by simp [gL, fLn, e]), ih]
    · rw [if_neg e]
      cases h : p.fl with
      | true => rw [List.filter_cons_of_neg (by simp [fFl, h]), List.filter_cons_of_neg (by simp [gL, h]), ih]
      | false => rw [List.filter_cons_of_pos (by simp [fFl, h]), List.filter_cons_of_pos (by simp [gL, fLn, h, e]), ih]
theorem app_map (g : Pend → Pend) (hg : ∀ p, (g p).at_ = p.at_ ∧ (g p).val = p.val) : ∀ (l : List Pend) (w : List Int), app (l.map g) w = app l w
  | [], w => rfl
  | p :: r, w => by rw [List.map_cons, app, app, (hg p).1, (hg p).2, app_map g hg r]
theorem persist_per (m : Mm) (line : Int) : (persist m line).per = app (m.pend.filter (gL line)) m.per := by
  show keepW fFl (flushP line m.pend) m.per = _
  rw [keepW_app, flush_filter line _ (fun _ => rfl), app_map]
  intro p; split <;> exact ⟨rfl, rfl⟩
theorem persist_sub (m : Mm) (line : Int) : (persist m line).pend.Sublist m.pend := by rw [persist_pend]; exact List.filter_sublist
/-! ### Steps whose lines are persisted as they are left: a crash leaves a beginning -/
def isS (x : Mic) : Bool := decide (x.kind = 1)
structure Begun (w : List Int) (m : Mm) (S : List Pend) (o : Option Int) : Prop where
  ok : m.ok
  cut : ∃ i, i ≤ S.length ∧ m.per = app (S.take i) w ∧ m.pend = S.drop i
  one : ∀ p ∈ m.pend, o = some (lineOf p.at_) ∧ p.fl = false
  all : m.vol = app S w
theorem Begun.store {w : List Int} {m : Mm} {S : List Pend} {o : Option Int} (h : Begun w m S o) {x : Mic} (hk : x.kind = 1) (hx : MayN x m.vol.length) (ho : ∀ L, o = some L → lineOf x.at_ = L) :
    Begun w (stepM m x) (S ++ [⟨x.at_, x.val, false⟩]) (some (lineOf x.at_)) := by
  have e : stepM m x = Lam.store m x.at_ x.val := by unfold stepM; rw [if_pos hk]
  refine ⟨stepM_ok h.ok hx, ?_, ?_, ?_⟩
  · obtain ⟨i, hi, h1, h2⟩ := h.cut
    refine ⟨i, by simp; omega, ?_, ?_⟩
    · rw [e, List.take_append_of_le_length hi]; exact h1
    · rw [e, List.drop_append_of_le_length hi, ← h2]; rfl
  · intro p hp
    rw [e] at hp
    rcases List.mem_append.1 hp with hp | hp
    · obtain ⟨h1, h2⟩ := h.one p hp
      exact ⟨by rw [ho _ h1], h2⟩
    · rw [List.mem_singleton] at hp; subst hp; exact ⟨rfl, rfl⟩
  · rw [e, app_append, ← h.all]; rfl
/-! ### What is seen, and kept, of a place -/
/-! ### A line's own -/
def mline (x : Mic) : Int := if x.kind = 1 then lineOf x.at_ else x.at_
def unfl (m : Mm) : Prop := ∀ p ∈ m.pend, p.fl = false
structure AgreeL (L : Int) (m m' : Mm) : Prop where
  ok : m.ok
  ok' : m'.ok
  len : m.per.length = m'.per.length
  un : unfl m
  un' : unfl m'
  per : ∀ p : Nat, p < m.per.length → (p : Int) / 8 = L → m.per.getD p 0 = m'.per.getD p 0
  pend : m.pend.filter (fLn L) = m'.pend.filter (fLn L)
theorem unfl_step {m : Mm} (h : unfl m) (x : Mic) : unfl (stepM m x) := by
  unfold stepM
  split
  · intro p hp
    rcases List.mem_append.1 hp with hp | hp
    · exact h p hp
    · rw [List.mem_singleton] at hp; subst hp; rfl
  · intro p hp; exact h p ((persist_sub _ _).subset hp)
theorem gL_un {m : Mm} (h : unfl m) (L : Int) : m.pend.filter (gL L) = m.pend.filter (fLn L) ∧ m.pend.filter (fun p => !gL L p) = m.pend.filter (fun p => !fLn L p) := by
  constructor <;> apply List.filter_congr <;> intro p hp <;> simp [gL, h p hp]
/-- what a step makes of a line -/
theorem line_step {m : Mm} (ok : m.ok) (un : unfl m) {x : Mic} {L : Int} : (stepM m x).pend.filter (fLn L) = (if x.kind = 1 then m.pend.filter (fLn L) ++ (if lineOf x.at_ = L then [⟨x.at_, x.val, false⟩] else []) else if x.at_ = L then [] else m.pend.filter (fLn L)) ∧
    ∀ p : Nat, p < m.per.length → (p : Int) / 8 = L → (stepM m x).per.getD p 0 = if x.kind = 1 then m.per.getD p 0 else if x.at_ = L then seen p (m.pend.filter (fLn L)) (m.per.getD p 0) else m.per.getD p 0 := by
  unfold stepM
  by_cases hk : x.kind = 1
  · rw [if_pos hk, if_pos hk]
    refine ⟨?_, fun p _ _ => by rw [if_pos hk]; rfl⟩
    show (m.pend ++ [_]).filter _ = _
    rw [List.filter_append]
    congr 1
    by_cases e : lineOf x.at_ = L
    · rw [if_pos e, List.filter_cons_of_pos (show fLn L ⟨x.at_, x.val, false⟩ = true from decide_eq_true e)]; rfl
    · rw [if_neg e, List.filter_cons_of_neg (by unfold fLn; simpa using e)]; rfl
  · rw [if_neg hk, if_neg hk]
    obtain ⟨g1, g2⟩ := gL_un un x.at_
    refine ⟨?_, fun p hp hL => ?_⟩
    · rw [persist_pend, g2, List.filter_filter]
      by_cases e : x.at_ = L
      · rw [if_pos e, e, List.filter_eq_nil_iff]
        intro p _; simp
      · rw [if_neg e]
        apply List.filter_congr
        intro p _
        unfold fLn
        by_cases e2 : lineOf p.at_ = L
        · rw [e2, decide_eq_true rfl, decide_eq_false (fun h => e h.symm)]; rfl
        · rw [decide_eq_false e2]; rfl
    · rw [persist_per, g1, app_getD _ _ _ hp, if_neg hk]
      by_cases e : x.at_ = L
      · rw [if_pos e, e]
      · rw [if_neg e, seen_none]
        intro q hq e2
        obtain ⟨hq1, hq2⟩ := List.mem_filter.1 hq
        have := fLn_at ok hq1 e2
        unfold fLn at this hq2
        rw [decide_eq_true_eq] at this hq2
        rw [hL] at this
        exact e (hq2.symm.trans this)
theorem AgreeL.same {L : Int} {m m' : Mm} (h : AgreeL L m m') {x : Mic} (hx : MayN x m.vol.length) : AgreeL L (stepM m x) (stepM m' x) := by
  obtain ⟨p1, p2⟩ := line_step h.ok h.un (x := x) (L := L)
  obtain ⟨q1, q2⟩ := line_step h.ok' h.un' (x := x) (L := L)
  have hlen : m.vol.length = m'.vol.length := by rw [OkM.len h.ok, OkM.len h.ok', h.len]
  refine ⟨stepM_ok h.ok hx, stepM_ok h.ok' (by rw [← hlen]; exact hx), by rw [stepM_per, stepM_per]; exact h.len, unfl_step h.un x, unfl_step h.un' x, fun p hp hL => ?_, by rw [p1, q1, h.pend]⟩
  rw [stepM_per] at hp
  rw [p2 p hp hL, q2 p (by rw [← h.len]; exact hp) hL, h.per p hp hL, h.pend]
theorem AgreeL.skip {L : Int} {m m' : Mm} (h : AgreeL L m m') {x : Mic} (hx : MayN x m.vol.length) (hne : mline x ≠ L) : AgreeL L (stepM m x) m' := by
  obtain ⟨p1, p2⟩ := line_step h.ok h.un (x := x) (L := L)
  unfold mline at hne
  refine ⟨stepM_ok h.ok hx, h.ok', by rw [stepM_per]; exact h.len, unfl_step h.un x, h.un', fun p hp hL => ?_, ?_⟩
  · rw [stepM_per] at hp
    rw [p2 p hp hL, ← h.per p hp hL]
    by_cases hk : x.kind = 1
    · rw [if_pos hk]
    · rw [if_neg hk] at hne ⊢; rw [if_neg hne]
  · rw [p1, ← h.pend]
    by_cases hk : x.kind = 1
    · rw [if_pos hk] at hne ⊢
      rw [if_neg hne, List.append_nil]
    · rw [if_neg hk] at hne ⊢; rw [if_neg hne]
theorem AgreeL.refl {L : Int} {m : Mm} (ok : m.ok) (un : unfl m) : AgreeL L m m := ⟨ok, ok, rfl, un, un, fun _ _ _ => rfl, rfl⟩
end Lam
namespace Lam
open Go
set_option linter.unusedVariables false
set_option linter.unnecessarySimpa false
set_option linter.unusedSimpArgs false

def nodeB (b : Int) : Bool := decide (0 ≤ b) && decide (IntKind.i64.wrap (b + 16) ≤ 4096) && decide (b.tmod 16 = 0)
theorem node_iff {b : Int} (h : b ≤ 1099511627776) : nodeB b = true ↔ 0 ≤ b ∧ b ≤ 4080 ∧ b % 16 = 0 := by
  unfold nodeB
  simp only [Bool.and_eq_true, decide_eq_true_eq]
  constructor
  · rintro ⟨⟨h0, h1⟩, h2⟩
    rw [w64 (by omega) (by omega)] at h1
    rw [Int.tmod_eq_emod_of_nonneg h0] at h2
    omega
  · rintro ⟨h0, h1, h2⟩
    rw [w64 (by omega) (by omega), Int.tmod_eq_emod_of_nonneg h0]
    omega
def placeI (base slot : Int) : Int := if (nodeB base && decide (0 ≤ slot) && decide (slot < 13)) = true then IntKind.i64.wrap (IntKind.i64.wrap (base + 3) + slot) else -1
theorem place_at {b s : Int} (hb : nodeB b = true) (h : b ≤ 1099511627776) (h0 : 0 ≤ s) (h1 : s < 13) : placeI b s = b + 3 + s := by
  have := (node_iff h).1 hb
  unfold placeI
  rw [hb, decide_eq_true h0, decide_eq_true h1]
  rw [if_pos (by rfl), w64 (n := b + 3) (by omega) (by omega), w64 (by omega) (by omega)]
def lt1 (n : Int) : Bool := decide (n < 1)
def idxI (p : Int → Bool) (l : List Int) : Int := if l.any p = true then (l.findIdx p : Nat) else -1
/-- slots, up to the first empty one -/
def upTo (l : List Int) : List Int := l.takeWhile fun w => !lt1 w
def slotsOf (words : List Int) (base : Int) : List Int := if (nodeB base && decide (base + 16 ≤ (words.length : Int))) = true then upTo ((words.drop (base.toNat + 3)).take 13) else []
theorem upTo_idx (l : List Int) : l.take (if idxI lt1 l < 0 then (l.length : Int) else idxI lt1 l).toNat = upTo l := by
  unfold idxI upTo
  induction l with
  | nil => rfl
  | cons a r ih =>
    rw [List.any_cons, List.findIdx_cons, List.takeWhile_cons]
    cases ha : lt1 a with
    | true => simp
    | false =>
      simp only [Bool.false_or, Bool.not_false, if_true, cond_false]
      cases hr : r.any lt1 with
      | true =>
        rw [hr] at ih
        simp only [if_true] at ih ⊢
        rw [if_neg (by omega)] at ih ⊢
        rw [← ih]
        simp
      | false =>
        rw [hr] at ih
        simp only [Bool.false_eq_true, if_false] at ih ⊢
        rw [if_pos (by omega)] at ih ⊢
        rw [← ih]
        simp
theorem idxI_range (p : Int → Bool) (l : List Int) : -1 ≤ idxI p l ∧ idxI p l ≤ (l.length : Int) := by
  unfold idxI
  split
  · have := List.findIdx_le_length (p := p) (xs := l)
    omega
  · omega

/-- without those that are as the one ahead -/
def plain : List Int → List Int
  | [] => []
  | [a] => [a]
  | a :: b :: r => if a = b then plain (b :: r) else a :: plain (b :: r)
/-! ### Steps by which slots are stored -/
end Lam
namespace Lam
open Go
set_option linter.unusedVariables false
set_option linter.unnecessarySimpa false
set_option linter.unusedSimpArgs false

/-! ### A memory of two nodes -/
theorem upTo_zeros (z : List Int) (n : Nat) : upTo (z ++ List.replicate n 0) = upTo z := by
  unfold upTo
  induction z with
  | nil => cases n with
    | zero => rfl
    | succ n => rw [List.nil_append, List.replicate_succ, List.takeWhile_cons]; rfl
  | cons a r ih => rw [List.cons_append, List.takeWhile_cons, List.takeWhile_cons, ih]
theorem upTo_all {z : List Int} (h : ∀ x ∈ z, 0 < x) : upTo z = z := by
  unfold upTo
  induction z with
  | nil => rfl
  | cons a r ih =>
    have : lt1 a = false := decide_eq_false (by have := h a (by simp); omega)
    rw [List.takeWhile_cons, this, ih fun x hx => h x (by simp [hx])]; rfl
/-! ### Unlike slots -/
/-! ### Steps by which slots are stored, of the second node -/
def inSlots (l : List SlotT) : Prop := ∀ s ∈ l, 0 ≤ s.at_ ∧ s.at_ < 13
theorem inSlots.get {l : List SlotT} (h : inSlots l) {n : Nat} (hn : n < l.length) : 0 ≤ (l.getD n ⟨0, 0⟩).at_ ∧ (l.getD n ⟨0, 0⟩).at_ < 13 := h _ (getD_mem l n _ hn)
end Lam
namespace Lam
open Go
set_option linter.unusedVariables false
set_option linter.unnecessarySimpa false
set_option linter.unusedSimpArgs false
theorem getD_drop (l : List Int) (n q : Nat) : (l.drop n).getD q 0 = l.getD (n + q) 0 := by
  rw [List.getD_eq_getElem?_getD, List.getElem?_drop, List.getD_eq_getElem?_getD]
/-! ### Insert -/
/-! ### Delete -/
/-! ### Cut, swap -/
/-! ### How far -/
end Lam
namespace Lam
open Go
set_option linter.unusedVariables false
set_option linter.unnecessarySimpa false
set_option linter.unusedSimpArgs false
structure Nd where
  level : Int
  turn : Int
  next : Int
  low : Int
  slots : List Int
  deriving DecidableEq
def Nd.V (n : Nd) : AV := .agg [.int .i64 n.level, .int .i64 n.turn, .int .i64 n.next, .int .i64 n.low, .sl false (.ints .i64 n.slots)]
attribute [go_sem] Nd.V
def noBlock (n : Int) : Bool := decide (n = 0) || !(decide (0 ≤ n) && decide (n < 256))
def blockB (n : Int) : Bool := decide (0 ≤ n) && decide (n < 256)
def Nd.ok (n : Nd) : Prop := 0 ≤ n.level ∧ n.level ≤ 9 ∧ 0 ≤ n.turn ∧ n.turn ≤ 1099511627776 ∧ (0 ≤ n.next ∧ n.next < 256) ∧ (0 ≤ n.low ∧ n.low < 256) ∧ n.slots.length ≤ 13 ∧ ∀ x ∈ n.slots, 1 ≤ x ∧ x < 256
def ndB (n : Nd) : Bool := decide (0 ≤ n.level) && decide (n.level ≤ 9) && decide (0 ≤ n.turn) && decide (n.turn ≤ 1099511627776) && blockB n.next && blockB n.low && decide (n.slots.length ≤ 13) && !n.slots.any noBlock
theorem nd_iff {n : Nd} : ndB n = true ↔ n.ok := by
  unfold ndB Nd.ok blockB noBlock
  simp only [Bool.and_eq_true, decide_eq_true_eq, Bool.not_eq_true', List.any_eq_false, Bool.or_eq_true, Bool.and_eq_false_iff, decide_eq_false_iff_not, not_or, not_and, Bool.not_eq_false']
  constructor
  · rintro ⟨⟨⟨⟨⟨⟨⟨h1, h2⟩, h3⟩, h4⟩, h5⟩, h6⟩, h7⟩, h8⟩
    exact ⟨h1, h2, h3, h4, h5, h6, h7, fun x hx => by have := h8 x hx; omega⟩
  · rintro ⟨h1, h2, h3, h4, h5, h6, h7, h8⟩
    exact ⟨⟨⟨⟨⟨⟨⟨h1, h2⟩, h3⟩, h4⟩, h5⟩, h6⟩, h7⟩, fun x hx => by have := h8 x hx; omega⟩
def firstN (n : Nd) : Int := 1152921504606846976 + 16 * n.turn + n.level
def wordsNd (n : Nd) : List Int := firstN n :: n.next :: n.low :: (n.slots ++ List.replicate (13 - n.slots.length) 0)
theorem words_len {n : Nd} (h : n.ok) : (wordsNd n).length = 16 := by
  have := h.2.2.2.2.2.2.1
  simp [wordsNd]; omega
def readBy (d : List Int → Nd) (w : List Int) : Option Nd := if (ndB (d w) && decide (wordsNd (d w) = w)) = true then some (d w) else none
theorem readBy_some {d : List Int → Nd} {w : List Int} {n : Nd} (h : readBy d w = some n) : n.ok ∧ wordsNd n = w := by
  unfold readBy at h
  split at h
  · rename_i hc
    rw [Bool.and_eq_true, decide_eq_true_eq] at hc
    cases h
    exact ⟨nd_iff.1 hc.1, hc.2⟩
  · cases h
theorem readBy_ok {d : List Int → Nd} (hd : ∀ n, n.ok → d (wordsNd n) = n) {n : Nd} (h : n.ok) : readBy d (wordsNd n) = some n := by
  unfold readBy
  rw [hd n h, nd_iff.2 h, decide_eq_true rfl]; rfl
theorem readBy_eq {d d' : List Int → Nd} (hd : ∀ n, n.ok → d (wordsNd n) = n) (hd' : ∀ n, n.ok → d' (wordsNd n) = n) (w : List Int) : readBy d w = readBy d' w := by
  cases h : readBy d w with
  | some n =>
    obtain ⟨h1, rfl⟩ := readBy_some h
    rw [readBy_ok hd' h1]
  | none =>
    cases h' : readBy d' w with
    | none => rfl
    | some n =>
      obtain ⟨h1, rfl⟩ := readBy_some h'
      rw [readBy_ok hd h1] at h; cases h
/-- a node's, of its words -/
def decN (w : List Int) : Nd := ⟨(w.getD 0 0 - 1152921504606846976) % 16, (w.getD 0 0 - 1152921504606846976) / 16, w.getD 1 0, w.getD 2 0, upTo (w.drop 3)⟩
theorem upTo_words {n : Nd} (h : n.ok) : upTo ((wordsNd n).drop 3) = n.slots := by
  show upTo (n.slots ++ _) = _
  rw [upTo_zeros, upTo_all fun x hx => by have := h.2.2.2.2.2.2.2 x hx; omega]
theorem decN_words {n : Nd} (h : n.ok) : decN (wordsNd n) = n := by
  unfold decN
  rw [upTo_words h]
  have h5 := h.1
  have h6 := h.2.1
  have e0 : (wordsNd n).getD 0 0 = 1152921504606846976 + 16 * n.turn + n.level := rfl
  have e1 : (wordsNd n).getD 1 0 = n.next := rfl
  have e2 : (wordsNd n).getD 2 0 = n.low := rfl
  rw [e0, e1, e2]
  cases n
  simp only at *
  simp only [Nd.mk.injEq, and_true]
  exact ⟨by omega, by omega⟩
def readN (w : List Int) : Option Nd := readBy decN w
theorem readN_some {w : List Int} {n : Nd} (h : readN w = some n) : n.ok ∧ wordsNd n = w := readBy_some h
def blockAt (words : List Int) (k : Nat) : List Int := (words.drop (16 * k)).take 16
def zeroNd : Nd := ⟨0, 0, 0, 0, []⟩
/-! ### Bits -/
theorem orI_nat {a b : Nat} (h : a ||| b < 2 ^ 63) (ha : a < 2 ^ 63) (hb : b < 2 ^ 63) : orI .i64 a b = ((a ||| b : Nat) : Int) := by
  have e : (BitVec.ofInt 64 (a : Int) ||| BitVec.ofInt 64 (b : Int)).toNat = a ||| b := by
    rw [BitVec.toNat_or, BitVec.ofInt_natCast, BitVec.ofInt_natCast, BitVec.toNat_ofNat, BitVec.toNat_ofNat, Nat.mod_eq_of_lt (by omega), Nat.mod_eq_of_lt (by omega)]
  show IntKind.i64.wrap ((BitVec.ofInt 64 (a : Int) ||| BitVec.ofInt 64 (b : Int)).toNat) = _
  rw [e]
  exact w64 (by omega) (by omega)
theorem andI_nat {a b : Nat} (ha : a < 2 ^ 63) (hb : b < 2 ^ 63) : andI .i64 a b = ((a &&& b : Nat) : Int) := by
  have e : (BitVec.ofInt 64 (a : Int) &&& BitVec.ofInt 64 (b : Int)).toNat = a &&& b := by
    rw [BitVec.toNat_and, BitVec.ofInt_natCast, BitVec.ofInt_natCast, BitVec.toNat_ofNat, BitVec.toNat_ofNat, Nat.mod_eq_of_lt (by omega), Nat.mod_eq_of_lt (by omega)]
  have hle : a &&& b ≤ a := Nat.and_le_left
  show IntKind.i64.wrap ((BitVec.ofInt 64 (a : Int) &&& BitVec.ofInt 64 (b : Int)).toNat) = _
  rw [e]
  exact w64 (by omega) (by omega)
theorem or_add {i a b : Nat} (h : b < 2 ^ i) : 2 ^ i * a ||| b = 2 ^ i * a + b := (Nat.two_pow_add_eq_or_of_lt h a).symm
theorem andNot_top {r : Nat} (h : r < 2 ^ 60) : andNotI .i64 ((1152921504606846976 + r : Nat) : Int) 1152921504606846976 = (r : Int) := by
  have e : (BitVec.ofInt 64 ((1152921504606846976 + r : Nat) : Int) &&& ~~~ BitVec.ofInt 64 1152921504606846976).toNat = r := by
    have h1 : BitVec.ofInt 64 (1152921504606846976 : Int) = BitVec.ofNat 64 (2 ^ 60) := by decide
    have h2 : 1152921504606846976 + r = 2 ^ 60 * 1 ||| r := by rw [or_add h]
    rw [h1, BitVec.ofInt_natCast, h2]
    have h3 : BitVec.ofNat 64 (2 ^ 60 * 1 ||| r) = BitVec.ofNat 64 (2 ^ 60) ||| BitVec.ofNat 64 r := by
      apply BitVec.eq_of_toNat_eq
      rw [BitVec.toNat_or, BitVec.toNat_ofNat, BitVec.toNat_ofNat, BitVec.toNat_ofNat, Nat.mod_eq_of_lt (by rw [or_add h]; omega), Nat.mod_eq_of_lt (by omega), Nat.mod_eq_of_lt (by omega)]
    rw [h3]
    have h4 : (BitVec.ofNat 64 (2 ^ 60) ||| BitVec.ofNat 64 r) &&& ~~~ BitVec.ofNat 64 (2 ^ 60) = BitVec.ofNat 64 r := by
      apply BitVec.eq_of_getLsbD_eq
      intro i hi
      rw [BitVec.getLsbD_and, BitVec.getLsbD_or, BitVec.getLsbD_not, BitVec.getLsbD_ofNat, BitVec.getLsbD_ofNat, Nat.testBit_two_pow]
      by_cases e : 60 = i
      · subst e
        have : r.testBit 60 = false := Nat.testBit_lt_two_pow h
        rw [this]; simp
      · simp [e, hi]
    rw [h4, BitVec.toNat_ofNat, Nat.mod_eq_of_lt (by omega)]
  show IntKind.i64.wrap ((BitVec.ofInt 64 ((1152921504606846976 + r : Nat) : Int) &&& ~~~ BitVec.ofInt 64 1152921504606846976).toNat) = _
  rw [e]
  exact w64 (by omega) (by omega)
theorem first_bits {a b : Int} (ha : 0 ≤ a) (ha2 : a < 16) (hb : 0 ≤ b) (hb2 : b ≤ 1099511627776) : orI .i64 (orI .i64 1152921504606846976 (IntKind.i64.wrap (b * 2 ^ min 4 64))) a = 1152921504606846976 + 16 * b + a := by
  obtain ⟨m, rfl⟩ := Int.eq_ofNat_of_zero_le ha
  obtain ⟨t, rfl⟩ := Int.eq_ofNat_of_zero_le hb
  have e1 : IntKind.i64.wrap ((t : Int) * 2 ^ min 4 64) = ((t * 16 : Nat) : Int) := by
    rw [show (2 : Int) ^ min 4 64 = 16 from by decide, show (t : Int) * 16 = ((t * 16 : Nat) : Int) from by simp]
    exact w64 (by omega) (by omega)
  have hlt : t * 16 < 2 ^ 60 := by omega
  have o1 : (2 ^ 60 * 1 ||| t * 16) = 2 ^ 60 + t * 16 := by rw [or_add hlt]
  have e2 : orI .i64 1152921504606846976 ((t * 16 : Nat) : Int) = ((2 ^ 60 + t * 16 : Nat) : Int) := by
    have := orI_nat (a := 2 ^ 60 * 1) (b := t * 16) (by rw [o1]; omega) (by omega) (by omega)
    rw [o1] at this
    exact this
  have o2 : (2 ^ 60 + t * 16 ||| m) = 2 ^ 60 + t * 16 + m := by
    have : 2 ^ 60 + t * 16 = 2 ^ 4 * (2 ^ 56 + t) := by omega
    rw [this, or_add (by omega)]
  rw [e1, e2, orI_nat (by rw [o2]; omega) (by omega) (by omega), o2]
  omega
/-- a node's, of its words, as the program reckons it -/
def decP (w : List Int) : Nd := ⟨andI .i64 (w.getD 0 0) 15, (andNotI .i64 (w.getD 0 0) 1152921504606846976).fdiv (2 ^ min 4 64), w.getD 1 0, w.getD 2 0, slotsOf w 0⟩
theorem decP_words {n : Nd} (h : n.ok) : decP (wordsNd n) = n := by
  unfold decP
  have hs : slotsOf (wordsNd n) 0 = n.slots := by
    unfold slotsOf
    rw [words_len h, if_pos (by decide)]
    have := h.2.2.2.2.2.2.1
    rw [show (0 : Int).toNat + 3 = 3 from rfl, List.take_of_length_le (by simp [wordsNd]; omega), upTo_words h]
  have h5 := h.1
  have h6 := h.2.1
  have h7 := h.2.2.1
  have h8 := h.2.2.2.1
  have e1 : (wordsNd n).getD 1 0 = n.next := rfl
  have e2 : (wordsNd n).getD 2 0 = n.low := rfl
  obtain ⟨m, hm⟩ := Int.eq_ofNat_of_zero_le h5
  obtain ⟨t, ht⟩ := Int.eq_ofNat_of_zero_le h7
  have e0 : (wordsNd n).getD 0 0 = ((1152921504606846976 + (16 * t + m) : Nat) : Int) := by
    show 1152921504606846976 + 16 * n.turn + n.level = _
    omega
  have a1 : andI .i64 ((1152921504606846976 + (16 * t + m) : Nat) : Int) 15 = (m : Int) := by
    have := andI_nat (a := 1152921504606846976 + (16 * t + m)) (b := 15) (by omega) (by omega)
    rw [show (15 : Nat) = 2 ^ 4 - 1 from rfl, Nat.and_two_pow_sub_one_eq_mod] at this
    refine this.trans ?_
    omega
  rw [hs, e0, e1, e2, a1, andNot_top (by omega), show (2 : Int) ^ min 4 64 = 16 from by decide, Int.fdiv_eq_ediv_of_nonneg _ (by decide)]
  cases n
  simp only at *
  simp only [Nd.mk.injEq, and_true]
  exact ⟨by omega, by omega⟩
theorem readP_eq (w : List Int) : readBy decP w = readN w := readBy_eq (fun n h => decP_words h) (fun n h => decN_words h) w
theorem slotsOf_roomy (w : List Int) (b : Int) : roomy (slotsOf w b).length := by
  unfold slotsOf
  split
  · unfold upTo
    have := (List.takeWhile_sublist (l := (w.drop (b.toNat + 3)).take 13) fun x => !lt1 x).length_le
    rw [List.length_take] at this
    unfold roomy; omega
  · unfold roomy; simp
end Lam
namespace Lam
open Go
set_option linter.unusedVariables false
set_option linter.unnecessarySimpa false
set_option linter.unusedSimpArgs false
def xor32 (a b : Int) : Int := xorI .u32 a b
def and32 (a b : Int) : Int := andI .u32 a b
def bitS (c : Int) : Int := xor32 (c.fdiv (2 ^ min (Int.toNat 1) 32)) (and32 3988292384 (IntKind.u32.wrap (0 - and32 c 1)))
def bitN : Nat → Int → Int
  | 0, c => c
  | n + 1, c => bitS (bitN n c)
def tabE (i : Nat) : Int := bitN 8 (IntKind.u32.wrap i)
def tabL : List Int := (List.range 256).map tabE
def withS (t : List Int) (c b : Int) : Int := xor32 (c.fdiv (2 ^ min (Int.toNat 8) 32)) (t.getD (xorI .u8 (IntKind.u8.wrap c) b).toNat 0)
def byteAt (w : Int) (k : Nat) : Int := IntKind.u8.wrap ((IntKind.u64.wrap w).fdiv (2 ^ min (Int.toNat (56 - 8 * k)) 64))
def wordN (t : List Int) (w : Int) : Nat → Int → Int
  | 0, c => c
  | k + 1, c => withS t (wordN t w k c) (byteAt w k)
def wordS (t : List Int) (c w : Int) : Int := wordN t w 8 c
def sumC (l : List Int) : Int := l.foldl (wordS tabL) 4294967295
def sumOf (l : List Int) : Int := IntKind.i64.wrap (notI .u32 (sumC l))
theorem tabL_len : tabL.length = 256 := by simp [tabL]
/-! ### As naturals -/
def bitS' (c : Nat) : Nat := if c % 2 = 1 then (c / 2) ^^^ 3988292384 else c / 2
def bitN' : Nat → Nat → Nat
  | 0, c => c
  | n + 1, c => bitS' (bitN' n c)
theorem xorI32 {a b : Nat} (ha : a < 2 ^ 32) (hb : b < 2 ^ 32) : xorI .u32 a b = ((a ^^^ b : Nat) : Int) := by
  have hx : a ^^^ b < 2 ^ 32 := Nat.xor_lt_two_pow ha hb
  have e : (BitVec.ofInt 32 (a : Int) ^^^ BitVec.ofInt 32 (b : Int)).toNat = a ^^^ b := by
    rw [BitVec.toNat_xor, BitVec.ofInt_natCast, BitVec.ofInt_natCast, BitVec.toNat_ofNat, BitVec.toNat_ofNat, Nat.mod_eq_of_lt ha, Nat.mod_eq_of_lt hb]
  show IntKind.u32.wrap ((BitVec.ofInt 32 (a : Int) ^^^ BitVec.ofInt 32 (b : Int)).toNat) = _
  rw [e]
  simp [IntKind.wrap, IntKind.bits, IntKind.signed]; omega
theorem andI32 {a b : Nat} (ha : a < 2 ^ 32) (hb : b < 2 ^ 32) : andI .u32 a b = ((a &&& b : Nat) : Int) := by
  have hx : a &&& b ≤ a := Nat.and_le_left
  have e : (BitVec.ofInt 32 (a : Int) &&& BitVec.ofInt 32 (b : Int)).toNat = a &&& b := by
    rw [BitVec.toNat_and, BitVec.ofInt_natCast, BitVec.ofInt_natCast, BitVec.toNat_ofNat, BitVec.toNat_ofNat, Nat.mod_eq_of_lt ha, Nat.mod_eq_of_lt hb]
  show IntKind.u32.wrap ((BitVec.ofInt 32 (a : Int) &&& BitVec.ofInt 32 (b : Int)).toNat) = _
  rw [e]
  simp [IntKind.wrap, IntKind.bits, IntKind.signed]; omega
theorem orI32 {a b : Nat} (ha : a < 2 ^ 32) (hb : b < 2 ^ 32) : orI .u32 a b = ((a ||| b : Nat) : Int) := by
  have hx : a ||| b < 2 ^ 32 := Nat.or_lt_two_pow ha hb
  have e : (BitVec.ofInt 32 (a : Int) ||| BitVec.ofInt 32 (b : Int)).toNat = a ||| b := by
    rw [BitVec.toNat_or, BitVec.ofInt_natCast, BitVec.ofInt_natCast, BitVec.toNat_ofNat, BitVec.toNat_ofNat, Nat.mod_eq_of_lt ha, Nat.mod_eq_of_lt hb]
  show IntKind.u32.wrap ((BitVec.ofInt 32 (a : Int) ||| BitVec.ofInt 32 (b : Int)).toNat) = _
  rw [e]
  simp [IntKind.wrap, IntKind.bits, IntKind.signed]; omega
theorem wrap32 {n : Int} (h0 : 0 ≤ n) (h : n < 4294967296) : IntKind.u32.wrap n = n := by
  simp [IntKind.wrap, IntKind.bits, IntKind.signed]; omega
theorem wrap8 {n : Int} (h0 : 0 ≤ n) (h : n < 256) : IntKind.u8.wrap n = n := by
  simp [IntKind.wrap, IntKind.bits, IntKind.signed]; omega
theorem bitS'_lt {c : Nat} (h : c < 2 ^ 32) : bitS' c < 2 ^ 32 := by
  unfold bitS'
  split
  · exact Nat.xor_lt_two_pow (by omega) (by decide)
  · omega
theorem bitN'_lt {c : Nat} (h : c < 2 ^ 32) : ∀ n, bitN' n c < 2 ^ 32
  | 0 => h
  | n + 1 => bitS'_lt (bitN'_lt h n)
theorem bitS_nat {c : Nat} (h : c < 2 ^ 32) : bitS c = (bitS' c : Nat) := by
  have h1 : and32 c 1 = ((c % 2 : Nat) : Int) := by
    have := andI32 (a := c) (b := 1) h (by decide)
    rw [Nat.and_one_is_mod] at this; exact this
  have h2 : ((c : Int)).fdiv (2 ^ min (Int.toNat 1) 32) = ((c / 2 : Nat) : Int) := by
    rw [show (2 : Int) ^ min (Int.toNat 1) 32 = 2 from by decide, Int.fdiv_eq_ediv_of_nonneg _ (by decide)]; omega
  unfold bitS bitS'
  rw [h1, h2]
  split
  · rename_i e
    rw [e, show IntKind.u32.wrap (0 - ((1 : Nat) : Int)) = ((4294967295 : Nat) : Int) from by decide]
    have : and32 3988292384 ((4294967295 : Nat) : Int) = ((3988292384 : Nat) : Int) := by decide
    rw [this]
    exact xorI32 (by omega) (by decide)
  · have e : c % 2 = 0 := by omega
    rw [e, show and32 3988292384 (IntKind.u32.wrap (0 - ((0 : Nat) : Int))) = ((0 : Nat) : Int) from by decide]
    have := xorI32 (a := c / 2) (b := 0) (by omega) (by decide)
    rw [Nat.xor_zero] at this; exact this
theorem bitN_nat {c : Nat} (h : c < 2 ^ 32) : ∀ n, bitN n c = (bitN' n c : Nat)
  | 0 => rfl
  | n + 1 => by rw [bitN, bitN', bitN_nat h n, bitS_nat (bitN'_lt h n)]
/-- a byte more -/
def byteS' (c b : Nat) : Nat := bitN' 8 (c ^^^ b)
theorem bitS'_xor (a b : Nat) : bitS' (a ^^^ b) = bitS' a ^^^ bitS' b := by
  have hd : (a ^^^ b) / 2 = (a / 2) ^^^ (b / 2) := by
    have : ∀ n : Nat, n / 2 = n >>> 1 := fun n => (Nat.shiftRight_eq_div_pow n 1).symm
    rw [this, this, this, Nat.shiftRight_xor_distrib]
  have hm : (a ^^^ b) % 2 = (a % 2) ^^^ (b % 2) := by
    have : ∀ n : Nat, n % 2 = n % 2 ^ 1 := fun n => rfl
    rw [this, this, this, Nat.xor_mod_two_pow]
  have key : ∀ x y p : Nat, (x ^^^ y) ^^^ p = (x ^^^ p) ^^^ y := fun x y p => by rw [Nat.xor_assoc, Nat.xor_comm y p, ← Nat.xor_assoc]
  unfold bitS'
  rw [hd, hm]
  rcases Nat.mod_two_eq_zero_or_one a with ha | ha <;> rcases Nat.mod_two_eq_zero_or_one b with hb | hb <;> rw [ha, hb] <;> simp only [Nat.zero_ne_one, if_false, if_true, Nat.xor_self, Nat.xor_zero, Nat.zero_xor]
  · rw [Nat.xor_assoc]
  · rw [key]
  · rw [← Nat.xor_assoc, ← key (a / 2) (b / 2) 3988292384, Nat.xor_assoc (a / 2 ^^^ b / 2), Nat.xor_self, Nat.xor_zero]
theorem bitN'_xor (a b : Nat) : ∀ n, bitN' n (a ^^^ b) = bitN' n a ^^^ bitN' n b
  | 0 => rfl
  | n + 1 => by rw [bitN', bitN', bitN', bitN'_xor a b n, bitS'_xor]
theorem bitN'_shift {a : Nat} : ∀ n, bitN' n (a * 2 ^ n) = a
  | 0 => by simp [bitN']
  | n + 1 => by
    have step : ∀ n c, bitN' (n + 1) c = bitN' n (bitS' c) := by
      intro n c
      induction n with
      | zero => rfl
      | succ n ih => rw [bitN', ih]; rfl
    rw [step]
    have : bitS' (a * 2 ^ (n + 1)) = a * 2 ^ n := by
      unfold bitS'
      rw [Nat.pow_succ, ← Nat.mul_assoc, Nat.mul_mod_left, if_neg (by decide), Nat.mul_div_cancel _ (by decide)]
    rw [this, bitN'_shift n]
theorem xorI8 {a b : Nat} (ha : a < 256) (hb : b < 256) : xorI .u8 (a : Int) (b : Int) = ((a ^^^ b : Nat) : Int) := by
  have hx : a ^^^ b < 256 := Nat.xor_lt_two_pow (n := 8) ha hb
  have e : (BitVec.ofInt 8 (a : Int) ^^^ BitVec.ofInt 8 (b : Int)).toNat = a ^^^ b := by
    rw [BitVec.toNat_xor, BitVec.ofInt_natCast, BitVec.ofInt_natCast, BitVec.toNat_ofNat, BitVec.toNat_ofNat, Nat.mod_eq_of_lt ha, Nat.mod_eq_of_lt hb]
  show IntKind.u8.wrap ((BitVec.ofInt 8 (a : Int) ^^^ BitVec.ofInt 8 (b : Int)).toNat) = _
  rw [e, wrap8 (by omega) (by omega)]
/-- by the table -/
theorem with_nat {c b : Nat} (h : c < 2 ^ 32) (hb : b < 256) : withS tabL c b = (byteS' c b : Nat) := by
  have h1 : ((c : Int)).fdiv (2 ^ min (Int.toNat 8) 32) = ((c / 256 : Nat) : Int) := by
    rw [show (2 : Int) ^ min (Int.toNat 8) 32 = 256 from by decide, Int.fdiv_eq_ediv_of_nonneg _ (by decide)]; omega
  have h2 : IntKind.u8.wrap (c : Int) = ((c % 256 : Nat) : Int) := by simp [IntKind.wrap, IntKind.bits, IntKind.signed]
  have hx : c % 256 ^^^ b < 256 := Nat.xor_lt_two_pow (n := 8) (by omega) hb
  have h3 := xorI8 (a := c % 256) (b := b) (by omega) hb
  have h4 : tabL.getD (c % 256 ^^^ b) 0 = ((bitN' 8 (c % 256 ^^^ b) : Nat) : Int) := by
    unfold tabL
    rw [List.getD_eq_getElem?_getD, List.getElem?_map, List.getElem?_range hx]
    show tabE _ = _
    unfold tabE
    rw [wrap32 (by omega) (by omega), bitN_nat (by omega)]
  unfold withS
  rw [h1, h2, h3, Int.toNat_natCast, h4]
  unfold xor32
  rw [xorI32 (by omega) (bitN'_lt (by omega) 8)]
  congr 1
  have hc : c = (c / 256 * 256) ^^^ (c % 256) := by
    have h5 : c % 256 < 2 ^ 8 := by omega
    have h6 := or_add (i := 8) (a := c / 256) h5
    have h7 : (2 ^ 8 * (c / 256)) ^^^ (c % 256) = 2 ^ 8 * (c / 256) + c % 256 := by
      rw [← h6]
      apply Nat.eq_of_testBit_eq
      intro i
      rw [Nat.testBit_xor, Nat.testBit_or]
      by_cases hi : i < 8
      · have : (2 ^ 8 * (c / 256)).testBit i = false := by
          rw [Nat.mul_comm, Nat.testBit_mul_two_pow]; simp; omega
        rw [this]; simp
      · have : (c % 256).testBit i = false := Nat.testBit_lt_two_pow (Nat.lt_of_lt_of_le h5 (Nat.pow_le_pow_right (by decide) (by omega)))
        rw [this]; simp
    rw [Nat.mul_comm, h7]; omega
  unfold byteS'
  conv => rhs; rw [hc]
  rw [Nat.xor_assoc, bitN'_xor (c / 256 * 256), show c / 256 * 256 = c / 256 * 2 ^ 8 from rfl, bitN'_shift]
/-! ### As the reference has it -/
theorem or_xor_and {a b : Nat} (ha : a < 2 ^ 32) (hb : b < 2 ^ 32) : (a ^^^ b) + (a &&& b) = a ||| b := by
  have hz : (BitVec.ofNat 32 a ^^^ BitVec.ofNat 32 b) &&& (BitVec.ofNat 32 a &&& BitVec.ofNat 32 b) = 0 := by
    apply BitVec.eq_of_getLsbD_eq
    intro i hi
    simp only [BitVec.getLsbD_and, BitVec.getLsbD_xor]
    cases (BitVec.ofNat 32 a).getLsbD i <;> cases (BitVec.ofNat 32 b).getLsbD i <;> simp
  have ho : (BitVec.ofNat 32 a ^^^ BitVec.ofNat 32 b) ||| (BitVec.ofNat 32 a &&& BitVec.ofNat 32 b) = BitVec.ofNat 32 a ||| BitVec.ofNat 32 b := by
    apply BitVec.eq_of_getLsbD_eq
    intro i hi
    simp only [BitVec.getLsbD_and, BitVec.getLsbD_xor, BitVec.getLsbD_or]
    cases (BitVec.ofNat 32 a).getLsbD i <;> cases (BitVec.ofNat 32 b).getLsbD i <;> rfl
  have h := BitVec.add_eq_or_of_and_eq_zero _ _ hz
  rw [ho] at h
  have h := congrArg BitVec.toNat h
  rw [BitVec.toNat_add, BitVec.toNat_or, BitVec.toNat_xor, BitVec.toNat_and, BitVec.toNat_ofNat, BitVec.toNat_ofNat, Nat.mod_eq_of_lt ha, Nat.mod_eq_of_lt hb] at h
  have h1 : a ||| b < 2 ^ 32 := Nat.or_lt_two_pow ha hb
  have h2 : a ^^^ b ≤ a ||| b := by
    have := Nat.le_of_testBit (n := a ^^^ b) (m := a ||| b) (fun i hi => by
      rw [Nat.testBit_xor] at hi; rw [Nat.testBit_or]
      revert hi; cases a.testBit i <;> cases b.testBit i <;> decide)
    exact this
  have h3 : a &&& b ≤ a := Nat.and_le_left
  have h4 : a ^^^ b < 2 ^ 32 := Nat.xor_lt_two_pow ha hb
  omega
theorem turn_eq {a b : Int} (ha : 0 ≤ a) (ha2 : a < 4294967296) (hb : 0 ≤ b) (hb2 : b < 4294967296) : IntKind.u32.wrap (orI .u32 a b - andI .u32 a b) = xor32 a b := by
  obtain ⟨m, rfl⟩ := Int.eq_ofNat_of_zero_le ha
  obtain ⟨n, rfl⟩ := Int.eq_ofNat_of_zero_le hb
  have hm : m < 2 ^ 32 := by omega
  have hn : n < 2 ^ 32 := by omega
  unfold xor32
  rw [orI32 hm hn, andI32 hm hn, xorI32 hm hn]
  have h := or_xor_and hm hn
  have h4 : m ^^^ n < 2 ^ 32 := Nat.xor_lt_two_pow hm hn
  rw [wrap32 (by omega) (by omega)]
  omega
theorem xor32_range {a b : Int} : 0 ≤ xor32 a b ∧ xor32 a b < 4294967296 := by
  unfold xor32 xorI; exact u32_range _
/-- one bit, as the reference has it -/
theorem bitS_move {c : Int} (h0 : 0 ≤ c) (h1 : c < 4294967296) : bitS c = if c.tmod 2 = 1 then xor32 (IntKind.u32.wrap (c.tdiv 2)) 3988292384 else IntKind.u32.wrap (c.tdiv 2) := by
  obtain ⟨n, rfl⟩ := Int.eq_ofNat_of_zero_le h0
  have hn : n < 2 ^ 32 := by omega
  rw [bitS_nat hn, Int.tmod_eq_emod_of_nonneg h0, Int.tdiv_eq_ediv_of_nonneg h0, wrap32 (by omega) (by omega)]
  unfold bitS'
  by_cases e : n % 2 = 1
  · rw [if_pos e, if_pos (by omega)]
    have : ((n : Int) / 2) = ((n / 2 : Nat) : Int) := by omega
    rw [this]
    exact (xorI32 (a := n / 2) (b := 3988292384) (by omega) (by decide)).symm
  · rw [if_neg e, if_neg (by omega)]; omega
theorem bitN_range {c : Int} (h0 : 0 ≤ c) (h1 : c < 4294967296) : ∀ n, 0 ≤ bitN n c ∧ bitN n c < 4294967296
  | 0 => ⟨h0, h1⟩
  | n + 1 => xor32_range
theorem byte_eq {c b : Int} (h0 : 0 ≤ c) (h1 : c < 4294967296) (hb0 : 0 ≤ b) (hb1 : b < 256) : bitN 8 (xor32 c b) = withS tabL c b := by
  obtain ⟨m, rfl⟩ := Int.eq_ofNat_of_zero_le h0
  obtain ⟨n, rfl⟩ := Int.eq_ofNat_of_zero_le hb0
  have hm : m < 2 ^ 32 := by omega
  rw [with_nat hm (by omega)]
  unfold xor32 byteS'
  rw [xorI32 hm (by omega), bitN_nat (Nat.xor_lt_two_pow hm (by omega))]
theorem withS_range {t : List Int} {c b : Int} : 0 ≤ withS t c b ∧ withS t c b < 4294967296 := xor32_range
theorem wordN_range {t : List Int} {w c : Int} (h0 : 0 ≤ c) (h1 : c < 4294967296) : ∀ n, 0 ≤ wordN t w n c ∧ wordN t w n c < 4294967296
  | 0 => ⟨h0, h1⟩
  | n + 1 => withS_range
theorem byteAt_range {w : Int} {k : Nat} : 0 ≤ byteAt w k ∧ byteAt w k < 256 := u8_range _
theorem sumC_range : ∀ (l : List Int) (c : Int), 0 ≤ c → c < 4294967296 → 0 ≤ l.foldl (wordS tabL) c ∧ l.foldl (wordS tabL) c < 4294967296
  | [], c, h0, h1 => ⟨h0, h1⟩
  | x :: l, c, h0, h1 => by
    rw [List.foldl_cons]
    exact sumC_range l _ (wordN_range h0 h1 8).1 (wordN_range h0 h1 8).2
theorem notI32 {c : Int} (h0 : 0 ≤ c) (h1 : c < 4294967296) : notI .u32 c = IntKind.u32.wrap (4294967295 - c) := by
  obtain ⟨n, rfl⟩ := Int.eq_ofNat_of_zero_le h0
  have hn : n < 2 ^ 32 := by omega
  rw [wrap32 (by omega) (by omega)]
  have e : (BitVec.ofInt 32 4294967295 ^^^ BitVec.ofInt 32 (n : Int)).toNat = 4294967295 - n := by
    have h1 : BitVec.ofInt 32 4294967295 = BitVec.allOnes 32 := by decide
    rw [h1, BitVec.allOnes_xor, BitVec.toNat_not, BitVec.ofInt_natCast, BitVec.toNat_ofNat, Nat.mod_eq_of_lt hn]
  show IntKind.u32.wrap ((BitVec.ofInt 32 4294967295 ^^^ BitVec.ofInt 32 (n : Int)).toNat) = _
  rw [e, wrap32 (by omega) (by omega)]
  omega
end Lam
namespace Lam
open Go
set_option linter.unusedVariables false
set_option linter.unnecessarySimpa false
set_option linter.unusedSimpArgs false
def pv (p : Bytes) : Nat := p.foldl (fun a b => a * 256 + b.toNat) 0
def pw (p : Bytes) : Nat := pv p * 256 ^ (7 - p.length)
def pieceN (s : Bytes) (k : Nat) : Bytes := (s.drop (7 * k)).take 7
def nPieces (s : Bytes) : Nat := (s.length + 6) / 7
def keyW (s : Bytes) : List Int := (List.range (nPieces s)).map fun k => (pw (pieceN s k) : Int)

theorem nat_or_step (x b m : Nat) (hb : b < 256) : x * 2 ^ (m + 8) ||| b * 2 ^ m = (x * 256 + b) * 2 ^ m := by
  have e1 : x * 2 ^ (m + 8) = (x <<< 8) <<< m := by rw [Nat.shiftLeft_eq, Nat.shiftLeft_eq, Nat.pow_add, Nat.mul_assoc, Nat.mul_comm (2 ^ m)]
  have e2 : b * 2 ^ m = b <<< m := by rw [Nat.shiftLeft_eq]
  have e3 : (x * 256 + b) * 2 ^ m = (x <<< 8 + b) <<< m := by rw [Nat.shiftLeft_eq, Nat.shiftLeft_eq]
  rw [e1, e2, e3, ← Nat.shiftLeft_or_distrib, Nat.shiftLeft_add_eq_or_of_lt (by omega)]

theorem pv_snoc (p : Bytes) (b : UInt8) : pv (p ++ [b]) = pv p * 256 + b.toNat := by simp [pv]
theorem pv_lt : ∀ (p : Bytes), pv p < 256 ^ p.length := by
  intro p
  have key : ∀ (p : Bytes) (a n : Nat), a < 256 ^ n → p.foldl (fun a b => a * 256 + b.toNat) a < 256 ^ (n + p.length) := by
    intro p
    induction p with
    | nil => intro a n h; simpa using h
    | cons b r ih =>
      intro a n h
      have hb : b.toNat < 256 := b.toNat_lt
      have := ih (a * 256 + b.toNat) (n + 1) (by rw [Nat.pow_succ]; omega)
      simpa [Nat.add_assoc, Nat.add_comm 1] using this
  have := key p 0 0 (by simp)
  simpa [pv] using this

/-- a byte more -/
theorem pv_step (p : Bytes) {j : Nat} (hp : p.length ≤ 7) (hj : j < p.length) :
    orI .i64 ((pv (p.take j) * 256 ^ (7 - j) : Nat) : Int) (IntKind.i64.wrap (IntKind.i64.wrap ((p.getD j 0).toNat : Int) * 2 ^ min (IntKind.i64.wrap (8 * IntKind.i64.wrap (6 - (j : Int)))).toNat 64)) = ((pv (p.take (j + 1)) * 256 ^ (7 - (j + 1)) : Nat) : Int) := by
  have hb : (p.getD j 0).toNat < 256 := (p.getD j 0).toNat_lt
  have hx : pv (p.take j) < 256 ^ j := by have := pv_lt (p.take j); rwa [List.length_take, Nat.min_eq_left (by omega)] at this
  rw [take_next p j 0 hj, pv_snoc]
  generalize (p.getD j 0).toNat = b at *
  generalize pv (p.take j) = x at *
  have e1 : IntKind.i64.wrap (6 - (j : Int)) = ((6 - j : Nat) : Int) := by rw [w64 (by omega) (by omega)]; omega
  have e2 : IntKind.i64.wrap (8 * ((6 - j : Nat) : Int)) = ((8 * (6 - j) : Nat) : Int) := by rw [w64 (by omega) (by omega)]; omega
  have e3 : IntKind.i64.wrap ((b : Nat) : Int) = (b : Int) := w64 (by omega) (by omega)
  have hm : 8 * (6 - j) ≤ 48 := by omega
  have e4 : (256 : Nat) ^ (7 - j) = 2 ^ (8 * (6 - j) + 8) := by rw [show (256 : Nat) = 2 ^ 8 from rfl, ← Nat.pow_mul]; congr 1; omega
  have e5 : (256 : Nat) ^ (7 - (j + 1)) = 2 ^ (8 * (6 - j)) := by rw [show (256 : Nat) = 2 ^ 8 from rfl, ← Nat.pow_mul]; congr 1; omega
  rw [e1, e2, e3, Int.toNat_natCast, Nat.min_eq_left (by omega), e4, e5]
  have hpm : (2 : Nat) ^ (8 * (6 - j)) ≤ 2 ^ 48 := Nat.pow_le_pow_right (by omega) hm
  have hbm : b * 2 ^ (8 * (6 - j)) < 2 ^ 63 := by
    have : b * 2 ^ (8 * (6 - j)) ≤ 255 * 2 ^ 48 := Nat.mul_le_mul (by omega) hpm
    omega
  have ec : ((b : Int) * 2 ^ (8 * (6 - j))) = ((b * 2 ^ (8 * (6 - j)) : Nat) : Int) := by push_cast; rfl
  rw [ec, w64 (by omega) (by omega)]
  have hor := nat_or_step x b (8 * (6 - j)) hb
  have hall : (x * 256 + b) * 2 ^ (8 * (6 - j)) < 2 ^ 63 := by
    have h1 : x * 256 + b < 256 ^ (j + 1) := by rw [Nat.pow_succ]; omega
    have h2 : (256 : Nat) ^ (j + 1) * 2 ^ (8 * (6 - j)) = 2 ^ 56 := by
      rw [show (256 : Nat) = 2 ^ 8 from rfl, ← Nat.pow_mul, ← Nat.pow_add]; congr 1; omega
    have h3 : (x * 256 + b) * 2 ^ (8 * (6 - j)) ≤ 256 ^ (j + 1) * 2 ^ (8 * (6 - j)) := Nat.mul_le_mul_right _ (by omega)
    omega
  have hle : x * 2 ^ (8 * (6 - j) + 8) ≤ x * 2 ^ (8 * (6 - j) + 8) ||| b * 2 ^ (8 * (6 - j)) := Nat.left_le_or
  rw [orI_nat (by rw [hor]; exact hall) (by omega) hbm, hor]

theorem getD_words (s : Bytes) {k : Nat} (hk : k < nPieces s) : (keyW s).getD k 0 = (pw (pieceN s k) : Int) := by
  simp [keyW, List.getD_eq_getElem?_getD, hk]

def byteI (w : Int) (i : Nat) : Int := IntKind.u8.wrap (w.fdiv (2 ^ (8 * (6 - i))))
def sevenI (w : Int) : List Int := (List.range 7).map (byteI w)
def flatI (l : List Int) : List Int := l.flatMap sevenI
def wMay (w : Int) : Bool := decide (0 ≤ w) && decide (w < 72057594037927936)
def lenT (n : Int) : Int := IntKind.i64.wrap (IntKind.i64.wrap (n.tdiv 7) + (if n.tmod 7 < 1 then n.tmod 7 else 1))
def textB (l : List Int) (n : Int) : Bool := !decide (n < 0) && decide ((l.length : Int) = lenT n) && l.all wMay && ((flatI l).drop n.toNat).all (fun b => decide (b = 0))
def textS (l : List Int) (n : Int) : Bytes := ((flatI l).take n.toNat).map fun b => UInt8.ofNat b.toNat
theorem lenT_nat (m : Nat) (h : (m : Int) < 9223372036854775808) : lenT m = ((m + 6) / 7 : Nat) := by
  unfold lenT
  have e1 : (m : Int).tdiv 7 = ((m / 7 : Nat) : Int) := rfl
  have e2 : (m : Int).tmod 7 = ((m % 7 : Nat) : Int) := rfl
  rw [e1, e2, w64 (n := ((m / 7 : Nat) : Int)) (by omega) (by omega)]
  split
  · rw [w64 (by omega) (by omega)]; omega
  · rw [w64 (by omega) (by omega)]; omega

theorem flatI_len (l : List Int) : (flatI l).length = 7 * l.length := by
  induction l with
  | nil => rfl
  | cons w r ih => simp only [flatI, List.flatMap_cons, List.length_append, List.length_cons] at ih ⊢; rw [ih]; simp [sevenI]; omega
theorem byteI_range (w : Int) (i : Nat) : 0 ≤ byteI w i ∧ byteI w i < 256 := u8_range _

/-! ### Words and bytes -/
theorem pv_append (p q : Bytes) : pv (p ++ q) = pv p * 256 ^ q.length + pv q := by
  have key : ∀ (q : Bytes) (a : Nat), q.foldl (fun a b => a * 256 + b.toNat) a = a * 256 ^ q.length + pv q := by
    intro q
    induction q with
    | nil => intro a; simp [pv]
    | cons b r ih =>
      intro a
      have h1 := ih (a * 256 + b.toNat)
      have h2 := ih b.toNat
      have h3 : pv (b :: r) = r.foldl (fun a b => a * 256 + b.toNat) b.toNat := by simp [pv]
      rw [h3, h2, List.foldl_cons, h1, List.length_cons, Nat.pow_succ, Nat.add_mul]
      rw [Nat.mul_assoc a 256, Nat.mul_comm 256]
      omega
  have := key q (pv p)
  rw [← this]
  simp [pv]

theorem pv_zeros (n : Nat) : pv (List.replicate n 0) = 0 := by
  induction n with
  | zero => rfl
  | succ n ih => simpa [pv, List.replicate_succ] using ih

/-- a piece, with bytes 0 behind it -/
def padB (p : Bytes) : Bytes := p ++ List.replicate (7 - p.length) 0
theorem pw_pad (p : Bytes) : pw p = pv (padB p) := by
  unfold pw padB
  rw [pv_append, pv_zeros, List.length_replicate, Nat.add_zero]
theorem padB_len {p : Bytes} (h : p.length ≤ 7) : (padB p).length = 7 := by simp [padB]; omega

theorem pv_get (q : Bytes) {i : Nat} (hi : i < q.length) : pv q / 256 ^ (q.length - 1 - i) % 256 = (q.getD i 0).toNat := by
  have e : q = q.take (i + 1) ++ q.drop (i + 1) := (List.take_append_drop _ _).symm
  have hd : (q.drop (i + 1)).length = q.length - 1 - i := by simp; omega
  have hlt := pv_lt (q.drop (i + 1))
  have e2 : pv q = pv (q.take (i + 1)) * 256 ^ (q.length - 1 - i) + pv (q.drop (i + 1)) := by
    conv => lhs; rw [e]
    rw [pv_append, hd]
  rw [hd] at hlt
  have hpos : 0 < 256 ^ (q.length - 1 - i) := Nat.pow_pos (by omega)
  rw [e2, Nat.mul_comm, Nat.mul_add_div hpos, Nat.div_eq_of_lt hlt, Nat.add_zero, take_next q i 0 hi, pv_snoc]
  have := (q.getD i 0).toNat_lt
  omega

theorem byteI_nat (n i : Nat) : byteI n i = ((n / 256 ^ (6 - i) % 256 : Nat) : Int) := by
  unfold byteI
  have e : (2 : Int) ^ (8 * (6 - i)) = ((256 ^ (6 - i) : Nat) : Int) := by
    rw [show (256 : Nat) = 2 ^ 8 from rfl, ← Nat.pow_mul]; push_cast; rfl
  rw [e]
  have e2 : (n : Int).fdiv ((256 ^ (6 - i) : Nat) : Int) = ((n / 256 ^ (6 - i) : Nat) : Int) := by
    rw [Int.fdiv_eq_ediv_of_nonneg _ (Int.natCast_nonneg _)]; exact (Int.natCast_ediv _ _).symm
  rw [e2]
  simp [IntKind.wrap, IntKind.bits, IntKind.signed]

def natsI (p : Bytes) : List Int := p.map fun b => (b.toNat : Int)
theorem natsI_len (p : Bytes) : (natsI p).length = p.length := by simp [natsI]

theorem sevenI_pv {q : Bytes} (h : q.length = 7) : sevenI (pv q : Nat) = natsI q := by
  apply List.ext_getElem
  · simp [sevenI, natsI, h]
  intro i h1 h2
  have hi : i < q.length := by simpa [natsI] using h2
  simp only [sevenI, natsI, List.getElem_map, List.getElem_range]
  rw [byteI_nat]
  have := pv_get q hi
  rw [h] at this
  rw [show 6 - i = 7 - 1 - i by omega, this, List.getD_eq_getElem?_getD, List.getElem?_eq_getElem hi]
  rfl

theorem pv_lt7 {q : Bytes} (h : q.length = 7) : pv q < 72057594037927936 := by have := pv_lt q; rw [h] at this; exact this

theorem sevenI_inj {a b : Int} (ha : wMay a = true) (hb : wMay b = true) (h : sevenI a = sevenI b) : a = b := by
  simp only [wMay, Bool.and_eq_true, decide_eq_true_eq] at ha hb
  obtain ⟨m, rfl⟩ : ∃ m : Nat, a = m := ⟨a.toNat, by omega⟩
  obtain ⟨n, rfl⟩ : ∃ n : Nat, b = n := ⟨b.toNat, by omega⟩
  have hh : ∀ i, i < 7 → byteI m i = byteI n i := by
    intro i hi
    have := congrArg (fun l => l.getD i 0) h
    simpa [sevenI, List.getD_eq_getElem?_getD, hi] using this
  have h0 := hh 0 (by omega)
  have h1 := hh 1 (by omega)
  have h2 := hh 2 (by omega)
  have h3 := hh 3 (by omega)
  have h4 := hh 4 (by omega)
  have h5 := hh 5 (by omega)
  have h6 := hh 6 (by omega)
  simp only [byteI_nat, Nat.reduceSub, Nat.reducePow, Int.natCast_inj] at h0 h1 h2 h3 h4 h5 h6
  omega

theorem flatI_inj : ∀ {l l' : List Int}, l.all wMay = true → l'.all wMay = true → flatI l = flatI l' → l = l'
  | [], [], _, _, _ => rfl
  | [], b :: r, _, _, h => by have := congrArg List.length h; simp [flatI_len] at this
  | a :: r, [], _, _, h => by have := congrArg List.length h; simp [flatI_len] at this
  | a :: r, b :: r', ha, hb, h => by
    simp only [List.all_cons, Bool.and_eq_true] at ha hb
    have e1 : ∀ (x : Int) (l : List Int), flatI (x :: l) = sevenI x ++ flatI l := fun x l => by simp [flatI]
    rw [e1, e1] at h
    obtain ⟨h1, h2⟩ := List.append_inj h (by simp [sevenI])
    rw [sevenI_inj ha.1 hb.1 h1, flatI_inj ha.2 hb.2 h2]

theorem natsI_inj {p q : Bytes} (h : natsI p = natsI q) : p = q := by
  apply List.ext_getElem
  · have := congrArg List.length h; simpa [natsI] using this
  intro i h1 h2
  have := congrArg (fun l => l.getD i 0) h
  simp [natsI, List.getD_eq_getElem?_getD, h1, h2] at this
  exact UInt8.toNat_inj.1 (Int.natCast_inj.1 this)

theorem flatI_range {l : List Int} : ∀ b ∈ flatI l, 0 ≤ b ∧ b < 256 := by
  intro b hb
  simp only [flatI, List.mem_flatMap, sevenI, List.mem_map] at hb
  obtain ⟨w, _, i, _, rfl⟩ := hb
  exact byteI_range w i

theorem natsI_text {l : List Int} {n : Nat} : natsI (textS l n) = (flatI l).take n := by
  unfold natsI textS
  rw [List.map_map, Int.toNat_natCast]
  conv => rhs; rw [← List.map_id ((flatI l).take n)]
  apply List.map_congr_left
  intro b hb
  obtain ⟨h1, h2⟩ := flatI_range b (List.mem_of_mem_take hb)
  simp only [Function.comp, id]
  rw [UInt8.toNat_ofNat', Nat.mod_eq_of_lt (by omega)]
  omega

/-! ### A text's words -/
theorem pieceN_len (s : Bytes) (k : Nat) : (pieceN s k).length ≤ 7 := by unfold pieceN; simp; omega
theorem keyW_len (s : Bytes) : (keyW s).length = nPieces s := by simp [keyW]
theorem keyW_may (s : Bytes) : (keyW s).all wMay = true := by
  rw [List.all_eq_true]
  intro w hw
  simp only [keyW, List.mem_map] at hw
  obtain ⟨k, _, rfl⟩ := hw
  rw [pw_pad]
  have := pv_lt7 (padB_len (pieceN_len s k))
  simp [wMay]; omega

theorem keyW_cons {s : Bytes} (h : s ≠ []) : keyW s = (pw (s.take 7) : Int) :: keyW (s.drop 7) := by
  have hp : 0 < s.length := List.length_pos_iff.2 h
  apply List.ext_getElem
  · simp [keyW, nPieces]; omega
  intro i h1 h2
  simp only [keyW, List.getElem_map, List.getElem_range]
  cases i with
  | zero => simp [pieceN]
  | succ i =>
    simp only [List.getElem_cons_succ, List.getElem_map, List.getElem_range, pieceN, List.drop_drop]
    rw [show 7 * (i + 1) = 7 + 7 * i by omega]

/-- as many bytes 0 as are lacking to whole sevens -/
theorem flatI_words : ∀ (n : Nat) (s : Bytes), s.length ≤ n → flatI (keyW s) = natsI s ++ List.replicate (7 * nPieces s - s.length) 0
  | n, [], _ => rfl
  | 0, b :: r, h => by simp at h
  | n + 1, b :: r, h => by
    rw [keyW_cons (by simp)]
    generalize hs : b :: r = s at *
    have hp : 0 < s.length := by rw [← hs]; simp
    have e1 : ∀ (x : Int) (l : List Int), flatI (x :: l) = sevenI x ++ flatI l := fun x l => by simp [flatI]
    have htl : (s.take 7).length ≤ 7 := by simp; omega
    rw [e1, pw_pad, sevenI_pv (padB_len htl), flatI_words n (s.drop 7) (by simp; omega)]
    unfold padB
    simp only [natsI, List.map_append, List.append_assoc, List.map_replicate, List.length_take, List.length_drop]
    rcases Nat.lt_or_ge s.length 7 with h7 | h7
    · have h1 : s.take 7 = s := List.take_of_length_le (by omega)
      have h2 : s.drop 7 = [] := List.drop_eq_nil_of_le (by omega)
      rw [h1, h2]
      have h3 : nPieces s = 1 := by unfold nPieces; omega
      rw [h3]
      simp [nPieces, Nat.min_eq_right (Nat.le_of_lt h7)]
    · have h3 : nPieces (s.drop 7) = nPieces s - 1 := by unfold nPieces; simp; omega
      have h4 : 1 ≤ nPieces s := by unfold nPieces; omega
      rw [Nat.min_eq_left h7, h3]
      have h5 : 7 * (nPieces s - 1) - (s.length - 7) = 7 * nPieces s - s.length := by omega
      rw [h5]
      simp only [List.map_take, List.map_drop, Nat.sub_self, List.replicate_zero, List.nil_append]
      rw [← List.append_assoc, List.take_append_drop]

theorem text_words (s : Bytes) (h : s.length < 9223372036854775808) : textB (keyW s) s.length = true ∧ textS (keyW s) s.length = s := by
  have hf := flatI_words s.length s (Nat.le_refl _)
  have ht : (flatI (keyW s)).take s.length = natsI s := by rw [hf, List.take_left' (natsI_len s)]
  refine ⟨?_, natsI_inj (by rw [natsI_text, ht])⟩
  unfold textB
  rw [keyW_may, keyW_len, lenT_nat _ (by omega), Int.toNat_natCast, hf, List.drop_left' (natsI_len s)]
  have : ¬ ((s.length : Int) < 0) := by omega
  simp only [this, decide_false, Bool.not_false, Bool.true_and, nPieces, decide_true, Bool.and_true]
  rw [List.all_eq_true]
  intro b hb
  rw [List.eq_of_mem_replicate hb]; rfl

theorem textB_parts {l : List Int} {n : Int} (h : textB l n = true) : 0 ≤ n ∧ (l.length : Int) = lenT n ∧ l.all wMay = true ∧ ∀ b ∈ (flatI l).drop n.toNat, b = 0 := by
  simp only [textB, Bool.and_eq_true, decide_eq_true_eq, Bool.not_eq_true', decide_eq_false_iff_not] at h
  obtain ⟨⟨⟨h1, h2⟩, h3⟩, h4⟩ := h
  exact ⟨by omega, h2, h3, fun b hb => by simpa using List.all_eq_true.1 h4 b hb⟩

/-- no others are turned to it -/
theorem text_only {s : Bytes} {l : List Int} (h : s.length < 9223372036854775808) (hB : textB l s.length = true) : textS l s.length = s ↔ l = keyW s := by
  constructor
  · intro hs
    obtain ⟨_, h2, h3, h4⟩ := textB_parts hB
    refine flatI_inj h3 (keyW_may s) ?_
    rw [Int.toNat_natCast] at h4
    rw [lenT_nat _ (by omega)] at h2
    rw [flatI_words s.length s (Nat.le_refl _), ← List.take_append_drop s.length (flatI l), ← natsI_text, hs]
    congr 1
    refine List.eq_replicate_iff.2 ⟨?_, h4⟩
    rw [List.length_drop, flatI_len]
    unfold nPieces; omega
  · rintro rfl
    exact (text_words s h).2
end Lam
namespace Lam
open Go
set_option linter.unusedVariables false
set_option linter.unnecessarySimpa false
set_option linter.unusedSimpArgs false
structure Rc where
  kind : Int
  key : Bytes
  val : Bytes
  child : Int
  deriving DecidableEq
def Rc.V (x : Rc) : AV := .agg [.int .i64 x.kind, .str x.key, .str x.val, .int .i64 x.child]
attribute [go_sem] Rc.V
def Rc.ok (x : Rc) : Prop := (x.kind = 1 ∧ x.key ≠ [] ∧ x.key.length ≤ 21 ∧ x.val.length ≤ 21 ∧ x.child = 0) ∨ (x.kind = 2 ∧ x.key.length ≤ 21 ∧ x.val = [] ∧ 0 < x.child ∧ x.child < 256)
def keyB (s : Bytes) : Bool := decide (s ≠ []) && decide ((s.length : Int) ≤ 21)
def recB (x : Rc) : Bool := (decide (x.kind = 1) && (keyB x.key && decide ((x.val.length : Int) ≤ 21) && decide (x.child = 0))) || (decide (x.kind = 2) && ((decide (x.key = []) || keyB x.key) && decide (x.val = []) && decide (0 < x.child) && decide (x.child < 256)))
theorem rec_iff {x : Rc} : recB x = true ↔ x.ok := by
  unfold recB Rc.ok keyB
  simp only [Bool.or_eq_true, Bool.and_eq_true, decide_eq_true_eq]
  constructor
  · rintro (⟨h1, ⟨⟨h2, h3⟩, h4⟩, h5⟩ | ⟨h1, ⟨⟨h2, h3⟩, h4⟩, h5⟩)
    · exact .inl ⟨h1, h2, by omega, by omega, h5⟩
    · refine .inr ⟨h1, ?_, h3, h4, h5⟩
      rcases h2 with h | h
      · rw [h]; exact Nat.zero_le _
      · omega
  · rintro (⟨h1, h2, h3, h4, h5⟩ | ⟨h1, h2, h3, h4, h5⟩)
    · exact .inl ⟨h1, ⟨⟨h2, by omega⟩, by omega⟩, h5⟩
    · refine .inr ⟨h1, ⟨⟨?_, h3⟩, h4⟩, h5⟩
      by_cases e : x.key = []
      · exact .inl e
      · exact .inr ⟨e, by omega⟩
theorem Rc.ok.key {x : Rc} (h : x.ok) : x.key.length ≤ 21 := by rcases h with h | h; exact h.2.2.1; exact h.2.1
theorem Rc.ok.val {x : Rc} (h : x.ok) : x.val.length ≤ 21 := by
  rcases h with h | h
  · exact h.2.2.2.1
  · rw [h.2.2.1]; exact Nat.zero_le _
/-- three words -/
def threeI (s : Bytes) : List Int := keyW s ++ List.replicate (3 - (keyW s).length) 0
theorem three_len {s : Bytes} (h : s.length ≤ 21) : (threeI s).length = 3 := by
  have h1 : (keyW s).length = nPieces s := keyW_len s
  have h2 : nPieces s = (s.length + 6) / 7 := rfl
  simp [threeI]; omega
def restR (x : Rc) : List Int := threeI x.key ++ ((if x.kind = 2 then [x.child, 0, 0] else threeI x.val) ++ List.replicate 7 0)
def lensR (x : Rc) : Int := 32 * (x.key.length : Int) + (x.val.length : Int)
def formR (x : Rc) : List Int := x.kind :: lensR x :: sumOf (x.kind :: lensR x :: restR x) :: restR x
theorem rest_len {x : Rc} (h : x.ok) : (restR x).length = 13 := by
  have h1 := three_len h.key
  have h2 := three_len h.val
  unfold restR
  split <;> simp [h1, h2]
theorem form_len {x : Rc} (h : x.ok) : (formR x).length = 16 := by
  have := rest_len h
  simp [formR, this]
theorem textS_key (s : Bytes) (h : s.length ≤ 21) : textB ((threeI s).take ((s.length + 6) / 7)) s.length = true ∧ textS ((threeI s).take ((s.length + 6) / 7)) s.length = s := by
  have h1 : (keyW s).length = (s.length + 6) / 7 := keyW_len s
  have : (threeI s).take ((s.length + 6) / 7) = keyW s := by
    unfold threeI; exact List.take_left' h1
  rw [this]
  exact text_words s (by omega)
/-- a text's words, from a place on -/
def txtB (w : List Int) (at_ : Nat) (n : Int) : Bool := decide (0 ≤ n) && decide (n ≤ 21) && textB ((w.drop at_).take ((n.toNat + 6) / 7)) n
def txtS (w : List Int) (at_ : Nat) (n : Int) : Bytes := if txtB w at_ n = true then textS ((w.drop at_).take ((n.toNat + 6) / 7)) n else []
theorem form_key {x : Rc} (h : x.ok) : txtB (formR x) 3 (x.key.length : Int) = true ∧ txtS (formR x) 3 (x.key.length : Int) = x.key := by
  have hk := h.key
  have h3 := three_len hk
  have e : ((formR x).drop 3).take ((x.key.length + 6) / 7) = (threeI x.key).take ((x.key.length + 6) / 7) := by
    show (threeI x.key ++ _).take _ = _
    exact List.take_append_of_le_length (by rw [h3]; omega)
  have ht := textS_key x.key hk
  have hb : txtB (formR x) 3 (x.key.length : Int) = true := by
    unfold txtB
    rw [Int.toNat_natCast, e, ht.1, decide_eq_true (by omega), decide_eq_true (by omega)]; rfl
  refine ⟨hb, ?_⟩
  unfold txtS
  rw [if_pos hb, Int.toNat_natCast, e]; exact ht.2
theorem form_val {x : Rc} (h : x.ok) (h1 : x.kind = 1) : txtB (formR x) 6 (x.val.length : Int) = true ∧ txtS (formR x) 6 (x.val.length : Int) = x.val := by
  have hk := three_len h.key
  have hv := h.val
  have h3 := three_len hv
  have e : ((formR x).drop 6).take ((x.val.length + 6) / 7) = (threeI x.val).take ((x.val.length + 6) / 7) := by
    have : (formR x).drop 6 = threeI x.val ++ List.replicate 7 0 := by
      show (threeI x.key ++ _).drop 3 = _
      rw [List.drop_left' hk, if_neg (by rw [h1]; decide)]
    rw [this]
    exact List.take_append_of_le_length (by rw [h3]; omega)
  have ht := textS_key x.val hv
  have hb : txtB (formR x) 6 (x.val.length : Int) = true := by
    unfold txtB
    rw [Int.toNat_natCast, e, ht.1, decide_eq_true (by omega), decide_eq_true (by omega)]; rfl
  refine ⟨hb, ?_⟩
  unfold txtS
  rw [if_pos hb, Int.toNat_natCast, e]; exact ht.2
theorem form_child {x : Rc} (h : x.ok) (h2 : x.kind = 2) : (formR x).getD 6 0 = x.child := by
  have hk := three_len h.key
  show (threeI x.key ++ _).getD 3 0 = _
  rw [getD_append_right _ _ _ _ (by omega), hk, if_pos h2]; rfl
/-- a record's, of its words -/
def decC (w : List Int) : Rc := ⟨w.getD 0 0, txtS w 3 (w.getD 1 0 / 32), if w.getD 0 0 = 1 then txtS w 6 (w.getD 1 0 % 32) else [], if w.getD 0 0 = 2 then w.getD 6 0 else 0⟩
theorem form_lens {x : Rc} (h : x.ok) : lensR x / 32 = x.key.length ∧ lensR x % 32 = x.val.length ∧ 0 ≤ lensR x ∧ lensR x ≤ 693 := by
  have := h.key; have := h.val
  unfold lensR; omega
theorem decC_form {x : Rc} (h : x.ok) : decC (formR x) = x := by
  have e0 : (formR x).getD 0 0 = x.kind := rfl
  have e1 : (formR x).getD 1 0 = lensR x := rfl
  have hl := form_lens h
  unfold decC
  rw [e0, e1, hl.1, hl.2.1, (form_key h).2]
  have h' := h
  rcases h with ⟨h1, _, _, _, h5⟩ | ⟨h1, _, h3, _, _⟩
  · rw [if_pos h1, if_neg (by rw [h1]; decide), (form_val h' h1).2]
    cases x; simp only at *; simp only [h5]
  · rw [if_neg (by rw [h1]; decide), if_pos h1, form_child h' h1]
    cases x; simp only at *; simp only [h3]
def readC (d : List Int → Rc) (w : List Int) : Option Rc := if (recB (d w) && decide (formR (d w) = w)) = true then some (d w) else none
theorem readC_some {d : List Int → Rc} {w : List Int} {n : Rc} (h : readC d w = some n) : n.ok ∧ formR n = w := by
  unfold readC at h
  split at h
  · rename_i hc
    rw [Bool.and_eq_true, decide_eq_true_eq] at hc
    cases h
    exact ⟨rec_iff.1 hc.1, hc.2⟩
  · cases h
theorem readC_ok {d : List Int → Rc} (hd : ∀ n, n.ok → d (formR n) = n) {n : Rc} (h : n.ok) : readC d (formR n) = some n := by
  unfold readC
  rw [hd n h, rec_iff.2 h, decide_eq_true rfl]; rfl
theorem readC_eq {d d' : List Int → Rc} (hd : ∀ n, n.ok → d (formR n) = n) (hd' : ∀ n, n.ok → d' (formR n) = n) (w : List Int) : readC d w = readC d' w := by
  cases h : readC d w with
  | some n =>
    obtain ⟨h1, rfl⟩ := readC_some h
    rw [readC_ok hd' h1]
  | none =>
    cases h' : readC d' w with
    | none => rfl
    | some n =>
      obtain ⟨h1, rfl⟩ := readC_some h'
      rw [readC_ok hd h1] at h; cases h
def recOf (w : List Int) : Option Rc := readC decC w
theorem recOf_some {w : List Int} {x : Rc} (h : recOf w = some x) : x.ok ∧ formR x = w := readC_some h
/-- what is read must be as it would be laid -/
theorem recOf_none {w : List Int} (h : ∀ x : Rc, x.ok → formR x ≠ w) : recOf w = none := by
  cases e : recOf w with
  | none => rfl
  | some x => exact absurd (recOf_some e).2 (h x (recOf_some e).1)
def zeroRc : Rc := ⟨0, [], [], 0⟩
end Lam
namespace Lam
open Go
set_option linter.unusedVariables false
set_option linter.unusedSimpArgs false
def nodeO (w : List Int) (b : Int) : Option Nd := if (decide (b < 0) || decide (((w.length / 16 : Nat) : Int) ≤ b)) = true then none else readN (blockAt w b.toNat)
def recO (w : List Int) (b : Int) : Option Rc := if (decide (b < 0) || decide (((w.length / 16 : Nat) : Int) ≤ b)) = true then none else recOf (blockAt w b.toNat)
theorem nodeO_some {w : List Int} {b : Int} {n : Nd} (h : nodeO w b = some n) : n.ok ∧ 0 ≤ b ∧ b < ((w.length / 16 : Nat) : Int) ∧ readN (blockAt w b.toNat) = some n := by
  unfold nodeO at h
  split at h
  · cases h
  · rename_i hb
    simp only [Bool.or_eq_true, decide_eq_true_eq, not_or] at hb
    exact ⟨(readN_some h).1, by omega, by omega, h⟩
end Lam
namespace Lam
open Go
set_option linter.unusedVariables false
set_option linter.unusedSimpArgs false
theorem ltB_self : ∀ a : Bytes, ltB a a = false
  | [] => rfl
  | a :: x => by simp [ltB, ltB_self x]
theorem ltB_trans : ∀ {a b c : Bytes}, ltB a b = true → ltB b c = true → ltB a c = true
  | _, [], _, h, _ => by simp [ltB] at h
  | _, _ :: _, [], _, h => by simp [ltB] at h
  | [], _ :: _, _ :: _, _, _ => rfl
  | a :: x, b :: y, c :: z, h1, h2 => by
    simp only [ltB, Bool.or_eq_true, decide_eq_true_eq, Bool.and_eq_true, beq_iff_eq] at h1 h2 ⊢
    rcases h1 with h1 | ⟨rfl, h1⟩
    · rcases h2 with h2 | ⟨rfl, h2⟩
      · exact .inl (UInt8.lt_trans h1 h2)
      · exact .inl h1
    · rcases h2 with h2 | ⟨rfl, h2⟩
      · exact .inl h2
      · exact .inr ⟨rfl, ltB_trans h1 h2⟩
theorem ltB_tri : ∀ (a b : Bytes), ltB a b = true ∨ a = b ∨ ltB b a = true
  | [], [] => .inr (.inl rfl)
  | [], _ :: _ => .inl rfl
  | _ :: _, [] => .inr (.inr rfl)
  | a :: x, b :: y => by
    simp only [ltB, Bool.or_eq_true, decide_eq_true_eq, Bool.and_eq_true, beq_iff_eq, List.cons.injEq]
    by_cases hab : a < b
    · exact .inl (.inl hab)
    by_cases hba : b < a
    · exact .inr (.inr (.inl hba))
    have e : a = b := UInt8.le_antisymm (UInt8.not_lt.1 hba) (UInt8.not_lt.1 hab)
    subst e
    rcases ltB_tri x y with h | h | h
    · exact .inl (.inr ⟨rfl, h⟩)
    · exact .inr (.inl ⟨rfl, h⟩)
    · exact .inr (.inr (.inr ⟨rfl, h⟩))
/-- not behind -/
def leB (a b : Bytes) : Prop := ltB b a = false
theorem leB_of_lt {a b : Bytes} (h : ltB a b = true) : leB a b := by
  unfold leB
  cases e : ltB b a with
  | false => rfl
  | true => have := ltB_trans h e; rw [ltB_self] at this; cases this
theorem leB_refl (a : Bytes) : leB a a := ltB_self a
theorem leB_trans {a b c : Bytes} (h1 : leB a b) (h2 : leB b c) : leB a c := by
  unfold leB at *
  cases e : ltB c a with
  | false => rfl
  | true =>
    rcases ltB_tri a b with h | rfl | h
    · have := ltB_trans e h; rw [h2] at this; cases this
    · rw [h2] at e; cases e
    · rw [h1] at h; cases h
theorem lt_of_le_ne {a b : Bytes} (h : leB a b) (hne : a ≠ b) : ltB a b = true := by
  rcases ltB_tri a b with e | e | e
  · exact e
  · exact absurd e hne
  · unfold leB at h; rw [h] at e; cases e
def d0 : RecT := ⟨0, [], [], 0⟩
def swapL (l : List RecT) (i j : Nat) : List RecT := (l.set i (l.getD j d0)).set j (l.getD i d0)
theorem swapL_len {l : List RecT} {i j : Nat} : (swapL l i j).length = l.length := by simp [swapL]
theorem swapL_get {l : List RecT} {i j : Nat} (hi : i < l.length) (hj : j < l.length) (k : Nat) : (swapL l i j).getD k d0 = if k = j then l.getD i d0 else if k = i then l.getD j d0 else l.getD k d0 := by
  unfold swapL
  simp only [List.getD_eq_getElem?_getD, List.getElem?_set, List.length_set]
  by_cases h1 : j = k
  · subst h1; simp [hj]
  · rw [if_neg h1, if_neg (Ne.symm h1)]
    by_cases h2 : i = k
    · subst h2; simp [hi]
    · rw [if_neg h2, if_neg (Ne.symm h2)]
theorem swapL_perm {l : List RecT} {i j : Nat} (hi : i < l.length) (hj : j < l.length) : (swapL l i j).Perm l := by
  have h := @List.set_set_perm _ l i j hi hj
  have e1 : l.getD i d0 = l[i] := by rw [List.getD_eq_getElem?_getD, List.getElem?_eq_getElem hi]; rfl
  have e2 : l.getD j d0 = l[j] := by rw [List.getD_eq_getElem?_getD, List.getElem?_eq_getElem hj]; rfl
  unfold swapL
  rw [e1, e2]; exact h
/-- the same list, but for the order of a part -/
def SegP (a b : Nat) (l l' : List RecT) : Prop := l'.Perm l ∧ (∀ k, (k < a ∨ b ≤ k) → l'.getD k d0 = l.getD k d0) ∧ ∀ k, a ≤ k → k < b → ∃ k', a ≤ k' ∧ k' < b ∧ l'.getD k d0 = l.getD k' d0
theorem SegP.len {a b : Nat} {l l' : List RecT} (h : SegP a b l l') : l'.length = l.length := h.1.length_eq
theorem SegP.refl {a b : Nat} {l : List RecT} : SegP a b l l := ⟨.refl _, fun _ _ => rfl, fun k h1 h2 => ⟨k, h1, h2, rfl⟩⟩
theorem SegP.trans {a b : Nat} {l l' l'' : List RecT} (h : SegP a b l l') (h' : SegP a b l' l'') : SegP a b l l'' :=
  ⟨h'.1.trans h.1, fun k hk => (h'.2.1 k hk).trans (h.2.1 k hk), fun k h1 h2 => by
    obtain ⟨k', q1, q2, e⟩ := h'.2.2 k h1 h2
    obtain ⟨k'', r1, r2, e'⟩ := h.2.2 k' q1 q2
    exact ⟨k'', r1, r2, e.trans e'⟩⟩
theorem SegP.mono {a b a' b' : Nat} {l l' : List RecT} (h : SegP a b l l') (ha : a' ≤ a) (hb : b ≤ b') : SegP a' b' l l' :=
  ⟨h.1, fun k hk => h.2.1 k (by omega), fun k h1 h2 => by
    by_cases hk : a ≤ k ∧ k < b
    · obtain ⟨k', q1, q2, e⟩ := h.2.2 k hk.1 hk.2
      exact ⟨k', by omega, by omega, e⟩
    · exact ⟨k, h1, h2, h.2.1 k (by omega)⟩⟩
theorem SegP.swap {a b : Nat} {l : List RecT} {i j : Nat} (h1 : a ≤ i) (h2 : i < b) (h3 : a ≤ j) (h4 : j < b) (hb : b ≤ l.length) : SegP a b l (swapL l i j) := by
  have hi : i < l.length := by omega
  have hj : j < l.length := by omega
  refine ⟨swapL_perm hi hj, fun k hk => ?_, fun k q1 q2 => ?_⟩
  · rw [swapL_get hi hj, if_neg (by omega), if_neg (by omega)]
  · rw [swapL_get hi hj]
    split
    · exact ⟨i, h1, h2, rfl⟩
    · split
      · exact ⟨j, h3, h4, rfl⟩
      · exact ⟨k, q1, q2, rfl⟩
def kyL (l : List RecT) (i : Nat) : Bytes := (l.getD i d0).key
/-- a part is sorted -/
def SegS (a b : Nat) (l : List RecT) : Prop := ∀ p q, a ≤ p → p < q → q < b → leB (kyL l p) (kyL l q)
/-- sorted but for one that goes down -/
def InsS (a j i : Nat) (l : List RecT) : Prop := ∀ p q, a ≤ p → p < q → q < i → q ≠ j → leB (kyL l p) (kyL l q)
theorem InsS.begin {a i : Nat} {l : List RecT} (h : SegS a i l) : InsS a i (i + 1) l := fun p q h1 h2 h3 h4 => h p q h1 h2 (by omega)
theorem kyL_swap {l : List RecT} {i j : Nat} (hi : i < l.length) (hj : j < l.length) (k : Nat) : kyL (swapL l i j) k = if k = j then kyL l i else if k = i then kyL l j else kyL l k := by
  unfold kyL
  rw [swapL_get hi hj]
  split
  · rfl
  · split <;> rfl
theorem InsS.step {a j i : Nat} {l : List RecT} (h : InsS a j i l) (hj : a < j) (hji : j < i) (hi : i ≤ l.length) (hlt : ltB (kyL l j) (kyL l (j - 1)) = true) : InsS a (j - 1) i (swapL l j (j - 1)) := by
  intro p q h1 h2 h3 h4
  have hjl : j < l.length := by omega
  have hjl' : j - 1 < l.length := by omega
  rw [kyL_swap hjl hjl', kyL_swap hjl hjl']
  rw [if_neg (show ¬ q = j - 1 from h4)]
  by_cases hq : q = j
  · subst hq
    rw [if_pos rfl]
    by_cases hp : p = q - 1
    · rw [if_pos hp]; exact leB_of_lt hlt
    · rw [if_neg hp, if_neg (by omega)]
      exact h p (q - 1) h1 (by omega) (by omega) (by omega)
  · rw [if_neg hq]
    by_cases hp : p = j - 1
    · rw [if_pos hp]; exact h j q (by omega) (by omega) h3 hq
    · rw [if_neg hp]
      by_cases hp2 : p = j
      · rw [if_pos hp2]; exact h (j - 1) q (by omega) (by omega) h3 hq
      · rw [if_neg hp2]; exact h p q h1 h2 h3 hq
theorem InsS.done {a j i : Nat} {l : List RecT} (h : InsS a j i l) (hj : a ≤ j) (hji : j < i) (he : j = a ∨ leB (kyL l (j - 1)) (kyL l j)) : SegS a i l := by
  intro p q h1 h2 h3
  by_cases hq : q = j
  · subst hq
    rcases he with rfl | he
    · omega
    · by_cases hp : p = q - 1
      · subst hp; exact he
      · exact leB_trans (h p (q - 1) h1 (by omega) (by omega) (by omega)) he
  · exact h p q h1 h2 h3 hq
theorem SegS.one {a b : Nat} {l : List RecT} (h : b ≤ a + 1) : SegS a b l := fun p q h1 h2 h3 => by omega
theorem SegP.same {a b : Nat} {l l' : List RecT} (h : SegP a b l l') {k : Nat} (hk : k < a ∨ b ≤ k) : kyL l' k = kyL l k := by unfold kyL; rw [h.2.1 k hk]
theorem SegP.from {a b : Nat} {l l' : List RecT} (h : SegP a b l l') {k : Nat} (h1 : a ≤ k) (h2 : k < b) : ∃ k', a ≤ k' ∧ k' < b ∧ kyL l' k = kyL l k' := by
  obtain ⟨k', q1, q2, e⟩ := h.2.2 k h1 h2
  exact ⟨k', q1, q2, by unfold kyL; rw [e]⟩
/-- parted at one -/
def Parted (a m b : Nat) (l : List RecT) : Prop := (∀ k, a ≤ k → k < m → leB (kyL l k) (kyL l m)) ∧ ∀ k, m < k → k < b → leB (kyL l m) (kyL l k)
theorem Parted.left {a m b : Nat} {l l' : List RecT} (h : Parted a m b l) (s : SegP a m l l') : Parted a m b l' := by
  refine ⟨fun k h1 h2 => ?_, fun k h1 h2 => ?_⟩
  · obtain ⟨k', q1, q2, e⟩ := s.from h1 h2
    rw [e, s.same (k := m) (by omega)]; exact h.1 k' q1 q2
  · rw [s.same (k := m) (by omega), s.same (k := k) (by omega)]; exact h.2 k h1 h2
theorem Parted.right {a m b : Nat} {l l' : List RecT} (h : Parted a m b l) (s : SegP (m + 1) b l l') : Parted a m b l' := by
  refine ⟨fun k h1 h2 => ?_, fun k h1 h2 => ?_⟩
  · rw [s.same (k := m) (by omega), s.same (k := k) (by omega)]; exact h.1 k h1 h2
  · obtain ⟨k', q1, q2, e⟩ := s.from (k := k) (by omega) h2
    rw [e, s.same (k := m) (by omega)]; exact h.2 k' (by omega) q2
theorem SegS.keep {a b c d : Nat} {l l' : List RecT} (h : SegS a b l) (s : SegP c d l l') (hd : b ≤ c ∨ d ≤ a) : SegS a b l' := fun p q h1 h2 h3 => by
  rw [s.same (k := p) (by omega), s.same (k := q) (by omega)]; exact h p q h1 h2 h3
theorem Parted.sorted {a m b : Nat} {l : List RecT} (h : Parted a m b l) (h1 : SegS a m l) (h2 : SegS (m + 1) b l) : SegS a b l := by
  intro p q p1 p2 p3
  by_cases hq : q < m
  · exact h1 p q p1 p2 hq
  · by_cases hqm : q = m
    · subst hqm; exact h.1 p p1 p2
    · by_cases hp : p < m
      · exact leB_trans (h.1 p p1 hp) (h.2 q (by omega) p3)
      · by_cases hpm : p = m
        · subst hpm; exact h.2 q (by omega) p3
        · exact h2 p q (by omega) p2 p3
end Lam
namespace Lam
open Go
set_option linter.unusedVariables false
set_option linter.unusedSimpArgs false
/-- from lo on none stands behind one that is below it -/
def HeapS (a lo hi : Nat) (l : List RecT) : Prop := ∀ i c, lo ≤ i → (c = 2 * i + 1 ∨ c = 2 * i + 2) → c < hi → leB (kyL l (a + c)) (kyL l (a + i))
/-- the same, but for one that goes down -/
def SiftS (a lo r hi : Nat) (l : List RecT) : Prop :=
  (∀ i c, lo ≤ i → i ≠ r → (c = 2 * i + 1 ∨ c = 2 * i + 2) → c < hi → leB (kyL l (a + c)) (kyL l (a + i))) ∧
  ∀ i c, lo ≤ i → (r = 2 * i + 1 ∨ r = 2 * i + 2) → (c = 2 * r + 1 ∨ c = 2 * r + 2) → c < hi → leB (kyL l (a + c)) (kyL l (a + i))
theorem SiftS.begin {a lo hi : Nat} {l : List RecT} (h : HeapS a (lo + 1) hi l) : SiftS a lo lo hi l :=
  ⟨fun i c h1 h2 h3 h4 => h i c (by omega) h3 h4, fun i c h1 h2 h3 h4 => by omega⟩
theorem SiftS.done {a lo r hi : Nat} {l : List RecT} (h : SiftS a lo r hi l) (hc : ∀ c, (c = 2 * r + 1 ∨ c = 2 * r + 2) → c < hi → leB (kyL l (a + c)) (kyL l (a + r))) : HeapS a lo hi l := fun i c h1 h2 h3 => by
  by_cases e : i = r
  · subst e; exact hc c h2 h3
  · exact h.1 i c h1 e h2 h3
theorem SiftS.step {a lo r hi c : Nat} {l : List RecT} (h : SiftS a lo r hi l) (hr : lo ≤ r) (hc : c = 2 * r + 1 ∨ c = 2 * r + 2) (hch : c < hi) (hl : a + hi ≤ l.length) (hlt : leB (kyL l (a + r)) (kyL l (a + c))) (ho : ∀ d, (d = 2 * r + 1 ∨ d = 2 * r + 2) → d < hi → leB (kyL l (a + d)) (kyL l (a + c))) : SiftS a lo c hi (swapL l (a + r) (a + c)) := by
  obtain ⟨h1, h2⟩ := h
  have hrl : a + r < l.length := by omega
  have hcl : a + c < l.length := by omega
  have e : ∀ k, kyL (swapL l (a + r) (a + c)) (a + k) = if k = c then kyL l (a + r) else if k = r then kyL l (a + c) else kyL l (a + k) := fun k => by
    rw [kyL_swap hrl hcl]
    by_cases e1 : k = c
    · rw [if_pos (by omega), if_pos e1]
    · rw [if_neg (by omega), if_neg e1]
      by_cases e2 : k = r
      · rw [if_pos (by omega), if_pos e2]
      · rw [if_neg (by omega), if_neg e2]
  refine ⟨fun i d q1 q2 q3 q4 => ?_, fun i d q1 q2 q3 q4 => ?_⟩
  · rw [e, e, if_neg q2]
    by_cases hir : i = r
    · subst hir
      rw [if_pos rfl]
      by_cases hd : d = c
      · rw [if_pos hd]; exact hlt
      · rw [if_neg hd, if_neg (by omega)]; exact ho d q3 q4
    · rw [if_neg hir]
      by_cases hd : d = r
      · subst hd
        rw [if_neg (by omega), if_pos rfl]; exact h2 i c q1 q3 hc hch
      · rw [if_neg (show ¬ d = c by omega), if_neg hd]; exact h1 i d q1 hir q3 q4
  · obtain rfl : i = r := by omega
    rw [e, e, if_neg (show ¬ d = c by omega), if_neg (show ¬ d = i by omega), if_neg (show ¬ i = c by omega), if_pos rfl]
    exact h1 c d (by omega) (by omega) q3 q4
theorem HeapS.top {a hi : Nat} {l : List RecT} (h : HeapS a 0 hi l) (k : Nat) : k < hi → leB (kyL l (a + k)) (kyL l a) := by
  induction k using Nat.strongRecOn with
  | _ k ih =>
    intro hk
    cases k with
    | zero => exact leB_refl _
    | succ k => exact leB_trans (h (k / 2) (k + 1) (Nat.zero_le _) (by omega) hk) (ih (k / 2) (by omega) (by omega))
/-- how far a heap is taken down -/
def DownS (a n b : Nat) (l : List RecT) : Prop := HeapS a 0 n l ∧ SegS (a + n) b l ∧ ∀ p q, p < n → a + n ≤ q → q < b → leB (kyL l (a + p)) (kyL l q)
theorem DownS.begin {a b : Nat} {l : List RecT} (hab : a ≤ b) (h : HeapS a 0 (b - a) l) : DownS a (b - a) b l :=
  ⟨h, SegS.one (by omega), fun p q h1 h2 h3 => by omega⟩
theorem DownS.heap {a n b : Nat} {l : List RecT} (h : DownS a (n + 1) b l) (hb : a + n < b) (hl : b ≤ l.length) : HeapS a 1 n (swapL l a (a + n)) := fun i c h1 h2 h3 => by
  rw [kyL_swap (by omega) (by omega), kyL_swap (by omega) (by omega), if_neg (by omega), if_neg (by omega), if_neg (by omega), if_neg (by omega)]
  exact h.1 i c (Nat.zero_le _) h2 (by omega)
theorem DownS.next {a n b : Nat} {l l2 : List RecT} (h : DownS a (n + 1) b l) (hb : a + n < b) (hl : b ≤ l.length) (hs : SegP a (a + n) (swapL l a (a + n)) l2) (hh : HeapS a 0 n l2) : DownS a n b l2 := by
  obtain ⟨h1, h2, h3⟩ := h
  have hal : a < l.length := by omega
  have hnl : a + n < l.length := by omega
  have e1 : kyL l2 (a + n) = kyL l a := by rw [hs.same (by omega), kyL_swap hal hnl, if_pos rfl]
  have e2 : ∀ q, a + n < q → kyL l2 q = kyL l q := fun q hq => by rw [hs.same (by omega), kyL_swap hal hnl, if_neg (by omega), if_neg (by omega)]
  have e3 : ∀ p, p < n → ∃ p', p' < n + 1 ∧ kyL l2 (a + p) = kyL l (a + p') := fun p hp => by
    obtain ⟨k', q1, q2, e⟩ := hs.from (k := a + p) (by omega) (by omega)
    rw [e, kyL_swap hal hnl, if_neg (by omega)]
    by_cases hk : k' = a
    · rw [if_pos hk]; exact ⟨n, by omega, rfl⟩
    · rw [if_neg hk]; exact ⟨k' - a, by omega, by rw [show a + (k' - a) = k' by omega]⟩
  have htop : ∀ p', p' < n + 1 → leB (kyL l (a + p')) (kyL l a) := fun p' hp => h1.top p' hp
  refine ⟨hh, fun p q p1 p2 p3 => ?_, fun p q p1 p2 p3 => ?_⟩
  · rw [e2 q (by omega)]
    by_cases hp : p = a + n
    · subst hp; rw [e1]; exact h3 0 q (by omega) (by omega) p3
    · rw [e2 p (by omega)]; exact h2 p q (by omega) p2 p3
  · obtain ⟨p', g1, g2⟩ := e3 p p1
    rw [g2]
    by_cases hq : q = a + n
    · subst hq; rw [e1]; exact htop p' g1
    · rw [e2 q (by omega)]; exact h3 p' q g1 (by omega) p3
theorem DownS.fin {a b : Nat} {l : List RecT} (h : DownS a 0 b l) : SegS a b l := h.2.1
theorem SegP.le {a b : Nat} {l l' : List RecT} (h : SegP a b l l') {x : Bytes} (hx : ∀ k, a ≤ k → k < b → leB x (kyL l k)) : ∀ k, a ≤ k → k < b → leB x (kyL l' k) := fun k h1 h2 => by
  obtain ⟨k', q1, q2, e⟩ := h.from h1 h2
  rw [e]; exact hx k' q1 q2
end Lam
namespace Lam
open Go Go.Proofs
set_option linter.unusedVariables false
def T_unit : TyD := (.tup [])
def T_func : TyD := .func
def T_int64 : TyD := (.int .i64)
def T_int : TyD := (.int .i64)
def T_bool : TyD := .bool
def T_uint8 : TyD := (.int .u8)
def T_struct_x_int64_y_int_signed_bool_code_abi_BoundsErrorCode : TyD := (.strct [(.int .i64), (.int .i64), .bool, (.int .u8)])
def T_string : TyD := .str
def T_interface : TyD := .iface
def T_sl_int : TyD := (.slice (.int .i64))
def T_api_Errno : TyD := (.int .i64)
def T_sl_int_api_Errno : TyD := (.tup [(.slice (.int .i64)), (.int .i64)])
def T_funcint_bool : TyD := .func
def T_string_api_Errno : TyD := (.tup [.str, (.int .i64)])
def T_uint32 : TyD := (.int .u32)
def T_api_Node : TyD := (.strct [(.int .i64), (.int .i64), (.int .i64), (.int .i64), (.slice (.int .i64))])
def T_api_Node_api_Errno : TyD := (.tup [(.strct [(.int .i64), (.int .i64), (.int .i64), (.int .i64), (.slice (.int .i64))]), (.int .i64)])
def T_uint64 : TyD := (.int .u64)
def T_uint : TyD := (.int .u64)
def T_api_Seek : TyD := (.strct [(.int .i64), (.int .i64), (.int .i64), (.slice (.int .i64)), .bool])
def T_api_Seek_api_Errno : TyD := (.tup [(.strct [(.int .i64), (.int .i64), (.int .i64), (.slice (.int .i64)), .bool]), (.int .i64)])
def T_sl_api_Rec : TyD := (.slice .rcd)
def T_api_Rec : TyD := (.strct [(.int .i64), .str, .str, (.int .i64)])
def T_api_Rec_api_Errno : TyD := (.tup [(.strct [(.int .i64), .str, .str, (.int .i64)]), (.int .i64)])
def T_sl_bool : TyD := (.slice .bool)
def T_sl_api_Micro : TyD := (.slice .mic)
def T_sl_api_Micro_api_Errno : TyD := (.tup [(.slice .mic), (.int .i64)])
def T_sl_api_Pending : TyD := (.slice .pend)
def T_api_Mem : TyD := (.strct [(.slice (.int .i64)), (.slice (.int .i64)), (.slice .pend)])
def T_api_Mem_api_Errno : TyD := (.tup [(.strct [(.slice (.int .i64)), (.slice (.int .i64)), (.slice .pend)]), (.int .i64)])
def T_api_Seek_bool : TyD := (.tup [(.strct [(.int .i64), (.int .i64), (.int .i64), (.slice (.int .i64)), .bool]), .bool])
def T_p_arena_reach : TyD := .ptr
def T_map_int_bool : TyD := (.map .ib)
def T_arena_reach : TyD := (.strct [(.slice (.int .i64)), (.map .ib), (.map .ib)])
def T_int_int_api_Errno : TyD := (.tup [(.int .i64), (.int .i64), (.int .i64)])
def T_p_seek_look : TyD := .ptr
def T_seek_look : TyD := (.strct [(.strct [(.int .i64), (.int .i64), (.int .i64), (.slice (.int .i64)), .bool]), (.int .i64)])
def T_map_string_bool : TyD := (.map .sb)
def T_func_api_Rec_api_Rec_int : TyD := .func
def T_rec_form : TyD := (.arr 16 (.int .i64))
def T_string_bool : TyD := (.tup [.str, .bool])
def T_sl_fast_slot : TyD := (.slice .slot)
def T_fast_slot : TyD := (.strct [(.int .i64), (.int .i64)])
def T_api_Micro : TyD := (.strct [(.int .i64), (.int .i64), (.int .i64)])
def T_super_head : TyD := (.strct [(.int .i64), (.int .i64), (.int .i64), (.int .i64)])
def T_arena_corrupt : TyD := (.strct [])
def T_funcstring_bool : TyD := .func
def T_slices_sortedHint : TyD := (.int .i64)
def T_int_slices_sortedHint : TyD := (.tup [(.int .i64), (.int .i64)])
def T_int_bool : TyD := (.tup [(.int .i64), .bool])
def T_sl_uint8 : TyD := (.slice (.int .u8))
def T_func_funcstring_bool : TyD := .func
def T_iter_Seq_string : TyD := .func
def T_funcapi_Micro_bool : TyD := .func
def T_256_uint32 : TyD := (.arr 256 (.int .u32))
def T_p_256_uint32 : TyD := .ptr
def T_slices_xorshift : TyD := (.int .u64)
def T_p_int : TyD := .ptr
def T_map_int_int : TyD := (.map .ii)
def T_p_micro_doer : TyD := .ptr
def T_micro_doer : TyD := (.strct [(.strct [(.slice (.int .i64)), (.slice (.int .i64)), (.slice .pend)])])
def T_map_int_func_p_micro_doer_api_Micro : TyD := (.map .ifn)
def T_func_p_micro_doer_api_Micro : TyD := .func
def T_p_slices_xorshift : TyD := .ptr
def T_int_int : TyD := (.tup [(.int .i64), (.int .i64)])
def T_api_Pending : TyD := (.strct [(.int .i64), (.int .i64), .bool])
def T_func_funcint_bool : TyD := .func
def T_iter_Seq_int : TyD := .func
def T_funcapi_Pending_bool : TyD := .func
attribute [go_sem] T_unit T_func T_int64 T_int T_bool T_uint8 T_struct_x_int64_y_int_signed_bool_code_abi_BoundsErrorCode T_string T_interface T_sl_int T_api_Errno T_sl_int_api_Errno T_funcint_bool T_string_api_Errno T_uint32 T_api_Node T_api_Node_api_Errno T_uint64 T_uint T_api_Seek T_api_Seek_api_Errno T_sl_api_Rec T_api_Rec T_api_Rec_api_Errno T_sl_bool T_sl_api_Micro T_sl_api_Micro_api_Errno T_sl_api_Pending T_api_Mem T_api_Mem_api_Errno T_api_Seek_bool T_p_arena_reach T_map_int_bool T_arena_reach T_int_int_api_Errno T_p_seek_look T_seek_look T_map_string_bool T_func_api_Rec_api_Rec_int T_rec_form T_string_bool T_sl_fast_slot T_fast_slot T_api_Micro T_super_head T_arena_corrupt T_funcstring_bool T_slices_sortedHint T_int_slices_sortedHint T_int_bool T_sl_uint8 T_func_funcstring_bool T_iter_Seq_string T_funcapi_Micro_bool T_256_uint32 T_p_256_uint32 T_slices_xorshift T_p_int T_map_int_int T_p_micro_doer T_micro_doer T_map_int_func_p_micro_doer_api_Micro T_func_p_micro_doer_api_Micro T_p_slices_xorshift T_int_int T_api_Pending T_func_funcint_bool T_iter_Seq_int T_funcapi_Pending_bool
def tab : TypeId → TyD
  | 0 => T_unit
  | 1 => T_func
  | 2 => T_int64
  | 3 => T_int
  | 4 => T_bool
  | 5 => T_uint8
  | 7 => T_struct_x_int64_y_int_signed_bool_code_abi_BoundsErrorCode
  | 9 => T_string
  | 20 => T_interface
  | 23 => T_sl_int
  | 24 => T_api_Errno
  | 25 => T_sl_int_api_Errno
  | 30 => T_funcint_bool
  | 33 => T_string_api_Errno
  | 35 => T_uint32
  | 37 => T_api_Node
  | 38 => T_api_Node_api_Errno
  | 40 => T_uint64
  | 41 => T_uint
  | 45 => T_api_Seek
  | 46 => T_api_Seek_api_Errno
  | 52 => T_sl_api_Rec
  | 59 => T_api_Rec
  | 60 => T_api_Rec_api_Errno
  | 62 => T_sl_bool
  | 63 => T_sl_api_Micro
  | 64 => T_sl_api_Micro_api_Errno
  | 66 => T_sl_api_Pending
  | 68 => T_api_Mem
  | 69 => T_api_Mem_api_Errno
  | 71 => T_api_Seek_bool
  | 81 => T_p_arena_reach
  | 82 => T_map_int_bool
  | 84 => T_arena_reach
  | 87 => T_int_int_api_Errno
  | 94 => T_p_seek_look
  | 96 => T_seek_look
  | 97 => T_map_string_bool
  | 100 => T_func_api_Rec_api_Rec_int
  | 103 => T_rec_form
  | 104 => T_string_bool
  | 109 => T_sl_fast_slot
  | 111 => T_fast_slot
  | 115 => T_api_Micro
  | 117 => T_super_head
  | 120 => T_arena_corrupt
  | 126 => T_funcstring_bool
  | 135 => T_slices_sortedHint
  | 136 => T_int_slices_sortedHint
  | 140 => T_int_bool
  | 144 => T_sl_uint8
  | 145 => T_func_funcstring_bool
  | 146 => T_iter_Seq_string
  | 150 => T_funcapi_Micro_bool
  | 153 => T_256_uint32
  | 156 => T_p_256_uint32
  | 157 => T_slices_xorshift
  | 161 => T_p_int
  | 165 => T_map_int_int
  | 167 => T_p_micro_doer
  | 169 => T_micro_doer
  | 170 => T_map_int_func_p_micro_doer_api_Micro
  | 172 => T_func_p_micro_doer_api_Micro
  | 174 => T_p_slices_xorshift
  | 175 => T_int_int
  | 179 => T_api_Pending
  | 189 => T_func_funcint_bool
  | 190 => T_iter_Seq_int
  | 193 => T_funcapi_Pending_bool
  | _ => .other
theorem tab_ok : TabOk Try.prog tab := by
  intro T
  unfold tab
  split <;> kernel_rfl
theorem tab_sh (T : TypeId) : (tab T).shallow := by
  unfold tab
  split <;> (unfold TyD.shallow; decide)
theorem mixed : Try.prog.follows .mixedOrders = true := by kernel_rfl
def ctx (F : List (FuncId × Contract)) (S : List (FuncId × Con)) (lp : Nat → LInfo) : Ctx := ⟨tab, lookF F, lookS S, fun _ _ _ _ _ => False, lp, false, fun _ _ _ _ => False⟩
def ctxI (F : List (FuncId × Contract)) (S : List (FuncId × Con)) (Is : List (FuncId × (Con → Con))) (lp : Nat → LInfo) : Ctx := ⟨tab, lookF F, lookS S, lookI Is, lp, false, fun _ _ _ _ => False⟩
@[go_sem] theorem ctx_drawn (F : List (FuncId × Contract)) (S : List (FuncId × Con)) (lp : Nat → LInfo) : (ctx F S lp).drawn = false := (rfl)
@[go_sem] theorem ctxI_drawn (F : List (FuncId × Contract)) (S : List (FuncId × Con)) (Is : List (FuncId × (Con → Con))) (lp : Nat → LInfo) : (ctxI F S Is lp).drawn = false := (rfl)
@[go_sem] theorem ctxI_envF (F : List (FuncId × Contract)) (S : List (FuncId × Con)) (Is : List (FuncId × (Con → Con))) (lp : Nat → LInfo) : (ctxI F S Is lp).envF = lookF F := (rfl)
@[go_sem] theorem ctxI_envS (F : List (FuncId × Contract)) (S : List (FuncId × Con)) (Is : List (FuncId × (Con → Con))) (lp : Nat → LInfo) : (ctxI F S Is lp).envS = lookS S := (rfl)
@[go_sem] theorem ctxI_iterS (F : List (FuncId × Contract)) (S : List (FuncId × Con)) (Is : List (FuncId × (Con → Con))) (lp : Nat → LInfo) : (ctxI F S Is lp).iterS = lookI Is := (rfl)
@[go_sem] theorem ctx_envF (F : List (FuncId × Contract)) (S : List (FuncId × Con)) (lp : Nat → LInfo) : (ctx F S lp).envF = lookF F := (rfl)
@[go_sem] theorem ctx_envS (F : List (FuncId × Contract)) (S : List (FuncId × Con)) (lp : Nat → LInfo) : (ctx F S lp).envS = lookS S := (rfl)
theorem ctx_ok {F : List (FuncId × Contract)} {S : List (FuncId × Con)} (hF : ∀ p ∈ F, FSpec Try.prog p.1 p.2) (hS : ∀ p ∈ S, SSpec Try.prog p.1 p.2) (lp : Nat → LInfo) : Ok Try.prog (ctx F S lp) :=
  ⟨⟨⟨tab_ok, tab_sh, fok_look hF⟩, sok_look hS, rfl, mixed, is_none⟩, fun _ _ _ _ h => h⟩
theorem ctxI_ok {F : List (FuncId × Contract)} {S : List (FuncId × Con)} {Is : List (FuncId × (Con → Con))} (hF : ∀ p ∈ F, FSpec Try.prog p.1 p.2) (hS : ∀ p ∈ S, SSpec Try.prog p.1 p.2) (hI : ∀ p ∈ Is, ISpec Try.prog p.1 p.2) (lp : Nat → LInfo) : Ok Try.prog (ctxI F S Is lp) :=
  ⟨⟨⟨tab_ok, tab_sh, fok_look hF⟩, sok_look hS, rfl, mixed, isok_look hI⟩, fun _ _ _ _ h => h⟩
end Lam
namespace Lam
open Go Go.Proofs
set_option linter.unusedVariables false
def slices_SortFunc_sl_api_Rec_api_Rec.loops : Nat → LInfo
  | _ => ⟨[], [], [], [], [], []⟩
def slices_SortFunc_sl_api_Rec_api_Rec.H (c : Ctx) (t0 : AV) (t1 : AV) (h : List AObj) (K : AOut → List AObj → Prop) : Prop :=
  runD (lenD T_sl_api_Rec h t0) h fun t6 h =>
  runD (convD h T_int T_uint t6) h fun t10 h =>
  callW false c (.fn (.func 93) [] []) [t10] h (fun t11 h =>
  callW false c (.fn (.func 92) [] []) [t0, (.int .i64 0), t6, t11, t1] h (fun t13 h =>
  K (.ret (.tup [])) h)
  (fun v h => K (.pan v) h))
  (fun v h => K (.pan v) h)
def slices_pdqsortCmpFunc_api_Rec.loops : Nat → LInfo
  | 2 => ⟨[1, 2, 3, 10, 11], [false, false, false, false, false], [0, 4], [], [], []⟩
  | 15 => ⟨[], [], [], [(2, none), (1, some [69, 70]), (2, none), (2, some [72, 74])], [], []⟩
  | _ => ⟨[], [], [], [], [], []⟩
def slices_pdqsortCmpFunc_api_Rec.L1 (c : Ctx) (K : AOut → List AObj → Prop) (lv : List AV) (h0 : List AObj) (n0 : Nat) (c0 : AV) (c4 : AV) : Prop :=
  ∃ I : Nat → List AV → List AObj → Prop, (∃ n, I n lv h0) ∧ ∀ n h, ∀ t1, ∀ t2, ∀ t3, ∀ t10, ∀ t11, I n [t1, t2, t3, t10, t11] h →
    joinW (fun (J2 : AV → AV → AV → AV → AV → List AObj → Prop) =>
    runD (binD T_int .sub t2 t1) h fun t23 h =>
    runD (binD T_int .leq t23 (.int .i64 12)) h fun t25 h =>
    condW t25
    (callW false c (.fn (.func 114) [] []) [c0, t1, t2, c4] h (fun t30 h =>
      K (.ret (.tup [])) h)
      (fun v h => K (.pan v) h))
    (runD (binD T_int .eql t3 (.int .i64 0)) h fun t32 h =>
    condW t32
    (callW false c (.fn (.func 115) [] []) [c0, t1, t2, c4] h (fun t37 h =>
      K (.ret (.tup [])) h)
      (fun v h => K (.pan v) h))
    (runD (unD .not t10) h fun t39 h =>
    joinW (fun (J3 : AV → List AObj → Prop) =>
    condW t39
    (callW false c (.fn (.func 116) [] []) [c0, t1, t2, c4] h (fun t44 h =>
      runD (binD T_int .sub t3 (.int .i64 1)) h fun t46 h =>
      J3 t46 h)
      (fun v h => K (.pan v) h))
    (J3 t3 h))
    (fun t3 h => callW false c (.fn (.func 117) [] []) [c0, t1, t2, c4] h (fun t52 h =>
    runD (extractD t52 0) h fun t53 h =>
    runD (extractD t52 1) h fun t54 h =>
    runD (binD T_slices_sortedHint .eql t54 (.int .i64 2)) h fun t56 h =>
    joinW (fun (J4 : AV → AV → List AObj → Prop) =>
    condW t56
    (callW false c (.fn (.func 118) [] []) [c0, t1, t2, c4] h (fun t61 h =>
      runD (binD T_int .sub t2 (.int .i64 1)) h fun t63 h =>
      runD (binD T_int .sub t53 t1) h fun t66 h =>
      runD (binD T_int .sub t63 t66) h fun t67 h =>
      J4 t67 (.int .i64 1) h)
      (fun v h => K (.pan v) h))
    (J4 t53 t54 h))
    (fun t13 t14 h => joinW (fun (J5 : AV → AV → List AObj → Prop) =>
    guardW t10 true
    (J5 (.bool true) t11 h)
    (J5 (.bool false) .und h))
    (fun t69 t70 h => runD (pickD t69 t70 (.bool false)) h fun t71 h =>
    joinW (fun (J6 : AV → AV → List AObj → Prop) =>
    guardW t71 true
    (runD (binD T_slices_sortedHint .eql t14 (.int .i64 1)) h fun t74 h =>
      J6 (.bool true) t74 h)
    (J6 (.bool false) .und h))
    (fun t72 t74 h => runD (pickD t72 t74 (.bool false)) h fun t75 h =>
    joinW (fun (J7 : List AObj → Prop) =>
    condW t75
    (callW false c (.fn (.func 119) [] []) [c0, t1, t2, c4] h (fun t80 h =>
      condW t80
      (K (.ret (.tup [])) h)
      (J7 h))
      (fun v h => K (.pan v) h))
    (J7 h))
    (fun h => runD (binD T_int .gtr t1 (.int .i64 0)) h fun t82 h =>
    joinW (fun (J8 : AV → AV → List AObj → Prop) =>
    guardW t82 true
    (runD (binD T_int .sub t1 (.int .i64 1)) h fun t87 h =>
      runD (indexAddrD T_sl_api_Rec h c0 t87) h fun t88 h =>
      runD (fitD T_api_Rec (loadD h t88)) h fun t89 h =>
      runD (indexAddrD T_sl_api_Rec h c0 t13) h fun t92 h =>
      runD (fitD T_api_Rec (loadD h t92)) h fun t93 h =>
      callW false c.noS c4 [t89, t93] h (fun t94 h =>
      runD (binD T_int .lss t94 (.int .i64 0)) h fun t95 h =>
      runD (unD .not t95) h fun t96 h =>
      J8 (.bool true) t96 h)
      (fun _ _ => False))
    (J8 (.bool false) .und h))
    (fun t83 t96 h => runD (pickD t83 t96 (.bool false)) h fun t97 h =>
    condW t97
    (callW false c (.fn (.func 120) [] []) [c0, t1, t2, t13, c4] h (fun t103 h =>
      J2 t103 t2 t3 t10 t11 h)
      (fun v h => K (.pan v) h))
    (callW false c (.fn (.func 121) [] []) [c0, t1, t2, t13, c4] h (fun t111 h =>
    runD (extractD t111 0) h fun t112 h =>
    runD (extractD t111 1) h fun t113 h =>
    runD (binD T_int .sub t112 t1) h fun t117 h =>
    runD (binD T_int .sub t2 t112) h fun t120 h =>
    runD (binD T_int .quo t23 (.int .i64 8)) h fun t122 h =>
    runD (binD T_int .lss t117 t120) h fun t125 h =>
    joinW (fun (J9 : AV → AV → AV → List AObj → Prop) =>
    condW t125
    (runD (binD T_int .geq t117 t122) h fun t128 h =>
      callW false c (.fn (.func 92) [] []) [c0, t1, t112, t3, c4] h (fun t134 h =>
      runD (binD T_int .add t112 (.int .i64 1)) h fun t136 h =>
      J9 t136 t2 t128 h)
      (fun v h => K (.pan v) h))
    (runD (binD T_int .geq t120 t122) h fun t139 h =>
      runD (binD T_int .add t112 (.int .i64 1)) h fun t142 h =>
      callW false c (.fn (.func 92) [] []) [c0, t142, t2, t3, c4] h (fun t146 h =>
      J9 t1 t112 t139 h)
      (fun v h => K (.pan v) h)))
    (fun t1 t2 t10 h => J2 t1 t2 t3 t10 t113 h))
    (fun v h => K (.pan v) h))))))))
    (fun v h => K (.pan v) h)))))
    (fun t1 t2 t3 t10 t11 h => (∃ m, m < n ∧ I m (AV.norms n0 h [t1, t2, t3, t10, t11]) (normH n0 h)) ∧ AV.norms n0 h [c0, c4] = [c0, c4])
def slices_pdqsortCmpFunc_api_Rec.H (c : Ctx) (t0 : AV) (t1 : AV) (t2 : AV) (t3 : AV) (t4 : AV) (h : List AObj) (K : AOut → List AObj → Prop) : Prop :=
  joinW (fun (J1 : List AObj → Prop) =>
  promV [false, false, false, false, false] [t1, t2, t3, (.bool true), (.bool true)] h fun lv h => slices_pdqsortCmpFunc_api_Rec.L1 c K (AV.norms h.length h lv) (normH h.length h) h.length (AV.norm h.length h t0) (AV.norm h.length h t4))
  (fun h => K (.ret (.tup [])) h)
def slices_choosePivotCmpFunc_api_Rec.loops : Nat → LInfo
  | _ => ⟨[], [], [], [], [], []⟩
def slices_choosePivotCmpFunc_api_Rec.H (c : Ctx) (t0 : AV) (t1 : AV) (t2 : AV) (t3 : AV) (h : List AObj) (K : AOut → List AObj → Prop) : Prop :=
  runD (binD T_int .sub t2 t1) h fun t17 h =>
  allocW T_int h fun t11 h =>
  runD (binD T_int .quo t17 (.int .i64 4)) h fun t20 h =>
  runD (binD T_int .mul t20 (.int .i64 1)) h fun t21 h =>
  runD (binD T_int .add t1 t21) h fun t22 h =>
  runD (binD T_int .quo t17 (.int .i64 4)) h fun t25 h =>
  runD (binD T_int .mul t25 (.int .i64 2)) h fun t26 h =>
  runD (binD T_int .add t1 t26) h fun t27 h =>
  runD (binD T_int .quo t17 (.int .i64 4)) h fun t30 h =>
  runD (binD T_int .mul t30 (.int .i64 3)) h fun t31 h =>
  runD (binD T_int .add t1 t31) h fun t32 h =>
  runD (binD T_int .geq t17 (.int .i64 8)) h fun t34 h =>
  joinW (fun (J1 : AV → List AObj → Prop) =>
  condW t34
  (runD (binD T_int .geq t17 (.int .i64 50)) h fun t36 h =>
    joinW (fun (J2 : AV → AV → AV → List AObj → Prop) =>
    condW t36
    (callW false c (.fn (.func 140) [] []) [t0, t22, t11, t3] h (fun t40 h =>
      callW false c (.fn (.func 140) [] []) [t0, t27, t11, t3] h (fun t44 h =>
      callW false c (.fn (.func 140) [] []) [t0, t32, t11, t3] h (fun t48 h =>
      J2 t40 t44 t48 h)
      (fun v h => K (.pan v) h))
      (fun v h => K (.pan v) h))
      (fun v h => K (.pan v) h))
    (J2 t22 t27 t32 h))
    (fun t12 t13 t14 h => callW false c (.fn (.func 141) [] []) [t0, t12, t13, t14, t11, t3] h (fun t54 h =>
    J1 t54 h)
    (fun v h => K (.pan v) h)))
  (J1 t27 h))
  (fun t13 h => runD (fitD T_int (loadD h t11)) h fun t55 h =>
  runD (binD T_int .eql t55 (.int .i64 0)) h fun t58 h =>
  condW t58
  (K (.ret (.tup [t13, (.int .i64 1)])) h)
  (runD (binD T_int .eql t55 (.int .i64 12)) h fun t61 h =>
    condW t61
    (K (.ret (.tup [t13, (.int .i64 2)])) h)
    (K (.ret (.tup [t13, (.int .i64 0)])) h)))
def slices_partialInsertionSortCmpFunc_api_Rec.loops : Nat → LInfo
  | 3 => ⟨[9, 10], [false, false], [0, 1, 2, 3], [], [], []⟩
  | 5 => ⟨[9], [false], [0, 1, 2, 3, 10], [], [], []⟩
  | 14 => ⟨[11], [false], [0, 1, 2, 3, 9, 10], [], [], []⟩
  | 20 => ⟨[12], [false], [0, 1, 2, 3, 9, 10], [], [], []⟩
  | _ => ⟨[], [], [], [], [], []⟩
def slices_partialInsertionSortCmpFunc_api_Rec.L2 (c : Ctx) (J3 : AV → AV → AV → AV → AV → AV → List AObj → Prop) (K : AOut → List AObj → Prop) (lv : List AV) (h0 : List AObj) (n0 : Nat) (c0 : AV) (c1 : AV) (c2 : AV) (c3 : AV) (c10 : AV) : Prop :=
  ∃ I : Nat → List AV → List AObj → Prop, (∃ n, I n lv h0) ∧ ∀ n h, ∀ t9, I n [t9] h →
    runD (binD T_int .lss t9 c2) h fun t21 h =>
    joinW (fun (J4 : AV → AV → List AObj → Prop) =>
    guardW t21 true
    (runD (indexAddrD T_sl_api_Rec h c0 t9) h fun t26 h =>
      runD (fitD T_api_Rec (loadD h t26)) h fun t27 h =>
      runD (binD T_int .sub t9 (.int .i64 1)) h fun t30 h =>
      runD (indexAddrD T_sl_api_Rec h c0 t30) h fun t31 h =>
      runD (fitD T_api_Rec (loadD h t31)) h fun t32 h =>
      callW false c.noS c3 [t27, t32] h (fun t33 h =>
      runD (binD T_int .lss t33 (.int .i64 0)) h fun t34 h =>
      runD (unD .not t34) h fun t35 h =>
      J4 (.bool true) t35 h)
      (fun _ _ => False))
    (J4 (.bool false) .und h))
    (fun t22 t35 h => runD (pickD t22 t35 (.bool false)) h fun t36 h =>
    condW t36
    (runD (binD T_int .add t9 (.int .i64 1)) h fun t38 h =>
    (∃ m, m < n ∧ I m (AV.norms n0 h [t38]) (normH n0 h)) ∧ AV.norms n0 h [c0, c1, c2, c3, c10] = [c0, c1, c2, c3, c10])
    (J3 c0 c1 c2 c3 t9 c10 h))
def slices_partialInsertionSortCmpFunc_api_Rec.L3 (c : Ctx) (J6 : AV → AV → AV → AV → AV → AV → List AObj → Prop) (K : AOut → List AObj → Prop) (lv : List AV) (h0 : List AObj) (n0 : Nat) (c0 : AV) (c1 : AV) (c2 : AV) (c3 : AV) (c9 : AV) (c10 : AV) : Prop :=
  ∃ I : Nat → List AV → List AObj → Prop, (∃ n, I n lv h0) ∧ ∀ n h, ∀ t11, I n [t11] h →
    runD (binD T_int .geq t11 (.int .i64 1)) h fun t69 h =>
    condW t69
    (runD (indexAddrD T_sl_api_Rec h c0 t11) h fun t75 h =>
    runD (fitD T_api_Rec (loadD h t75)) h fun t76 h =>
    runD (binD T_int .sub t11 (.int .i64 1)) h fun t79 h =>
    runD (indexAddrD T_sl_api_Rec h c0 t79) h fun t80 h =>
    runD (fitD T_api_Rec (loadD h t80)) h fun t81 h =>
    callW false c.noS c3 [t76, t81] h (fun t82 h =>
    runD (binD T_int .lss t82 (.int .i64 0)) h fun t83 h =>
    runD (unD .not t83) h fun t84 h =>
    condW t84
    (J6 c0 c1 c2 c3 c9 c10 h)
    (runD (binD T_int .sub t11 (.int .i64 1)) h fun t89 h =>
    runD (binD T_int .sub t11 (.int .i64 1)) h fun t92 h =>
    runD (indexAddrD T_sl_api_Rec h c0 t92) h fun t93 h =>
    runD (fitD T_api_Rec (loadD h t93)) h fun t94 h =>
    runD (indexAddrD T_sl_api_Rec h c0 t11) h fun t97 h =>
    runD (fitD T_api_Rec (loadD h t97)) h fun t98 h =>
    runD (indexAddrD T_sl_api_Rec h c0 t11) h fun t99 h =>
    runH (storeH T_api_Rec h t99 t94) h fun _ h =>
    runD (indexAddrD T_sl_api_Rec h c0 t89) h fun t100 h =>
    runH (storeH T_api_Rec h t100 t98) h fun _ h =>
    runD (binD T_int .sub t11 (.int .i64 1)) h fun t71 h =>
    (∃ m, m < n ∧ I m (AV.norms n0 h [t71]) (normH n0 h)) ∧ AV.norms n0 h [c0, c1, c2, c3, c9, c10] = [c0, c1, c2, c3, c9, c10]))
    (fun _ _ => False))
    (J6 c0 c1 c2 c3 c9 c10 h)
def slices_partialInsertionSortCmpFunc_api_Rec.L4 (c : Ctx) (J8 : AV → AV → AV → AV → AV → AV → List AObj → Prop) (K : AOut → List AObj → Prop) (lv : List AV) (h0 : List AObj) (n0 : Nat) (c0 : AV) (c1 : AV) (c2 : AV) (c3 : AV) (c9 : AV) (c10 : AV) : Prop :=
  ∃ I : Nat → List AV → List AObj → Prop, (∃ n, I n lv h0) ∧ ∀ n h, ∀ t12, I n [t12] h →
    runD (binD T_int .lss t12 c2) h fun t109 h =>
    condW t109
    (runD (indexAddrD T_sl_api_Rec h c0 t12) h fun t115 h =>
    runD (fitD T_api_Rec (loadD h t115)) h fun t116 h =>
    runD (binD T_int .sub t12 (.int .i64 1)) h fun t119 h =>
    runD (indexAddrD T_sl_api_Rec h c0 t119) h fun t120 h =>
    runD (fitD T_api_Rec (loadD h t120)) h fun t121 h =>
    callW false c.noS c3 [t116, t121] h (fun t122 h =>
    runD (binD T_int .lss t122 (.int .i64 0)) h fun t123 h =>
    runD (unD .not t123) h fun t124 h =>
    condW t124
    (J8 c0 c1 c2 c3 c9 c10 h)
    (runD (binD T_int .sub t12 (.int .i64 1)) h fun t129 h =>
    runD (binD T_int .sub t12 (.int .i64 1)) h fun t132 h =>
    runD (indexAddrD T_sl_api_Rec h c0 t132) h fun t133 h =>
    runD (fitD T_api_Rec (loadD h t133)) h fun t134 h =>
    runD (indexAddrD T_sl_api_Rec h c0 t12) h fun t137 h =>
    runD (fitD T_api_Rec (loadD h t137)) h fun t138 h =>
    runD (indexAddrD T_sl_api_Rec h c0 t12) h fun t139 h =>
    runH (storeH T_api_Rec h t139 t134) h fun _ h =>
    runD (indexAddrD T_sl_api_Rec h c0 t129) h fun t140 h =>
    runH (storeH T_api_Rec h t140 t138) h fun _ h =>
    runD (binD T_int .add t12 (.int .i64 1)) h fun t111 h =>
    (∃ m, m < n ∧ I m (AV.norms n0 h [t111]) (normH n0 h)) ∧ AV.norms n0 h [c0, c1, c2, c3, c9, c10] = [c0, c1, c2, c3, c9, c10]))
    (fun _ _ => False))
    (J8 c0 c1 c2 c3 c9 c10 h)
def slices_partialInsertionSortCmpFunc_api_Rec.L1 (c : Ctx) (J1 : List AObj → Prop) (K : AOut → List AObj → Prop) (lv : List AV) (h0 : List AObj) (n0 : Nat) (c0 : AV) (c1 : AV) (c2 : AV) (c3 : AV) : Prop :=
  ∃ I : Nat → List AV → List AObj → Prop, (∃ n, I n lv h0) ∧ ∀ n h, ∀ t9, ∀ t10, I n [t9, t10] h →
    runD (binD T_int .lss t10 (.int .i64 5)) h fun t16 h =>
    condW t16
    (joinW (fun (J2 : AV → AV → AV → AV → AV → AV → List AObj → Prop) =>
    joinW (fun (J3 : AV → AV → AV → AV → AV → AV → List AObj → Prop) =>
    promV [false] [t9] h fun lv h => slices_partialInsertionSortCmpFunc_api_Rec.L2 c J3 K (AV.norms h.length h lv) (normH h.length h) h.length (AV.norm h.length h c0) (AV.norm h.length h c1) (AV.norm h.length h c2) (AV.norm h.length h c3) (AV.norm h.length h t10))
    (fun t0 t1 t2 t3 t9 t10 h => runD (binD T_int .eql t9 t2) h fun t41 h =>
    condW t41
    (K (.ret (.bool true)) h)
    (runD (binD T_int .sub t2 t1) h fun t44 h =>
    runD (binD T_int .lss t44 (.int .i64 50)) h fun t45 h =>
    condW t45
    (K (.ret (.bool false)) h)
    (runD (binD T_int .sub t9 (.int .i64 1)) h fun t50 h =>
    runD (binD T_int .sub t9 (.int .i64 1)) h fun t53 h =>
    runD (indexAddrD T_sl_api_Rec h t0 t53) h fun t54 h =>
    runD (fitD T_api_Rec (loadD h t54)) h fun t55 h =>
    runD (indexAddrD T_sl_api_Rec h t0 t9) h fun t58 h =>
    runD (fitD T_api_Rec (loadD h t58)) h fun t59 h =>
    runD (indexAddrD T_sl_api_Rec h t0 t9) h fun t60 h =>
    runH (storeH T_api_Rec h t60 t55) h fun _ h =>
    runD (indexAddrD T_sl_api_Rec h t0 t50) h fun t61 h =>
    runH (storeH T_api_Rec h t61 t59) h fun _ h =>
    runD (binD T_int .sub t9 t1) h fun t64 h =>
    runD (binD T_int .geq t64 (.int .i64 2)) h fun t65 h =>
    joinW (fun (J5 : AV → AV → AV → AV → AV → AV → List AObj → Prop) =>
    condW t65
    (runD (binD T_int .sub t9 (.int .i64 1)) h fun t67 h =>
      joinW (fun (J6 : AV → AV → AV → AV → AV → AV → List AObj → Prop) =>
      promV [false] [t67] h fun lv h => slices_partialInsertionSortCmpFunc_api_Rec.L3 c J6 K (AV.norms h.length h lv) (normH h.length h) h.length (AV.norm h.length h t0) (AV.norm h.length h t1) (AV.norm h.length h t2) (AV.norm h.length h t3) (AV.norm h.length h t9) (AV.norm h.length h t10))
      (fun t0 t1 t2 t3 t9 t10 h => J5 t0 t1 t2 t3 t9 t10 h))
    (J5 t0 t1 t2 t3 t9 t10 h))
    (fun t0 t1 t2 t3 t9 t10 h => runD (binD T_int .sub t2 t9) h fun t103 h =>
    runD (binD T_int .geq t103 (.int .i64 2)) h fun t104 h =>
    joinW (fun (J7 : AV → AV → AV → AV → AV → AV → List AObj → Prop) =>
    condW t104
    (runD (binD T_int .add t9 (.int .i64 1)) h fun t106 h =>
      joinW (fun (J8 : AV → AV → AV → AV → AV → AV → List AObj → Prop) =>
      promV [false] [t106] h fun lv h => slices_partialInsertionSortCmpFunc_api_Rec.L4 c J8 K (AV.norms h.length h lv) (normH h.length h) h.length (AV.norm h.length h t0) (AV.norm h.length h t1) (AV.norm h.length h t2) (AV.norm h.length h t3) (AV.norm h.length h t9) (AV.norm h.length h t10))
      (fun t0 t1 t2 t3 t9 t10 h => J7 t0 t1 t2 t3 t9 t10 h))
    (J7 t0 t1 t2 t3 t9 t10 h))
    (fun t0 t1 t2 t3 t9 t10 h => J2 t0 t1 t2 t3 t9 t10 h))))))
    (fun t0 t1 t2 t3 t9 t10 h => runD (binD T_int .add t10 (.int .i64 1)) h fun t18 h =>
    (∃ m, m < n ∧ I m (AV.norms n0 h [t9, t18]) (normH n0 h)) ∧ AV.norms n0 h [t0, t1, t2, t3] = [c0, c1, c2, c3]))
    (J1 h)
def slices_partialInsertionSortCmpFunc_api_Rec.H (c : Ctx) (t0 : AV) (t1 : AV) (t2 : AV) (t3 : AV) (h : List AObj) (K : AOut → List AObj → Prop) : Prop :=
  runD (binD T_int .add t1 (.int .i64 1)) h fun t14 h =>
  joinW (fun (J1 : List AObj → Prop) =>
  promV [false, false] [t14, (.int .i64 0)] h fun lv h => slices_partialInsertionSortCmpFunc_api_Rec.L1 c J1 K (AV.norms h.length h lv) (normH h.length h) h.length (AV.norm h.length h t0) (AV.norm h.length h t1) (AV.norm h.length h t2) (AV.norm h.length h t3))
  (fun h => K (.ret (.bool false)) h)
def slices_partitionCmpFunc_api_Rec.loops : Nat → LInfo
  | 3 => ⟨[12], [false], [0, 1, 4, 13], [], [], []⟩
  | 5 => ⟨[13], [false], [0, 1, 4, 12], [], [], []⟩
  | 13 => ⟨[12], [false], [0, 1, 4, 13], [], [], []⟩
  | 15 => ⟨[13], [false], [0, 1, 4, 12], [], [], []⟩
  | 1013 => ⟨[12, 13], [false, false], [0, 1, 4], [], [], []⟩
  | _ => ⟨[], [], [], [], [], []⟩
def slices_partitionCmpFunc_api_Rec.L1 (c : Ctx) (J1 : AV → AV → AV → AV → AV → List AObj → Prop) (K : AOut → List AObj → Prop) (lv : List AV) (h0 : List AObj) (n0 : Nat) (c0 : AV) (c1 : AV) (c4 : AV) (c13 : AV) : Prop :=
  ∃ I : Nat → List AV → List AObj → Prop, (∃ n, I n lv h0) ∧ ∀ n h, ∀ t12, I n [t12] h →
    runD (binD T_int .leq t12 c13) h fun t34 h =>
    joinW (fun (J2 : AV → AV → List AObj → Prop) =>
    guardW t34 true
    (runD (indexAddrD T_sl_api_Rec h c0 t12) h fun t39 h =>
      runD (fitD T_api_Rec (loadD h t39)) h fun t40 h =>
      runD (indexAddrD T_sl_api_Rec h c0 c1) h fun t43 h =>
      runD (fitD T_api_Rec (loadD h t43)) h fun t44 h =>
      callW false c.noS c4 [t40, t44] h (fun t45 h =>
      runD (binD T_int .lss t45 (.int .i64 0)) h fun t46 h =>
      J2 (.bool true) t46 h)
      (fun _ _ => False))
    (J2 (.bool false) .und h))
    (fun t35 t46 h => runD (pickD t35 t46 (.bool false)) h fun t47 h =>
    condW t47
    (runD (binD T_int .add t12 (.int .i64 1)) h fun t49 h =>
    (∃ m, m < n ∧ I m (AV.norms n0 h [t49]) (normH n0 h)) ∧ AV.norms n0 h [c0, c1, c4, c13] = [c0, c1, c4, c13])
    (J1 c0 c1 c4 t12 c13 h))
def slices_partitionCmpFunc_api_Rec.L2 (c : Ctx) (J3 : AV → AV → AV → AV → AV → List AObj → Prop) (K : AOut → List AObj → Prop) (lv : List AV) (h0 : List AObj) (n0 : Nat) (c0 : AV) (c1 : AV) (c4 : AV) (c12 : AV) : Prop :=
  ∃ I : Nat → List AV → List AObj → Prop, (∃ n, I n lv h0) ∧ ∀ n h, ∀ t13, I n [t13] h →
    runD (binD T_int .leq c12 t13) h fun t52 h =>
    joinW (fun (J4 : AV → AV → List AObj → Prop) =>
    guardW t52 true
    (runD (indexAddrD T_sl_api_Rec h c0 t13) h fun t57 h =>
      runD (fitD T_api_Rec (loadD h t57)) h fun t58 h =>
      runD (indexAddrD T_sl_api_Rec h c0 c1) h fun t61 h =>
      runD (fitD T_api_Rec (loadD h t61)) h fun t62 h =>
      callW false c.noS c4 [t58, t62] h (fun t63 h =>
      runD (binD T_int .lss t63 (.int .i64 0)) h fun t64 h =>
      runD (unD .not t64) h fun t65 h =>
      J4 (.bool true) t65 h)
      (fun _ _ => False))
    (J4 (.bool false) .und h))
    (fun t53 t65 h => runD (pickD t53 t65 (.bool false)) h fun t66 h =>
    condW t66
    (runD (binD T_int .sub t13 (.int .i64 1)) h fun t68 h =>
    (∃ m, m < n ∧ I m (AV.norms n0 h [t68]) (normH n0 h)) ∧ AV.norms n0 h [c0, c1, c4, c12] = [c0, c1, c4, c12])
    (J3 c0 c1 c4 c12 t13 h))
def slices_partitionCmpFunc_api_Rec.L4 (c : Ctx) (J7 : AV → AV → AV → AV → AV → List AObj → Prop) (K : AOut → List AObj → Prop) (lv : List AV) (h0 : List AObj) (n0 : Nat) (c0 : AV) (c1 : AV) (c4 : AV) (c13 : AV) : Prop :=
  ∃ I : Nat → List AV → List AObj → Prop, (∃ n, I n lv h0) ∧ ∀ n h, ∀ t12, I n [t12] h →
    runD (binD T_int .leq t12 c13) h fun t107 h =>
    joinW (fun (J8 : AV → AV → List AObj → Prop) =>
    guardW t107 true
    (runD (indexAddrD T_sl_api_Rec h c0 t12) h fun t112 h =>
      runD (fitD T_api_Rec (loadD h t112)) h fun t113 h =>
      runD (indexAddrD T_sl_api_Rec h c0 c1) h fun t116 h =>
      runD (fitD T_api_Rec (loadD h t116)) h fun t117 h =>
      callW false c.noS c4 [t113, t117] h (fun t118 h =>
      runD (binD T_int .lss t118 (.int .i64 0)) h fun t119 h =>
      J8 (.bool true) t119 h)
      (fun _ _ => False))
    (J8 (.bool false) .und h))
    (fun t108 t119 h => runD (pickD t108 t119 (.bool false)) h fun t120 h =>
    condW t120
    (runD (binD T_int .add t12 (.int .i64 1)) h fun t122 h =>
    (∃ m, m < n ∧ I m (AV.norms n0 h [t122]) (normH n0 h)) ∧ AV.norms n0 h [c0, c1, c4, c13] = [c0, c1, c4, c13])
    (J7 c0 c1 c4 t12 c13 h))
def slices_partitionCmpFunc_api_Rec.L5 (c : Ctx) (J9 : AV → AV → AV → AV → AV → List AObj → Prop) (K : AOut → List AObj → Prop) (lv : List AV) (h0 : List AObj) (n0 : Nat) (c0 : AV) (c1 : AV) (c4 : AV) (c12 : AV) : Prop :=
  ∃ I : Nat → List AV → List AObj → Prop, (∃ n, I n lv h0) ∧ ∀ n h, ∀ t13, I n [t13] h →
    runD (binD T_int .leq c12 t13) h fun t125 h =>
    joinW (fun (J10 : AV → AV → List AObj → Prop) =>
    guardW t125 true
    (runD (indexAddrD T_sl_api_Rec h c0 t13) h fun t130 h =>
      runD (fitD T_api_Rec (loadD h t130)) h fun t131 h =>
      runD (indexAddrD T_sl_api_Rec h c0 c1) h fun t134 h =>
      runD (fitD T_api_Rec (loadD h t134)) h fun t135 h =>
      callW false c.noS c4 [t131, t135] h (fun t136 h =>
      runD (binD T_int .lss t136 (.int .i64 0)) h fun t137 h =>
      runD (unD .not t137) h fun t138 h =>
      J10 (.bool true) t138 h)
      (fun _ _ => False))
    (J10 (.bool false) .und h))
    (fun t126 t138 h => runD (pickD t126 t138 (.bool false)) h fun t139 h =>
    condW t139
    (runD (binD T_int .sub t13 (.int .i64 1)) h fun t141 h =>
    (∃ m, m < n ∧ I m (AV.norms n0 h [t141]) (normH n0 h)) ∧ AV.norms n0 h [c0, c1, c4, c12] = [c0, c1, c4, c12])
    (J9 c0 c1 c4 c12 t13 h))
def slices_partitionCmpFunc_api_Rec.L3 (c : Ctx) (J5 : AV → AV → AV → List AObj → Prop) (K : AOut → List AObj → Prop) (lv : List AV) (h0 : List AObj) (n0 : Nat) (c0 : AV) (c1 : AV) (c4 : AV) : Prop :=
  ∃ I : Nat → List AV → List AObj → Prop, (∃ n, I n lv h0) ∧ ∀ n h, ∀ t12, ∀ t13, I n [t12, t13] h →
    joinW (fun (J6 : AV → AV → AV → AV → AV → List AObj → Prop) =>
    joinW (fun (J7 : AV → AV → AV → AV → AV → List AObj → Prop) =>
    promV [false] [t12] h fun lv h => slices_partitionCmpFunc_api_Rec.L4 c J7 K (AV.norms h.length h lv) (normH h.length h) h.length (AV.norm h.length h c0) (AV.norm h.length h c1) (AV.norm h.length h c4) (AV.norm h.length h t13))
    (fun t0 t1 t4 t12 t13 h => joinW (fun (J9 : AV → AV → AV → AV → AV → List AObj → Prop) =>
    promV [false] [t13] h fun lv h => slices_partitionCmpFunc_api_Rec.L5 c J9 K (AV.norms h.length h lv) (normH h.length h) h.length (AV.norm h.length h t0) (AV.norm h.length h t1) (AV.norm h.length h t4) (AV.norm h.length h t12))
    (fun t0 t1 t4 t12 t13 h => runD (binD T_int .gtr t12 t13) h fun t144 h =>
    condW t144
    (J5 t0 t1 t13 h)
    (runD (indexAddrD T_sl_api_Rec h t0 t13) h fun t151 h =>
    runD (fitD T_api_Rec (loadD h t151)) h fun t152 h =>
    runD (indexAddrD T_sl_api_Rec h t0 t12) h fun t155 h =>
    runD (fitD T_api_Rec (loadD h t155)) h fun t156 h =>
    runD (indexAddrD T_sl_api_Rec h t0 t12) h fun t157 h =>
    runH (storeH T_api_Rec h t157 t152) h fun _ h =>
    runD (indexAddrD T_sl_api_Rec h t0 t13) h fun t158 h =>
    runH (storeH T_api_Rec h t158 t156) h fun _ h =>
    runD (binD T_int .add t12 (.int .i64 1)) h fun t160 h =>
    runD (binD T_int .sub t13 (.int .i64 1)) h fun t162 h =>
    J6 t0 t1 t4 t160 t162 h))))
    (fun t0 t1 t4 t12 t13 h => (∃ m, m < n ∧ I m (AV.norms n0 h [t12, t13]) (normH n0 h)) ∧ AV.norms n0 h [t0, t1, t4] = [c0, c1, c4])
def slices_partitionCmpFunc_api_Rec.H (c : Ctx) (t0 : AV) (t1 : AV) (t2 : AV) (t3 : AV) (t4 : AV) (h : List AObj) (K : AOut → List AObj → Prop) : Prop :=
  runD (indexAddrD T_sl_api_Rec h t0 t3) h fun t20 h =>
  runD (fitD T_api_Rec (loadD h t20)) h fun t21 h =>
  runD (indexAddrD T_sl_api_Rec h t0 t1) h fun t24 h =>
  runD (fitD T_api_Rec (loadD h t24)) h fun t25 h =>
  runD (indexAddrD T_sl_api_Rec h t0 t1) h fun t26 h =>
  runH (storeH T_api_Rec h t26 t21) h fun _ h =>
  runD (indexAddrD T_sl_api_Rec h t0 t3) h fun t27 h =>
  runH (storeH T_api_Rec h t27 t25) h fun _ h =>
  runD (binD T_int .add t1 (.int .i64 1)) h fun t29 h =>
  runD (binD T_int .sub t2 (.int .i64 1)) h fun t31 h =>
  joinW (fun (J1 : AV → AV → AV → AV → AV → List AObj → Prop) =>
  promV [false] [t29] h fun lv h => slices_partitionCmpFunc_api_Rec.L1 c J1 K (AV.norms h.length h lv) (normH h.length h) h.length (AV.norm h.length h t0) (AV.norm h.length h t1) (AV.norm h.length h t4) (AV.norm h.length h t31))
  (fun t0 t1 t4 t12 t13 h => joinW (fun (J3 : AV → AV → AV → AV → AV → List AObj → Prop) =>
  promV [false] [t13] h fun lv h => slices_partitionCmpFunc_api_Rec.L2 c J3 K (AV.norms h.length h lv) (normH h.length h) h.length (AV.norm h.length h t0) (AV.norm h.length h t1) (AV.norm h.length h t4) (AV.norm h.length h t12))
  (fun t0 t1 t4 t12 t13 h => runD (binD T_int .gtr t12 t13) h fun t71 h =>
  condW t71
  (runD (indexAddrD T_sl_api_Rec h t0 t1) h fun t78 h =>
    runD (fitD T_api_Rec (loadD h t78)) h fun t79 h =>
    runD (indexAddrD T_sl_api_Rec h t0 t13) h fun t82 h =>
    runD (fitD T_api_Rec (loadD h t82)) h fun t83 h =>
    runD (indexAddrD T_sl_api_Rec h t0 t13) h fun t84 h =>
    runH (storeH T_api_Rec h t84 t79) h fun _ h =>
    runD (indexAddrD T_sl_api_Rec h t0 t1) h fun t85 h =>
    runH (storeH T_api_Rec h t85 t83) h fun _ h =>
    K (.ret (.tup [t13, (.bool true)])) h)
  (runD (indexAddrD T_sl_api_Rec h t0 t13) h fun t93 h =>
  runD (fitD T_api_Rec (loadD h t93)) h fun t94 h =>
  runD (indexAddrD T_sl_api_Rec h t0 t12) h fun t97 h =>
  runD (fitD T_api_Rec (loadD h t97)) h fun t98 h =>
  runD (indexAddrD T_sl_api_Rec h t0 t12) h fun t99 h =>
  runH (storeH T_api_Rec h t99 t94) h fun _ h =>
  runD (indexAddrD T_sl_api_Rec h t0 t13) h fun t100 h =>
  runH (storeH T_api_Rec h t100 t98) h fun _ h =>
  runD (binD T_int .add t12 (.int .i64 1)) h fun t102 h =>
  runD (binD T_int .sub t13 (.int .i64 1)) h fun t104 h =>
  joinW (fun (J5 : AV → AV → AV → List AObj → Prop) =>
  promV [false, false] [t102, t104] h fun lv h => slices_partitionCmpFunc_api_Rec.L3 c J5 K (AV.norms h.length h lv) (normH h.length h) h.length (AV.norm h.length h t0) (AV.norm h.length h t1) (AV.norm h.length h t4))
  (fun t0 t1 t13 h => runD (indexAddrD T_sl_api_Rec h t0 t1) h fun t169 h =>
  runD (fitD T_api_Rec (loadD h t169)) h fun t170 h =>
  runD (indexAddrD T_sl_api_Rec h t0 t13) h fun t173 h =>
  runD (fitD T_api_Rec (loadD h t173)) h fun t174 h =>
  runD (indexAddrD T_sl_api_Rec h t0 t13) h fun t175 h =>
  runH (storeH T_api_Rec h t175 t170) h fun _ h =>
  runD (indexAddrD T_sl_api_Rec h t0 t1) h fun t176 h =>
  runH (storeH T_api_Rec h t176 t174) h fun _ h =>
  K (.ret (.tup [t13, (.bool false)])) h))))
def slices_medianCmpFunc_api_Rec.loops : Nat → LInfo
  | _ => ⟨[], [], [], [], [], []⟩
def slices_medianCmpFunc_api_Rec.H (c : Ctx) (t0 : AV) (t1 : AV) (t2 : AV) (t3 : AV) (t4 : AV) (t5 : AV) (h : List AObj) (K : AOut → List AObj → Prop) : Prop :=
  callW false c (.fn (.func 150) [] []) [t0, t1, t2, t4, t5] h (fun t19 h =>
  runD (extractD t19 0) h fun t20 h =>
  runD (extractD t19 1) h fun t21 h =>
  callW false c (.fn (.func 150) [] []) [t0, t21, t3, t4, t5] h (fun t28 h =>
  runD (extractD t28 0) h fun t29 h =>
  runD (extractD t28 1) h fun t30 h =>
  callW false c (.fn (.func 150) [] []) [t0, t20, t29, t4, t5] h (fun t37 h =>
  runD (extractD t37 0) h fun t38 h =>
  runD (extractD t37 1) h fun t39 h =>
  K (.ret t39) h)
  (fun v h => K (.pan v) h))
  (fun v h => K (.pan v) h))
  (fun v h => K (.pan v) h)
def slices_order2CmpFunc_api_Rec.loops : Nat → LInfo
  | _ => ⟨[], [], [], [], [], []⟩
def slices_order2CmpFunc_api_Rec.H (c : Ctx) (t0 : AV) (t1 : AV) (t2 : AV) (t3 : AV) (t4 : AV) (h : List AObj) (K : AOut → List AObj → Prop) : Prop :=
  runD (indexAddrD T_sl_api_Rec h t0 t2) h fun t15 h =>
  runD (fitD T_api_Rec (loadD h t15)) h fun t16 h =>
  runD (indexAddrD T_sl_api_Rec h t0 t1) h fun t19 h =>
  runD (fitD T_api_Rec (loadD h t19)) h fun t20 h =>
  callW false c.noS t4 [t16, t20] h (fun t21 h =>
  runD (binD T_int .lss t21 (.int .i64 0)) h fun t22 h =>
  condW t22
  (runD (nilCheckD t3) h fun t24 h =>
    runD (fitD T_int (loadD h t24)) h fun t25 h =>
    runD (binD T_int .add t25 (.int .i64 1)) h fun t26 h =>
    runD (nilCheckD t3) h fun t27 h =>
    runH (storeH T_int h t27 t26) h fun _ h =>
    K (.ret (.tup [t2, t1])) h)
  (K (.ret (.tup [t1, t2])) h))
  (fun _ _ => False)
theorem slices_SortFunc_sl_api_Rec_api_Rec.eq (F : List (FuncId × Contract)) (S : List (FuncId × Con)) (t0 t1 : AV) (h : List AObj) (K : AOut → List AObj → Prop) : funW (ctx F S slices_SortFunc_sl_api_Rec_api_Rec.loops) Try.f67 [t0, t1] h K = slices_SortFunc_sl_api_Rec_api_Rec.H (ctx F S slices_SortFunc_sl_api_Rec_api_Rec.loops) t0 t1 h K := by kernel_rfl
theorem slices_pdqsortCmpFunc_api_Rec.eq (F : List (FuncId × Contract)) (S : List (FuncId × Con)) (t0 t1 t2 t3 t4 : AV) (h : List AObj) (K : AOut → List AObj → Prop) : funW (ctx F S slices_pdqsortCmpFunc_api_Rec.loops) Try.f92 [t0, t1, t2, t3, t4] h K = slices_pdqsortCmpFunc_api_Rec.H (ctx F S slices_pdqsortCmpFunc_api_Rec.loops) t0 t1 t2 t3 t4 h K := by kernel_rfl
theorem slices_choosePivotCmpFunc_api_Rec.eq (F : List (FuncId × Contract)) (S : List (FuncId × Con)) (t0 t1 t2 t3 : AV) (h : List AObj) (K : AOut → List AObj → Prop) : funW (ctx F S slices_choosePivotCmpFunc_api_Rec.loops) Try.f117 [t0, t1, t2, t3] h K = slices_choosePivotCmpFunc_api_Rec.H (ctx F S slices_choosePivotCmpFunc_api_Rec.loops) t0 t1 t2 t3 h K := by kernel_rfl
theorem slices_partialInsertionSortCmpFunc_api_Rec.eq (F : List (FuncId × Contract)) (S : List (FuncId × Con)) (t0 t1 t2 t3 : AV) (h : List AObj) (K : AOut → List AObj → Prop) : funW (ctx F S slices_partialInsertionSortCmpFunc_api_Rec.loops) Try.f119 [t0, t1, t2, t3] h K = slices_partialInsertionSortCmpFunc_api_Rec.H (ctx F S slices_partialInsertionSortCmpFunc_api_Rec.loops) t0 t1 t2 t3 h K := by kernel_rfl
theorem slices_partitionCmpFunc_api_Rec.eq (F : List (FuncId × Contract)) (S : List (FuncId × Con)) (t0 t1 t2 t3 t4 : AV) (h : List AObj) (K : AOut → List AObj → Prop) : funW (ctx F S slices_partitionCmpFunc_api_Rec.loops) Try.f121 [t0, t1, t2, t3, t4] h K = slices_partitionCmpFunc_api_Rec.H (ctx F S slices_partitionCmpFunc_api_Rec.loops) t0 t1 t2 t3 t4 h K := by kernel_rfl
theorem slices_medianCmpFunc_api_Rec.eq (F : List (FuncId × Contract)) (S : List (FuncId × Con)) (t0 t1 t2 t3 t4 t5 : AV) (h : List AObj) (K : AOut → List AObj → Prop) : funW (ctx F S slices_medianCmpFunc_api_Rec.loops) Try.f141 [t0, t1, t2, t3, t4, t5] h K = slices_medianCmpFunc_api_Rec.H (ctx F S slices_medianCmpFunc_api_Rec.loops) t0 t1 t2 t3 t4 t5 h K := by kernel_rfl
theorem slices_order2CmpFunc_api_Rec.eq (F : List (FuncId × Contract)) (S : List (FuncId × Con)) (t0 t1 t2 t3 t4 : AV) (h : List AObj) (K : AOut → List AObj → Prop) : funW (ctx F S slices_order2CmpFunc_api_Rec.loops) Try.f150 [t0, t1, t2, t3, t4] h K = slices_order2CmpFunc_api_Rec.H (ctx F S slices_order2CmpFunc_api_Rec.loops) t0 t1 t2 t3 t4 h K := by kernel_rfl
theorem slices_SortFunc_sl_api_Rec_api_Rec.at : Try.prog.funcs[67]? = some Try.f67 := by kernel_rfl
theorem slices_SortFunc_sl_api_Rec_api_Rec.nm : (Try.f67.name == "runtime.NumGoroutine") = false := by kernel_rfl
theorem slices_SortFunc_sl_api_Rec_api_Rec.bd : Try.f67.body.isNone = false := by kernel_rfl
theorem slices_pdqsortCmpFunc_api_Rec.at : Try.prog.funcs[92]? = some Try.f92 := by kernel_rfl
theorem slices_pdqsortCmpFunc_api_Rec.nm : (Try.f92.name == "runtime.NumGoroutine") = false := by kernel_rfl
theorem slices_pdqsortCmpFunc_api_Rec.bd : Try.f92.body.isNone = false := by kernel_rfl
theorem slices_choosePivotCmpFunc_api_Rec.at : Try.prog.funcs[117]? = some Try.f117 := by kernel_rfl
theorem slices_choosePivotCmpFunc_api_Rec.nm : (Try.f117.name == "runtime.NumGoroutine") = false := by kernel_rfl
theorem slices_choosePivotCmpFunc_api_Rec.bd : Try.f117.body.isNone = false := by kernel_rfl
theorem slices_partialInsertionSortCmpFunc_api_Rec.at : Try.prog.funcs[119]? = some Try.f119 := by kernel_rfl
theorem slices_partialInsertionSortCmpFunc_api_Rec.nm : (Try.f119.name == "runtime.NumGoroutine") = false := by kernel_rfl
theorem slices_partialInsertionSortCmpFunc_api_Rec.bd : Try.f119.body.isNone = false := by kernel_rfl
theorem slices_partitionCmpFunc_api_Rec.at : Try.prog.funcs[121]? = some Try.f121 := by kernel_rfl
theorem slices_partitionCmpFunc_api_Rec.nm : (Try.f121.name == "runtime.NumGoroutine") = false := by kernel_rfl
theorem slices_partitionCmpFunc_api_Rec.bd : Try.f121.body.isNone = false := by kernel_rfl
theorem slices_medianCmpFunc_api_Rec.at : Try.prog.funcs[141]? = some Try.f141 := by kernel_rfl
theorem slices_medianCmpFunc_api_Rec.nm : (Try.f141.name == "runtime.NumGoroutine") = false := by kernel_rfl
theorem slices_medianCmpFunc_api_Rec.bd : Try.f141.body.isNone = false := by kernel_rfl
theorem slices_order2CmpFunc_api_Rec.at : Try.prog.funcs[150]? = some Try.f150 := by kernel_rfl
theorem slices_order2CmpFunc_api_Rec.nm : (Try.f150.name == "runtime.NumGoroutine") = false := by kernel_rfl
theorem slices_order2CmpFunc_api_Rec.bd : Try.f150.body.isNone = false := by kernel_rfl
end Lam
namespace Lam
open Go Go.Proofs
set_option linter.unusedVariables false
def slices_insertionSortCmpFunc_api_Rec.loops : Nat → LInfo
  | 1 => ⟨[8], [false], [0, 1, 2, 3], [], [], []⟩
  | 4 => ⟨[9], [false], [0, 1, 2, 3, 8], [], [], []⟩
  | _ => ⟨[], [], [], [], [], []⟩
def slices_insertionSortCmpFunc_api_Rec.L2 (c : Ctx) (J3 : AV → AV → AV → AV → AV → List AObj → Prop) (K : AOut → List AObj → Prop) (lv : List AV) (h0 : List AObj) (n0 : Nat) (c0 : AV) (c1 : AV) (c2 : AV) (c3 : AV) (c8 : AV) : Prop :=
  ∃ I : Nat → List AV → List AObj → Prop, (∃ n, I n lv h0) ∧ ∀ n h, ∀ t9, I n [t9] h →
    runD (binD T_int .gtr t9 c1) h fun t20 h =>
    joinW (fun (J4 : AV → AV → List AObj → Prop) =>
    guardW t20 true
    (runD (indexAddrD T_sl_api_Rec h c0 t9) h fun t25 h =>
      runD (fitD T_api_Rec (loadD h t25)) h fun t26 h =>
      runD (binD T_int .sub t9 (.int .i64 1)) h fun t29 h =>
      runD (indexAddrD T_sl_api_Rec h c0 t29) h fun t30 h =>
      runD (fitD T_api_Rec (loadD h t30)) h fun t31 h =>
      callW false c.noS c3 [t26, t31] h (fun t32 h =>
      runD (binD T_int .lss t32 (.int .i64 0)) h fun t33 h =>
      J4 (.bool true) t33 h)
      (fun _ _ => False))
    (J4 (.bool false) .und h))
    (fun t21 t33 h => runD (pickD t21 t33 (.bool false)) h fun t34 h =>
    condW t34
    (runD (binD T_int .sub t9 (.int .i64 1)) h fun t41 h =>
    runD (binD T_int .sub t9 (.int .i64 1)) h fun t44 h =>
    runD (indexAddrD T_sl_api_Rec h c0 t44) h fun t45 h =>
    runD (fitD T_api_Rec (loadD h t45)) h fun t46 h =>
    runD (indexAddrD T_sl_api_Rec h c0 t9) h fun t49 h =>
    runD (fitD T_api_Rec (loadD h t49)) h fun t50 h =>
    runD (indexAddrD T_sl_api_Rec h c0 t9) h fun t51 h =>
    runH (storeH T_api_Rec h t51 t46) h fun _ h =>
    runD (indexAddrD T_sl_api_Rec h c0 t41) h fun t52 h =>
    runH (storeH T_api_Rec h t52 t50) h fun _ h =>
    runD (binD T_int .sub t9 (.int .i64 1)) h fun t36 h =>
    (∃ m, m < n ∧ I m (AV.norms n0 h [t36]) (normH n0 h)) ∧ AV.norms n0 h [c0, c1, c2, c3, c8] = [c0, c1, c2, c3, c8])
    (J3 c0 c1 c2 c3 c8 h))
def slices_insertionSortCmpFunc_api_Rec.L1 (c : Ctx) (J1 : List AObj → Prop) (K : AOut → List AObj → Prop) (lv : List AV) (h0 : List AObj) (n0 : Nat) (c0 : AV) (c1 : AV) (c2 : AV) (c3 : AV) : Prop :=
  ∃ I : Nat → List AV → List AObj → Prop, (∃ n, I n lv h0) ∧ ∀ n h, ∀ t8, I n [t8] h →
    runD (binD T_int .lss t8 c2) h fun t14 h =>
    condW t14
    (joinW (fun (J2 : AV → AV → AV → AV → AV → List AObj → Prop) =>
    joinW (fun (J3 : AV → AV → AV → AV → AV → List AObj → Prop) =>
    promV [false] [t8] h fun lv h => slices_insertionSortCmpFunc_api_Rec.L2 c J3 K (AV.norms h.length h lv) (normH h.length h) h.length (AV.norm h.length h c0) (AV.norm h.length h c1) (AV.norm h.length h c2) (AV.norm h.length h c3) (AV.norm h.length h t8))
    (fun t0 t1 t2 t3 t8 h => J2 t0 t1 t2 t3 t8 h))
    (fun t0 t1 t2 t3 t8 h => runD (binD T_int .add t8 (.int .i64 1)) h fun t16 h =>
    (∃ m, m < n ∧ I m (AV.norms n0 h [t16]) (normH n0 h)) ∧ AV.norms n0 h [t0, t1, t2, t3] = [c0, c1, c2, c3]))
    (J1 h)
def slices_insertionSortCmpFunc_api_Rec.H (c : Ctx) (t0 : AV) (t1 : AV) (t2 : AV) (t3 : AV) (h : List AObj) (K : AOut → List AObj → Prop) : Prop :=
  runD (binD T_int .add t1 (.int .i64 1)) h fun t11 h =>
  joinW (fun (J1 : List AObj → Prop) =>
  promV [false] [t11] h fun lv h => slices_insertionSortCmpFunc_api_Rec.L1 c J1 K (AV.norms h.length h lv) (normH h.length h) h.length (AV.norm h.length h t0) (AV.norm h.length h t1) (AV.norm h.length h t2) (AV.norm h.length h t3))
  (fun h => K (.ret (.tup [])) h)
theorem slices_insertionSortCmpFunc_api_Rec.eq (F : List (FuncId × Contract)) (S : List (FuncId × Con)) (t0 t1 t2 t3 : AV) (h : List AObj) (K : AOut → List AObj → Prop) : funW (ctx F S slices_insertionSortCmpFunc_api_Rec.loops) Try.f114 [t0, t1, t2, t3] h K = slices_insertionSortCmpFunc_api_Rec.H (ctx F S slices_insertionSortCmpFunc_api_Rec.loops) t0 t1 t2 t3 h K := by kernel_rfl
theorem slices_insertionSortCmpFunc_api_Rec.at : Try.prog.funcs[114]? = some Try.f114 := by kernel_rfl
theorem slices_insertionSortCmpFunc_api_Rec.nm : (Try.f114.name == "runtime.NumGoroutine") = false := by kernel_rfl
theorem slices_insertionSortCmpFunc_api_Rec.bd : Try.f114.body.isNone = false := by kernel_rfl
end Lam
