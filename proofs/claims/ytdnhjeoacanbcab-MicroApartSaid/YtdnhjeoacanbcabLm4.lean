/- What functions of the program come to, each proved from its code. -/
import Derived.Test.YtdnhjeoacanbcabLm3
import Derived.Attr
import Derived.KernelRfl
import Derived.Test.YtdnhjeoacanbcabProg
set_option linter.unusedVariables false
set_option linter.unusedSimpArgs false
set_option linter.unnecessarySimpa false
set_option linter.unusedSectionVars false
namespace Lam
open Go

/-- bits of whole numbers -/
def xorI (k : IntKind) (a b : Int) : Int := k.wrap (BitVec.ofInt k.bits a ^^^ BitVec.ofInt k.bits b).toNat
def andI (k : IntKind) (a b : Int) : Int := k.wrap (BitVec.ofInt k.bits a &&& BitVec.ofInt k.bits b).toNat
def orI (k : IntKind) (a b : Int) : Int := k.wrap (BitVec.ofInt k.bits a ||| BitVec.ofInt k.bits b).toNat
def andNotI (k : IntKind) (a b : Int) : Int := k.wrap (BitVec.ofInt k.bits a &&& ~~~ BitVec.ofInt k.bits b).toNat
def notI (k : IntKind) (a : Int) : Int := k.wrap (BitVec.ofInt k.bits (if k.signed then -1 else k.max) ^^^ BitVec.ofInt k.bits a).toNat

section runs
variable (S : Prop) (v : AV) (news h : List AObj) (K KP : AV → List AObj → Prop)
@[go_sem] theorem runD_p : runD (pD S v) h K = (S ∧ K v h) := by simp [pD, runD]
@[go_sem] theorem runD_some : runD (some (S, v, news)) h K = (S ∧ K v (h ++ news)) := (rfl)
@[go_sem] theorem runH_some (id : Nat) (o : AObj) : runH (some (S, id, o)) h K = (S ∧ K .und (h.set id o)) := (rfl)
@[go_sem] theorem runM_some (id : Nat) (o : AObj) : runM (some (S, v, id, o)) h K = (S ∧ K v (h.set id o)) := (rfl)
@[go_sem] theorem runDM_p (y) : runDM (pD S v) y h K = (S ∧ K v h) := by simp [pD, runDM]
@[go_sem] theorem runDM_some (y) : runDM (some (S, v, news)) y h K = (S ∧ K v (h ++ news)) := (rfl)
@[go_sem] theorem runDM_none (y) : runDM none y h K = runM y h K := (rfl)
@[go_sem] theorem nilEqO_some (n : Nat) : nilEqO (some n) h K = ∀ b : Bool, (b = true → n = 0) → K (.bool b) h := (rfl)
@[go_sem] theorem allocW_eq (d : TyD) : allocW d h K = (zeroP d ∧ K (.ptr h.length []) (h ++ [boxO d.zero])) := (rfl)
@[go_sem] theorem zeroP_map (m : MK) : zeroP (.map m) = True := (rfl)
@[go_sem] theorem zeroP_int (k : IntKind) : zeroP (.int k) = fitP (.int k) (TyD.int k).zero := (rfl)
@[go_sem] theorem zeroP_bool : zeroP .bool = fitP .bool TyD.bool.zero := (rfl)
@[go_sem] theorem zeroP_str : zeroP .str = fitP .str TyD.str.zero := (rfl)
@[go_sem] theorem zeroP_slice (e : LK) : zeroP (.slice e) = fitP (.slice e) (TyD.slice e).zero := (rfl)
@[go_sem] theorem zeroP_strct (fs : List TyD) : zeroP (.strct fs) = fitP (.strct fs) (TyD.strct fs).zero := (rfl)
@[go_sem] theorem zeroP_arr (n : Nat) (e : LK) : zeroP (.arr n e) = fitP (.arr n e) (TyD.arr n e).zero := (rfl)
@[go_sem] theorem zeroP_ptr : zeroP .ptr = fitP .ptr TyD.ptr.zero := (rfl)
@[go_sem] theorem zeroP_func : zeroP .func = fitP .func TyD.func.zero := (rfl)
@[go_sem] theorem zeroP_iface : zeroP .iface = fitP .iface TyD.iface.zero := (rfl)
@[congr] theorem allocW_congr {d d' : TyD} {h h' : List AObj} {K : AV → List AObj → Prop} (e2 : d = d') (e : h = h') : allocW d h K = allocW d' h' K := by rw [e, e2]
@[go_sem] theorem boxW_eq (d : TyD) : boxW d v h K = (fitP d v ∧ K (.ptr h.length []) (h ++ [boxO v])) := (rfl)
@[go_sem] theorem panW_iface (t : TypeId) (u : AV) : panW (.iface t u) h KP = KP (.iface t u) h := (rfl)
@[go_sem] theorem whenP_true (A : Prop) : whenP true A = A := (rfl)
@[go_sem] theorem whenD_true (x : D) : whenD true x = x := (rfl)
theorem guardW_bool (b w : Bool) (A B : Prop) : guardW (.bool b) w A B = ((b = w → A) ∧ (b = (!w) → B)) := (rfl)
@[go_sem] theorem condW_bool (b : Bool) (A B : Prop) : condW (.bool b) A B = ((b = true → A) ∧ (b = false → B)) := (rfl)
@[go_sem] theorem callW_fn (mt : Bool) (c : Ctx) (f : FuncId) (first cap args : List AV) : callW mt c (.fn (.func f) first cap) args h K KP =
    callR (lastId mt args) c.drawn (callArgs c f (AV.vals h (first ++ args ++ cap))) (AV.rowss (first ++ args ++ cap)) h K (c.envS f (first ++ args ++ cap) h (outW K KP)) := (rfl)
@[go_sem] theorem callArgs_some (c : Ctx) (f : FuncId) (vs : List AV) : callArgs c f (some vs) = if AV.closeds vs = true then c.envF f vs else none := by
  cases h : AV.closeds vs <;> simp [callArgs, h]
@[go_sem] theorem callArgs_none (c : Ctx) (f : FuncId) : callArgs c f none = none := (rfl)
@[go_sem] theorem callR_fresh (la : Option Nat) (dr : Bool) (rows : List Nat) (els : Prop) : callR la dr (some (true, some (S, v, news))) rows h K els = (S ∧ K (v.shift h.length) (h ++ news)) := (rfl)
@[go_sem] theorem callR_freshp (la : Option Nat) (dr : Bool) (rows : List Nat) (els : Prop) : callR la dr (some (true, pD S v)) rows h K els = (S ∧ K (v.shift h.length) h) := by simp [pD, callR]
@[go_sem] theorem callR_plain (la : Option Nat) (dr : Bool) (rows : List Nat) (els : Prop) (hv : v.noSl = true) : callR la dr (some (false, pD S v)) rows h K els = (S ∧ K v h) := by simp [pD, callR, hv]
@[go_sem] theorem callR_valp (la : Option Nat) (rows : List Nat) (els : Prop) (hv : v.noSl = false) : callR la false (some (false, pD S v)) rows h K els = (S ∧ K v (freeze rows h)) := by simp [pD, callR, hv]
@[go_sem] theorem callR_app (id : Nat) (els : Prop) (hv : v.noSl = false) : callR (some id) true (some (false, pD S v)) [id] h K els = (S ∧ K v (freeze [id] h)) := by simp [pD, callR, hv]
@[go_sem] theorem lastId_false (args : List AV) : lastId false args = none := (rfl)
@[go_sem] theorem lastId_one (x : Bool) (id ver off len : Nat) : lastId true [.sref x id ver off len] = some id := (rfl)
@[go_sem] theorem lastId_sl (x : Bool) (l : Lst) : lastId true [.sl x l] = none := (rfl)
@[go_sem] theorem lastId_cons (a b : AV) (r : List AV) : lastId true (a :: b :: r) = lastId true (b :: r) := by simp [lastId]
@[go_sem] theorem callR_none0 (la : Option Nat) (dr : Bool) (els : Prop) : callR la dr (some (false, pD S v)) [] h K els = (S ∧ K v h) := by cases hv : v.noSl <;> simp [pD, callR, hv, freeze]
@[go_sem] theorem callR_none (la : Option Nat) (dr : Bool) (rows : List Nat) (els : Prop) : callR la dr none rows h K els = els := (rfl)
@[go_sem] theorem freeze_nil : freeze [] h = h := (rfl)
@[go_sem] theorem freeze_cons (id : Nat) (r : List Nat) : freeze (id :: r) h = freeze r (h.modify id froO) := (rfl)
@[go_sem] theorem froO_row (k : RK) (ver : Nat) (l : Lst) : froO (.row k ver l) = .row .fro ver l := (rfl)
@[go_sem] theorem froO_box (u : AV) : froO (.box u) = .box u := (rfl)
@[go_sem] theorem froO_lp (st : LoopState) (pd : Option Code) (r : Loop) : froO (.lp st pd r) = .lp st pd r := (rfl)
@[go_sem] theorem normO_lp (n : Nat) (st : LoopState) (pd : Option Code) (r : Loop) : normO n h (.lp st pd r) = .lp st pd r := (rfl)
@[go_sem] theorem callW_yield (mt : Bool) (c : Ctx) (l : Nat) (args : List AV) (KP : AV → List AObj → Prop) : callW mt c (.fn (.yield l) [] []) args h K KP = c.envY l args h (outW K KP) := (rfl)
@[go_sem] theorem noS_envY (c : Ctx) (l : Nat) (a : List AV) (K' : AOut → List AObj → Prop) : c.noS.envY l a h K' = False := (rfl)
@[go_sem] theorem noI_drawn (c : Ctx) : c.noI.drawn = c.drawn := (rfl)
@[go_sem] theorem noI_envF (c : Ctx) : c.noI.envF = c.envF := (rfl)
@[go_sem] theorem noI_envS (c : Ctx) : c.noI.envS = c.envS := (rfl)
@[go_sem] theorem noI_envY (c : Ctx) : c.noI.envY = c.envY := (rfl)
@[go_sem] theorem noI_tab (c : Ctx) : c.noI.tab = c.tab := (rfl)
@[go_sem] theorem withY_drawn (c : Ctx) (l : Nat) (Y : Con) : (c.withY l Y).drawn = c.drawn := (rfl)
@[go_sem] theorem withY_envF (c : Ctx) (l : Nat) (Y : Con) : (c.withY l Y).envF = c.envF := (rfl)
@[go_sem] theorem withY_envS (c : Ctx) (l : Nat) (Y : Con) : (c.withY l Y).envS = c.envS := (rfl)
@[go_sem] theorem withY_envY (c : Ctx) (l l' : Nat) (Y : Con) (a : List AV) (K' : AOut → List AObj → Prop) : (c.withY l Y).envY l' a h K' = (l' = l ∧ Y a h K') := (rfl)
@[go_sem] theorem rangeX_fn (iterS : FuncId → Con → Con) (f : FuncId) (cap : List AV) (rd : Nat → Loop → Con) (fin : Nat → Loop → AOut → List AObj → Prop) :
    rangeX iterS (.fn (.func f) [] cap) h rd fin = rangeY iterS f cap h rd fin := (rfl)
@[go_sem] theorem rangeY_eq (iterS : FuncId → Con → Con) (f : FuncId) (cap : List AV) (rd : Nat → Loop → Con) (fin : Nat → Loop → AOut → List AObj → Prop) :
    rangeY iterS f cap h rd fin = ∀ (l : Nat) (r : Loop), iterS f (rd h.length r) (.fn (.yield l) [] [] :: cap) (h ++ [.lp .ready none r]) (fin h.length r) := (rfl)
@[go_sem] theorem boxH_nil : boxH [] h = h := (rfl)
@[go_sem] theorem boxH_cons (a : AV) (r : List AV) : boxH (a :: r) h = boxH r (promP a h) := (rfl)
@[go_sem] theorem promP_ptr (id : Nat) : promP (.ptr id []) h = promO id (h.getD id .dead) h := (rfl)
@[go_sem] theorem promB_nil (i : Nat) : promB [] i h = h := (rfl)
@[go_sem] theorem promB_cons (o : AObj) (r : List AObj) (i : Nat) : promB (o :: r) i h = promB r (i + 1) (promO i o h) := (rfl)
@[go_sem] theorem promO_box (v : AV) (i : Nat) : promO i (.box v) h = promS i (promA v h.length) h := (rfl)
@[go_sem] theorem promO_row (k : RK) (v i : Nat) (l : Lst) : promO i (.row k v l) h = h := (rfl)
@[go_sem] theorem promO_mp (m : MapC) (i : Nat) : promO i (.map m) h = h := (rfl)
@[go_sem] theorem promO_lp (st : LoopState) (pd : Option Code) (r : Loop) (i : Nat) : promO i (.lp st pd r) h = h := (rfl)
@[go_sem] theorem promO_dead (i : Nat) : promO i .dead h = h := (rfl)
@[go_sem] theorem promS_nil (i : Nat) (v : AV) : promS i (v, []) h = h := (rfl)
@[go_sem] theorem promS_cons (i : Nat) (v : AV) (l : Lst) (r : List Lst) : promS i (v, l :: r) h = (h ++ rowsOf (l :: r)).set i (.box v) := (rfl)
@[go_sem] theorem rowsOf_nil : rowsOf [] = [] := (rfl)
@[go_sem] theorem rowsOf_cons (l : Lst) (r : List Lst) : rowsOf (l :: r) = .row .own 0 l :: rowsOf r := (rfl)
@[go_sem] theorem promAs_nil (i : Nat) : promAs [] i = ([], []) := (rfl)
@[go_sem] theorem promAs_cons (v : AV) (r : List AV) (n : Nat) : promAs (v :: r) n = ((promA v n).1 :: (promAs r (n + (promA v n).2.length)).1, (promA v n).2 ++ (promAs r (n + (promA v n).2.length)).2) := (rfl)
@[go_sem] theorem promA_agg (vs : List AV) (n : Nat) : promA (.agg vs) n = (.agg (promAs vs n).1, (promAs vs n).2) := (rfl)
@[go_sem] theorem promA_slt (l : Lst) (n : Nat) : promA (.sl true l) n = promL l n := (rfl)
@[go_sem] theorem promA_slf (l : Lst) (i : Nat) : promA (.sl false l) i = (.sl false l, []) := (rfl)
@[go_sem] theorem promA_int (k : IntKind) (n : Int) (i : Nat) : promA (.int k n) i = (.int k n, []) := (rfl)
@[go_sem] theorem promA_bool (b : Bool) (i : Nat) : promA (.bool b) i = (.bool b, []) := (rfl)
@[go_sem] theorem promA_str (b : Bytes) (i : Nat) : promA (.str b) i = (.str b, []) := (rfl)
@[go_sem] theorem promA_sref (x : Bool) (a b c d : Nat) (i : Nat) : promA (.sref x a b c d) i = (.sref x a b c d, []) := (rfl)
@[go_sem] theorem promA_map (a : Nat) (i : Nat) : promA (.map a) i = (.map a, []) := (rfl)
@[go_sem] theorem promA_ptr (a : Nat) (p : List PS) (i : Nat) : promA (.ptr a p) i = (.ptr a p, []) := (rfl)
@[go_sem] theorem promA_fn (f : Fn) (a b : List AV) (i : Nat) : promA (.fn f a b) i = (.fn f a b, []) := (rfl)
@[go_sem] theorem promA_nilp (i : Nat) : promA .nilp i = (.nilp, []) := (rfl)
@[go_sem] theorem promA_nilfn (i : Nat) : promA .nilfn i = (.nilfn, []) := (rfl)
@[go_sem] theorem promA_niliface (i : Nat) : promA .niliface i = (.niliface, []) := (rfl)
@[go_sem] theorem promA_iface (t : TypeId) (v : AV) (i : Nat) : promA (.iface t v) i = (.iface t v, []) := (rfl)
@[go_sem] theorem promA_top (i : Nat) : promA .top i = (.top, []) := (rfl)
@[go_sem] theorem promA_und (i : Nat) : promA .und i = (.und, []) := (rfl)
@[go_sem] theorem promA_arr (l : Lst) (i : Nat) : promA (.arr l) i = (.arr l, []) := (rfl)
@[go_sem] theorem promL_ints (k : IntKind) (n : Nat) : promL (.ints k []) n = (.sref false n 0 0 0, [.ints k []]) := (rfl)
@[go_sem] theorem promL_bools (n : Nat) : promL (.bools []) n = (.sref false n 0 0 0, [.bools []]) := (rfl)
@[go_sem] theorem promL_strs (n : Nat) : promL (.strs []) n = (.sref false n 0 0 0, [.strs []]) := (rfl)
@[go_sem] theorem promL_pends (n : Nat) : promL (.pends []) n = (.sref false n 0 0 0, [.pends []]) := (rfl)
@[go_sem] theorem promL_mics (n : Nat) : promL (.mics []) n = (.sref false n 0 0 0, [.mics []]) := (rfl)
@[go_sem] theorem promL_recs (n : Nat) : promL (.recs []) n = (.sref false n 0 0 0, [.recs []]) := (rfl)
@[go_sem] theorem promL_pairs (n : Nat) : promL (.pairs []) n = (.sref false n 0 0 0, [.pairs []]) := (rfl)
@[go_sem] theorem promL_slots (n : Nat) : promL (.slots []) n = (.sref false n 0 0 0, [.slots []]) := (rfl)
@[go_sem] theorem lpIs_eq (id : Nat) (st : LoopState) (r : Loop) : lpIs h id st r = (h[id]? = some (.lp st none r)) := (rfl)
@[go_sem] theorem argX0_nil (A : Prop) : argX0 [] A = A := (rfl)
@[go_sem] theorem argX1_cons (v : AV) (vs : List AV) (A : AV → Prop) : argX1 (v :: vs) A = argX0 vs (A v) := (rfl)
@[go_sem] theorem argX2_cons (v : AV) (vs : List AV) (A : AV → AV → Prop) : argX2 (v :: vs) A = argX1 vs (A v) := (rfl)
section
variable (id : Nat) (r r' : Loop) (kn kr : List AObj → Prop) (ke kg : Nat → List AObj → Prop) (kp : AV → List AObj → Prop)
@[go_sem] theorem endX_ret (v : AV) : endX id r (.ret v) h kn kr ke kg kp = endO (h[id]?) id r h kn kr ke kg := (rfl)
@[go_sem] theorem endX_pan (v : AV) : endX id r (.pan v) h kn kr ke kg kp = kp v h := (rfl)
@[go_sem] theorem endO_ready : endO (some (.lp .ready none r')) id r h kn kr ke kg = (r' = r ∧ kn (h.set id (.lp .exhausted none r))) := (rfl)
@[go_sem] theorem endO_ret : endO (some (.lp .done (some .ret) r')) id r h kn kr ke kg = (r' = r ∧ kr (h.set id (.lp .exhausted (some .ret) r))) := (rfl)
@[go_sem] theorem endO_exit (i : Nat) : endO (some (.lp .done (some (.exit i)) r')) id r h kn kr ke kg = (r' = r ∧ ke i (h.set id (.lp .exhausted (some (.exit i)) r))) := (rfl)
@[go_sem] theorem endO_goto (i : Nat) : endO (some (.lp .done (some (.goto i)) r')) id r h kn kr ke kg = (r' = r ∧ kg i (h.set id (.lp .exhausted (some (.goto i)) r))) := (rfl)
end
@[go_sem] theorem exitW_eq (i id : Nat) (A B : Prop) : exitW i id A B = match Nat.beq i id with
  | true => A
  | false => B := (rfl)
@[go_sem] theorem noS_drawn (c : Ctx) : c.noS.drawn = true := (rfl)
@[go_sem] theorem noS_envF (c : Ctx) : c.noS.envF = c.envF := (rfl)
@[go_sem] theorem noS_tab (c : Ctx) : c.noS.tab = c.tab := (rfl)
@[go_sem] theorem noS_envS (c : Ctx) (f : FuncId) (a : List AV) (K' : AOut → List AObj → Prop) : c.noS.envS f a h K' = False := (rfl)
@[go_sem] theorem outW_ret : outW K KP (.ret v) h = K v h := (rfl)
@[go_sem] theorem outW_pan : outW K KP (.pan v) h = KP v h := (rfl)
@[go_sem] theorem loadRes_p (K : AV → Prop) : loadRes (pD S v) K = (S ∧ K v) := (rfl)
@[go_sem] theorem someD_some {α : Type} (a : α) (f : α → D) : someD (some a) f = f a := (rfl)
@[go_sem] theorem someD_none {α : Type} (f : α → D) : someD (none : Option α) f = none := (rfl)
end runs

section congrs
variable {K KP : AV → List AObj → Prop} {h h' : List AObj}
@[congr] theorem runD_congr {x x' : D} (e : x = x') (e' : h = h') : runD x h K = runD x' h' K := by rw [e, e']
@[congr] theorem runH_congr {x x' : Option (Prop × Nat × AObj)} (e : x = x') (e' : h = h') : runH x h K = runH x' h' K := by rw [e, e']
@[congr] theorem runM_congr {x x' : Option (Prop × AV × Nat × AObj)} (e : x = x') (e' : h = h') : runM x h K = runM x' h' K := by rw [e, e']
@[congr] theorem runDM_congr {x x' : D} {y : Option (Prop × AV × Nat × AObj)} (e : x = x') (e' : h = h') : runDM x y h K = runDM x' y h' K := by rw [e, e']
@[congr] theorem condW_congr {v v' : AV} {A B : Prop} (e : v = v') : condW v A B = condW v' A B := by rw [e]
@[congr] theorem guardW_congr {v v' : AV} {w : Bool} {A B : Prop} (e : v = v') : guardW v w A B = guardW v' w A B := by rw [e]
@[congr] theorem nilEqO_congr {x x' : Option Nat} (e' : x = x') (e : h = h') : nilEqO x h K = nilEqO x' h' K := by rw [e, e']
@[congr] theorem boxW_congr {d d' : TyD} {x x' : AV} (e2 : d = d') (e' : x = x') (e : h = h') : boxW d x h K = boxW d' x' h' K := by rw [e, e', e2]
@[congr] theorem panW_congr {x x' : AV} (e' : x = x') (e : h = h') : panW x h KP = panW x' h' KP := by rw [e, e']
@[congr] theorem whenP_congr {b b' : Bool} {A : Prop} (e : b = b') : whenP b A = whenP b' A := by rw [e]
@[congr] theorem callW_congr {mt : Bool} {c : Ctx} {f f' : AV} {a a' : List AV} (e2 : f = f') (e' : a = a') (e : h = h') : callW mt c f a h K KP = callW mt c f' a' h' K KP := by rw [e, e', e2]
@[congr] theorem callR_congr {la la' : Option Nat} {dr dr' : Bool} {x x' : Option (Bool × D)} {rows rows' : List Nat} {els : Prop} (e1 : la = la') (e2 : dr = dr') (e : x = x') (e3 : rows = rows') (e' : h = h') : callR la dr x rows h K els = callR la' dr' x' rows' h' K els := by rw [e1, e, e', e2, e3]
@[congr] theorem sepW_congr {t t' : List (Nat × AV)} {l : List (Option Operand × List Operand)} {A : Prop} (e : t = t') : sepW t l A = sepW t' l A := by rw [e]
@[congr] theorem loadRes_congr {x x' : D} {K : AV → Prop} (e : x = x') : loadRes x K = loadRes x' K := by rw [e]
@[congr] theorem promV_congr {fs : List Bool} {vs vs' : List AV} {K : List AV → List AObj → Prop} (e : vs = vs') (e' : h = h') : promV fs vs h K = promV fs vs' h' K := by rw [e, e']
end congrs

section lists
@[go_sem] theorem sizes_nil : AV.sizes [] = 0 := (rfl)
@[go_sem] theorem sizes_cons (v : AV) (r : List AV) : AV.sizes (v :: r) = v.size + AV.sizes r := (rfl)
@[go_sem] theorem size_agg (vs : List AV) : (AV.agg vs).size = AV.sizes vs := (rfl)
@[go_sem] theorem size_int (k : IntKind) (n : Int) : (AV.int k n).size = 1 := (rfl)
@[go_sem] theorem size_bool (b : Bool) : (AV.bool b).size = 1 := (rfl)
@[go_sem] theorem size_str (s : Bytes) : (AV.str s).size = 1 := (rfl)
@[go_sem] theorem size_sl (x : Bool) (l : Lst) : (AV.sl x l).size = 1 := (rfl)
@[go_sem] theorem size_sref (x : Bool) (a b c d : Nat) : (AV.sref x a b c d).size = 1 := (rfl)
@[go_sem] theorem size_ptr (a : Nat) (p : List PS) : (AV.ptr a p).size = 1 := (rfl)
@[go_sem] theorem size_nilp : (AV.nilp).size = 1 := (rfl)
@[go_sem] theorem size_ep (l : Lst) (a : Nat) (p : List PS) : (AV.ep l a p).size = 1 := (rfl)
@[go_sem] theorem size_map (a : Nat) : (AV.map a).size = 1 := (rfl)
@[go_sem] theorem size_fn (f : Fn) (a b : List AV) : (AV.fn f a b).size = 1 := (rfl)
@[go_sem] theorem size_top : (AV.top).size = 1 := (rfl)
@[go_sem] theorem size_nilfn : (AV.nilfn).size = 1 := (rfl)
@[go_sem] theorem size_iface (t : TypeId) (v : AV) : (AV.iface t v).size = 1 := (rfl)
@[go_sem] theorem size_niliface : (AV.niliface).size = 1 := (rfl)
@[go_sem] theorem tsize_int (k : IntKind) : (TyD.int k).size = 1 := (rfl)
@[go_sem] theorem tsize_bool : TyD.bool.size = 1 := (rfl)
@[go_sem] theorem tsize_str : TyD.str.size = 1 := (rfl)
@[go_sem] theorem tsize_slice (e : LK) : (TyD.slice e).size = 1 := (rfl)
@[go_sem] theorem tsize_ptr : TyD.ptr.size = 1 := (rfl)
@[go_sem] theorem tsize_map (m : MK) : (TyD.map m).size = 1 := (rfl)
@[go_sem] theorem tsize_func : TyD.func.size = 1 := (rfl)
@[go_sem] theorem tsize_other : TyD.other.size = 1 := (rfl)
@[go_sem] theorem tsize_strct (fs : List TyD) : (TyD.strct fs).size = TyD.sizes fs := (rfl)
@[go_sem] theorem tsizes_nil : TyD.sizes [] = 0 := (rfl)
@[go_sem] theorem tsizes_cons (t : TyD) (r : List TyD) : TyD.sizes (t :: r) = t.size + TyD.sizes r := (rfl)
@[go_sem] theorem zero_int (k : IntKind) : (TyD.int k).zero = .int k 0 := (rfl)
@[go_sem] theorem zero_bool : TyD.bool.zero = .bool false := (rfl)
@[go_sem] theorem zero_str : TyD.str.zero = .str [] := (rfl)
@[go_sem] theorem zero_slice (e : LK) : (TyD.slice e).zero = .sl true e.empty := (rfl)
@[go_sem] theorem zero_ptr : TyD.ptr.zero = .nilp := (rfl)
@[go_sem] theorem zero_map (m : MK) : (TyD.map m).zero = .top := (rfl)
@[go_sem] theorem zero_func : TyD.func.zero = .nilfn := (rfl)
@[go_sem] theorem zero_arr (n : Nat) (e : LK) : (TyD.arr n e).zero = .arr (e.zeros n) := (rfl)
@[go_sem] theorem zero_strct (fs : List TyD) : (TyD.strct fs).zero = .agg (TyD.zeros fs) := (rfl)
@[go_sem] theorem zeros_nil : TyD.zeros [] = [] := (rfl)
@[go_sem] theorem zeros_cons (t : TyD) (r : List TyD) : TyD.zeros (t :: r) = t.zero :: TyD.zeros r := (rfl)
@[go_sem] theorem empty_int (k : IntKind) : (LK.int k).empty = .ints k [] := (rfl)
@[go_sem] theorem empty_bool : LK.bool.empty = .bools [] := (rfl)
@[go_sem] theorem empty_str : LK.str.empty = .strs [] := (rfl)
@[go_sem] theorem empty_pend : LK.pend.empty = .pends [] := (rfl)
@[go_sem] theorem empty_mic : LK.mic.empty = .mics [] := (rfl)
@[go_sem] theorem empty_rcd : LK.rcd.empty = .recs [] := (rfl)
@[go_sem] theorem empty_pair : LK.pair.empty = .pairs [] := (rfl)
@[go_sem] theorem empty_slot : LK.slot.empty = .slots [] := (rfl)
@[go_sem] theorem zeros_int (n : Nat) (k : IntKind) : (LK.int k).zeros n = .ints k (List.replicate n 0) := (rfl)
@[go_sem] theorem zeros_bool (n : Nat) : LK.bool.zeros n = .bools (List.replicate n false) := (rfl)
@[go_sem] theorem zeros_pend (n : Nat) : LK.pend.zeros n = .pends (List.replicate n ⟨0, 0, false⟩) := (rfl)
@[go_sem] theorem zeros_mic (n : Nat) : LK.mic.zeros n = .mics (List.replicate n ⟨0, 0, 0⟩) := (rfl)
@[go_sem] theorem zeros_slot (n : Nat) : LK.slot.zeros n = .slots (List.replicate n ⟨0, 0⟩) := (rfl)
@[go_sem] theorem zeros_rcd (n : Nat) : LK.rcd.zeros n = .recs (List.replicate n ⟨0, [], [], 0⟩) := (rfl)
@[go_sem] theorem zeros_pair (n : Nat) : LK.pair.zeros n = .pairs (List.replicate n ⟨[], []⟩) := (rfl)
@[go_sem] theorem zeros_str (n : Nat) : LK.str.zeros n = .strs (List.replicate n []) := (rfl)
@[go_sem] theorem lksize_int (k : IntKind) : (LK.int k).size = 1 := (rfl)
@[go_sem] theorem lksize_bool : LK.bool.size = 1 := (rfl)
@[go_sem] theorem lksize_str : LK.str.size = 1 := (rfl)
@[go_sem] theorem lksize_pend : LK.pend.size = 3 := (rfl)
@[go_sem] theorem lksize_mic : LK.mic.size = 3 := (rfl)
@[go_sem] theorem lksize_rcd : LK.rcd.size = 4 := (rfl)
@[go_sem] theorem lksize_pair : LK.pair.size = 2 := (rfl)
@[go_sem] theorem lksize_slot : LK.slot.size = 2 := (rfl)
variable (k : IntKind) (xs ys : List Int) (bs cs : List Bool) (ps qs : List Pend) (ms ns : List Mic) (rs ss : List RecT) (ts us : List PairT) (vs ws : List SlotT) (ys1 ys2 : List Bytes) (i n : Nat)
@[go_sem] theorem len_ints : (Lst.ints k xs).len = xs.length := (rfl)
@[go_sem] theorem len_bools : (Lst.bools bs).len = bs.length := (rfl)
@[go_sem] theorem len_strs : (Lst.strs ys1).len = ys1.length := (rfl)
@[go_sem] theorem len_pends : (Lst.pends ps).len = ps.length := (rfl)
@[go_sem] theorem len_mics : (Lst.mics ms).len = ms.length := (rfl)
@[go_sem] theorem len_recs : (Lst.recs rs).len = rs.length := (rfl)
@[go_sem] theorem len_pairs : (Lst.pairs ts).len = ts.length := (rfl)
@[go_sem] theorem len_slots : (Lst.slots vs).len = vs.length := (rfl)
@[go_sem] theorem kind_ints : (Lst.ints k xs).kind = .int k := (rfl)
@[go_sem] theorem kind_bools : (Lst.bools bs).kind = .bool := (rfl)
@[go_sem] theorem kind_strs : (Lst.strs ys1).kind = .str := (rfl)
@[go_sem] theorem kind_pends : (Lst.pends ps).kind = .pend := (rfl)
@[go_sem] theorem kind_mics : (Lst.mics ms).kind = .mic := (rfl)
@[go_sem] theorem kind_recs : (Lst.recs rs).kind = .rcd := (rfl)
@[go_sem] theorem kind_pairs : (Lst.pairs ts).kind = .pair := (rfl)
@[go_sem] theorem kind_slots : (Lst.slots vs).kind = .slot := (rfl)
@[go_sem] theorem nth_ints : (Lst.ints k xs).nth i = .int k (xs.getD i 0) := (rfl)
@[go_sem] theorem nth_bools : (Lst.bools bs).nth i = .bool (bs.getD i false) := (rfl)
@[go_sem] theorem nth_strs : (Lst.strs ys1).nth i = .str (ys1.getD i []) := (rfl)
@[go_sem] theorem nth_pends : (Lst.pends ps).nth i = .agg [.int .i64 (ps.getD i ⟨0, 0, false⟩).at_, .int .i64 (ps.getD i ⟨0, 0, false⟩).val, .bool (ps.getD i ⟨0, 0, false⟩).fl] := (rfl)
@[go_sem] theorem nth_mics : (Lst.mics ms).nth i = .agg [.int .i64 (ms.getD i ⟨0, 0, 0⟩).kind, .int .i64 (ms.getD i ⟨0, 0, 0⟩).at_, .int .i64 (ms.getD i ⟨0, 0, 0⟩).val] := (rfl)
@[go_sem] theorem nth_recs : (Lst.recs rs).nth i = .agg [.int .i64 (rs.getD i ⟨0, [], [], 0⟩).kind, .str (rs.getD i ⟨0, [], [], 0⟩).key, .str (rs.getD i ⟨0, [], [], 0⟩).val, .int .i64 (rs.getD i ⟨0, [], [], 0⟩).child] := (rfl)
@[go_sem] theorem nth_pairs : (Lst.pairs ts).nth i = .agg [.str (ts.getD i ⟨[], []⟩).key, .str (ts.getD i ⟨[], []⟩).val] := (rfl)
@[go_sem] theorem nth_slots : (Lst.slots vs).nth i = .agg [.int .i64 (vs.getD i ⟨0, 0⟩).at_, .int .i64 (vs.getD i ⟨0, 0⟩).val] := (rfl)
@[go_sem] theorem cut_ints : (Lst.ints k xs).cut i n = .ints k ((xs.drop i).take n) := (rfl)
@[go_sem] theorem cut_bools : (Lst.bools bs).cut i n = .bools ((bs.drop i).take n) := (rfl)
@[go_sem] theorem cut_strs : (Lst.strs ys1).cut i n = .strs ((ys1.drop i).take n) := (rfl)
@[go_sem] theorem cut_pends : (Lst.pends ps).cut i n = .pends ((ps.drop i).take n) := (rfl)
@[go_sem] theorem cut_mics : (Lst.mics ms).cut i n = .mics ((ms.drop i).take n) := (rfl)
@[go_sem] theorem cut_recs : (Lst.recs rs).cut i n = .recs ((rs.drop i).take n) := (rfl)
@[go_sem] theorem cut_pairs : (Lst.pairs ts).cut i n = .pairs ((ts.drop i).take n) := (rfl)
@[go_sem] theorem cut_slots : (Lst.slots vs).cut i n = .slots ((vs.drop i).take n) := (rfl)
@[go_sem] theorem app_ints : (Lst.ints k xs).app (.ints k ys) = some (.ints k (xs ++ ys)) := by simp [Lst.app]
@[go_sem] theorem app_bools : (Lst.bools bs).app (.bools cs) = some (.bools (bs ++ cs)) := (rfl)
@[go_sem] theorem app_strs : (Lst.strs ys1).app (.strs ys2) = some (.strs (ys1 ++ ys2)) := (rfl)
@[go_sem] theorem app_pends : (Lst.pends ps).app (.pends qs) = some (.pends (ps ++ qs)) := (rfl)
@[go_sem] theorem app_mics : (Lst.mics ms).app (.mics ns) = some (.mics (ms ++ ns)) := (rfl)
@[go_sem] theorem app_recs : (Lst.recs rs).app (.recs ss) = some (.recs (rs ++ ss)) := (rfl)
@[go_sem] theorem app_pairs : (Lst.pairs ts).app (.pairs us) = some (.pairs (ts ++ us)) := (rfl)
@[go_sem] theorem app_slots : (Lst.slots vs).app (.slots ws) = some (.slots (vs ++ ws)) := (rfl)
variable (a b : Int) (x y : Bytes) (p q : Bool)
@[go_sem] theorem set_ints : (Lst.ints k xs).set i (.int k a) = some (.ints k (xs.set i a)) := by simp [Lst.set]
@[go_sem] theorem set_bools : (Lst.bools bs).set i (.bool p) = some (.bools (bs.set i p)) := (rfl)
@[go_sem] theorem set_strs : (Lst.strs ys1).set i (.str x) = some (.strs (ys1.set i x)) := (rfl)
@[go_sem] theorem set_pends : (Lst.pends ps).set i (.agg [.int .i64 a, .int .i64 b, .bool p]) = some (.pends (ps.set i ⟨a, b, p⟩)) := (rfl)
@[go_sem] theorem set_mics (c : Int) : (Lst.mics ms).set i (.agg [.int .i64 a, .int .i64 b, .int .i64 c]) = some (.mics (ms.set i ⟨a, b, c⟩)) := (rfl)
@[go_sem] theorem set_recs : (Lst.recs rs).set i (.agg [.int .i64 a, .str x, .str y, .int .i64 b]) = some (.recs (rs.set i ⟨a, x, y, b⟩)) := (rfl)
@[go_sem] theorem set_pairs : (Lst.pairs ts).set i (.agg [.str x, .str y]) = some (.pairs (ts.set i ⟨x, y⟩)) := (rfl)
@[go_sem] theorem set_slots : (Lst.slots vs).set i (.agg [.int .i64 a, .int .i64 b]) = some (.slots (vs.set i ⟨a, b⟩)) := (rfl)
end lists

section ops
variable (k : IntKind) (a b : Int) (x y : Bytes) (p q : Bool) (h : List AObj) (op : BinOp) (vs ws : List AV) (l l' : Lst) (S : Prop)
@[go_sem] theorem at_nil (v : AV) : v.at_ [] = some v := by cases v <;> exact (rfl)
@[go_sem] theorem at_agg (i off : Nat) (ps : List PS) : (AV.agg vs).at_ (.f i off :: ps) = if AV.sizes (vs.take i) = off then (vs[i]?).bind fun v => v.at_ ps else none := (rfl)
@[go_sem] theorem setAt_nil (u v : AV) : u.setAt [] v = if u.size = v.size then some v else none := by cases u <;> exact (rfl)
@[go_sem] theorem setAt_agg (i off : Nat) (ps : List PS) (v : AV) : (AV.agg vs).setAt (.f i off :: ps) v = if AV.sizes (vs.take i) = off then (vs[i]?).bind fun u => (u.setAt ps v).map fun u' => .agg (vs.set i u') else none := (rfl)
@[go_sem] theorem binD_int (d : TyD) : binD d op (.int k a) (.int k b) = intBinD op k a b := by simp [binD]
@[go_sem] theorem binD_shl (d : TyD) (k' : IntKind) : binD d .shl (.int k a) (.int k' b) = intBinD .shl k a b := by simp [binD, isShift]
@[go_sem] theorem binD_shr (d : TyD) (k' : IntKind) : binD d .shr (.int k a) (.int k' b) = intBinD .shr k a b := by simp [binD, isShift]
@[go_sem] theorem binD_str (d : TyD) : binD d op (.str x) (.str y) = strBinD op x y := (rfl)
@[go_sem] theorem binD_bool (d : TyD) : binD d op (.bool p) (.bool q) = eqOpD op (AV.eqD d (.bool p) (.bool q)) := (rfl)
@[go_sem] theorem binD_agg (d : TyD) : binD d op (.agg vs) (.agg ws) = eqOpD op (AV.eqD d (.agg vs) (.agg ws)) := (rfl)
@[go_sem] theorem binD_arr (d : TyD) : binD d op (.arr l) (.arr l') = eqOpD op (AV.eqD d (.arr l) (.arr l')) := (rfl)
@[go_sem] theorem binD_nilfn (d : TyD) : binD d op .nilfn .nilfn = eqOpD op (AV.eqD d .nilfn .nilfn) := (rfl)
@[go_sem] theorem eqOpD_eql : eqOpD .eql (some p) = pD True (.bool p) := (rfl)
@[go_sem] theorem eqOpD_neq : eqOpD .neq (some p) = pD True (.bool (!p)) := (rfl)
@[go_sem] theorem eqD_int (k' : IntKind) : AV.eqD (.int k') (.int k a) (.int k b) = some (decide (a = b)) := by simp [AV.eqD, scalEq]
@[go_sem] theorem eqD_str : AV.eqD .str (.str x) (.str y) = some (decide (x = y)) := by simp [AV.eqD, scalEq]
@[go_sem] theorem eqD_bool : AV.eqD .bool (.bool p) (.bool q) = some (p == q) := by simp [AV.eqD, scalEq]
@[go_sem] theorem eqD_nilfn : AV.eqD .func .nilfn .nilfn = some true := by simp [AV.eqD, scalEq]
@[go_sem] theorem eqD_agg (fs : List TyD) : AV.eqD (.strct fs) (.agg vs) (.agg ws) = AV.eqsD fs vs ws := by simp [AV.eqD]
@[go_sem] theorem eqD_arr (n : Nat) (xs ys : List Int) : AV.eqD (.arr n (.int k)) (.arr (.ints k xs)) (.arr (.ints k ys)) = if xs.length = n ∧ ys.length = n then some (decide (xs = ys)) else none := by simp [AV.eqD, scalEq]
@[go_sem] theorem eqsD_nil : AV.eqsD [] [] [] = some true := by simp [AV.eqsD]
def bothO : Option Bool → Option Bool → Option Bool
  | some a, some b => some (a && b)
  | _, _ => none
@[go_sem] theorem eqsD_cons (d : TyD) (ds : List TyD) (v w : AV) (r r' : List AV) : AV.eqsD (d :: ds) (v :: r) (w :: r') = bothO (AV.eqD d v w) (AV.eqsD ds r r') := by
  simp only [AV.eqsD]; cases AV.eqD d v w <;> cases AV.eqsD ds r r' <;> rfl
@[go_sem] theorem bothO_some : bothO (some p) (some q) = some (p && q) := (rfl)
@[go_sem] theorem ib_add : intBinD .add k a b = pD True (.int k (k.wrap (a + b))) := (rfl)
@[go_sem] theorem ib_sub : intBinD .sub k a b = pD True (.int k (k.wrap (a - b))) := (rfl)
@[go_sem] theorem ib_mul : intBinD .mul k a b = pD True (.int k (k.wrap (a * b))) := (rfl)
@[go_sem] theorem ib_quo : intBinD .quo k a b = pD (b ≠ 0) (.int k (k.wrap (a.tdiv b))) := (rfl)
@[go_sem] theorem ib_rem : intBinD .rem k a b = pD (b ≠ 0) (.int k (a.tmod b)) := (rfl)
@[go_sem] theorem ib_and : intBinD .and k a b = pD True (.int k (andI k a b)) := (rfl)
@[go_sem] theorem ib_or : intBinD .or k a b = pD True (.int k (orI k a b)) := (rfl)
@[go_sem] theorem ib_xor : intBinD .xor k a b = pD True (.int k (xorI k a b)) := (rfl)
@[go_sem] theorem ib_andNot : intBinD .andNot k a b = pD True (.int k (andNotI k a b)) := (rfl)
@[go_sem] theorem ib_shl : intBinD .shl k a b = pD (0 ≤ b) (.int k (k.wrap (a * 2 ^ (min b.toNat k.bits)))) := (rfl)
@[go_sem] theorem ib_shr : intBinD .shr k a b = pD (0 ≤ b) (.int k (a.fdiv (2 ^ (min b.toNat k.bits)))) := (rfl)
@[go_sem] theorem ib_eql : intBinD .eql k a b = pD True (.bool (decide (a = b))) := (rfl)
@[go_sem] theorem ib_neq : intBinD .neq k a b = pD True (.bool (!decide (a = b))) := (rfl)
@[go_sem] theorem ib_lss : intBinD .lss k a b = pD True (.bool (decide (a < b))) := (rfl)
@[go_sem] theorem ib_leq : intBinD .leq k a b = pD True (.bool (decide (a ≤ b))) := (rfl)
@[go_sem] theorem ib_gtr : intBinD .gtr k a b = pD True (.bool (decide (b < a))) := (rfl)
@[go_sem] theorem ib_geq : intBinD .geq k a b = pD True (.bool (decide (b ≤ a))) := (rfl)
@[go_sem] theorem sb_add : strBinD .add x y = pD (x.length + y.length ≤ 1099511627776) (.str (x ++ y)) := (rfl)
@[go_sem] theorem sb_eql : strBinD .eql x y = pD True (.bool (decide (x = y))) := (rfl)
@[go_sem] theorem sb_neq : strBinD .neq x y = pD True (.bool (!decide (x = y))) := (rfl)
@[go_sem] theorem sb_lss : strBinD .lss x y = pD True (.bool (ltB x y)) := (rfl)
@[go_sem] theorem sb_gtr : strBinD .gtr x y = pD True (.bool (ltB y x)) := (rfl)
@[go_sem] theorem sb_leq : strBinD .leq x y = pD True (.bool (!ltB y x)) := (rfl)
@[go_sem] theorem sb_geq : strBinD .geq x y = pD True (.bool (!ltB x y)) := (rfl)
@[go_sem] theorem listO_row (rk : RK) (ver ver' off len : Nat) : listO (some (.row rk ver' l)) ver off len = if ver = ver' then some (l.cut off len) else none := (rfl)
@[go_sem] theorem list_sl (x : Bool) : (AV.sl x l).list h = some l := (rfl)
@[go_sem] theorem list_sref (x : Bool) (id ver off len : Nat) : (AV.sref x id ver off len).list h = listO (h[id]?) ver off len := (rfl)
@[go_sem] theorem lenO_row (rk : RK) (ver ver' len : Nat) : lenO (some (.row rk ver' l)) ver len = if ver = ver' then some len else none := (rfl)
@[go_sem] theorem avlen_sl (e : LK) (x : Bool) : (AV.sl x l).len (.slice e) h = some l.len := (rfl)
@[go_sem] theorem avlen_sref (e : LK) (x : Bool) (id ver off len : Nat) : (AV.sref x id ver off len).len (.slice e) h = lenO (h[id]?) ver len := (rfl)
@[go_sem] theorem avlen_str : (AV.str x).len .str h = some x.length := (rfl)
@[go_sem] theorem avlen_arr (n : Nat) (e : LK) (v : AV) : v.len (.arr n e) h = some n := (rfl)
@[go_sem] theorem lenD_eq (d : TyD) (v : AV) : lenD d h v = someD (v.len d h) fun n => pD True (.int .i64 n) := (rfl)
@[go_sem] theorem slc_slice (e : LK) : (TyD.slice e).slc = true := (rfl)
@[go_sem] theorem isSlice_slice (e e' : LK) : (TyD.slice e).isSlice e' = decide (e = e') := (rfl)
@[go_sem] theorem isArr_arr (n m : Nat) (e e' : LK) : (TyD.arr n e).isArr m e' = (decide (n = m) && decide (e = e')) := (rfl)
@[go_sem] theorem isStr_str : TyD.str.isStr = true := (rfl)
@[go_sem] theorem rowKind_row (rk : RK) (ver : Nat) : rowKind (some (.row rk ver l)) = some l.kind := (rfl)
@[go_sem] theorem fitsRow_slice (e e' : LK) : (TyD.slice e).fitsRow (some e') = decide (e = e') := (rfl)
@[go_sem] theorem verB_row (rk : RK) (ver ver' : Nat) : verB (some (.row rk ver' l)) ver = decide (ver = ver') := (rfl)
@[go_sem] theorem isMap_ib : (TyD.map .ib).isMap .ib = true := (rfl)
@[go_sem] theorem isMap_ii : (TyD.map .ii).isMap .ii = true := (rfl)
@[go_sem] theorem isMap_sb : (TyD.map .sb).isMap .sb = true := (rfl)
@[go_sem] theorem isMap_ifn : (TyD.map .ifn).isMap .ifn = true := (rfl)
@[go_sem] theorem known_int : (TyD.int k).known = true := (rfl)
@[go_sem] theorem known_bool : TyD.bool.known = true := (rfl)
@[go_sem] theorem known_str : TyD.str.known = true := (rfl)
@[go_sem] theorem known_strct (fs : List TyD) : (TyD.strct fs).known = true := (rfl)
@[go_sem] theorem loadD_ptr (id : Nat) (ps : List PS) : loadD h (.ptr id ps) = loadO (h[id]?) ps := (rfl)
@[go_sem] theorem loadD_ep (i : Nat) (fs : List PS) : loadD h (.ep l i fs) = someD ((l.nth i).at_ fs) fun v => pD True v := (rfl)
@[go_sem] theorem loadO_box (v : AV) (ps : List PS) : loadO (some (.box v)) ps = someD (v.at_ ps) fun u => pD True u := (rfl)
@[go_sem] theorem loadO_arr (ver : Nat) : loadO (some (.row .arr ver l)) [] = pD True (.arr l) := (rfl)
@[go_sem] theorem loadO_row_i (rk : RK) (ver v i sz : Nat) (ps : List PS) : loadO (some (.row rk ver l)) (.i v i sz :: ps) = if v = ver ∧ sz = l.kind.size then someD ((l.nth i).at_ ps) fun v => pD (i < l.len) v else none := by cases rk <;> rfl
@[go_sem] theorem storeH_ptr (d : TyD) (id : Nat) (ps : List PS) (v : AV) : storeH d h (.ptr id ps) v = (storeO (h[id]?) ps v).map fun r => (r.1 ∧ fitP d v, id, r.2) := by
  show (match storeO (h[id]?) ps v with | some (S, o) => some (S ∧ fitP d v, id, o) | none => none) = _
  cases storeO (h[id]?) ps v <;> rfl
@[go_sem] theorem storeO_box (u v : AV) (ps : List PS) : storeO (some (.box u)) ps v = (u.setAt ps v).map fun u' => (True, .box u') := by
  show (match u.setAt ps v with | some u' => some (True, AObj.box u') | none => none) = _
  cases u.setAt ps v <;> rfl
@[go_sem] theorem storeO_arr (ver : Nat) : storeO (some (.row .arr ver l)) [] (.arr l') = if l'.kind = l.kind then some (l'.len = l.len, .row .arr ver l') else none := (rfl)
theorem storeO_row_i (rk : RK) (hk : rk ≠ .fro) (ver vr i sz : Nat) (ps : List PS) (v : AV) : storeO (some (.row rk ver l)) (.i vr i sz :: ps) v = if vr = ver ∧ sz = l.kind.size then ((l.nth i).setAt ps v).bind fun u => (l.set i u).map fun l' => (i < l.len, .row rk ver l') else none := by
  have : storeO (some (.row rk ver l)) (.i vr i sz :: ps) v = if vr = ver ∧ sz = l.kind.size ∧ rk ≠ .fro then (match (l.nth i).setAt ps v with
        | some u => match l.set i u with
          | some l' => some (i < l.len, AObj.row rk ver l')
          | none => none
        | none => none) else none := by cases rk <;> rfl
  rw [this]
  have e : (vr = ver ∧ sz = l.kind.size ∧ rk ≠ .fro) ↔ (vr = ver ∧ sz = l.kind.size) := by simp [hk]
  simp only [e]
  congr 1
  cases (l.nth i).setAt ps v with
  | none => rfl
  | some u => show (match l.set i u with | some l' => some (i < l.len, AObj.row rk ver l') | none => none) = _; cases h0 : l.set i u <;> simp [h0]
@[go_sem] theorem storeO_own_i (ver vr i sz : Nat) (ps : List PS) (v : AV) : storeO (some (.row .own ver l)) (.i vr i sz :: ps) v = if vr = ver ∧ sz = l.kind.size then ((l.nth i).setAt ps v).bind fun u => (l.set i u).map fun l' => (i < l.len, .row .own ver l') else none := storeO_row_i l _ (by simp) _ _ _ _ _ _
@[go_sem] theorem storeO_arr_i (ver vr i sz : Nat) (ps : List PS) (v : AV) : storeO (some (.row .arr ver l)) (.i vr i sz :: ps) v = if vr = ver ∧ sz = l.kind.size then ((l.nth i).setAt ps v).bind fun u => (l.set i u).map fun l' => (i < l.len, .row .arr ver l') else none := storeO_row_i l _ (by simp) _ _ _ _ _ _
@[go_sem] theorem mapSetH_map (d : TyD) (id : Nat) (kk v : AV) : mapSetH d h (.map id) kk v = (mapSetO d (h[id]?) kk v).map fun m => (True, id, .map m) := by
  show (match mapSetO d (h[id]?) kk v with | some m => some (True, id, AObj.map m) | none => none) = _
  cases mapSetO d (h[id]?) kk v <;> rfl
@[go_sem] theorem mapSetO_ib (m : Int → Bool) : mapSetO (.map .ib) (some (.map (.ib m))) (.int .i64 a) (.bool p) = some (.ib fun j => if j = a then p else m j) := (rfl)
@[go_sem] theorem mapSetO_ii (m : Int → Int) : mapSetO (.map .ii) (some (.map (.ii m))) (.int .i64 a) (.int .i64 b) = some (.ii fun j => if j = a then b else m j) := (rfl)
@[go_sem] theorem mapSetO_ifn (m : Int → Option FuncId) (f : FuncId) : mapSetO (.map .ifn) (some (.map (.ifn m))) (.int .i64 a) (.fn (.func f) [] []) = some (.ifn fun j => if j = a then some f else m j) := (rfl)
@[go_sem] theorem mapSetO_sb (m : Bytes → Bool) : mapSetO (.map .sb) (some (.map (.sb m))) (.str x) (.bool p) = some (.sb fun j => if j = x then p else m j) := (rfl)
@[go_sem] theorem lookupD_map (d : TyD) (id : Nat) (kk : AV) : lookupD d h (.map id) kk = lookupO d (h[id]?) kk := (rfl)
@[go_sem] theorem lookupO_ib (m : Int → Bool) : lookupO (.map .ib) (some (.map (.ib m))) (.int .i64 a) = pD True (.bool (m a)) := (rfl)
@[go_sem] theorem lookupO_ii (m : Int → Int) : lookupO (.map .ii) (some (.map (.ii m))) (.int .i64 a) = pD True (.int .i64 (m a)) := (rfl)
@[go_sem] theorem lookupO_ifn (m : Int → Option FuncId) : lookupO (.map .ifn) (some (.map (.ifn m))) (.int .i64 a) = pD True (fnOpt (m a)) := (rfl)
@[go_sem] theorem lookupO_sb (m : Bytes → Bool) : lookupO (.map .sb) (some (.map (.sb m))) (.str x) = pD True (.bool (m x)) := (rfl)
@[go_sem] theorem fnOpt_some (f : FuncId) : fnOpt (some f) = .fn (.func f) [] [] := (rfl)
@[go_sem] theorem appendW_sl (d : TyD) (e : LK) (s x : AV) (K : AV → List AObj → Prop) : appendW d (.slice e) s x h K = runDM (appendD d h s x h.length) (appendH d h s x) h K := (rfl)
@[go_sem] theorem appendW_int (d : TyD) (kk : IntKind) (s : AV) (n : Int) (K : AV → List AObj → Prop) : appendW d (.int kk) s (.int .i64 n) h K = ((0 ≤ n ∧ n ≤ 1099511627776) ∧ runDM (appendD d h s (zeroSl d n) h.length) (appendH d h s (zeroSl d n)) h K) := (rfl)
@[go_sem] theorem zeroSl_slice (e : LK) (n : Int) : zeroSl (.slice e) n = .sl true (e.zeros n.toNat) := (rfl)
@[go_sem] theorem appendD_ex (d : TyD) (xs : Lst) (v : AV) (n : Nat) : appendD d h (.sl true xs) v n = whenD (d.isSlice xs.kind) (someD (v.list h) fun ys => appendExD xs ys n) := (rfl)
@[go_sem] theorem ite_or_false {α : Type} (p : Prop) [Decidable p] (A B : α) : (if p ∨ False then A else B) = if p then A else B := by
  by_cases h : p <;> simp [h]
@[go_sem] theorem ite_or_true {α : Type} (p : Prop) [Decidable p] (A B : α) : (if p ∨ True then A else B) = A := by simp
@[go_sem] theorem ite_is_false {α : Type} (A B : α) : (if False then A else B) = B := by simp
@[go_sem] theorem appendD_rx (d : TyD) (v : AV) (n id ver off len : Nat) : appendD d h (.sref true id ver off len) v n = if len = 0 ∨ ownRow (h[id]?) = false then whenD (d.fitsRow (rowKind (h[id]?))) (someD (listO (h[id]?) ver off len) fun xs => someD (v.list h) fun ys => appendExD xs ys n) else none := (rfl)
@[go_sem] theorem ownRow_own (ver : Nat) (l : Lst) : ownRow (some (.row .own ver l)) = true := (rfl)
@[go_sem] theorem ownRow_arr (ver : Nat) (l : Lst) : ownRow (some (.row .arr ver l)) = false := (rfl)
@[go_sem] theorem ownRow_fro (ver : Nat) (l : Lst) : ownRow (some (.row .fro ver l)) = false := (rfl)
@[go_sem] theorem ownRow_box (v : AV) : ownRow (some (.box v)) = false := (rfl)
@[go_sem] theorem appendD_ro (d : TyD) (v : AV) (n id ver off len : Nat) : appendD d h (.sref false id ver off len) v n = none := (rfl)
@[go_sem] theorem appendExD_eq (xs ys : Lst) (s : Nat) : appendExD xs ys s = someD (xs.app ys) fun zs => some ((0 < ys.len ∨ xs.len = 0) ∧ roomy zs.len, .sref false s 0 0 zs.len, [.row .own 0 zs]) := (rfl)
@[go_sem] theorem appendH_ro (d : TyD) (v : AV) (id ver off len : Nat) : appendH d h (.sref false id ver off len) v = if d.fitsRow (rowKind (h[id]?)) = true then appendO (h[id]?) id ver off len (v.list h) else none := (rfl)
@[go_sem] theorem appendH_rx (d : TyD) (v : AV) (id ver off len : Nat) : appendH d h (.sref true id ver off len) v = if d.fitsRow (rowKind (h[id]?)) = true then appendO (h[id]?) id ver off len (v.list h) else none := (rfl)
@[go_sem] theorem appendO_row (ver ver' id off len : Nat) (ys : Lst) : appendO (some (.row .own ver' l)) id ver off len (some ys) =
    if ver = ver' then (l.app ys).map fun zs => (off = 0 ∧ len = l.len ∧ roomy zs.len, .sref false id (ver + 1) 0 zs.len, id, .row .own (ver + 1) zs) else none := by
  show (if ver = ver' then (match l.app ys with
      | some zs => some (off = 0 ∧ len = l.len ∧ roomy zs.len, AV.sref false id (ver + 1) 0 zs.len, id, AObj.row .own (ver + 1) zs)
      | none => none) else none) = _
  congr 1; cases l.app ys <;> rfl
@[go_sem] theorem copyH_eq (d : TyD) (x : Bool) (id ver off len : Nat) (s : AV) : copyH d h (.sref x id ver off len) s = if d.fitsRow (rowKind (h[id]?)) = true then copyO (h[id]?) id ver off len (s.list h) else none := (rfl)
theorem copyO_row (rk : RK) (hk : rk ≠ .fro) (ver ver' id off len : Nat) (ys : Lst) : copyO (some (.row rk ver' l)) id ver off len (some ys) =
    if ver = ver' then (l.over off len ys).map fun l' => (True, .int .i64 (min len ys.len : Nat), id, .row rk ver' l') else none := by
  show (if ver = ver' ∧ rk ≠ .fro then (match l.over off len ys with
      | some l' => some (True, AV.int .i64 (min len ys.len : Nat), id, AObj.row rk ver' l')
      | none => none) else none) = _
  have e : (ver = ver' ∧ rk ≠ .fro) ↔ ver = ver' := by simp [hk]
  simp only [e]
  congr 1; cases l.over off len ys <;> rfl
@[go_sem] theorem copyO_own (ver ver' id off len : Nat) (ys : Lst) : copyO (some (.row .own ver' l)) id ver off len (some ys) =
    if ver = ver' then (l.over off len ys).map fun l' => (True, .int .i64 (min len ys.len : Nat), id, .row .own ver' l') else none := copyO_row l _ (by simp) _ _ _ _ _ _
@[go_sem] theorem copyO_arr (ver ver' id off len : Nat) (ys : Lst) : copyO (some (.row .arr ver' l)) id ver off len (some ys) =
    if ver = ver' then (l.over off len ys).map fun l' => (True, .int .i64 (min len ys.len : Nat), id, .row .arr ver' l') else none := copyO_row l _ (by simp) _ _ _ _ _ _
@[go_sem] theorem over_ints (xs ys : List Int) (off len : Nat) : (Lst.ints k xs).over off len (.ints k ys) =
    some (.ints k (xs.take off ++ ys.take len ++ (xs.drop (off + min len ys.length)).take (xs.length - (off + min len ys.length)))) := by
  simp [Lst.over, Lst.cut, Lst.app, Lst.len]
@[go_sem] theorem indexAddrD_sl (d : TyD) (x : Bool) (k : IntKind) : indexAddrD d h (.sl x l) (.int k a) = whenD (d.isSlice l.kind) (pD (0 ≤ a ∧ a < l.len) (.ep l a.toNat [])) := (rfl)
@[go_sem] theorem indexAddrD_sref (d : TyD) (x : Bool) (id ver off len : Nat) (k : IntKind) : indexAddrD d h (.sref x id ver off len) (.int k a) = indexArrO (h[id]?) d id ver off len a := (rfl)
@[go_sem] theorem indexAddrD_ptr (d : TyD) (id : Nat) (k : IntKind) : indexAddrD d h (.ptr id []) (.int k a) = indexPtrO (h[id]?) d id a := (rfl)
@[go_sem] theorem indexArrO_row (d : TyD) (rk : RK) (ver ver' id off len : Nat) : indexArrO (some (.row rk ver' l)) d id ver off len a = whenD (d.isSlice l.kind) (if ver = ver' then pD (0 ≤ a ∧ a < len) (.ptr id [.i ver (off + a.toNat) l.kind.size]) else none) := (rfl)
@[go_sem] theorem indexPtrO_arr (d : TyD) (ver id : Nat) : indexPtrO (some (.row .arr ver l)) d id a = whenD (d.isArr l.len l.kind) (pD (0 ≤ a ∧ a < l.len) (.ptr id [.i ver a.toNat l.kind.size])) := (rfl)
@[go_sem] theorem indexD_str (k : IntKind) : indexD .str (.str x) (.int k a) = pD (0 ≤ a ∧ a < x.length) (.int .u8 (x.getD a.toNat 0).toNat) := (rfl)
@[go_sem] theorem indexD_arr (d : TyD) (k : IntKind) : indexD d (.arr l) (.int k a) = whenD (d.isArr l.len l.kind) (pD (0 ≤ a ∧ a < l.len) (l.nth a.toNat)) := (rfl)
@[go_sem] theorem unD_not : unD .not (.bool p) = pD True (.bool (!p)) := (rfl)
@[go_sem] theorem unD_neg : unD .neg (.int k a) = pD True (.int k (k.wrap (0 - a))) := (rfl)
@[go_sem] theorem unD_xor : unD .xor (.int k a) = pD True (.int k (notI k a)) := (rfl)
@[go_sem] theorem convD_int (k1 k' k2 : IntKind) : convD h (.int k1) (.int k') (.int k2 a) = pD True (.int k' (k'.wrap a)) := (rfl)
@[go_sem] theorem convD_str : convD h .str .str (.str x) = pD True (.str x) := (rfl)
@[go_sem] theorem convD_sl (x : Bool) : convD h (.slice (.int .u8)) .str (.sl x l) = bytesD (some l) := (rfl)
@[go_sem] theorem convD_sref (x : Bool) (id ver off len : Nat) : convD h (.slice (.int .u8)) .str (.sref x id ver off len) = bytesD (listO (h[id]?) ver off len) := (rfl)
@[go_sem] theorem bytesD_some (xs : List Int) : bytesD (some (.ints .u8 xs)) = pD True (.str (xs.map fun n => UInt8.ofNat n.toNat)) := (rfl)
@[go_sem] theorem fieldD_eq (fs : List TyD) (f : Nat) : fieldD (.strct fs) (.agg vs) f = if AV.sizes (vs.take f) = TyD.sizes (fs.take f) ∧ f < fs.length ∧ f < vs.length then pD (fitP (fs.getD f .other) (vs.getD f .top)) (vs.getD f .top) else none := (rfl)
@[go_sem] theorem fieldAddrD_ptr (fs : List TyD) (id f : Nat) (ps : List PS) : fieldAddrD (.strct fs) (.ptr id ps) f = if f < fs.length then pD True (.ptr id (ps ++ [.f f (TyD.sizes (fs.take f))])) else none := (rfl)
@[go_sem] theorem fieldAddrD_ep (fs : List TyD) (i f : Nat) (ps : List PS) : fieldAddrD (.strct fs) (.ep l i ps) f = if f < fs.length then pD True (.ep l i (ps ++ [.f f (TyD.sizes (fs.take f))])) else none := (rfl)
@[go_sem] theorem makeSliceD_eq (e : LK) (s : Nat) : makeSliceD (.slice e) (.int .i64 a) (.int .i64 b) s = some (0 ≤ a ∧ a ≤ b ∧ roomy b.toNat, .sref (decide (a = b)) s 0 0 a.toNat, [.row .own 0 (e.zeros a.toNat)]) := (rfl)
@[go_sem] theorem makeMapD_ib (s : Nat) : makeMapD (.map .ib) s = some (True, .map s, [.map (.ib fun _ => false)]) := (rfl)
@[go_sem] theorem makeMapD_ii (s : Nat) : makeMapD (.map .ii) s = some (True, .map s, [.map (.ii fun _ => 0)]) := (rfl)
@[go_sem] theorem makeMapD_sb (s : Nat) : makeMapD (.map .sb) s = some (True, .map s, [.map (.sb fun _ => false)]) := (rfl)
@[go_sem] theorem makeMapD_ifn (s : Nat) : makeMapD (.map .ifn) s = some (True, .map s, [.map (.ifn fun _ => none)]) := (rfl)
@[go_sem] theorem nilCheckD_ptr (id : Nat) (ps : List PS) : nilCheckD (.ptr id ps) = pD True (.ptr id ps) := (rfl)
@[go_sem] theorem nilCheckD_ep (i : Nat) (ps : List PS) : nilCheckD (.ep l i ps) = pD True (.ep l i ps) := (rfl)
@[go_sem] theorem extractD_eq (i : Nat) : extractD (.tup vs) i = if i < vs.length then pD True (vs.getD i .top) else none := (rfl)
@[go_sem] theorem pickD_true (v w : AV) : pickD (.bool true) v w = pD True v := (rfl)
@[go_sem] theorem pickD_false (v w : AV) : pickD (.bool false) v w = pD True w := (rfl)
@[go_sem] theorem minD_int : minD (.int k a) (.int k b) = pD True (.int k (if b < a then b else a)) := by simp [minD]
@[go_sem] theorem maxD_int : maxD (.int k a) (.int k b) = pD True (.int k (if b > a then b else a)) := by simp [maxD]
@[go_sem] theorem maxD_str' : maxD (.str x) (.str y) = pD True (.str (if ltB x y then y else x)) := (rfl)
@[go_sem] theorem buildD_strct (fs : List TyD) (parts : List (Nat × AV)) : buildD (.strct fs) parts = someD (fillAgg (TyD.zeros fs) parts) fun vs => pD True (.agg vs) := (rfl)
@[go_sem] theorem buildD_arr (n : Nat) (e : LK) (parts : List (Nat × AV)) : buildD (.arr n e) parts = someD (fillLst (e.zeros n) parts) fun l => pD True (.arr l) := (rfl)
@[go_sem] theorem buildSliceD_eq (e : LK) (n s : Nat) (parts : List (Nat × AV)) : buildSliceD (.slice e) n parts s = someD (fillLst (e.zeros n) parts) fun l => some (n ≤ 1048576, .sref true s 0 0 n, [.row .own 0 l]) := (rfl)
@[go_sem] theorem fillAgg_nil : fillAgg vs [] = some vs := (rfl)
@[go_sem] theorem fillAgg_cons (i : Nat) (v : AV) (r : List (Nat × AV)) : fillAgg vs ((i, v) :: r) = if i < vs.length ∧ (vs.getD i .top).size = v.size ∧ v.solid = true then fillAgg (vs.set i v) r else none := (rfl)
@[go_sem] theorem fillLst_nil : fillLst l [] = some l := (rfl)
@[go_sem] theorem fillLst_cons (i : Nat) (v : AV) (r : List (Nat × AV)) : fillLst l ((i, v) :: r) = if i < l.len then (l.set i v).bind fun l' => fillLst l' r else none := by
  show (if i < l.len then (match l.set i v with | some l' => fillLst l' r | none => none) else none) = _
  congr 1; cases l.set i v <;> rfl
@[go_sem] theorem boxO_arr : boxO (.arr l) = .row .arr 0 l := (rfl)
@[go_sem] theorem boxO_int : boxO (.int k a) = .box (.int k a) := (rfl)
@[go_sem] theorem boxO_bool : boxO (.bool p) = .box (.bool p) := (rfl)
@[go_sem] theorem boxO_str : boxO (.str x) = .box (.str x) := (rfl)
@[go_sem] theorem boxO_agg : boxO (.agg vs) = .box (.agg vs) := (rfl)
@[go_sem] theorem boxO_sl (x : Bool) : boxO (.sl x l) = .box (.sl x l) := (rfl)
@[go_sem] theorem boxO_sref (x : Bool) (id ver off len : Nat) : boxO (.sref x id ver off len) = .box (.sref x id ver off len) := (rfl)
@[go_sem] theorem boxO_ptr (id : Nat) (ps : List PS) : boxO (.ptr id ps) = .box (.ptr id ps) := (rfl)
@[go_sem] theorem boxO_map (id : Nat) : boxO (.map id) = .box (.map id) := (rfl)
@[go_sem] theorem boxO_nilp : boxO .nilp = .box .nilp := (rfl)
@[go_sem] theorem boxO_top : boxO .top = .box .top := (rfl)
@[go_sem] theorem boxO_fn (f : Fn) : boxO (.fn f vs ws) = .box (.fn f vs ws) := (rfl)
@[go_sem] theorem boxO_nilfn : boxO .nilfn = .box .nilfn := (rfl)
@[go_sem] theorem fitD_p (d : TyD) (v : AV) : fitD d (pD S v) = pD (S ∧ fitP d v) v := (rfl)
@[go_sem] theorem fitP_strct (fs : List TyD) : fitP (.strct fs) (.agg vs) = (AV.sizes vs = TyD.sizes fs) := (rfl)
@[go_sem] theorem fitP_arr (n : Nat) (e : LK) : fitP (.arr n e) (.arr l) = (l.len = n ∧ l.kind = e) := (rfl)
@[go_sem] theorem fitP_int (k' : IntKind) : fitP (.int k') (.int k a) = True := (rfl)
@[go_sem] theorem fitP_bool : fitP .bool (.bool p) = True := (rfl)
@[go_sem] theorem fitP_str : fitP .str (.str x) = True := (rfl)
@[go_sem] theorem fitP_sl (e : LK) (x : Bool) : fitP (.slice e) (.sl x l) = True := (rfl)
@[go_sem] theorem fitP_sref (e : LK) (x : Bool) (id ver off len : Nat) : fitP (.slice e) (.sref x id ver off len) = True := (rfl)
@[go_sem] theorem fitP_ptr (id : Nat) (ps : List PS) : fitP .ptr (.ptr id ps) = True := (rfl)
@[go_sem] theorem fitP_nilp : fitP .ptr .nilp = True := (rfl)
@[go_sem] theorem fitP_ep (i : Nat) (ps : List PS) : fitP .ptr (.ep l i ps) = True := (rfl)
@[go_sem] theorem fitP_map (m : MK) (id : Nat) : fitP (.map m) (.map id) = True := (rfl)
@[go_sem] theorem fitP_fn (f : Fn) : fitP .func (.fn f vs ws) = True := (rfl)
@[go_sem] theorem fitP_nilfn : fitP .func .nilfn = True := (rfl)
end ops

section slices
variable (h : List AObj) (x : Bool) (l : Lst) (s : Bytes) (a b c : Int) (k k' k'' : IntKind) (id ver off len : Nat) (lo hi mx : Option AV)
variable (d : TyD)
@[go_sem] theorem slice_s1 : sliceD .str h (.str s) none (some (.int k b)) none = pD (0 ≤ b ∧ b ≤ s.length) (.str (s.take b.toNat)) := (rfl)
@[go_sem] theorem slice_s2 : sliceD .str h (.str s) (some (.int k a)) none none = pD (0 ≤ a ∧ a ≤ s.length) (.str (s.drop a.toNat)) := (rfl)
@[go_sem] theorem slice_s3 : sliceD .str h (.str s) (some (.int k a)) (some (.int k' b)) none = pD (0 ≤ a ∧ a ≤ b ∧ b ≤ s.length) (.str ((s.drop a.toNat).take (b.toNat - a.toNat))) := (rfl)
@[go_sem] theorem slice_l0 : sliceD d h (.sl x l) none none none = whenD (d.isSlice l.kind) (pD True (.sl x l)) := (rfl)
@[go_sem] theorem slice_l1 : sliceD d h (.sl x l) none (some (.int k b)) none = whenD (d.isSlice l.kind) (pD (0 ≤ b ∧ b ≤ l.len) (.sl false (l.cut 0 b.toNat))) := (rfl)
@[go_sem] theorem slice_l2 : sliceD d h (.sl x l) (some (.int k a)) none none = whenD (d.isSlice l.kind) (pD (0 ≤ a ∧ a ≤ l.len) (.sl x (l.cut a.toNat (l.len - a.toNat)))) := (rfl)
@[go_sem] theorem slice_l3 : sliceD d h (.sl x l) (some (.int k a)) (some (.int k' b)) none = whenD (d.isSlice l.kind) (pD (0 ≤ a ∧ a ≤ b ∧ b ≤ l.len) (.sl false (l.cut a.toNat (b.toNat - a.toNat)))) := (rfl)
@[go_sem] theorem slice_l4 : sliceD d h (.sl x l) none (some (.int k' b)) (some (.int k'' c)) = whenD (d.isSlice l.kind) (pD (0 ≤ b ∧ b ≤ l.len ∧ b = c) (.sl true (l.cut 0 b.toNat))) := (rfl)
@[go_sem] theorem slice_l5 : sliceD d h (.sl x l) (some (.int k a)) (some (.int k' b)) (some (.int k'' c)) = whenD (d.isSlice l.kind) (pD (0 ≤ a ∧ a ≤ b ∧ b ≤ l.len ∧ b = c) (.sl true (l.cut a.toNat (b.toNat - a.toNat)))) := (rfl)
theorem slice_r : sliceD d h (.sref x id ver off len) lo hi mx = whenD (d.fitsRow (rowKind (h[id]?))) (whenD (verB (h[id]?) ver) (sliceSrD x id ver off len lo hi mx)) := (rfl)
@[go_sem] theorem slice_r1 : sliceD d h (.sref x id ver off len) none (some (.int k b)) none = whenD (d.fitsRow (rowKind (h[id]?))) (whenD (verB (h[id]?) ver) (pD (0 ≤ b ∧ b ≤ len) (.sref false id ver off b.toNat))) := by
  simp [sliceD, sliceSrD]
@[go_sem] theorem slice_r2 : sliceD d h (.sref x id ver off len) (some (.int k a)) none none = whenD (d.fitsRow (rowKind (h[id]?))) (whenD (verB (h[id]?) ver) (pD (0 ≤ a ∧ a ≤ len) (.sref x id ver (off + a.toNat) (len - a.toNat)))) := by
  simp [sliceD, sliceSrD]
@[go_sem] theorem slice_r3 : sliceD d h (.sref x id ver off len) (some (.int k a)) (some (.int k' b)) none = whenD (d.fitsRow (rowKind (h[id]?))) (whenD (verB (h[id]?) ver) (pD (0 ≤ a ∧ a ≤ b ∧ b ≤ len) (.sref false id ver (off + a.toNat) (b.toNat - a.toNat)))) := by
  simp [sliceD, sliceSrD]
@[go_sem] theorem slice_r4 : sliceD d h (.sref x id ver off len) none (some (.int k' b)) (some (.int k'' c)) = whenD (d.fitsRow (rowKind (h[id]?))) (whenD (verB (h[id]?) ver) (pD (0 ≤ b ∧ b ≤ len ∧ b = c) (.sref true id ver off b.toNat))) := by
  simp [sliceD, sliceSrD]
@[go_sem] theorem slice_r5 : sliceD d h (.sref x id ver off len) (some (.int k a)) (some (.int k' b)) (some (.int k'' c)) = whenD (d.fitsRow (rowKind (h[id]?))) (whenD (verB (h[id]?) ver) (pD (0 ≤ a ∧ a ≤ b ∧ b ≤ len ∧ b = c) (.sref true id ver (off + a.toNat) (b.toNat - a.toNat)))) := by
  simp [sliceD, sliceSrD]
@[go_sem] theorem slice_p (lo hi mx : Option AV) : sliceD d h (.ptr id []) lo hi mx = sliceArrD (h[id]?) id d lo hi mx := (rfl)
@[go_sem] theorem sliceArr_0 : sliceArrD (some (.row .arr ver l)) id d none none none = whenD (d.isArr l.len l.kind) (pD True (.sref true id ver 0 l.len)) := by
  simp [sliceArrD]
@[go_sem] theorem sliceArr_2 : sliceArrD (some (.row .arr ver l)) id d (some (.int k a)) none none = whenD (d.isArr l.len l.kind) (pD (0 ≤ a ∧ a ≤ l.len) (.sref true id ver a.toNat (l.len - a.toNat))) := by
  simp [sliceArrD]
@[go_sem] theorem sliceArr_1 : sliceArrD (some (.row .arr ver l)) id d none (some (.int k' b)) none = whenD (d.isArr l.len l.kind) (pD (0 ≤ b ∧ b ≤ l.len) (.sref false id ver 0 b.toNat)) := by
  simp [sliceArrD]
@[go_sem] theorem sliceArr_3 : sliceArrD (some (.row .arr ver l)) id d (some (.int k a)) (some (.int k' b)) none = whenD (d.isArr l.len l.kind) (pD (0 ≤ a ∧ a ≤ b ∧ b ≤ l.len) (.sref false id ver a.toNat (b.toNat - a.toNat))) := by
  simp [sliceArrD]
end slices

section vals
variable (h : List AObj) (x : Bool) (l : Lst) (vs ws : List AV) (n : Nat)
@[go_sem] theorem vals_nil : AV.vals h [] = some [] := (rfl)
def consO : Option AV → Option (List AV) → Option (List AV)
  | some a, some b => some (a :: b)
  | _, _ => none
@[go_sem] theorem vals_cons (v : AV) (r : List AV) : AV.vals h (v :: r) = consO (v.val h) (AV.vals h r) := by
  show (match v.val h, AV.vals h r with | some a, some b => some (a :: b) | _, _ => none) = _
  cases v.val h <;> cases AV.vals h r <;> rfl
@[go_sem] theorem consO_some (a : AV) (b : List AV) : consO (some a) (some b) = some (a :: b) := (rfl)
@[go_sem] theorem val_sref (id ver off len : Nat) : (AV.sref x id ver off len).val h = (listO (h[id]?) ver off len).map fun l => .sl false l := (rfl)
@[go_sem] theorem val_sl : (AV.sl x l).val h = some (.sl false l) := (rfl)
@[go_sem] theorem val_agg : (AV.agg vs).val h = (AV.vals h vs).map .agg := (rfl)
@[go_sem] theorem val_tup : (AV.tup vs).val h = (AV.vals h vs).map .tup := (rfl)
@[go_sem] theorem val_int (k : IntKind) (a : Int) : (AV.int k a).val h = some (.int k a) := (rfl)
@[go_sem] theorem val_bool (b : Bool) : (AV.bool b).val h = some (.bool b) := (rfl)
@[go_sem] theorem val_str (s : Bytes) : (AV.str s).val h = some (.str s) := (rfl)
@[go_sem] theorem val_ptr (id : Nat) (p : List PS) : (AV.ptr id p).val h = some (.ptr id p) := (rfl)
@[go_sem] theorem val_map (id : Nat) : (AV.map id).val h = some (.map id) := (rfl)
@[go_sem] theorem val_fn (f : Fn) : (AV.fn f vs ws).val h = some (.fn f vs ws) := (rfl)
@[go_sem] theorem val_arr : (AV.arr l).val h = some (.arr l) := (rfl)
@[go_sem] theorem val_nilp : AV.nilp.val h = some .nilp := (rfl)
@[go_sem] theorem val_top : AV.top.val h = some .top := (rfl)
@[go_sem] theorem shift_int (k : IntKind) (a : Int) : (AV.int k a).shift n = .int k a := (rfl)
@[go_sem] theorem shift_bool (b : Bool) : (AV.bool b).shift n = .bool b := (rfl)
@[go_sem] theorem shift_str (s : Bytes) : (AV.str s).shift n = .str s := (rfl)
@[go_sem] theorem shift_sl : (AV.sl x l).shift n = .sl x l := (rfl)
@[go_sem] theorem shift_arr : (AV.arr l).shift n = .arr l := (rfl)
@[go_sem] theorem shift_fn (f : Fn) : (AV.fn f vs ws).shift n = .fn f vs ws := (rfl)
@[go_sem] theorem shift_sref (id ver off len : Nat) : (AV.sref x id ver off len).shift n = .sref x (n + id) ver off len := (rfl)
@[go_sem] theorem shift_map (id : Nat) : (AV.map id).shift n = .map (n + id) := (rfl)
@[go_sem] theorem shift_ptr (id : Nat) (p : List PS) : (AV.ptr id p).shift n = .ptr (n + id) p := (rfl)
@[go_sem] theorem shift_agg : (AV.agg vs).shift n = .agg (AV.shifts n vs) := (rfl)
@[go_sem] theorem shift_tup : (AV.tup vs).shift n = .tup (AV.shifts n vs) := (rfl)
@[go_sem] theorem shifts_nil : AV.shifts n [] = [] := (rfl)
@[go_sem] theorem shifts_cons (v : AV) (r : List AV) : AV.shifts n (v :: r) = v.shift n :: AV.shifts n r := (rfl)
@[go_sem] theorem rows_sref (id ver off len : Nat) : (AV.sref x id ver off len).rows = [id] := (rfl)
@[go_sem] theorem rows_sl : (AV.sl x l).rows = [] := (rfl)
@[go_sem] theorem rows_agg : (AV.agg vs).rows = AV.rowss vs := (rfl)
@[go_sem] theorem rows_tup : (AV.tup vs).rows = AV.rowss vs := (rfl)
@[go_sem] theorem rows_int (k : IntKind) (a : Int) : (AV.int k a).rows = [] := (rfl)
@[go_sem] theorem rows_bool (b : Bool) : (AV.bool b).rows = [] := (rfl)
@[go_sem] theorem rows_str (s : Bytes) : (AV.str s).rows = [] := (rfl)
@[go_sem] theorem rows_arr : (AV.arr l).rows = [] := (rfl)
@[go_sem] theorem rows_ptr (id : Nat) (p : List PS) : (AV.ptr id p).rows = [] := (rfl)
@[go_sem] theorem rows_map (id : Nat) : (AV.map id).rows = [] := (rfl)
@[go_sem] theorem rows_fn (f : Fn) : (AV.fn f vs ws).rows = [] := (rfl)
@[go_sem] theorem rows_nilfn : AV.nilfn.rows = [] := (rfl)
@[go_sem] theorem rows_nilp : AV.nilp.rows = [] := (rfl)
@[go_sem] theorem rows_ep (i : Nat) (fs : List PS) : (AV.ep l i fs).rows = [] := (rfl)
@[go_sem] theorem rows_top : AV.top.rows = [] := (rfl)
@[go_sem] theorem rows_iface (t : TypeId) (v : AV) : (AV.iface t v).rows = [] := (rfl)
@[go_sem] theorem rows_niliface : AV.niliface.rows = [] := (rfl)
@[go_sem] theorem rowss_nil : AV.rowss [] = [] := (rfl)
@[go_sem] theorem rowss_cons (v : AV) (r : List AV) : AV.rowss (v :: r) = v.rows ++ AV.rowss r := (rfl)
@[go_sem] theorem noSl_int (k : IntKind) (a : Int) : (AV.int k a).noSl = true := (rfl)
@[go_sem] theorem noSl_bool (b : Bool) : (AV.bool b).noSl = true := (rfl)
@[go_sem] theorem noSl_str (s : Bytes) : (AV.str s).noSl = true := (rfl)
@[go_sem] theorem noSl_arr : (AV.arr l).noSl = true := (rfl)
@[go_sem] theorem noSl_nilp : AV.nilp.noSl = true := (rfl)
@[go_sem] theorem noSl_nilfn : AV.nilfn.noSl = true := (rfl)
@[go_sem] theorem noSl_sl : (AV.sl x l).noSl = false := (rfl)
@[go_sem] theorem noSl_agg : (AV.agg vs).noSl = AV.noSls vs := (rfl)
@[go_sem] theorem noSl_tup : (AV.tup vs).noSl = AV.noSls vs := (rfl)
@[go_sem] theorem noSl_fn (f : Fn) : (AV.fn f vs ws).noSl = (AV.noSls vs && AV.noSls ws) := (rfl)
@[go_sem] theorem noSls_nil : AV.noSls [] = true := (rfl)
@[go_sem] theorem noSls_cons (v : AV) (r : List AV) : AV.noSls (v :: r) = (v.noSl && AV.noSls r) := (rfl)
@[go_sem] theorem noSl_ite (p : Prop) [Decidable p] (v w : AV) : (if p then v else w).noSl = (if p then v.noSl else w.noSl) := by split <;> rfl
@[go_sem] theorem closed_sref (id ver off len : Nat) : (AV.sref x id ver off len).closed = false := (rfl)
@[go_sem] theorem closed_ptr (id : Nat) (p : List PS) : (AV.ptr id p).closed = false := (rfl)
@[go_sem] theorem closed_map (id : Nat) : (AV.map id).closed = false := (rfl)
@[go_sem] theorem closed_nilp : AV.nilp.closed = true := (rfl)
@[go_sem] theorem closed_nilfn : AV.nilfn.closed = true := (rfl)
@[go_sem] theorem solid_int (k : IntKind) (a : Int) : (AV.int k a).solid = true := (rfl)
@[go_sem] theorem solid_bool (b : Bool) : (AV.bool b).solid = true := (rfl)
@[go_sem] theorem solid_str (s : Bytes) : (AV.str s).solid = true := (rfl)
@[go_sem] theorem solid_sl : (AV.sl x l).solid = true := (rfl)
@[go_sem] theorem solid_sref (id ver off len : Nat) : (AV.sref x id ver off len).solid = true := (rfl)
@[go_sem] theorem solid_agg : (AV.agg vs).solid = true := (rfl)
@[go_sem] theorem solid_arr : (AV.arr l).solid = true := (rfl)
@[go_sem] theorem solid_ptr (id : Nat) (p : List PS) : (AV.ptr id p).solid = true := (rfl)
@[go_sem] theorem solid_map (id : Nat) : (AV.map id).solid = true := (rfl)
@[go_sem] theorem solid_nilp : AV.nilp.solid = true := (rfl)
@[go_sem] theorem solid_nilfn : AV.nilfn.solid = true := (rfl)
@[go_sem] theorem solid_fn (f : Fn) : (AV.fn f vs ws).solid = true := (rfl)
@[go_sem] theorem ids_sref (id ver off len : Nat) : (AV.sref x id ver off len).ids = [id] := (rfl)
@[go_sem] theorem ids_sl : (AV.sl x l).ids = [] := (rfl)
@[go_sem] theorem ids_agg : (AV.agg vs).ids = AV.idss vs := (rfl)
@[go_sem] theorem ids_tup : (AV.tup vs).ids = AV.idss vs := (rfl)
@[go_sem] theorem ids_int (k : IntKind) (a : Int) : (AV.int k a).ids = [] := (rfl)
@[go_sem] theorem ids_bool (b : Bool) : (AV.bool b).ids = [] := (rfl)
@[go_sem] theorem ids_str (s : Bytes) : (AV.str s).ids = [] := (rfl)
@[go_sem] theorem ids_arr : (AV.arr l).ids = [] := (rfl)
@[go_sem] theorem ids_ptr (id : Nat) (p : List PS) : (AV.ptr id p).ids = [id] := (rfl)
@[go_sem] theorem ids_map (id : Nat) : (AV.map id).ids = [id] := (rfl)
@[go_sem] theorem ids_fn (f : Fn) : (AV.fn f vs ws).ids = AV.idss vs ++ AV.idss ws := (rfl)
@[go_sem] theorem ids_nilp : AV.nilp.ids = [] := (rfl)
@[go_sem] theorem ids_nilfn : AV.nilfn.ids = [] := (rfl)
@[go_sem] theorem ids_ep (i : Nat) (fs : List PS) : (AV.ep l i fs).ids = [] := (rfl)
@[go_sem] theorem ids_top : AV.top.ids = [] := (rfl)
@[go_sem] theorem idss_nil : AV.idss [] = [] := (rfl)
@[go_sem] theorem idss_cons (v : AV) (r : List AV) : AV.idss (v :: r) = v.ids ++ AV.idss r := (rfl)
@[go_sem] theorem norm_nilfn : AV.nilfn.norm n h = .nilfn := (rfl)
@[go_sem] theorem closeds_nil : AV.closeds [] = true := (rfl)
@[go_sem] theorem closeds_cons (v : AV) (r : List AV) : AV.closeds (v :: r) = (v.closed && AV.closeds r) := (rfl)
@[go_sem] theorem closed_int (k : IntKind) (a : Int) : (AV.int k a).closed = true := (rfl)
@[go_sem] theorem closed_bool (b : Bool) : (AV.bool b).closed = true := (rfl)
@[go_sem] theorem closed_str (s : Bytes) : (AV.str s).closed = true := (rfl)
@[go_sem] theorem closed_sl : (AV.sl x l).closed = true := (rfl)
@[go_sem] theorem closed_arr : (AV.arr l).closed = true := (rfl)
@[go_sem] theorem closed_agg : (AV.agg vs).closed = AV.closeds vs := (rfl)
@[go_sem] theorem closed_fn (f : Fn) : (AV.fn f vs ws).closed = (AV.closeds vs && AV.closeds ws) := (rfl)
@[go_sem] theorem norms_nil : AV.norms n h [] = [] := (rfl)
@[go_sem] theorem norms_cons (v : AV) (r : List AV) : AV.norms n h (v :: r) = v.norm n h :: AV.norms n h r := (rfl)
@[go_sem] theorem norm_int (k : IntKind) (a : Int) : (AV.int k a).norm n h = .int k a := (rfl)
@[go_sem] theorem norm_bool (b : Bool) : (AV.bool b).norm n h = .bool b := (rfl)
@[go_sem] theorem norm_str (s : Bytes) : (AV.str s).norm n h = .str s := (rfl)
@[go_sem] theorem norm_sl : (AV.sl x l).norm n h = .sl false l := (rfl)
@[go_sem] theorem norm_arr : (AV.arr l).norm n h = .arr l := (rfl)
@[go_sem] theorem norm_nilp : AV.nilp.norm n h = .nilp := (rfl)
@[go_sem] theorem norm_top : AV.top.norm n h = .top := (rfl)
@[go_sem] theorem norm_und : AV.und.norm n h = .und := (rfl)
@[go_sem] theorem norm_ptr (id : Nat) (p : List PS) : (AV.ptr id p).norm n h = if id < n then .ptr id p else .top := (rfl)
@[go_sem] theorem norm_map (id : Nat) : (AV.map id).norm n h = if id < n then .map id else .top := (rfl)
@[go_sem] theorem norm_agg : (AV.agg vs).norm n h = .agg (AV.norms n h vs) := (rfl)
@[go_sem] theorem norm_tup : (AV.tup vs).norm n h = .tup (AV.norms n h vs) := (rfl)
@[go_sem] theorem norm_fn (f : Fn) : (AV.fn f vs ws).norm n h = .fn f (AV.norms n h vs) (AV.norms n h ws) := (rfl)
@[go_sem] theorem norm_ep (i : Nat) (fs : List PS) : (AV.ep l i fs).norm n h = .ep l i fs := (rfl)
@[go_sem] theorem norm_sref (id ver off len : Nat) : (AV.sref x id ver off len).norm n h = normR n (h[id]?) id ver off len := (rfl)
@[go_sem] theorem normR_row (rk : RK) (id ver ver' off len : Nat) : normR n (some (.row rk ver' l)) id ver off len = if ver = ver' then (if id < n then .sref false id ver off len else .sl false (l.cut off len)) else .top := (rfl)
@[go_sem] theorem normH_eq : normH n h = (h.take n).map (normO n h) := (rfl)
@[go_sem] theorem normO_box (v : AV) : normO n h (.box v) = .box (v.norm n h) := (rfl)
@[go_sem] theorem normO_row (rk : RK) (ver : Nat) : normO n h (.row rk ver l) = .row rk ver l := (rfl)
@[go_sem] theorem normO_map (m : MapC) : normO n h (.map m) = .map m := (rfl)
@[go_sem] theorem normO_dead : normO n h .dead = .dead := (rfl)
@[go_sem] theorem promV_nil (K : List AV → List AObj → Prop) : promV [] vs h K = K vs h := by cases vs <;> rfl
@[go_sem] theorem promV_nil' (fs : List Bool) (K : List AV → List AObj → Prop) : promV fs [] h K = K [] h := by
  cases fs with
  | nil => rfl
  | cons f r => cases f <;> rfl
@[go_sem] theorem promV_false (fs : List Bool) (v : AV) (K : List AV → List AObj → Prop) : promV (false :: fs) (v :: vs) h K = promV fs vs h fun us h' => K (v :: us) h' := (rfl)
@[go_sem] theorem promV_sref (fs : List Bool) (x : Bool) (id ver off len : Nat) (vs : List AV) (K : List AV → List AObj → Prop) : promV (true :: fs) (.sref x id ver off len :: vs) h K = promV fs vs h fun us h' => K (.sref x id ver off len :: us) h' := (rfl)
@[go_sem] theorem promV_true (fs : List Bool) (l : Lst) (K : List AV → List AObj → Prop) : promV (true :: fs) (.sl true l :: vs) h K = (l.len = 0 ∧ promV fs vs (h ++ [.row .own 0 l]) fun us h' => K (.sref false h.length 0 0 0 :: us) h') := (rfl)
end vals

@[go_sem] theorem cast_lit (n : Nat) : ((no_index (OfNat.ofNat n) : Nat) : Int) = OfNat.ofNat n := (rfl)
attribute [go_sem] Bool.and_false Bool.false_and ite_self List.take_length false_imp_iff true_imp_iff not_true_eq_false decide_true decide_false List.length_replicate List.length_set Int.toNat_natCast Bool.and_self List.modify_zero_cons List.modify_succ_cons eq_self and_self implies_true List.getElem?_cons_zero List.getElem?_cons_succ List.set_cons_zero List.set_cons_succ List.cons_append List.nil_append List.append_nil List.length_cons List.length_nil
  List.take_succ_cons List.take_zero List.take_nil List.getD_cons_zero List.getD_cons_succ List.map_cons List.map_nil Option.bind_some Option.bind_none Option.map_some Option.map_none true_and and_true Nat.add_zero Nat.zero_add
  if_true if_false Bool.true_eq_false Bool.false_eq_true Bool.not_true Bool.not_false Bool.and_true Bool.true_and or_true true_or reduceCtorEq reduceIte List.drop_zero List.append_assoc decide_eq_true_eq decide_eq_false_iff_not
  Bool.not_eq_true' Bool.not_eq_false' ne_eq not_false_eq_true forall_const
end Lam
set_option linter.unusedVariables false
set_option linter.unusedSimpArgs false
set_option linter.unnecessarySimpa false
set_option linter.unusedSectionVars false
namespace Lam
open Go
@[go_sem] theorem lookF_nil (f : FuncId) (vs : List AV) : lookF [] f vs = none := (rfl)
@[go_sem] theorem lookI_nil (f : FuncId) (Y : Con) (a : List AV) (h : List AObj) (K' : AOut → List AObj → Prop) : lookI [] f Y a h K' = False := (rfl)
@[go_sem] theorem lookI_cons (f g : FuncId) (C : Con → Con) (r : List (FuncId × (Con → Con))) : lookI ((g, C) :: r) f = if f = g then C else lookI r f := by
  by_cases h : f = g
  · subst h; simp [lookI]
  · have : Nat.beq f g = false := by rw [Bool.eq_false_iff]; intro e; exact h (Nat.eq_of_beq_eq_true e)
    simp [lookI, this, h]
@[go_sem] theorem lookF_cons (g f : FuncId) (C : Contract) (r : List (FuncId × Contract)) : lookF ((g, C) :: r) f = if f = g then C else lookF r f := by
  by_cases h : f = g
  · subst h; simp [lookF]
  · have : Nat.beq f g = false := by rw [Bool.eq_false_iff]; intro e; exact h (Nat.eq_of_beq_eq_true e)
    simp [lookF, this, h]
@[go_sem] theorem lookS_nil (f : FuncId) (vs : List AV) (h : List AObj) (K : AOut → List AObj → Prop) : lookS [] f vs h K = False := (rfl)
@[go_sem] theorem lookS_cons (g f : FuncId) (C : Con) (r : List (FuncId × Con)) : lookS ((g, C) :: r) f = if f = g then C else lookS r f := by
  by_cases h : f = g
  · subst h; simp [lookS]
  · have : Nat.beq f g = false := by rw [Bool.eq_false_iff]; intro e; exact h (Nat.eq_of_beq_eq_true e)
    simp [lookS, this, h]
theorem w64 {n : Int} (h1 : -9223372036854775808 ≤ n) (h2 : n < 9223372036854775808) : IntKind.i64.wrap n = n := by rw [IntKind.wrap_i64]; omega
theorem u8_range (n : Int) : 0 ≤ IntKind.u8.wrap n ∧ IntKind.u8.wrap n < 256 := by simp [IntKind.wrap, IntKind.bits, IntKind.signed]; omega
theorem u32_range (n : Int) : 0 ≤ IntKind.u32.wrap n ∧ IntKind.u32.wrap n < 4294967296 := by simp [IntKind.wrap, IntKind.bits, IntKind.signed]; omega
theorem u64_range (n : Int) : 0 ≤ IntKind.u64.wrap n ∧ IntKind.u64.wrap n < 18446744073709551616 := by simp [IntKind.wrap, IntKind.bits, IntKind.signed]; omega
theorem u8_id {n : Int} (h1 : 0 ≤ n) (h2 : n < 256) : IntKind.u8.wrap n = n := by simp [IntKind.wrap, IntKind.bits, IntKind.signed]; omega
theorem u32_id {n : Int} (h1 : 0 ≤ n) (h2 : n < 4294967296) : IntKind.u32.wrap n = n := by simp [IntKind.wrap, IntKind.bits, IntKind.signed]; omega
theorem u64_id {n : Int} (h1 : 0 ≤ n) (h2 : n < 18446744073709551616) : IntKind.u64.wrap n = n := by simp [IntKind.wrap, IntKind.bits, IntKind.signed]; omega
theorem i64_range (n : Int) : -9223372036854775808 ≤ IntKind.i64.wrap n ∧ IntKind.i64.wrap n < 9223372036854775808 := by rw [IntKind.wrap_i64]; omega

abbrev J2 := AV → AV → List AObj → Prop
@[congr] theorem joinW_congr {α : Type} {A A' : α → Prop} {k : α} (e : ∀ J, A J = A' J) : joinW A k = joinW A' k := by unfold joinW; exact e k
theorem joinW_eq {α : Type} (A : α → Prop) (k : α) : joinW A k = A k := (rfl)
section
variable (p q : Bool) (S : Prop) (h : List AObj) (F : AV → List AObj → Prop)
@[go_sem] theorem join_and : joinW (fun J : J2 => guardW (.bool p) true (J (.bool true) (.bool q) h) (J (.bool false) .und h)) (fun t v h' => runD (pickD t v (.bool false)) h' F) = F (.bool (p && q)) h := by
  cases p <;> simp [joinW, guardW, pickD, pD, runD]
@[go_sem] theorem join_and_s : joinW (fun J : J2 => guardW (.bool p) true (S ∧ J (.bool true) (.bool q) h) (J (.bool false) .und h)) (fun t v h' => runD (pickD t v (.bool false)) h' F) = ((p = true → S) ∧ F (.bool (p && q)) h) := by
  cases p <;> simp [joinW, guardW, pickD, pD, runD]
@[go_sem] theorem join_or : joinW (fun J : J2 => guardW (.bool p) false (J (.bool false) (.bool q) h) (J (.bool true) .und h)) (fun t v h' => runD (pickD t (.bool true) v) h' F) = F (.bool (p || q)) h := by
  cases p <;> simp [joinW, guardW, pickD, pD, runD]
@[go_sem] theorem join_or_s : joinW (fun J : J2 => guardW (.bool p) false (S ∧ J (.bool false) (.bool q) h) (J (.bool true) .und h)) (fun t v h' => runD (pickD t (.bool true) v) h' F) = ((p = false → S) ∧ F (.bool (p || q)) h) := by
  cases p <;> simp [joinW, guardW, pickD, pD, runD]
variable (S2 S3 S4 S5 : Prop)
@[go_sem] theorem join_and_s2 : joinW (fun J : J2 => guardW (.bool p) true (S ∧ S2 ∧ J (.bool true) (.bool q) h) (J (.bool false) .und h)) (fun t v h' => runD (pickD t v (.bool false)) h' F) = ((p = true → S ∧ S2) ∧ F (.bool (p && q)) h) := by
  cases p <;> simp [joinW, guardW, pickD, pD, runD, and_assoc]
@[go_sem] theorem join_or_s2 : joinW (fun J : J2 => guardW (.bool p) false (S ∧ S2 ∧ J (.bool false) (.bool q) h) (J (.bool true) .und h)) (fun t v h' => runD (pickD t (.bool true) v) h' F) = ((p = false → S ∧ S2) ∧ F (.bool (p || q)) h) := by
  cases p <;> simp [joinW, guardW, pickD, pD, runD, and_assoc]
@[go_sem] theorem join_and_s3 : joinW (fun J : J2 => guardW (.bool p) true (S ∧ S2 ∧ S3 ∧ J (.bool true) (.bool q) h) (J (.bool false) .und h)) (fun t v h' => runD (pickD t v (.bool false)) h' F) = ((p = true → S ∧ S2 ∧ S3) ∧ F (.bool (p && q)) h) := by
  cases p <;> simp [joinW, guardW, pickD, pD, runD, and_assoc]
@[go_sem] theorem join_or_s3 : joinW (fun J : J2 => guardW (.bool p) false (S ∧ S2 ∧ S3 ∧ J (.bool false) (.bool q) h) (J (.bool true) .und h)) (fun t v h' => runD (pickD t (.bool true) v) h' F) = ((p = false → S ∧ S2 ∧ S3) ∧ F (.bool (p || q)) h) := by
  cases p <;> simp [joinW, guardW, pickD, pD, runD, and_assoc]
@[go_sem] theorem join_and_s4 : joinW (fun J : J2 => guardW (.bool p) true (S ∧ S2 ∧ S3 ∧ S4 ∧ J (.bool true) (.bool q) h) (J (.bool false) .und h)) (fun t v h' => runD (pickD t v (.bool false)) h' F) = ((p = true → S ∧ S2 ∧ S3 ∧ S4) ∧ F (.bool (p && q)) h) := by
  cases p <;> simp [joinW, guardW, pickD, pD, runD, and_assoc]
@[go_sem] theorem join_or_s4 : joinW (fun J : J2 => guardW (.bool p) false (S ∧ S2 ∧ S3 ∧ S4 ∧ J (.bool false) (.bool q) h) (J (.bool true) .und h)) (fun t v h' => runD (pickD t (.bool true) v) h' F) = ((p = false → S ∧ S2 ∧ S3 ∧ S4) ∧ F (.bool (p || q)) h) := by
  cases p <;> simp [joinW, guardW, pickD, pD, runD, and_assoc]
@[go_sem] theorem join_and_s5 : joinW (fun J : J2 => guardW (.bool p) true (S ∧ S2 ∧ S3 ∧ S4 ∧ S5 ∧ J (.bool true) (.bool q) h) (J (.bool false) .und h)) (fun t v h' => runD (pickD t v (.bool false)) h' F) = ((p = true → S ∧ S2 ∧ S3 ∧ S4 ∧ S5) ∧ F (.bool (p && q)) h) := by
  cases p <;> simp [joinW, guardW, pickD, pD, runD, and_assoc]
@[go_sem] theorem join_or_s5 : joinW (fun J : J2 => guardW (.bool p) false (S ∧ S2 ∧ S3 ∧ S4 ∧ S5 ∧ J (.bool false) (.bool q) h) (J (.bool true) .und h)) (fun t v h' => runD (pickD t (.bool true) v) h' F) = ((p = false → S ∧ S2 ∧ S3 ∧ S4 ∧ S5) ∧ F (.bool (p || q)) h) := by
  cases p <;> simp [joinW, guardW, pickD, pD, runD, and_assoc]
end
theorem take_next {α : Type} (l : List α) (k : Nat) (d : α) (h : k < l.length) : l.take (k + 1) = l.take k ++ [l.getD k d] := by
  rw [List.take_add_one, List.getD_eq_getElem?_getD, List.getElem?_eq_getElem h]; rfl
theorem getD_mem {α : Type} (l : List α) (k : Nat) (d : α) (h : k < l.length) : l.getD k d ∈ l := by
  rw [List.getD_eq_getElem?_getD, List.getElem?_eq_getElem h]; exact List.getElem_mem h
theorem tdiv16 (n : Nat) : (n : Int).tdiv 16 = ((n / 16 : Nat) : Int) := rfl
theorem tdiv8 (n : Nat) : (n : Int).tdiv 8 = ((n / 8 : Nat) : Int) := rfl
attribute [go_sem] Bool.true_or Bool.false_or Bool.or_false Bool.or_true Bool.and_false Bool.false_and beq_self_eq_true
theorem wf_u8 {n : Int} (h : (Lit.int .u8 n).wf = true) : 0 ≤ n ∧ n < 256 := by
  simp [Lit.wf, IntKind.min, IntKind.max, IntKind.signed, IntKind.bits] at h; omega
theorem wf_64 {n : Int} (h : (Lit.int .i64 n).wf = true) : -9223372036854775808 ≤ n ∧ n < 9223372036854775808 := by
  simp [Lit.wf, IntKind.min, IntKind.max, IntKind.signed, IntKind.bits] at h; omega
end Lam
namespace Lam
open Go
set_option linter.unusedVariables false
set_option linter.unnecessarySimpa false
set_option linter.unusedSimpArgs false
section
variable {σ : Type}
abbrev LB := Nat → List AV → List AObj → Prop
theorem loop0 {B : LB → Nat → List AObj → Prop} {lv : List AV} {h0 : List AObj} (H : σ → List AObj) (M : σ → Nat) (Q : σ → Prop) (s0 : σ) (hv : lv = []) (hh : h0 = H s0) (q0 : Q s0)
    (step : ∀ (I : LB), (∀ {n : Nat} {lv : List AV} {h : List AObj} (s : σ), M s < n → lv = [] → h = H s → Q s → ∃ m, m < n ∧ I m lv h) → ∀ s, Q s → B I (M s) (H s)) : ∃ I : LB, (∃ n, I n lv h0) ∧ ∀ n h, I n [] h → B I n h := by
  refine ⟨fun m lv h => ∃ s, m = M s ∧ lv = [] ∧ h = H s ∧ Q s, ⟨_, s0, rfl, hv, hh, q0⟩, ?_⟩
  rintro n h ⟨s, rfl, e, rfl, q⟩
  cases e
  exact step _ (fun s hm hv hh q => ⟨_, hm, s, rfl, hv, hh, q⟩) s q
theorem loop1 {B : LB → Nat → List AObj → AV → Prop} {lv : List AV} {h0 : List AObj} (V0 : σ → AV) (H : σ → List AObj) (M : σ → Nat) (Q : σ → Prop) (s0 : σ) (hv : lv = [V0 s0]) (hh : h0 = H s0) (q0 : Q s0)
    (step : ∀ (I : LB), (∀ {n : Nat} {lv : List AV} {h : List AObj} (s : σ), M s < n → lv = [V0 s] → h = H s → Q s → ∃ m, m < n ∧ I m lv h) → ∀ s, Q s → B I (M s) (H s) (V0 s)) : ∃ I : LB, (∃ n, I n lv h0) ∧ ∀ n h, ∀ t0, I n [t0] h → B I n h t0 := by
  refine ⟨fun m lv h => ∃ s, m = M s ∧ lv = [V0 s] ∧ h = H s ∧ Q s, ⟨_, s0, rfl, hv, hh, q0⟩, ?_⟩
  rintro n h t0 ⟨s, rfl, e, rfl, q⟩
  cases e
  exact step _ (fun s hm hv hh q => ⟨_, hm, s, rfl, hv, hh, q⟩) s q
theorem loop2 {B : LB → Nat → List AObj → AV → AV → Prop} {lv : List AV} {h0 : List AObj} (V0 V1 : σ → AV) (H : σ → List AObj) (M : σ → Nat) (Q : σ → Prop) (s0 : σ) (hv : lv = [V0 s0, V1 s0]) (hh : h0 = H s0) (q0 : Q s0)
    (step : ∀ (I : LB), (∀ {n : Nat} {lv : List AV} {h : List AObj} (s : σ), M s < n → lv = [V0 s, V1 s] → h = H s → Q s → ∃ m, m < n ∧ I m lv h) → ∀ s, Q s → B I (M s) (H s) (V0 s) (V1 s)) : ∃ I : LB, (∃ n, I n lv h0) ∧ ∀ n h, ∀ t0 t1, I n [t0, t1] h → B I n h t0 t1 := by
  refine ⟨fun m lv h => ∃ s, m = M s ∧ lv = [V0 s, V1 s] ∧ h = H s ∧ Q s, ⟨_, s0, rfl, hv, hh, q0⟩, ?_⟩
  rintro n h t0 t1 ⟨s, rfl, e, rfl, q⟩
  cases e
  exact step _ (fun s hm hv hh q => ⟨_, hm, s, rfl, hv, hh, q⟩) s q
theorem loop3 {B : LB → Nat → List AObj → AV → AV → AV → Prop} {lv : List AV} {h0 : List AObj} (V0 V1 V2 : σ → AV) (H : σ → List AObj) (M : σ → Nat) (Q : σ → Prop) (s0 : σ) (hv : lv = [V0 s0, V1 s0, V2 s0]) (hh : h0 = H s0) (q0 : Q s0)
    (step : ∀ (I : LB), (∀ {n : Nat} {lv : List AV} {h : List AObj} (s : σ), M s < n → lv = [V0 s, V1 s, V2 s] → h = H s → Q s → ∃ m, m < n ∧ I m lv h) → ∀ s, Q s → B I (M s) (H s) (V0 s) (V1 s) (V2 s)) : ∃ I : LB, (∃ n, I n lv h0) ∧ ∀ n h, ∀ t0 t1 t2, I n [t0, t1, t2] h → B I n h t0 t1 t2 := by
  refine ⟨fun m lv h => ∃ s, m = M s ∧ lv = [V0 s, V1 s, V2 s] ∧ h = H s ∧ Q s, ⟨_, s0, rfl, hv, hh, q0⟩, ?_⟩
  rintro n h t0 t1 t2 ⟨s, rfl, e, rfl, q⟩
  cases e
  exact step _ (fun s hm hv hh q => ⟨_, hm, s, rfl, hv, hh, q⟩) s q
theorem loop4 {B : LB → Nat → List AObj → AV → AV → AV → AV → Prop} {lv : List AV} {h0 : List AObj} (V0 V1 V2 V3 : σ → AV) (H : σ → List AObj) (M : σ → Nat) (Q : σ → Prop) (s0 : σ) (hv : lv = [V0 s0, V1 s0, V2 s0, V3 s0]) (hh : h0 = H s0) (q0 : Q s0)
    (step : ∀ (I : LB), (∀ {n : Nat} {lv : List AV} {h : List AObj} (s : σ), M s < n → lv = [V0 s, V1 s, V2 s, V3 s] → h = H s → Q s → ∃ m, m < n ∧ I m lv h) → ∀ s, Q s → B I (M s) (H s) (V0 s) (V1 s) (V2 s) (V3 s)) : ∃ I : LB, (∃ n, I n lv h0) ∧ ∀ n h, ∀ t0 t1 t2 t3, I n [t0, t1, t2, t3] h → B I n h t0 t1 t2 t3 := by
  refine ⟨fun m lv h => ∃ s, m = M s ∧ lv = [V0 s, V1 s, V2 s, V3 s] ∧ h = H s ∧ Q s, ⟨_, s0, rfl, hv, hh, q0⟩, ?_⟩
  rintro n h t0 t1 t2 t3 ⟨s, rfl, e, rfl, q⟩
  cases e
  exact step _ (fun s hm hv hh q => ⟨_, hm, s, rfl, hv, hh, q⟩) s q
theorem loop5 {B : LB → Nat → List AObj → AV → AV → AV → AV → AV → Prop} {lv : List AV} {h0 : List AObj} (V0 V1 V2 V3 V4 : σ → AV) (H : σ → List AObj) (M : σ → Nat) (Q : σ → Prop) (s0 : σ) (hv : lv = [V0 s0, V1 s0, V2 s0, V3 s0, V4 s0]) (hh : h0 = H s0) (q0 : Q s0)
    (step : ∀ (I : LB), (∀ {n : Nat} {lv : List AV} {h : List AObj} (s : σ), M s < n → lv = [V0 s, V1 s, V2 s, V3 s, V4 s] → h = H s → Q s → ∃ m, m < n ∧ I m lv h) → ∀ s, Q s → B I (M s) (H s) (V0 s) (V1 s) (V2 s) (V3 s) (V4 s)) : ∃ I : LB, (∃ n, I n lv h0) ∧ ∀ n h, ∀ t0 t1 t2 t3 t4, I n [t0, t1, t2, t3, t4] h → B I n h t0 t1 t2 t3 t4 := by
  refine ⟨fun m lv h => ∃ s, m = M s ∧ lv = [V0 s, V1 s, V2 s, V3 s, V4 s] ∧ h = H s ∧ Q s, ⟨_, s0, rfl, hv, hh, q0⟩, ?_⟩
  rintro n h t0 t1 t2 t3 t4 ⟨s, rfl, e, rfl, q⟩
  cases e
  exact step _ (fun s hm hv hh q => ⟨_, hm, s, rfl, hv, hh, q⟩) s q
theorem loop6 {B : LB → Nat → List AObj → AV → AV → AV → AV → AV → AV → Prop} {lv : List AV} {h0 : List AObj} (V0 V1 V2 V3 V4 V5 : σ → AV) (H : σ → List AObj) (M : σ → Nat) (Q : σ → Prop) (s0 : σ) (hv : lv = [V0 s0, V1 s0, V2 s0, V3 s0, V4 s0, V5 s0]) (hh : h0 = H s0) (q0 : Q s0)
    (step : ∀ (I : LB), (∀ {n : Nat} {lv : List AV} {h : List AObj} (s : σ), M s < n → lv = [V0 s, V1 s, V2 s, V3 s, V4 s, V5 s] → h = H s → Q s → ∃ m, m < n ∧ I m lv h) → ∀ s, Q s → B I (M s) (H s) (V0 s) (V1 s) (V2 s) (V3 s) (V4 s) (V5 s)) : ∃ I : LB, (∃ n, I n lv h0) ∧ ∀ n h, ∀ t0 t1 t2 t3 t4 t5, I n [t0, t1, t2, t3, t4, t5] h → B I n h t0 t1 t2 t3 t4 t5 := by
  refine ⟨fun m lv h => ∃ s, m = M s ∧ lv = [V0 s, V1 s, V2 s, V3 s, V4 s, V5 s] ∧ h = H s ∧ Q s, ⟨_, s0, rfl, hv, hh, q0⟩, ?_⟩
  rintro n h t0 t1 t2 t3 t4 t5 ⟨s, rfl, e, rfl, q⟩
  cases e
  exact step _ (fun s hm hv hh q => ⟨_, hm, s, rfl, hv, hh, q⟩) s q
end
section
variable {A B : Prop}
theorem guard_tt : guardW (.bool true) true A B = A := by simp [guardW_bool]
theorem guard_tf : guardW (.bool true) false A B = B := by simp [guardW_bool]
theorem guard_ft : guardW (.bool false) true A B = B := by simp [guardW_bool]
theorem guard_ff : guardW (.bool false) false A B = A := by simp [guardW_bool]
end
theorem wnext {k : Nat} (h : k < 4611686018427387904) : IntKind.i64.wrap ((k : Int) + 1) = ((k + 1 : Nat) : Int) := by rw [w64 (by omega) (by omega)]; rfl
theorem wlen {k : Nat} (h : k < 4611686018427387904) : IntKind.i64.wrap (k : Int) = (k : Int) := w64 (by omega) (by omega)
theorem wdiv8 {k : Nat} (h : k < 4611686018427387904) : IntKind.i64.wrap ((k : Int).tdiv 8) = ((k / 8 : Nat) : Int) := by rw [tdiv8]; exact w64 (by omega) (by omega)
theorem wdiv16 {k : Nat} (h : k < 4611686018427387904) : IntKind.i64.wrap ((k : Int).tdiv 16) = ((k / 16 : Nat) : Int) := by rw [tdiv16]; exact w64 (by omega) (by omega)
theorem modN {n : Int} {k : Nat} (h0 : 0 ≤ n) (h1 : n < 256) (hk : k < 1099511627776) : (IntKind.i64.wrap n).tmod (IntKind.i64.wrap ((k : Int) + 1)) = ((n.toNat % (k + 1) : Nat) : Int) := by
  rw [wnext (by omega), w64 (by omega) (by omega), Int.tmod_eq_emod_of_nonneg h0, Int.natCast_emod, Int.toNat_of_nonneg h0]
theorem modN' {n : Int} {k : Nat} (h0 : 0 ≤ n) (h1 : n < 256) (hk : k < 1099511627776) : (IntKind.i64.wrap n).tmod (k : Int) = ((n.toNat % k : Nat) : Int) := by
  rw [w64 (by omega) (by omega), Int.tmod_eq_emod_of_nonneg h0, Int.natCast_emod, Int.toNat_of_nonneg h0]
theorem mod_le (n k : Nat) : n % (k + 1) ≤ k := by have := Nat.mod_lt n (show 0 < k + 1 by omega); omega
theorem drop_cons {α : Type} (l : List α) (k : Nat) (d : α) (h : k < l.length) : l.drop k = l.getD k d :: l.drop (k + 1) := by
  rw [List.drop_eq_getElem_cons h, List.getD_eq_getElem?_getD, List.getElem?_eq_getElem h]; rfl
theorem getD_append_left {α : Type} (a b : List α) (k : Nat) (d : α) (h : k < a.length) : (a ++ b).getD k d = a.getD k d := by
  rw [List.getD_eq_getElem?_getD, List.getElem?_append_left h, List.getD_eq_getElem?_getD]
theorem getD_append_right {α : Type} (a b : List α) (k : Nat) (d : α) (h : a.length ≤ k) : (a ++ b).getD k d = b.getD (k - a.length) d := by
  rw [List.getD_eq_getElem?_getD, List.getElem?_append_right h, List.getD_eq_getElem?_getD]
theorem take_len {α : Type} (l : List α) {n : Nat} (h : l.length ≤ n) : l.take n = l := List.take_of_length_le h
/-- lists that are alike, place by place -/
theorem ext_d {α : Type} (d : α) {a b : List α} (hl : a.length = b.length) (h : ∀ i, i < a.length → a.getD i d = b.getD i d) : a = b := by
  apply List.ext_getElem hl
  intro i h1 h2
  have := h i h1
  rw [List.getD_eq_getElem?_getD, List.getD_eq_getElem?_getD, List.getElem?_eq_getElem h1, List.getElem?_eq_getElem h2] at this
  exact this
end Lam
namespace Lam
open Go
set_option linter.unusedVariables false
set_option linter.unnecessarySimpa false
set_option linter.unusedSimpArgs false
/-! ### Memories -/
def memV (vol per : List Int) (pend : List Pend) : AV := .agg [.sl false (.ints .i64 vol), .sl false (.ints .i64 per), .sl false (.pends pend)]
attribute [go_sem] memV
def lineOf (at_ : Int) : Int := IntKind.i64.wrap (at_.tdiv 8)
def szB (n : Int) : Bool := decide (n ≤ 4096) && decide (n.tmod 8 = 0)

/-- what is seen of what is kept, by what is pending; none: it may not be -/
def badB (p : Pend) (n : Nat) (o : Int → Bool) : Bool := decide (p.at_ < 0) || decide ((n : Int) ≤ p.at_) || (p.fl && o (lineOf p.at_))
def opens (p : Pend) (o : Int → Bool) : Int → Bool := fun j => if j = lineOf p.at_ then (o (lineOf p.at_) || !p.fl) else o j
def chk : List Pend → List Int → (Int → Bool) → Option (List Int)
  | [], l, _ => some l
  | p :: r, l, o => match badB p l.length o with
    | true => none
    | false => chk r (l.set p.at_.toNat p.val) (opens p o)
def checkB (vol per : List Int) (pend : List Pend) : Bool := decide (vol.length = per.length) && szB vol.length && decide (chk pend per (fun _ => false) = some vol)
def smallM (vol per : List Int) (pend : List Pend) : Prop := roomy vol.length ∧ roomy per.length ∧ roomy pend.length
def placeB (vol per : List Int) (pend : List Pend) (at_ : Int) : Bool := decide (0 ≤ at_) && decide (at_ < (vol.length : Int)) && checkB vol per pend
def firstI (vol : List Int) (line : Int) : Int := if decide (line < 0) || decide (((vol.length / 8 : Nat) : Int) ≤ line) then -1 else line * 8
def putM (vol per : List Int) (pend : List Pend) (at_ val : Int) : AV :=
  .tup [memV (if placeB vol per pend at_ = true then vol.set at_.toNat val else vol) per (if placeB vol per pend at_ = true then pend ++ [⟨at_, val, false⟩] else pend), .int .i64 (if placeB vol per pend at_ = true then 0 else 40)]
def flushP (line : Int) (pend : List Pend) : List Pend := pend.map fun p => if lineOf p.at_ = line then { p with fl := true } else p
def flushM (vol per : List Int) (pend : List Pend) (line : Int) : AV :=
  .tup [memV vol per (if placeB vol per pend (firstI vol line) = true then flushP line pend else pend), .int .i64 (if placeB vol per pend (firstI vol line) = true then 0 else 40)]
/-- those of which something holds are kept, and are pending no longer -/
def keepW (f : Pend → Bool) : List Pend → List Int → List Int
  | [], per => per
  | p :: r, per => keepW f r (match f p with | true => per.set p.at_.toNat p.val | false => per)
def keepP (f : Pend → Bool) (pend : List Pend) : List Pend := pend.filter fun p => !f p
theorem keepW_len (f : Pend → Bool) : ∀ (l : List Pend) (per : List Int), (keepW f l per).length = per.length
  | [], per => rfl
  | p :: r, per => by
    simp only [keepW]
    rw [keepW_len f r]
    split <;> simp
theorem keepW_snoc (f : Pend → Bool) (p : Pend) : ∀ (l : List Pend) (per : List Int), keepW f (l ++ [p]) per = match f p with | true => (keepW f l per).set p.at_.toNat p.val | false => keepW f l per
  | [], per => by simp only [List.nil_append, keepW]
  | q :: r, per => by simp only [List.cons_append, keepW]; exact keepW_snoc f p r _
theorem keepP_snoc (f : Pend → Bool) (p : Pend) (l : List Pend) : keepP f (l ++ [p]) = match f p with | true => keepP f l | false => keepP f l ++ [p] := by
  unfold keepP
  rw [List.filter_append]
  cases h : f p <;> simp [h]
theorem chk_range : ∀ (l : List Pend) (w : List Int) (o : Int → Bool) {v : List Int}, chk l w o = some v → (∀ p ∈ l, 0 ≤ p.at_ ∧ p.at_ < (w.length : Int)) ∧ v.length = w.length
  | [], w, o, v, h => by simp only [chk, Option.some.injEq] at h; subst h; exact ⟨fun p hp => (by cases hp), rfl⟩
  | p :: r, w, o, v, h => by
    simp only [chk] at h
    split at h
    · cases h
    · rename_i hb
      obtain ⟨c1, c2⟩ := chk_range r _ _ h
      rw [List.length_set] at c1 c2
      refine ⟨fun q hq => ?_, c2⟩
      rcases List.mem_cons.1 hq with rfl | hq
      · simp only [badB, Bool.or_eq_false_iff, decide_eq_false_iff_not] at hb
        omega
      · exact c1 q hq
theorem check_parts {vol per : List Int} {pend : List Pend} (h : checkB vol per pend = true) : vol.length = per.length ∧ szB vol.length = true ∧ chk pend per (fun _ => false) = some vol := by
  simp only [checkB, Bool.and_eq_true, decide_eq_true_eq] at h
  exact ⟨h.1.1, h.1.2, h.2⟩
theorem check_range {vol per : List Int} {pend : List Pend} (h : checkB vol per pend = true) : ∀ p ∈ pend, 0 ≤ p.at_ ∧ p.at_ < (per.length : Int) := (chk_range _ _ _ (check_parts h).2.2).1
def fFl (p : Pend) : Bool := p.fl
def fLn (line : Int) (p : Pend) : Bool := decide (lineOf p.at_ = line)
def fAll (p : Pend) : Bool := true
theorem place_check {vol per : List Int} {pend : List Pend} {a : Int} (h : placeB vol per pend a = true) : checkB vol per pend = true := by
  simp only [placeB, Bool.and_eq_true] at h; exact h.2
def fenceM (f : Pend → Bool) (ok : Bool) (vol per : List Int) (pend : List Pend) : AV :=
  .tup [memV vol (if ok = true then keepW f pend per else per) (if ok = true then keepP f pend else pend), .int .i64 (if ok = true then 0 else 40)]
def syncM (ok : Bool) (vol per : List Int) (pend : List Pend) : AV := fenceM fAll ok vol per pend
theorem lineOf_eq {a : Int} (h0 : 0 ≤ a) (h1 : a ≤ 1099511627776) : lineOf a = a / 8 := by
  unfold lineOf
  rw [Int.tdiv_eq_ediv_of_nonneg h0]
  exact w64 (by omega) (by omega)

theorem ext_getD {a b : List Int} (hl : a.length = b.length) (h : ∀ i, i < a.length → a.getD i 0 = b.getD i 0) : a = b := by
  apply List.ext_getElem hl
  intro i h1 h2
  have := h i h1
  rw [List.getD_eq_getElem?_getD, List.getD_eq_getElem?_getD, List.getElem?_eq_getElem h1, List.getElem?_eq_getElem h2] at this
  exact this
theorem getD_set (l : List Int) (i j : Nat) (v : Int) : (l.set i v).getD j 0 = if i = j ∧ i < l.length then v else l.getD j 0 := by
  rw [List.getD_eq_getElem?_getD, List.getElem?_set, List.getD_eq_getElem?_getD]
  by_cases h : i = j
  · subst h
    by_cases h2 : i < l.length
    · simp [h2]
    · simp [h2]
  · simp [h]

/-- pending stores are done -/
def app : List Pend → List Int → List Int
  | [], w => w
  | p :: r, w => app r (w.set p.at_.toNat p.val)
theorem app_len : ∀ (l : List Pend) (w : List Int), (app l w).length = w.length
  | [], w => rfl
  | p :: r, w => by rw [app, app_len r, List.length_set]
theorem app_append : ∀ (l r : List Pend) (w : List Int), app (l ++ r) w = app r (app l w)
  | [], r, w => rfl
  | p :: l, r, w => by rw [List.cons_append, app, app_append l, app]
theorem keepW_app (f : Pend → Bool) : ∀ (l : List Pend) (w : List Int), keepW f l w = app (l.filter f) w
  | [], w => rfl
  | p :: r, w => by
    simp only [keepW]
    rw [keepW_app f r]
    cases h : f p <;> simp [h, app]

/-- what stands at a place behind pending stores -/
def seen (a : Nat) : List Pend → Int → Int
  | [], d => d
  | p :: r, d => seen a r (if p.at_.toNat = a then p.val else d)
theorem seen_append (a : Nat) : ∀ (l r : List Pend) (d : Int), seen a (l ++ r) d = seen a r (seen a l d)
  | [], r, d => rfl
  | p :: l, r, d => by rw [List.cons_append, seen, seen_append a l, seen]
theorem app_getD : ∀ (l : List Pend) (w : List Int) (a : Nat), a < w.length → (app l w).getD a 0 = seen a l (w.getD a 0)
  | [], w, a, h => rfl
  | p :: r, w, a, h => by
    rw [app, app_getD r _ a (by rw [List.length_set]; exact h), seen, getD_set]
    congr 1
    by_cases e : p.at_.toNat = a
    · simp [e, h]
    · simp [e]
theorem seen_none (a : Nat) : ∀ (l : List Pend) (d : Int), (∀ p ∈ l, p.at_.toNat ≠ a) → seen a l d = d
  | [], d, h => rfl
  | p :: r, d, h => by
    rw [seen, if_neg (h p (by simp)), seen_none a r d fun q hq => h q (by simp [hq])]
theorem seen_filter (a : Nat) (f : Pend → Bool) : ∀ (l : List Pend) (d : Int), (∀ p ∈ l, p.at_.toNat = a → f p = true) → seen a (l.filter f) d = seen a l d
  | [], d, h => rfl
  | p :: r, d, h => by
    have ih := fun d => seen_filter a f r d fun q hq => h q (by simp [hq])
    cases hf : f p with
    | true => rw [List.filter_cons_of_pos hf, seen, seen, ih]
    | false =>
      rw [List.filter_cons_of_neg (by simp [hf]), ih, seen]
      have : ¬ p.at_.toNat = a := fun e => by have := h p (by simp) e; rw [hf] at this; cases this
      rw [if_neg this]
theorem seen_at (a : Nat) (l : List Pend) (d : Int) : seen a (l.filter fun p => decide (p.at_.toNat = a)) d = seen a l d := seen_filter a _ l d fun p _ h => by simp [h]

/-- who is kept is ahead of who is not, place by place -/
theorem filter_split {f : Pend → Bool} : ∀ {l : List Pend}, l.Pairwise (fun p q => f q = true → f p = true) → l.filter f ++ l.filter (fun p => !f p) = l
  | [], _ => rfl
  | p :: r, h => by
    rw [List.pairwise_cons] at h
    cases hf : f p with
    | true => rw [List.filter_cons_of_pos hf, List.filter_cons_of_neg (by simp [hf]), List.cons_append, filter_split h.2]
    | false =>
      have hn : ∀ q ∈ r, f q = false := fun q hq => by
        cases e : f q with
        | false => rfl
        | true => rw [h.1 q hq e] at hf; cases hf
      rw [List.filter_cons_of_neg (by simp [hf]), List.filter_cons_of_pos (by simp [hf])]
      have e1 : r.filter f = [] := List.filter_eq_nil_iff.2 fun q hq => by simp [hn q hq]
      have e2 : r.filter (fun p => !f p) = r := List.filter_eq_self.2 fun q hq => by simp [hn q hq]
      rw [e1, e2]; rfl
def LineWise (f : Pend → Bool) (l : List Pend) : Prop := l.Pairwise fun p q => lineOf p.at_ = lineOf q.at_ → f q = true → f p = true
theorem toNat_line {p q : Pend} (hp : 0 ≤ p.at_) (hq : 0 ≤ q.at_) (h : p.at_.toNat = q.at_.toNat) : lineOf p.at_ = lineOf q.at_ := by
  have : p.at_ = q.at_ := by omega
  rw [this]
theorem seen_split {f : Pend → Bool} {l : List Pend} (h0 : ∀ p ∈ l, 0 ≤ p.at_) (h : LineWise f l) (a : Nat) (d : Int) : seen a (l.filter fun p => !f p) (seen a (l.filter f) d) = seen a l d := by
  rw [← seen_append, ← seen_at a (_ ++ _), ← seen_at a l]
  congr 1
  rw [List.filter_append, List.filter_filter, List.filter_filter]
  have hp : (l.filter fun p => decide (p.at_.toNat = a)).Pairwise fun p q => f q = true → f p = true := by
    refine (List.Pairwise.and_mem.1 (List.Pairwise.filter _ h)).imp ?_
    rintro p q ⟨hp, hq, hpq⟩ hf
    rw [List.mem_filter, decide_eq_true_eq] at hp hq
    exact hpq (toNat_line (h0 p hp.1) (h0 q hq.1) (by omega)) hf
  have := filter_split hp
  rw [List.filter_filter, List.filter_filter] at this
  simpa [Bool.and_comm] using this

/-- a memory that may be -/
structure OkM (vol per : List Int) (pend : List Pend) : Prop where
  len : vol.length = per.length
  sz : vol.length ≤ 4096
  md : vol.length % 8 = 0
  rng : ∀ p ∈ pend, 0 ≤ p.at_ ∧ p.at_ < (per.length : Int)
  ord : LineWise (fun p => p.fl) pend
  eq : app pend per = vol

theorem chk_iff : ∀ (l : List Pend) (w v : List Int) (o : Int → Bool), chk l w o = some v ↔ (∀ p ∈ l, 0 ≤ p.at_ ∧ p.at_ < (w.length : Int)) ∧ LineWise (fun p => p.fl) l ∧ app l w = v ∧ ∀ q ∈ l, o (lineOf q.at_) = true → q.fl = false
  | [], w, v, o => by simp [chk, LineWise, app]
  | p :: r, w, v, o => by
    simp only [chk]
    cases hb : badB p w.length o with
    | true =>
      simp only [reduceCtorEq, false_iff]
      rintro ⟨h1, h2, h3, h4⟩
      have := h1 p (by simp)
      simp only [badB, Bool.or_eq_true, decide_eq_true_eq, Bool.and_eq_true] at hb
      rcases hb with (hb | hb) | hb
      · omega
      · omega
      · have := h4 p (by simp) hb.2
        rw [hb.1] at this; cases this
    | false =>
      simp only
      rw [chk_iff r _ v (opens p o), List.length_set]
      simp only [badB, Bool.or_eq_false_iff, decide_eq_false_iff_not, Bool.and_eq_false_iff] at hb
      simp only [List.forall_mem_cons, LineWise, List.pairwise_cons, app]
      constructor
      · rintro ⟨h1, h2, h3, h4⟩
        refine ⟨⟨by omega, h1⟩, ⟨fun q hq hl hf => ?_, h2⟩, h3, fun ho => ?_, fun q hq ho => ?_⟩
        · cases e : p.fl with
          | true => rfl
          | false =>
            have := h4 q hq (by unfold opens; rw [if_pos hl.symm]; simp [e])
            rw [hf] at this; cases this
        · rcases hb.2 with h | h
          · exact h
          · rw [ho] at h; cases h
        · apply h4 q hq
          unfold opens
          split
          · rename_i e; rw [← e, ho]; rfl
          · exact ho
      · rintro ⟨⟨h0, h1⟩, ⟨h5, h2⟩, h3, h6, h4⟩
        refine ⟨h1, h2, h3, fun q hq ho => ?_⟩
        unfold opens at ho
        split at ho
        · rename_i e
          rw [Bool.or_eq_true] at ho
          rcases ho with ho | ho
          · exact h4 q hq (by rw [e]; exact ho)
          · cases e2 : q.fl with
            | false => rfl
            | true =>
              have := h5 q hq e.symm e2
              rw [this] at ho; cases ho
        · exact h4 q hq ho

theorem check_iff {vol per : List Int} {pend : List Pend} : checkB vol per pend = true ↔ OkM vol per pend := by
  constructor
  · intro h
    obtain ⟨h1, h2, h3⟩ := check_parts h
    rw [chk_iff] at h3
    simp only [szB, Bool.and_eq_true, decide_eq_true_eq] at h2
    refine ⟨h1, by omega, ?_, h3.1, h3.2.1, h3.2.2.1⟩
    have := h2.2
    rw [Int.tmod_eq_emod_of_nonneg (by omega)] at this
    omega
  · intro h
    have h3 : chk pend per (fun _ => false) = some vol := by
      rw [chk_iff]
      exact ⟨h.rng, h.ord, h.eq, fun q _ hq => by cases hq⟩
    have hsz := h.sz
    have hmd := h.md
    simp only [checkB, Bool.and_eq_true, decide_eq_true_eq, szB]
    refine ⟨⟨h.len, by omega, ?_⟩, h3⟩
    rw [Int.tmod_eq_emod_of_nonneg (by omega)]
    omega

theorem OkM.vol_at {vol per : List Int} {pend : List Pend} (h : OkM vol per pend) {a : Nat} (ha : a < per.length) : vol.getD a 0 = seen a pend (per.getD a 0) := by
  rw [← h.eq, app_getD pend per a ha]

theorem OkM.put {vol per : List Int} {pend : List Pend} (h : OkM vol per pend) {a v : Int} (h0 : 0 ≤ a) (h1 : a < (vol.length : Int)) : OkM (vol.set a.toNat v) per (pend ++ [⟨a, v, false⟩]) := by
  refine ⟨by rw [List.length_set]; exact h.len, by rw [List.length_set]; exact h.sz, by rw [List.length_set]; exact h.md, fun p hp => ?_, ?_, ?_⟩
  · rcases List.mem_append.1 hp with hp | hp
    · exact h.rng p hp
    · rw [List.mem_singleton] at hp; subst hp
      have := h.len
      exact ⟨h0, by show a < _; omega⟩
  · unfold LineWise
    rw [List.pairwise_append]
    refine ⟨h.ord, List.pairwise_singleton _ _, fun p hp q hq => ?_⟩
    rw [List.mem_singleton] at hq; subst hq
    intro _ hf; cases hf
  · rw [app_append, h.eq]; rfl

theorem app_flush (line : Int) : ∀ (l : List Pend) (w : List Int), app (flushP line l) w = app l w
  | [], w => rfl
  | p :: r, w => by
    show app ((if lineOf p.at_ = line then { p with fl := true } else p) :: flushP line r) w = _
    rw [app, app, app_flush line r]
    split <;> rfl
theorem OkM.flush {vol per : List Int} {pend : List Pend} (h : OkM vol per pend) (line : Int) : OkM vol per (flushP line pend) := by
  refine ⟨h.len, h.sz, h.md, fun p hp => ?_, ?_, by rw [app_flush]; exact h.eq⟩
  · obtain ⟨q, hq, rfl⟩ := List.mem_map.1 hp
    have := h.rng q hq
    split <;> exact this
  · unfold LineWise flushP
    rw [List.pairwise_map]
    refine h.ord.imp ?_
    intro p q hpq
    by_cases e1 : lineOf p.at_ = line <;> by_cases e2 : lineOf q.at_ = line
    · rw [if_pos e1, if_pos e2]; intros; rfl
    · rw [if_pos e1, if_neg e2]; intros; rfl
    · rw [if_neg e1, if_pos e2]; intro e; exact absurd (e.trans e2) e1
    · rw [if_neg e1, if_neg e2]; exact hpq
theorem OkM.keep {vol per : List Int} {pend : List Pend} (h : OkM vol per pend) {f : Pend → Bool} (hf : LineWise f pend) : OkM vol (keepW f pend per) (keepP f pend) := by
  rw [keepW_app]
  refine ⟨by rw [app_len]; exact h.len, h.sz, h.md, fun p hp => ?_, List.Pairwise.filter _ h.ord, ?_⟩
  · rw [app_len]; exact h.rng p (List.mem_filter.1 hp).1
  · apply ext_getD
    · rw [app_len, app_len]; exact h.len.symm
    intro i hi
    rw [app_len, app_len] at hi
    unfold keepP
    rw [app_getD _ _ _ (by rw [app_len]; exact hi), app_getD _ _ _ hi, seen_split (fun p hp => (h.rng p hp).1) hf, h.vol_at hi]
theorem lineWise_line (line : Int) (l : List Pend) : LineWise (fLn line) l := by
  unfold LineWise fLn
  rw [List.pairwise_iff_forall_sublist]
  intro p q _ e h
  rw [e]; exact h
theorem OkM.fence {vol per : List Int} {pend : List Pend} (h : OkM vol per pend) : OkM vol (keepW fFl pend per) (keepP fFl pend) := h.keep h.ord
theorem OkM.evict {vol per : List Int} {pend : List Pend} (h : OkM vol per pend) (line : Int) : OkM vol (keepW (fLn line) pend per) (keepP (fLn line) pend) := h.keep (lineWise_line line pend)

/-- who is kept by a crash: of each line as many more as it says -/
def lessL (p : Pend) (left : Int → Int) : Int → Int := fun j => if j = lineOf p.at_ then (if left (lineOf p.at_) > 1 then left (lineOf p.at_) else 1) - 1 else left j
def crashK : List Pend → (Int → Int) → List Pend
  | [], _ => []
  | p :: r, left => match decide (0 < left (lineOf p.at_)) with
    | true => p :: crashK r (lessL p left)
    | false => crashK r (lessL p left)
def leftF (keep : List Int) : Int → Int := fun j => if 0 ≤ j then keep.getD j.toNat 0 else 0
/-- words that are words -/
def i64s (l : List Int) : Prop := ∀ x ∈ l, x < 9223372036854775808
theorem leftF_lt {keep : List Int} (h : i64s keep) (j : Int) : leftF keep j < 9223372036854775808 := by
  unfold leftF
  split
  · rw [List.getD_eq_getElem?_getD]
    cases e : keep[j.toNat]? with
    | none => decide
    | some x => exact h x (List.mem_of_getElem? e)
  · decide
theorem leftF_nil : leftF [] = fun _ => 0 := by
  funext j; unfold leftF; split <;> simp
theorem leftF_next (keep : List Int) {k : Nat} (h : k < keep.length) : leftF (keep.take (k + 1)) = fun j => if j = (k : Int) then keep.getD k 0 else leftF (keep.take k) j := by
  funext j
  unfold leftF
  by_cases e : j = (k : Int)
  · subst e
    rw [if_pos rfl, if_pos (by omega), Int.toNat_natCast, take_next keep k 0 h, getD_append_right _ _ _ _ (by rw [List.length_take]; omega)]
    have : k - (keep.take k).length = 0 := by simp; omega
    rw [this]; rfl
  · rw [if_neg e]
    by_cases h0 : 0 ≤ j
    · rw [if_pos h0, if_pos h0, List.getD_eq_getElem?_getD, List.getD_eq_getElem?_getD, List.getElem?_take, List.getElem?_take]
      by_cases h1 : j.toNat < k
      · rw [if_pos (by omega), if_pos h1]
      · rw [if_neg (by omega), if_neg h1]
    · rw [if_neg h0, if_neg h0]
def crashW (keep : List Int) (per : List Int) (pend : List Pend) : List Int := app (crashK pend (leftF keep)) per

theorem crashK_line (L : Int) : ∀ (l : List Pend) (left : Int → Int), (crashK l left).filter (fLn L) = (l.filter (fLn L)).take (left L).toNat
  | [], left => by simp [crashK]
  | p :: r, left => by
    have ih := crashK_line L r (lessL p left)
    simp only [crashK]
    by_cases e : lineOf p.at_ = L
    · have ef : fLn L p = true := decide_eq_true e
      have el : (lessL p left L).toNat = (left L).toNat - 1 := by
        unfold lessL; rw [if_pos e.symm, e]; split <;> omega
      by_cases h : 0 < left (lineOf p.at_)
      · rw [decide_eq_true h]
        simp only
        rw [List.filter_cons_of_pos ef, List.filter_cons_of_pos ef, ih, el]
        rw [e] at h
        obtain ⟨n, hn⟩ : ∃ n, (left L).toNat = n + 1 := ⟨(left L).toNat - 1, by omega⟩
        rw [hn]; rfl
      · rw [decide_eq_false h]
        simp only
        rw [List.filter_cons_of_pos ef, ih, el]
        rw [e] at h
        have : (left L).toNat = 0 := by omega
        rw [this]; rfl
    · have ef : ¬ fLn L p = true := by unfold fLn; simp [e]
      have el : lessL p left L = left L := by unfold lessL; rw [if_neg (fun h => e h.symm)]
      rw [el] at ih
      split
      · rw [List.filter_cons_of_neg ef, List.filter_cons_of_neg ef, ih]
      · rw [List.filter_cons_of_neg ef, ih]
theorem crashK_sub : ∀ (l : List Pend) (left : Int → Int), (crashK l left).Sublist l
  | [], left => List.Sublist.refl _
  | p :: r, left => by
    simp only [crashK]
    split
    · exact (crashK_sub r _).cons_cons p
    · exact (crashK_sub r _).cons p
theorem crashW_len (keep per : List Int) (pend : List Pend) : (crashW keep per pend).length = per.length := app_len _ _
/-- what a crash keeps of a place: of its line as many more as it says -/
theorem crash_at {vol per : List Int} {pend : List Pend} (h : OkM vol per pend) (keep : List Int) {a : Nat} (ha : a < per.length) :
    (crashW keep per pend).getD a 0 = seen a ((pend.filter (fLn ((a : Int) / 8))).take (leftF keep ((a : Int) / 8)).toNat) (per.getD a 0) := by
  unfold crashW
  rw [app_getD _ _ _ ha, ← crashK_line, seen_filter]
  intro p hp e
  have := h.rng p ((crashK_sub _ _).subset hp)
  have := h.len
  have := h.sz
  unfold fLn
  rw [decide_eq_true_eq, lineOf_eq (by omega) (by omega)]
  omega
theorem place_first {vol per : List Int} {pend : List Pend} (h : smallM vol per pend) (line : Int) : (!checkB vol per pend || !(decide (0 ≤ line) && decide (line < ((vol.length / 8 : Nat) : Int)))) = !placeB vol per pend (firstI vol line) := by
  obtain ⟨h1, h2, h3⟩ := h
  unfold roomy at h1 h2 h3
  unfold placeB firstI
  cases checkB vol per pend
  · simp
  · by_cases c : 0 ≤ line ∧ line < ((vol.length / 8 : Nat) : Int)
    · have e : (decide (line < 0) || decide (((vol.length / 8 : Nat) : Int) ≤ line)) = false := by
        rw [Bool.or_eq_false_iff, decide_eq_false_iff_not, decide_eq_false_iff_not]; omega
      rw [if_neg (by rw [e]; decide), decide_eq_true c.1, decide_eq_true c.2, decide_eq_true (show 0 ≤ line * 8 by omega), decide_eq_true (show line * 8 < (vol.length : Int) by omega)]; rfl
    · have e : (decide (line < 0) || decide (((vol.length / 8 : Nat) : Int) ≤ line)) = true := by
        rw [Bool.or_eq_true, decide_eq_true_eq, decide_eq_true_eq]; omega
      rw [if_pos e]
      have : (decide (0 ≤ line) && decide (line < ((vol.length / 8 : Nat) : Int))) = false := by
        rw [Bool.and_eq_false_iff, decide_eq_false_iff_not, decide_eq_false_iff_not]; omega
      rw [this]; rfl
def fewB (vol per : List Int) (pend : List Pend) : Bool := decide (vol.length ≤ 300) && decide (per.length ≤ 300) && decide (pend.length ≤ 100)
def newM (l : List Int) : AV := .tup [memV (if szB l.length = true then l else []) (if szB l.length = true then l else []) [], .int .i64 (if szB l.length = true then 0 else 40)]
def crashM (ok : Bool) (keep per : List Int) (pend : List Pend) : AV := .tup [.sl false (.ints .i64 (if ok = true then crashW keep per pend else [])), .int .i64 (if ok = true then 0 else 40)]
section
variable {vol per : List Int} {pend : List Pend} {a v line : Int} {f : Pend → Bool} {keep : List Int}
theorem putM_ok (h : placeB vol per pend a = true) : putM vol per pend a v = .tup [memV (vol.set a.toNat v) per (pend ++ [⟨a, v, false⟩]), .int .i64 0] := by unfold putM; simp only [h, if_true]
theorem putM_no (h : placeB vol per pend a = false) : putM vol per pend a v = .tup [memV vol per pend, .int .i64 40] := by unfold putM; rw [h]; rfl
theorem flushM_ok (h : placeB vol per pend (firstI vol line) = true) : flushM vol per pend line = .tup [memV vol per (flushP line pend), .int .i64 0] := by unfold flushM; simp only [h, if_true]
theorem flushM_no (h : placeB vol per pend (firstI vol line) = false) : flushM vol per pend line = .tup [memV vol per pend, .int .i64 40] := by unfold flushM; rw [h]; rfl
theorem fenceM_ok : fenceM f true vol per pend = .tup [memV vol (keepW f pend per) (keepP f pend), .int .i64 0] := rfl
theorem fenceM_no : fenceM f false vol per pend = .tup [memV vol per pend, .int .i64 40] := rfl
theorem crashM_ok : crashM true keep per pend = .tup [.sl false (.ints .i64 (crashW keep per pend)), .int .i64 0] := rfl
theorem crashM_no : crashM false keep per pend = .tup [.sl false (.ints .i64 []), .int .i64 40] := rfl
theorem newM_ok {l : List Int} (h : szB l.length = true) : newM l = .tup [memV l l [], .int .i64 0] := by unfold newM; simp only [h, if_true]
theorem newM_no {l : List Int} (h : szB l.length = false) : newM l = .tup [memV [] [] [], .int .i64 40] := by unfold newM; rw [h]; rfl
theorem place_iff : placeB vol per pend a = true ↔ (0 ≤ a ∧ a < (vol.length : Int)) ∧ OkM vol per pend := by
  simp only [placeB, Bool.and_eq_true, decide_eq_true_eq, check_iff]
theorem OkM.small (h : OkM vol per pend) (hp : pend.length ≤ 1000000) : smallM vol per pend := by
  have := h.sz; have := h.len
  unfold smallM roomy; omega
theorem OkM.first (h : OkM vol per pend) (h0 : 0 ≤ line) (h1 : line < ((vol.length / 8 : Nat) : Int)) : firstI vol line = line * 8 ∧ placeB vol per pend (firstI vol line) = true := by
  have e : firstI vol line = line * 8 := by
    unfold firstI
    rw [if_neg]
    simp only [Bool.or_eq_true, decide_eq_true_eq]; omega
  refine ⟨e, place_iff.2 ⟨?_, h⟩⟩
  rw [e]; omega
theorem first_no (hn : ¬ (0 ≤ line ∧ line < ((vol.length / 8 : Nat) : Int))) : placeB vol per pend (firstI vol line) = false := by
  have e : firstI vol line = -1 := by
    unfold firstI
    rw [if_pos]
    simp only [Bool.or_eq_true, decide_eq_true_eq]; omega
  rw [e]
  unfold placeB; rfl
theorem flushP_len (line : Int) (l : List Pend) : (flushP line l).length = l.length := by simp [flushP]
theorem keepP_len (f : Pend → Bool) (l : List Pend) : (keepP f l).length ≤ l.length := List.length_filter_le _ _
theorem few_iff : fewB vol per pend = true ↔ vol.length ≤ 300 ∧ per.length ≤ 300 ∧ pend.length ≤ 100 := by
  simp only [fewB, Bool.and_eq_true, decide_eq_true_eq, and_assoc]
theorem wf_i64s {l : List Int} (h : wfL (.ints .i64 l)) : i64s l := fun x hx => (wf_64 (h x hx)).2
/-- a line's own, pending, once it was kept -/
theorem keep_line (h : OkM vol per pend) (hf : LineWise f pend) (hl : ∀ p ∈ pend, lineOf p.at_ = line → f p = true) {i : Nat} (hi : i < per.length) (hli : (i : Int) / 8 = line) :
    (∀ p ∈ keepP f pend, lineOf p.at_ ≠ line) ∧ (keepW f pend per).getD i 0 = vol.getD i 0 ∧ ∀ keep, (crashW keep (keepW f pend per) (keepP f pend)).getD i 0 = vol.getD i 0 := by
  have hn : ∀ p ∈ keepP f pend, lineOf p.at_ ≠ line := by
    intro p hp e
    obtain ⟨h1, h2⟩ := List.mem_filter.1 hp
    rw [hl p h1 e] at h2; cases h2
  have ho := h.keep hf
  have hna : ∀ p ∈ keepP f pend, p.at_.toNat ≠ i := by
    intro p hp e
    have hr := ho.rng p hp
    have hz := h.sz
    have hln := ho.len
    apply hn p hp
    rw [lineOf_eq hr.1 (by omega), ← hli]
    omega
  have hlen : i < (keepW f pend per).length := by rw [keepW_len]; exact hi
  refine ⟨hn, ?_, fun keep => ?_⟩
  · have := ho.vol_at hlen
    rw [seen_none i _ _ hna] at this
    exact this.symm
  · rw [crash_at ho keep hlen, seen_none]
    · have := ho.vol_at hlen
      rw [seen_none i _ _ hna] at this
      exact this.symm
    · intro p hp; exact hna p (List.mem_filter.1 ((List.take_sublist _ _).subset hp)).1
end
theorem OkM.of_put {vol per : List Int} {pend : List Pend} (h : OkM vol per pend) {a v : Int} (h0 : 0 ≤ a) (h1 : a < (vol.length : Int)) : checkB (vol.set a.toNat v) per (pend ++ [⟨a, v, false⟩]) = true := check_iff.2 (h.put h0 h1)
theorem set_set_comm {l : List Int} {i j : Nat} {x y : Int} (h : i ≠ j) : (l.set i x).set j y = (l.set j y).set i x := List.set_comm _ _ h
theorem crash_none {vol per : List Int} {pend : List Pend} (h : OkM vol per pend) : crashW [] per pend = per := by
  apply ext_getD (crashW_len _ _ _)
  intro i hi
  rw [crashW_len] at hi
  rw [crash_at h [] hi, leftF_nil]; rfl
theorem fLn_at {vol per : List Int} {pend : List Pend} (h : OkM vol per pend) {p : Pend} (hp : p ∈ pend) {i : Nat} : p.at_.toNat = i → fLn ((i : Int) / 8) p = true := by
  intro e
  have hr := h.rng p hp
  have := h.len
  have := h.sz
  unfold fLn
  rw [decide_eq_true_eq, lineOf_eq hr.1 (by omega)]
  omega
theorem crash_all {vol per : List Int} {pend : List Pend} (h : OkM vol per pend) {n : Nat} (hn : vol.length / 8 ≤ n) {c : Int} (hc : (pend.length : Int) ≤ c) : crashW (List.replicate n c) per pend = vol := by
  have hlen := h.len
  have hmd := h.md
  apply ext_getD (by rw [crashW_len]; exact hlen.symm)
  intro i hi
  rw [crashW_len] at hi
  rw [crash_at h _ hi, h.vol_at hi]
  have hl : leftF (List.replicate n c) ((i : Int) / 8) = c := by
    unfold leftF
    rw [if_pos (by omega), List.getD_eq_getElem?_getD, List.getElem?_replicate, if_pos (by omega)]; rfl
  have hfl := List.length_filter_le (fLn ((i : Int) / 8)) pend
  rw [hl, List.take_of_length_le (by omega)]
  exact seen_filter i _ _ _ fun p hp e => fLn_at h hp e
/-- what a crash keeps, line by line -/
def wantL (keep : List Int) (pend : List Pend) (j : Nat) : List Pend := (pend.filter (fLn j)).take (leftF keep j).toNat
def wants (keep : List Int) (pend : List Pend) : Nat → List Pend
  | 0 => []
  | n + 1 => wants keep pend n ++ wantL keep pend n
theorem wants_at {vol per : List Int} {pend : List Pend} (h : OkM vol per pend) (keep : List Int) (i : Nat) (d : Int) : ∀ n, seen i (wants keep pend n) d = if i / 8 < n then seen i (wantL keep pend (i / 8)) d else d
  | 0 => rfl
  | n + 1 => by
    rw [wants, seen_append, wants_at h keep i d n]
    have hn : i / 8 ≠ n → ∀ d, seen i (wantL keep pend n) d = d := fun hne d => by
      apply seen_none
      intro p hp e
      unfold wantL at hp
      obtain ⟨hp, hf⟩ := List.mem_filter.1 ((List.take_sublist _ _).subset hp)
      have := fLn_at h hp e
      unfold fLn at this hf
      rw [decide_eq_true_eq] at this hf
      rw [this] at hf
      omega
    by_cases e : i / 8 = n
    · subst e
      rw [if_neg (by omega), if_pos (by omega)]
    · rw [hn e]
      by_cases e2 : i / 8 < n
      · rw [if_pos e2, if_pos (by omega)]
      · rw [if_neg e2, if_neg (by omega)]
theorem wants_crash {vol per : List Int} {pend : List Pend} (h : OkM vol per pend) (keep : List Int) : app (wants keep pend (vol.length / 8)) per = crashW keep per pend := by
  have hlen := h.len
  have hmd := h.md
  apply ext_getD (by rw [app_len, crashW_len])
  intro i hi
  rw [app_len] at hi
  rw [app_getD _ _ _ hi, crash_at h keep hi, wants_at h, if_pos (by omega)]
  unfold wantL
  rw [show ((i / 8 : Nat) : Int) = (i : Int) / 8 from by omega]
end Lam
namespace Lam
open Go
set_option linter.unusedVariables false
set_option linter.unnecessarySimpa false
set_option linter.unusedSimpArgs false

structure Mm where
  vol : List Int
  per : List Int
  pend : List Pend
  deriving DecidableEq
def Mm.V (m : Mm) : AV := memV m.vol m.per m.pend
attribute [go_sem] Mm.V
def Mm.ok (m : Mm) : Prop := OkM m.vol m.per m.pend
def Mm.okB (m : Mm) : Bool := checkB m.vol m.per m.pend
theorem Mm.ok_iff {m : Mm} : m.okB = true ↔ m.ok := check_iff
def Mm.small (m : Mm) : Prop := smallM m.vol m.per m.pend
/-- a small step that may be -/
def mmay (x : Mic) (n : Int) : Bool := decide (0 ≤ x.at_) && decide (x.at_ < (if x.kind = 2 then IntKind.i64.wrap (n.tdiv 8) else if x.kind = 1 then n else 0)) && (decide (x.kind = 1) || decide (x.val = 0))
def sizedB (n : Int) : Bool := decide (0 ≤ n) && decide (n ≤ 4096) && decide (n.tmod 8 = 0)
def stepsB (l : List Mic) (n : Int) : Bool := sizedB n && l.all (mmay · n)
def store (m : Mm) (a v : Int) : Mm := ⟨m.vol.set a.toNat v, m.per, m.pend ++ [⟨a, v, false⟩]⟩
def persist (m : Mm) (line : Int) : Mm := ⟨m.vol, keepW fFl (flushP line m.pend) m.per, keepP fFl (flushP line m.pend)⟩
def stepM (m : Mm) (x : Mic) : Mm := if x.kind = 1 then store m x.at_ x.val else persist m x.at_
def runS (m : Mm) (l : List Mic) : Mm := l.foldl stepM m

theorem runS_nil (m : Mm) : runS m [] = m := rfl
theorem runS_cons (m : Mm) (x : Mic) (l : List Mic) : runS m (x :: l) = runS (stepM m x) l := rfl
theorem runS_append (m : Mm) (a b : List Mic) : runS m (a ++ b) = runS (runS m a) b := List.foldl_append
/-- of a memory of n words -/
def MayN (x : Mic) (n : Nat) : Prop := (x.kind = 1 ∧ 0 ≤ x.at_ ∧ x.at_ < (n : Int)) ∨ (x.kind = 2 ∧ 0 ≤ x.at_ ∧ x.at_ < ((n / 8 : Nat) : Int) ∧ x.val = 0)
theorem mmay_iff {x : Mic} {n : Nat} (hn : n ≤ 4096) : mmay x n = true ↔ MayN x n := by
  have e : IntKind.i64.wrap ((n : Int).tdiv 8) = ((n / 8 : Nat) : Int) := by rw [tdiv8]; exact w64 (by omega) (by omega)
  simp only [mmay, e, Bool.and_eq_true, decide_eq_true_eq, Bool.or_eq_true]
  unfold MayN
  by_cases h2 : x.kind = 2
  · rw [if_pos h2]; omega
  · rw [if_neg h2]
    by_cases h1 : x.kind = 1
    · rw [if_pos h1]; omega
    · rw [if_neg h1]; omega
theorem store_len (m : Mm) (a v : Int) : (store m a v).vol.length = m.vol.length := by simp [store]
theorem persist_vol (m : Mm) (l : Int) : (persist m l).vol = m.vol := rfl
theorem stepM_len (m : Mm) (x : Mic) : (stepM m x).vol.length = m.vol.length := by unfold stepM; split; exact store_len _ _ _; rfl
theorem runS_len : ∀ (l : List Mic) (m : Mm), (runS m l).vol.length = m.vol.length
  | [], m => rfl
  | x :: l, m => by rw [runS_cons, runS_len l, stepM_len]
theorem stepM_per (m : Mm) (x : Mic) : (stepM m x).per.length = m.per.length := by
  unfold stepM; split
  · rfl
  · exact keepW_len _ _ _
theorem runS_per : ∀ (l : List Mic) (m : Mm), (runS m l).per.length = m.per.length
  | [], m => rfl
  | x :: l, m => by rw [runS_cons, runS_per l, stepM_per]
theorem persist_ok {m : Mm} (h : m.ok) (l : Int) : (persist m l).ok := (OkM.flush h l).fence
theorem stepM_ok {m : Mm} (h : m.ok) {x : Mic} (hx : MayN x m.vol.length) : (stepM m x).ok := by
  unfold stepM
  rcases hx with ⟨hk, h0, h1⟩ | ⟨hk, _⟩
  · rw [if_pos hk]; exact OkM.put h h0 h1
  · rw [if_neg (by omega)]; exact persist_ok h _
theorem runS_ok : ∀ (l : List Mic) {m : Mm}, m.ok → (∀ x ∈ l, MayN x m.vol.length) → (runS m l).ok
  | [], m, h, _ => h
  | x :: l, m, h, hl => by
    rw [runS_cons]
    refine runS_ok l (stepM_ok h (hl x (by simp))) fun y hy => ?_
    rw [stepM_len]; exact hl y (by simp [hy])
theorem runS_pend_le : ∀ (l : List Mic) (m : Mm), (runS m l).pend.length ≤ m.pend.length + l.length
  | [], m => by simp [runS_nil]
  | x :: l, m => by
    rw [runS_cons]
    refine Nat.le_trans (runS_pend_le l _) ?_
    have : (stepM m x).pend.length ≤ m.pend.length + 1 := by
      unfold stepM
      split
      · simp [store]
      · refine Nat.le_trans (List.length_filter_le _ _) ?_
        simp [flushP]
    simp only [List.length_cons]; omega

/-- persisting, place by place -/
def gL (line : Int) (p : Pend) : Bool := p.fl || fLn line p
theorem flush_filter (line : Int) (f : Pend → Bool) (hf : ∀ p, f p = fFl p) : ∀ l : List Pend, (flushP line l).filter f = (l.filter (gL line)).map fun p => if lineOf p.at_ = line then { p with fl := true } else p
  | [] => rfl
  | p :: r => by
    have ih := flush_filter line f hf r
    show ((if lineOf p.at_ = line then { p with fl := true } else p) :: flushP line r).filter f = _
    by_cases e : lineOf p.at_ = line
    · rw [if_pos e, List.filter_cons_of_pos (by rw [hf]; rfl), List.filter_cons_of_pos (by simp [gL, fLn, e]), ih, List.map_cons, if_pos e]
    · rw [if_neg e]
      cases h : p.fl with
      | true => rw [List.filter_cons_of_pos (by rw [hf]; exact h), List.filter_cons_of_pos (by simp [gL, h]), ih, List.map_cons, if_neg e]
      | false => rw [List.filter_cons_of_neg (by rw [hf]; simp [fFl, h]), List.filter_cons_of_neg (by simp [gL, fLn, h, e]), ih]
theorem persist_pend (m : Mm) (line : Int) : (persist m line).pend = m.pend.filter fun p => !gL line p := by
  show keepP fFl (flushP line m.pend) = _
  unfold keepP
  induction m.pend with
  | nil => rfl
  | cons p r ih =>
    show ((if lineOf p.at_ = line then { p with fl := true } else p) :: flushP line r).filter _ = _
    by_cases e : lineOf p.at_ = line
    · rw [if_pos e, List.filter_cons_of_neg (by simp [fFl]), List.filter_cons_of_neg (by simp [gL, fLn, e]), ih]
    · rw [if_neg e]
      cases h : p.fl with
      | true => rw [List.filter_cons_of_neg (by simp [fFl, h]), List.filter_cons_of_neg (by simp [gL, h]), ih]
      | false => rw [List.filter_cons_of_pos (by simp [fFl, h]), List.filter_cons_of_pos (by simp [gL, fLn, h, e]), ih]
theorem app_map (g : Pend → Pend) (hg : ∀ p, (g p).at_ = p.at_ ∧ (g p).val = p.val) : ∀ (l : List Pend) (w : List Int), app (l.map g) w = app l w
  | [], w => rfl
  | p :: r, w => by rw [List.map_cons, app, app, (hg p).1, (hg p).2, app_map g hg r]
theorem persist_per (m : Mm) (line : Int) : (persist m line).per = app (m.pend.filter (gL line)) m.per := by
  show keepW fFl (flushP line m.pend) m.per = _
  rw [keepW_app, flush_filter line _ (fun _ => rfl), app_map]
  intro p; split <;> exact ⟨rfl, rfl⟩
theorem persist_none {m : Mm} {line : Int} : ∀ p ∈ (persist m line).pend, lineOf p.at_ ≠ line := by
  intro p hp
  rw [persist_pend, List.mem_filter] at hp
  have := hp.2
  simp only [gL, fLn, Bool.not_or, Bool.and_eq_true, Bool.not_eq_true', decide_eq_false_iff_not] at this
  exact this.2
theorem persist_sub (m : Mm) (line : Int) : (persist m line).pend.Sublist m.pend := by rw [persist_pend]; exact List.filter_sublist
/-- nothing of a place is pending: it is kept as it is seen -/
theorem OkM.kept {vol per : List Int} {pend : List Pend} (h : OkM vol per pend) {a : Nat} (ha : a < per.length) (hn : ∀ p ∈ pend, p.at_.toNat ≠ a) : per.getD a 0 = vol.getD a 0 := by
  rw [h.vol_at ha, seen_none a pend _ hn]
theorem OkM.all_kept {vol per : List Int} (h : OkM vol per []) : per = vol := h.eq
theorem crash_kept {vol per : List Int} {pend : List Pend} (h : OkM vol per pend) (keep : List Int) {a : Nat} (ha : a < per.length) (hn : ∀ p ∈ pend, p.at_.toNat ≠ a) : (crashW keep per pend).getD a 0 = vol.getD a 0 := by
  rw [crash_at h keep ha, seen_none]
  · exact h.kept ha hn
  · intro p hp; exact hn p (List.mem_filter.1 ((List.take_sublist _ _).subset hp)).1

/-! ### Steps whose lines are persisted as they are left: a crash leaves a beginning -/
def isS (x : Mic) : Bool := decide (x.kind = 1)
def storesOf (l : List Mic) : List Pend := (l.filter isS).map fun x => ⟨x.at_, x.val, false⟩
/-- each store is in the line of the stores ahead that are not persisted yet -/
def Goods : Option Int → List Mic → Prop
  | _, [] => True
  | o, x :: r => if x.kind = 1 then (∀ L, o = some L → lineOf x.at_ = L) ∧ Goods (some (lineOf x.at_)) r else (∀ L, o = some L → x.at_ = L) ∧ Goods none r
structure Begun (w : List Int) (m : Mm) (S : List Pend) (o : Option Int) : Prop where
  ok : m.ok
  cut : ∃ i, i ≤ S.length ∧ m.per = app (S.take i) w ∧ m.pend = S.drop i
  one : ∀ p ∈ m.pend, o = some (lineOf p.at_) ∧ p.fl = false
  all : m.vol = app S w
theorem Begun.store {w : List Int} {m : Mm} {S : List Pend} {o : Option Int} (h : Begun w m S o) {x : Mic} (hk : x.kind = 1) (hx : MayN x m.vol.length) (ho : ∀ L, o = some L → lineOf x.at_ = L) :
    Begun w (stepM m x) (S ++ [⟨x.at_, x.val, false⟩]) (some (lineOf x.at_)) := by
  have e : stepM m x = Lam.store m x.at_ x.val := by unfold stepM; rw [if_pos hk]
  refine ⟨stepM_ok h.ok hx, ?_, ?_, ?_⟩
  · obtain ⟨i, hi, h1, h2⟩ := h.cut
    refine ⟨i, by simp; omega, ?_, ?_⟩
    · rw [e, List.take_append_of_le_length hi]; exact h1
    · rw [e, List.drop_append_of_le_length hi, ← h2]; rfl
  · intro p hp
    rw [e] at hp
    rcases List.mem_append.1 hp with hp | hp
    · obtain ⟨h1, h2⟩ := h.one p hp
      exact ⟨by rw [ho _ h1], h2⟩
    · rw [List.mem_singleton] at hp; subst hp; exact ⟨rfl, rfl⟩
  · rw [e, app_append, ← h.all]; rfl
theorem Begun.persist {w : List Int} {m : Mm} {S : List Pend} {o : Option Int} (h : Begun w m S o) {x : Mic} (hk : x.kind ≠ 1) (ho : ∀ L, o = some L → x.at_ = L) :
    Begun w (stepM m x) S none ∧ (stepM m x).pend = [] := by
  have e : stepM m x = Lam.persist m x.at_ := by unfold stepM; rw [if_neg hk]
  have hp : (Lam.persist m x.at_).pend = [] := by
    rw [persist_pend, List.filter_eq_nil_iff]
    intro p hp
    obtain ⟨h1, h2⟩ := h.one p hp
    have := ho _ h1
    simp [gL, fLn, this]
  have hok : (stepM m x).ok := by rw [e]; exact persist_ok h.ok _
  refine ⟨⟨hok, ⟨S.length, Nat.le_refl _, ?_, ?_⟩, ?_, ?_⟩, by rw [e]; exact hp⟩
  · have : (stepM m x).per = (stepM m x).vol := by
      have := hok
      rw [e] at this ⊢
      unfold Mm.ok at this
      rw [hp] at this
      exact this.all_kept
    rw [this, List.take_length, e]; exact h.all
  · rw [e, hp, List.drop_length]
  · rw [e, hp]; intro p hp; cases hp
  · rw [e]; exact h.all
theorem begun_run : ∀ (l : List Mic) {w : List Int} {m : Mm} {S : List Pend} {o : Option Int}, Begun w m S o → Goods o l → (∀ x ∈ l, MayN x m.vol.length) → ∃ o', Begun w (runS m l) (S ++ storesOf l) o'
  | [], w, m, S, o, h, _, _ => ⟨o, by simpa [storesOf, runS_nil] using h⟩
  | x :: r, w, m, S, o, h, hg, hm => by
    rw [runS_cons]
    have hm' : ∀ y ∈ r, MayN y (stepM m x).vol.length := fun y hy => by rw [stepM_len]; exact hm y (by simp [hy])
    unfold Goods at hg
    by_cases hk : x.kind = 1
    · rw [if_pos hk] at hg
      obtain ⟨o', h'⟩ := begun_run r (h.store hk (hm x (by simp)) hg.1) hg.2 hm'
      refine ⟨o', ?_⟩
      have : storesOf (x :: r) = ⟨x.at_, x.val, false⟩ :: storesOf r := by simp [storesOf, isS, hk]
      rw [this, List.append_cons]; exact h'
    · rw [if_neg hk] at hg
      obtain ⟨o', h'⟩ := begun_run r (h.persist hk hg.1).1 hg.2 hm'
      refine ⟨o', ?_⟩
      have : storesOf (x :: r) = storesOf r := by simp [storesOf, isS, hk]
      rw [this]; exact h'
theorem good_take : ∀ (l : List Mic) (o : Option Int) (k : Nat), Goods o l → Goods o (l.take k)
  | [], o, k, h => by simp [Goods]
  | x :: r, o, 0, h => by simp [Goods]
  | x :: r, o, k + 1, h => by
    rw [List.take_succ_cons]
    unfold Goods at h ⊢
    split <;> rename_i hk
    · rw [if_pos hk] at h; exact ⟨h.1, good_take r _ k h.2⟩
    · rw [if_neg hk] at h; exact ⟨h.1, good_take r _ k h.2⟩
/-- a crash keeps of a list that is of one line a beginning -/
theorem crashK_one (left : Int → Int) (L : Int) (l : List Pend) (h : ∀ p ∈ l, lineOf p.at_ = L) : crashK l left = l.take (left L).toNat := by
  have := crashK_line L l left
  have e : ∀ l' : List Pend, (∀ p ∈ l', lineOf p.at_ = L) → l'.filter (fLn L) = l' := fun l' h' => List.filter_eq_self.2 fun p hp => decide_eq_true (h' p hp)
  rw [e l h, e _ fun p hp => h p ((crashK_sub _ _).subset hp)] at this
  exact this
theorem Begun.crash {w : List Int} {m : Mm} {S : List Pend} {o : Option Int} (h : Begun w m S o) (keep : List Int) : ∃ j, j ≤ S.length ∧ crashW keep m.per m.pend = app (S.take j) w ∧ (m.pend = [] → j = S.length) := by
  obtain ⟨i, hi, h1, h2⟩ := h.cut
  by_cases hn : m.pend = []
  · refine ⟨S.length, Nat.le_refl _, ?_, fun _ => rfl⟩
    have : m.per = m.vol := by
      have := h.ok
      unfold Mm.ok at this
      rw [hn] at this
      exact this.all_kept
    rw [hn]
    show m.per = _
    rw [this, h.all, List.take_length]
  · obtain ⟨p, hp⟩ := List.exists_mem_of_ne_nil _ hn
    obtain ⟨ho, _⟩ := h.one p hp
    have hone : ∀ q ∈ m.pend, lineOf q.at_ = lineOf p.at_ := fun q hq => by
      have := (h.one q hq).1
      rw [ho] at this
      exact (Option.some.inj this).symm
    refine ⟨min S.length (i + (leftF keep (lineOf p.at_)).toNat), by omega, ?_, fun e => absurd e hn⟩
    unfold crashW
    rw [crashK_one _ _ _ hone, h1, h2, ← app_append]
    congr 1
    rw [← List.take_add]
    rcases Nat.le_total S.length (i + (leftF keep (lineOf p.at_)).toNat) with h3 | h3
    · rw [Nat.min_eq_left h3, List.take_of_length_le h3, List.take_length]
    · rw [Nat.min_eq_right h3]
/-! ### What is seen, and kept, of a place -/
def noSt (a : Nat) (x : Mic) : Prop := x.kind = 1 → x.at_.toNat ≠ a
theorem step_seen {m : Mm} {x : Mic} {a : Nat} (h : noSt a x) : (stepM m x).vol.getD a 0 = m.vol.getD a 0 := by
  unfold stepM
  split
  · rename_i hk
    show (m.vol.set _ _).getD a 0 = _
    rw [getD_set, if_neg (fun e => h hk e.1)]
  · rfl
theorem run_seen {a : Nat} : ∀ (l : List Mic) {m : Mm}, (∀ x ∈ l, noSt a x) → (runS m l).vol.getD a 0 = m.vol.getD a 0
  | [], m, h => rfl
  | x :: l, m, h => by rw [runS_cons, run_seen l fun y hy => h y (by simp [hy]), step_seen (h x (by simp))]
theorem step_none {m : Mm} {x : Mic} {a : Nat} (h : noSt a x) (hp : ∀ p ∈ m.pend, p.at_.toNat ≠ a) : ∀ p ∈ (stepM m x).pend, p.at_.toNat ≠ a := by
  unfold stepM
  split
  · rename_i hk
    intro p hq
    rcases List.mem_append.1 hq with hq | hq
    · exact hp p hq
    · rw [List.mem_singleton] at hq; subst hq; exact h hk
  · intro p hq
    exact hp p ((persist_sub m x.at_).subset hq)
theorem run_none {a : Nat} : ∀ (l : List Mic) {m : Mm}, (∀ x ∈ l, noSt a x) → (∀ p ∈ m.pend, p.at_.toNat ≠ a) → ∀ p ∈ (runS m l).pend, p.at_.toNat ≠ a
  | [], m, h, hp => hp
  | x :: l, m, h, hp => by
    rw [runS_cons]
    exact run_none l (fun y hy => h y (by simp [hy])) (step_none (h x (by simp)) hp)
/-- what was stored, and persisted behind it, is kept -/
theorem kept_at {m : Mm} {l : List Mic} (ok : m.ok) (hl : ∀ x ∈ l, MayN x m.vol.length) {i j : Nat} (hij : i < j) (hj : j < l.length) (hi1 : (l.getD i ⟨0, 0, 0⟩).kind = 1) (hj2 : (l.getD j ⟨0, 0, 0⟩).kind = 2)
    (hlj : (l.getD j ⟨0, 0, 0⟩).at_ = lineOf (l.getD i ⟨0, 0, 0⟩).at_) (hno : ∀ x ∈ l.drop (i + 1), ¬ (x.kind = 1 ∧ x.at_ = (l.getD i ⟨0, 0, 0⟩).at_)) (keep : List Int) :
    (crashW keep (runS m l).per (runS m l).pend).getD (l.getD i ⟨0, 0, 0⟩).at_.toNat 0 = (l.getD i ⟨0, 0, 0⟩).val := by
  have hi : i < l.length := by omega
  have hxm := getD_mem l i ⟨0, 0, 0⟩ hi
  have hym := getD_mem l j ⟨0, 0, 0⟩ hj
  have e1 : l = l.take i ++ l.getD i ⟨0, 0, 0⟩ :: l.drop (i + 1) := by rw [← drop_cons l i _ hi, List.take_append_drop]
  have e2 : l.drop (i + 1) = (l.drop (i + 1)).take (j - (i + 1)) ++ l.getD j ⟨0, 0, 0⟩ :: l.drop (j + 1) := by
    have := (List.take_append_drop (j - (i + 1)) (l.drop (i + 1))).symm
    rw [List.drop_drop, show i + 1 + (j - (i + 1)) = j from by omega, drop_cons l j ⟨0, 0, 0⟩ hj] at this
    exact this
  have okE := runS_ok l ok hl
  have lenE := runS_len l m
  generalize hx : l.getD i ⟨0, 0, 0⟩ = x at *
  generalize hy : l.getD j ⟨0, 0, 0⟩ = y at *
  obtain ⟨_, x0, x1⟩ : x.kind = 1 ∧ 0 ≤ x.at_ ∧ x.at_ < (m.vol.length : Int) := by
    rcases hl x hxm with h | h
    · exact h
    · omega
  have hns : ∀ z ∈ l.drop (i + 1), noSt x.at_.toNat z := by
    intro z hz hk e
    have hzm : z ∈ l := List.drop_subset _ _ hz
    rcases hl z hzm with h | h
    · exact hno z hz ⟨hk, by omega⟩
    · omega
  have hlen : x.at_.toNat < m.vol.length := by omega
  have hE : runS m l = runS (stepM (runS m (l.take i)) x) (l.drop (i + 1)) := by
    conv => lhs; rw [e1]
    rw [runS_append, runS_cons]
  have hstore : (stepM (runS m (l.take i)) x).vol.getD x.at_.toNat 0 = x.val := by
    unfold stepM
    rw [if_pos hi1]
    show ((runS m (l.take i)).vol.set _ _).getD _ 0 = _
    rw [getD_set, if_pos ⟨rfl, by rw [runS_len]; exact hlen⟩]
  have hvol : (runS m l).vol.getD x.at_.toNat 0 = x.val := by
    rw [hE, run_seen _ hns, hstore]
  have hpend : ∀ p ∈ (runS m l).pend, p.at_.toNat ≠ x.at_.toNat := by
    rw [hE, e2, runS_append, runS_cons]
    apply run_none
    · intro z hz
      exact hns z (by rw [e2]; simp [hz])
    · have hyp : ∀ q : Mm, stepM q y = persist q y.at_ := fun q => by unfold stepM; rw [if_neg (by omega)]
      rw [hyp]
      have okq : (runS (stepM (runS m (l.take i)) x) ((l.drop (i + 1)).take (j - (i + 1)))).ok := by
        rw [← runS_cons, ← runS_append]
        refine runS_ok _ ok fun z hz => hl z ?_
        rcases List.mem_append.1 hz with hz | hz
        · exact List.take_subset _ _ hz
        · rcases List.mem_cons.1 hz with rfl | hz
          · exact hxm
          · exact List.drop_subset _ _ (List.take_subset _ _ hz)
      have lq : (runS (stepM (runS m (l.take i)) x) ((l.drop (i + 1)).take (j - (i + 1)))).per.length = m.vol.length := by
        rw [runS_per, stepM_per, runS_per]; exact (OkM.len ok).symm
      intro p hp e
      have hr := OkM.rng okq p ((persist_sub _ _).subset hp)
      have hne := persist_none p hp
      apply hne
      rw [hlj]
      have : p.at_ = x.at_ := by omega
      rw [this]
  rw [crash_kept okE keep (by rw [← OkM.len okE, lenE]; exact hlen) hpend, hvol]
/-! ### A line's own -/
def mline (x : Mic) : Int := if x.kind = 1 then lineOf x.at_ else x.at_
def unfl (m : Mm) : Prop := ∀ p ∈ m.pend, p.fl = false
structure AgreeL (L : Int) (m m' : Mm) : Prop where
  ok : m.ok
  ok' : m'.ok
  len : m.per.length = m'.per.length
  un : unfl m
  un' : unfl m'
  per : ∀ p : Nat, p < m.per.length → (p : Int) / 8 = L → m.per.getD p 0 = m'.per.getD p 0
  pend : m.pend.filter (fLn L) = m'.pend.filter (fLn L)
theorem unfl_step {m : Mm} (h : unfl m) (x : Mic) : unfl (stepM m x) := by
  unfold stepM
  split
  · intro p hp
    rcases List.mem_append.1 hp with hp | hp
    · exact h p hp
    · rw [List.mem_singleton] at hp; subst hp; rfl
  · intro p hp; exact h p ((persist_sub _ _).subset hp)
theorem gL_un {m : Mm} (h : unfl m) (L : Int) : m.pend.filter (gL L) = m.pend.filter (fLn L) ∧ m.pend.filter (fun p => !gL L p) = m.pend.filter (fun p => !fLn L p) := by
  constructor <;> apply List.filter_congr <;> intro p hp <;> simp [gL, h p hp]
/-- what a step makes of a line -/
theorem line_step {m : Mm} (ok : m.ok) (un : unfl m) {x : Mic} {L : Int} : (stepM m x).pend.filter (fLn L) = (if x.kind = 1 then m.pend.filter (fLn L) ++ (if lineOf x.at_ = L then [⟨x.at_, x.val, false⟩] else []) else if x.at_ = L then [] else m.pend.filter (fLn L)) ∧
    ∀ p : Nat, p < m.per.length → (p : Int) / 8 = L → (stepM m x).per.getD p 0 = if x.kind = 1 then m.per.getD p 0 else if x.at_ = L then seen p (m.pend.filter (fLn L)) (m.per.getD p 0) else m.per.getD p 0 := by
  unfold stepM
  by_cases hk : x.kind = 1
  · rw [if_pos hk, if_pos hk]
    refine ⟨?_, fun p _ _ => by rw [if_pos hk]; rfl⟩
    show (m.pend ++ [_]).filter _ = _
    rw [List.filter_append]
    congr 1
    by_cases e : lineOf x.at_ = L
    · rw [if_pos e, List.filter_cons_of_pos (show fLn L ⟨x.at_, x.val, false⟩ = true from decide_eq_true e)]; rfl
    · rw [if_neg e, List.filter_cons_of_neg (by unfold fLn; simpa using e)]; rfl
  · rw [if_neg hk, if_neg hk]
    obtain ⟨g1, g2⟩ := gL_un un x.at_
    refine ⟨?_, fun p hp hL => ?_⟩
    · rw [persist_pend, g2, List.filter_filter]
      by_cases e : x.at_ = L
      · rw [if_pos e, e, List.filter_eq_nil_iff]
        intro p _; simp
      · rw [if_neg e]
        apply List.filter_congr
        intro p _
        unfold fLn
        by_cases e2 : lineOf p.at_ = L
        · rw [e2, decide_eq_true rfl, decide_eq_false (fun h => e h.symm)]; rfl
        · rw [decide_eq_false e2]; rfl
    · rw [persist_per, g1, app_getD _ _ _ hp, if_neg hk]
      by_cases e : x.at_ = L
      · rw [if_pos e, e]
      · rw [if_neg e, seen_none]
        intro q hq e2
        obtain ⟨hq1, hq2⟩ := List.mem_filter.1 hq
        have := fLn_at ok hq1 e2
        unfold fLn at this hq2
        rw [decide_eq_true_eq] at this hq2
        rw [hL] at this
        exact e (hq2.symm.trans this)
theorem AgreeL.same {L : Int} {m m' : Mm} (h : AgreeL L m m') {x : Mic} (hx : MayN x m.vol.length) : AgreeL L (stepM m x) (stepM m' x) := by
  obtain ⟨p1, p2⟩ := line_step h.ok h.un (x := x) (L := L)
  obtain ⟨q1, q2⟩ := line_step h.ok' h.un' (x := x) (L := L)
  have hlen : m.vol.length = m'.vol.length := by rw [OkM.len h.ok, OkM.len h.ok', h.len]
  refine ⟨stepM_ok h.ok hx, stepM_ok h.ok' (by rw [← hlen]; exact hx), by rw [stepM_per, stepM_per]; exact h.len, unfl_step h.un x, unfl_step h.un' x, fun p hp hL => ?_, by rw [p1, q1, h.pend]⟩
  rw [stepM_per] at hp
  rw [p2 p hp hL, q2 p (by rw [← h.len]; exact hp) hL, h.per p hp hL, h.pend]
theorem AgreeL.skip {L : Int} {m m' : Mm} (h : AgreeL L m m') {x : Mic} (hx : MayN x m.vol.length) (hne : mline x ≠ L) : AgreeL L (stepM m x) m' := by
  obtain ⟨p1, p2⟩ := line_step h.ok h.un (x := x) (L := L)
  unfold mline at hne
  refine ⟨stepM_ok h.ok hx, h.ok', by rw [stepM_per]; exact h.len, unfl_step h.un x, h.un', fun p hp hL => ?_, ?_⟩
  · rw [stepM_per] at hp
    rw [p2 p hp hL, ← h.per p hp hL]
    by_cases hk : x.kind = 1
    · rw [if_pos hk]
    · rw [if_neg hk] at hne ⊢; rw [if_neg hne]
  · rw [p1, ← h.pend]
    by_cases hk : x.kind = 1
    · rw [if_pos hk] at hne ⊢
      rw [if_neg hne, List.append_nil]
    · rw [if_neg hk] at hne ⊢; rw [if_neg hne]
theorem AgreeL.sames {L : Int} : ∀ (l : List Mic) {m m' : Mm}, AgreeL L m m' → (∀ x ∈ l, MayN x m.vol.length) → AgreeL L (runS m l) (runS m' l)
  | [], m, m', h, _ => h
  | x :: l, m, m', h, hl => by
    rw [runS_cons, runS_cons]
    exact (h.same (hl x (by simp))).sames l fun y hy => by rw [stepM_len]; exact hl y (by simp [hy])
theorem AgreeL.skips {L : Int} : ∀ (l : List Mic) {m m' : Mm}, AgreeL L m m' → (∀ x ∈ l, MayN x m.vol.length) → (∀ x ∈ l, mline x ≠ L) → AgreeL L (runS m l) m'
  | [], m, m', h, _, _ => h
  | x :: l, m, m', h, hl, hn => by
    rw [runS_cons]
    exact (h.skip (hl x (by simp)) (hn x (by simp))).skips l (fun y hy => by rw [stepM_len]; exact hl y (by simp [hy])) fun y hy => hn y (by simp [hy])
theorem AgreeL.refl {L : Int} {m : Mm} (ok : m.ok) (un : unfl m) : AgreeL L m m := ⟨ok, ok, rfl, un, un, fun _ _ _ => rfl, rfl⟩
theorem unfl_run : ∀ (l : List Mic) {m : Mm}, unfl m → unfl (runS m l)
  | [], _, h => h
  | x :: l, _, h => by rw [runS_cons]; exact unfl_run l (unfl_step h x)
/-- lists of steps of unlike lines: what is kept -/
theorem apart_per {m : Mm} {a b : List Mic} (ok : m.ok) (un : unfl m) (ha : ∀ x ∈ a, MayN x m.vol.length) (hb : ∀ x ∈ b, MayN x m.vol.length) (hab : ∀ x ∈ a, ∀ y ∈ b, mline x ≠ mline y) : (runS m (a ++ b)).per = (runS m (b ++ a)).per := by
  apply ext_getD (by rw [runS_per, runS_per])
  intro p hp
  rw [runS_per] at hp
  rw [runS_append, runS_append]
  have okA := runS_ok a ok ha
  have okB := runS_ok b ok hb
  have key : ∀ (a b : List Mic), (∀ x ∈ a, MayN x m.vol.length) → (∀ x ∈ b, MayN x m.vol.length) → (∀ x ∈ a, mline x ≠ (p : Int) / 8) → (runS (runS m a) b).per.getD p 0 = (runS (runS m b) a).per.getD p 0 := by
    intro a b ha hb hn
    have h1 : AgreeL ((p : Int) / 8) (runS m a) m := (AgreeL.refl ok un).skips a ha hn
    have h2 := h1.sames b fun x hx => by rw [runS_len]; exact hb x hx
    have h3 : AgreeL ((p : Int) / 8) (runS (runS m b) a) (runS m b) := (AgreeL.refl (runS_ok b ok hb) (unfl_run b un)).skips a (fun x hx => by rw [runS_len]; exact ha x hx) hn
    rw [h2.per p (by rw [runS_per, runS_per]; exact hp) rfl, h3.per p (by rw [runS_per, runS_per]; exact hp) rfl]
  by_cases hn : ∀ x ∈ a, mline x ≠ (p : Int) / 8
  · exact key a b ha hb hn
  · simp only [Classical.not_forall, Classical.not_not] at hn
    obtain ⟨x, hx, hxp⟩ := hn
    exact (key b a hb ha fun y hy => by rw [← hxp]; exact (hab x hx y hy).symm).symm
theorem vol_dep {p : Nat} : ∀ (l : List Mic) {m m' : Mm}, m.vol.length = m'.vol.length → m.vol.getD p 0 = m'.vol.getD p 0 → (runS m l).vol.getD p 0 = (runS m' l).vol.getD p 0
  | [], m, m', hl, h => h
  | x :: l, m, m', hl, h => by
    rw [runS_cons, runS_cons]
    refine vol_dep l (by rw [stepM_len, stepM_len]; exact hl) ?_
    unfold stepM
    split
    · show (m.vol.set _ _).getD p 0 = (m'.vol.set _ _).getD p 0
      rw [getD_set, getD_set, hl, h]
    · exact h
theorem apart_vol {m : Mm} {a b : List Mic} (ok : m.ok) (ha : ∀ x ∈ a, MayN x m.vol.length) (hb : ∀ x ∈ b, MayN x m.vol.length) (hab : ∀ x ∈ a, ∀ y ∈ b, mline x ≠ mline y) : (runS m (a ++ b)).vol = (runS m (b ++ a)).vol := by
  apply ext_getD (by rw [runS_len, runS_len])
  intro p hp
  rw [runS_len] at hp
  rw [runS_append, runS_append]
  have key : ∀ (a b : List Mic), (∀ x ∈ a, noSt p x) → (runS (runS m a) b).vol.getD p 0 = (runS (runS m b) a).vol.getD p 0 := by
    intro a b hn
    rw [run_seen a hn (m := runS m b)]
    exact vol_dep b (by rw [runS_len]) (run_seen a hn)
  by_cases hn : ∀ x ∈ a, noSt p x
  · exact key a b hn
  · simp only [Classical.not_forall, noSt, ne_eq, Classical.not_not] at hn
    obtain ⟨x, hx, hk, hxp⟩ := hn
    refine (key b a fun y hy hky e => ?_).symm
    have := hab x hx y hy
    unfold mline at this
    rw [if_pos hk, if_pos hky] at this
    have h1 := ha x hx
    have h2 := hb y hy
    unfold MayN at h1 h2
    have e1 : x.at_ = y.at_ := by omega
    exact this (by rw [e1])
end Lam
namespace Lam
open Go Go.Proofs
set_option linter.unusedVariables false
def T_unit : TyD := (.tup [])
def T_func : TyD := .func
def T_int64 : TyD := (.int .i64)
def T_int : TyD := (.int .i64)
def T_bool : TyD := .bool
def T_uint8 : TyD := (.int .u8)
def T_string : TyD := .str
def T_sl_int : TyD := (.slice (.int .i64))
def T_sl_api_Pending : TyD := (.slice .pend)
def T_api_Mem : TyD := (.strct [(.slice (.int .i64)), (.slice (.int .i64)), (.slice .pend)])
def T_sl_api_Micro : TyD := (.slice .mic)
def T_api_Errno : TyD := (.int .i64)
def T_api_Mem_api_Errno : TyD := (.tup [(.strct [(.slice (.int .i64)), (.slice (.int .i64)), (.slice .pend)]), (.int .i64)])
def T_sl_int_api_Errno : TyD := (.tup [(.slice (.int .i64)), (.int .i64)])
def T_api_Micro : TyD := (.strct [(.int .i64), (.int .i64), (.int .i64)])
def T_sl_api_Micro_api_Errno : TyD := (.tup [(.slice .mic), (.int .i64)])
def T_int_int_api_Errno : TyD := (.tup [(.int .i64), (.int .i64), (.int .i64)])
def T_api_Node : TyD := (.strct [(.int .i64), (.int .i64), (.int .i64), (.int .i64), (.slice (.int .i64))])
def T_api_Node_api_Errno : TyD := (.tup [(.strct [(.int .i64), (.int .i64), (.int .i64), (.int .i64), (.slice (.int .i64))]), (.int .i64)])
def T_api_Rec : TyD := (.strct [(.int .i64), .str, .str, (.int .i64)])
def T_api_Rec_api_Errno : TyD := (.tup [(.strct [(.int .i64), .str, .str, (.int .i64)]), (.int .i64)])
def T_api_Pending : TyD := (.strct [(.int .i64), (.int .i64), .bool])
def T_funcint_bool : TyD := .func
def T_map_int_bool : TyD := (.map .ib)
def T_funcapi_Micro_bool : TyD := .func
def T_super_head : TyD := (.strct [(.int .i64), (.int .i64), (.int .i64), (.int .i64)])
def T_sl_fast_slot : TyD := (.slice .slot)
def T_fast_slot : TyD := (.strct [(.int .i64), (.int .i64)])
def T_rec_form : TyD := (.arr 16 (.int .i64))
def T_18_api_Micro : TyD := (.arr 18 .mic)
def T_funcstring_bool : TyD := .func
def T_string_bool : TyD := (.tup [.str, .bool])
def T_p_micro_doer : TyD := .ptr
def T_micro_doer : TyD := (.strct [(.strct [(.slice (.int .i64)), (.slice (.int .i64)), (.slice .pend)])])
def T_map_int_func_p_micro_doer_api_Micro : TyD := (.map .ifn)
def T_func_p_micro_doer_api_Micro : TyD := .func
def T_map_int_int : TyD := (.map .ii)
def T_funcapi_Pending_bool : TyD := .func
def T_string_api_Errno : TyD := (.tup [.str, (.int .i64)])
def T_uint32 : TyD := (.int .u32)
def T_256_uint32 : TyD := (.arr 256 (.int .u32))
def T_p_256_uint32 : TyD := .ptr
def T_func_funcstring_bool : TyD := .func
def T_iter_Seq_string : TyD := .func
def T_sl_uint8 : TyD := (.slice (.int .u8))
def T_uint64 : TyD := (.int .u64)
def T_func_funcint_bool : TyD := .func
def T_iter_Seq_int : TyD := .func
attribute [go_sem] T_unit T_func T_int64 T_int T_bool T_uint8 T_string T_sl_int T_sl_api_Pending T_api_Mem T_sl_api_Micro T_api_Errno T_api_Mem_api_Errno T_sl_int_api_Errno T_api_Micro T_sl_api_Micro_api_Errno T_int_int_api_Errno T_api_Node T_api_Node_api_Errno T_api_Rec T_api_Rec_api_Errno T_api_Pending T_funcint_bool T_map_int_bool T_funcapi_Micro_bool T_super_head T_sl_fast_slot T_fast_slot T_rec_form T_18_api_Micro T_funcstring_bool T_string_bool T_p_micro_doer T_micro_doer T_map_int_func_p_micro_doer_api_Micro T_func_p_micro_doer_api_Micro T_map_int_int T_funcapi_Pending_bool T_string_api_Errno T_uint32 T_256_uint32 T_p_256_uint32 T_func_funcstring_bool T_iter_Seq_string T_sl_uint8 T_uint64 T_func_funcint_bool T_iter_Seq_int
def tab : TypeId → TyD
  | 0 => T_unit
  | 1 => T_func
  | 2 => T_int64
  | 3 => T_int
  | 4 => T_bool
  | 5 => T_uint8
  | 9 => T_string
  | 22 => T_sl_int
  | 23 => T_sl_api_Pending
  | 25 => T_api_Mem
  | 26 => T_sl_api_Micro
  | 29 => T_api_Errno
  | 30 => T_api_Mem_api_Errno
  | 34 => T_sl_int_api_Errno
  | 37 => T_api_Micro
  | 45 => T_sl_api_Micro_api_Errno
  | 48 => T_int_int_api_Errno
  | 52 => T_api_Node
  | 55 => T_api_Node_api_Errno
  | 70 => T_api_Rec
  | 74 => T_api_Rec_api_Errno
  | 81 => T_api_Pending
  | 82 => T_funcint_bool
  | 83 => T_map_int_bool
  | 87 => T_funcapi_Micro_bool
  | 89 => T_super_head
  | 96 => T_sl_fast_slot
  | 98 => T_fast_slot
  | 102 => T_rec_form
  | 104 => T_18_api_Micro
  | 105 => T_funcstring_bool
  | 106 => T_string_bool
  | 108 => T_p_micro_doer
  | 110 => T_micro_doer
  | 111 => T_map_int_func_p_micro_doer_api_Micro
  | 113 => T_func_p_micro_doer_api_Micro
  | 114 => T_map_int_int
  | 116 => T_funcapi_Pending_bool
  | 122 => T_string_api_Errno
  | 125 => T_uint32
  | 126 => T_256_uint32
  | 129 => T_p_256_uint32
  | 130 => T_func_funcstring_bool
  | 131 => T_iter_Seq_string
  | 133 => T_sl_uint8
  | 138 => T_uint64
  | 142 => T_func_funcint_bool
  | 143 => T_iter_Seq_int
  | _ => .other
theorem tab_ok : TabOk Try.prog tab := by
  intro T
  unfold tab
  split <;> kernel_rfl
theorem tab_sh (T : TypeId) : (tab T).shallow := by
  unfold tab
  split <;> (unfold TyD.shallow; decide)
theorem mixed : Try.prog.follows .mixedOrders = true := by kernel_rfl
def ctx (F : List (FuncId × Contract)) (S : List (FuncId × Con)) (lp : Nat → LInfo) : Ctx := ⟨tab, lookF F, lookS S, fun _ _ _ _ _ => False, lp, false, fun _ _ _ _ => False⟩
def ctxI (F : List (FuncId × Contract)) (S : List (FuncId × Con)) (Is : List (FuncId × (Con → Con))) (lp : Nat → LInfo) : Ctx := ⟨tab, lookF F, lookS S, lookI Is, lp, false, fun _ _ _ _ => False⟩
@[go_sem] theorem ctx_drawn (F : List (FuncId × Contract)) (S : List (FuncId × Con)) (lp : Nat → LInfo) : (ctx F S lp).drawn = false := (rfl)
@[go_sem] theorem ctxI_drawn (F : List (FuncId × Contract)) (S : List (FuncId × Con)) (Is : List (FuncId × (Con → Con))) (lp : Nat → LInfo) : (ctxI F S Is lp).drawn = false := (rfl)
@[go_sem] theorem ctxI_envF (F : List (FuncId × Contract)) (S : List (FuncId × Con)) (Is : List (FuncId × (Con → Con))) (lp : Nat → LInfo) : (ctxI F S Is lp).envF = lookF F := (rfl)
@[go_sem] theorem ctxI_envS (F : List (FuncId × Contract)) (S : List (FuncId × Con)) (Is : List (FuncId × (Con → Con))) (lp : Nat → LInfo) : (ctxI F S Is lp).envS = lookS S := (rfl)
@[go_sem] theorem ctxI_iterS (F : List (FuncId × Contract)) (S : List (FuncId × Con)) (Is : List (FuncId × (Con → Con))) (lp : Nat → LInfo) : (ctxI F S Is lp).iterS = lookI Is := (rfl)
@[go_sem] theorem ctx_envF (F : List (FuncId × Contract)) (S : List (FuncId × Con)) (lp : Nat → LInfo) : (ctx F S lp).envF = lookF F := (rfl)
@[go_sem] theorem ctx_envS (F : List (FuncId × Contract)) (S : List (FuncId × Con)) (lp : Nat → LInfo) : (ctx F S lp).envS = lookS S := (rfl)
theorem ctx_ok {F : List (FuncId × Contract)} {S : List (FuncId × Con)} (hF : ∀ p ∈ F, FSpec Try.prog p.1 p.2) (hS : ∀ p ∈ S, SSpec Try.prog p.1 p.2) (lp : Nat → LInfo) : Ok Try.prog (ctx F S lp) :=
  ⟨⟨⟨tab_ok, tab_sh, fok_look hF⟩, sok_look hS, rfl, mixed, is_none⟩, fun _ _ _ _ h => h⟩
theorem ctxI_ok {F : List (FuncId × Contract)} {S : List (FuncId × Con)} {Is : List (FuncId × (Con → Con))} (hF : ∀ p ∈ F, FSpec Try.prog p.1 p.2) (hS : ∀ p ∈ S, SSpec Try.prog p.1 p.2) (hI : ∀ p ∈ Is, ISpec Try.prog p.1 p.2) (lp : Nat → LInfo) : Ok Try.prog (ctxI F S Is lp) :=
  ⟨⟨⟨tab_ok, tab_sh, fok_look hF⟩, sok_look hS, rfl, mixed, isok_look hI⟩, fun _ _ _ _ h => h⟩
end Lam
namespace Lam
open Go Go.Proofs
set_option linter.unusedVariables false
def pmem_Check.loops : Nat → LInfo
  | 1 => ⟨[], [], [], [(8, none), (5, some [14, 19])], []⟩
  | 6 => ⟨[28], [false], [1, 3, 4, 26, 27], [], []⟩
  | 8 => ⟨[], [], [], [(4, none), (5, some [35, 40]), (2, none), (9, some [42, 51])], []⟩
  | 10 => ⟨[], [], [], [(10, none), (3, some [62, 65])], []⟩
  | _ => ⟨[], [], [], [], []⟩
def pmem_Check.L1 (c : Ctx) (J2 : AV → AV → List AObj → Prop) (K : AOut → List AObj → Prop) (lv : List AV) (h0 : List AObj) (n0 : Nat) (c1 : AV) (c3 : AV) (c4 : AV) (c26 : AV) (c27 : AV) : Prop :=
  ∃ I : Nat → List AV → List AObj → Prop, (∃ n, I n lv h0) ∧ ∀ n h, ∀ t28, I n [t28] h →
    runD (binD T_int .lss t28 c27) h fun t29 h =>
    condW t29
    (runD (indexAddrD T_sl_api_Pending h c26 t28) h fun t30 h =>
    runD (fitD T_api_Pending (loadD h t30)) h fun t31 h =>
    allocW T_api_Pending h fun t6 h =>
    runH (storeH T_api_Pending h t6 t31) h fun _ h =>
    runD (fieldAddrD T_api_Pending t6 0) h fun t32 h =>
    runD (fitD T_int (loadD h t32)) h fun t33 h =>
    runD (binD T_int .lss t33 (.int .i64 0)) h fun t34 h =>
    joinW (fun (J3 : AV → AV → List AObj → Prop) =>
    guardW t34 false
    (runD (fieldAddrD T_api_Pending t6 0) h fun t36 h =>
      runD (fitD T_int (loadD h t36)) h fun t37 h =>
      runD (lenD T_sl_int h c3) h fun t39 h =>
      runD (binD T_int .geq t37 t39) h fun t40 h =>
      J3 (.bool false) t40 h)
    (J3 (.bool true) .und h))
    (fun t35 t40 h => runD (pickD t35 (.bool true) t40) h fun t41 h =>
    joinW (fun (J4 : AV → AV → List AObj → Prop) =>
    guardW t41 false
    (runD (fieldAddrD T_api_Pending t6 2) h fun t43 h =>
      runD (fitD T_bool (loadD h t43)) h fun t44 h =>
      joinW (fun (J5 : AV → AV → List AObj → Prop) =>
      guardW t44 true
      (runD (fieldAddrD T_api_Pending t6 0) h fun t47 h =>
        runD (fitD T_int (loadD h t47)) h fun t48 h =>
        runD (binD T_int .quo t48 (.int .i64 8)) h fun t49 h =>
        runD (lookupD T_map_int_bool h c4 t49) h fun t50 h =>
        J5 (.bool true) t50 h)
      (J5 (.bool false) .und h))
      (fun t45 t50 h => runD (pickD t45 t50 (.bool false)) h fun t51 h =>
      J4 (.bool false) t51 h))
    (J4 (.bool true) .und h))
    (fun t42 t51 h => runD (pickD t42 (.bool true) t51) h fun t52 h =>
    condW t52
    (K (.ret (.bool false)) h)
    (runD (fieldAddrD T_api_Pending t6 0) h fun t54 h =>
    runD (fitD T_int (loadD h t54)) h fun t55 h =>
    runD (binD T_int .quo t55 (.int .i64 8)) h fun t56 h =>
    runD (fieldAddrD T_api_Pending t6 0) h fun t58 h =>
    runD (fitD T_int (loadD h t58)) h fun t59 h =>
    runD (binD T_int .quo t59 (.int .i64 8)) h fun t60 h =>
    runD (lookupD T_map_int_bool h c4 t60) h fun t61 h =>
    joinW (fun (J6 : AV → AV → List AObj → Prop) =>
    guardW t61 false
    (runD (fieldAddrD T_api_Pending t6 2) h fun t63 h =>
      runD (fitD T_bool (loadD h t63)) h fun t64 h =>
      runD (unD .not t64) h fun t65 h =>
      J6 (.bool false) t65 h)
    (J6 (.bool true) .und h))
    (fun t62 t65 h => runD (pickD t62 (.bool true) t65) h fun t66 h =>
    runH (mapSetH T_map_int_bool h c4 t56 t66) h fun _ h =>
    runD (fieldAddrD T_api_Pending t6 0) h fun t68 h =>
    runD (fitD T_int (loadD h t68)) h fun t69 h =>
    runD (fieldAddrD T_api_Pending t6 1) h fun t70 h =>
    runD (fitD T_int (loadD h t70)) h fun t71 h =>
    runD (indexAddrD T_sl_int h c3 t69) h fun t72 h =>
    runH (storeH T_int h t72 t71) h fun _ h =>
    runD (binD T_int .add t28 (.int .i64 1)) h fun t73 h =>
    (∃ m, m < n ∧ I m (AV.norms n0 h [t73]) (normH n0 h)) ∧ AV.norms n0 h [c1, c3, c4, c26, c27] = [c1, c3, c4, c26, c27])))))
    (J2 c1 c3 h)
def pmem_Check.H (c : Ctx) (t0 : AV) (h : List AObj) (K : AOut → List AObj → Prop) : Prop :=
  boxW T_api_Mem t0 h fun t1 h =>
  runD (fieldAddrD T_api_Mem t1 0) h fun t7 h =>
  runD (fitD T_sl_int (loadD h t7)) h fun t8 h =>
  runD (lenD T_sl_int h t8) h fun t9 h =>
  runD (fieldAddrD T_api_Mem t1 1) h fun t10 h =>
  runD (fitD T_sl_int (loadD h t10)) h fun t11 h =>
  runD (lenD T_sl_int h t11) h fun t12 h =>
  runD (binD T_int .neq t9 t12) h fun t13 h =>
  joinW (fun (J1 : AV → AV → List AObj → Prop) =>
  guardW t13 false
  (runD (fieldAddrD T_api_Mem t1 0) h fun t15 h =>
    runD (fitD T_sl_int (loadD h t15)) h fun t16 h =>
    runD (lenD T_sl_int h t16) h fun t17 h =>
    callW false c (.fn (.func 54) [] []) [t17] h (fun t18 h =>
    runD (unD .not t18) h fun t19 h =>
    J1 (.bool false) t19 h)
    (fun v h => K (.pan v) h))
  (J1 (.bool true) .und h))
  (fun t14 t19 h => runD (pickD t14 (.bool true) t19) h fun t20 h =>
  condW t20
  (K (.ret (.bool false)) h)
  (runD (fieldAddrD T_api_Mem t1 1) h fun t21 h =>
  runD (fitD T_sl_int (loadD h t21)) h fun t22 h =>
  callW false c (.fn (.func 55) [] []) [t22] h (fun t23 h =>
  runD (makeMapD T_map_int_bool h.length) h fun t24 h =>
  runD (fieldAddrD T_api_Mem t1 2) h fun t25 h =>
  runD (fitD T_sl_api_Pending (loadD h t25)) h fun t26 h =>
  runD (lenD T_sl_api_Pending h t26) h fun t27 h =>
  joinW (fun (J2 : AV → AV → List AObj → Prop) =>
  promV [false] [(.int .i64 0)] h fun lv h => pmem_Check.L1 c J2 K (AV.norms h.length h lv) (normH h.length h) h.length (AV.norm h.length h t1) (AV.norm h.length h t23) (AV.norm h.length h t24) (AV.norm h.length h t26) (AV.norm h.length h t27))
  (fun t1 t3 h => runD (fieldAddrD T_api_Mem t1 0) h fun t75 h =>
  runD (fitD T_sl_int (loadD h t75)) h fun t76 h =>
  callW false c (.fn (.func 56) [] []) [t3, t76] h (fun t77 h =>
  K (.ret t77) h)
  (fun v h => K (.pan v) h)))
  (fun v h => K (.pan v) h)))
def pmem_New.loops : Nat → LInfo
  | _ => ⟨[], [], [], [], []⟩
def pmem_New.H (c : Ctx) (t0 : AV) (h : List AObj) (K : AOut → List AObj → Prop) : Prop :=
  allocW T_api_Mem h fun t2 h =>
  runD (lenD T_sl_int h t0) h fun t5 h =>
  callW false c (.fn (.func 54) [] []) [t5] h (fun t6 h =>
  runD (unD .not t6) h fun t7 h =>
  condW t7
  (runD (buildD T_api_Mem []) h fun t8 h =>
    runH (storeH T_api_Mem h t2 t8) h fun _ h =>
    loadRes (fitD T_api_Mem (loadD h t2)) fun r0 => K (.ret (.tup [r0, (.int .i64 40)])) h)
  (callW false c (.fn (.func 55) [] []) [t0] h (fun t10 h =>
  callW false c (.fn (.func 55) [] []) [t0] h (fun t12 h =>
  runD (buildD T_api_Mem [(0, t10), (1, t12)]) h fun t13 h =>
  runH (storeH T_api_Mem h t2 t13) h fun _ h =>
  loadRes (fitD T_api_Mem (loadD h t2)) fun r0 => K (.ret (.tup [r0, (.int .i64 0)])) h)
  (fun v h => K (.pan v) h))
  (fun v h => K (.pan v) h)))
  (fun v h => K (.pan v) h)
def pmem_sized.loops : Nat → LInfo
  | 1 => ⟨[], [], [], [(3, none), (3, some [5, 8])], []⟩
  | _ => ⟨[], [], [], [], []⟩
def pmem_sized.H (c : Ctx) (t0 : AV) (h : List AObj) (K : AOut → List AObj → Prop) : Prop :=
  runD (binD T_int .leq t0 (.int .i64 4096)) h fun t4 h =>
  joinW (fun (J1 : AV → AV → List AObj → Prop) =>
  guardW t4 true
  (runD (binD T_int .rem t0 (.int .i64 8)) h fun t7 h =>
    runD (binD T_int .eql t7 (.int .i64 0)) h fun t8 h =>
    J1 (.bool true) t8 h)
  (J1 (.bool false) .und h))
  (fun t5 t8 h => runD (pickD t5 t8 (.bool false)) h fun t9 h =>
  K (.ret t9) h)
def pmem_Crash.loops : Nat → LInfo
  | 5 => ⟨[15], [false], [2, 6, 13, 14], [], []⟩
  | _ => ⟨[], [], [], [], []⟩
def pmem_Crash.L1 (c : Ctx) (J1 : AV → AV → List AObj → Prop) (K : AOut → List AObj → Prop) (lv : List AV) (h0 : List AObj) (n0 : Nat) (c2 : AV) (c6 : AV) (c13 : AV) (c14 : AV) : Prop :=
  ∃ I : Nat → List AV → List AObj → Prop, (∃ n, I n lv h0) ∧ ∀ n h, ∀ t15, I n [t15] h →
    runD (binD T_int .lss t15 c14) h fun t16 h =>
    condW t16
    (runD (indexAddrD T_sl_int h c13 t15) h fun t18 h =>
    runD (fitD T_int (loadD h t18)) h fun t19 h =>
    runD (fitD T_map_int_int (loadD h c6)) h fun t20 h =>
    runH (mapSetH T_map_int_int h t20 t15 t19) h fun _ h =>
    runD (binD T_int .add t15 (.int .i64 1)) h fun t23 h =>
    (∃ m, m < n ∧ I m (AV.norms n0 h [t23]) (normH n0 h)) ∧ AV.norms n0 h [c2, c6, c13, c14] = [c2, c6, c13, c14])
    (J1 c2 c6 h)
def pmem_Crash.H (c : Ctx) (t0 : AV) (t1 : AV) (h : List AObj) (K : AOut → List AObj → Prop) : Prop :=
  boxW T_api_Mem t0 h fun t2 h =>
  runD (fitD T_api_Mem (loadD h t2)) h fun t9 h =>
  callW false c (.fn (.func 19) [] []) [t9] h (fun t10 h =>
  runD (unD .not t10) h fun t11 h =>
  condW t11
  (K (.ret (.tup [(.sl true (.ints .i64 [])), (.int .i64 40)])) h)
  (runD (makeMapD T_map_int_int h.length) h fun t12 h =>
  allocW T_map_int_int h fun t6 h =>
  runH (storeH T_map_int_int h t6 t12) h fun _ h =>
  runD (lenD T_sl_int h t1) h fun t14 h =>
  joinW (fun (J1 : AV → AV → List AObj → Prop) =>
  promV [false] [(.int .i64 0)] h fun lv h => pmem_Crash.L1 c J1 K (AV.norms h.length h lv) (normH h.length h) h.length (AV.norm h.length h t2) (AV.norm h.length h t6) (AV.norm h.length h t1) (AV.norm h.length h t14))
  (fun t2 t6 h => runD (fitD T_api_Mem (loadD h t2)) h fun t24 h =>
  callW false c (.fn (.func 78) [] []) [t24, (.fn (.func 79) [] [t6])] h (fun t26 h =>
  runD (fieldD T_api_Mem t26 1) h fun t27 h =>
  K (.ret (.tup [t27, (.int .i64 0)])) h)
  (fun v h => K (.pan v) h))))
  (fun v h => K (.pan v) h)
def pmem_keep.loops : Nat → LInfo
  | 3 => ⟨[17], [false], [1, 4, 5, 15, 16], [], [5]⟩
  | _ => ⟨[], [], [], [], []⟩
def pmem_keep.L1 (c : Ctx) (J1 : AV → AV → List AObj → Prop) (K : AOut → List AObj → Prop) (lv : List AV) (h0 : List AObj) (n0 : Nat) (c1 : AV) (c4 : AV) (c5 : AV) (c15 : AV) (c16 : AV) : Prop :=
  ∃ I : Nat → List AV → List AObj → Prop, (∃ n, I n lv h0) ∧ ∀ n h, ∀ t17, I n [t17] h →
    runD (binD T_int .lss t17 c16) h fun t18 h =>
    condW t18
    (joinW (fun (J2 : List AObj → Prop) =>
    runD (indexAddrD T_sl_api_Pending h c15 t17) h fun t19 h =>
    runD (fitD T_api_Pending (loadD h t19)) h fun t20 h =>
    allocW T_api_Pending h fun t7 h =>
    runH (storeH T_api_Pending h t7 t20) h fun _ h =>
    runD (fitD T_api_Pending (loadD h t7)) h fun t22 h =>
    callW false c c1 [t22] h (fun t23 h =>
    condW t23
    (runD (fieldAddrD T_api_Mem c5 1) h fun t24 h =>
      runD (fitD T_sl_int (loadD h t24)) h fun t25 h =>
      runD (fieldAddrD T_api_Pending t7 0) h fun t26 h =>
      runD (fitD T_int (loadD h t26)) h fun t27 h =>
      runD (fieldAddrD T_api_Pending t7 1) h fun t28 h =>
      runD (fitD T_int (loadD h t28)) h fun t29 h =>
      runD (indexAddrD T_sl_int h t25 t27) h fun t30 h =>
      runH (storeH T_int h t30 t29) h fun _ h =>
      J2 h)
    (runD (fieldAddrD T_api_Mem c5 2) h fun t31 h =>
    runD (fitD T_sl_api_Pending (loadD h t31)) h fun t32 h =>
    runD (fitD T_api_Pending (loadD h t7)) h fun t33 h =>
    runD (buildSliceD T_sl_api_Pending 1 [(0, t33)] h.length) h fun t34 h =>
    runDM (appendD T_sl_api_Pending h t32 t34 h.length) (appendH T_sl_api_Pending h t32 t34) h fun t35 h =>
    runD (fieldAddrD T_api_Mem c5 2) h fun t36 h =>
    runH (storeH T_sl_api_Pending h t36 t35) h fun _ h =>
    J2 h))
    (fun v h => K (.pan v) h))
    (fun h => runD (binD T_int .add t17 (.int .i64 1)) h fun t37 h =>
    (∃ m, m < n ∧ I m (AV.norms n0 h [t37]) (normH n0 h)) ∧ AV.norms n0 h [c1, c4, c5, c15, c16] = [c1, c4, c5, c15, c16]))
    (J1 c4 c5 h)
def pmem_keep.H (c : Ctx) (t0 : AV) (t1 : AV) (h : List AObj) (K : AOut → List AObj → Prop) : Prop :=
  boxW T_api_Mem t0 h fun t2 h =>
  allocW T_api_Mem h fun t4 h =>
  runD (fieldAddrD T_api_Mem t2 0) h fun t8 h =>
  runD (fitD T_sl_int (loadD h t8)) h fun t9 h =>
  runD (fieldAddrD T_api_Mem t2 1) h fun t10 h =>
  runD (fitD T_sl_int (loadD h t10)) h fun t11 h =>
  callW false c.noS (.fn (.func 55) [] []) [t11] h (fun t12 h =>
  runD (buildD T_api_Mem [(0, t9), (1, t12)]) h fun t13 h =>
  allocW T_api_Mem h fun t5 h =>
  runH (storeH T_api_Mem h t5 t13) h fun _ h =>
  runD (fieldAddrD T_api_Mem t2 2) h fun t14 h =>
  runD (fitD T_sl_api_Pending (loadD h t14)) h fun t15 h =>
  runD (lenD T_sl_api_Pending h t15) h fun t16 h =>
  joinW (fun (J1 : AV → AV → List AObj → Prop) =>
  promV [false] [(.int .i64 0)] (boxH [t5] h) fun lv h => pmem_keep.L1 c J1 K (AV.norms h.length h lv) (normH h.length h) h.length (AV.norm h.length h t1) (AV.norm h.length h t4) (AV.norm h.length h t5) (AV.norm h.length h t15) (AV.norm h.length h t16))
  (fun t4 t5 h => runD (fitD T_api_Mem (loadD h t5)) h fun t38 h =>
  runH (storeH T_api_Mem h t4 t38) h fun _ h =>
  loadRes (fitD T_api_Mem (loadD h t4)) fun r0 => K (.ret r0) h))
  (fun _ _ => False)
def pmem_Crash_1.loops : Nat → LInfo
  | _ => ⟨[], [], [], [], []⟩
def pmem_Crash_1.H (c : Ctx) (t0 : AV) (t1 : AV) (h : List AObj) (K : AOut → List AObj → Prop) : Prop :=
  boxW T_api_Pending t0 h fun t2 h =>
  runD (fitD T_map_int_int (loadD h t1)) h fun t5 h =>
  runD (fieldAddrD T_api_Pending t2 0) h fun t6 h =>
  runD (fitD T_int (loadD h t6)) h fun t7 h =>
  runD (binD T_int .quo t7 (.int .i64 8)) h fun t8 h =>
  runD (lookupD T_map_int_int h t5 t8) h fun t9 h =>
  runD (fitD T_map_int_int (loadD h t1)) h fun t10 h =>
  runD (fieldAddrD T_api_Pending t2 0) h fun t11 h =>
  runD (fitD T_int (loadD h t11)) h fun t12 h =>
  runD (binD T_int .quo t12 (.int .i64 8)) h fun t13 h =>
  runD (maxD t9 (.int .i64 1)) h fun t15 h =>
  runD (binD T_int .sub t15 (.int .i64 1)) h fun t16 h =>
  runH (mapSetH T_map_int_int h t10 t13 t16) h fun _ h =>
  runD (binD T_int .gtr t9 (.int .i64 0)) h fun t18 h =>
  K (.ret t18) h
def pmem_Put.loops : Nat → LInfo
  | _ => ⟨[], [], [], [], []⟩
def pmem_Put.H (c : Ctx) (t0 : AV) (t1 : AV) (t2 : AV) (h : List AObj) (K : AOut → List AObj → Prop) : Prop :=
  boxW T_api_Mem t0 h fun t3 h =>
  allocW T_api_Mem h fun t6 h =>
  runD (fitD T_api_Mem (loadD h t3)) h fun t9 h =>
  callW false c (.fn (.func 98) [] []) [t9, t1] h (fun t11 h =>
  runD (unD .not t11) h fun t12 h =>
  condW t12
  (runD (fitD T_api_Mem (loadD h t3)) h fun t13 h =>
    runH (storeH T_api_Mem h t6 t13) h fun _ h =>
    loadRes (fitD T_api_Mem (loadD h t6)) fun r0 => K (.ret (.tup [r0, (.int .i64 40)])) h)
  (runD (fieldAddrD T_api_Mem t3 0) h fun t14 h =>
  runD (fitD T_sl_int (loadD h t14)) h fun t15 h =>
  runD (lenD T_sl_int h t15) h fun t16 h =>
  runD (makeSliceD T_sl_int t16 t16 h.length) h fun t17 h =>
  runD (fieldAddrD T_api_Mem t3 0) h fun t19 h =>
  runD (fitD T_sl_int (loadD h t19)) h fun t20 h =>
  runM (copyH T_sl_int h t17 t20) h fun t21 h =>
  runD (indexAddrD T_sl_int h t17 t1) h fun t25 h =>
  runH (storeH T_int h t25 t2) h fun _ h =>
  runD (fieldAddrD T_api_Mem t3 1) h fun t27 h =>
  runD (fitD T_sl_int (loadD h t27)) h fun t28 h =>
  runD (fieldAddrD T_api_Mem t3 2) h fun t29 h =>
  runD (fitD T_sl_api_Pending (loadD h t29)) h fun t30 h =>
  callW false c.noS (.fn (.func 99) [] []) [t30] h (fun t31 h =>
  runD (buildD T_api_Pending [(0, t1), (1, t2)]) h fun t34 h =>
  runD (buildSliceD T_sl_api_Pending 1 [(0, t34)] h.length) h fun t35 h =>
  runDM (appendD T_sl_api_Pending h t31 t35 h.length) (appendH T_sl_api_Pending h t31 t35) h fun t36 h =>
  runD (buildD T_api_Mem [(0, t17), (1, t28), (2, t36)]) h fun t37 h =>
  runH (storeH T_api_Mem h t6 t37) h fun _ h =>
  sepB t31 [t27] = true ∧ loadRes (fitD T_api_Mem (loadD h t6)) fun r0 => K (.ret (.tup [r0, (.int .i64 0)])) h)
  (fun _ _ => False)))
  (fun v h => K (.pan v) h)
def pmem_Flush.loops : Nat → LInfo
  | _ => ⟨[], [], [], [], []⟩
def pmem_Flush.H (c : Ctx) (t0 : AV) (t1 : AV) (h : List AObj) (K : AOut → List AObj → Prop) : Prop :=
  boxW T_api_Mem t0 h fun t2 h =>
  allocW T_api_Mem h fun t4 h =>
  runD (fitD T_api_Mem (loadD h t2)) h fun t8 h =>
  runD (fitD T_api_Mem (loadD h t2)) h fun t9 h =>
  callW false c.noS (.fn (.func 100) [] []) [t9, t1] h (fun t11 h =>
  callW false c.noS (.fn (.func 98) [] []) [t8, t11] h (fun t12 h =>
  runD (unD .not t12) h fun t13 h =>
  condW t13
  (runD (fitD T_api_Mem (loadD h t2)) h fun t14 h =>
    runH (storeH T_api_Mem h t4 t14) h fun _ h =>
    loadRes (fitD T_api_Mem (loadD h t4)) fun r0 => K (.ret (.tup [r0, (.int .i64 40)])) h)
  (runD (fieldAddrD T_api_Mem t2 2) h fun t15 h =>
  runD (fitD T_sl_api_Pending (loadD h t15)) h fun t16 h =>
  callW false c (.fn (.func 101) [] []) [t16] h (fun t17 h =>
  allocW T_sl_api_Pending h fun t6 h =>
  runH (storeH T_sl_api_Pending h t6 t17) h fun _ h =>
  runD (fitD T_api_Mem (loadD h t2)) h fun t18 h =>
  callW false c (.fn (.func 102) [] []) [t18, t1] h (fun t20 h =>
  joinW (fun (J1 : AV → AV → AV → List AObj → Prop) =>
  rangeX c.iterS t20 h
  (fun id r args h K => lpIs h id .ready r ∧ argX1 args fun t21 =>
  lpIs h id .ready r ∧
  runD (fitD T_sl_api_Pending (loadD (List.set h id (.lp .busy none r)) t6)) (List.set h id (.lp .busy none r)) fun t22 h =>
  runD (indexAddrD T_sl_api_Pending h t22 t21) h fun t24 h =>
  runD (fieldAddrD T_api_Pending t24 2) h fun t25 h =>
  runH (storeH T_bool h t25 (.bool true)) h fun _ h =>
  lpIs h id .busy r ∧ K (.ret (.bool true)) (List.set h id (.lp .ready none r)))
  (fun id r ao h => endX id r ao h
  (fun h => J1 t2 t4 t6 h)
  (fun h => loadRes (fitD T_api_Mem (loadD h t4)) fun r0 => K (.ret (.tup [r0, (.int .i64 0)])) h)
  (fun i h => exitW i 0 (J1 t2 t4 t6 h) (False))
  (fun l h => False)
  (fun v h => K (.pan v) h)))
  (fun t2 t4 t6 h => runD (fitD T_sl_api_Pending (loadD h t6)) h fun t26 h =>
  runD (fieldAddrD T_api_Mem t2 2) h fun t27 h =>
  runH (storeH T_sl_api_Pending h t27 t26) h fun _ h =>
  runD (fitD T_api_Mem (loadD h t2)) h fun t28 h =>
  runH (storeH T_api_Mem h t4 t28) h fun _ h =>
  loadRes (fitD T_api_Mem (loadD h t4)) fun r0 => K (.ret (.tup [r0, (.int .i64 0)])) h))
  (fun v h => K (.pan v) h))
  (fun v h => K (.pan v) h)))
  (fun _ _ => False))
  (fun _ _ => False)
def pmem_Fence.loops : Nat → LInfo
  | _ => ⟨[], [], [], [], []⟩
def pmem_Fence.H (c : Ctx) (t0 : AV) (h : List AObj) (K : AOut → List AObj → Prop) : Prop :=
  boxW T_api_Mem t0 h fun t1 h =>
  allocW T_api_Mem h fun t2 h =>
  runD (fitD T_api_Mem (loadD h t1)) h fun t4 h =>
  callW false c (.fn (.func 19) [] []) [t4] h (fun t5 h =>
  runD (unD .not t5) h fun t6 h =>
  condW t6
  (runD (fitD T_api_Mem (loadD h t1)) h fun t7 h =>
    runH (storeH T_api_Mem h t2 t7) h fun _ h =>
    loadRes (fitD T_api_Mem (loadD h t2)) fun r0 => K (.ret (.tup [r0, (.int .i64 40)])) h)
  (runD (fitD T_api_Mem (loadD h t1)) h fun t8 h =>
  callW false c (.fn (.func 78) [] []) [t8, (.fn (.func 103) [] [])] h (fun t9 h =>
  runH (storeH T_api_Mem h t2 t9) h fun _ h =>
  loadRes (fitD T_api_Mem (loadD h t2)) fun r0 => K (.ret (.tup [r0, (.int .i64 0)])) h)
  (fun v h => K (.pan v) h)))
  (fun v h => K (.pan v) h)
def pmem_place.loops : Nat → LInfo
  | 1 => ⟨[], [], [], [(3, none), (5, some [7, 12]), (2, none), (2, some [14, 16])], []⟩
  | _ => ⟨[], [], [], [], []⟩
def pmem_place.H (c : Ctx) (t0 : AV) (t1 : AV) (h : List AObj) (K : AOut → List AObj → Prop) : Prop :=
  boxW T_api_Mem t0 h fun t2 h =>
  runD (binD T_int .geq t1 (.int .i64 0)) h fun t6 h =>
  joinW (fun (J1 : AV → AV → List AObj → Prop) =>
  guardW t6 true
  (runD (fieldAddrD T_api_Mem t2 0) h fun t9 h =>
    runD (fitD T_sl_int (loadD h t9)) h fun t10 h =>
    runD (lenD T_sl_int h t10) h fun t11 h =>
    runD (binD T_int .lss t1 t11) h fun t12 h =>
    J1 (.bool true) t12 h)
  (J1 (.bool false) .und h))
  (fun t7 t12 h => runD (pickD t7 t12 (.bool false)) h fun t13 h =>
  joinW (fun (J2 : AV → AV → List AObj → Prop) =>
  guardW t13 true
  (runD (fitD T_api_Mem (loadD h t2)) h fun t15 h =>
    callW false c (.fn (.func 19) [] []) [t15] h (fun t16 h =>
    J2 (.bool true) t16 h)
    (fun v h => K (.pan v) h))
  (J2 (.bool false) .und h))
  (fun t14 t16 h => runD (pickD t14 t16 (.bool false)) h fun t17 h =>
  K (.ret t17) h))
def pmem_first.loops : Nat → LInfo
  | 1 => ⟨[], [], [], [(3, none), (6, some [7, 13])], []⟩
  | _ => ⟨[], [], [], [], []⟩
def pmem_first.H (c : Ctx) (t0 : AV) (t1 : AV) (h : List AObj) (K : AOut → List AObj → Prop) : Prop :=
  boxW T_api_Mem t0 h fun t2 h =>
  runD (binD T_int .lss t1 (.int .i64 0)) h fun t6 h =>
  joinW (fun (J1 : AV → AV → List AObj → Prop) =>
  guardW t6 false
  (runD (fieldAddrD T_api_Mem t2 0) h fun t9 h =>
    runD (fitD T_sl_int (loadD h t9)) h fun t10 h =>
    runD (lenD T_sl_int h t10) h fun t11 h =>
    runD (binD T_int .quo t11 (.int .i64 8)) h fun t12 h =>
    runD (binD T_int .geq t1 t12) h fun t13 h =>
    J1 (.bool false) t13 h)
  (J1 (.bool true) .und h))
  (fun t7 t13 h => runD (pickD t7 (.bool true) t13) h fun t14 h =>
  condW t14
  (K (.ret (.int .i64 (-1))) h)
  (runD (binD T_int .mul t1 (.int .i64 8)) h fun t16 h =>
  K (.ret t16) h))
def pmem_of.loops : Nat → LInfo
  | _ => ⟨[], [], [], [], []⟩
def pmem_of.H (c : Ctx) (t0 : AV) (t1 : AV) (h : List AObj) (K : AOut → List AObj → Prop) : Prop :=
  boxW T_api_Mem t0 h fun t2 h =>
  boxW T_int t1 h fun t3 h =>
  K (.ret (.fn (.func 104) [] [t2, t3])) h
def pmem_Fence_1.loops : Nat → LInfo
  | _ => ⟨[], [], [], [], []⟩
def pmem_Fence_1.H (c : Ctx) (t0 : AV) (h : List AObj) (K : AOut → List AObj → Prop) : Prop :=
  boxW T_api_Pending t0 h fun t1 h =>
  runD (fieldAddrD T_api_Pending t1 2) h fun t3 h =>
  runD (fitD T_bool (loadD h t3)) h fun t4 h =>
  K (.ret t4) h
def pmem_of_1.loops : Nat → LInfo
  | 1 => ⟨[9], [false], [0, 2, 7, 8], [], []⟩
  | 3 => ⟨[], [], [], [(6, none), (4, some [19, 23])], []⟩
  | _ => ⟨[], [], [], [], []⟩
def pmem_of_1.L1 (c : Ctx) (J1 : List AObj → Prop) (K : AOut → List AObj → Prop) (lv : List AV) (h0 : List AObj) (n0 : Nat) (c0 : AV) (c2 : AV) (c7 : AV) (c8 : AV) : Prop :=
  ∃ I : Nat → List AV → List AObj → Prop, (∃ n, I n lv h0) ∧ ∀ n h, ∀ t9, I n [t9] h →
    runD (binD T_int .lss t9 c8) h fun t10 h =>
    condW t10
    (runD (indexAddrD T_sl_api_Pending h c7 t9) h fun t12 h =>
    runD (fitD T_api_Pending (loadD h t12)) h fun t13 h =>
    allocW T_api_Pending h fun t5 h =>
    runH (storeH T_api_Pending h t5 t13) h fun _ h =>
    runD (fieldAddrD T_api_Pending t5 0) h fun t14 h =>
    runD (fitD T_int (loadD h t14)) h fun t15 h =>
    runD (binD T_int .quo t15 (.int .i64 8)) h fun t16 h =>
    runD (fitD T_int (loadD h c2)) h fun t17 h =>
    runD (binD T_int .eql t16 t17) h fun t18 h =>
    joinW (fun (J2 : AV → AV → List AObj → Prop) =>
    guardW t18 true
    (callW false c c0 [t9] h (fun t22 h =>
      runD (unD .not t22) h fun t23 h =>
      J2 (.bool true) t23 h)
      (fun v h => K (.pan v) h))
    (J2 (.bool false) .und h))
    (fun t19 t23 h => runD (pickD t19 t23 (.bool false)) h fun t24 h =>
    condW t24
    (K (.ret (.tup [])) h)
    (runD (binD T_int .add t9 (.int .i64 1)) h fun t25 h =>
    (∃ m, m < n ∧ I m (AV.norms n0 h [t25]) (normH n0 h)) ∧ AV.norms n0 h [c0, c2, c7, c8] = [c0, c2, c7, c8])))
    (J1 h)
def pmem_of_1.H (c : Ctx) (t0 : AV) (t1 : AV) (t2 : AV) (h : List AObj) (K : AOut → List AObj → Prop) : Prop :=
  runD (fieldAddrD T_api_Mem t1 2) h fun t6 h =>
  runD (fitD T_sl_api_Pending (loadD h t6)) h fun t7 h =>
  runD (lenD T_sl_api_Pending h t7) h fun t8 h =>
  joinW (fun (J1 : List AObj → Prop) =>
  promV [false] [(.int .i64 0)] h fun lv h => pmem_of_1.L1 c J1 K (AV.norms h.length h lv) (normH h.length h) h.length (AV.norm h.length h t0) (AV.norm h.length h t2) (AV.norm h.length h t7) (AV.norm h.length h t8))
  (fun h => K (.ret (.tup [])) h)
theorem pmem_Check.eq (F : List (FuncId × Contract)) (S : List (FuncId × Con)) (t0 : AV) (h : List AObj) (K : AOut → List AObj → Prop) : funW (ctx F S pmem_Check.loops) Try.f19 [t0] h K = pmem_Check.H (ctx F S pmem_Check.loops) t0 h K := by kernel_rfl
theorem pmem_New.eq (F : List (FuncId × Contract)) (S : List (FuncId × Con)) (t0 : AV) (h : List AObj) (K : AOut → List AObj → Prop) : funW (ctx F S pmem_New.loops) Try.f27 [t0] h K = pmem_New.H (ctx F S pmem_New.loops) t0 h K := by kernel_rfl
theorem pmem_sized.eq (F : List (FuncId × Contract)) (S : List (FuncId × Con)) (t0 : AV) (h : List AObj) (K : AOut → List AObj → Prop) : funW (ctx F S pmem_sized.loops) Try.f54 [t0] h K = pmem_sized.H (ctx F S pmem_sized.loops) t0 h K := by kernel_rfl
theorem pmem_Crash.eq (F : List (FuncId × Contract)) (S : List (FuncId × Con)) (t0 t1 : AV) (h : List AObj) (K : AOut → List AObj → Prop) : funW (ctx F S pmem_Crash.loops) Try.f57 [t0, t1] h K = pmem_Crash.H (ctx F S pmem_Crash.loops) t0 t1 h K := by kernel_rfl
theorem pmem_keep.eq (F : List (FuncId × Contract)) (S : List (FuncId × Con)) (t0 t1 : AV) (h : List AObj) (K : AOut → List AObj → Prop) : funW (ctx F S pmem_keep.loops) Try.f78 [t0, t1] h K = pmem_keep.H (ctx F S pmem_keep.loops) t0 t1 h K := by kernel_rfl
theorem pmem_Crash_1.eq (F : List (FuncId × Contract)) (S : List (FuncId × Con)) (t0 t1 : AV) (h : List AObj) (K : AOut → List AObj → Prop) : funW (ctx F S pmem_Crash_1.loops) Try.f79 [t0, t1] h K = pmem_Crash_1.H (ctx F S pmem_Crash_1.loops) t0 t1 h K := by kernel_rfl
theorem pmem_Put.eq (F : List (FuncId × Contract)) (S : List (FuncId × Con)) (t0 t1 t2 : AV) (h : List AObj) (K : AOut → List AObj → Prop) : funW (ctx F S pmem_Put.loops) Try.f93 [t0, t1, t2] h K = pmem_Put.H (ctx F S pmem_Put.loops) t0 t1 t2 h K := by kernel_rfl
theorem pmem_Flush.eq (F : List (FuncId × Contract)) (S : List (FuncId × Con)) (Is : List (FuncId × (Con → Con))) (t0 t1 : AV) (h : List AObj) (K : AOut → List AObj → Prop) : funW (ctxI F S Is pmem_Flush.loops) Try.f94 [t0, t1] h K = pmem_Flush.H (ctxI F S Is pmem_Flush.loops) t0 t1 h K := by kernel_rfl
theorem pmem_Fence.eq (F : List (FuncId × Contract)) (S : List (FuncId × Con)) (t0 : AV) (h : List AObj) (K : AOut → List AObj → Prop) : funW (ctx F S pmem_Fence.loops) Try.f95 [t0] h K = pmem_Fence.H (ctx F S pmem_Fence.loops) t0 h K := by kernel_rfl
theorem pmem_place.eq (F : List (FuncId × Contract)) (S : List (FuncId × Con)) (t0 t1 : AV) (h : List AObj) (K : AOut → List AObj → Prop) : funW (ctx F S pmem_place.loops) Try.f98 [t0, t1] h K = pmem_place.H (ctx F S pmem_place.loops) t0 t1 h K := by kernel_rfl
theorem pmem_first.eq (F : List (FuncId × Contract)) (S : List (FuncId × Con)) (t0 t1 : AV) (h : List AObj) (K : AOut → List AObj → Prop) : funW (ctx F S pmem_first.loops) Try.f100 [t0, t1] h K = pmem_first.H (ctx F S pmem_first.loops) t0 t1 h K := by kernel_rfl
theorem pmem_of.eq (F : List (FuncId × Contract)) (S : List (FuncId × Con)) (t0 t1 : AV) (h : List AObj) (K : AOut → List AObj → Prop) : funW (ctx F S pmem_of.loops) Try.f102 [t0, t1] h K = pmem_of.H (ctx F S pmem_of.loops) t0 t1 h K := by kernel_rfl
theorem pmem_Fence_1.eq (F : List (FuncId × Contract)) (S : List (FuncId × Con)) (t0 : AV) (h : List AObj) (K : AOut → List AObj → Prop) : funW (ctx F S pmem_Fence_1.loops) Try.f103 [t0] h K = pmem_Fence_1.H (ctx F S pmem_Fence_1.loops) t0 h K := by kernel_rfl
theorem pmem_of_1.eq (F : List (FuncId × Contract)) (S : List (FuncId × Con)) (l : Nat) (Y : Con) (t0 t1 t2 : AV) (h : List AObj) (K : AOut → List AObj → Prop) : funW ((ctx F S pmem_of_1.loops).withY l Y) Try.f104 [t0, t1, t2] h K = pmem_of_1.H ((ctx F S pmem_of_1.loops).withY l Y) t0 t1 t2 h K := by kernel_rfl
theorem pmem_Check.at : Try.prog.funcs[19]? = some Try.f19 := by kernel_rfl
theorem pmem_Check.nm : (Try.f19.name == "runtime.NumGoroutine") = false := by kernel_rfl
theorem pmem_Check.bd : Try.f19.body.isNone = false := by kernel_rfl
theorem pmem_New.at : Try.prog.funcs[27]? = some Try.f27 := by kernel_rfl
theorem pmem_New.nm : (Try.f27.name == "runtime.NumGoroutine") = false := by kernel_rfl
theorem pmem_New.bd : Try.f27.body.isNone = false := by kernel_rfl
theorem pmem_sized.at : Try.prog.funcs[54]? = some Try.f54 := by kernel_rfl
theorem pmem_sized.nm : (Try.f54.name == "runtime.NumGoroutine") = false := by kernel_rfl
theorem pmem_sized.bd : Try.f54.body.isNone = false := by kernel_rfl
theorem pmem_Crash.at : Try.prog.funcs[57]? = some Try.f57 := by kernel_rfl
theorem pmem_Crash.nm : (Try.f57.name == "runtime.NumGoroutine") = false := by kernel_rfl
theorem pmem_Crash.bd : Try.f57.body.isNone = false := by kernel_rfl
theorem pmem_keep.at : Try.prog.funcs[78]? = some Try.f78 := by kernel_rfl
theorem pmem_keep.nm : (Try.f78.name == "runtime.NumGoroutine") = false := by kernel_rfl
theorem pmem_keep.bd : Try.f78.body.isNone = false := by kernel_rfl
theorem pmem_Crash_1.at : Try.prog.funcs[79]? = some Try.f79 := by kernel_rfl
theorem pmem_Crash_1.nm : (Try.f79.name == "runtime.NumGoroutine") = false := by kernel_rfl
theorem pmem_Crash_1.bd : Try.f79.body.isNone = false := by kernel_rfl
theorem pmem_Put.at : Try.prog.funcs[93]? = some Try.f93 := by kernel_rfl
theorem pmem_Put.nm : (Try.f93.name == "runtime.NumGoroutine") = false := by kernel_rfl
theorem pmem_Put.bd : Try.f93.body.isNone = false := by kernel_rfl
theorem pmem_Flush.at : Try.prog.funcs[94]? = some Try.f94 := by kernel_rfl
theorem pmem_Flush.nm : (Try.f94.name == "runtime.NumGoroutine") = false := by kernel_rfl
theorem pmem_Flush.bd : Try.f94.body.isNone = false := by kernel_rfl
theorem pmem_Fence.at : Try.prog.funcs[95]? = some Try.f95 := by kernel_rfl
theorem pmem_Fence.nm : (Try.f95.name == "runtime.NumGoroutine") = false := by kernel_rfl
theorem pmem_Fence.bd : Try.f95.body.isNone = false := by kernel_rfl
theorem pmem_place.at : Try.prog.funcs[98]? = some Try.f98 := by kernel_rfl
theorem pmem_place.nm : (Try.f98.name == "runtime.NumGoroutine") = false := by kernel_rfl
theorem pmem_place.bd : Try.f98.body.isNone = false := by kernel_rfl
theorem pmem_first.at : Try.prog.funcs[100]? = some Try.f100 := by kernel_rfl
theorem pmem_first.nm : (Try.f100.name == "runtime.NumGoroutine") = false := by kernel_rfl
theorem pmem_first.bd : Try.f100.body.isNone = false := by kernel_rfl
theorem pmem_of.at : Try.prog.funcs[102]? = some Try.f102 := by kernel_rfl
theorem pmem_of.nm : (Try.f102.name == "runtime.NumGoroutine") = false := by kernel_rfl
theorem pmem_of.bd : Try.f102.body.isNone = false := by kernel_rfl
theorem pmem_Fence_1.at : Try.prog.funcs[103]? = some Try.f103 := by kernel_rfl
theorem pmem_Fence_1.nm : (Try.f103.name == "runtime.NumGoroutine") = false := by kernel_rfl
theorem pmem_Fence_1.bd : Try.f103.body.isNone = false := by kernel_rfl
theorem pmem_of_1.at : Try.prog.funcs[104]? = some Try.f104 := by kernel_rfl
theorem pmem_of_1.nm : (Try.f104.name == "runtime.NumGoroutine") = false := by kernel_rfl
theorem pmem_of_1.bd : Try.f104.body.isNone = false := by kernel_rfl
end Lam
namespace Lam
open Go Go.Proofs
set_option linter.unusedVariables false
def slices_Clone_sl_int_int.loops : Nat → LInfo
  | _ => ⟨[], [], [], [], []⟩
def slices_Clone_sl_int_int.H (c : Ctx) (t0 : AV) (h : List AObj) (K : AOut → List AObj → Prop) : Prop :=
  nilEqO (AV.len T_sl_int h t0) h fun t4 h =>
  condW t4
  (K (.ret (.sl true (.ints .i64 []))) h)
  (runD (buildSliceD T_sl_int 0 [] h.length) h fun t5 h =>
  runDM (appendD T_sl_int h t5 t0 h.length) (appendH T_sl_int h t5 t0) h fun t7 h =>
  K (.ret t7) h)
def slices_Equal_sl_int_int.loops : Nat → LInfo
  | 4 => ⟨[13], [false], [0, 1, 12], [], []⟩
  | _ => ⟨[], [], [], [], []⟩
def slices_Equal_sl_int_int.L1 (c : Ctx) (J1 : List AObj → Prop) (K : AOut → List AObj → Prop) (lv : List AV) (h0 : List AObj) (n0 : Nat) (c0 : AV) (c1 : AV) (c12 : AV) : Prop :=
  ∃ I : Nat → List AV → List AObj → Prop, (∃ n, I n lv h0) ∧ ∀ n h, ∀ t13, I n [t13] h →
    runD (binD T_int .lss t13 c12) h fun t14 h =>
    condW t14
    (runD (indexAddrD T_sl_int h c0 t13) h fun t18 h =>
    runD (fitD T_int (loadD h t18)) h fun t19 h =>
    runD (indexAddrD T_sl_int h c1 t13) h fun t22 h =>
    runD (fitD T_int (loadD h t22)) h fun t23 h =>
    runD (binD T_int .neq t19 t23) h fun t24 h =>
    condW t24
    (K (.ret (.bool false)) h)
    (runD (binD T_int .add t13 (.int .i64 1)) h fun t25 h =>
    (∃ m, m < n ∧ I m (AV.norms n0 h [t25]) (normH n0 h)) ∧ AV.norms n0 h [c0, c1, c12] = [c0, c1, c12]))
    (J1 h)
def slices_Equal_sl_int_int.H (c : Ctx) (t0 : AV) (t1 : AV) (h : List AObj) (K : AOut → List AObj → Prop) : Prop :=
  runD (lenD T_sl_int h t0) h fun t7 h =>
  runD (lenD T_sl_int h t1) h fun t9 h =>
  runD (binD T_int .neq t7 t9) h fun t10 h =>
  condW t10
  (K (.ret (.bool false)) h)
  (runD (lenD T_sl_int h t0) h fun t12 h =>
  joinW (fun (J1 : List AObj → Prop) =>
  promV [false] [(.int .i64 0)] h fun lv h => slices_Equal_sl_int_int.L1 c J1 K (AV.norms h.length h lv) (normH h.length h) h.length (AV.norm h.length h t0) (AV.norm h.length h t1) (AV.norm h.length h t12))
  (fun h => K (.ret (.bool true)) h))
def slices_ContainsFunc_sl_api_Micro_api_Micro.loops : Nat → LInfo
  | _ => ⟨[], [], [], [], []⟩
def slices_ContainsFunc_sl_api_Micro_api_Micro.H (c : Ctx) (t0 : AV) (t1 : AV) (h : List AObj) (K : AOut → List AObj → Prop) : Prop :=
  callW false c (.fn (.func 80) [] []) [t0, t1] h (fun t7 h =>
  runD (binD T_int .geq t7 (.int .i64 0)) h fun t8 h =>
  K (.ret t8) h)
  (fun v h => K (.pan v) h)
def slices_IndexFunc_sl_int_int.loops : Nat → LInfo
  | 2 => ⟨[8], [false], [0, 1, 7], [], []⟩
  | _ => ⟨[], [], [], [], []⟩
def slices_IndexFunc_sl_int_int.L1 (c : Ctx) (J1 : List AObj → Prop) (K : AOut → List AObj → Prop) (lv : List AV) (h0 : List AObj) (n0 : Nat) (c0 : AV) (c1 : AV) (c7 : AV) : Prop :=
  ∃ I : Nat → List AV → List AObj → Prop, (∃ n, I n lv h0) ∧ ∀ n h, ∀ t8, I n [t8] h →
    runD (binD T_int .lss t8 c7) h fun t9 h =>
    condW t9
    (runD (indexAddrD T_sl_int h c0 t8) h fun t14 h =>
    runD (fitD T_int (loadD h t14)) h fun t15 h =>
    callW false c c1 [t15] h (fun t16 h =>
    condW t16
    (K (.ret t8) h)
    (runD (binD T_int .add t8 (.int .i64 1)) h fun t18 h =>
    (∃ m, m < n ∧ I m (AV.norms n0 h [t18]) (normH n0 h)) ∧ AV.norms n0 h [c0, c1, c7] = [c0, c1, c7]))
    (fun v h => K (.pan v) h))
    (J1 h)
def slices_IndexFunc_sl_int_int.H (c : Ctx) (t0 : AV) (t1 : AV) (h : List AObj) (K : AOut → List AObj → Prop) : Prop :=
  runD (lenD T_sl_int h t0) h fun t7 h =>
  joinW (fun (J1 : List AObj → Prop) =>
  promV [false] [(.int .i64 0)] h fun lv h => slices_IndexFunc_sl_int_int.L1 c J1 K (AV.norms h.length h lv) (normH h.length h) h.length (AV.norm h.length h t0) (AV.norm h.length h t1) (AV.norm h.length h t7))
  (fun h => K (.ret (.int .i64 (-1))) h)
def slices_Compact_sl_int_int.loops : Nat → LInfo
  | 4 => ⟨[3], [false], [0], [], []⟩
  | 9 => ⟨[3, 5], [false, false], [0, 4], [], []⟩
  | _ => ⟨[], [], [], [], []⟩
def slices_Compact_sl_int_int.L2 (c : Ctx) (J3 : AV → AV → List AObj → Prop) (K : AOut → List AObj → Prop) (lv : List AV) (h0 : List AObj) (n0 : Nat) (c0 : AV) (c4 : AV) : Prop :=
  ∃ I : Nat → List AV → List AObj → Prop, (∃ n, I n lv h0) ∧ ∀ n h, ∀ t3, ∀ t5, I n [t3, t5] h →
    runD (lenD T_sl_int h c4) h fun t31 h =>
    runD (binD T_int .lss t5 t31) h fun t32 h =>
    condW t32
    (runD (indexAddrD T_sl_int h c4 t5) h fun t37 h =>
    runD (fitD T_int (loadD h t37)) h fun t38 h =>
    runD (binD T_int .sub t5 (.int .i64 1)) h fun t41 h =>
    runD (indexAddrD T_sl_int h c4 t41) h fun t42 h =>
    runD (fitD T_int (loadD h t42)) h fun t43 h =>
    runD (binD T_int .neq t38 t43) h fun t44 h =>
    joinW (fun (J4 : AV → List AObj → Prop) =>
    condW t44
    (runD (indexAddrD T_sl_int h c4 t5) h fun t49 h =>
      runD (fitD T_int (loadD h t49)) h fun t50 h =>
      runD (indexAddrD T_sl_int h c0 t3) h fun t51 h =>
      runH (storeH T_int h t51 t50) h fun _ h =>
      runD (binD T_int .add t3 (.int .i64 1)) h fun t53 h =>
      J4 t53 h)
    (J4 t3 h))
    (fun t3 h => runD (binD T_int .add t5 (.int .i64 1)) h fun t34 h =>
    (∃ m, m < n ∧ I m (AV.norms n0 h [t3, t34]) (normH n0 h)) ∧ AV.norms n0 h [c0, c4] = [c0, c4]))
    (J3 c0 t3 h)
def slices_Compact_sl_int_int.L1 (c : Ctx) (J1 : AV → List AObj → Prop) (K : AOut → List AObj → Prop) (lv : List AV) (h0 : List AObj) (n0 : Nat) (c0 : AV) : Prop :=
  ∃ I : Nat → List AV → List AObj → Prop, (∃ n, I n lv h0) ∧ ∀ n h, ∀ t3, I n [t3] h →
    runD (lenD T_sl_int h c0) h fun t12 h =>
    runD (binD T_int .lss t3 t12) h fun t13 h =>
    condW t13
    (joinW (fun (J2 : AV → AV → List AObj → Prop) =>
    runD (indexAddrD T_sl_int h c0 t3) h fun t18 h =>
    runD (fitD T_int (loadD h t18)) h fun t19 h =>
    runD (binD T_int .sub t3 (.int .i64 1)) h fun t22 h =>
    runD (indexAddrD T_sl_int h c0 t22) h fun t23 h =>
    runD (fitD T_int (loadD h t23)) h fun t24 h =>
    runD (binD T_int .eql t19 t24) h fun t25 h =>
    condW t25
    (runD (sliceD T_sl_int h c0 (some t3) none none) h fun t28 h =>
      joinW (fun (J3 : AV → AV → List AObj → Prop) =>
      promV [false, false] [t3, (.int .i64 1)] h fun lv h => slices_Compact_sl_int_int.L2 c J3 K (AV.norms h.length h lv) (normH h.length h) h.length (AV.norm h.length h c0) (AV.norm h.length h t28))
      (fun t0 t3 h => runD (sliceD T_sl_int h t0 (some t3) none none) h fun t56 h =>
      runM (clearH T_sl_int h t56) h fun _ h =>
      runD (sliceD T_sl_int h t0 none (some t3) none) h fun t59 h =>
      K (.ret t59) h))
    (J2 c0 t3 h))
    (fun t0 t3 h => runD (binD T_int .add t3 (.int .i64 1)) h fun t15 h =>
    (∃ m, m < n ∧ I m (AV.norms n0 h [t15]) (normH n0 h)) ∧ AV.norms n0 h [t0] = [c0]))
    (J1 c0 h)
def slices_Compact_sl_int_int.H (c : Ctx) (t0 : AV) (h : List AObj) (K : AOut → List AObj → Prop) : Prop :=
  runD (lenD T_sl_int h t0) h fun t7 h =>
  runD (binD T_int .lss t7 (.int .i64 2)) h fun t8 h =>
  condW t8
  (K (.ret t0) h)
  (joinW (fun (J1 : AV → List AObj → Prop) =>
  promV [false] [(.int .i64 1)] h fun lv h => slices_Compact_sl_int_int.L1 c J1 K (AV.norms h.length h lv) (normH h.length h) h.length (AV.norm h.length h t0))
  (fun t0 h => K (.ret t0) h))
def slices_IndexFunc_sl_api_Micro_api_Micro.loops : Nat → LInfo
  | 2 => ⟨[8], [false], [0, 1, 7], [], []⟩
  | _ => ⟨[], [], [], [], []⟩
def slices_IndexFunc_sl_api_Micro_api_Micro.L1 (c : Ctx) (J1 : List AObj → Prop) (K : AOut → List AObj → Prop) (lv : List AV) (h0 : List AObj) (n0 : Nat) (c0 : AV) (c1 : AV) (c7 : AV) : Prop :=
  ∃ I : Nat → List AV → List AObj → Prop, (∃ n, I n lv h0) ∧ ∀ n h, ∀ t8, I n [t8] h →
    runD (binD T_int .lss t8 c7) h fun t9 h =>
    condW t9
    (runD (indexAddrD T_sl_api_Micro h c0 t8) h fun t14 h =>
    runD (fitD T_api_Micro (loadD h t14)) h fun t15 h =>
    callW false c c1 [t15] h (fun t16 h =>
    condW t16
    (K (.ret t8) h)
    (runD (binD T_int .add t8 (.int .i64 1)) h fun t18 h =>
    (∃ m, m < n ∧ I m (AV.norms n0 h [t18]) (normH n0 h)) ∧ AV.norms n0 h [c0, c1, c7] = [c0, c1, c7]))
    (fun v h => K (.pan v) h))
    (J1 h)
def slices_IndexFunc_sl_api_Micro_api_Micro.H (c : Ctx) (t0 : AV) (t1 : AV) (h : List AObj) (K : AOut → List AObj → Prop) : Prop :=
  runD (lenD T_sl_api_Micro h t0) h fun t7 h =>
  joinW (fun (J1 : List AObj → Prop) =>
  promV [false] [(.int .i64 0)] h fun lv h => slices_IndexFunc_sl_api_Micro_api_Micro.L1 c J1 K (AV.norms h.length h lv) (normH h.length h) h.length (AV.norm h.length h t0) (AV.norm h.length h t1) (AV.norm h.length h t7))
  (fun h => K (.ret (.int .i64 (-1))) h)
def slices_ContainsFunc_sl_int_int.loops : Nat → LInfo
  | _ => ⟨[], [], [], [], []⟩
def slices_ContainsFunc_sl_int_int.H (c : Ctx) (t0 : AV) (t1 : AV) (h : List AObj) (K : AOut → List AObj → Prop) : Prop :=
  callW false c (.fn (.func 70) [] []) [t0, t1] h (fun t7 h =>
  runD (binD T_int .geq t7 (.int .i64 0)) h fun t8 h =>
  K (.ret t8) h)
  (fun v h => K (.pan v) h)
def slices_Clip_sl_api_Pending_api_Pending.loops : Nat → LInfo
  | _ => ⟨[], [], [], [], []⟩
def slices_Clip_sl_api_Pending_api_Pending.H (c : Ctx) (t0 : AV) (h : List AObj) (K : AOut → List AObj → Prop) : Prop :=
  runD (lenD T_sl_api_Pending h t0) h fun t5 h =>
  runD (lenD T_sl_api_Pending h t0) h fun t7 h =>
  runD (sliceD T_sl_api_Pending h t0 none (some t5) (some t7)) h fun t8 h =>
  K (.ret t8) h
def slices_Clone_sl_api_Pending_api_Pending.loops : Nat → LInfo
  | _ => ⟨[], [], [], [], []⟩
def slices_Clone_sl_api_Pending_api_Pending.H (c : Ctx) (t0 : AV) (h : List AObj) (K : AOut → List AObj → Prop) : Prop :=
  nilEqO (AV.len T_sl_api_Pending h t0) h fun t4 h =>
  condW t4
  (K (.ret (.sl true (.pends []))) h)
  (runD (buildSliceD T_sl_api_Pending 0 [] h.length) h fun t5 h =>
  runDM (appendD T_sl_api_Pending h t5 t0 h.length) (appendH T_sl_api_Pending h t5 t0) h fun t7 h =>
  K (.ret t7) h)
theorem slices_Clone_sl_int_int.eq (F : List (FuncId × Contract)) (S : List (FuncId × Con)) (t0 : AV) (h : List AObj) (K : AOut → List AObj → Prop) : funW (ctx F S slices_Clone_sl_int_int.loops) Try.f55 [t0] h K = slices_Clone_sl_int_int.H (ctx F S slices_Clone_sl_int_int.loops) t0 h K := by kernel_rfl
theorem slices_Equal_sl_int_int.eq (F : List (FuncId × Contract)) (S : List (FuncId × Con)) (t0 t1 : AV) (h : List AObj) (K : AOut → List AObj → Prop) : funW (ctx F S slices_Equal_sl_int_int.loops) Try.f56 [t0, t1] h K = slices_Equal_sl_int_int.H (ctx F S slices_Equal_sl_int_int.loops) t0 t1 h K := by kernel_rfl
theorem slices_ContainsFunc_sl_api_Micro_api_Micro.eq (F : List (FuncId × Contract)) (S : List (FuncId × Con)) (t0 t1 : AV) (h : List AObj) (K : AOut → List AObj → Prop) : funW (ctx F S slices_ContainsFunc_sl_api_Micro_api_Micro.loops) Try.f58 [t0, t1] h K = slices_ContainsFunc_sl_api_Micro_api_Micro.H (ctx F S slices_ContainsFunc_sl_api_Micro_api_Micro.loops) t0 t1 h K := by kernel_rfl
theorem slices_IndexFunc_sl_int_int.eq (F : List (FuncId × Contract)) (S : List (FuncId × Con)) (t0 t1 : AV) (h : List AObj) (K : AOut → List AObj → Prop) : funW (ctx F S slices_IndexFunc_sl_int_int.loops) Try.f70 [t0, t1] h K = slices_IndexFunc_sl_int_int.H (ctx F S slices_IndexFunc_sl_int_int.loops) t0 t1 h K := by kernel_rfl
theorem slices_Compact_sl_int_int.eq (F : List (FuncId × Contract)) (S : List (FuncId × Con)) (t0 : AV) (h : List AObj) (K : AOut → List AObj → Prop) : funW (ctx F S slices_Compact_sl_int_int.loops) Try.f72 [t0] h K = slices_Compact_sl_int_int.H (ctx F S slices_Compact_sl_int_int.loops) t0 h K := by kernel_rfl
theorem slices_IndexFunc_sl_api_Micro_api_Micro.eq (F : List (FuncId × Contract)) (S : List (FuncId × Con)) (t0 t1 : AV) (h : List AObj) (K : AOut → List AObj → Prop) : funW (ctx F S slices_IndexFunc_sl_api_Micro_api_Micro.loops) Try.f80 [t0, t1] h K = slices_IndexFunc_sl_api_Micro_api_Micro.H (ctx F S slices_IndexFunc_sl_api_Micro_api_Micro.loops) t0 t1 h K := by kernel_rfl
theorem slices_ContainsFunc_sl_int_int.eq (F : List (FuncId × Contract)) (S : List (FuncId × Con)) (t0 t1 : AV) (h : List AObj) (K : AOut → List AObj → Prop) : funW (ctx F S slices_ContainsFunc_sl_int_int.loops) Try.f82 [t0, t1] h K = slices_ContainsFunc_sl_int_int.H (ctx F S slices_ContainsFunc_sl_int_int.loops) t0 t1 h K := by kernel_rfl
theorem slices_Clip_sl_api_Pending_api_Pending.eq (F : List (FuncId × Contract)) (S : List (FuncId × Con)) (t0 : AV) (h : List AObj) (K : AOut → List AObj → Prop) : funW (ctx F S slices_Clip_sl_api_Pending_api_Pending.loops) Try.f99 [t0] h K = slices_Clip_sl_api_Pending_api_Pending.H (ctx F S slices_Clip_sl_api_Pending_api_Pending.loops) t0 h K := by kernel_rfl
theorem slices_Clone_sl_api_Pending_api_Pending.eq (F : List (FuncId × Contract)) (S : List (FuncId × Con)) (t0 : AV) (h : List AObj) (K : AOut → List AObj → Prop) : funW (ctx F S slices_Clone_sl_api_Pending_api_Pending.loops) Try.f101 [t0] h K = slices_Clone_sl_api_Pending_api_Pending.H (ctx F S slices_Clone_sl_api_Pending_api_Pending.loops) t0 h K := by kernel_rfl
theorem slices_Clone_sl_int_int.at : Try.prog.funcs[55]? = some Try.f55 := by kernel_rfl
theorem slices_Clone_sl_int_int.nm : (Try.f55.name == "runtime.NumGoroutine") = false := by kernel_rfl
theorem slices_Clone_sl_int_int.bd : Try.f55.body.isNone = false := by kernel_rfl
theorem slices_Equal_sl_int_int.at : Try.prog.funcs[56]? = some Try.f56 := by kernel_rfl
theorem slices_Equal_sl_int_int.nm : (Try.f56.name == "runtime.NumGoroutine") = false := by kernel_rfl
theorem slices_Equal_sl_int_int.bd : Try.f56.body.isNone = false := by kernel_rfl
theorem slices_ContainsFunc_sl_api_Micro_api_Micro.at : Try.prog.funcs[58]? = some Try.f58 := by kernel_rfl
theorem slices_ContainsFunc_sl_api_Micro_api_Micro.nm : (Try.f58.name == "runtime.NumGoroutine") = false := by kernel_rfl
theorem slices_ContainsFunc_sl_api_Micro_api_Micro.bd : Try.f58.body.isNone = false := by kernel_rfl
theorem slices_IndexFunc_sl_int_int.at : Try.prog.funcs[70]? = some Try.f70 := by kernel_rfl
theorem slices_IndexFunc_sl_int_int.nm : (Try.f70.name == "runtime.NumGoroutine") = false := by kernel_rfl
theorem slices_IndexFunc_sl_int_int.bd : Try.f70.body.isNone = false := by kernel_rfl
theorem slices_Compact_sl_int_int.at : Try.prog.funcs[72]? = some Try.f72 := by kernel_rfl
theorem slices_Compact_sl_int_int.nm : (Try.f72.name == "runtime.NumGoroutine") = false := by kernel_rfl
theorem slices_Compact_sl_int_int.bd : Try.f72.body.isNone = false := by kernel_rfl
theorem slices_IndexFunc_sl_api_Micro_api_Micro.at : Try.prog.funcs[80]? = some Try.f80 := by kernel_rfl
theorem slices_IndexFunc_sl_api_Micro_api_Micro.nm : (Try.f80.name == "runtime.NumGoroutine") = false := by kernel_rfl
theorem slices_IndexFunc_sl_api_Micro_api_Micro.bd : Try.f80.body.isNone = false := by kernel_rfl
theorem slices_ContainsFunc_sl_int_int.at : Try.prog.funcs[82]? = some Try.f82 := by kernel_rfl
theorem slices_ContainsFunc_sl_int_int.nm : (Try.f82.name == "runtime.NumGoroutine") = false := by kernel_rfl
theorem slices_ContainsFunc_sl_int_int.bd : Try.f82.body.isNone = false := by kernel_rfl
theorem slices_Clip_sl_api_Pending_api_Pending.at : Try.prog.funcs[99]? = some Try.f99 := by kernel_rfl
theorem slices_Clip_sl_api_Pending_api_Pending.nm : (Try.f99.name == "runtime.NumGoroutine") = false := by kernel_rfl
theorem slices_Clip_sl_api_Pending_api_Pending.bd : Try.f99.body.isNone = false := by kernel_rfl
theorem slices_Clone_sl_api_Pending_api_Pending.at : Try.prog.funcs[101]? = some Try.f101 := by kernel_rfl
theorem slices_Clone_sl_api_Pending_api_Pending.nm : (Try.f101.name == "runtime.NumGoroutine") = false := by kernel_rfl
theorem slices_Clone_sl_api_Pending_api_Pending.bd : Try.f101.body.isNone = false := by kernel_rfl
end Lam
namespace Lam
open Go Go.Proofs
set_option linter.unusedVariables false
set_option linter.unnecessarySimpa false
set_option linter.unusedSimpArgs false
def pmem_sized.C : Contract
  | [.int .i64 n] => some (false, pD True (.bool (szB n)))
  | _ => none
set_option maxRecDepth 20000 in
theorem pmem_sized.spec : FSpec Try.prog 54 pmem_sized.C := by
  refine FSpec.of (ctx_ok (F := []) (S := []) (by simp) (by simp) pmem_sized.loops) pmem_sized.at pmem_sized.nm pmem_sized.bd ?_
  intro vs b S v news e hS
  unfold pmem_sized.C at e
  split at e
  rotate_left
  · cases e
  cases e
  rw [pmem_sized.eq]
  unfold pmem_sized.H
  simp (maxSteps := 4000000) only [go_sem, Nat.reduceEqDiff, Nat.reduceLT, Nat.reduceAdd, Nat.reduceSub, Nat.reduceLeDiff, List.reduceReplicate, Int.reduceToNat]
  exact ⟨fun _ => by decide, post_val rfl rfl⟩

def slices_Clone_sl_int_int.C : Contract
  | [.sl _ (.ints .i64 l)] => some (true, some (roomy l.length, .sref false 0 0 0 l.length, [.row .own 0 (.ints .i64 l)]))
  | _ => none
set_option maxRecDepth 20000 in
theorem slices_Clone_sl_int_int.spec : FSpec Try.prog 55 slices_Clone_sl_int_int.C := by
  refine FSpec.of (ctx_ok (F := []) (S := []) (by simp) (by simp) slices_Clone_sl_int_int.loops) slices_Clone_sl_int_int.at slices_Clone_sl_int_int.nm slices_Clone_sl_int_int.bd ?_
  intro vs b S v news e hS
  unfold slices_Clone_sl_int_int.C at e
  split at e
  rotate_left
  · cases e
  cases e
  rw [slices_Clone_sl_int_int.eq]
  unfold slices_Clone_sl_int_int.H
  simp (maxSteps := 4000000) only [go_sem, Nat.reduceEqDiff, Nat.reduceLT, Nat.reduceAdd, Nat.reduceSub, Nat.reduceLeDiff, List.reduceReplicate, Int.reduceToNat]
  rename_i l
  intro b hb
  refine ⟨fun h => ?_, fun h => ⟨hS, post_row rfl (by simp)⟩⟩
  have : l = [] := List.eq_nil_of_length_eq_zero (hb h)
  subst this
  exact post_nil rfl
def slices_Clone_sl_api_Pending_api_Pending.C : Contract
  | [.sl _ (.pends l)] => some (true, some (roomy l.length, .sref false 0 0 0 l.length, [.row .own 0 (.pends l)]))
  | _ => none
set_option maxRecDepth 20000 in
theorem slices_Clone_sl_api_Pending_api_Pending.spec : FSpec Try.prog 101 slices_Clone_sl_api_Pending_api_Pending.C := by
  refine FSpec.of (ctx_ok (F := []) (S := []) (by simp) (by simp) slices_Clone_sl_api_Pending_api_Pending.loops) slices_Clone_sl_api_Pending_api_Pending.at slices_Clone_sl_api_Pending_api_Pending.nm slices_Clone_sl_api_Pending_api_Pending.bd ?_
  intro vs b S v news e hS
  unfold slices_Clone_sl_api_Pending_api_Pending.C at e
  split at e
  rotate_left
  · cases e
  cases e
  rw [slices_Clone_sl_api_Pending_api_Pending.eq]
  unfold slices_Clone_sl_api_Pending_api_Pending.H
  simp (maxSteps := 4000000) only [go_sem, Nat.reduceEqDiff, Nat.reduceLT, Nat.reduceAdd, Nat.reduceSub, Nat.reduceLeDiff, List.reduceReplicate, Int.reduceToNat]
  rename_i l
  intro b hb
  refine ⟨fun h => ?_, fun h => ⟨hS, post_row rfl (by simp)⟩⟩
  have : l = [] := List.eq_nil_of_length_eq_zero (hb h)
  subst this
  exact post_nil rfl
def slices_Clip_sl_api_Pending_api_Pending.C : Contract
  | [.sl _ (.pends l)] => some (false, pD True (.sl true (.pends l)))
  | _ => none
set_option maxRecDepth 20000 in
theorem slices_Clip_sl_api_Pending_api_Pending.spec : FSpec Try.prog 99 slices_Clip_sl_api_Pending_api_Pending.C := by
  refine FSpec.of (ctx_ok (F := []) (S := []) (by simp) (by simp) slices_Clip_sl_api_Pending_api_Pending.loops) slices_Clip_sl_api_Pending_api_Pending.at slices_Clip_sl_api_Pending_api_Pending.nm slices_Clip_sl_api_Pending_api_Pending.bd ?_
  intro vs b S v news e hS
  unfold slices_Clip_sl_api_Pending_api_Pending.C at e
  split at e
  rotate_left
  · cases e
  cases e
  rw [slices_Clip_sl_api_Pending_api_Pending.eq]
  unfold slices_Clip_sl_api_Pending_api_Pending.H
  simp (maxSteps := 4000000) only [go_sem, Nat.reduceEqDiff, Nat.reduceLT, Nat.reduceAdd, Nat.reduceSub, Nat.reduceLeDiff, List.reduceReplicate, Int.reduceToNat]
  exact ⟨by omega, post_same rfl⟩
def slices_Equal_sl_int_int.C : Contract
  | [.sl _ (.ints .i64 a), .sl _ (.ints .i64 b)] => some (false, pD (roomy a.length) (.bool (decide (a = b))))
  | _ => none
set_option maxRecDepth 20000 in
theorem slices_Equal_sl_int_int.spec : FSpec Try.prog 56 slices_Equal_sl_int_int.C := by
  refine FSpec.of (ctx_ok (F := []) (S := []) (by simp) (by simp) slices_Equal_sl_int_int.loops) slices_Equal_sl_int_int.at slices_Equal_sl_int_int.nm slices_Equal_sl_int_int.bd ?_
  intro vs b S v news e hS
  unfold slices_Equal_sl_int_int.C at e
  split at e
  rotate_left
  · cases e
  cases e
  rw [slices_Equal_sl_int_int.eq]
  unfold slices_Equal_sl_int_int.H
  simp (maxSteps := 4000000) only [go_sem, Nat.reduceEqDiff, Nat.reduceLT, Nat.reduceAdd, Nat.reduceSub, Nat.reduceLeDiff, List.reduceReplicate, Int.reduceToNat]
  rename_i a _ b
  unfold roomy at hS
  refine ⟨fun hne => ?_, fun heq => ?_⟩
  · have : decide (a = b) = false := by rw [decide_eq_false_iff_not]; rintro rfl; exact hne rfl
    rw [this]; exact post_val rfl rfl
  rw [joinW_eq]
  unfold slices_Equal_sl_int_int.L1
  have hlen : a.length = b.length := by omega
  refine ⟨fun m lv h' => ∃ k : Nat, k + m = a.length ∧ lv = [.int .i64 k] ∧ h' = [] ∧ ∀ i, i < k → a.getD i 0 = b.getD i 0, ⟨a.length, 0, by omega, rfl, rfl, fun i hi => by omega⟩, ?_⟩
  rintro m h' t8 ⟨k, hk, hlv, rfl, hall⟩
  simp only [List.cons.injEq, and_true] at hlv
  subst hlv
  simp only [go_sem, Nat.reduceEqDiff, Nat.reduceLT, Nat.reduceAdd, Nat.reduceSub, Nat.reduceLeDiff, List.reduceReplicate, Int.reduceToNat]
  refine ⟨fun hlt => ⟨by omega, by omega, fun h0 => ?_, fun h0 => ?_⟩, fun hge => ?_⟩
  · have : decide (a = b) = false := by rw [decide_eq_false_iff_not]; rintro rfl; exact h0 rfl
    rw [this]; exact post_val rfl rfl
  · refine ⟨m - 1, by omega, k + 1, by omega, by rw [w64 (by omega) (by omega)]; rfl, ?_⟩
    intro i hi
    by_cases e : i = k
    · subst e; exact h0
    · exact hall i (by omega)
  · have : a = b := by
      apply List.ext_getElem hlen
      intro i h1 h2
      have := hall i (by omega)
      rw [List.getD_eq_getElem?_getD, List.getD_eq_getElem?_getD, List.getElem?_eq_getElem h1, List.getElem?_eq_getElem h2] at this
      exact this
    rw [decide_eq_true this]; exact post_val rfl rfl

def pmem_Check.C : Contract
  | [.agg [.sl false (.ints .i64 vol), .sl false (.ints .i64 per), .sl false (.pends pend)]] => some (false, pD (smallM vol per pend) (.bool (checkB vol per pend)))
  | _ => none
set_option maxRecDepth 20000 in
theorem pmem_Check.spec : FSpec Try.prog 19 pmem_Check.C := by
  refine FSpec.of (ctx_ok (F := [(54, pmem_sized.C), (55, slices_Clone_sl_int_int.C), (56, slices_Equal_sl_int_int.C)]) (S := []) (by simpa using ⟨pmem_sized.spec, slices_Clone_sl_int_int.spec, slices_Equal_sl_int_int.spec⟩) (by simp) pmem_Check.loops) pmem_Check.at pmem_Check.nm pmem_Check.bd ?_
  intro vs b S v news e hS
  unfold pmem_Check.C at e
  split at e
  rotate_left
  · cases e
  cases e
  rw [pmem_Check.eq]
  unfold pmem_Check.H
  simp (maxSteps := 4000000) only [go_sem, Nat.reduceEqDiff, Nat.reduceLT, Nat.reduceAdd, Nat.reduceSub, Nat.reduceLeDiff, List.reduceReplicate, Int.reduceToNat, pmem_sized.C, slices_Clone_sl_int_int.C, slices_Equal_sl_int_int.C]
  rename_i vol per pend
  obtain ⟨r1, r2, r3⟩ := hS
  unfold roomy at r1 r2 r3
  refine ⟨fun hb => ?_, fun hb => ⟨r2, ?_⟩⟩
  · have : checkB vol per pend = false := by
      unfold checkB
      rw [Bool.or_eq_true] at hb
      rcases hb with hb | hb
      · have : ¬ vol.length = per.length := by
          intro h; rw [h] at hb; simp at hb
        simp [this]
      · have : szB vol.length = false := by simpa using hb
        simp [this]
    rw [this]; exact post_val rfl rfl
  rw [Bool.or_eq_false_iff] at hb
  have hlen : vol.length = per.length := by
    have := hb.1
    rw [Bool.not_eq_false', decide_eq_true_eq] at this
    omega
  have hsz : szB vol.length = true := by simpa using hb.2
  have hcheck : checkB vol per pend = decide (chk pend per (fun _ => false) = some vol) := by unfold checkB; rw [hsz, decide_eq_true hlen]; simp
  rw [hcheck, joinW_eq]
  unfold pmem_Check.L1
  refine ⟨fun m lv h' => ∃ (k : Nat) (l : List Int) (o : Int → Bool), k + m = pend.length ∧ lv = [.int .i64 k] ∧ l.length = per.length ∧ chk pend per (fun _ => false) = chk (pend.drop k) l o ∧
      h' = [.box (.agg [.sl false (.ints .i64 vol), .sl false (.ints .i64 per), .sl false (.pends pend)]), .row .own 0 (.ints .i64 l), .map (.ib o)],
    ⟨pend.length, 0, per, fun _ => false, by omega, rfl, rfl, rfl, rfl⟩, ?_⟩
  rintro m h' t28 ⟨k, l, o, hk, hlv, hll, hchk, rfl⟩
  simp only [List.cons.injEq, and_true] at hlv
  subst hlv
  simp only [go_sem, Nat.reduceEqDiff, Nat.reduceLT, Nat.reduceAdd, Nat.reduceSub, Nat.reduceLeDiff, List.reduceReplicate, Int.reduceToNat, hll, encPend]
  refine ⟨fun hlt => ⟨by omega, ?_⟩, fun hge => ?_⟩
  · have hkl : k < pend.length := by omega
    have hd : pend.drop k = pend.getD k ⟨0, 0, false⟩ :: pend.drop (k + 1) := by
      rw [List.getD_eq_getElem?_getD, List.getElem?_eq_getElem hkl, List.drop_eq_getElem_cons hkl]; rfl
    generalize pend.getD k ⟨0, 0, false⟩ = p at *
    have hch : chk (pend.drop k) l o = match badB p l.length o with
      | true => none
      | false => chk (pend.drop (k + 1)) (l.set p.at_.toNat p.val) (opens p o) := by rw [hd]; rfl
    rw [hll] at hch
    refine ⟨fun _ _ => by decide, fun hbad => ?_, fun hok => ?_⟩
    · have : badB p per.length o = true := hbad
      rw [this] at hch
      rw [hchk, hch]; exact post_val rfl rfl
    · have hb2 : badB p per.length o = false := hok
      rw [hb2] at hch
      simp only [badB, Bool.or_eq_false_iff, decide_eq_false_iff_not] at hb2
      refine ⟨by decide, by decide, by omega, by omega, m - 1, by omega, k + 1, _, opens p o, by omega, by rw [w64 (by omega) (by omega)]; rfl, ?_, by rw [hchk]; exact hch, rfl⟩
      rw [List.length_set]; exact hll
  · have : k = pend.length := by omega
    subst this
    rw [List.drop_length] at hchk
    have hl : l.take per.length = l := List.take_of_length_le (by omega)
    simp only [hl, go_sem, Nat.reduceEqDiff, Nat.reduceLT, Nat.reduceAdd, Nat.reduceSub, Nat.reduceLeDiff, List.reduceReplicate, Int.reduceToNat, slices_Equal_sl_int_int.C]
    refine ⟨by unfold roomy; omega, ?_⟩
    rw [hchk]
    have : decide (chk [] l o = some vol) = decide (l = vol) := by simp [chk]
    rw [this]; exact post_val rfl rfl
def pmem_place.C : Contract
  | [.agg [.sl false (.ints .i64 vol), .sl false (.ints .i64 per), .sl false (.pends pend)], .int .i64 at_] => some (false, pD (smallM vol per pend) (.bool (placeB vol per pend at_)))
  | _ => none
set_option maxRecDepth 20000 in
theorem pmem_place.spec : FSpec Try.prog 98 pmem_place.C := by
  refine FSpec.of (ctx_ok (F := [(19, pmem_Check.C)]) (S := []) (by simpa using pmem_Check.spec) (by simp) pmem_place.loops) pmem_place.at pmem_place.nm pmem_place.bd ?_
  intro vs b S v news e hS
  unfold pmem_place.C at e
  split at e
  rotate_left
  · cases e
  cases e
  rw [pmem_place.eq]
  unfold pmem_place.H
  simp (maxSteps := 4000000) only [go_sem, Nat.reduceEqDiff, Nat.reduceLT, Nat.reduceAdd, Nat.reduceSub, Nat.reduceLeDiff, List.reduceReplicate, Int.reduceToNat, pmem_Check.C]
  exact ⟨fun _ => hS, post_val rfl rfl⟩
def pmem_first.C : Contract
  | [.agg [.sl false (.ints .i64 vol), .sl false (.ints .i64 per), .sl false (.pends pend)], .int .i64 line] => some (false, pD (roomy vol.length) (.int .i64 (firstI vol line)))
  | _ => none
set_option maxRecDepth 20000 in
theorem pmem_first.spec : FSpec Try.prog 100 pmem_first.C := by
  refine FSpec.of (ctx_ok (F := []) (S := []) (by simp) (by simp) pmem_first.loops) pmem_first.at pmem_first.nm pmem_first.bd ?_
  intro vs b S v news e hS
  unfold pmem_first.C at e
  split at e
  rotate_left
  · cases e
  cases e
  rw [pmem_first.eq]
  unfold pmem_first.H
  simp (maxSteps := 4000000) only [go_sem, Nat.reduceEqDiff, Nat.reduceLT, Nat.reduceAdd, Nat.reduceSub, Nat.reduceLeDiff, List.reduceReplicate, Int.reduceToNat]
  rename_i vol per pend line
  unfold roomy at hS
  have e : IntKind.i64.wrap ((vol.length : Int).tdiv 8) = ((vol.length / 8 : Nat) : Int) := by rw [tdiv8]; exact w64 (by omega) (by omega)
  rw [e]
  refine ⟨fun _ => by decide, fun hb => ?_, fun hb => ?_⟩
  · unfold firstI; rw [if_pos hb]; exact post_val rfl rfl
  · have h2 := hb
    rw [Bool.or_eq_false_iff, decide_eq_false_iff_not, decide_eq_false_iff_not] at h2
    rw [w64 (by omega) (by omega)]
    unfold firstI; rw [hb]; exact post_val rfl rfl
def pmem_Put.C : Contract
  | [.agg [.sl false (.ints .i64 vol), .sl false (.ints .i64 per), .sl false (.pends pend)], .int .i64 at_, .int .i64 val] => some (false, pD (smallM vol per pend ∧ roomy (pend.length + 1)) (putM vol per pend at_ val))
  | _ => none
set_option maxRecDepth 20000 in
theorem pmem_Put.spec : FSpec Try.prog 93 pmem_Put.C := by
  refine FSpec.of (ctx_ok (F := [(98, pmem_place.C), (99, slices_Clip_sl_api_Pending_api_Pending.C)]) (S := []) (by simpa using ⟨pmem_place.spec, slices_Clip_sl_api_Pending_api_Pending.spec⟩) (by simp) pmem_Put.loops) pmem_Put.at pmem_Put.nm pmem_Put.bd ?_
  intro vs b S v news e hS
  unfold pmem_Put.C at e
  split at e
  rotate_left
  · cases e
  cases e
  rw [pmem_Put.eq]
  unfold pmem_Put.H
  simp (maxSteps := 4000000) only [go_sem, Nat.reduceEqDiff, Nat.reduceLT, Nat.reduceAdd, Nat.reduceSub, Nat.reduceLeDiff, List.reduceReplicate, Int.reduceToNat, pmem_place.C, slices_Clip_sl_api_Pending_api_Pending.C]
  rename_i vol per pend at_ val
  obtain ⟨hS, hr⟩ := hS
  refine ⟨hS, fun hb => ?_, fun hb => ?_⟩
  · unfold putM; rw [hb]; exact post_val rfl rfl
  · have hp : 0 ≤ at_ ∧ at_ < (vol.length : Int) := by
      simp only [placeB, Bool.and_eq_true, decide_eq_true_eq] at hb
      exact hb.1
    have e : vol ++ List.take (vol.length - min vol.length vol.length) (List.drop (min vol.length vol.length) (List.replicate vol.length 0)) = vol := by simp
    rw [e]
    have hl : (pend ++ [(⟨at_, val, false⟩ : Pend)]).length = pend.length + 1 := by simp
    rw [hl]
    refine ⟨⟨by omega, by omega, hS.1⟩, hp, by omega, hr, rfl, ?_⟩
    unfold putM
    simp only [hb, if_true]
    refine post_val ?_ rfl
    have t1 : (vol.set at_.toNat val).take vol.length = vol.set at_.toNat val := List.take_of_length_le (by simp)
    have t2 : (pend ++ [(⟨at_, val, false⟩ : Pend)]).take (pend.length + 1) = pend ++ [(⟨at_, val, false⟩ : Pend)] := List.take_of_length_le (by simp)
    simp only [go_sem, Nat.reduceEqDiff, Nat.reduceLT, Nat.reduceAdd, Nat.reduceSub, Nat.reduceLeDiff, List.reduceReplicate, Int.reduceToNat, memV, t1, t2]
def pmem_of_1.I : Con → Con := fun Y args h K => match args with
  | [.fn (.yield l) [] [], a0, a1] => pmem_of_1.H ((ctx [] [] pmem_of_1.loops).withY l Y) (.fn (.yield l) [] []) a0 a1 h K
  | _ => False
theorem pmem_of_1.spec : ISpec Try.prog 104 pmem_of_1.I := by
  refine ISpec.of (ctx_ok (F := []) (S := []) (by simp) (by simp) pmem_of_1.loops).toOkI pmem_of_1.at pmem_of_1.nm pmem_of_1.bd ?_
  intro Yc l cap h K hC
  unfold pmem_of_1.I at hC
  split at hC
  · rename_i e
    simp only [List.cons.injEq, AV.fn.injEq, Fn.yield.injEq, and_true, true_and] at e
    obtain ⟨rfl, rfl⟩ := e
    rw [pmem_of_1.eq]; exact hC
  · exact hC.elim
def pmem_of.K : Con := fun args h K => match args with
  | [a0, a1] => pmem_of.H (ctx [] [] pmem_of.loops) a0 a1 h K
  | _ => False
theorem pmem_of.spec : SSpec Try.prog 102 pmem_of.K := by
  refine SSpec.of (ctx_ok (F := []) (S := []) (by simp) (by simp) pmem_of.loops) pmem_of.at pmem_of.nm pmem_of.bd ?_
  intro args h K hC
  unfold pmem_of.K at hC
  split at hC
  · rw [pmem_of.eq]; exact hC
  · exact hC.elim
def pmem_Flush.C : Contract
  | [.agg [.sl false (.ints .i64 vol), .sl false (.ints .i64 per), .sl false (.pends pend)], .int .i64 line] => some (false, pD (smallM vol per pend) (flushM vol per pend line))
  | _ => none
set_option maxRecDepth 20000 in
theorem pmem_Flush.spec : FSpec Try.prog 94 pmem_Flush.C := by
  refine FSpec.of (ctxI_ok (F := [(98, pmem_place.C), (100, pmem_first.C), (101, slices_Clone_sl_api_Pending_api_Pending.C)]) (S := [(102, pmem_of.K)]) (Is := [(104, pmem_of_1.I)]) (by simpa using ⟨pmem_place.spec, pmem_first.spec, slices_Clone_sl_api_Pending_api_Pending.spec⟩) (by simpa using pmem_of.spec) (by simpa using pmem_of_1.spec) pmem_Flush.loops) pmem_Flush.at pmem_Flush.nm pmem_Flush.bd ?_
  intro vs b S v news e hS
  unfold pmem_Flush.C at e
  split at e
  rotate_left
  · cases e
  cases e
  rw [pmem_Flush.eq]
  unfold pmem_Flush.H
  simp (maxSteps := 4000000) only [go_sem, Nat.reduceEqDiff, Nat.reduceLT, Nat.reduceAdd, Nat.reduceSub, Nat.reduceLeDiff, List.reduceReplicate, Int.reduceToNat, pmem_place.C, pmem_first.C, slices_Clone_sl_api_Pending_api_Pending.C, pmem_of.K, pmem_of.H, pmem_of_1.I, pmem_of_1.H, joinW_eq]
  rename_i vol per pend line
  refine ⟨hS.1, hS, fun hb => ?_, fun hb => ⟨hS.2.2, ?_⟩⟩
  · unfold flushM; rw [hb]; exact post_val rfl rfl
  intro l r
  obtain ⟨s1, s2, s3⟩ := hS
  unfold roomy at s1 s2 s3
  unfold pmem_of_1.L1
  refine ⟨fun m lv h' => ∃ k : Nat, k + m = pend.length ∧ lv = [.int .i64 k] ∧ h' = [.box (.agg [.sl false (.ints .i64 vol), .sl false (.ints .i64 per), .sl false (.pends pend)]),
      .box (.agg [.sl false (.ints .i64 []), .sl false (.ints .i64 []), .sl false (.pends [])]), .row .own 0 (.pends (flushP line (pend.take k) ++ pend.drop k)), .box (.sref false 2 0 0 pend.length),
      .box (.agg [.sl false (.ints .i64 vol), .sl false (.ints .i64 per), .sl false (.pends pend)]), .box (.int .i64 line), .lp .ready none r],
    ⟨pend.length, 0, by omega, rfl, rfl⟩, ?_⟩
  rintro m h' t9 ⟨k, hk, hlv, rfl⟩
  simp only [List.cons.injEq, and_true] at hlv
  subst hlv
  have hlen : (flushP line (pend.take k) ++ pend.drop k).length = pend.length := by simp [flushP]; omega
  simp only [go_sem, Nat.reduceEqDiff, Nat.reduceLT, Nat.reduceAdd, Nat.reduceSub, Nat.reduceLeDiff, List.reduceReplicate, Int.reduceToNat, encPend, hlen]
  refine ⟨fun hlt => ?_, fun hge => ?_⟩
  · have hkl : k < pend.length := by omega
    have hget : (flushP line (pend.take k) ++ pend.drop k).getD k ⟨0, 0, false⟩ = pend.getD k ⟨0, 0, false⟩ := by
      rw [List.getD_eq_getElem?_getD, List.getElem?_append_right (by simp [flushP]; omega)]
      have e : k - (flushP line (pend.take k)).length = 0 := by simp [flushP]; omega
      rw [e, List.getElem?_drop, Nat.add_zero, List.getD_eq_getElem?_getD]
    have hdrop : pend.drop k = pend.getD k ⟨0, 0, false⟩ :: pend.drop (k + 1) := by
      rw [List.getD_eq_getElem?_getD, List.getElem?_eq_getElem hkl, List.drop_eq_getElem_cons hkl]; rfl
    have hset : ∀ q : Pend, (flushP line (pend.take k) ++ pend.drop k).set k q = flushP line (pend.take k) ++ q :: pend.drop (k + 1) := by
      intro q
      rw [hdrop, List.set_append_right _ _ (by simp [flushP]; omega)]
      have e : k - (flushP line (pend.take k)).length = 0 := by simp [flushP]; omega
      rw [e]; rfl
    have hnx : flushP line (pend.take (k + 1)) = flushP line (pend.take k) ++ [if lineOf (pend.getD k ⟨0, 0, false⟩).at_ = line then { pend.getD k ⟨0, 0, false⟩ with fl := true } else pend.getD k ⟨0, 0, false⟩] := by
      rw [take_next pend k ⟨0, 0, false⟩ hkl]
      simp [flushP]
    rw [joinW_eq]
    simp only [guardW_bool, hget, hset]
    refine ⟨by omega, by decide, fun hc => ?_, fun hc => ?_⟩
    · have hc : lineOf (pend.getD k ⟨0, 0, false⟩).at_ = line := by simpa [lineOf] using hc
      simp only [go_sem, Nat.reduceEqDiff, Nat.reduceLT, Nat.reduceAdd, Nat.reduceSub, Nat.reduceLeDiff, List.reduceReplicate, Int.reduceToNat]
      refine ⟨⟨by omega, by omega⟩, hkl, m - 1, by omega, k + 1, by omega, by rw [w64 (by omega) (by omega)]; rfl, ?_⟩
      rw [hnx, if_pos hc, List.append_assoc]; rfl
    · have hc : ¬ lineOf (pend.getD k ⟨0, 0, false⟩).at_ = line := by simpa [lineOf] using hc
      simp only [go_sem, Nat.reduceEqDiff, Nat.reduceLT, Nat.reduceAdd, Nat.reduceSub, Nat.reduceLeDiff, List.reduceReplicate, Int.reduceToNat]
      refine ⟨m - 1, by omega, k + 1, by omega, by rw [w64 (by omega) (by omega)]; rfl, ?_⟩
      rw [hnx, if_neg hc, List.append_assoc, hdrop]; rfl
  · have : k = pend.length := by omega
    subst this
    rw [List.take_length, List.drop_length, List.append_nil] at hlen
    have e : flushP line (pend.take pend.length) ++ pend.drop pend.length = flushP line pend := by rw [List.take_length, List.drop_length, List.append_nil]
    rw [e]
    unfold flushM
    simp only [hb, if_true]
    refine post_val ?_ rfl
    have t1 : (flushP line pend).take pend.length = flushP line pend := List.take_of_length_le (by omega)
    simp only [go_sem, Nat.reduceEqDiff, Nat.reduceLT, Nat.reduceAdd, Nat.reduceSub, Nat.reduceLeDiff, List.reduceReplicate, Int.reduceToNat, memV, t1]
def pmem_Fence_1.C : Contract
  | [.agg [.int .i64 a, .int .i64 v, .bool f]] => some (false, pD True (.bool f))
  | _ => none
set_option maxRecDepth 20000 in
theorem pmem_Fence_1.spec : FSpec Try.prog 103 pmem_Fence_1.C := by
  refine FSpec.of (ctx_ok (F := []) (S := []) (by simp) (by simp) pmem_Fence_1.loops) pmem_Fence_1.at pmem_Fence_1.nm pmem_Fence_1.bd ?_
  intro vs b S v news e hS
  unfold pmem_Fence_1.C at e
  split at e
  rotate_left
  · cases e
  cases e
  rw [pmem_Fence_1.eq]
  unfold pmem_Fence_1.H
  simp (maxSteps := 4000000) only [go_sem, Nat.reduceEqDiff, Nat.reduceLT, Nat.reduceAdd, Nat.reduceSub, Nat.reduceLeDiff, List.reduceReplicate, Int.reduceToNat]
  exact post_val rfl rfl
def pmem_Crash_1.K : Con := fun args h K => match args with
  | [a0, a1] => pmem_Crash_1.H (ctx [] [] pmem_Crash_1.loops) a0 a1 h K
  | _ => False
theorem pmem_Crash_1.spec : SSpec Try.prog 79 pmem_Crash_1.K := by
  refine SSpec.of (ctx_ok (F := []) (S := []) (by simp) (by simp) pmem_Crash_1.loops) pmem_Crash_1.at pmem_Crash_1.nm pmem_Crash_1.bd ?_
  intro args h K hC
  unfold pmem_Crash_1.K at hC
  split at hC
  · rw [pmem_Crash_1.eq]; exact hC
  · exact hC.elim
def pmem_keep.K : Con := fun args h K => match args with
  | [a0, a1] => pmem_keep.H (ctx [(55, slices_Clone_sl_int_int.C), (103, pmem_Fence_1.C)] [(79, pmem_Crash_1.K)] pmem_keep.loops) a0 a1 h K
  | _ => False
theorem pmem_keep.spec : SSpec Try.prog 78 pmem_keep.K := by
  refine SSpec.of (ctx_ok (F := [(55, slices_Clone_sl_int_int.C), (103, pmem_Fence_1.C)]) (S := [(79, pmem_Crash_1.K)]) (by simpa using ⟨slices_Clone_sl_int_int.spec, pmem_Fence_1.spec⟩) (by simpa using pmem_Crash_1.spec) pmem_keep.loops) pmem_keep.at pmem_keep.nm pmem_keep.bd ?_
  intro args h K hC
  unfold pmem_keep.K at hC
  split at hC
  · rw [pmem_keep.eq]; exact hC
  · exact hC.elim

def pmem_Fence.C : Contract
  | [.agg [.sl false (.ints .i64 vol), .sl false (.ints .i64 per), .sl false (.pends pend)]] => some (false, pD (smallM vol per pend) (fenceM fFl (checkB vol per pend) vol per pend))
  | _ => none
set_option maxRecDepth 20000 in
theorem pmem_Fence.spec : FSpec Try.prog 95 pmem_Fence.C := by
  refine FSpec.of (ctx_ok (F := [(19, pmem_Check.C)]) (S := [(78, pmem_keep.K)]) (by simpa using pmem_Check.spec) (by simpa using pmem_keep.spec) pmem_Fence.loops) pmem_Fence.at pmem_Fence.nm pmem_Fence.bd ?_
  intro vs b S v news e hS
  unfold pmem_Fence.C at e
  split at e
  rotate_left
  · cases e
  cases e
  rw [pmem_Fence.eq]
  unfold pmem_Fence.H
  simp (maxSteps := 4000000) only [go_sem, Nat.reduceEqDiff, Nat.reduceLT, Nat.reduceAdd, Nat.reduceSub, Nat.reduceLeDiff, List.reduceReplicate, Int.reduceToNat, pmem_Check.C, pmem_keep.K, pmem_keep.H, slices_Clone_sl_int_int.C]
  rename_i vol per pend
  refine ⟨hS, fun hb => ?_, fun hb => ⟨hS.2.1, ?_⟩⟩
  · unfold fenceM; rw [hb]; exact post_val rfl rfl
  obtain ⟨s1, s2, s3⟩ := hS
  unfold roomy at s1 s2 s3
  have hrange := check_range hb
  rw [joinW_eq]
  unfold pmem_keep.L1
  refine ⟨fun m lv h' => ∃ k v : Nat, k + m = pend.length ∧ lv = [.int .i64 k] ∧ h' = [.box (.agg [.sl false (.ints .i64 vol), .sl false (.ints .i64 per), .sl false (.pends pend)]), .box (.agg [.sl false (.ints .i64 []), .sl false (.ints .i64 []), .sl false (.pends [])]), .box (.agg [.sl false (.ints .i64 vol), .sl false (.ints .i64 per), .sl false (.pends pend)]), .box (.agg [.sl false (.ints .i64 []), .sl false (.ints .i64 []), .sl false (.pends [])]), .row .own 0 (.ints .i64 (keepW fFl (pend.take k) per)), .box (.agg [.sl false (.ints .i64 vol), .sref false 4 0 0 per.length, .sref false 6 v 0 (keepP fFl (pend.take k)).length]), .row .own v (.pends (keepP fFl (pend.take k)))],
    ⟨pend.length, 0, 0, by omega, rfl, rfl⟩, ?_⟩
  rintro m h' t17 ⟨k, v, hk, hlv, rfl⟩
  simp only [List.cons.injEq, and_true] at hlv
  subst hlv
  have hwl : (keepW fFl (pend.take k) per).length = per.length := keepW_len _ _ _
  have hpl : (keepP fFl (pend.take k)).length ≤ k := Nat.le_trans (List.length_filter_le _ _) (by simp; omega)
  simp only [go_sem, Nat.reduceEqDiff, Nat.reduceLT, Nat.reduceAdd, Nat.reduceSub, Nat.reduceLeDiff, List.reduceReplicate, Int.reduceToNat, encPend, hwl, pmem_Fence_1.C]
  refine ⟨fun hlt => ?_, fun hge => ?_⟩
  · have hkl : k < pend.length := by omega
    have hr := hrange _ (getD_mem pend k ⟨0, 0, false⟩ hkl)
    have hW := keepW_snoc fFl (pend.getD k ⟨0, 0, false⟩) (pend.take k) per
    have hP := keepP_snoc fFl (pend.getD k ⟨0, 0, false⟩) (pend.take k)
    rw [← take_next pend k ⟨0, 0, false⟩ hkl] at hW hP
    generalize pend.getD k ⟨0, 0, false⟩ = p at *
    try rw [joinW_eq]
    refine ⟨by omega, fun hc => ?_, fun hc => ?_⟩
    · have hc : fFl p = true := hc
      rw [hc] at hW hP
      simp only [go_sem, Nat.reduceEqDiff, Nat.reduceLT, Nat.reduceAdd, Nat.reduceSub, Nat.reduceLeDiff, List.reduceReplicate, Int.reduceToNat]
      refine ⟨hr, by omega, m - 1, by omega, k + 1, v, by omega, by rw [w64 (by omega) (by omega)]; rfl, ?_⟩
      rw [hW, hP]
    · have hc : fFl p = false := hc
      rw [hc] at hW hP
      simp only [go_sem, Nat.reduceEqDiff, Nat.reduceLT, Nat.reduceAdd, Nat.reduceSub, Nat.reduceLeDiff, List.reduceReplicate, Int.reduceToNat]
      refine ⟨by unfold roomy; simp; omega, m - 1, by omega, k + 1, v + 1, by omega, by rw [w64 (by omega) (by omega)]; rfl, ?_⟩
      rw [hW, hP]
  · have : k = pend.length := by omega
    subst this
    rw [List.take_length] at hwl hpl ⊢
    have t1 : (keepW fFl pend per).take per.length = keepW fFl pend per := List.take_of_length_le (by omega)
    have t2 : (keepP fFl pend).take (keepP fFl pend).length = keepP fFl pend := List.take_length
    unfold fenceM
    simp only [hb, if_true, go_sem, Nat.reduceEqDiff, Nat.reduceLT, Nat.reduceAdd, Nat.reduceSub, Nat.reduceLeDiff, List.reduceReplicate, Int.reduceToNat]
    refine post_val ?_ rfl
    simp only [go_sem, Nat.reduceEqDiff, Nat.reduceLT, Nat.reduceAdd, Nat.reduceSub, Nat.reduceLeDiff, List.reduceReplicate, Int.reduceToNat, memV, t1, t2]

end Lam
