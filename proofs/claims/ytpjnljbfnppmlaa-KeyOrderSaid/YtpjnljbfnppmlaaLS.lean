/- The rules by which verification conditions are reckoned: tagged go_sem, used by 'simp only [go_sem]'. -/
import Derived.Test.YtpjnljbfnppmlaaLA
import Derived.Attr
set_option linter.unusedVariables false
set_option linter.unusedSimpArgs false
set_option linter.unnecessarySimpa false
set_option linter.unusedSectionVars false
namespace Lam
open Go

/-- bits of whole numbers -/
def xorI (k : IntKind) (a b : Int) : Int := k.wrap (BitVec.ofInt k.bits a ^^^ BitVec.ofInt k.bits b).toNat
def andI (k : IntKind) (a b : Int) : Int := k.wrap (BitVec.ofInt k.bits a &&& BitVec.ofInt k.bits b).toNat
def orI (k : IntKind) (a b : Int) : Int := k.wrap (BitVec.ofInt k.bits a ||| BitVec.ofInt k.bits b).toNat
def andNotI (k : IntKind) (a b : Int) : Int := k.wrap (BitVec.ofInt k.bits a &&& ~~~ BitVec.ofInt k.bits b).toNat
def notI (k : IntKind) (a : Int) : Int := k.wrap (BitVec.ofInt k.bits (if k.signed then -1 else k.max) ^^^ BitVec.ofInt k.bits a).toNat

section runs
variable (S : Prop) (v : AV) (news h : List AObj) (K KP : AV → List AObj → Prop)
@[go_sem] theorem runD_p : runD (pD S v) h K = (S ∧ K v h) := by simp [pD, runD]
@[go_sem] theorem runD_some : runD (some (S, v, news)) h K = (S ∧ K v (h ++ news)) := (rfl)
@[go_sem] theorem runH_some (id : Nat) (o : AObj) : runH (some (S, id, o)) h K = (S ∧ K .und (h.set id o)) := (rfl)
@[go_sem] theorem runM_some (id : Nat) (o : AObj) : runM (some (S, v, id, o)) h K = (S ∧ K v (h.set id o)) := (rfl)
@[go_sem] theorem runDM_p (y) : runDM (pD S v) y h K = (S ∧ K v h) := by simp [pD, runDM]
@[go_sem] theorem runDM_some (y) : runDM (some (S, v, news)) y h K = (S ∧ K v (h ++ news)) := (rfl)
@[go_sem] theorem runDM_none (y) : runDM none y h K = runM y h K := (rfl)
@[go_sem] theorem nilEqO_some (n : Nat) : nilEqO (some n) h K = ∀ b : Bool, (b = true → n = 0) → K (.bool b) h := (rfl)
@[go_sem] theorem boxW_eq (d : TyD) : boxW d v h K = (fitP d v ∧ K (.ptr h.length []) (h ++ [boxO v])) := (rfl)
@[go_sem] theorem panW_iface (t : TypeId) (u : AV) : panW (.iface t u) h KP = KP (.iface t u) h := (rfl)
@[go_sem] theorem whenP_true (A : Prop) : whenP true A = A := (rfl)
@[go_sem] theorem whenD_true (x : D) : whenD true x = x := (rfl)
theorem guardW_bool (b w : Bool) (A B : Prop) : guardW (.bool b) w A B = ((b = w → A) ∧ (b = (!w) → B)) := (rfl)
@[go_sem] theorem condW_bool (b : Bool) (A B : Prop) : condW (.bool b) A B = ((b = true → A) ∧ (b = false → B)) := (rfl)
@[go_sem] theorem callW_fn (c : Ctx) (f : FuncId) (first cap args : List AV) : callW c (.fn (.func f) first cap) args h K KP =
    callR c.drawn (callArgs c f (AV.vals h (first ++ args ++ cap))) (AV.rowss (first ++ args ++ cap)) h K (c.envS f (first ++ args ++ cap) h (outW K KP)) := (rfl)
@[go_sem] theorem callArgs_some (c : Ctx) (f : FuncId) (vs : List AV) : callArgs c f (some vs) = if AV.closeds vs = true then c.envF f vs else none := by
  cases h : AV.closeds vs <;> simp [callArgs, h]
@[go_sem] theorem callArgs_none (c : Ctx) (f : FuncId) : callArgs c f none = none := (rfl)
@[go_sem] theorem callR_fresh (dr : Bool) (rows : List Nat) (els : Prop) : callR dr (some (true, some (S, v, news))) rows h K els = (S ∧ K (v.shift h.length) (h ++ news)) := (rfl)
@[go_sem] theorem callR_freshp (dr : Bool) (rows : List Nat) (els : Prop) : callR dr (some (true, pD S v)) rows h K els = (S ∧ K (v.shift h.length) h) := by simp [pD, callR]
@[go_sem] theorem callR_plain (dr : Bool) (rows : List Nat) (els : Prop) (hv : v.noSl = true) : callR dr (some (false, pD S v)) rows h K els = (S ∧ K v h) := by simp [pD, callR, hv]
@[go_sem] theorem callR_valp (rows : List Nat) (els : Prop) (hv : v.noSl = false) : callR false (some (false, pD S v)) rows h K els = (S ∧ K v (freeze rows h)) := by simp [pD, callR, hv]
@[go_sem] theorem callR_none0 (dr : Bool) (els : Prop) : callR dr (some (false, pD S v)) [] h K els = (S ∧ K v h) := by cases hv : v.noSl <;> simp [pD, callR, hv, freeze]
@[go_sem] theorem callR_none (dr : Bool) (rows : List Nat) (els : Prop) : callR dr none rows h K els = els := (rfl)
@[go_sem] theorem freeze_nil : freeze [] h = h := (rfl)
@[go_sem] theorem freeze_cons (id : Nat) (r : List Nat) : freeze (id :: r) h = freeze r (h.modify id froO) := (rfl)
@[go_sem] theorem froO_row (k : RK) (ver : Nat) (l : Lst) : froO (.row k ver l) = .row .fro ver l := (rfl)
@[go_sem] theorem froO_box (u : AV) : froO (.box u) = .box u := (rfl)
@[go_sem] theorem froO_lp (st : LoopState) (pd : Option Code) (r : Loop) : froO (.lp st pd r) = .lp st pd r := (rfl)
@[go_sem] theorem normO_lp (n : Nat) (st : LoopState) (pd : Option Code) (r : Loop) : normO n h (.lp st pd r) = .lp st pd r := (rfl)
@[go_sem] theorem callW_yield (c : Ctx) (l : Nat) (args : List AV) (KP : AV → List AObj → Prop) : callW c (.fn (.yield l) [] []) args h K KP = c.envY l args h (outW K KP) := (rfl)
@[go_sem] theorem noS_envY (c : Ctx) (l : Nat) (a : List AV) (K' : AOut → List AObj → Prop) : c.noS.envY l a h K' = False := (rfl)
@[go_sem] theorem noI_drawn (c : Ctx) : c.noI.drawn = c.drawn := (rfl)
@[go_sem] theorem noI_envF (c : Ctx) : c.noI.envF = c.envF := (rfl)
@[go_sem] theorem noI_envS (c : Ctx) : c.noI.envS = c.envS := (rfl)
@[go_sem] theorem noI_envY (c : Ctx) : c.noI.envY = c.envY := (rfl)
@[go_sem] theorem noI_tab (c : Ctx) : c.noI.tab = c.tab := (rfl)
@[go_sem] theorem withY_drawn (c : Ctx) (l : Nat) (Y : Con) : (c.withY l Y).drawn = c.drawn := (rfl)
@[go_sem] theorem withY_envF (c : Ctx) (l : Nat) (Y : Con) : (c.withY l Y).envF = c.envF := (rfl)
@[go_sem] theorem withY_envS (c : Ctx) (l : Nat) (Y : Con) : (c.withY l Y).envS = c.envS := (rfl)
@[go_sem] theorem withY_envY (c : Ctx) (l l' : Nat) (Y : Con) (a : List AV) (K' : AOut → List AObj → Prop) : (c.withY l Y).envY l' a h K' = (l' = l ∧ Y a h K') := (rfl)
@[go_sem] theorem rangeX_fn (iterS : FuncId → Con → Con) (f : FuncId) (cap : List AV) (rd : Nat → Loop → Con) (fin : Nat → Loop → AOut → List AObj → Prop) :
    rangeX iterS (.fn (.func f) [] cap) h rd fin = rangeY iterS f cap (promB h 0 h) rd fin := (rfl)
@[go_sem] theorem rangeY_eq (iterS : FuncId → Con → Con) (f : FuncId) (cap : List AV) (rd : Nat → Loop → Con) (fin : Nat → Loop → AOut → List AObj → Prop) :
    rangeY iterS f cap h rd fin = ∀ (l : Nat) (r : Loop), iterS f (rd h.length r) (.fn (.yield l) [] [] :: cap) (h ++ [.lp .ready none r]) (fin h.length r) := (rfl)
@[go_sem] theorem promB_nil (i : Nat) : promB [] i h = h := (rfl)
@[go_sem] theorem promB_cons (o : AObj) (r : List AObj) (i : Nat) : promB (o :: r) i h = promB r (i + 1) (promS i (promO o) h) := (rfl)
@[go_sem] theorem promS_none (i : Nat) : promS i none h = h := (rfl)
@[go_sem] theorem promS_some (i : Nat) (l : Lst) : promS i (some l) h = (h ++ [AObj.row .own 0 l]).set i (.box (.sref false h.length 0 0 0)) := (rfl)
@[go_sem] theorem promO_slt (l : Lst) : promO (.box (.sl true l)) = promL l := (rfl)
@[go_sem] theorem promO_slf (l : Lst) : promO (.box (.sl false l)) = none := (rfl)
@[go_sem] theorem promO_int (k : IntKind) (n : Int) : promO (.box (.int k n)) = none := (rfl)
@[go_sem] theorem promO_bool (b : Bool) : promO (.box (.bool b)) = none := (rfl)
@[go_sem] theorem promO_str (b : Bytes) : promO (.box (.str b)) = none := (rfl)
@[go_sem] theorem promO_agg (vs : List AV) : promO (.box (.agg vs)) = none := (rfl)
@[go_sem] theorem promO_sref (x : Bool) (a b c d : Nat) : promO (.box (.sref x a b c d)) = none := (rfl)
@[go_sem] theorem promO_map (a : Nat) : promO (.box (.map a)) = none := (rfl)
@[go_sem] theorem promO_ptr (a : Nat) (p : List PS) : promO (.box (.ptr a p)) = none := (rfl)
@[go_sem] theorem promO_fn (f : Fn) (a b : List AV) : promO (.box (.fn f a b)) = none := (rfl)
@[go_sem] theorem promO_row (k : RK) (v : Nat) (l : Lst) : promO (.row k v l) = none := (rfl)
@[go_sem] theorem promO_mp (m : MapC) : promO (.map m) = none := (rfl)
@[go_sem] theorem promO_lp (st : LoopState) (pd : Option Code) (r : Loop) : promO (.lp st pd r) = none := (rfl)
@[go_sem] theorem promO_dead : promO .dead = none := (rfl)
@[go_sem] theorem promL_ints (k : IntKind) : promL (.ints k []) = some (.ints k []) := (rfl)
@[go_sem] theorem promL_bools : promL (.bools []) = some (.bools []) := (rfl)
@[go_sem] theorem promL_strs : promL (.strs []) = some (.strs []) := (rfl)
@[go_sem] theorem promL_pends : promL (.pends []) = some (.pends []) := (rfl)
@[go_sem] theorem promL_mics : promL (.mics []) = some (.mics []) := (rfl)
@[go_sem] theorem promL_recs : promL (.recs []) = some (.recs []) := (rfl)
@[go_sem] theorem promL_pairs : promL (.pairs []) = some (.pairs []) := (rfl)
@[go_sem] theorem promL_slots : promL (.slots []) = some (.slots []) := (rfl)
@[go_sem] theorem lpIs_eq (id : Nat) (st : LoopState) (r : Loop) : lpIs h id st r = (h[id]? = some (.lp st none r)) := (rfl)
@[go_sem] theorem argX0_nil (A : Prop) : argX0 [] A = A := (rfl)
@[go_sem] theorem argX1_cons (v : AV) (vs : List AV) (A : AV → Prop) : argX1 (v :: vs) A = argX0 vs (A v) := (rfl)
@[go_sem] theorem argX2_cons (v : AV) (vs : List AV) (A : AV → AV → Prop) : argX2 (v :: vs) A = argX1 vs (A v) := (rfl)
section
variable (id : Nat) (r r' : Loop) (kn kr : List AObj → Prop) (ke kg : Nat → List AObj → Prop) (kp : AV → List AObj → Prop)
@[go_sem] theorem endX_ret (v : AV) : endX id r (.ret v) h kn kr ke kg kp = endO (h[id]?) id r h kn kr ke kg := (rfl)
@[go_sem] theorem endX_pan (v : AV) : endX id r (.pan v) h kn kr ke kg kp = kp v h := (rfl)
@[go_sem] theorem endO_ready : endO (some (.lp .ready none r')) id r h kn kr ke kg = (r' = r ∧ kn (h.set id (.lp .exhausted none r))) := (rfl)
@[go_sem] theorem endO_ret : endO (some (.lp .done (some .ret) r')) id r h kn kr ke kg = (r' = r ∧ kr (h.set id (.lp .exhausted (some .ret) r))) := (rfl)
@[go_sem] theorem endO_exit (i : Nat) : endO (some (.lp .done (some (.exit i)) r')) id r h kn kr ke kg = (r' = r ∧ ke i (h.set id (.lp .exhausted (some (.exit i)) r))) := (rfl)
@[go_sem] theorem endO_goto (i : Nat) : endO (some (.lp .done (some (.goto i)) r')) id r h kn kr ke kg = (r' = r ∧ kg i (h.set id (.lp .exhausted (some (.goto i)) r))) := (rfl)
end
@[go_sem] theorem exitW_eq (i id : Nat) (A B : Prop) : exitW i id A B = match Nat.beq i id with
  | true => A
  | false => B := (rfl)
@[go_sem] theorem noS_drawn (c : Ctx) : c.noS.drawn = true := (rfl)
@[go_sem] theorem noS_envF (c : Ctx) : c.noS.envF = c.envF := (rfl)
@[go_sem] theorem noS_tab (c : Ctx) : c.noS.tab = c.tab := (rfl)
@[go_sem] theorem noS_envS (c : Ctx) (f : FuncId) (a : List AV) (K' : AOut → List AObj → Prop) : c.noS.envS f a h K' = False := (rfl)
@[go_sem] theorem outW_ret : outW K KP (.ret v) h = K v h := (rfl)
@[go_sem] theorem outW_pan : outW K KP (.pan v) h = KP v h := (rfl)
@[go_sem] theorem loadRes_p (K : AV → Prop) : loadRes (pD S v) K = (S ∧ K v) := (rfl)
@[go_sem] theorem someD_some {α : Type} (a : α) (f : α → D) : someD (some a) f = f a := (rfl)
@[go_sem] theorem someD_none {α : Type} (f : α → D) : someD (none : Option α) f = none := (rfl)
end runs

section congrs
variable {K KP : AV → List AObj → Prop} {h h' : List AObj}
@[congr] theorem runD_congr {x x' : D} (e : x = x') (e' : h = h') : runD x h K = runD x' h' K := by rw [e, e']
@[congr] theorem runH_congr {x x' : Option (Prop × Nat × AObj)} (e : x = x') (e' : h = h') : runH x h K = runH x' h' K := by rw [e, e']
@[congr] theorem runM_congr {x x' : Option (Prop × AV × Nat × AObj)} (e : x = x') (e' : h = h') : runM x h K = runM x' h' K := by rw [e, e']
@[congr] theorem runDM_congr {x x' : D} {y : Option (Prop × AV × Nat × AObj)} (e : x = x') (e' : h = h') : runDM x y h K = runDM x' y h' K := by rw [e, e']
@[congr] theorem condW_congr {v v' : AV} {A B : Prop} (e : v = v') : condW v A B = condW v' A B := by rw [e]
@[congr] theorem guardW_congr {v v' : AV} {w : Bool} {A B : Prop} (e : v = v') : guardW v w A B = guardW v' w A B := by rw [e]
@[congr] theorem nilEqO_congr {x x' : Option Nat} (e' : x = x') (e : h = h') : nilEqO x h K = nilEqO x' h' K := by rw [e, e']
@[congr] theorem boxW_congr {d d' : TyD} {x x' : AV} (e2 : d = d') (e' : x = x') (e : h = h') : boxW d x h K = boxW d' x' h' K := by rw [e, e', e2]
@[congr] theorem panW_congr {x x' : AV} (e' : x = x') (e : h = h') : panW x h KP = panW x' h' KP := by rw [e, e']
@[congr] theorem whenP_congr {b b' : Bool} {A : Prop} (e : b = b') : whenP b A = whenP b' A := by rw [e]
@[congr] theorem callW_congr {c : Ctx} {f f' : AV} {a a' : List AV} (e2 : f = f') (e' : a = a') (e : h = h') : callW c f a h K KP = callW c f' a' h' K KP := by rw [e, e', e2]
@[congr] theorem callR_congr {dr dr' : Bool} {x x' : Option (Bool × D)} {rows rows' : List Nat} {els : Prop} (e2 : dr = dr') (e : x = x') (e3 : rows = rows') (e' : h = h') : callR dr x rows h K els = callR dr' x' rows' h' K els := by rw [e, e', e2, e3]
@[congr] theorem sepW_congr {t t' : List (Nat × AV)} {l : List (Option Operand × List Operand)} {A : Prop} (e : t = t') : sepW t l A = sepW t' l A := by rw [e]
@[congr] theorem loadRes_congr {x x' : D} {K : AV → Prop} (e : x = x') : loadRes x K = loadRes x' K := by rw [e]
@[congr] theorem promV_congr {fs : List Bool} {vs vs' : List AV} {K : List AV → List AObj → Prop} (e : vs = vs') (e' : h = h') : promV fs vs h K = promV fs vs' h' K := by rw [e, e']
end congrs

section lists
@[go_sem] theorem sizes_nil : AV.sizes [] = 0 := (rfl)
@[go_sem] theorem sizes_cons (v : AV) (r : List AV) : AV.sizes (v :: r) = v.size + AV.sizes r := (rfl)
@[go_sem] theorem size_agg (vs : List AV) : (AV.agg vs).size = AV.sizes vs := (rfl)
@[go_sem] theorem size_int (k : IntKind) (n : Int) : (AV.int k n).size = 1 := (rfl)
@[go_sem] theorem size_bool (b : Bool) : (AV.bool b).size = 1 := (rfl)
@[go_sem] theorem size_str (s : Bytes) : (AV.str s).size = 1 := (rfl)
@[go_sem] theorem size_sl (x : Bool) (l : Lst) : (AV.sl x l).size = 1 := (rfl)
@[go_sem] theorem size_sref (x : Bool) (a b c d : Nat) : (AV.sref x a b c d).size = 1 := (rfl)
@[go_sem] theorem size_ptr (a : Nat) (p : List PS) : (AV.ptr a p).size = 1 := (rfl)
@[go_sem] theorem size_nilp : (AV.nilp).size = 1 := (rfl)
@[go_sem] theorem size_ep (l : Lst) (a : Nat) (p : List PS) : (AV.ep l a p).size = 1 := (rfl)
@[go_sem] theorem size_map (a : Nat) : (AV.map a).size = 1 := (rfl)
@[go_sem] theorem size_fn (f : Fn) (a b : List AV) : (AV.fn f a b).size = 1 := (rfl)
@[go_sem] theorem size_top : (AV.top).size = 1 := (rfl)
@[go_sem] theorem size_nilfn : (AV.nilfn).size = 1 := (rfl)
@[go_sem] theorem size_iface (t : TypeId) (v : AV) : (AV.iface t v).size = 1 := (rfl)
@[go_sem] theorem size_niliface : (AV.niliface).size = 1 := (rfl)
@[go_sem] theorem tsize_int (k : IntKind) : (TyD.int k).size = 1 := (rfl)
@[go_sem] theorem tsize_bool : TyD.bool.size = 1 := (rfl)
@[go_sem] theorem tsize_str : TyD.str.size = 1 := (rfl)
@[go_sem] theorem tsize_slice (e : LK) : (TyD.slice e).size = 1 := (rfl)
@[go_sem] theorem tsize_ptr : TyD.ptr.size = 1 := (rfl)
@[go_sem] theorem tsize_map (m : MK) : (TyD.map m).size = 1 := (rfl)
@[go_sem] theorem tsize_func : TyD.func.size = 1 := (rfl)
@[go_sem] theorem tsize_other : TyD.other.size = 1 := (rfl)
@[go_sem] theorem tsize_strct (fs : List TyD) : (TyD.strct fs).size = TyD.sizes fs := (rfl)
@[go_sem] theorem tsizes_nil : TyD.sizes [] = 0 := (rfl)
@[go_sem] theorem tsizes_cons (t : TyD) (r : List TyD) : TyD.sizes (t :: r) = t.size + TyD.sizes r := (rfl)
@[go_sem] theorem zero_int (k : IntKind) : (TyD.int k).zero = .int k 0 := (rfl)
@[go_sem] theorem zero_bool : TyD.bool.zero = .bool false := (rfl)
@[go_sem] theorem zero_str : TyD.str.zero = .str [] := (rfl)
@[go_sem] theorem zero_slice (e : LK) : (TyD.slice e).zero = .sl true e.empty := (rfl)
@[go_sem] theorem zero_ptr : TyD.ptr.zero = .nilp := (rfl)
@[go_sem] theorem zero_map (m : MK) : (TyD.map m).zero = .top := (rfl)
@[go_sem] theorem zero_func : TyD.func.zero = .nilfn := (rfl)
@[go_sem] theorem zero_arr (n : Nat) (e : LK) : (TyD.arr n e).zero = .arr (e.zeros n) := (rfl)
@[go_sem] theorem zero_strct (fs : List TyD) : (TyD.strct fs).zero = .agg (TyD.zeros fs) := (rfl)
@[go_sem] theorem zeros_nil : TyD.zeros [] = [] := (rfl)
@[go_sem] theorem zeros_cons (t : TyD) (r : List TyD) : TyD.zeros (t :: r) = t.zero :: TyD.zeros r := (rfl)
@[go_sem] theorem empty_int (k : IntKind) : (LK.int k).empty = .ints k [] := (rfl)
@[go_sem] theorem empty_bool : LK.bool.empty = .bools [] := (rfl)
@[go_sem] theorem empty_str : LK.str.empty = .strs [] := (rfl)
@[go_sem] theorem empty_pend : LK.pend.empty = .pends [] := (rfl)
@[go_sem] theorem empty_mic : LK.mic.empty = .mics [] := (rfl)
@[go_sem] theorem empty_rcd : LK.rcd.empty = .recs [] := (rfl)
@[go_sem] theorem empty_pair : LK.pair.empty = .pairs [] := (rfl)
@[go_sem] theorem empty_slot : LK.slot.empty = .slots [] := (rfl)
@[go_sem] theorem zeros_int (n : Nat) (k : IntKind) : (LK.int k).zeros n = .ints k (List.replicate n 0) := (rfl)
@[go_sem] theorem zeros_bool (n : Nat) : LK.bool.zeros n = .bools (List.replicate n false) := (rfl)
@[go_sem] theorem zeros_pend (n : Nat) : LK.pend.zeros n = .pends (List.replicate n ⟨0, 0, false⟩) := (rfl)
@[go_sem] theorem zeros_mic (n : Nat) : LK.mic.zeros n = .mics (List.replicate n ⟨0, 0, 0⟩) := (rfl)
@[go_sem] theorem zeros_slot (n : Nat) : LK.slot.zeros n = .slots (List.replicate n ⟨0, 0⟩) := (rfl)
@[go_sem] theorem zeros_rcd (n : Nat) : LK.rcd.zeros n = .recs (List.replicate n ⟨0, [], [], 0⟩) := (rfl)
@[go_sem] theorem zeros_pair (n : Nat) : LK.pair.zeros n = .pairs (List.replicate n ⟨[], []⟩) := (rfl)
@[go_sem] theorem zeros_str (n : Nat) : LK.str.zeros n = .strs (List.replicate n []) := (rfl)
@[go_sem] theorem lksize_int (k : IntKind) : (LK.int k).size = 1 := (rfl)
@[go_sem] theorem lksize_bool : LK.bool.size = 1 := (rfl)
@[go_sem] theorem lksize_str : LK.str.size = 1 := (rfl)
@[go_sem] theorem lksize_pend : LK.pend.size = 3 := (rfl)
@[go_sem] theorem lksize_mic : LK.mic.size = 3 := (rfl)
@[go_sem] theorem lksize_rcd : LK.rcd.size = 4 := (rfl)
@[go_sem] theorem lksize_pair : LK.pair.size = 2 := (rfl)
@[go_sem] theorem lksize_slot : LK.slot.size = 2 := (rfl)
variable (k : IntKind) (xs ys : List Int) (bs cs : List Bool) (ps qs : List Pend) (ms ns : List Mic) (rs ss : List RecT) (ts us : List PairT) (vs ws : List SlotT) (ys1 ys2 : List Bytes) (i n : Nat)
@[go_sem] theorem len_ints : (Lst.ints k xs).len = xs.length := (rfl)
@[go_sem] theorem len_bools : (Lst.bools bs).len = bs.length := (rfl)
@[go_sem] theorem len_strs : (Lst.strs ys1).len = ys1.length := (rfl)
@[go_sem] theorem len_pends : (Lst.pends ps).len = ps.length := (rfl)
@[go_sem] theorem len_mics : (Lst.mics ms).len = ms.length := (rfl)
@[go_sem] theorem len_recs : (Lst.recs rs).len = rs.length := (rfl)
@[go_sem] theorem len_pairs : (Lst.pairs ts).len = ts.length := (rfl)
@[go_sem] theorem len_slots : (Lst.slots vs).len = vs.length := (rfl)
@[go_sem] theorem kind_ints : (Lst.ints k xs).kind = .int k := (rfl)
@[go_sem] theorem kind_bools : (Lst.bools bs).kind = .bool := (rfl)
@[go_sem] theorem kind_strs : (Lst.strs ys1).kind = .str := (rfl)
@[go_sem] theorem kind_pends : (Lst.pends ps).kind = .pend := (rfl)
@[go_sem] theorem kind_mics : (Lst.mics ms).kind = .mic := (rfl)
@[go_sem] theorem kind_recs : (Lst.recs rs).kind = .rcd := (rfl)
@[go_sem] theorem kind_pairs : (Lst.pairs ts).kind = .pair := (rfl)
@[go_sem] theorem kind_slots : (Lst.slots vs).kind = .slot := (rfl)
@[go_sem] theorem nth_ints : (Lst.ints k xs).nth i = .int k (xs.getD i 0) := (rfl)
@[go_sem] theorem nth_bools : (Lst.bools bs).nth i = .bool (bs.getD i false) := (rfl)
@[go_sem] theorem nth_strs : (Lst.strs ys1).nth i = .str (ys1.getD i []) := (rfl)
@[go_sem] theorem nth_pends : (Lst.pends ps).nth i = .agg [.int .i64 (ps.getD i ⟨0, 0, false⟩).at_, .int .i64 (ps.getD i ⟨0, 0, false⟩).val, .bool (ps.getD i ⟨0, 0, false⟩).fl] := (rfl)
@[go_sem] theorem nth_mics : (Lst.mics ms).nth i = .agg [.int .i64 (ms.getD i ⟨0, 0, 0⟩).kind, .int .i64 (ms.getD i ⟨0, 0, 0⟩).at_, .int .i64 (ms.getD i ⟨0, 0, 0⟩).val] := (rfl)
@[go_sem] theorem nth_recs : (Lst.recs rs).nth i = .agg [.int .i64 (rs.getD i ⟨0, [], [], 0⟩).kind, .str (rs.getD i ⟨0, [], [], 0⟩).key, .str (rs.getD i ⟨0, [], [], 0⟩).val, .int .i64 (rs.getD i ⟨0, [], [], 0⟩).child] := (rfl)
@[go_sem] theorem nth_pairs : (Lst.pairs ts).nth i = .agg [.str (ts.getD i ⟨[], []⟩).key, .str (ts.getD i ⟨[], []⟩).val] := (rfl)
@[go_sem] theorem nth_slots : (Lst.slots vs).nth i = .agg [.int .i64 (vs.getD i ⟨0, 0⟩).at_, .int .i64 (vs.getD i ⟨0, 0⟩).val] := (rfl)
@[go_sem] theorem cut_ints : (Lst.ints k xs).cut i n = .ints k ((xs.drop i).take n) := (rfl)
@[go_sem] theorem cut_bools : (Lst.bools bs).cut i n = .bools ((bs.drop i).take n) := (rfl)
@[go_sem] theorem cut_strs : (Lst.strs ys1).cut i n = .strs ((ys1.drop i).take n) := (rfl)
@[go_sem] theorem cut_pends : (Lst.pends ps).cut i n = .pends ((ps.drop i).take n) := (rfl)
@[go_sem] theorem cut_mics : (Lst.mics ms).cut i n = .mics ((ms.drop i).take n) := (rfl)
@[go_sem] theorem cut_recs : (Lst.recs rs).cut i n = .recs ((rs.drop i).take n) := (rfl)
@[go_sem] theorem cut_pairs : (Lst.pairs ts).cut i n = .pairs ((ts.drop i).take n) := (rfl)
@[go_sem] theorem cut_slots : (Lst.slots vs).cut i n = .slots ((vs.drop i).take n) := (rfl)
@[go_sem] theorem app_ints : (Lst.ints k xs).app (.ints k ys) = some (.ints k (xs ++ ys)) := by simp [Lst.app]
@[go_sem] theorem app_bools : (Lst.bools bs).app (.bools cs) = some (.bools (bs ++ cs)) := (rfl)
@[go_sem] theorem app_strs : (Lst.strs ys1).app (.strs ys2) = some (.strs (ys1 ++ ys2)) := (rfl)
@[go_sem] theorem app_pends : (Lst.pends ps).app (.pends qs) = some (.pends (ps ++ qs)) := (rfl)
@[go_sem] theorem app_mics : (Lst.mics ms).app (.mics ns) = some (.mics (ms ++ ns)) := (rfl)
@[go_sem] theorem app_recs : (Lst.recs rs).app (.recs ss) = some (.recs (rs ++ ss)) := (rfl)
@[go_sem] theorem app_pairs : (Lst.pairs ts).app (.pairs us) = some (.pairs (ts ++ us)) := (rfl)
@[go_sem] theorem app_slots : (Lst.slots vs).app (.slots ws) = some (.slots (vs ++ ws)) := (rfl)
variable (a b : Int) (x y : Bytes) (p q : Bool)
@[go_sem] theorem set_ints : (Lst.ints k xs).set i (.int k a) = some (.ints k (xs.set i a)) := by simp [Lst.set]
@[go_sem] theorem set_bools : (Lst.bools bs).set i (.bool p) = some (.bools (bs.set i p)) := (rfl)
@[go_sem] theorem set_strs : (Lst.strs ys1).set i (.str x) = some (.strs (ys1.set i x)) := (rfl)
@[go_sem] theorem set_pends : (Lst.pends ps).set i (.agg [.int .i64 a, .int .i64 b, .bool p]) = some (.pends (ps.set i ⟨a, b, p⟩)) := (rfl)
@[go_sem] theorem set_mics (c : Int) : (Lst.mics ms).set i (.agg [.int .i64 a, .int .i64 b, .int .i64 c]) = some (.mics (ms.set i ⟨a, b, c⟩)) := (rfl)
@[go_sem] theorem set_recs : (Lst.recs rs).set i (.agg [.int .i64 a, .str x, .str y, .int .i64 b]) = some (.recs (rs.set i ⟨a, x, y, b⟩)) := (rfl)
@[go_sem] theorem set_pairs : (Lst.pairs ts).set i (.agg [.str x, .str y]) = some (.pairs (ts.set i ⟨x, y⟩)) := (rfl)
@[go_sem] theorem set_slots : (Lst.slots vs).set i (.agg [.int .i64 a, .int .i64 b]) = some (.slots (vs.set i ⟨a, b⟩)) := (rfl)
end lists

section ops
variable (k : IntKind) (a b : Int) (x y : Bytes) (p q : Bool) (h : List AObj) (op : BinOp) (vs ws : List AV) (l l' : Lst) (S : Prop)
@[go_sem] theorem at_nil (v : AV) : v.at_ [] = some v := by cases v <;> exact (rfl)
@[go_sem] theorem at_agg (i off : Nat) (ps : List PS) : (AV.agg vs).at_ (.f i off :: ps) = if AV.sizes (vs.take i) = off then (vs[i]?).bind fun v => v.at_ ps else none := (rfl)
@[go_sem] theorem setAt_nil (u v : AV) : u.setAt [] v = if u.size = v.size then some v else none := by cases u <;> exact (rfl)
@[go_sem] theorem setAt_agg (i off : Nat) (ps : List PS) (v : AV) : (AV.agg vs).setAt (.f i off :: ps) v = if AV.sizes (vs.take i) = off then (vs[i]?).bind fun u => (u.setAt ps v).map fun u' => .agg (vs.set i u') else none := (rfl)
@[go_sem] theorem binD_int (d : TyD) : binD d op (.int k a) (.int k b) = intBinD op k a b := by simp [binD]
@[go_sem] theorem binD_shl (d : TyD) (k' : IntKind) : binD d .shl (.int k a) (.int k' b) = intBinD .shl k a b := by simp [binD, isShift]
@[go_sem] theorem binD_shr (d : TyD) (k' : IntKind) : binD d .shr (.int k a) (.int k' b) = intBinD .shr k a b := by simp [binD, isShift]
@[go_sem] theorem binD_str (d : TyD) : binD d op (.str x) (.str y) = strBinD op x y := (rfl)
@[go_sem] theorem binD_bool (d : TyD) : binD d op (.bool p) (.bool q) = eqOpD op (AV.eqD d (.bool p) (.bool q)) := (rfl)
@[go_sem] theorem binD_agg (d : TyD) : binD d op (.agg vs) (.agg ws) = eqOpD op (AV.eqD d (.agg vs) (.agg ws)) := (rfl)
@[go_sem] theorem binD_arr (d : TyD) : binD d op (.arr l) (.arr l') = eqOpD op (AV.eqD d (.arr l) (.arr l')) := (rfl)
@[go_sem] theorem binD_nilfn (d : TyD) : binD d op .nilfn .nilfn = eqOpD op (AV.eqD d .nilfn .nilfn) := (rfl)
@[go_sem] theorem eqOpD_eql : eqOpD .eql (some p) = pD True (.bool p) := (rfl)
@[go_sem] theorem eqOpD_neq : eqOpD .neq (some p) = pD True (.bool (!p)) := (rfl)
@[go_sem] theorem eqD_int (k' : IntKind) : AV.eqD (.int k') (.int k a) (.int k b) = some (decide (a = b)) := by simp [AV.eqD, scalEq]
@[go_sem] theorem eqD_str : AV.eqD .str (.str x) (.str y) = some (decide (x = y)) := by simp [AV.eqD, scalEq]
@[go_sem] theorem eqD_bool : AV.eqD .bool (.bool p) (.bool q) = some (p == q) := by simp [AV.eqD, scalEq]
@[go_sem] theorem eqD_nilfn : AV.eqD .func .nilfn .nilfn = some true := by simp [AV.eqD, scalEq]
@[go_sem] theorem eqD_agg (fs : List TyD) : AV.eqD (.strct fs) (.agg vs) (.agg ws) = AV.eqsD fs vs ws := by simp [AV.eqD]
@[go_sem] theorem eqD_arr (n : Nat) (xs ys : List Int) : AV.eqD (.arr n (.int k)) (.arr (.ints k xs)) (.arr (.ints k ys)) = if xs.length = n ∧ ys.length = n then some (decide (xs = ys)) else none := by simp [AV.eqD, scalEq]
@[go_sem] theorem eqsD_nil : AV.eqsD [] [] [] = some true := by simp [AV.eqsD]
def bothO : Option Bool → Option Bool → Option Bool
  | some a, some b => some (a && b)
  | _, _ => none
@[go_sem] theorem eqsD_cons (d : TyD) (ds : List TyD) (v w : AV) (r r' : List AV) : AV.eqsD (d :: ds) (v :: r) (w :: r') = bothO (AV.eqD d v w) (AV.eqsD ds r r') := by
  simp only [AV.eqsD]; cases AV.eqD d v w <;> cases AV.eqsD ds r r' <;> rfl
@[go_sem] theorem bothO_some : bothO (some p) (some q) = some (p && q) := (rfl)
@[go_sem] theorem ib_add : intBinD .add k a b = pD True (.int k (k.wrap (a + b))) := (rfl)
@[go_sem] theorem ib_sub : intBinD .sub k a b = pD True (.int k (k.wrap (a - b))) := (rfl)
@[go_sem] theorem ib_mul : intBinD .mul k a b = pD True (.int k (k.wrap (a * b))) := (rfl)
@[go_sem] theorem ib_quo : intBinD .quo k a b = pD (b ≠ 0) (.int k (k.wrap (a.tdiv b))) := (rfl)
@[go_sem] theorem ib_rem : intBinD .rem k a b = pD (b ≠ 0) (.int k (a.tmod b)) := (rfl)
@[go_sem] theorem ib_and : intBinD .and k a b = pD True (.int k (andI k a b)) := (rfl)
@[go_sem] theorem ib_or : intBinD .or k a b = pD True (.int k (orI k a b)) := (rfl)
@[go_sem] theorem ib_xor : intBinD .xor k a b = pD True (.int k (xorI k a b)) := (rfl)
@[go_sem] theorem ib_andNot : intBinD .andNot k a b = pD True (.int k (andNotI k a b)) := (rfl)
@[go_sem] theorem ib_shl : intBinD .shl k a b = pD (0 ≤ b) (.int k (k.wrap (a * 2 ^ (min b.toNat k.bits)))) := (rfl)
@[go_sem] theorem ib_shr : intBinD .shr k a b = pD (0 ≤ b) (.int k (a.fdiv (2 ^ (min b.toNat k.bits)))) := (rfl)
@[go_sem] theorem ib_eql : intBinD .eql k a b = pD True (.bool (decide (a = b))) := (rfl)
@[go_sem] theorem ib_neq : intBinD .neq k a b = pD True (.bool (!decide (a = b))) := (rfl)
@[go_sem] theorem ib_lss : intBinD .lss k a b = pD True (.bool (decide (a < b))) := (rfl)
@[go_sem] theorem ib_leq : intBinD .leq k a b = pD True (.bool (decide (a ≤ b))) := (rfl)
@[go_sem] theorem ib_gtr : intBinD .gtr k a b = pD True (.bool (decide (b < a))) := (rfl)
@[go_sem] theorem ib_geq : intBinD .geq k a b = pD True (.bool (decide (b ≤ a))) := (rfl)
@[go_sem] theorem sb_add : strBinD .add x y = pD (x.length + y.length ≤ 1099511627776) (.str (x ++ y)) := (rfl)
@[go_sem] theorem sb_eql : strBinD .eql x y = pD True (.bool (decide (x = y))) := (rfl)
@[go_sem] theorem sb_neq : strBinD .neq x y = pD True (.bool (!decide (x = y))) := (rfl)
@[go_sem] theorem sb_lss : strBinD .lss x y = pD True (.bool (ltB x y)) := (rfl)
@[go_sem] theorem sb_gtr : strBinD .gtr x y = pD True (.bool (ltB y x)) := (rfl)
@[go_sem] theorem sb_leq : strBinD .leq x y = pD True (.bool (!ltB y x)) := (rfl)
@[go_sem] theorem sb_geq : strBinD .geq x y = pD True (.bool (!ltB x y)) := (rfl)
@[go_sem] theorem listO_row (rk : RK) (ver ver' off len : Nat) : listO (some (.row rk ver' l)) ver off len = if ver = ver' then some (l.cut off len) else none := (rfl)
@[go_sem] theorem list_sl (x : Bool) : (AV.sl x l).list h = some l := (rfl)
@[go_sem] theorem list_sref (x : Bool) (id ver off len : Nat) : (AV.sref x id ver off len).list h = listO (h[id]?) ver off len := (rfl)
@[go_sem] theorem lenO_row (rk : RK) (ver ver' len : Nat) : lenO (some (.row rk ver' l)) ver len = if ver = ver' then some len else none := (rfl)
@[go_sem] theorem avlen_sl (e : LK) (x : Bool) : (AV.sl x l).len (.slice e) h = some l.len := (rfl)
@[go_sem] theorem avlen_sref (e : LK) (x : Bool) (id ver off len : Nat) : (AV.sref x id ver off len).len (.slice e) h = lenO (h[id]?) ver len := (rfl)
@[go_sem] theorem avlen_str : (AV.str x).len .str h = some x.length := (rfl)
@[go_sem] theorem avlen_arr (n : Nat) (e : LK) (v : AV) : v.len (.arr n e) h = some n := (rfl)
@[go_sem] theorem lenD_eq (d : TyD) (v : AV) : lenD d h v = someD (v.len d h) fun n => pD True (.int .i64 n) := (rfl)
@[go_sem] theorem slc_slice (e : LK) : (TyD.slice e).slc = true := (rfl)
@[go_sem] theorem isSlice_slice (e e' : LK) : (TyD.slice e).isSlice e' = decide (e = e') := (rfl)
@[go_sem] theorem isArr_arr (n m : Nat) (e e' : LK) : (TyD.arr n e).isArr m e' = (decide (n = m) && decide (e = e')) := (rfl)
@[go_sem] theorem isStr_str : TyD.str.isStr = true := (rfl)
@[go_sem] theorem rowKind_row (rk : RK) (ver : Nat) : rowKind (some (.row rk ver l)) = some l.kind := (rfl)
@[go_sem] theorem fitsRow_slice (e e' : LK) : (TyD.slice e).fitsRow (some e') = decide (e = e') := (rfl)
@[go_sem] theorem verB_row (rk : RK) (ver ver' : Nat) : verB (some (.row rk ver' l)) ver = decide (ver = ver') := (rfl)
@[go_sem] theorem isMap_ib : (TyD.map .ib).isMap .ib = true := (rfl)
@[go_sem] theorem isMap_ii : (TyD.map .ii).isMap .ii = true := (rfl)
@[go_sem] theorem isMap_sb : (TyD.map .sb).isMap .sb = true := (rfl)
@[go_sem] theorem isMap_ifn : (TyD.map .ifn).isMap .ifn = true := (rfl)
@[go_sem] theorem known_int : (TyD.int k).known = true := (rfl)
@[go_sem] theorem known_bool : TyD.bool.known = true := (rfl)
@[go_sem] theorem known_str : TyD.str.known = true := (rfl)
@[go_sem] theorem known_strct (fs : List TyD) : (TyD.strct fs).known = true := (rfl)
@[go_sem] theorem loadD_ptr (id : Nat) (ps : List PS) : loadD h (.ptr id ps) = loadO (h[id]?) ps := (rfl)
@[go_sem] theorem loadD_ep (i : Nat) (fs : List PS) : loadD h (.ep l i fs) = someD ((l.nth i).at_ fs) fun v => pD True v := (rfl)
@[go_sem] theorem loadO_box (v : AV) (ps : List PS) : loadO (some (.box v)) ps = someD (v.at_ ps) fun u => pD True u := (rfl)
@[go_sem] theorem loadO_arr (ver : Nat) : loadO (some (.row .arr ver l)) [] = pD True (.arr l) := (rfl)
@[go_sem] theorem loadO_row_i (rk : RK) (ver v i sz : Nat) (ps : List PS) : loadO (some (.row rk ver l)) (.i v i sz :: ps) = if v = ver ∧ sz = l.kind.size then someD ((l.nth i).at_ ps) fun v => pD (i < l.len) v else none := by cases rk <;> rfl
@[go_sem] theorem storeH_ptr (d : TyD) (id : Nat) (ps : List PS) (v : AV) : storeH d h (.ptr id ps) v = (storeO (h[id]?) ps v).map fun r => (r.1 ∧ fitP d v, id, r.2) := by
  show (match storeO (h[id]?) ps v with | some (S, o) => some (S ∧ fitP d v, id, o) | none => none) = _
  cases storeO (h[id]?) ps v <;> rfl
@[go_sem] theorem storeO_box (u v : AV) (ps : List PS) : storeO (some (.box u)) ps v = (u.setAt ps v).map fun u' => (True, .box u') := by
  show (match u.setAt ps v with | some u' => some (True, AObj.box u') | none => none) = _
  cases u.setAt ps v <;> rfl
@[go_sem] theorem storeO_arr (ver : Nat) : storeO (some (.row .arr ver l)) [] (.arr l') = if l'.kind = l.kind then some (l'.len = l.len, .row .arr ver l') else none := (rfl)
theorem storeO_row_i (rk : RK) (hk : rk ≠ .fro) (ver vr i sz : Nat) (ps : List PS) (v : AV) : storeO (some (.row rk ver l)) (.i vr i sz :: ps) v = if vr = ver ∧ sz = l.kind.size then ((l.nth i).setAt ps v).bind fun u => (l.set i u).map fun l' => (i < l.len, .row rk ver l') else none := by
  have : storeO (some (.row rk ver l)) (.i vr i sz :: ps) v = if vr = ver ∧ sz = l.kind.size ∧ rk ≠ .fro then (match (l.nth i).setAt ps v with
        | some u => match l.set i u with
          | some l' => some (i < l.len, AObj.row rk ver l')
          | none => none
        | none => none) else none := by cases rk <;> rfl
  rw [this]
  have e : (vr = ver ∧ sz = l.kind.size ∧ rk ≠ .fro) ↔ (vr = ver ∧ sz = l.kind.size) := by simp [hk]
  simp only [e]
  congr 1
  cases (l.nth i).setAt ps v with
  | none => rfl
  | some u => show (match l.set i u with | some l' => some (i < l.len, AObj.row rk ver l') | none => none) = _; cases h0 : l.set i u <;> simp [h0]
@[go_sem] theorem storeO_own_i (ver vr i sz : Nat) (ps : List PS) (v : AV) : storeO (some (.row .own ver l)) (.i vr i sz :: ps) v = if vr = ver ∧ sz = l.kind.size then ((l.nth i).setAt ps v).bind fun u => (l.set i u).map fun l' => (i < l.len, .row .own ver l') else none := storeO_row_i l _ (by simp) _ _ _ _ _ _
@[go_sem] theorem storeO_arr_i (ver vr i sz : Nat) (ps : List PS) (v : AV) : storeO (some (.row .arr ver l)) (.i vr i sz :: ps) v = if vr = ver ∧ sz = l.kind.size then ((l.nth i).setAt ps v).bind fun u => (l.set i u).map fun l' => (i < l.len, .row .arr ver l') else none := storeO_row_i l _ (by simp) _ _ _ _ _ _
@[go_sem] theorem mapSetH_map (d : TyD) (id : Nat) (kk v : AV) : mapSetH d h (.map id) kk v = (mapSetO d (h[id]?) kk v).map fun m => (True, id, .map m) := by
  show (match mapSetO d (h[id]?) kk v with | some m => some (True, id, AObj.map m) | none => none) = _
  cases mapSetO d (h[id]?) kk v <;> rfl
@[go_sem] theorem mapSetO_ib (m : Int → Bool) : mapSetO (.map .ib) (some (.map (.ib m))) (.int .i64 a) (.bool p) = some (.ib fun j => if j = a then p else m j) := (rfl)
@[go_sem] theorem mapSetO_ii (m : Int → Int) : mapSetO (.map .ii) (some (.map (.ii m))) (.int .i64 a) (.int .i64 b) = some (.ii fun j => if j = a then b else m j) := (rfl)
@[go_sem] theorem mapSetO_ifn (m : Int → Option FuncId) (f : FuncId) : mapSetO (.map .ifn) (some (.map (.ifn m))) (.int .i64 a) (.fn (.func f) [] []) = some (.ifn fun j => if j = a then some f else m j) := (rfl)
@[go_sem] theorem mapSetO_sb (m : Bytes → Bool) : mapSetO (.map .sb) (some (.map (.sb m))) (.str x) (.bool p) = some (.sb fun j => if j = x then p else m j) := (rfl)
@[go_sem] theorem lookupD_map (d : TyD) (id : Nat) (kk : AV) : lookupD d h (.map id) kk = lookupO d (h[id]?) kk := (rfl)
@[go_sem] theorem lookupO_ib (m : Int → Bool) : lookupO (.map .ib) (some (.map (.ib m))) (.int .i64 a) = pD True (.bool (m a)) := (rfl)
@[go_sem] theorem lookupO_ii (m : Int → Int) : lookupO (.map .ii) (some (.map (.ii m))) (.int .i64 a) = pD True (.int .i64 (m a)) := (rfl)
@[go_sem] theorem lookupO_ifn (m : Int → Option FuncId) : lookupO (.map .ifn) (some (.map (.ifn m))) (.int .i64 a) = pD True (fnOpt (m a)) := (rfl)
@[go_sem] theorem lookupO_sb (m : Bytes → Bool) : lookupO (.map .sb) (some (.map (.sb m))) (.str x) = pD True (.bool (m x)) := (rfl)
@[go_sem] theorem fnOpt_some (f : FuncId) : fnOpt (some f) = .fn (.func f) [] [] := (rfl)
@[go_sem] theorem appendW_sl (d : TyD) (e : LK) (s x : AV) (K : AV → List AObj → Prop) : appendW d (.slice e) s x h K = runDM (appendD d h s x h.length) (appendH d h s x) h K := (rfl)
@[go_sem] theorem appendW_int (d : TyD) (kk : IntKind) (s : AV) (n : Int) (K : AV → List AObj → Prop) : appendW d (.int kk) s (.int .i64 n) h K = ((0 ≤ n ∧ n ≤ 1099511627776) ∧ runDM (appendD d h s (zeroSl d n) h.length) (appendH d h s (zeroSl d n)) h K) := (rfl)
@[go_sem] theorem zeroSl_slice (e : LK) (n : Int) : zeroSl (.slice e) n = .sl true (e.zeros n.toNat) := (rfl)
@[go_sem] theorem appendD_ex (d : TyD) (xs : Lst) (v : AV) (n : Nat) : appendD d h (.sl true xs) v n = whenD (d.isSlice xs.kind) (someD (v.list h) fun ys => appendExD xs ys n) := (rfl)
@[go_sem] theorem appendD_rx (d : TyD) (v : AV) (n id ver off len : Nat) : appendD d h (.sref true id ver off len) v n = whenD (d.fitsRow (rowKind (h[id]?))) (someD (listO (h[id]?) ver off len) fun xs => someD (v.list h) fun ys => appendExD xs ys n) := (rfl)
@[go_sem] theorem appendD_ro (d : TyD) (v : AV) (n id ver off len : Nat) : appendD d h (.sref false id ver off len) v n = none := (rfl)
@[go_sem] theorem appendExD_eq (xs ys : Lst) (s : Nat) : appendExD xs ys s = someD (xs.app ys) fun zs => some ((0 < ys.len ∨ xs.len = 0) ∧ roomy zs.len, .sref false s 0 0 zs.len, [.row .own 0 zs]) := (rfl)
@[go_sem] theorem appendH_ro (d : TyD) (v : AV) (id ver off len : Nat) : appendH d h (.sref false id ver off len) v = if d.fitsRow (rowKind (h[id]?)) = true then appendO (h[id]?) id ver off len (v.list h) else none := (rfl)
@[go_sem] theorem appendO_row (ver ver' id off len : Nat) (ys : Lst) : appendO (some (.row .own ver' l)) id ver off len (some ys) =
    if ver = ver' then (l.app ys).map fun zs => (off = 0 ∧ len = l.len ∧ roomy zs.len, .sref false id (ver + 1) 0 zs.len, id, .row .own (ver + 1) zs) else none := by
  show (if ver = ver' then (match l.app ys with
      | some zs => some (off = 0 ∧ len = l.len ∧ roomy zs.len, AV.sref false id (ver + 1) 0 zs.len, id, AObj.row .own (ver + 1) zs)
      | none => none) else none) = _
  congr 1; cases l.app ys <;> rfl
@[go_sem] theorem copyH_eq (d : TyD) (x : Bool) (id ver off len : Nat) (s : AV) : copyH d h (.sref x id ver off len) s = if d.fitsRow (rowKind (h[id]?)) = true then copyO (h[id]?) id ver off len (s.list h) else none := (rfl)
theorem copyO_row (rk : RK) (hk : rk ≠ .fro) (ver ver' id off len : Nat) (ys : Lst) : copyO (some (.row rk ver' l)) id ver off len (some ys) =
    if ver = ver' then (l.over off len ys).map fun l' => (True, .int .i64 (min len ys.len : Nat), id, .row rk ver' l') else none := by
  show (if ver = ver' ∧ rk ≠ .fro then (match l.over off len ys with
      | some l' => some (True, AV.int .i64 (min len ys.len : Nat), id, AObj.row rk ver' l')
      | none => none) else none) = _
  have e : (ver = ver' ∧ rk ≠ .fro) ↔ ver = ver' := by simp [hk]
  simp only [e]
  congr 1; cases l.over off len ys <;> rfl
@[go_sem] theorem copyO_own (ver ver' id off len : Nat) (ys : Lst) : copyO (some (.row .own ver' l)) id ver off len (some ys) =
    if ver = ver' then (l.over off len ys).map fun l' => (True, .int .i64 (min len ys.len : Nat), id, .row .own ver' l') else none := copyO_row l _ (by simp) _ _ _ _ _ _
@[go_sem] theorem copyO_arr (ver ver' id off len : Nat) (ys : Lst) : copyO (some (.row .arr ver' l)) id ver off len (some ys) =
    if ver = ver' then (l.over off len ys).map fun l' => (True, .int .i64 (min len ys.len : Nat), id, .row .arr ver' l') else none := copyO_row l _ (by simp) _ _ _ _ _ _
@[go_sem] theorem over_ints (xs ys : List Int) (off len : Nat) : (Lst.ints k xs).over off len (.ints k ys) =
    some (.ints k (xs.take off ++ ys.take len ++ (xs.drop (off + min len ys.length)).take (xs.length - (off + min len ys.length)))) := by
  simp [Lst.over, Lst.cut, Lst.app, Lst.len]
@[go_sem] theorem indexAddrD_sl (d : TyD) (x : Bool) (k : IntKind) : indexAddrD d h (.sl x l) (.int k a) = whenD (d.isSlice l.kind) (pD (0 ≤ a ∧ a < l.len) (.ep l a.toNat [])) := (rfl)
@[go_sem] theorem indexAddrD_sref (d : TyD) (x : Bool) (id ver off len : Nat) (k : IntKind) : indexAddrD d h (.sref x id ver off len) (.int k a) = indexArrO (h[id]?) d id ver off len a := (rfl)
@[go_sem] theorem indexAddrD_ptr (d : TyD) (id : Nat) (k : IntKind) : indexAddrD d h (.ptr id []) (.int k a) = indexPtrO (h[id]?) d id a := (rfl)
@[go_sem] theorem indexArrO_row (d : TyD) (rk : RK) (ver ver' id off len : Nat) : indexArrO (some (.row rk ver' l)) d id ver off len a = whenD (d.isSlice l.kind) (if ver = ver' then pD (0 ≤ a ∧ a < len) (.ptr id [.i ver (off + a.toNat) l.kind.size]) else none) := (rfl)
@[go_sem] theorem indexPtrO_arr (d : TyD) (ver id : Nat) : indexPtrO (some (.row .arr ver l)) d id a = whenD (d.isArr l.len l.kind) (pD (0 ≤ a ∧ a < l.len) (.ptr id [.i ver a.toNat l.kind.size])) := (rfl)
@[go_sem] theorem indexD_str (k : IntKind) : indexD .str (.str x) (.int k a) = pD (0 ≤ a ∧ a < x.length) (.int .u8 (x.getD a.toNat 0).toNat) := (rfl)
@[go_sem] theorem indexD_arr (d : TyD) (k : IntKind) : indexD d (.arr l) (.int k a) = whenD (d.isArr l.len l.kind) (pD (0 ≤ a ∧ a < l.len) (l.nth a.toNat)) := (rfl)
@[go_sem] theorem unD_not : unD .not (.bool p) = pD True (.bool (!p)) := (rfl)
@[go_sem] theorem unD_neg : unD .neg (.int k a) = pD True (.int k (k.wrap (0 - a))) := (rfl)
@[go_sem] theorem unD_xor : unD .xor (.int k a) = pD True (.int k (notI k a)) := (rfl)
@[go_sem] theorem convD_int (k1 k' k2 : IntKind) : convD h (.int k1) (.int k') (.int k2 a) = pD True (.int k' (k'.wrap a)) := (rfl)
@[go_sem] theorem convD_str : convD h .str .str (.str x) = pD True (.str x) := (rfl)
@[go_sem] theorem convD_sl (x : Bool) : convD h (.slice (.int .u8)) .str (.sl x l) = bytesD (some l) := (rfl)
@[go_sem] theorem convD_sref (x : Bool) (id ver off len : Nat) : convD h (.slice (.int .u8)) .str (.sref x id ver off len) = bytesD (listO (h[id]?) ver off len) := (rfl)
@[go_sem] theorem bytesD_some (xs : List Int) : bytesD (some (.ints .u8 xs)) = pD True (.str (xs.map fun n => UInt8.ofNat n.toNat)) := (rfl)
@[go_sem] theorem fieldD_eq (fs : List TyD) (f : Nat) : fieldD (.strct fs) (.agg vs) f = if AV.sizes (vs.take f) = TyD.sizes (fs.take f) ∧ f < fs.length ∧ f < vs.length then pD (fitP (fs.getD f .other) (vs.getD f .top)) (vs.getD f .top) else none := (rfl)
@[go_sem] theorem fieldAddrD_ptr (fs : List TyD) (id f : Nat) (ps : List PS) : fieldAddrD (.strct fs) (.ptr id ps) f = if f < fs.length then pD True (.ptr id (ps ++ [.f f (TyD.sizes (fs.take f))])) else none := (rfl)
@[go_sem] theorem fieldAddrD_ep (fs : List TyD) (i f : Nat) (ps : List PS) : fieldAddrD (.strct fs) (.ep l i ps) f = if f < fs.length then pD True (.ep l i (ps ++ [.f f (TyD.sizes (fs.take f))])) else none := (rfl)
@[go_sem] theorem makeSliceD_eq (e : LK) (s : Nat) : makeSliceD (.slice e) (.int .i64 a) (.int .i64 b) s = some (0 ≤ a ∧ a ≤ b ∧ roomy b.toNat, .sref (decide (a = b)) s 0 0 a.toNat, [.row .own 0 (e.zeros a.toNat)]) := (rfl)
@[go_sem] theorem makeMapD_ib (s : Nat) : makeMapD (.map .ib) s = some (True, .map s, [.map (.ib fun _ => false)]) := (rfl)
@[go_sem] theorem makeMapD_ii (s : Nat) : makeMapD (.map .ii) s = some (True, .map s, [.map (.ii fun _ => 0)]) := (rfl)
@[go_sem] theorem makeMapD_sb (s : Nat) : makeMapD (.map .sb) s = some (True, .map s, [.map (.sb fun _ => false)]) := (rfl)
@[go_sem] theorem makeMapD_ifn (s : Nat) : makeMapD (.map .ifn) s = some (True, .map s, [.map (.ifn fun _ => none)]) := (rfl)
@[go_sem] theorem nilCheckD_ptr (id : Nat) (ps : List PS) : nilCheckD (.ptr id ps) = pD True (.ptr id ps) := (rfl)
@[go_sem] theorem nilCheckD_ep (i : Nat) (ps : List PS) : nilCheckD (.ep l i ps) = pD True (.ep l i ps) := (rfl)
@[go_sem] theorem extractD_eq (i : Nat) : extractD (.tup vs) i = if i < vs.length then pD True (vs.getD i .top) else none := (rfl)
@[go_sem] theorem pickD_true (v w : AV) : pickD (.bool true) v w = pD True v := (rfl)
@[go_sem] theorem pickD_false (v w : AV) : pickD (.bool false) v w = pD True w := (rfl)
@[go_sem] theorem minD_int : minD (.int k a) (.int k b) = pD True (.int k (if b < a then b else a)) := by simp [minD]
@[go_sem] theorem maxD_int : maxD (.int k a) (.int k b) = pD True (.int k (if b > a then b else a)) := by simp [maxD]
@[go_sem] theorem maxD_str' : maxD (.str x) (.str y) = pD True (.str (if ltB x y then y else x)) := (rfl)
@[go_sem] theorem buildD_strct (fs : List TyD) (parts : List (Nat × AV)) : buildD (.strct fs) parts = someD (fillAgg (TyD.zeros fs) parts) fun vs => pD True (.agg vs) := (rfl)
@[go_sem] theorem buildD_arr (n : Nat) (e : LK) (parts : List (Nat × AV)) : buildD (.arr n e) parts = someD (fillLst (e.zeros n) parts) fun l => pD True (.arr l) := (rfl)
@[go_sem] theorem buildSliceD_eq (e : LK) (n s : Nat) (parts : List (Nat × AV)) : buildSliceD (.slice e) n parts s = someD (fillLst (e.zeros n) parts) fun l => some (n ≤ 1048576, .sref true s 0 0 n, [.row .own 0 l]) := (rfl)
@[go_sem] theorem fillAgg_nil : fillAgg vs [] = some vs := (rfl)
@[go_sem] theorem fillAgg_cons (i : Nat) (v : AV) (r : List (Nat × AV)) : fillAgg vs ((i, v) :: r) = if i < vs.length ∧ (vs.getD i .top).size = v.size ∧ v.solid = true then fillAgg (vs.set i v) r else none := (rfl)
@[go_sem] theorem fillLst_nil : fillLst l [] = some l := (rfl)
@[go_sem] theorem fillLst_cons (i : Nat) (v : AV) (r : List (Nat × AV)) : fillLst l ((i, v) :: r) = if i < l.len then (l.set i v).bind fun l' => fillLst l' r else none := by
  show (if i < l.len then (match l.set i v with | some l' => fillLst l' r | none => none) else none) = _
  congr 1; cases l.set i v <;> rfl
@[go_sem] theorem boxO_arr : boxO (.arr l) = .row .arr 0 l := (rfl)
@[go_sem] theorem boxO_int : boxO (.int k a) = .box (.int k a) := (rfl)
@[go_sem] theorem boxO_bool : boxO (.bool p) = .box (.bool p) := (rfl)
@[go_sem] theorem boxO_str : boxO (.str x) = .box (.str x) := (rfl)
@[go_sem] theorem boxO_agg : boxO (.agg vs) = .box (.agg vs) := (rfl)
@[go_sem] theorem boxO_sl (x : Bool) : boxO (.sl x l) = .box (.sl x l) := (rfl)
@[go_sem] theorem boxO_sref (x : Bool) (id ver off len : Nat) : boxO (.sref x id ver off len) = .box (.sref x id ver off len) := (rfl)
@[go_sem] theorem boxO_ptr (id : Nat) (ps : List PS) : boxO (.ptr id ps) = .box (.ptr id ps) := (rfl)
@[go_sem] theorem boxO_map (id : Nat) : boxO (.map id) = .box (.map id) := (rfl)
@[go_sem] theorem boxO_nilp : boxO .nilp = .box .nilp := (rfl)
@[go_sem] theorem boxO_top : boxO .top = .box .top := (rfl)
@[go_sem] theorem boxO_fn (f : Fn) : boxO (.fn f vs ws) = .box (.fn f vs ws) := (rfl)
@[go_sem] theorem boxO_nilfn : boxO .nilfn = .box .nilfn := (rfl)
@[go_sem] theorem fitD_p (d : TyD) (v : AV) : fitD d (pD S v) = pD (S ∧ fitP d v) v := (rfl)
@[go_sem] theorem fitP_strct (fs : List TyD) : fitP (.strct fs) (.agg vs) = (AV.sizes vs = TyD.sizes fs) := (rfl)
@[go_sem] theorem fitP_arr (n : Nat) (e : LK) : fitP (.arr n e) (.arr l) = (l.len = n ∧ l.kind = e) := (rfl)
@[go_sem] theorem fitP_int (k' : IntKind) : fitP (.int k') (.int k a) = True := (rfl)
@[go_sem] theorem fitP_bool : fitP .bool (.bool p) = True := (rfl)
@[go_sem] theorem fitP_str : fitP .str (.str x) = True := (rfl)
@[go_sem] theorem fitP_sl (e : LK) (x : Bool) : fitP (.slice e) (.sl x l) = True := (rfl)
@[go_sem] theorem fitP_sref (e : LK) (x : Bool) (id ver off len : Nat) : fitP (.slice e) (.sref x id ver off len) = True := (rfl)
@[go_sem] theorem fitP_ptr (id : Nat) (ps : List PS) : fitP .ptr (.ptr id ps) = True := (rfl)
@[go_sem] theorem fitP_nilp : fitP .ptr .nilp = True := (rfl)
@[go_sem] theorem fitP_ep (i : Nat) (ps : List PS) : fitP .ptr (.ep l i ps) = True := (rfl)
@[go_sem] theorem fitP_map (m : MK) (id : Nat) : fitP (.map m) (.map id) = True := (rfl)
@[go_sem] theorem fitP_fn (f : Fn) : fitP .func (.fn f vs ws) = True := (rfl)
@[go_sem] theorem fitP_nilfn : fitP .func .nilfn = True := (rfl)
end ops

section slices
variable (h : List AObj) (x : Bool) (l : Lst) (s : Bytes) (a b c : Int) (k k' k'' : IntKind) (id ver off len : Nat) (lo hi mx : Option AV)
variable (d : TyD)
@[go_sem] theorem slice_s1 : sliceD .str h (.str s) none (some (.int k b)) none = pD (0 ≤ b ∧ b ≤ s.length) (.str (s.take b.toNat)) := (rfl)
@[go_sem] theorem slice_s2 : sliceD .str h (.str s) (some (.int k a)) none none = pD (0 ≤ a ∧ a ≤ s.length) (.str (s.drop a.toNat)) := (rfl)
@[go_sem] theorem slice_s3 : sliceD .str h (.str s) (some (.int k a)) (some (.int k' b)) none = pD (0 ≤ a ∧ a ≤ b ∧ b ≤ s.length) (.str ((s.drop a.toNat).take (b.toNat - a.toNat))) := (rfl)
@[go_sem] theorem slice_l0 : sliceD d h (.sl x l) none none none = whenD (d.isSlice l.kind) (pD True (.sl x l)) := (rfl)
@[go_sem] theorem slice_l1 : sliceD d h (.sl x l) none (some (.int k b)) none = whenD (d.isSlice l.kind) (pD (0 ≤ b ∧ b ≤ l.len) (.sl false (l.cut 0 b.toNat))) := (rfl)
@[go_sem] theorem slice_l2 : sliceD d h (.sl x l) (some (.int k a)) none none = whenD (d.isSlice l.kind) (pD (0 ≤ a ∧ a ≤ l.len) (.sl x (l.cut a.toNat (l.len - a.toNat)))) := (rfl)
@[go_sem] theorem slice_l3 : sliceD d h (.sl x l) (some (.int k a)) (some (.int k' b)) none = whenD (d.isSlice l.kind) (pD (0 ≤ a ∧ a ≤ b ∧ b ≤ l.len) (.sl false (l.cut a.toNat (b.toNat - a.toNat)))) := (rfl)
@[go_sem] theorem slice_l4 : sliceD d h (.sl x l) none (some (.int k' b)) (some (.int k'' c)) = whenD (d.isSlice l.kind) (pD (0 ≤ b ∧ b ≤ l.len ∧ b = c) (.sl true (l.cut 0 b.toNat))) := (rfl)
@[go_sem] theorem slice_l5 : sliceD d h (.sl x l) (some (.int k a)) (some (.int k' b)) (some (.int k'' c)) = whenD (d.isSlice l.kind) (pD (0 ≤ a ∧ a ≤ b ∧ b ≤ l.len ∧ b = c) (.sl true (l.cut a.toNat (b.toNat - a.toNat)))) := (rfl)
theorem slice_r : sliceD d h (.sref x id ver off len) lo hi mx = whenD (d.fitsRow (rowKind (h[id]?))) (whenD (verB (h[id]?) ver) (sliceSrD x id ver off len lo hi mx)) := (rfl)
@[go_sem] theorem slice_r1 : sliceD d h (.sref x id ver off len) none (some (.int k b)) none = whenD (d.fitsRow (rowKind (h[id]?))) (whenD (verB (h[id]?) ver) (pD (0 ≤ b ∧ b ≤ len) (.sref false id ver off b.toNat))) := by
  simp [sliceD, sliceSrD]
@[go_sem] theorem slice_r2 : sliceD d h (.sref x id ver off len) (some (.int k a)) none none = whenD (d.fitsRow (rowKind (h[id]?))) (whenD (verB (h[id]?) ver) (pD (0 ≤ a ∧ a ≤ len) (.sref x id ver (off + a.toNat) (len - a.toNat)))) := by
  simp [sliceD, sliceSrD]
@[go_sem] theorem slice_r3 : sliceD d h (.sref x id ver off len) (some (.int k a)) (some (.int k' b)) none = whenD (d.fitsRow (rowKind (h[id]?))) (whenD (verB (h[id]?) ver) (pD (0 ≤ a ∧ a ≤ b ∧ b ≤ len) (.sref false id ver (off + a.toNat) (b.toNat - a.toNat)))) := by
  simp [sliceD, sliceSrD]
@[go_sem] theorem slice_r4 : sliceD d h (.sref x id ver off len) none (some (.int k' b)) (some (.int k'' c)) = whenD (d.fitsRow (rowKind (h[id]?))) (whenD (verB (h[id]?) ver) (pD (0 ≤ b ∧ b ≤ len ∧ b = c) (.sref true id ver off b.toNat))) := by
  simp [sliceD, sliceSrD]
@[go_sem] theorem slice_r5 : sliceD d h (.sref x id ver off len) (some (.int k a)) (some (.int k' b)) (some (.int k'' c)) = whenD (d.fitsRow (rowKind (h[id]?))) (whenD (verB (h[id]?) ver) (pD (0 ≤ a ∧ a ≤ b ∧ b ≤ len ∧ b = c) (.sref true id ver (off + a.toNat) (b.toNat - a.toNat)))) := by
  simp [sliceD, sliceSrD]
@[go_sem] theorem slice_p (lo hi mx : Option AV) : sliceD d h (.ptr id []) lo hi mx = sliceArrD (h[id]?) id d lo hi mx := (rfl)
@[go_sem] theorem sliceArr_0 : sliceArrD (some (.row .arr ver l)) id d none none none = whenD (d.isArr l.len l.kind) (pD True (.sref true id ver 0 l.len)) := by
  simp [sliceArrD]
@[go_sem] theorem sliceArr_2 : sliceArrD (some (.row .arr ver l)) id d (some (.int k a)) none none = whenD (d.isArr l.len l.kind) (pD (0 ≤ a ∧ a ≤ l.len) (.sref true id ver a.toNat (l.len - a.toNat))) := by
  simp [sliceArrD]
@[go_sem] theorem sliceArr_1 : sliceArrD (some (.row .arr ver l)) id d none (some (.int k' b)) none = whenD (d.isArr l.len l.kind) (pD (0 ≤ b ∧ b ≤ l.len) (.sref false id ver 0 b.toNat)) := by
  simp [sliceArrD]
@[go_sem] theorem sliceArr_3 : sliceArrD (some (.row .arr ver l)) id d (some (.int k a)) (some (.int k' b)) none = whenD (d.isArr l.len l.kind) (pD (0 ≤ a ∧ a ≤ b ∧ b ≤ l.len) (.sref false id ver a.toNat (b.toNat - a.toNat))) := by
  simp [sliceArrD]
end slices

section vals
variable (h : List AObj) (x : Bool) (l : Lst) (vs ws : List AV) (n : Nat)
@[go_sem] theorem vals_nil : AV.vals h [] = some [] := (rfl)
def consO : Option AV → Option (List AV) → Option (List AV)
  | some a, some b => some (a :: b)
  | _, _ => none
@[go_sem] theorem vals_cons (v : AV) (r : List AV) : AV.vals h (v :: r) = consO (v.val h) (AV.vals h r) := by
  show (match v.val h, AV.vals h r with | some a, some b => some (a :: b) | _, _ => none) = _
  cases v.val h <;> cases AV.vals h r <;> rfl
@[go_sem] theorem consO_some (a : AV) (b : List AV) : consO (some a) (some b) = some (a :: b) := (rfl)
@[go_sem] theorem val_sref (id ver off len : Nat) : (AV.sref x id ver off len).val h = (listO (h[id]?) ver off len).map fun l => .sl false l := (rfl)
@[go_sem] theorem val_sl : (AV.sl x l).val h = some (.sl false l) := (rfl)
@[go_sem] theorem val_agg : (AV.agg vs).val h = (AV.vals h vs).map .agg := (rfl)
@[go_sem] theorem val_tup : (AV.tup vs).val h = (AV.vals h vs).map .tup := (rfl)
@[go_sem] theorem val_int (k : IntKind) (a : Int) : (AV.int k a).val h = some (.int k a) := (rfl)
@[go_sem] theorem val_bool (b : Bool) : (AV.bool b).val h = some (.bool b) := (rfl)
@[go_sem] theorem val_str (s : Bytes) : (AV.str s).val h = some (.str s) := (rfl)
@[go_sem] theorem val_ptr (id : Nat) (p : List PS) : (AV.ptr id p).val h = some (.ptr id p) := (rfl)
@[go_sem] theorem val_map (id : Nat) : (AV.map id).val h = some (.map id) := (rfl)
@[go_sem] theorem val_fn (f : Fn) : (AV.fn f vs ws).val h = some (.fn f vs ws) := (rfl)
@[go_sem] theorem val_arr : (AV.arr l).val h = some (.arr l) := (rfl)
@[go_sem] theorem val_nilp : AV.nilp.val h = some .nilp := (rfl)
@[go_sem] theorem val_top : AV.top.val h = some .top := (rfl)
@[go_sem] theorem shift_int (k : IntKind) (a : Int) : (AV.int k a).shift n = .int k a := (rfl)
@[go_sem] theorem shift_bool (b : Bool) : (AV.bool b).shift n = .bool b := (rfl)
@[go_sem] theorem shift_str (s : Bytes) : (AV.str s).shift n = .str s := (rfl)
@[go_sem] theorem shift_sl : (AV.sl x l).shift n = .sl x l := (rfl)
@[go_sem] theorem shift_arr : (AV.arr l).shift n = .arr l := (rfl)
@[go_sem] theorem shift_fn (f : Fn) : (AV.fn f vs ws).shift n = .fn f vs ws := (rfl)
@[go_sem] theorem shift_sref (id ver off len : Nat) : (AV.sref x id ver off len).shift n = .sref x (n + id) ver off len := (rfl)
@[go_sem] theorem shift_map (id : Nat) : (AV.map id).shift n = .map (n + id) := (rfl)
@[go_sem] theorem shift_ptr (id : Nat) (p : List PS) : (AV.ptr id p).shift n = .ptr (n + id) p := (rfl)
@[go_sem] theorem shift_agg : (AV.agg vs).shift n = .agg (AV.shifts n vs) := (rfl)
@[go_sem] theorem shift_tup : (AV.tup vs).shift n = .tup (AV.shifts n vs) := (rfl)
@[go_sem] theorem shifts_nil : AV.shifts n [] = [] := (rfl)
@[go_sem] theorem shifts_cons (v : AV) (r : List AV) : AV.shifts n (v :: r) = v.shift n :: AV.shifts n r := (rfl)
@[go_sem] theorem rows_sref (id ver off len : Nat) : (AV.sref x id ver off len).rows = [id] := (rfl)
@[go_sem] theorem rows_sl : (AV.sl x l).rows = [] := (rfl)
@[go_sem] theorem rows_agg : (AV.agg vs).rows = AV.rowss vs := (rfl)
@[go_sem] theorem rows_tup : (AV.tup vs).rows = AV.rowss vs := (rfl)
@[go_sem] theorem rows_int (k : IntKind) (a : Int) : (AV.int k a).rows = [] := (rfl)
@[go_sem] theorem rows_bool (b : Bool) : (AV.bool b).rows = [] := (rfl)
@[go_sem] theorem rows_str (s : Bytes) : (AV.str s).rows = [] := (rfl)
@[go_sem] theorem rows_arr : (AV.arr l).rows = [] := (rfl)
@[go_sem] theorem rows_ptr (id : Nat) (p : List PS) : (AV.ptr id p).rows = [] := (rfl)
@[go_sem] theorem rows_map (id : Nat) : (AV.map id).rows = [] := (rfl)
@[go_sem] theorem rows_fn (f : Fn) : (AV.fn f vs ws).rows = [] := (rfl)
@[go_sem] theorem rows_nilfn : AV.nilfn.rows = [] := (rfl)
@[go_sem] theorem rows_nilp : AV.nilp.rows = [] := (rfl)
@[go_sem] theorem rows_ep (i : Nat) (fs : List PS) : (AV.ep l i fs).rows = [] := (rfl)
@[go_sem] theorem rows_top : AV.top.rows = [] := (rfl)
@[go_sem] theorem rows_iface (t : TypeId) (v : AV) : (AV.iface t v).rows = [] := (rfl)
@[go_sem] theorem rows_niliface : AV.niliface.rows = [] := (rfl)
@[go_sem] theorem rowss_nil : AV.rowss [] = [] := (rfl)
@[go_sem] theorem rowss_cons (v : AV) (r : List AV) : AV.rowss (v :: r) = v.rows ++ AV.rowss r := (rfl)
@[go_sem] theorem noSl_int (k : IntKind) (a : Int) : (AV.int k a).noSl = true := (rfl)
@[go_sem] theorem noSl_bool (b : Bool) : (AV.bool b).noSl = true := (rfl)
@[go_sem] theorem noSl_str (s : Bytes) : (AV.str s).noSl = true := (rfl)
@[go_sem] theorem noSl_arr : (AV.arr l).noSl = true := (rfl)
@[go_sem] theorem noSl_nilp : AV.nilp.noSl = true := (rfl)
@[go_sem] theorem noSl_nilfn : AV.nilfn.noSl = true := (rfl)
@[go_sem] theorem noSl_sl : (AV.sl x l).noSl = false := (rfl)
@[go_sem] theorem noSl_agg : (AV.agg vs).noSl = AV.noSls vs := (rfl)
@[go_sem] theorem noSl_tup : (AV.tup vs).noSl = AV.noSls vs := (rfl)
@[go_sem] theorem noSl_fn (f : Fn) : (AV.fn f vs ws).noSl = (AV.noSls vs && AV.noSls ws) := (rfl)
@[go_sem] theorem noSls_nil : AV.noSls [] = true := (rfl)
@[go_sem] theorem noSls_cons (v : AV) (r : List AV) : AV.noSls (v :: r) = (v.noSl && AV.noSls r) := (rfl)
@[go_sem] theorem noSl_ite (p : Prop) [Decidable p] (v w : AV) : (if p then v else w).noSl = (if p then v.noSl else w.noSl) := by split <;> rfl
@[go_sem] theorem closed_sref (id ver off len : Nat) : (AV.sref x id ver off len).closed = false := (rfl)
@[go_sem] theorem closed_ptr (id : Nat) (p : List PS) : (AV.ptr id p).closed = false := (rfl)
@[go_sem] theorem closed_map (id : Nat) : (AV.map id).closed = false := (rfl)
@[go_sem] theorem closed_nilp : AV.nilp.closed = true := (rfl)
@[go_sem] theorem closed_nilfn : AV.nilfn.closed = true := (rfl)
@[go_sem] theorem solid_int (k : IntKind) (a : Int) : (AV.int k a).solid = true := (rfl)
@[go_sem] theorem solid_bool (b : Bool) : (AV.bool b).solid = true := (rfl)
@[go_sem] theorem solid_str (s : Bytes) : (AV.str s).solid = true := (rfl)
@[go_sem] theorem solid_sl : (AV.sl x l).solid = true := (rfl)
@[go_sem] theorem solid_sref (id ver off len : Nat) : (AV.sref x id ver off len).solid = true := (rfl)
@[go_sem] theorem solid_agg : (AV.agg vs).solid = true := (rfl)
@[go_sem] theorem solid_arr : (AV.arr l).solid = true := (rfl)
@[go_sem] theorem solid_ptr (id : Nat) (p : List PS) : (AV.ptr id p).solid = true := (rfl)
@[go_sem] theorem solid_map (id : Nat) : (AV.map id).solid = true := (rfl)
@[go_sem] theorem solid_nilp : AV.nilp.solid = true := (rfl)
@[go_sem] theorem solid_nilfn : AV.nilfn.solid = true := (rfl)
@[go_sem] theorem solid_fn (f : Fn) : (AV.fn f vs ws).solid = true := (rfl)
@[go_sem] theorem ids_sref (id ver off len : Nat) : (AV.sref x id ver off len).ids = [id] := (rfl)
@[go_sem] theorem ids_sl : (AV.sl x l).ids = [] := (rfl)
@[go_sem] theorem ids_agg : (AV.agg vs).ids = AV.idss vs := (rfl)
@[go_sem] theorem ids_tup : (AV.tup vs).ids = AV.idss vs := (rfl)
@[go_sem] theorem ids_int (k : IntKind) (a : Int) : (AV.int k a).ids = [] := (rfl)
@[go_sem] theorem ids_bool (b : Bool) : (AV.bool b).ids = [] := (rfl)
@[go_sem] theorem ids_str (s : Bytes) : (AV.str s).ids = [] := (rfl)
@[go_sem] theorem ids_arr : (AV.arr l).ids = [] := (rfl)
@[go_sem] theorem ids_ptr (id : Nat) (p : List PS) : (AV.ptr id p).ids = [id] := (rfl)
@[go_sem] theorem ids_map (id : Nat) : (AV.map id).ids = [id] := (rfl)
@[go_sem] theorem ids_fn (f : Fn) : (AV.fn f vs ws).ids = AV.idss vs ++ AV.idss ws := (rfl)
@[go_sem] theorem ids_nilp : AV.nilp.ids = [] := (rfl)
@[go_sem] theorem ids_nilfn : AV.nilfn.ids = [] := (rfl)
@[go_sem] theorem ids_ep (i : Nat) (fs : List PS) : (AV.ep l i fs).ids = [] := (rfl)
@[go_sem] theorem ids_top : AV.top.ids = [] := (rfl)
@[go_sem] theorem idss_nil : AV.idss [] = [] := (rfl)
@[go_sem] theorem idss_cons (v : AV) (r : List AV) : AV.idss (v :: r) = v.ids ++ AV.idss r := (rfl)
@[go_sem] theorem norm_nilfn : AV.nilfn.norm n h = .nilfn := (rfl)
@[go_sem] theorem closeds_nil : AV.closeds [] = true := (rfl)
@[go_sem] theorem closeds_cons (v : AV) (r : List AV) : AV.closeds (v :: r) = (v.closed && AV.closeds r) := (rfl)
@[go_sem] theorem closed_int (k : IntKind) (a : Int) : (AV.int k a).closed = true := (rfl)
@[go_sem] theorem closed_bool (b : Bool) : (AV.bool b).closed = true := (rfl)
@[go_sem] theorem closed_str (s : Bytes) : (AV.str s).closed = true := (rfl)
@[go_sem] theorem closed_sl : (AV.sl x l).closed = true := (rfl)
@[go_sem] theorem closed_arr : (AV.arr l).closed = true := (rfl)
@[go_sem] theorem closed_agg : (AV.agg vs).closed = AV.closeds vs := (rfl)
@[go_sem] theorem closed_fn (f : Fn) : (AV.fn f vs ws).closed = (AV.closeds vs && AV.closeds ws) := (rfl)
@[go_sem] theorem norms_nil : AV.norms n h [] = [] := (rfl)
@[go_sem] theorem norms_cons (v : AV) (r : List AV) : AV.norms n h (v :: r) = v.norm n h :: AV.norms n h r := (rfl)
@[go_sem] theorem norm_int (k : IntKind) (a : Int) : (AV.int k a).norm n h = .int k a := (rfl)
@[go_sem] theorem norm_bool (b : Bool) : (AV.bool b).norm n h = .bool b := (rfl)
@[go_sem] theorem norm_str (s : Bytes) : (AV.str s).norm n h = .str s := (rfl)
@[go_sem] theorem norm_sl : (AV.sl x l).norm n h = .sl false l := (rfl)
@[go_sem] theorem norm_arr : (AV.arr l).norm n h = .arr l := (rfl)
@[go_sem] theorem norm_nilp : AV.nilp.norm n h = .nilp := (rfl)
@[go_sem] theorem norm_top : AV.top.norm n h = .top := (rfl)
@[go_sem] theorem norm_und : AV.und.norm n h = .und := (rfl)
@[go_sem] theorem norm_ptr (id : Nat) (p : List PS) : (AV.ptr id p).norm n h = if id < n then .ptr id p else .top := (rfl)
@[go_sem] theorem norm_map (id : Nat) : (AV.map id).norm n h = if id < n then .map id else .top := (rfl)
@[go_sem] theorem norm_agg : (AV.agg vs).norm n h = .agg (AV.norms n h vs) := (rfl)
@[go_sem] theorem norm_tup : (AV.tup vs).norm n h = .tup (AV.norms n h vs) := (rfl)
@[go_sem] theorem norm_fn (f : Fn) : (AV.fn f vs ws).norm n h = .fn f (AV.norms n h vs) (AV.norms n h ws) := (rfl)
@[go_sem] theorem norm_ep (i : Nat) (fs : List PS) : (AV.ep l i fs).norm n h = .ep l i fs := (rfl)
@[go_sem] theorem norm_sref (id ver off len : Nat) : (AV.sref x id ver off len).norm n h = normR n (h[id]?) id ver off len := (rfl)
@[go_sem] theorem normR_row (rk : RK) (id ver ver' off len : Nat) : normR n (some (.row rk ver' l)) id ver off len = if ver = ver' then (if id < n then .sref false id ver off len else .sl false (l.cut off len)) else .top := (rfl)
@[go_sem] theorem normH_eq : normH n h = (h.take n).map (normO n h) := (rfl)
@[go_sem] theorem normO_box (v : AV) : normO n h (.box v) = .box (v.norm n h) := (rfl)
@[go_sem] theorem normO_row (rk : RK) (ver : Nat) : normO n h (.row rk ver l) = .row rk ver l := (rfl)
@[go_sem] theorem normO_map (m : MapC) : normO n h (.map m) = .map m := (rfl)
@[go_sem] theorem normO_dead : normO n h .dead = .dead := (rfl)
@[go_sem] theorem promV_nil (K : List AV → List AObj → Prop) : promV [] vs h K = K vs h := by cases vs <;> rfl
@[go_sem] theorem promV_nil' (fs : List Bool) (K : List AV → List AObj → Prop) : promV fs [] h K = K [] h := by
  cases fs with
  | nil => rfl
  | cons f r => cases f <;> rfl
@[go_sem] theorem promV_false (fs : List Bool) (v : AV) (K : List AV → List AObj → Prop) : promV (false :: fs) (v :: vs) h K = promV fs vs h fun us h' => K (v :: us) h' := (rfl)
@[go_sem] theorem promV_true (fs : List Bool) (l : Lst) (K : List AV → List AObj → Prop) : promV (true :: fs) (.sl true l :: vs) h K = (l.len = 0 ∧ promV fs vs (h ++ [.row .own 0 l]) fun us h' => K (.sref false h.length 0 0 0 :: us) h') := (rfl)
end vals

@[go_sem] theorem cast_lit (n : Nat) : ((no_index (OfNat.ofNat n) : Nat) : Int) = OfNat.ofNat n := (rfl)
attribute [go_sem] Bool.and_false Bool.false_and ite_self List.take_length false_imp_iff true_imp_iff not_true_eq_false decide_true decide_false List.length_replicate List.length_set Int.toNat_natCast Bool.and_self List.modify_zero_cons List.modify_succ_cons eq_self and_self implies_true List.getElem?_cons_zero List.getElem?_cons_succ List.set_cons_zero List.set_cons_succ List.cons_append List.nil_append List.append_nil List.length_cons List.length_nil
  List.take_succ_cons List.take_zero List.take_nil List.getD_cons_zero List.getD_cons_succ List.map_cons List.map_nil Option.bind_some Option.bind_none Option.map_some Option.map_none true_and and_true Nat.add_zero Nat.zero_add
  if_true if_false Bool.true_eq_false Bool.false_eq_true Bool.not_true Bool.not_false Bool.and_true Bool.true_and or_true true_or reduceCtorEq reduceIte List.drop_zero List.append_assoc decide_eq_true_eq decide_eq_false_iff_not
  Bool.not_eq_true' Bool.not_eq_false' ne_eq not_false_eq_true forall_const
end Lam
