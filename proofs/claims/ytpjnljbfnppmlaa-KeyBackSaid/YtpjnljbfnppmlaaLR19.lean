/- One function that tells what an operation comes to; the operation's condition holds it; it looks only at the objects that its operands name. -/
import Derived.Test.YtpjnljbfnppmlaaLR18
set_option linter.unusedVariables false
set_option linter.unnecessarySimpa false
set_option linter.unusedSectionVars false
set_option linter.unusedSimpArgs false
namespace Lam
open Go

/-- what an operation comes to: what must hold, its value, what it makes, what it changes -/
abbrev DR := Option (Prop × AV × List AObj × Option (Nat × AObj))

def ofD (x : D) : DR :=
  match x with
  | some (S, v, news) => some (S, v, news, none)
  | none => none
def ofH (x : Option (Prop × Nat × AObj)) : DR :=
  match x with
  | some (S, id, o) => some (S, .und, [], some (id, o))
  | none => none
def ofM (x : Option (Prop × AV × Nat × AObj)) : DR :=
  match x with
  | some (S, v, id, o) => some (S, v, [], some (id, o))
  | none => none
def ofDM (x : D) (y : Option (Prop × AV × Nat × AObj)) : DR :=
  match x with
  | some d => ofD (some d)
  | none => ofM y
def andDR (p : Prop) (x : DR) : DR :=
  match x with
  | some (S, r) => some (p ∧ S, r)
  | none => none
def whenDR (b : Bool) (x : DR) : DR :=
  match b with
  | true => x
  | false => none
def boxDR (d : TyD) (v : AV) (s : Nat) : DR := some (fitP d v, .ptr s [], [boxO v], none)

def callDR (x : Option (Bool × D)) (rows : List Nat) (s : Nat) : DR :=
  match x with
  | some (true, some (S, v, news)) => some (S, v.shift s, news, none)
  | some (false, some (S, v, _)) => match v.noSl with
    | true => some (S, v, [], none)
    | false => match rows with
      | [] => some (S, v, [], none)
      | _ => none
  | _ => none

def callFD (c : Ctx) (s : Nat) (f : AV) (args : List AV) (h : List AObj) : DR :=
  match f with
  | .fn (.func f) first cap => callDR (callArgs c f (AV.vals h (first ++ args ++ cap))) (AV.rowss (first ++ args ++ cap)) s
  | _ => none

def appendDR (d e : TyD) (s x : AV) (h : List AObj) (n : Nat) : DR :=
  match e with
  | .slice _ => ofDM (appendD d h s x n) (appendH d h s x)
  | .int _ => match x with
    | .int .i64 m => andDR (0 ≤ m ∧ m ≤ 1099511627776) (ofDM (appendD d h s (zeroSl d m) n) (appendH d h s (zeroSl d m)))
    | _ => none
  | _ => none

def builtinDR (b : Builtin) (ds : List TyD) (args : List AV) (h : List AObj) (n : Nat) : DR :=
  match b, ds, args with
  | .len, [d], [v] => ofD (lenD d h v)
  | .min, _, [x, y] => ofD (minD x y)
  | .max, _, [x, y] => ofD (maxD x y)
  | .append, [d, e], [s, x] => appendDR d e s x h n
  | .copy, [ty, _], [d, s] => ofM (copyH ty h d s)
  | .clear, [ty], [d] => ofM (clearH ty h d)
  | _, _, _ => none

def argVs (c : Ctx) (t : List (Nat × AV)) (cl : Call) : List AV := (cl.args.toList.zip cl.argTypes.toList).map fun p => ev t (c.tab p.2) p.1

/-- s: the place of what it makes -/
def opD (c : Ctx) (s : Nat) (t : List (Nat × AV)) (h : List AObj) (op : Op) (type : TypeId) : DR :=
  match op with
  | .move x => some (True, ev t (c.tab type) x, [], none)
  | .assign x => some (True, ev t (c.tab type) x, [], none)
  | .pick cnd a b => ofD (pickD (ev t .bool cnd) (ev t .bool a) (ev t .bool b))
  | .alloc T => boxDR (c.tab T) (c.tab T).zero s
  | .box T x => boxDR (c.tab T) (ev t (c.tab T) x) s
  | .build T parts => ofD (buildD (c.tab T) (parts.toList.map fun p => (p.1, ev t ((c.tab T).field p.1) p.2)))
  | .buildSlice T n parts => ofD (buildSliceD (c.tab T) n (parts.toList.map fun p => (p.1, ev t .other p.2)) s)
  | .load T a => ofD (fitD (c.tab T) (loadD h (ev t .ptr a)))
  | .store T a v => ofH (storeH (c.tab T) h (ev t .ptr a) (ev t (c.tab T) v))
  | .nilCheck x => ofD (nilCheckD (ev t .ptr x))
  | .binOp op xt x y _ => match isNilSlice y, op with
    | true, .eql => none
    | _, _ => ofD (binD (c.tab xt) op (ev t (c.tab xt) x) (ev t (c.tab xt) y))
  | .unOp op _ x => ofD (unD op (ev t .bool x))
  | .convert s d x => ofD (convD h (c.tab s) (c.tab d) (ev t (c.tab s) x))
  | .makeInterface T x => whenDR (c.tab T).known (some (True, .iface T (ev t (c.tab T) x), [], none))
  | .makeFunc fn first cap => some (True, .fn fn (first.toList.map (ev t .other)) (cap.toList.map (ev t .other)), [], none)
  | .makeMap T none => ofD (makeMapD (c.tab T) s)
  | .makeSlice T l cp => ofD (makeSliceD (c.tab T) (ev t (.int .i64) l) (ev t (.int .i64) cp) s)
  | .slice T x lo hi mx => ofD (sliceD (c.tab T) h (ev t (c.tab T) x) (lo.map (ev t (.int .i64))) (hi.map (ev t (.int .i64))) (mx.map (ev t (.int .i64))))
  | .fieldAddr T x f => ofD (fieldAddrD (c.tab T) (ev t .ptr x) f)
  | .field T x f => ofD (fieldD (c.tab T) (ev t (c.tab T) x) f)
  | .indexAddr T x i => ofD (indexAddrD (c.tab T) h (ev t (c.tab T) x) (ev t (.int .i64) i))
  | .index T x i => ofD (indexD (c.tab T) (ev t (c.tab T) x) (ev t (.int .i64) i))
  | .lookup T x k false => ofD (lookupD (c.tab T) h (ev t .other x) (ev t (.int .i64) k))
  | .mapUpdate T x k v => ofH (mapSetH (c.tab T) h (ev t .other x) (ev t (.int .i64) k) (ev t .other v))
  | .insert T x k v => ofH (mapSetH (c.tab T) h (ev t .other x) (ev t (.int .i64) k) (ev t .other v))
  | .extract x i => ofD (extractD (ev t .other x) i)
  | .call cl => match Nat.beq cl.args.toList.length cl.argTypes.toList.length with
    | false => none
    | true => match cl.callee with
      | .builtin b => builtinDR b (cl.argTypes.toList.map c.tab) (argVs c t cl) h s
      | .value f => callFD c s (ev t .func f) (argVs c t cl) h
      | _ => none
  | _ => none

/-- an object changes -/
def mutate (h : List AObj) (m : Option (Nat × AObj)) : List AObj :=
  match m with
  | some (id, o) => h.set id o
  | none => h

def OkD (x : DR) (h : List AObj) (K : AV → List AObj → Prop) : Prop := ∃ S v news mm, x = some (S, v, news, mm) ∧ S ∧ K v (mutate (h ++ news) mm)

theorem okD_D {x : D} {h : List AObj} {K : AV → List AObj → Prop} (hr : runD x h K) : OkD (ofD x) h K := by
  unfold runD at hr; split at hr
  · exact ⟨_, _, _, _, rfl, hr.1, hr.2⟩
  · exact hr.elim
theorem okD_H {x : Option (Prop × Nat × AObj)} {h : List AObj} {K : AV → List AObj → Prop} (hr : runH x h K) : OkD (ofH x) h K := by
  unfold runH at hr; split at hr
  · exact ⟨_, _, _, _, rfl, hr.1, by simpa [mutate] using hr.2⟩
  · exact hr.elim
theorem okD_M {x : Option (Prop × AV × Nat × AObj)} {h : List AObj} {K : AV → List AObj → Prop} (hr : runM x h K) : OkD (ofM x) h K := by
  unfold runM at hr; split at hr
  · exact ⟨_, _, _, _, rfl, hr.1, by simpa [mutate] using hr.2⟩
  · exact hr.elim
theorem okD_DM {x : D} {y : Option (Prop × AV × Nat × AObj)} {h : List AObj} {K : AV → List AObj → Prop} (hr : runDM x y h K) : OkD (ofDM x y) h K := by
  unfold runDM at hr; split at hr
  · exact ⟨_, _, _, _, rfl, hr.1, hr.2⟩
  · exact okD_M hr
theorem okD_and {p : Prop} {x : DR} {h : List AObj} {K : AV → List AObj → Prop} (hp : p) (hr : OkD x h K) : OkD (andDR p x) h K := by
  obtain ⟨S, v, news, mm, rfl, hS, hK⟩ := hr
  exact ⟨_, _, _, _, rfl, ⟨hp, hS⟩, hK⟩

theorem okD_append {d e : TyD} {s x : AV} {h : List AObj} {K : AV → List AObj → Prop} (hr : appendW d e s x h K) : OkD (appendDR d e s x h h.length) h K := by
  unfold appendW at hr; split at hr
  · exact okD_DM hr
  · split at hr
    · exact okD_and hr.1 (okD_DM hr.2)
    · exact hr.elim
  · exact hr.elim

theorem okD_builtin {b : Builtin} {ds : List TyD} {args : List AV} {h : List AObj} {K : AV → List AObj → Prop} (hr : builtinW b ds args h K) : OkD (builtinDR b ds args h h.length) h K := by
  unfold builtinW at hr; split at hr
  · exact okD_D hr
  · exact okD_D hr
  · exact okD_D hr
  · exact okD_append hr
  · exact okD_M hr
  · exact okD_M hr
  · exact hr.elim

/-- what opD does not tell -/
inductive Spec (c : Ctx) (t : List (Nat × AV)) (h : List AObj) (op : Op) (K KP : AV → List AObj → Prop) : Prop
  | nilEq (xt : TypeId) (x y : Operand) (b : TypeId) (hop : op = .binOp .eql xt x y b) (hn : isNilSlice y = true) (hs : (c.tab xt).slc = true) (hk : nilEqO ((ev t (c.tab xt) x).len (c.tab xt) h) h K)
  | panic (x : Operand) (hop : op = .panic x) (hk : panW (ev t .iface x) h KP)
  | call (cl : Call) (f : Operand) (hop : op = .call cl) (hcal : cl.callee = .value f) (hl : cl.args.toList.length = cl.argTypes.toList.length)
      (hk : callW c (ev t .func f) (argVs c t cl) h K KP)

theorem opW_D {c : Ctx} {t : List (Nat × AV)} {h : List AObj} {op : Op} {type : TypeId} {K KP : AV → List AObj → Prop} (hw : opW c t h op type K KP) :
    OkD (opD c h.length t h op type) h K ∨ Spec c t h op K KP := by
  unfold opW at hw
  split at hw
  case h_1 => exact .inl ⟨_, _, _, _, rfl, trivial, by simpa [mutate] using hw⟩
  case h_2 => exact .inl ⟨_, _, _, _, rfl, trivial, by simpa [mutate] using hw⟩
  case h_4 => exact .inl ⟨_, _, _, _, rfl, hw.1, by simpa [mutate] using hw.2⟩
  case h_5 => exact .inl ⟨_, _, _, _, rfl, hw.1, by simpa [mutate] using hw.2⟩
  case h_11 xt x y b =>
    cases hn : isNilSlice y with
    | false =>
      simp only [hn] at hw
      simp only [opD, hn]
      exact .inl (okD_D hw)
    | true =>
      rename_i op
      by_cases ho : op = .eql
      · subst ho
        simp only [hn] at hw
        cases hs : (c.tab xt).slc with
        | false => simp only [hs, whenP] at hw
        | true => simp only [hs, whenP] at hw; exact .inr (.nilEq xt x y b rfl hn hs hw)
      · simp only [opD, hn]
        cases op <;> first | exact absurd rfl ho | (simp only [hn] at hw; exact .inl (okD_D hw))
  case h_14 T x =>
    unfold opD
    cases hk : (c.tab T).known with
    | false => simp only [hk, whenP] at hw
    | true => simp only [hk, whenP] at hw; exact .inl ⟨True, .iface T (ev t (c.tab T) x), [], none, by simp only [hk, whenDR], trivial, by simpa [mutate] using hw⟩
  case h_15 => exact .inl ⟨_, _, _, _, rfl, trivial, by simpa [mutate] using hw⟩
  case h_27 x => exact .inr (.panic x rfl hw)
  case h_28 cl =>
    split at hw
    · exact hw.elim
    · rename_i hl
      split at hw
      · rename_i b hc
        simp only [opD, hl, hc]; exact .inl (okD_builtin hw)
      · rename_i f hc
        exact .inr (.call cl f rfl hc (Nat.eq_of_beq_eq_true hl) hw)
      · exact hw.elim
  case h_29 => exact hw.elim
  all_goals first | exact .inl (okD_D hw) | exact .inl (okD_H hw)

/-- a call by value, or of a fresh result -/
theorem callW_D {c : Ctx} {f : AV} {args : List AV} {h : List AObj} {K KP : AV → List AObj → Prop} (hS : c.drawn = true) (hN : ∀ f args h K, ¬ c.envS f args h K) (hY : ∀ l args h K, ¬ c.envY l args h K) (hw : callW c f args h K KP) :
    OkD (callFD c h.length f args h) h K := by
  unfold callW at hw; unfold callFD
  split at hw
  · simp only
    unfold callR at hw; unfold callDR
    split at hw
    · rename_i e; simp only [e]; exact ⟨_, _, _, _, rfl, hw.1, hw.2⟩
    · rename_i e; simp only [e]
      split at hw
      · rename_i hn
        simp only [hn]
        exact ⟨_, _, _, _, rfl, hw.1, by simpa [mutate] using hw.2⟩
      · rename_i hn
        have := hw.1 hS
        simp only [hn, this] at hw ⊢
        exact ⟨_, _, _, _, rfl, hw.2.1, by simpa [mutate, freeze] using hw.2.2⟩
    · exact hw.elim
    · exact (hN _ _ _ _ hw).elim
  · exact (hY _ _ _ _ hw).elim
  · exact hw.elim

/-! ### What is looked at -/
def Agree (h h' : List AObj) (ids : List Nat) : Prop := ∀ id, id ∈ ids → h[id]? = h'[id]?

theorem Agree.sub {h h' : List AObj} {ids js : List Nat} (a : Agree h h' ids) (hs : ∀ j, j ∈ js → j ∈ ids) : Agree h h' js := fun j hj => a j (hs j hj)

theorem Agree.sref {h h' : List AObj} {x : Bool} {id ver off len : Nat} (a : Agree h h' (AV.sref x id ver off len).ids) : h[id]? = h'[id]? := a id (by simp [AV.ids])
theorem Agree.ptr {h h' : List AObj} {id : Nat} {p : List PS} (a : Agree h h' (AV.ptr id p).ids) : h[id]? = h'[id]? := a id (by simp [AV.ids])
theorem Agree.map {h h' : List AObj} {id : Nat} (a : Agree h h' (AV.map id).ids) : h[id]? = h'[id]? := a id (by simp [AV.ids])

theorem ofConst_ids (d : TyD) (v : Value) : (AV.ofConst d v).ids = [] := by
  unfold AV.ofConst; split <;> first | rfl | (split <;> rfl)

theorem ev_ids (t : List (Nat × AV)) (d d' : TyD) (x : Operand) : (ev t d x).ids = (ev t d' x).ids := by
  cases x <;> simp [ev, ofConst_ids]

mutual
theorem vals_local {h h' : List AObj} : ∀ {vs : List AV}, Agree h h' (AV.idss vs) → AV.vals h vs = AV.vals h' vs
  | [], _ => rfl
  | v :: r, a => by
    simp only [AV.idss] at a
    simp only [AV.vals, val_local (a.sub fun j hj => List.mem_append_left _ hj), vals_local (a.sub fun j hj => List.mem_append_right _ hj)]
theorem val_local {h h' : List AObj} : ∀ {v : AV}, Agree h h' v.ids → v.val h = v.val h'
  | .sref x id ver off len, a => by simp only [AV.val, a id (by simp [AV.ids])]
  | .agg vs, a => by simp only [AV.ids] at a; simp only [AV.val, vals_local a]
  | .tup vs, a => by simp only [AV.ids] at a; simp only [AV.val, vals_local a]
  | .sl _ _, _ | .top, _ | .und, _ | .int _ _, _ | .bool _, _ | .str _, _ | .arr _, _ | .ep _ _ _, _ | .nilp, _ | .ptr _ _, _ | .map _, _ | .fn _ _ _, _ | .nilfn, _ | .iface _ _, _ | .niliface, _ => rfl
end

theorem list_local {h h' : List AObj} {v : AV} (a : Agree h h' v.ids) : v.list h = v.list h' := by
  cases v <;> first | rfl | (simp only [AV.list, a.sref])

theorem len_local {h h' : List AObj} {d : TyD} {v : AV} (a : Agree h h' v.ids) : v.len d h = v.len d h' := by
  cases d <;> cases v <;> first | rfl | (simp only [AV.len, a.sref])

theorem load_local {h h' : List AObj} {v : AV} (a : Agree h h' v.ids) : loadD h v = loadD h' v := by
  cases v <;> first | rfl | (simp only [loadD, a.ptr])

theorem store_local {h h' : List AObj} {d : TyD} {a v : AV} (g : Agree h h' a.ids) : storeH d h a v = storeH d h' a v := by
  cases a <;> first | rfl | (simp only [storeH, g.ptr])

theorem slice_local {h h' : List AObj} {d : TyD} {v : AV} {lo hi mx : Option AV} (a : Agree h h' v.ids) : sliceD d h v lo hi mx = sliceD d h' v lo hi mx := by
  cases v with
  | ptr id p => cases p with
    | nil => simp only [sliceD, a id (by simp [AV.ids])]
    | cons _ _ => rfl
  | sref x id ver off len => simp only [sliceD, a id (by simp [AV.ids])]
  | _ => rfl

theorem index_local {h h' : List AObj} {d : TyD} {v i : AV} (a : Agree h h' v.ids) : indexAddrD d h v i = indexAddrD d h' v i := by
  cases i with
  | int k n => cases v with
    | ptr id p => cases p with
      | nil => simp only [indexAddrD, a id (by simp [AV.ids])]
      | cons _ _ => rfl
    | sref x id ver off len => simp only [indexAddrD, a id (by simp [AV.ids])]
    | _ => rfl
  | _ => rfl

theorem look_local {h h' : List AObj} {d : TyD} {v k : AV} (a : Agree h h' v.ids) : lookupD d h v k = lookupD d h' v k := by
  cases v <;> first | rfl | (simp only [lookupD, a.map])

theorem mapSet_local {h h' : List AObj} {d : TyD} {x k v : AV} (a : Agree h h' x.ids) : mapSetH d h x k v = mapSetH d h' x k v := by
  cases x <;> first | rfl | (simp only [mapSetH, a.map])

theorem conv_local {h h' : List AObj} {s d : TyD} {x : AV} (a : Agree h h' x.ids) : convD h s d x = convD h' s d x := by
  have hx := list_local a
  unfold convD
  split <;> first | rfl | rw [hx]

theorem appendD_local {h h' : List AObj} {d : TyD} {s x : AV} {n : Nat} (a : Agree h h' s.ids) (b : Agree h h' x.ids) : appendD d h s x n = appendD d h' s x n := by
  have hx := list_local b
  cases s with
  | sl f l => cases f <;> simp only [appendD, hx]
  | sref f id ver off len => cases f <;> simp only [appendD, hx, a id (by simp [AV.ids])]
  | _ => rfl

theorem appendH_local {h h' : List AObj} {d : TyD} {s x : AV} (a : Agree h h' s.ids) (b : Agree h h' x.ids) : appendH d h s x = appendH d h' s x := by
  have hx := list_local b
  cases s with
  | sref f id ver off len => cases f <;> simp only [appendH, hx, a id (by simp [AV.ids])]
  | _ => rfl

theorem copy_local {h h' : List AObj} {d : TyD} {s x : AV} (a : Agree h h' s.ids) (b : Agree h h' x.ids) : copyH d h s x = copyH d h' s x := by
  have hx := list_local b
  cases s with
  | sref f id ver off len => simp only [copyH, hx, a id (by simp [AV.ids])]
  | _ => rfl

theorem clear_local {h h' : List AObj} {d : TyD} {s : AV} (a : Agree h h' s.ids) : clearH d h s = clearH d h' s := by
  cases s with
  | sref f id ver off len => simp only [clearH, a id (by simp [AV.ids])]
  | _ => rfl

theorem append_local {h h' : List AObj} {d e : TyD} {s x : AV} {n : Nat} (a : Agree h h' s.ids) (b : Agree h h' x.ids) : appendDR d e s x h n = appendDR d e s x h' n := by
  unfold appendDR
  split
  · rw [appendD_local a b, appendH_local a b]
  · split
    · rename_i k m
      have hz : (zeroSl d m).ids = [] := by unfold zeroSl; split <;> rfl
      rw [appendD_local a (by rw [hz]; intro i hi; cases hi), appendH_local a (by rw [hz]; intro i hi; cases hi)]
    · rfl
  · rfl

theorem builtin_local {h h' : List AObj} {b : Builtin} {ds : List TyD} {args : List AV} {n : Nat} (a : Agree h h' (AV.idss args)) : builtinDR b ds args h n = builtinDR b ds args h' n := by
  have e1 : ∀ x, args = [x] → Agree h h' x.ids := by rintro x rfl; simpa [AV.idss] using a
  have e2 : ∀ x y, args = [x, y] → Agree h h' x.ids ∧ Agree h h' y.ids := by
    rintro x y rfl
    simp only [AV.idss, List.append_nil] at a
    exact ⟨a.sub fun j hj => List.mem_append_left _ hj, a.sub fun j hj => List.mem_append_right _ hj⟩
  unfold builtinDR
  split
  · rw [lenD, lenD, len_local (e1 _ rfl)]
  · rfl
  · rfl
  · exact append_local (e2 _ _ rfl).1 (e2 _ _ rfl).2
  · rw [copy_local (e2 _ _ rfl).1 (e2 _ _ rfl).2]
  · rw [clear_local (e1 _ rfl)]
  · rfl

/-- the values of an operation's operands -/
def opVs (t : List (Nat × AV)) (op : Op) : List AV := op.operands.toList.map (ev t .other)

theorem idss_mem {vs : List AV} {v : AV} (h : v ∈ vs) : ∀ j, j ∈ v.ids → j ∈ AV.idss vs := by
  induction vs with
  | nil => cases h
  | cons u r ih =>
    intro j hj
    rcases List.mem_cons.1 h with rfl | h
    · exact List.mem_append_left _ hj
    · exact List.mem_append_right _ (ih h j hj)

theorem opd_agree {h h' : List AObj} {t : List (Nat × AV)} {op : Op} (a : Agree h h' (AV.idss (opVs t op))) {x : Operand} (hx : x ∈ op.operands.toList) (d : TyD) : Agree h h' (ev t d x).ids :=
  a.sub fun j hj => by
    rw [ev_ids t d .other] at hj
    exact idss_mem (List.mem_map_of_mem hx) j hj

theorem idss_append (a b : List AV) : AV.idss (a ++ b) = AV.idss a ++ AV.idss b := by
  induction a with
  | nil => rfl
  | cons v r ih => simp [AV.idss, ih]

theorem mem_idss {vs : List AV} {j : Nat} (h : j ∈ AV.idss vs) : ∃ v, v ∈ vs ∧ j ∈ v.ids := by
  induction vs with
  | nil => simp [AV.idss] at h
  | cons v r ih =>
    simp only [AV.idss, List.mem_append] at h
    rcases h with h | h
    · exact ⟨v, List.mem_cons_self, h⟩
    · obtain ⟨u, hu, hj⟩ := ih h; exact ⟨u, List.mem_cons_of_mem _ hu, hj⟩

theorem call_operands (cl : Call) : (∀ x, x ∈ cl.args.toList → x ∈ (Op.call cl).operands.toList) ∧ ∀ f, cl.callee = .value f → f ∈ (Op.call cl).operands.toList := by
  constructor
  · intro x hx; cases h : cl.callee <;> simp_all [Op.operands, Call.operands]
  · intro f hf; simp [Op.operands, Call.operands, hf]

theorem argVs_agree {h h' : List AObj} {c : Ctx} {t : List (Nat × AV)} {cl : Call} (a : Agree h h' (AV.idss (opVs t (.call cl)))) : Agree h h' (AV.idss (argVs c t cl)) := by
  intro j hj
  obtain ⟨v, hv, hj⟩ := mem_idss hj
  obtain ⟨p, hp, rfl⟩ := List.mem_map.1 hv
  exact opd_agree a ((call_operands cl).1 p.1 (List.of_mem_zip hp).1) _ j hj

theorem opD_local {c : Ctx} {s : Nat} {t : List (Nat × AV)} {h h' : List AObj} {op : Op} {type : TypeId} (a : Agree h h' (AV.idss (opVs t op))) : opD c s t h op type = opD c s t h' op type := by
  have g := fun x hx d => opd_agree a (x := x) hx d
  cases op with
  | load T x => simp only [opD, load_local (g x (by simp [Op.operands]) .ptr)]
  | store T x v => simp only [opD, store_local (g x (by simp [Op.operands]) .ptr)]
  | convert s d x => simp only [opD, conv_local (g x (by simp [Op.operands]) _)]
  | slice T x lo hi mx => simp only [opD, slice_local (g x (by simp [Op.operands]) _)]
  | indexAddr T x i => simp only [opD, index_local (g x (by simp [Op.operands]) _)]
  | lookup T x k b => cases b <;> simp only [opD, look_local (g x (by simp [Op.operands]) .other)]
  | mapUpdate T x k v => simp only [opD, mapSet_local (g x (by simp [Op.operands]) .other)]
  | insert T x k v => simp only [opD, mapSet_local (g x (by simp [Op.operands]) .other)]
  | makeMap T r => cases r <;> rfl
  | call cl =>
    simp only [opD]
    split
    · rfl
    · split
      · exact builtin_local (argVs_agree a)
      · rename_i f hc
        unfold callFD
        split
        · rename_i q fn first cap hf
          rw [vals_local]
          intro j hj
          rw [idss_append, idss_append] at hj
          simp only [List.mem_append] at hj
          have hfn : Agree h h' (ev t .func f).ids := g f ((call_operands cl).2 f hc) .func
          rw [hf] at hfn
          simp only [AV.ids] at hfn
          rcases hj with (hj | hj) | hj
          · exact hfn j (List.mem_append_left _ hj)
          · exact argVs_agree a j hj
          · exact hfn j (List.mem_append_right _ hj)
        · rfl
      · rfl
  | _ => rfl

end Lam
