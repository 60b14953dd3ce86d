/- An operation in the text's order, whole: with calls that are looked into, and panics. -/
import Derived.Test.YtpjnljbfnppmlaaLR23
import Derived.Laws.Cover3
set_option linter.unusedVariables false
set_option linter.unnecessarySimpa false
set_option linter.unusedSectionVars false
set_option linter.unusedSimpArgs false
namespace Lam
open Go

/-- marks of ranges over functions, among the deferred calls -/
def DefOk (base : Nat) (X : Cx) : List Deferred → Prop
  | [] => True
  | d :: ds => (∃ r, d = { target := .collected r, args := #[] } ∧ base ≤ r ∧ X.w.heap[r]? = some (.deferred (some [])) ∧ (∀ i : Nat, X.μ[i]? ≠ some (some r)) ∧ ¬ X.S r ∧ ∀ d' ∈ ds, d'.target ≠ .collected r) ∧ DefOk base X ds

theorem DefOk.ext {base : Nat} {X Y : Cx} (E : Ext X Y) : ∀ {ds : List Deferred}, DefOk base X ds → DefOk base Y ds
  | [], _ => trivial
  | d :: ds, ⟨⟨r, e, h1, h2, h3, h4, h5⟩, h⟩ => by
    have hlt : r < X.w.heap.size := (Array.getElem?_eq_some_iff.1 h2).1
    refine ⟨⟨r, e, h1, by rw [E.keep r hlt h3]; exact h2, fun i hi => ?_, fun hs => ?_, h5⟩, DefOk.ext E h⟩
    · rcases E.muinv i r hi with h | h
      · exact h3 i h
      · omega
    · rcases E.new r hs with h | ⟨i, h⟩ | h
      · exact h4 h
      · exact h3 i h
      · omega

theorem DefOk.lt {base : Nat} {X : Cx} : ∀ {ds : List Deferred}, DefOk base X ds → ∀ d ∈ ds, ∀ {r : Nat}, d.target = .collected r → r < X.w.heap.size
  | [], _, d, hd, _, _ => by cases hd
  | d :: ds, ⟨⟨r, e, _, h2, _⟩, h⟩, d', hd', r', e' => by
    rcases List.mem_cons.1 hd' with rfl | hd'
    · rw [e] at e'
      cases e'
      exact (Array.getElem?_eq_some_iff.1 h2).1
    · exact DefOk.lt h d' hd' e'

/-- temporaries -/
structure SR (n : Nat) (ds : Nat) (X : Cx) (t : List (Nat × AV)) (a : Act) : Prop where
  v : ∀ i, VV X (get t i) (a.tmps.getD i undef)
  size : n ≤ a.tmps.size
  defers : DefOk ds X a.defers

theorem get_put (t : List (Nat × AV)) (i j : Nat) (v : AV) : get (put i v t) j = if i = j then v else get t j := by
  simp only [put, get]
  by_cases h : j = i
  · subst h; simp
  · have : Nat.beq j i = false := by rw [Bool.eq_false_iff]; intro e; exact h (Nat.eq_of_beq_eq_true e)
    rw [this, if_neg (Ne.symm h)]

section
variable {n : Nat} {ds : Nat} {X Y : Cx} {t : List (Nat × AV)} {a : Act}

theorem const_VV (d : TyD) (v : Value) : VV X (.ofConst d v) v := by
  have hsl : VV X (match d with | .slice e => AV.sl true e.empty | _ => .top) (.slice none 0 0) := by
    cases d <;> first | trivial | skip
    rename_i e
    exact ⟨none, 0, by cases e <;> rfl, by cases e <;> simp [LK.empty, Lst.len], fun _ => by cases e <;> rfl, fun _ => rfl, fun h => (h (by cases e <;> rfl)).elim⟩
  unfold AV.ofConst
  split
  · rfl
  · rfl
  · show Value.string _ = .string (bstr _)
    rw [bstr_data]
  · rfl
  · exact hsl
  · rfl
  · rfl
  · trivial

theorem SR.ev (h : SR n ds X t a) (x : Operand) (d : TyD) : VV X (Lam.ev t d x) (a.eval x) := by
  cases x with
  | tmp i => exact h.v i
  | const v => exact const_VV d v
  | global g => trivial
  | func f => exact ⟨#[], #[], rfl, by simp [VVs], by simp [VVs]⟩

theorem SR.ext (h : SR n ds X t a) (E : Ext X Y) : SR n ds Y t a := ⟨fun i => (h.v i).ext E, h.size, h.defers.ext E⟩

theorem SR.put (h : SR n ds X t a) {i : Nat} {v : AV} {c : Value} (hi : i < n) (hv : VV X v c) : SR n ds X (Lam.put i v t) (a.put (some i) c) := by
  have hs : i < a.tmps.size := Nat.lt_of_lt_of_le hi h.size
  refine ⟨fun j => ?_, by simpa [Act.put] using h.size, h.defers⟩
  rw [get_put]
  simp only [Act.put, Array.getD_eq_getD_getElem?, Array.getElem?_setIfInBounds]
  by_cases e : i = j
  · subst e; simp [hs, hv]
  · simp only [if_neg e]
    have := h.v j
    rwa [Array.getD_eq_getD_getElem?] at this

theorem SR.putO (h : SR n ds X t a) {o : Option Nat} {v : AV} {c : Value} (hi : ∀ i, o = some i → i < n) (hv : VV X v c) : SR n ds X (Lam.putO o v t) (a.put o c) := by
  cases o with
  | none => exact ⟨h.v, h.size, h.defers⟩
  | some i => exact h.put (hi i rfl) hv

/-- a temporary of which more is known -/
theorem SR.learn (h : SR n ds X t a) {i : Nat} {v : AV} (hv : VV X v (a.tmps.getD i undef)) : SR n ds X (Lam.put i v t) a := by
  refine ⟨fun j => ?_, h.size, h.defers⟩
  rw [get_put]
  by_cases e : i = j
  · subst e; simpa using hv
  · rw [if_neg e]; exact h.v j
end

/-- the end of a call, as its outcome tells -/
def OutR (Y : Cx) : AOut → Ending → Prop
  | .ret v, e => ∃ c, e = .returned c ∧ VV Y v c
  | .pan v, e => ∃ c, e = .panicked [{ v := c, recovered := false }] ∧ VV Y v c

/-- contracts of functions that are looked into -/
structure SOk (P : Program) (envS : FuncId → Con) : Prop where
  spec : ∀ f args h K, envS f args h K → ∀ (X : Cx) (cs : Array Value), HR X → X.h = h → VVs X args cs.toList →
    (∀ w, (callFunc f cs).run P w = .ok (.enter f cs) w) ∧
      Calls P f cs X.w fun e w' => ∃ Y ao, Y.w = w' ∧ HR Y ∧ Ext X Y ∧ OutR Y ao e ∧ K ao Y.h

/-- what a call of yield comes to, from a context on -/
def YOk (P : Program) (B : Cx) (l : Nat) (Yc : Con) : Prop :=
  ∀ args h K, Yc args h K → ∀ (X : Cx) (cs : Array Value), Ext B X → HR X → X.h = h → VVs X args cs.toList →
    ∃ fn tmps assign body, (Instr.yield l cs).run P X.w = .ok (.round l fn tmps assign body) X.w ∧
      ∀ n, RoundIn (FW none) n P l fn tmps assign body X.w fun e w' => ∃ Y ao, Y.w = w' ∧ HR Y ∧ Ext X Y ∧ OutR Y ao e ∧ K ao Y.h

/-- contracts of functions that are ranged over -/
structure ISOk (P : Program) (iterS : FuncId → Con → Con) : Prop where
  spec : ∀ f Yc l cap h K, iterS f Yc (.fn (.yield l) [] [] :: cap) h K → ∀ (X : Cx) (cs : Array Value), YOk P X l Yc → HR X → X.h = h → VVs X (.fn (.yield l) [] [] :: cap) cs.toList →
    (∀ w, (callFunc f cs).run P w = .ok (.enter f cs) w) ∧
      Calls P f cs X.w fun e w' => ∃ Y ao, Y.w = w' ∧ HR Y ∧ Ext X Y ∧ OutR Y ao e ∧ K ao Y.h

theorem roundIn_any {ro ro' : Option Nat} {n : Nat} {P : Program} {l : Nat} {f : FuncId} {tmps : Array Value} {assign body : Code} {w : World} {R : Ending → World → Prop}
    (h : RoundIn (FW ro) n P l f tmps assign body w R) : RoundIn (FW ro') n P l f tmps assign body w R := h

section
variable {X : Cx}

theorem freeze_length : ∀ (ids : List Nat) (h : List AObj), (freeze ids h).length = h.length
  | [], _ => rfl
  | id :: r, h => by simp [freeze, freeze_length r]

theorem froO_froO (o : AObj) : froO (froO o) = froO o := by cases o <;> rfl

theorem freeze_get : ∀ (ids : List Nat) (h : List AObj) (i : Nat), (freeze ids h)[i]? = if i ∈ ids then (h[i]?).map froO else h[i]?
  | [], _, _ => by simp [freeze]
  | id :: r, h, i => by
    simp only [freeze]
    rw [freeze_get r, List.getElem?_modify]
    by_cases e : id = i
    · subst e
      simp only [if_true, List.mem_cons, true_or]
      split
      · cases h[id]? <;> simp [froO_froO]
      · cases h[id]? <;> simp
    · simp only [if_neg e, List.mem_cons, Ne.symm e, false_or, id_eq]
      cases h[i]? <;> simp

/-- rows that are given away by value -/
def Cx.fro (X : Cx) (ids : List Nat) : Cx := ⟨fun b => X.S b ∨ ∃ id ∈ ids, X.μ[id]? = some (some b), X.μ, freeze ids X.h, X.w⟩

theorem fro_ok (H : HR X) {ids : List Nat} (hr : ∀ id ∈ ids, ∃ k ver l, X.h[id]? = some (.row k ver l)) : HR (X.fro ids) ∧ Ext X (X.fro ids) := by
  have hh : ∀ i, (X.fro ids).h[i]? = _ := freeze_get ids X.h
  have E : Ext X (X.fro ids) := by
    refine ⟨fun _ h => .inl h, fun _ _ => rfl, fun b hb => ?_, fun i b hb => .inl hb, fun _ _ _ => rfl, Nat.le_refl _, fun i k ver l hl => ?_, fun i b h1 h2 => ⟨h2, ?_⟩, SameEnv.refl _⟩
    · rcases hb with h | ⟨id, _, h⟩
      · exact .inl h
      · exact .inr (.inl ⟨id, h⟩)
    · rw [hh]
      split
      · rename_i hi
        rw [rowO_some hl]
        exact ⟨.fro, ver, l, rfl, Nat.le_refl _, fun _ => ⟨rfl, rfl, fun b hb => ⟨hb, Nat.le_refl _⟩⟩, fun _ => ⟨by simp, rfl⟩⟩
      · exact ⟨k, ver, l, hl, Nat.le_refl _, fun _ => ⟨rfl, rfl, fun b hb => ⟨hb, Nat.le_refl _⟩⟩, fun h => ⟨h, rfl⟩⟩
    · rw [hh]
      split
      · rename_i hi
        obtain ⟨k, ver, l, e⟩ := hr i hi
        rw [e] at h1; cases h1
      · exact h1
  refine ⟨⟨by rw [show (X.fro ids).μ = X.μ from rfl, show (X.fro ids).h = freeze ids X.h from rfl, freeze_length, H.len], fun i o ho => ?_, H.apart, fun i b hb => ⟨(H.live i b hb).1, fun hs => ?_⟩, fun b hb => ?_⟩, E⟩
  · rw [hh] at ho
    split at ho
    · rename_i hi
      obtain ⟨k, ver, l, e⟩ := hr i hi
      rw [e] at ho
      cases ho
      obtain ⟨b, hb, hor⟩ := H.obj i _ e
      refine ⟨b, hb, ?_⟩
      rcases hor with ⟨h1, h2, _⟩ | ⟨b', cs, elem, rfl, h1, h2, _⟩
      · exact .inl ⟨h1, h2, by simp⟩
      · exact .inr ⟨b', cs, elem, rfl, h1, h2, fun _ => .inr ⟨i, hi, hb⟩⟩
    · obtain ⟨b, hb, hor⟩ := H.obj i o ho
      exact ⟨b, hb, hor.ext E fun _ _ => rfl⟩
  · rw [hh]
    rcases hs with h | ⟨id, hid, h⟩
    · obtain ⟨ver, l, e⟩ := (H.live i b hb).2 h
      rw [e]
      split
      · exact ⟨ver, l, rfl⟩
      · exact ⟨ver, l, rfl⟩
    · obtain rfl := H.apart _ _ _ hb h
      obtain ⟨k, ver, l, e⟩ := hr i hid
      rw [if_pos hid, e]
      exact ⟨ver, l, rfl⟩
  · rcases hb with h | ⟨id, _, h⟩
    · exact H.old b h
    · exact (H.live _ _ h).1

theorem slice_nil {x : AV} {c : Value} {n : Nat} {d : TyD} (hx : VV X x c) (h : AV.len d X.h x = some n) (hd : d.slc = true) : ∃ a cap, c = .slice a n cap ∧ (a = none → n = 0) := by
  unfold AV.len at h
  split at h
  · obtain ⟨a, cap, rfl, h1, _, h3, _⟩ := hx; cases h; exact ⟨a, cap, rfl, fun e => by have := h3 e; omega⟩
  · rename_i id ver off len
    obtain ⟨a, m, cap, rfl, k, ver', l, hl, _, h1⟩ := hx
    unfold lenO at h
    split at h
    · rename_i k2 v2 l2 hh
      rw [hh] at hl; cases hl
      split at h
      · rename_i e; cases h
        obtain ⟨rfl, h3, _, _, h5, _⟩ := h1 e
        exact ⟨a, cap, rfl, fun e => by have := h5 e; omega⟩
      · cases h
    · cases h
  · cases hd
  · cases hd
  · cases h
end

section
variable {ro : Option Nat} {P : Program} {n : Nat} {ds : Nat} {X : Cx} {t : List (Nat × AV)} {a : Act} {o : Oper} {c : Ctx}

theorem opW_sound (C : CtxOk P c) (CS : SOk P c.envS) (hdr : c.drawn = false) {B : Cx} (YY : ∀ l, YOk P B l (c.envY l)) (EB : Ext B X) (H : HR X) (R : SR n ds X t a) {K KP : AV → List AObj → Prop} (hw : opW c t X.h o.op o.type K KP) (nf : Nat) {next : Act → World → Prop} {Q : Exit → Act → World → Prop}
    (hK : ∀ Y v r, HR Y → Ext X Y → K v Y.h → VV Y v r → next (a.put o.dst r) Y.w)
    (hKP : ∀ Y v r, HR Y → Ext X Y → KP v Y.h → VV Y v r → Q (.panic [{ v := r, recovered := false }]) a Y.w) :
    o.wpIn (FW ro) nf P a X.w next Q := by
  have fromD : OkD (opD c X.h.length t X.h o.op o.type) X.h K → o.wpIn (FW ro) nf P a X.w next Q := by
    rintro ⟨S, v, news, mm, e, hS, hk⟩
    obtain ⟨H', E'⟩ := pad_ok H news.length
    have R' := R.ext E'
    have hag : Agree X.h (X.pad news.length).h (AV.idss (opVs t o.op)) := by
      intro id hid
      obtain ⟨v, hv, hj⟩ := mem_idss hid
      obtain ⟨x, _, rfl⟩ := List.mem_map.1 hv
      have := VV_ids H.len (R.ev x .other) id hj
      rw [pad_h, if_pos this]
    rw [opD_local hag] at e
    have hto := opD_sound (ro := ro) (a := a) H' C (fun x _ d => R'.ev x d) (fun j hj => by rw [pad_h, if_neg (by omega), if_pos (by omega)]) e hS
    refine hto nf next Q fun r w' hg => ?_
    obtain ⟨Y, rfl, hYh, HY, EY, hv⟩ := hg
    refine hK Y v r HY (E'.trans EY) ?_ hv
    rw [hYh, show (X.pad news.length).h = X.h ++ List.replicate news.length .dead from rfl, place_pad]
    exact hk
  rcases opW_D hw with hd | hsp
  · exact fromD hd
  · cases hsp with
    | nilEq xt x y b hop hn hs hk =>
      unfold nilEqO at hk
      split at hk
      rotate_left
      · exact hk.elim
      rename_i m hm
      obtain ⟨ad, cap, hx, hz⟩ := slice_nil (R.ev x _) hm hs
      obtain ⟨e, hu⟩ : ∃ e, c.tab xt = .slice e := by
        cases h : c.tab xt <;> rw [h] at hs <;> first | exact ⟨_, rfl⟩ | cases hs
      obtain ⟨E, hu, _⟩ := ty_slice (P := P) (T := xt) (e := e) (by rw [← hu]; exact C.tab xt)
      have hy : a.eval y = .slice none 0 0 := by
        unfold isNilSlice at hn
        split at hn
        · rfl
        · cases hn
      have hr : (execOp a.eval o).run P X.w = .ok (.value (.bool ad.isNone)) X.w := by
        have h1 : (eqGuard .eql xt x y (.slice ad m cap) (.slice none 0 0)).run P X.w = .ok () X.w := rfl
        have h2 : binOp .eql xt (.slice ad m cap) (.slice none 0 0) = (do pure (.bool (← Op.equal xt (.slice ad m cap) (.slice none 0 0)))) := rfl
        simp only [execOp, hop, hx, hy, Sem.run_bind, h1, h2, Result.andThen_ok, run_equal_slice_nil X.w xt E ad m cap hu, Sem.run_pure]
      have hto : OpTo ro P o a X.w (fun r w' => r = .bool ad.isNone ∧ w' = X.w) := OpTo.value (by rw [hop]; intro c h; cases h) hr ⟨rfl, rfl⟩
      refine hto nf next Q fun r w' hg => ?_
      obtain ⟨rfl, rfl⟩ := hg
      refine hK X (.bool ad.isNone) _ H (Ext.refl X) (hk _ fun h => hz ?_) rfl
      cases ad <;> first | rfl | cases h
    | panic x hop hk =>
      have hv := R.ev x .iface
      have : (∀ f, o.about P X.w a.eval = some f → (FW ro).fn f) := fun _ _ => trivial
      refine ⟨this, ?_⟩
      rw [Oper.semAt_eq _ _ _ (by rw [hop]; intro c h; cases h)]
      unfold panW at hk
      split at hk
      rotate_left
      · exact hk.elim
      rename_i T u hx
      rw [hx] at hv
      have hv' := hv
      simp only [VV] at hv'
      obtain ⟨z, he, _⟩ := hv'
      have hr : (execOp a.eval o).run P X.w = .halt (.panic (.iface T z)) X.w := by simp [execOp, hop, Instr.panic, he, goPanic]
      rw [hr]
      exact hKP X _ _ H (Ext.refl X) hk (by rw [← he]; exact hv)
    | call cl f hop hcal hl hk =>
      have hnd : ∀ c, o.op ≠ .defer c := by rw [hop]; intro c h; cases h
      have hop' := call_operands cl
      have hargs : VVs X (argVs c t cl) (cl.args.map a.eval).toList := by
        have := vvs_map (X := X) (f := fun p : Operand × TypeId => Lam.ev t (c.tab p.2) p.1) (g := fun p => a.eval p.1) (l := cl.args.toList.zip cl.argTypes.toList)
          fun p hp => R.ev p.1 _
        rw [Array.toList_map]
        have e : (cl.args.toList.zip cl.argTypes.toList).map (fun p => a.eval p.1) = cl.args.toList.map a.eval := by
          rw [← zip_fst hl, List.map_map]
          congr 1
          rw [zip_fst hl]
        rw [← e]; exact this
      have hD : OkD (callFD c X.h.length (Lam.ev t .func f) (argVs c t cl) X.h) X.h K → o.wpIn (FW ro) nf P a X.w next Q := by
        intro h
        apply fromD
        have hb : Nat.beq cl.args.toList.length cl.argTypes.toList.length = true := by rw [hl]; exact Nat.beq_refl _
        simp only [hop, opD, hcal, hb]
        exact h
      have hf := R.ev f .func
      unfold callW at hk
      unfold callFD at hD
      split at hk
      rotate_left
      · rename_i q l hfe
        rw [hfe] at hf
        simp only [VV] at hf
        obtain ⟨ca, cd, hfe, hf1, hf2⟩ := hf
        simp only [VVs, Array.toList_eq_nil_iff] at hf1 hf2
        subst hf1; subst hf2
        obtain ⟨fn, tmps, assign, body, hrun, hround⟩ := YY l _ _ _ hk X (cl.args.map a.eval) EB H rfl hargs
        have hrun' : (execOp a.eval o).run P X.w = .ok (.round l fn tmps assign body) X.w := by
          rw [← hrun]
          simp [execOp, hop, resolve, hcal, hfe, Deferred.ofValue, invoke]
        refine ⟨fun _ _ => trivial, ?_⟩
        rw [Oper.semAt_eq _ _ _ hnd, hrun']
        refine ⟨fun h => (by cases h), RoundIn.mono (roundIn_any (hround (nf - 1))) fun e w'' he => ?_⟩
        obtain ⟨Y, ao, rfl, HY, EY, ho, hk2⟩ := he
        cases ao with
        | ret v =>
          obtain ⟨r, rfl, hv⟩ := ho
          exact hK Y v r HY EY hk2 hv
        | pan v =>
          obtain ⟨r, rfl, hv⟩ := ho
          exact hKP Y v r HY EY hk2 hv
      · exact hk.elim
      rename_i q fn first cap hfe
      rw [hfe] at hf hD
      simp only [VV] at hf hD
      obtain ⟨ca, cd, hfe, hf1, hf2⟩ := hf
      have hall : VVs X (first ++ argVs c t cl ++ cap) ((ca ++ cl.args.map a.eval ++ cd).toList) := by
        rw [Array.toList_append, Array.toList_append]
        exact VVs_append (VVs_append hf1 hargs) hf2
      have hrun := call_run (P := P) hop hcal hfe X.w
      unfold callR at hk
      unfold callDR at hD
      split at hk
      · rename_i S v news e
        rw [e] at hD
        exact hD ⟨_, _, _, _, rfl, hk.1, by simpa [mutate] using hk.2⟩
      · rename_i S v news e
        split at hk
        · rename_i hns
          rw [e] at hD
          simp only [hns] at hD
          exact hD ⟨_, _, _, _, rfl, hk.1, by simpa [mutate] using hk.2⟩
        · obtain ⟨us, e1, e2, e3⟩ := callArgs_inv e
          obtain ⟨H1, E1⟩ := fro_ok H (ids := AV.rowss (first ++ argVs c t cl ++ cap)) (fun id hid => VVs_rows hall id hid)
          have hc := C.fok.spec _ _ _ _ _ _ e3 hk.2.1 ⟨(X.fro (AV.rowss (first ++ argVs c t cl ++ cap))).S, [], [], X.w⟩ (ca ++ cl.args.map a.eval ++ cd) rfl rfl (hr0 H1.old)
            (args0 H (fun _ h => .inl h) (fun id hid b hb => .inr ⟨id, hid, hb⟩) e1 e2 hall)
          have hto : OpTo ro P o a X.w (fun r w' => ∃ Y, Y.w = w' ∧ HR Y ∧ Ext X Y ∧ Y.h = freeze (AV.rowss (first ++ argVs c t cl ++ cap)) X.h ∧ VV Y v r) := by
            refine OpTo.enter hnd (by rw [hrun, C.fok.enter _ _ _ e3]) (hc.mono fun e w'' he => ?_)
            obtain ⟨r, rfl, Y, rfl, HY, E, hcl, hvv⟩ := he
            obtain ⟨Z1, Z2⟩ := after_val (X := X.fro (AV.rowss (first ++ argVs c t cl ++ cap))) H1 E HY
            exact ⟨⟨Y.S, X.μ, freeze (AV.rowss (first ++ argVs c t cl ++ cap)) X.h, Y.w⟩, rfl, Z1, E1.trans Z2, rfl,
              closedV (X := Y) (Y := ⟨Y.S, X.μ, freeze (AV.rowss (first ++ argVs c t cl ++ cap)) X.h, Y.w⟩) (fun _ h => h) (fun _ _ => rfl) hcl hvv⟩
          refine hto nf next Q fun r w' hg => ?_
          obtain ⟨Y, rfl, HY, EY, hYh, hv⟩ := hg
          exact hK Y v r HY EY (by rw [hYh]; exact hk.2.2) hv
      · exact hk.elim
      · obtain ⟨hent, hcal2⟩ := CS.spec _ _ _ _ hk X (ca ++ cl.args.map a.eval ++ cd) H rfl hall
        refine ⟨fun _ _ => trivial, ?_⟩
        rw [Oper.semAt_eq _ _ _ hnd, hrun, hent]
        refine ⟨fun h => (by cases h), CallsIn.mono (calls_In hcal2) fun e w'' he => ?_⟩
        obtain ⟨Y, ao, rfl, HY, EY, ho, hk2⟩ := he
        cases ao with
        | ret v =>
          obtain ⟨r, rfl, hv⟩ := ho
          exact hK Y v r HY EY hk2 hv
        | pan v =>
          obtain ⟨r, rfl, hv⟩ := ho
          exact hKP Y v r HY EY hk2 hv
end

end Lam
