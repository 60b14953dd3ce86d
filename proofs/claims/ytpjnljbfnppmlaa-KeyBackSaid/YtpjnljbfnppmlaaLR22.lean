/- What an operation is told to come to, it comes to. -/
import Derived.Test.YtpjnljbfnppmlaaLR21
set_option linter.unusedVariables false
set_option linter.unnecessarySimpa false
set_option linter.unusedSectionVars false
set_option linter.unusedSimpArgs false
namespace Lam
open Go

/-- what the contexts' tables and contracts must be -/
structure CtxOk (P : Program) (c : Ctx) : Prop where
  tab : TabOk P c.tab
  sh : ∀ T, (c.tab T).shallow
  fok : FOk P c.envF

section
variable {ro : Option Nat} {P : Program} {X : Cx} {o : Oper} {a : Act} {h' : List AObj} {v : AV}

theorem pure_to {s : Sem Value} (H : HR X) (hd : ∀ c, o.op ≠ .defer c) (he : execOp a.eval o = (do pure (.value (← s)))) (hp : Pure P s X v) : OpTo ro P o a X.w (Good X X.h v) := by
  obtain ⟨c, hr, hv⟩ := hp
  exact OpTo.value hd (by rw [he]; simp [hr]) (Good.same H rfl hv)

theorem made_to {s : Sem Value} (hd : ∀ c, o.op ≠ .defer c) (he : execOp a.eval o = (do pure (.value (← s)))) (hp : ∃ c w', s.run P X.w = .ok c w' ∧ Good X h' v c w') : OpTo ro P o a X.w (Good X h' v) := by
  obtain ⟨c, w', hr, hv⟩ := hp
  exact OpTo.value hd (by rw [he]; simp [hr]) hv

theorem unit_to {s : Sem Unit} (hd : ∀ c, o.op ≠ .defer c) (he : execOp a.eval o = (do s; pure .skip)) (hp : ∃ w', s.run P X.w = .ok () w' ∧ Good X h' v undef w') : OpTo ro P o a X.w (Good X h' v) := by
  obtain ⟨w', hr, hv⟩ := hp
  exact OpTo.skip hd (by rw [he]; simp [hr]) hv

theorem next_to {s : Sem Value} (hd : ∀ c, o.op ≠ .defer c) {w' : World} {c : Value} (hr : (execOp a.eval o).run P X.w = .ok (.value c) w') (hv : Good X h' v c w') : OpTo ro P o a X.w (Good X h' v) :=
  OpTo.value hd hr hv

theorem ofD_inv {x : D} {S : Prop} {news : List AObj} {mm : Option (Nat × AObj)} (h : ofD x = some (S, v, news, mm)) : x = some (S, v, news) ∧ mm = none := by
  unfold ofD at h; split at h
  · cases h; exact ⟨rfl, rfl⟩
  · cases h
theorem ofH_inv {x : Option (Prop × Nat × AObj)} {S : Prop} {news : List AObj} {mm : Option (Nat × AObj)} (h : ofH x = some (S, v, news, mm)) : ∃ id o, x = some (S, id, o) ∧ v = .und ∧ news = [] ∧ mm = some (id, o) := by
  unfold ofH at h; split at h
  · cases h; exact ⟨_, _, rfl, rfl, rfl, rfl⟩
  · cases h
theorem ofM_inv {x : Option (Prop × AV × Nat × AObj)} {S : Prop} {news : List AObj} {mm : Option (Nat × AObj)} (h : ofM x = some (S, v, news, mm)) : ∃ id o, x = some (S, v, id, o) ∧ news = [] ∧ mm = some (id, o) := by
  unfold ofM at h; split at h
  · cases h; exact ⟨_, _, rfl, rfl, rfl⟩
  · cases h

theorem parts_map {t : List (Nat × AV)} {f : Nat → TyD} : ∀ {l : List (Nat × Operand)}, (∀ p ∈ l, ∀ d, VV X (ev t d p.2) (a.eval p.2)) →
    Parts X (l.map fun p => (p.1, ev t (f p.1) p.2)) (l.map fun p => (p.1, a.eval p.2))
  | [], _ => .nil
  | p :: r, hv => .cons _ _ _ _ _ (hv p (by simp) _) (parts_map fun q hq => hv q (by simp [hq]))

theorem vvs_map {α : Type} {f : α → AV} {g : α → Value} : ∀ {l : List α}, (∀ p ∈ l, VV X (f p) (g p)) → VVs X (l.map f) (l.map g)
  | [], _ => rfl
  | p :: r, hv => ⟨_, _, rfl, hv p (by simp), vvs_map fun q hq => hv q (by simp [hq])⟩

theorem zip_fst {α β : Type} : ∀ {l : List α} {r : List β}, l.length = r.length → (l.zip r).map (·.1) = l
  | [], _, _ => by simp
  | a :: l, [], h => by simp at h
  | a :: l, b :: r, h => by simp only [List.zip_cons_cons, List.map_cons]; rw [zip_fst (by simpa using h)]

theorem opt_to {t : List (Nat × AV)} {x : Option Operand} {d : TyD} (hv : ∀ y, x = some y → VV X (ev t d y) (a.eval y)) : OptR X (x.map (ev t d)) (x.map a.eval) := by
  cases x with
  | none => trivial
  | some y => exact hv y rfl

theorem VVs2 {x y : AV} {cs : List Value} (h : VVs X [x, y] cs) : ∃ c d, cs = [c, d] ∧ VV X x c ∧ VV X y d := by
  simp only [VVs] at h
  obtain ⟨c, d, rfl, h1, e, f, rfl, h2, rfl⟩ := h
  exact ⟨c, e, rfl, h1, h2⟩
theorem VVs1 {x : AV} {cs : List Value} (h : VVs X [x] cs) : ∃ c, cs = [c] ∧ VV X x c := by
  simp only [VVs] at h
  obtain ⟨c, d, rfl, h1, rfl⟩ := h
  exact ⟨c, rfl, h1⟩

theorem slice_kinds {d : TyD} {e : LK} (h : TyD.slice e = d) : d.slc = true := by subst h; rfl

theorem appended_sl (H : HR X) {U : TypeId} {e2 : LK} (hU : tyB P (.slice e2) U = true) {x : AV} {cx : Value} (hx : VV X x cx) :
    ∀ (e : LK) (ys : Lst), x.list X.h = some ys → ys.kind = e → Appended P X e U ys cx := by
  intro e ys hl hk
  obtain ⟨E2, hu, _⟩ := ty_slice hU
  exact .sl E2 ys cx hu hk (list_lies H hx hl)

theorem exd_news {xs ys : Lst} {n : Nat} {S : Prop} {news : List AObj} (h : appendExD xs ys n = some (S, v, news)) : news ≠ [] := by
  rintro rfl
  unfold appendExD at h
  cases hz : xs.app ys with
  | none => simp [hz, someD] at h
  | some zs => simp [hz, someD] at h

theorem append_news {d : TyD} {h : List AObj} {x y : AV} {n : Nat} {S : Prop} {news : List AObj} (hd : appendD d h x y n = some (S, v, news)) : news ≠ [] := by
  have fin : ∀ xs, (someD (y.list h) fun ys => appendExD xs ys n) = some (S, v, news) → news ≠ [] := by
    intro xs h1
    cases hl : y.list h with
    | none => simp [hl, someD] at h1
    | some ys => simp only [hl, someD] at h1; exact exd_news h1
  unfold appendD at hd
  split at hd
  · exact fin _ (whenD_inv hd).2
  · rename_i id ver off len
    have := (whenD_inv hd).2
    cases hl : listO (h[id]?) ver off len with
    | none => simp [hl, someD] at this
    | some xs =>
      simp only [hl] at this
      exact fin xs this
  · cases hd

theorem append_to (H : HR X) {c : Ctx} (C : CtxOk P c) {T U ty : TypeId} {s : Nat} {x y : AV} {cx cy : Value} {S : Prop} {news : List AObj} {mm : Option (Nat × AObj)} (hx : VV X x cx) (hy : VV X y cy)
    (hdead : ∀ j, j < news.length → X.h[s + j]? = some .dead) (h : appendDR (c.tab T) (c.tab U) x y X.h s = some (S, v, news, mm)) (hS : S) (hs0 : X.h[s]? = some .dead ∨ news = []) :
    ∃ r w', (Builtin.append_ #[T, U] ty #[cx, cy]).run P X.w = .ok r w' ∧ Good X (mutate (place X.h s news) mm) v r w' := by
  have core : ∀ (y : AV) (hA : ∀ e ys, c.tab T = .slice e → y.list X.h = some ys → ys.kind = e → Appended P X e U ys cy) {S : Prop}, S → ofDM (appendD (c.tab T) X.h x y s) (appendH (c.tab T) X.h x y) = some (S, v, news, mm) →
      ∃ r w', (Builtin.append_ #[T, U] ty #[cx, cy]).run P X.w = .ok r w' ∧ Good X (mutate (place X.h s news) mm) v r w' := by
    intro y hA S hS h
    unfold ofDM at h
    split at h
    · rename_i d hd
      obtain ⟨S', v', news'⟩ := d
      simp only [ofD, Option.some.injEq, Prod.mk.injEq] at h
      obtain ⟨rfl, rfl, rfl, rfl⟩ := h
      have hn : news' ≠ [] := append_news hd
      have hd0 : X.h[s]? = some .dead := hs0.resolve_right hn
      obtain ⟨o, r, w', rfl, hr, hg⟩ := appendD_sound (ty := ty) H (C.tab T) hx hd0 hA hd hS
      exact ⟨r, w', hr, by simpa [mutate, place] using hg⟩
    · obtain ⟨id, o, h1, rfl, rfl⟩ := ofM_inv h
      obtain ⟨r, w', hr, hg⟩ := appendH_sound (ty := ty) H (C.tab T) hx hA h1 hS
      exact ⟨r, w', hr, by simpa [mutate, place] using hg⟩
  unfold appendDR at h
  split at h
  · rename_i e2 he2
    have hU := C.tab U
    rw [he2] at hU
    exact core y (fun e ys _ hl hk => appended_sl H hU hy e ys hl hk) hS h
  · rename_i k hk2
    split at h
    · rename_i m
      unfold andDR at h
      split at h
      · rename_i S1 r1 h1
        cases h
        obtain rfl : cy = .int .i64 m := hy
        have hU := C.tab U
        rw [hk2] at hU
        refine core (zeroSl (c.tab T) m) (fun e ys he hl hke => ?_) hS.2 h1
        rw [he] at hl
        simp only [zeroSl, AV.list, Option.some.injEq] at hl
        subst hl
        exact .zs k .i64 m (ty_int hU) hS.1.1 hS.1.2
      · cases h
    · cases h
  · cases h

theorem builtin_to (H : HR X) {c : Ctx} (C : CtxOk P c) {b : Builtin} {Ts : List TypeId} {ty : TypeId} {s : Nat} {args : List AV} {cs : List Value} {S : Prop} {news : List AObj} {mm : Option (Nat × AObj)}
    (consts : Array Bool) (hv : VVs X args cs) (hdead : ∀ j, j < news.length → X.h[s + j]? = some .dead) (h : builtinDR b (Ts.map c.tab) args X.h s = some (S, v, news, mm)) (hS : S) :
    ∃ r w', (builtin b Ts.toArray ty consts cs.toArray).run P X.w = .ok (.value r) w' ∧ Good X (mutate (place X.h s news) mm) v r w' := by
  have pu : ∀ {sm : Sem Value}, Pure P sm X v → news = [] → mm = none → (∀ w, (builtin b Ts.toArray ty consts cs.toArray).run P w = (sm.run P w).andThen fun r w' => .ok (.value r) w') →
      ∃ r w', (builtin b Ts.toArray ty consts cs.toArray).run P X.w = .ok (.value r) w' ∧ Good X (mutate (place X.h s news) mm) v r w' := by
    rintro sm ⟨r, hr, hvv⟩ rfl rfl hb
    refine ⟨r, X.w, by rw [hb, hr]; rfl, ?_⟩
    simpa [mutate, place] using Good.same H rfl hvv
  have ma : ∀ {sm : Sem Value}, (∃ r w', sm.run P X.w = .ok r w' ∧ Good X (mutate (place X.h s news) mm) v r w') → (∀ w, (builtin b Ts.toArray ty consts cs.toArray).run P w = (sm.run P w).andThen fun r w' => .ok (.value r) w') →
      ∃ r w', (builtin b Ts.toArray ty consts cs.toArray).run P X.w = .ok (.value r) w' ∧ Good X (mutate (place X.h s news) mm) v r w' := by
    rintro sm ⟨r, w', hr, hg⟩ hb
    exact ⟨r, w', by rw [hb, hr]; rfl, hg⟩
  have one : ∀ {d : TyD}, Ts.map c.tab = [d] → ∃ T, Ts = [T] ∧ d = c.tab T := by
    intro d hd
    cases Ts with
    | nil => cases hd
    | cons T r => cases r with
      | nil => cases hd; exact ⟨T, rfl, rfl⟩
      | cons _ _ => cases hd
  have two : ∀ {d e : TyD}, Ts.map c.tab = [d, e] → ∃ T U, Ts = [T, U] ∧ d = c.tab T ∧ e = c.tab U := by
    intro d e hd
    cases Ts with
    | nil => cases hd
    | cons T r => cases r with
      | nil => cases hd
      | cons U q => cases q with
        | nil => cases hd; exact ⟨T, U, rfl, rfl, rfl⟩
        | cons _ _ => cases hd
  unfold builtinDR at h
  split at h
  · rename_i d x hds
    obtain ⟨T, rfl, rfl⟩ := one hds
    obtain ⟨cx, rfl, hx⟩ := VVs1 hv
    obtain ⟨hh, rfl⟩ := ofD_inv h
    obtain ⟨rfl, hp⟩ := len_sound (C.tab T) hx ty hh hS
    exact pu hp rfl rfl fun w => by simp [builtin]
  · obtain ⟨c1, c2, rfl, h1, h2⟩ := VVs2 hv
    obtain ⟨hh, rfl⟩ := ofD_inv h
    obtain ⟨rfl, hp⟩ := min_sound h1 h2 Ts.toArray ty hh hS
    exact pu hp rfl rfl fun w => by simp [builtin]
  · obtain ⟨c1, c2, rfl, h1, h2⟩ := VVs2 hv
    obtain ⟨hh, rfl⟩ := ofD_inv h
    obtain ⟨rfl, hp⟩ := max_sound h1 h2 Ts.toArray ty hh hS
    exact pu hp rfl rfl fun w => by simp [builtin]
  · rename_i d e x y hds
    obtain ⟨T, U, rfl, rfl, rfl⟩ := two hds
    obtain ⟨c1, c2, rfl, h1, h2⟩ := VVs2 hv
    refine ma (append_to (ty := ty) H C h1 h2 hdead h hS ?_) fun w => by simp [builtin]
    cases news with
    | nil => exact .inr rfl
    | cons o r => exact .inl (by simpa using hdead 0 (by simp))
  · rename_i d e x y hds
    obtain ⟨T, U, rfl, rfl, rfl⟩ := two hds
    obtain ⟨c1, c2, rfl, h1, h2⟩ := VVs2 hv
    obtain ⟨id, o, hh, rfl, rfl⟩ := ofM_inv h
    refine ma (sm := Builtin.copy_ #[T, U] ty #[c1, c2]) ?_ fun w => by simp [builtin]
    · obtain ⟨r, w', hr, hg⟩ := copy_sound (U := U) (ty := ty) H (C.tab T) h1 h2 hh hS
      exact ⟨r, w', hr, by simpa [mutate, place] using hg⟩
  · rename_i d x hds
    obtain ⟨T, rfl, rfl⟩ := one hds
    obtain ⟨cx, rfl, hx⟩ := VVs1 hv
    obtain ⟨id, o, hh, rfl, rfl⟩ := ofM_inv h
    refine ma (sm := Builtin.clear_ #[T] ty #[cx]) ?_ fun w => by simp [builtin]
    · obtain ⟨r, w', hr, hg⟩ := clear_sound (ty := ty) H (C.tab T) hx hh hS
      exact ⟨r, w', hr, by simpa [mutate, place] using hg⟩
  · cases h

theorem callArgs_inv {c : Ctx} {f : FuncId} {vs : Option (List AV)} {r : Bool × D} (h : callArgs c f vs = some r) : ∃ us, vs = some us ∧ AV.closeds us = true ∧ c.envF f us = some r := by
  unfold callArgs at h
  split at h
  · rename_i us
    split at h
    · rename_i hc; exact ⟨us, rfl, hc, h⟩
    · cases h
  · cases h

theorem call_run {cl : Call} (ho : o.op = .call cl) {fo : Operand} (hcal : cl.callee = .value fo) {fn : FuncId} {ca cd : Array Value} (hf : a.eval fo = .func (.func fn) ca cd) (w : World) :
    (execOp a.eval o).run P w = (callFunc fn (ca ++ cl.args.map a.eval ++ cd)).run P w := by
  simp [execOp, ho, resolve, hcal, hf, Deferred.ofValue, invoke]

/-- a call by contract -/
theorem call_to (H : HR X) {c : Ctx} (C : CtxOk P c) {f : AV} {args : List AV} {s : Nat} {S : Prop} {news : List AObj} {mm : Option (Nat × AObj)} {cl : Call} (ho : o.op = .call cl) {fo : Operand}
    (hcal : cl.callee = .value fo) (hf : VV X f (a.eval fo)) (hv : VVs X args (cl.args.map a.eval).toList)
    (hdead : ∀ j, j < news.length → X.h[s + j]? = some .dead) (h : callFD c s f args X.h = some (S, v, news, mm)) (hS : S) : OpTo ro P o a X.w (Good X (mutate (place X.h s news) mm) v) := by
  have hnd : ∀ c, o.op ≠ .defer c := by rw [ho]; intro c h; cases h
  unfold callFD at h
  split at h
  rotate_left
  · cases h
  rename_i q fn first cap
  simp only [VV] at hf
  obtain ⟨ca, cd, hfe, hf1, hf2⟩ := hf
  have hargs : VVs X (first ++ args ++ cap) ((ca ++ cl.args.map a.eval ++ cd).toList) := by
    rw [Array.toList_append, Array.toList_append]
    exact VVs_append (VVs_append hf1 hv) hf2
  have hrun := call_run (P := P) ho hcal hfe X.w
  unfold callDR at h
  split at h
  · rename_i S' v' news' e
    simp only [Option.some.injEq, Prod.mk.injEq] at h
    obtain ⟨rfl, rfl, rfl, rfl⟩ := h
    obtain ⟨us, e1, e2, e3⟩ := callArgs_inv e
    have hc := C.fok.spec _ _ _ _ _ _ e3 hS ⟨fun b => b < X.w.heap.size, [], [], X.w⟩ (ca ++ cl.args.map a.eval ++ cd) rfl rfl (hr0 fun _ h => h)
      (args0 H H.old (fun id _ b hb => (H.live id b hb).1) e1 e2 hargs)
    refine OpTo.enter hnd (by rw [hrun, C.fok.enter _ _ _ e3]) (hc.mono fun e w'' he => ?_)
    obtain ⟨r, rfl, Y, rfl, HY, E, rfl, hnew, hsh, HY0, hvv⟩ := he
    obtain ⟨Z1, Z2, Z3⟩ := after_new H E HY0 hdead hnew
    exact ⟨⟨X.S, place X.μ s Y.μ, place X.h s Y.h, Y.w⟩, rfl, rfl, Z1, Z2, shV Z3 hsh hvv⟩
  · rename_i S' v' news' e
    split at h
    · rename_i hns
      simp only [Option.some.injEq, Prod.mk.injEq] at h
      obtain ⟨rfl, rfl, rfl, rfl⟩ := h
      obtain ⟨us, e1, e2, e3⟩ := callArgs_inv e
      have hc := C.fok.spec _ _ _ _ _ _ e3 hS ⟨fun b => b < X.w.heap.size, [], [], X.w⟩ (ca ++ cl.args.map a.eval ++ cd) rfl rfl (hr0 fun _ h => h)
        (args0 H H.old (fun id _ b hb => (H.live id b hb).1) e1 e2 hargs)
      refine OpTo.enter hnd (by rw [hrun, C.fok.enter _ _ _ e3]) (hc.mono fun e w'' he => ?_)
      obtain ⟨r, rfl, Y, rfl, HY, E, hcl, hvv⟩ := he
      obtain ⟨Z1, Z2⟩ := after_plain H E
      exact ⟨⟨X.S, X.μ, X.h, Y.w⟩, rfl, rfl, Z1, Z2, plainV hns hvv⟩
    split at h
    · rename_i hrows
      simp only [Option.some.injEq, Prod.mk.injEq] at h
      obtain ⟨rfl, rfl, rfl, rfl⟩ := h
      obtain ⟨us, e1, e2, e3⟩ := callArgs_inv e
      have hc := C.fok.spec _ _ _ _ _ _ e3 hS ⟨X.S, [], [], X.w⟩ (ca ++ cl.args.map a.eval ++ cd) rfl rfl (hr0 H.old)
        (args0 H (fun _ h => h) (by rw [hrows]; intro id hid; cases hid) e1 e2 hargs)
      refine OpTo.enter hnd (by rw [hrun, C.fok.enter _ _ _ e3]) (hc.mono fun e w'' he => ?_)
      obtain ⟨r, rfl, Y, rfl, HY, E, hcl, hvv⟩ := he
      obtain ⟨Z1, Z2⟩ := after_val H E HY
      exact ⟨⟨Y.S, X.μ, X.h, Y.w⟩, rfl, rfl, Z1, Z2, closedV (X := Y) (Y := ⟨Y.S, X.μ, X.h, Y.w⟩) (fun _ h => h) (fun _ _ => rfl) hcl hvv⟩
    · cases h
  · cases h

theorem fitD_inv {d : TyD} {x : D} {S : Prop} {news : List AObj} (h : fitD d x = some (S, v, news)) : ∃ S', x = some (S', v, news) ∧ S = (S' ∧ fitP d v) := by
  unfold fitD at h
  split at h
  · cases h; exact ⟨_, rfl, rfl⟩
  · cases h

/-- what an operation is told to come to, it comes to -/
theorem opD_sound (H : HR X) {c : Ctx} (C : CtxOk P c) {t : List (Nat × AV)} {s : Nat} {S : Prop} {news : List AObj} {mm : Option (Nat × AObj)}
    (hv : ∀ x, x ∈ o.op.operands.toList → ∀ d, VV X (ev t d x) (a.eval x)) (hdead : ∀ j, j < news.length → X.h[s + j]? = some .dead)
    (h : opD c s t X.h o.op o.type = some (S, v, news, mm)) (hS : S) : OpTo ro P o a X.w (Good X (mutate (place X.h s news) mm) v) := by
  cases ho : o.op with
  | move x =>
    rw [ho] at h hv
    simp only [opD, Option.some.injEq, Prod.mk.injEq] at h
    obtain ⟨rfl, rfl, rfl, rfl⟩ := h
    exact pure_to (s := pure (a.eval x)) H (by rw [ho]; intro c h; cases h) (by simp [execOp, ho]) ⟨_, rfl, hv x (by simp [Op.operands]) _⟩
  | assign x =>
    rw [ho] at h hv
    simp only [opD, Option.some.injEq, Prod.mk.injEq] at h
    obtain ⟨rfl, rfl, rfl, rfl⟩ := h
    exact pure_to (s := pure (a.eval x)) H (by rw [ho]; intro c h; cases h) (by simp [execOp, ho]) ⟨_, rfl, hv x (by simp [Op.operands]) _⟩
  | pick cd x y =>
    rw [ho] at h hv
    obtain ⟨hh, rfl⟩ := ofD_inv h
    obtain ⟨rfl, hp⟩ := pick_sound (P := P) (hv cd (by simp [Op.operands]) _) (hv x (by simp [Op.operands]) _) (hv y (by simp [Op.operands]) _) hh hS
    exact pure_to H (by rw [ho]; intro c h; cases h) (by simp [execOp, ho]) hp
  | alloc T =>
    rw [ho] at h hv
    simp only [opD, boxDR, Option.some.injEq, Prod.mk.injEq] at h
    obtain ⟨rfl, rfl, rfl, rfl⟩ := h
    exact made_to (by rw [ho]; intro c h; cases h) (by simp only [execOp, ho]) (alloc_sound H (C.tab T) (by simpa using hdead 0 (by simp)) hS)
  | box T x =>
    rw [ho] at h hv
    simp only [opD, boxDR, Option.some.injEq, Prod.mk.injEq] at h
    obtain ⟨rfl, rfl, rfl, rfl⟩ := h
    exact made_to (by rw [ho]; intro c h; cases h) (by simp only [execOp, ho]) (boxop_sound (T := T) H (by simpa using hdead 0 (by simp)) hS (hv x (by simp [Op.operands]) _))
  | build T parts =>
    rw [ho] at h hv
    obtain ⟨hh, rfl⟩ := ofD_inv h
    obtain ⟨rfl, hp⟩ := build_sound (P := P) (cps := parts.map fun p => (p.1, a.eval p.2)) (C.tab T)
      (by rw [Array.toList_map]; exact parts_map (f := fun i => (c.tab T).field i) fun p hp d => hv p.2 (by simp only [Op.operands]; exact List.mem_map_of_mem hp) d) hh hS
    exact pure_to H (by rw [ho]; intro c h; cases h) (by simp only [execOp, ho]) hp
  | buildSlice T n parts =>
    rw [ho] at h hv
    obtain ⟨hh, rfl⟩ := ofD_inv h
    have hd0 : X.h[s]? = some .dead := by
      refine hdead 0 ?_
      unfold buildSliceD at hh
      split at hh
      · unfold someD at hh; split at hh
        · cases hh; simp
        · cases hh
      · cases hh
    obtain ⟨o', r, w', rfl, hr, hg⟩ := buildSlice_sound (P := P) (cps := parts.map fun p => (p.1, a.eval p.2)) H (C.tab T) hd0
      (by rw [Array.toList_map]; exact parts_map (f := fun _ => .other) fun p hp d => hv p.2 (by simp only [Op.operands]; exact List.mem_map_of_mem hp) d) hh hS
    exact made_to (by rw [ho]; intro c h; cases h) (by simp only [execOp, ho]) ⟨r, w', hr, hg⟩
  | load T x =>
    rw [ho] at h hv
    obtain ⟨hh, rfl⟩ := ofD_inv h
    obtain ⟨S', h1, rfl⟩ := fitD_inv hh
    obtain ⟨rfl, hl⟩ := loadD_sound H h1 hS.1 (hv x (by simp [Op.operands]) .ptr)
    obtain ⟨r, hr, hvv⟩ := run_loadAt (P := P) (C.tab T) hS.2 hl
    exact made_to (s := Instr.loadAt T (a.eval x)) (by rw [ho]; intro c h; cases h) (by simp only [execOp, ho]) ⟨r, X.w, hr, Good.same H rfl hvv⟩
  | store T x y =>
    rw [ho] at h hv
    obtain ⟨id, o', hh, rfl, rfl, rfl⟩ := ofH_inv h
    obtain ⟨w', hr, hg⟩ := store_sound H (C.tab T) (hv x (by simp [Op.operands]) .ptr) (hv y (by simp [Op.operands]) _) hh hS
    exact unit_to (by rw [ho]; intro c h; cases h) (by simp only [execOp, ho]) ⟨w', hr, by simpa [mutate, place] using hg⟩
  | nilCheck x =>
    rw [ho] at h hv
    obtain ⟨hh, rfl⟩ := ofD_inv h
    obtain ⟨rfl, r, hr, hvv⟩ := nilCheck_sound ho rfl (hv x (by simp [Op.operands]) .ptr) hh hS
    exact OpTo.value (by rw [ho]; intro c h; cases h) hr (Good.same H rfl hvv)
  | binOp op xt x y b =>
    rw [ho] at h hv
    have core : ofD (binD (c.tab xt) op (ev t (c.tab xt) x) (ev t (c.tab xt) y)) = some (S, v, news, mm) → OpTo ro P o a X.w (Good X (mutate (place X.h s news) mm) v) := by
      intro h
      obtain ⟨hh, rfl⟩ := ofD_inv h
      obtain ⟨rfl, hp⟩ := bin_sound (P := P) (ox := x) (oy := y) (C.tab xt) (C.sh xt) (hv x (by simp [Op.operands]) _) (hv y (by simp [Op.operands]) _) hh hS
      exact pure_to H (by rw [ho]; intro c h; cases h) (by simp only [execOp, ho]) hp
    simp only [opD] at h
    split at h
    · cases h
    · exact core h
  | unOp op xt x =>
    rw [ho] at h hv
    obtain ⟨hh, rfl⟩ := ofD_inv h
    obtain ⟨rfl, hp⟩ := un_sound (P := P) (hv x (by simp [Op.operands]) _) hh hS
    exact pure_to H (by rw [ho]; intro c h; cases h) (by simp only [execOp, ho]) hp
  | convert s d x =>
    rw [ho] at h hv
    obtain ⟨hh, rfl⟩ := ofD_inv h
    obtain ⟨rfl, hp⟩ := conv_sound (P := P) H (C.tab s) (C.tab d) (hv x (by simp [Op.operands]) _) hh hS
    exact pure_to H (by rw [ho]; intro c h; cases h) (by simp only [execOp, ho]) hp
  | makeInterface T x =>
    rw [ho] at h hv
    simp only [opD, whenDR] at h
    split at h
    · rename_i hk
      simp only [Option.some.injEq, Prod.mk.injEq] at h
      obtain ⟨rfl, rfl, rfl, rfl⟩ := h
      exact pure_to H (by rw [ho]; intro c h; cases h) (by simp only [execOp, ho])
        (makeIface_sound (P := P) (C.tab T) hk (hv x (by simp [Op.operands]) _) (by intro ts e; rw [e] at hk; cases hk))
    · cases h
  | makeFunc fn first cap =>
    rw [ho] at h hv
    simp only [opD, Option.some.injEq, Prod.mk.injEq] at h
    obtain ⟨rfl, rfl, rfl, rfl⟩ := h
    refine pure_to (s := Instr.makeFunc fn (first.map a.eval) (cap.map a.eval)) H (by rw [ho]; intro c h; cases h) (by simp only [execOp, ho]) ⟨.func fn (first.map a.eval) (cap.map a.eval), rfl, ?_⟩
    simp only [VV]
    refine ⟨_, _, rfl, ?_, ?_⟩
    · rw [Array.toList_map]; exact vvs_map fun p hp => hv p (by simp only [Op.operands, Array.toList_append]; exact List.mem_append_left _ hp) _
    · rw [Array.toList_map]; exact vvs_map fun p hp => hv p (by simp only [Op.operands, Array.toList_append]; exact List.mem_append_right _ hp) _
  | makeMap T r =>
    rw [ho] at h hv
    cases r with
    | some _ => cases h
    | none =>
      obtain ⟨hh, rfl⟩ := ofD_inv h
      have hd0 : X.h[s]? = some .dead := by
        refine hdead 0 ?_
        unfold makeMapD at hh
        split at hh <;> first | (cases hh; done) | (cases hh; simp)
      obtain ⟨o', r, w', rfl, hr, hg⟩ := makeMap_sound (P := P) (T := T) H hd0 hh hS
      exact made_to (by rw [ho]; intro c h; cases h) (by simp only [execOp, ho]; rfl) ⟨r, w', hr, hg⟩
  | makeSlice T l cp =>
    rw [ho] at h hv
    obtain ⟨hh, rfl⟩ := ofD_inv h
    have hd0 : X.h[s]? = some .dead := by
      refine hdead 0 ?_
      unfold makeSliceD at hh
      split at hh <;> cases hh
      simp
    obtain ⟨o', r, w', rfl, hr, hg⟩ := makeSlice_sound (P := P) H (C.tab T) hd0 (hv l (by simp [Op.operands]) _) (hv cp (by simp [Op.operands]) _) hh hS
    exact made_to (by rw [ho]; intro c h; cases h) (by simp only [execOp, ho]) ⟨r, w', hr, hg⟩
  | slice T x lo hi mx =>
    rw [ho] at h hv
    obtain ⟨hh, rfl⟩ := ofD_inv h
    obtain ⟨rfl, hp⟩ := slice_sound (P := P) H (C.tab T) (hv x (by simp [Op.operands]) _)
      (opt_to (x := lo) (a := a) fun y hy => hv y (by subst hy; simp [Op.operands]) _) (opt_to (x := hi) (a := a) fun y hy => hv y (by subst hy; simp [Op.operands]) _) (opt_to (x := mx) (a := a) fun y hy => hv y (by subst hy; simp [Op.operands]) _) hh hS
    exact pure_to H (by rw [ho]; intro c h; cases h) (by simp only [execOp, ho]) hp
  | fieldAddr T x f =>
    rw [ho] at h hv
    obtain ⟨hh, rfl⟩ := ofD_inv h
    obtain ⟨rfl, hp⟩ := fieldAddr_sound (P := P) (C.tab T) (hv x (by simp [Op.operands]) _) hh hS
    exact pure_to H (by rw [ho]; intro c h; cases h) (by simp only [execOp, ho]) hp
  | field T x f =>
    rw [ho] at h hv
    obtain ⟨hh, rfl⟩ := ofD_inv h
    obtain ⟨rfl, hp⟩ := field_sound (P := P) (C.tab T) (hv x (by simp [Op.operands]) _) hh hS
    exact pure_to H (by rw [ho]; intro c h; cases h) (by simp only [execOp, ho]) hp
  | indexAddr T x i =>
    rw [ho] at h hv
    obtain ⟨hh, rfl⟩ := ofD_inv h
    obtain ⟨rfl, hp⟩ := indexAddr_sound (P := P) H (C.tab T) (hv x (by simp [Op.operands]) _) (hv i (by simp [Op.operands]) _) hh hS
    exact pure_to H (by rw [ho]; intro c h; cases h) (by simp only [execOp, ho]) hp
  | index T x i =>
    rw [ho] at h hv
    obtain ⟨hh, rfl⟩ := ofD_inv h
    obtain ⟨rfl, hp⟩ := index_sound (P := P) (C.tab T) (hv x (by simp [Op.operands]) _) (hv i (by simp [Op.operands]) _) hh hS
    exact pure_to H (by rw [ho]; intro c h; cases h) (by simp only [execOp, ho]) hp
  | lookup T x k b =>
    rw [ho] at h hv
    cases b with
    | true => cases h
    | false =>
      obtain ⟨hh, rfl⟩ := ofD_inv h
      obtain ⟨rfl, hp⟩ := lookup_sound (P := P) H (C.tab T) (hv x (by simp [Op.operands]) _) (hv k (by simp [Op.operands]) _) hh hS
      exact pure_to H (by rw [ho]; intro c h; cases h) (by simp only [execOp, ho]) hp
  | mapUpdate T x k y =>
    rw [ho] at h hv
    obtain ⟨id, o', hh, rfl, rfl, rfl⟩ := ofH_inv h
    obtain ⟨w', hr, hg⟩ := mapSet_sound (P := P) H (C.tab T) (hv x (by simp [Op.operands]) _) (hv k (by simp [Op.operands]) _) (hv y (by simp [Op.operands]) _) hh hS
    exact unit_to (by rw [ho]; intro c h; cases h) (by simp only [execOp, ho]) ⟨w', hr, by simpa [mutate, place] using hg⟩
  | insert T x k y =>
    rw [ho] at h hv
    obtain ⟨id, o', hh, rfl, rfl, rfl⟩ := ofH_inv h
    obtain ⟨w', hr, hg⟩ := mapSet_sound (P := P) H (C.tab T) (hv x (by simp [Op.operands]) _) (hv k (by simp [Op.operands]) _) (hv y (by simp [Op.operands]) _) hh hS
    exact unit_to (by rw [ho]; intro c h; cases h) (by simp only [execOp, ho]) ⟨w', hr, by simpa [mutate, place] using hg⟩
  | extract x i =>
    rw [ho] at h hv
    obtain ⟨hh, rfl⟩ := ofD_inv h
    obtain ⟨rfl, hp⟩ := extract_sound (P := P) (hv x (by simp [Op.operands]) _) hh hS
    exact pure_to H (by rw [ho]; intro c h; cases h) (by simp only [execOp, ho]) hp
  | call cl =>
    rw [ho] at h hv
    have hop := call_operands cl
    simp only [opD] at h
    split at h
    · cases h
    rename_i hl
    have hl := Nat.eq_of_beq_eq_true hl
    have hargs : VVs X (argVs c t cl) (cl.args.map a.eval).toList := by
      have := vvs_map (X := X) (f := fun p : Operand × TypeId => ev t (c.tab p.2) p.1) (g := fun p => a.eval p.1) (l := cl.args.toList.zip cl.argTypes.toList)
        fun p hp => hv p.1 (hop.1 p.1 (List.of_mem_zip hp).1) _
      rw [Array.toList_map]
      have e : (cl.args.toList.zip cl.argTypes.toList).map (fun p => a.eval p.1) = cl.args.toList.map a.eval := by
        rw [← zip_fst hl, List.map_map]
        congr 1
        rw [zip_fst hl]
      rw [← e]; exact this
    split at h
    · rename_i b hc
      obtain ⟨r, w', hr, hg⟩ := builtin_to (ty := o.type) H C (cl.args.map fun | .const _ => true | _ => false) hargs hdead h hS
      refine OpTo.value (by rw [ho]; intro c h; cases h) ?_ hg
      simp only [Array.toArray_toList] at hr
      simp only [execOp, ho, resolve, hc, Sem.run_bind, Sem.run_pure, Result.andThen_ok, invoke]
      exact hr
    · rename_i f hc
      exact call_to H C ho hc (hv f (hop.2 f hc) _) hargs hdead h hS
    · cases h
  | _ => rw [ho] at h; cases h
end

end Lam
