/- Functions: the condition of a function's code makes a contract. -/
import Derived.Test.YtpjnljbfnppmlaaLR32
set_option linter.unnecessarySimpa false
set_option linter.unusedSectionVars false
set_option linter.unusedSimpArgs false
set_option linter.unusedVariables false
namespace Lam
open Go

/-- what the tables and contracts must be -/
structure OkI (P : Program) (c : Ctx) : Prop where
  ok : CtxOk P c
  s : SOk P c.envS
  plain : c.drawn = false
  mixed : P.follows .mixedOrders = true
  i : ISOk P c.iterS

/-- and no call of yield -/
structure Ok (P : Program) (c : Ctx) : Prop extends OkI P c where
  y : ∀ l args h K, ¬ c.envY l args h K

theorem yok_none {P : Program} {X : Cx} {l : Nat} {Y : Con} (h : ∀ args h K, ¬ Y args h K) : YOk P X l Y := fun _ _ _ hw => (h _ _ _ hw).elim

section
variable {P : Program} {c : Ctx}

theorem init_get {X : Cx} : ∀ {i : Nat} {vs : List AV} {cs : List Value} (j : Nat), VVs X vs cs → i ≤ j → VV X (get (init i vs) j) ((cs[j - i]?).getD undef)
  | _, [], _, _, _, _ => trivial
  | i, v :: r, cs, j, h, hj => by
    simp only [VVs] at h
    obtain ⟨c, d, rfl, h1, h2⟩ := h
    have e : get (init i (v :: r)) j = if i = j then v else get (init (i + 1) r) j := get_put (init (i + 1) r) i j v
    rw [e]
    by_cases hij : i = j
    · subst hij; simp [h1]
    · rw [if_neg hij]
      have := init_get (i := i + 1) j h2 (by omega)
      have e2 : j - i = (j - (i + 1)) + 1 := by omega
      rw [e2, List.getElem?_cons_succ]
      exact this

theorem init_SR {X : Cx} {vs : List AV} {cs : Array Value} {n ds : Nat} (h : VVs X vs cs.toList) (hn : vs.length ≤ n) : SR n ds X (init 0 vs) { tmps := cs ++ Array.replicate (n - cs.size) undef, defers := [] } := by
  have hl : cs.size = vs.length := by rw [← Array.length_toList]; exact VVs_length h
  refine ⟨fun i => ?_, by simp; omega, trivial⟩
  have := init_get (i := 0) i h (Nat.zero_le _)
  simp only [Nat.sub_zero] at this
  have e : (cs ++ Array.replicate (n - cs.size) undef).getD i undef = (cs.toList[i]?).getD undef := by
    rw [Array.getD_eq_getD_getElem?, Array.getElem?_append, Array.getElem?_toList]
    by_cases hi : i < cs.size
    · rw [if_pos hi]
    · have h2 : cs[i]? = none := Array.getElem?_eq_none (by omega)
      rw [if_neg hi, h2, Array.getElem?_replicate]
      split <;> rfl
  rw [e]; exact this

theorem loadRes_inv {x : D} {K : AV → Prop} (h : loadRes x K) : ∃ S v news, x = some (S, v, news) ∧ S ∧ K v := by
  unfold loadRes at h
  split at h
  · exact ⟨_, _, _, rfl, h.1, h.2⟩
  · exact h.elim

def resV (tmps : Array Value) : ResultVar → Sem Value
  | .tmp t => pure (tmps.getD t undef)
  | .cell a t => do loadVar t (← asAddr (tmps.getD a undef))

theorem results_eq (fn : Func) (tmps : Array Value) : results fn tmps = (do
    let vs ← fn.results.mapM (resV tmps)
    pure (if h : vs.size = 1 then vs[0] else .tuple vs)) := rfl

theorem res_sound (tab : TabOk P c.tab) {X : Cx} (H : HR X) {n ds : Nat} {t : List (Nat × AV)} {a : Act} (R : SR n ds X t a) : ∀ (l : List ResultVar) {K : List AV → Prop}, resW c X.h t l K →
    ∃ vs cs, K vs ∧ VVs X vs cs ∧ (l.mapM (resV a.tmps)).run P X.w = .ok cs X.w
  | [], K, h => ⟨[], [], h, rfl, rfl⟩
  | .tmp i :: r, K, h => by
    simp only [resW] at h
    obtain ⟨vs, cs, hK, hv, hr⟩ := res_sound tab H R r h
    refine ⟨_, a.tmps.getD i undef :: cs, hK, ⟨_, _, rfl, R.v i, hv⟩, ?_⟩
    have h1 : (resV a.tmps (.tmp i)).run P X.w = .ok (a.tmps.getD i undef) X.w := rfl
    simp only [List.mapM_cons, Sem.run_bind, h1, Sem.run_pure, Result.andThen_ok, hr]
  | .cell b T :: r, K, h => by
    simp only [resW] at h
    obtain ⟨S, v, news, e, hS, h⟩ := loadRes_inv h
    obtain ⟨S', e', rfl⟩ := fitD_inv e
    obtain ⟨vs, cs, hK, hv, hr⟩ := res_sound tab H R r h
    obtain ⟨_, hl⟩ := loadD_sound H e' hS.1 (R.v b)
    obtain ⟨q, hq, hqv⟩ := run_loadAt (P := P) (tab T) hS.2 hl
    obtain ⟨ad, cs', hp, _⟩ := hl
    refine ⟨_, q :: cs, hK, ⟨_, _, rfl, hqv, hv⟩, ?_⟩
    have hq' : (loadVar T ad).run P X.w = .ok q X.w := by
      rw [hp] at hq
      simpa [Instr.loadAt, Instr.sureAddr] using hq
    have h1 : (resV a.tmps (.cell b T)).run P X.w = .ok q X.w := by
      simp only [resV, hp, asAddr, Sem.run_bind, Sem.run_pure, Result.andThen_ok, hq']
    simp only [List.mapM_cons, Sem.run_bind, h1, Sem.run_pure, Result.andThen_ok, hr]

theorem tupled_VV {X : Cx} {vs : List AV} {cs : List Value} (h : VVs X vs cs) : VV X (tupled vs) (if h : cs.toArray.size = 1 then cs.toArray[0] else .tuple cs.toArray) := by
  have hl := VVs_length h
  cases vs with
  | nil => simp only [VVs] at h; subst h; exact ⟨#[], by simp, by simp [VVs]⟩
  | cons v r =>
    cases r with
    | nil =>
      obtain ⟨q, rfl, hv⟩ := VVs1 h
      simpa [tupled] using hv
    | cons u r' =>
      have : ¬ cs.toArray.size = 1 := by simp only [List.size_toArray]; rw [hl]; simp
      rw [dif_neg this]
      show VV X (.tup (v :: u :: r')) _
      exact ⟨cs.toArray, rfl, by simpa using h⟩

/-- the marks among the deferred calls go by: their blocks are shut -/
theorem leave_marks {F : Fence} {nf : Nat} {fn : Func} {tmps : Array Value} {R : Ending → World → Prop} {u : FrameMode} (hu : u ≠ .run) {X0 : Cx} : ∀ (ds : List Deferred) (Y : Cx), DefOk X0.w.heap.size Y ds → HR Y → Ext X0 Y →
    (∀ Z : Cx, HR Z → Ext X0 Z → ExtV Y Z → Z.h = Y.h → LeavesIn F nf P fn tmps R [] u Z.w) → LeavesInM F nf P fn tmps R ds u Y.w
  | [], Y, _, H, E, h => h Y H E (Ext.refl Y).v rfl
  | d :: ds, Y, ⟨⟨r, e, h1, h2, h3, h4, h5⟩, hd⟩, H, E, h => by
    refine ⟨hu, .inl ⟨r, _, by rw [e], run_takeDeferred h2, ?_⟩⟩
    let Z : Cx := ⟨Y.S, Y.μ, Y.h, Y.w.putObj r (.deferred none)⟩
    have hz : ∀ b, b ≠ r → Z.w.heap[b]? = Y.w.heap[b]? := fun b hb => World.putObj_heap_other hb
    have hsz : Z.w.heap.size = Y.w.heap.size := World.putObj_size
    have EV : ExtV Y Z := by
      refine ⟨fun _ h => h, fun b hb => hz b (by rintro rfl; exact h4 hb), fun i k ver l hl => ⟨k, ver, l, hl, Nat.le_refl _, fun _ => ⟨rfl, rfl, fun b hb => ⟨hb, ?_⟩⟩, fun h => ⟨h, rfl⟩⟩, fun i b q1 q2 => ⟨q2, q1⟩⟩
      have : b ≠ r := by rintro rfl; exact h3 i hb
      unfold blockSize; rw [hz b this]; exact Nat.le_refl _
    have HZ : HR Z := by
      refine ⟨H.len, fun i o ho => ?_, H.apart, fun i b hb => ?_, fun b hb => by rw [hsz]; exact H.old b hb⟩
      · obtain ⟨b, hb, hor⟩ := H.obj i o ho
        exact ⟨b, hb, hor.extV EV fun k hk => hz k (by rintro rfl; subst hk; exact h3 i hb)⟩
      · rw [hsz]; exact H.live i b hb
    have EZ : Ext X0 Z := by
      refine ⟨E.S, fun b hb => ?_, E.new, E.muinv, fun b hb hn => ?_, by rw [hsz]; exact E.grow, fun i k ver l hl => ?_, E.oth, E.env⟩
      · rw [hz b (by rintro rfl; exact h4 (E.S _ hb))]; exact E.cells b hb
      · rw [hz b (by omega)]; exact E.keep b hb hn
      · obtain ⟨k', ver', l', q1, q2, q3, q4⟩ := E.row i k ver l hl
        refine ⟨k', ver', l', q1, q2, fun e => ?_, q4⟩
        obtain ⟨p1, p2, p3⟩ := q3 e
        refine ⟨p1, p2, fun b hb => ?_⟩
        obtain ⟨p4, p5⟩ := p3 b hb
        refine ⟨p4, ?_⟩
        have : b ≠ r := by rintro rfl; exact h3 i p4
        have e2 : blockSize Z.w b = blockSize Y.w b := by unfold blockSize; rw [hz b this]
        rw [e2]; exact p5
    have hd' : DefOk X0.w.heap.size Z ds := by
      clear h
      induction ds with
      | nil => trivial
      | cons d' ds ih =>
        obtain ⟨⟨r', e', q1, q2, q3, q4, q5⟩, hd2⟩ := hd
        have hne : r' ≠ r := by
          rintro rfl
          exact h5 d' (by simp) (by rw [e'])
        exact ⟨⟨r', e', q1, by rw [hz r' hne]; exact q2, q3, q4, q5⟩, ih (fun d hd => h5 d (by simp [hd])) hd2⟩
    exact leave_marks hu ds Z hd' HZ EZ fun V HV EV1 EV2 hh => h V HV EV1 (EV.trans EV2) (by rw [hh])

/-- a function's contract -/
theorem fun_soundY (O : OkI P c) {f : FuncId} {fn : Func} (hf : P.funcs[f]? = some fn) {vs : List AV} {cs : Array Value} {X : Cx} (YY : ∀ l, YOk P X l (c.envY l)) (H : HR X) (hv : VVs X vs cs.toList) {K : AOut → List AObj → Prop} (hw : funW c fn vs X.h K) :
    Calls P f cs X.w fun e w' => ∃ Y ao, Y.w = w' ∧ HR Y ∧ Ext X Y ∧ OutR Y ao e ∧ K ao Y.h := by
  unfold funW at hw
  split at hw
  · exact hw.elim
  rename_i body hb
  split at hw
  rotate_left
  · exact hw.elim
  rename_i hok
  simp only [Bool.and_eq_true] at hok
  have hlen : vs.length ≤ fn.ntmps := Nat.le_of_ble_eq_true hok.2
  have fin : ∀ (Y : Cx) (t : List (Nat × AV)) (a : Act), HR Y → Ext X Y → SR fn.ntmps X.w.heap.size Y t a → resW c Y.h t fn.results.toList (fun vs => K (.ret (tupled vs)) Y.h) →
      LeavesInM (FW none) 0 P fn a.tmps (fun e w' => ∃ Y ao, Y.w = w' ∧ HR Y ∧ Ext X Y ∧ OutR Y ao e ∧ K ao Y.h) a.defers .returning Y.w := by
    intro Y t a HY EY R hr
    refine leave_marks (by simp) a.defers Y R.defers HY EY fun Z HZ EZ EV hZh => ?_
    have RZ : SR fn.ntmps X.w.heap.size Z t { tmps := a.tmps, defers := [] } := ⟨fun i => (R.v i).extV EV, R.size, trivial⟩
    rw [← hZh] at hr
    obtain ⟨us, ds, hK, hus, hrun⟩ := res_sound O.ok.tab HZ RZ _ hr
    refine ⟨(if h : ds.toArray.size = 1 then ds.toArray[0] else .tuple ds.toArray), ?_, Z, .ret (tupled us), rfl, HZ, EZ, ⟨_, rfl, tupled_VV hus⟩, hK⟩
    rw [results_eq, Array.mapM_eq_mapM_toList]
    simp only [Sem.run_bind, Sem.run_map, hrun, Result.andThen_ok, Sem.run_pure]
  have hwp := W_sound (n := fn.ntmps) (ds := X.w.heap.size) O.mixed (B := X) (Nat.le_refl _) body none c O.ok O.s O.plain YY O.i (.inl rfl) 0 none _ (init 0 vs) X _ (bodyPostM (FW none) 0 P fn fun e w' => ∃ Y ao, Y.w = w' ∧ HR Y ∧ Ext X Y ∧ OutR Y ao e ∧ K ao Y.h) body hok.1 (Ext.refl X) H (init_SR hv hlen) hw
    (fun Y ae t' e a' HY EY hx hk => by
      cases ae with
      | normal => obtain ⟨rfl, R⟩ := hx; exact fin Y t' a' HY EY R hk
      | ret => obtain ⟨rfl, R⟩ := hx; exact fin Y t' a' HY EY R hk
      | exit i => exact hk.elim
      | goto i => exact hk.elim
      | pan v =>
        obtain ⟨⟨q, rfl, hvq⟩, h1, h2⟩ := hx
        exact leave_marks (by simp) a'.defers Y h2 HY EY fun Z HZ EZ EV hZh => ⟨Z, .pan v, rfl, HZ, EZ, ⟨q, rfl, hvq.extV EV⟩, by rw [hZh]; exact hk⟩) rfl
  exact (callsIn_wide (n := 0)).1 (callsIn_of_wp_marks (F := FW none) hf hb trivial hwp)

theorem fun_sound (O : Ok P c) {f : FuncId} {fn : Func} (hf : P.funcs[f]? = some fn) {vs : List AV} {cs : Array Value} {X : Cx} (H : HR X) (hv : VVs X vs cs.toList) {K : AOut → List AObj → Prop} (hw : funW c fn vs X.h K) :
    Calls P f cs X.w fun e w' => ∃ Y ao, Y.w = w' ∧ HR Y ∧ Ext X Y ∧ OutR Y ao e ∧ K ao Y.h :=
  fun_soundY O.toOkI hf (fun l => yok_none (O.y l)) H hv hw

end

end Lam
