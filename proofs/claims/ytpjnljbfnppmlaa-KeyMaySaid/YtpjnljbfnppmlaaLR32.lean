/- The condition of a piece of code holds of the model. -/
import Derived.Test.YtpjnljbfnppmlaaLR31
import Derived.RangeFuncRecord
set_option linter.unnecessarySimpa false
set_option linter.unusedSectionVars false
set_option linter.unusedSimpArgs false
set_option linter.unusedVariables false
namespace Lam
open Go

/-- ways out, as they are told -/
def ExR (n : Nat) (ds : Nat) (Y : Cx) : AExit → List (Nat × AV) → Exit → Act → Prop
  | .normal, t, e, a => e = .normal ∧ SR n ds Y t a
  | .exit i, t, e, a => e = .exit i ∧ SR n ds Y t a
  | .goto l, t, e, a => e = .goto l ∧ SR n ds Y t a
  | .ret, t, e, a => e = .ret ∧ SR n ds Y t a
  | .pan v, _, e, a => (∃ q, e = .panic [{ v := q, recovered := false }] ∧ VV Y v q) ∧ n ≤ a.tmps.size ∧ DefOk ds Y a.defers

def QOk (n : Nat) (ds : Nat) (X : Cx) (κ : AExit → St → Prop) (Q : Exit → Act → World → Prop) : Prop :=
  ∀ Y ae t' e a', HR Y → Ext X Y → ExR n ds Y ae t' e a' → κ ae ⟨t', Y.h⟩ → Q e a' Y.w

theorem QOk.ext {n : Nat} {ds : Nat} {X Y : Cx} {κ : AExit → St → Prop} {Q : Exit → Act → World → Prop} (h : QOk n ds X κ Q) (E : Ext X Y) : QOk n ds Y κ Q :=
  fun Z ae t' e a' HZ EZ hx hk => h Z ae t' e a' HZ (E.trans EZ) hx hk

/-- where the run goes on -/
def From (g : Option Nat) (code rest : Code) : Prop :=
  match g with
  | none => rest = code
  | some l => findLabel code l = some rest

section
variable {ro : Option Nat} {P : Program} {n : Nat} {ds : Nat} {c : Ctx}

theorem seq_Q {X : Cx} {κ : AExit → St → Prop} {Q : Exit → Act → World → Prop} {b : Code} {nf : Nat}
    (hQ : QOk n ds X κ Q)
    (hb : ∀ Y t a, HR Y → Ext X Y → SR n ds Y t a → W c none b ⟨t, Y.h⟩ κ → b.wpIn (FW ro) nf P Q a Y.w) :
    QOk n ds X (fun e st' => match e with
      | .normal => W c none b st' κ
      | e => κ e st') (Exit.then (b.wpIn (FW ro) nf P Q) Q) := by
  intro Y ae t' e a' HY EY hx hk
  cases ae with
  | normal => obtain ⟨rfl, R⟩ := hx; exact hb Y t' a' HY EY R hk
  | exit i => obtain ⟨rfl, R⟩ := hx; exact hQ Y (.exit i) t' _ a' HY EY ⟨rfl, R⟩ hk
  | goto i => obtain ⟨rfl, R⟩ := hx; exact hQ Y (.goto i) t' _ a' HY EY ⟨rfl, R⟩ hk
  | ret => obtain ⟨rfl, R⟩ := hx; exact hQ Y .ret t' _ a' HY EY ⟨rfl, R⟩ hk
  | pan v => obtain ⟨⟨q, rfl, hv⟩, h1, h2⟩ := hx; exact hQ Y (.pan v) t' _ a' HY EY ⟨⟨q, rfl, hv⟩, h1, h2⟩ hk


/-! ### Ranges over functions -/
theorem putAll_SR {X : Cx} {n : Nat} : ∀ (L : List Nat) (vs : List AV) (cs : List Value) (t : List (Nat × AV)) (tmps : Array Value), VVs X vs cs → vs.length = L.length → (∀ i ∈ L, i < n) → SR n ds X t { tmps := tmps, defers := [] } →
    SR n ds X (putAll L vs t) { tmps := (L.zip cs).foldl (fun tmps p => tmps.setIfInBounds p.1 p.2) tmps, defers := [] }
  | [], vs, cs, t, tmps, _, _, _, R => by cases vs <;> simpa [putAll] using R
  | i :: L, [], cs, t, tmps, _, hl, _, R => by simp at hl
  | i :: L, v :: vs, cs, t, tmps, hv, hl, hn, R => by
    simp only [VVs] at hv
    obtain ⟨c, d, rfl, h1, h2⟩ := hv
    have := putAll_SR L vs d (put i v t) (tmps.setIfInBounds i c) h2 (by simpa using hl) (fun j hj => hn j (by simp [hj])) (R.put (hn i (by simp)) h1)
    simpa [putAll] using this

theorem argsW_inv : ∀ {L : List Nat} {vs : List AV} {t : List (Nat × AV)} {A : List (Nat × AV) → Prop}, argsW L vs t A → vs.length = L.length ∧ A (putAll L vs t)
  | [], [], t, A, h => ⟨rfl, h⟩
  | [], _ :: _, t, A, h => h.elim
  | i :: L, [], t, A, h => h.elim
  | i :: L, v :: vs, t, A, h => by
    obtain ⟨h1, h2⟩ := argsW_inv (L := L) (vs := vs) (t := put i v t) (A := A) h
    exact ⟨by simp [h1], h2⟩

theorem promO_inv {o : AObj} {l : Lst} (h : promO o = some l) : o = .box (.sl true l) ∧ l.len = 0 := by
  unfold promO at h
  split at h
  · split at h
    · unfold promL at h
      split at h
      · rename_i e; cases h; exact ⟨rfl, e⟩
      · cases h
    · cases h
  · cases h

theorem promB_sound : ∀ (todo : List AObj) (i : Nat) {X : Cx}, HR X → (∀ j o, todo[j]? = some o → X.h[i + j]? = some o) → ∃ Y : Cx, Y.w = X.w ∧ HR Y ∧ Ext X Y ∧ Y.h = promB todo i X.h
  | [], i, X, H, _ => ⟨X, rfl, H, Ext.refl X, rfl⟩
  | o :: r, i, X, H, ht => by
    have h0 := ht 0 o rfl
    rw [Nat.add_zero] at h0
    have hi : i < X.h.length := (List.getElem?_eq_some_iff.1 h0).1
    simp only [promB]
    cases ho : promO o with
    | none =>
      obtain ⟨Y, h1, h2, h3, h4⟩ := promB_sound r (i + 1) H fun j q hj => by
        have := ht (j + 1) q hj
        rwa [show i + (j + 1) = i + 1 + j by omega] at this
      exact ⟨Y, h1, h2, h3, h4⟩
    | some l =>
      obtain ⟨rfl, hl⟩ := promO_inv ho
      obtain ⟨b, hb, b', cs, elem, rfl, hc, hvc⟩ := H.obj _ _ h0
      simp only [VC] at hvc
      obtain ⟨c, hcs, hsl⟩ := hvc
      obtain ⟨Y, hw, HY, EY, hh, hv⟩ := prom_one H hl hsl
      have hiY : Y.h[i]? = some (.box (.sl true l)) := by rw [hh, List.getElem?_append_left hi]; exact h0
      have hmY : Y.μ[i]? = some (some b') := (EY.oth i b' (by rw [h0]; rfl) hb).1
      let Z : Cx := ⟨Y.S, Y.μ.set i (some b'), Y.h.set i (.box (.sref false X.h.length 0 0 0)), Y.w⟩
      have U : Upd Y Z i (.box (.sl true l)) (.box (.sref false X.h.length 0 0 0)) (some b') (some b') := by
        refine ⟨rfl, rfl, rfl, hiY, hmY, fun k _ _ => rfl, Nat.le_refl _, .inl rfl, fun k hk hs => ?_, fun k ver l h => (by cases h), fun _ => .inr ⟨rfl, rfl⟩, SameEnv.refl _⟩
        cases hk
        obtain ⟨ver', l', e⟩ := (HY.live i b' hmY).2 hs
        rw [hiY] at e; cases e
      have EZ := U.ext HY
      have HZ : HR Z := U.hr HY fun E => ⟨b', cs, elem, rfl, by show Y.w.heap[b']? = _; rw [hw]; exact hc, by
        simp only [VC]
        exact ⟨c, hcs, VV.ext E (v := .sref false X.h.length 0 0 0) hv⟩⟩
      have hZh : Z.h = promS i (some l) X.h := by
        show Y.h.set i (.box (.sref false X.h.length 0 0 0)) = (X.h ++ [AObj.row .own 0 l]).set i (.box (.sref false X.h.length 0 0 0))
        rw [hh]
      obtain ⟨V, h1, h2, h3, h4⟩ := promB_sound r (i + 1) HZ fun j q hj => by
        have h5 := ht (j + 1) q hj
        rw [show i + (j + 1) = i + 1 + j by omega] at h5
        have h6 : i + 1 + j < X.h.length := (List.getElem?_eq_some_iff.1 h5).1
        show (Y.h.set i (.box (.sref false X.h.length 0 0 0)))[i + 1 + j]? = some q
        rw [List.getElem?_set, if_neg (by omega), hh, List.getElem?_append_left h6]
        exact h5
      exact ⟨V, by rw [h1]; exact hw, h2, EY.trans (EZ.trans h3), by rw [h4, hZh]⟩

/-- the loop's record is laid, and the block for its rounds' deferred calls -/
theorem lp_new {X : Cx} (H : HR X) {r : Loop} (hr : r = { r with state := .ready, pending := none }) :
    ∃ Y : Cx, Y.w = (X.w.alloc (.deferred (some []))).alloc (.loop r) ∧ HR Y ∧ Ext X Y ∧ Y.h = X.h ++ [.lp .ready none r] ∧ Y.μ[X.h.length]? = some (some (X.w.heap.size + 1)) ∧
      (∀ i : Nat, Y.μ[i]? ≠ some (some X.w.heap.size)) ∧ ¬ Y.S X.w.heap.size := by
  obtain ⟨H1, E1⟩ := pad_ok H 1
  have hsz : ((X.w.alloc (.deferred (some []))).alloc (.loop r)).heap = (X.w.heap.push (.deferred (some []))).push (.loop r) := rfl
  have hml : (X.pad 1).μ.length = X.h.length + 1 := by simp [Cx.pad, H.len]
  let Y : Cx := ⟨X.S, (X.pad 1).μ.set X.h.length (some (X.w.heap.size + 1)), (X.pad 1).h.set X.h.length (.lp .ready none r), (X.w.alloc (.deferred (some []))).alloc (.loop r)⟩
  have old : ∀ k, k < X.w.heap.size → Y.w.heap[k]? = X.w.heap[k]? := fun k hk => by
    show ((X.w.heap.push (.deferred (some []))).push (.loop r))[k]? = _
    rw [Array.getElem?_push, Array.getElem?_push, if_neg (by simp; omega), if_neg (by omega)]
  have U : Upd (X.pad 1) Y X.h.length .dead (.lp .ready none r) none (some (X.w.heap.size + 1)) := by
    refine ⟨rfl, rfl, rfl, ?_, ?_, fun k hk _ => old k hk, ?_, .inr ⟨_, rfl, ?_, ?_⟩, fun k h => (by cases h), fun k ver l h => (by cases h), fun _ => .inl rfl, ⟨rfl, rfl, rfl⟩⟩
    · rw [pad_h, if_neg (by omega), if_pos (by omega)]
    · rw [pad_mu H.len, if_neg (by omega), if_pos (by omega)]
    · show X.w.heap.size ≤ ((X.w.heap.push (.deferred (some []))).push (.loop r)).size
      simp; omega
    · show X.w.heap.size ≤ X.w.heap.size + 1; omega
    · show X.w.heap.size + 1 < ((X.w.heap.push (.deferred (some []))).push (.loop r)).size
      simp
  have hnew : Y.w.heap[X.w.heap.size + 1]? = some (.loop r) := by
    show ((X.w.heap.push (.deferred (some []))).push (.loop r))[X.w.heap.size + 1]? = _
    rw [Array.getElem?_push, if_pos (by simp)]
  have HY : HR Y := U.hr H1 fun _ => ⟨_, rfl, by rw [hnew, ← hr]⟩
  have hμ : Y.μ[X.h.length]? = some (some (X.w.heap.size + 1)) := by
    show ((X.pad 1).μ.set X.h.length (some (X.w.heap.size + 1)))[X.h.length]? = _
    rw [List.getElem?_set, if_pos rfl, if_pos (by omega)]
  refine ⟨Y, rfl, HY, E1.trans (U.ext H1), ?_, hμ, fun i hi => ?_, fun hs => ?_⟩
  · show (X.h ++ List.replicate 1 AObj.dead).set X.h.length (.lp .ready none r) = _
    simp
  · by_cases e : X.h.length = i
    · subst e; rw [hμ] at hi; simp at hi
    · have : (X.pad 1).μ[i]? = some (some X.w.heap.size) := by
        have h2 : ((X.pad 1).μ.set X.h.length (some (X.w.heap.size + 1)))[i]? = some (some X.w.heap.size) := hi
        rwa [List.getElem?_set, if_neg e] at h2
      have := (H1.live _ _ this).1
      exact absurd this (Nat.lt_irrefl _)
  · exact absurd (H.old _ hs) (Nat.lt_irrefl _)

/-- the loop's record changes -/
theorem lp_set {Y : Cx} (H : HR Y) {id l : Nat} {st : LoopState} {pd : Option Code} {r : Loop} (hh : Y.h[id]? = some (.lp st pd r)) (hm : Y.μ[id]? = some (some l)) (st' : LoopState) (pd' : Option Code) :
    Y.w.heap[l]? = some (.loop { r with state := st, pending := pd }) ∧ ∃ Z : Cx, Z.w = Y.w.putObj l (.loop { r with state := st', pending := pd' }) ∧ Z.h = Y.h.set id (.lp st' pd' r) ∧ HR Z ∧ Ext Y Z := by
  obtain ⟨b, hb, b', rfl, hl⟩ := H.obj _ _ hh
  rw [hm] at hb
  obtain rfl : l = b' := by simpa using hb
  have hlt : l < Y.w.heap.size := (Array.getElem?_eq_some_iff.1 hl).1
  let Z : Cx := ⟨Y.S, Y.μ.set id (some l), Y.h.set id (.lp st' pd' r), Y.w.putObj l (.loop { r with state := st', pending := pd' })⟩
  have U : Upd Y Z id (.lp st pd r) (.lp st' pd' r) (some l) (some l) := by
    refine ⟨rfl, rfl, rfl, hh, hm, fun k _ hk => ?_, ?_, .inl rfl, fun k hk hs => ?_, fun k ver l h => (by cases h), fun _ => .inr ⟨rfl, rfl⟩, ⟨rfl, rfl, rfl⟩⟩
    · exact World.putObj_heap_other fun e => hk (by rw [e])
    · show _ ≤ (Y.w.putObj l _).heap.size
      simp
    · cases hk
      obtain ⟨ver, l', e⟩ := (H.live _ _ hm).2 hs
      rw [hh] at e; cases e
  exact ⟨hl, Z, rfl, rfl, U.hr H fun _ => ⟨_, rfl, World.putObj_heap_same hlt⟩, U.ext H⟩

/-- the loop's record is where it was laid -/
theorem lp_mu {X Y : Cx} (E : Ext X Y) {id l : Nat} {o : AObj} (hh : X.h[id]? = some o) (ho : rowO (some o) = none) (hm : X.μ[id]? = some (some l)) : Y.μ[id]? = some (some l) :=
  (E.oth id l (by rw [hh]; exact ho) hm).1

theorem round_ok {X1 : Cx} {t : List (Nat × AV)} {r : Loop} {id l : Nat} {o : AObj} (hps : ∀ i ∈ r.params.toList, i < n) (ho : X1.h[id]? = some o) (hro : rowO (some o) = none) (hmu : X1.μ[id]? = some (some l))
    (R1 : SR n ds X1 t { tmps := r.tmps, defers := [] })
    (ihA : ∀ nf κ t X a Q, Ext X1 X → HR X → SR n ds X t a → W c none r.assign ⟨t, X.h⟩ κ → QOk n ds X κ Q → r.assign.wpIn (FW (some l)) nf P Q a X.w)
    (ihB : ∀ nf κ t X a Q, Ext X1 X → HR X → SR n ds X t a → W c none r.body ⟨t, X.h⟩ κ → QOk n ds X κ Q → r.body.wpIn (FW (some l)) nf P Q a X.w) :
    YOk P X1 l (fun args h' K => roundW r.params.toList (fun t h k => W c none r.assign ⟨t, h⟩ fun e s => k e s.t s.h) (fun t h k => W c none r.body ⟨t, h⟩ fun e s => k e s.t s.h) t id r args h' K) := by
  intro args h K hw X cs EX H hXh hv
  subst hXh
  obtain ⟨hlp, hw⟩ := hw
  obtain ⟨hlen, hw⟩ := argsW_inv hw
  have hm := lp_mu EX ho hro hmu
  obtain ⟨hl, _⟩ := lp_set H hlp hm .busy none
  have hsz : cs.size = r.params.size := by
    have := VVs_length hv
    rw [Array.length_toList, hlen, Array.length_toList] at this
    exact this
  refine ⟨_, _, _, _, run_yield hl hsz, fun nf => roundIn_of_wpIn trivial ?_⟩
  have R0 := putAll_SR (ds := ds) r.params.toList args cs.toList t r.tmps hv hlen hps (R1.ext EX)
  have hz : ((r.params.zip cs).foldl (fun tmps (t, a) => tmps.setIfInBounds t a) r.tmps) = (r.params.toList.zip cs.toList).foldl (fun tmps p => tmps.setIfInBounds p.1 p.2) r.tmps := by
    rw [← Array.foldl_toList, Array.toList_zip]
  rw [← hz] at R0
  refine ihA nf _ _ X _ _ EX H R0 hw fun Y ae t' e a' HY EY hx hk => ?_
  cases ae with
  | exit i => exact hk.elim
  | goto i => exact hk.elim
  | ret => exact hk.elim
  | pan v => exact hk.elim
  | normal =>
    obtain ⟨rfl, RY⟩ := hx
    obtain ⟨hlpY, hk⟩ := hk
    have hmY := lp_mu (EX.trans EY) ho hro hmu
    obtain ⟨hlY, Z, hZw, hZh, HZ, EZ⟩ := lp_set HY hlpY hmY .busy none
    refine ⟨_, run_beginRound hlY rfl, ?_⟩
    have e1 : Y.w.putObj l (.loop { { r with state := .ready, pending := none } with state := .busy }) = Z.w := hZw.symm
    rw [e1]
    rw [← hZh] at hk
    refine ihB nf _ t' Z a' _ ((EX.trans EY).trans EZ) HZ (RY.ext EZ) hk fun V ae t'' e a'' HV EV hx hk => ?_
    have EXV : Ext X V := (EY.trans EZ).trans EV
    have hmV := lp_mu (EX.trans EXV) ho hro hmu
    have fin : ∀ (jump : Option Code) (st : LoopState), (if jump.isNone then LoopState.ready else LoopState.done) = st → lpIs V.h id .busy r ∧ K (.ret (.bool jump.isNone)) (V.h.set id (.lp st jump r)) →
        ∃ v w', (Instr.endRound l jump).run P V.w = .ok v w' ∧ ∃ Y ao, Y.w = w' ∧ HR Y ∧ Ext X Y ∧ OutR Y ao (.returned v) ∧ K ao Y.h := by
      rintro jump st hst ⟨hlpV, hk⟩
      obtain ⟨hlV, U, hUw, hUh, HU, EU⟩ := lp_set HV hlpV hmV st jump
      refine ⟨_, _, run_endRound jump hlV, U, .ret (.bool jump.isNone), ?_, HU, EXV.trans EU, ⟨_, rfl, rfl⟩, ?_⟩
      · rw [hUw, ← hst]
      · rw [hUh]; exact hk
    cases ae with
    | normal => obtain ⟨rfl, _⟩ := hx; exact fin none .ready rfl hk
    | ret => obtain ⟨rfl, _⟩ := hx; exact fin (some .ret) .done rfl hk
    | exit i => obtain ⟨rfl, _⟩ := hx; exact fin (some (.exit i)) .done rfl hk
    | goto i => obtain ⟨rfl, _⟩ := hx; exact fin (some (.goto i)) .done rfl hk
    | pan v => exact hk.elim

theorem noI_is : ISOk P c.noI.iterS := ⟨fun _ _ _ _ _ _ h => h.elim⟩

theorem W_sound (hm : P.follows .mixedOrders = true) {B : Cx} (hbase : ds ≤ B.w.heap.size) :
    ∀ (code : Code) (ro : Option Nat) (c : Ctx) (_ : CtxOk P c) (_ : SOk P c.envS) (_ : c.drawn = false) (_ : ∀ l, YOk P B l (c.envY l)) (_ : ISOk P c.iterS) (_ : ro = none ∨ ∀ f Y a h K, ¬ c.iterS f Y a h K) (nf : Nat) (g : Option Nat) (κ : AExit → St → Prop) (t : List (Nat × AV)) (X : Cx) (a : Act) (Q : Exit → Act → World → Prop) (rest : Code),
      dstOk n code = true → Ext B X → HR X → SR n ds X t a → W c g code ⟨t, X.h⟩ κ → QOk n ds X κ Q → From g code rest → rest.wpIn (FW ro) nf P Q a X.w := by
  intro code
  induction code with
  | skip =>
    intro ro c C CS hdr YY CI hI nf g κ t X a Q rest hd EB H R hw hQ hf
    cases g with
    | none => obtain rfl := hf; exact wpIn_skip (hQ X .normal t _ a H (Ext.refl X) ⟨rfl, R⟩ (by simpa only [W] using hw))
    | some l => simp only [W] at hw
  | ret =>
    intro ro c C CS hdr YY CI hI nf g κ t X a Q rest hd EB H R hw hQ hf
    cases g with
    | none => obtain rfl := hf; exact wpIn_ret (hQ X .ret t _ a H (Ext.refl X) ⟨rfl, R⟩ (by simpa only [W] using hw))
    | some l => simp only [W] at hw
  | exit id =>
    intro ro c C CS hdr YY CI hI nf g κ t X a Q rest hd EB H R hw hQ hf
    cases g with
    | none => obtain rfl := hf; exact wpIn_exit (hQ X (.exit id) t _ a H (Ext.refl X) ⟨rfl, R⟩ (by simpa only [W] using hw))
    | some l => simp only [W] at hw
  | goto l =>
    intro ro c C CS hdr YY CI hI nf g κ t X a Q rest hd EB H R hw hQ hf
    cases g with
    | none => obtain rfl := hf; exact wpIn_goto (hQ X (.goto l) t _ a H (Ext.refl X) ⟨rfl, R⟩ (by simpa only [W] using hw))
    | some l => simp only [W] at hw
  | label l =>
    intro ro c C CS hdr YY CI hI nf g κ t X a Q rest hd EB H R hw hQ hf
    cases g with
    | none => obtain rfl := hf; exact wpIn_label (hQ X .normal t _ a H (Ext.refl X) ⟨rfl, R⟩ (by simpa only [W] using hw))
    | some l' =>
      simp only [From, findLabel] at hf
      split at hf
      · cases hf
        exact wpIn_skip (hQ X .normal t _ a H (Ext.refl X) ⟨rfl, R⟩ (by simpa only [W] using hw))
      · cases hf
  | refuse w => intro ro c C CS hdr YY CI hI nf g κ t X a Q rest hd EB H R hw hQ hf; cases g <;> simp only [W] at hw
  | rangeFunc f ps x y ihx ihy =>
    intro ro c C CS hdr YY CI hI nf g κ t X a Q rest hd EB H R hw hQ hf
    cases g with
    | some l => simp only [W] at hw
    | none =>
      obtain rfl := hf
      simp only [W] at hw
      simp only [dstOk, Bool.and_eq_true] at hd
      obtain ⟨⟨hps, hdx⟩, hdy⟩ := hd
      have hps : ∀ i ∈ ps.toList, i < n := by
        intro i hi
        have := List.all_eq_true.1 hps i hi
        simpa using this
      unfold rangeW rangeX rangeY at hw
      split at hw
      rotate_left
      · exact hw.elim
      rename_i q gf cap hg
      obtain ⟨X', hXw, H', E', hXh⟩ := promB_sound X.h 0 H (fun j o h => by rw [Nat.zero_add]; exact h)
      rw [← hXh] at hw
      rw [← hXw]
      replace EB := EB.trans E'
      replace R := R.ext E'
      replace hQ := hQ.ext E'
      replace H := H'
      have hro : ro = none := by
        rcases hI with h | h
        · exact h
        · exact (h _ _ _ _ _ (hw 0 default)).elim
      subst hro
      have hv := R.ev f .func
      rw [hg] at hv
      simp only [VV] at hv
      obtain ⟨ca, cd, hfe, hf1, hf2⟩ := hv
      simp only [VVs, Array.toList_eq_nil_iff] at hf1
      subst hf1
      refine wpIn_rangeFunc fun fn _ => ?_
      obtain ⟨X1, hX1w, H1, E1, hX1h, hX1m, hnm, hnS⟩ := lp_new H (r := { state := .ready, pending := none, fn, tmps := a.tmps, params := ps, assign := x, body := y, defers := X'.w.heap.size }) rfl
      have hlp : X1.h[X'.h.length]? = some (.lp .ready none { state := .ready, pending := none, fn, tmps := a.tmps, params := ps, assign := x, body := y, defers := X'.w.heap.size }) := by
        rw [hX1h]; simp
      have R1 := R.ext E1
      have EB1 := EB.trans E1
      have hyok : YOk P X1 (X'.w.heap.size + 1) _ := round_ok (c := c.noI) (n := n) (ds := ds) (t := t) (r := { state := .ready, pending := none, fn, tmps := a.tmps, params := ps, assign := x, body := y, defers := X'.w.heap.size }) hps hlp rfl hX1m
        ⟨R1.v, R1.size, trivial⟩
        (fun nf κ t X a Q E H R hw hQ => ihx (some (_ + 1)) c.noI ⟨C.tab, C.sh, C.fok⟩ CS hdr YY noI_is (.inr fun _ _ _ _ _ h => h) nf none κ t X a Q x hdx (EB1.trans E) H R hw hQ rfl)
        (fun nf κ t X a Q E H R hw hQ => ihy (some (_ + 1)) c.noI ⟨C.tab, C.sh, C.fok⟩ CS hdr YY noI_is (.inr fun _ _ _ _ _ h => h) nf none κ t X a Q y hdy (EB1.trans E) H R hw hQ rfl)
      have hw := hw (X'.w.heap.size + 1) { state := .ready, pending := none, fn, tmps := a.tmps, params := ps, assign := x, body := y, defers := X'.w.heap.size }
      rw [← hX1h] at hw
      have hargs : VVs X1 (.fn (.yield (X'.w.heap.size + 1)) [] [] :: cap) ((#[] ++ #[Value.func (.yield (X'.w.heap.size + 1)) #[] #[]]) ++ cd).toList := by
        have h1 : VVs X1 [AV.fn (.yield (X'.w.heap.size + 1)) [] []] [Value.func (.yield (X'.w.heap.size + 1)) #[] #[]] := ⟨_, _, rfl, ⟨#[], #[], rfl, rfl, rfl⟩, rfl⟩
        have := VVs_append h1 ((VVs.ext E1) hf2)
        simpa using this
      obtain ⟨hent, hcall⟩ := CI.spec _ _ _ _ _ _ hw X1 _ hyok H1 rfl hargs
      have hres : (resolve a.eval (rangeCall f (X'.w.heap.size + 1)) 0).run P X1.w = .ok { target := .fn (.func gf) cd, args := #[] ++ #[Value.func (.yield (X'.w.heap.size + 1)) #[] #[]] } X1.w := by
        simp only [resolve, rangeCall, hfe, Deferred.ofValue, Sem.run_pure, List.map_toArray, List.map_cons, List.map_nil]
        rfl
      refine ⟨X'.w.heap.size + 1, [{ target := .collected X'.w.heap.size, args := #[] }], X1.w, _, _, gf, _, _, by rw [run_enterLoop_outer, hX1w], hres, fun _ _ => trivial, hent _, fun h => (by cases h), CallsIn.mono (calls_In hcall) fun e w'' he => ?_⟩
      obtain ⟨Y, ao, rfl, HY, EY, hor, hk⟩ := he
      have hdef : DefOk ds Y ({ target := .collected X'.w.heap.size, args := #[] } :: a.defers) := by
        refine DefOk.ext EY ⟨⟨_, rfl, Nat.le_trans hbase EB.grow, ?_, hnm, hnS, fun d' hd' e => ?_⟩, R1.defers⟩
        · rw [hX1w]
          show ((X'.w.heap.push (.deferred (some []))).push _)[X'.w.heap.size]? = _
          rw [Array.getElem?_push, Array.getElem?_push, if_neg (by simp), if_pos rfl]
        · have := R.defers.lt d' hd' e
          exact absurd this (Nat.lt_irrefl _)
      have R2 : SR n ds Y t { a with defers := { target := .collected X'.w.heap.size, args := #[] } :: a.defers } := ⟨(R1.ext EY).v, R.size, hdef⟩
      cases ao with
      | pan v =>
        obtain ⟨q, rfl, hvq⟩ := hor
        exact hQ Y (.pan v) t _ _ HY (E1.trans EY) ⟨⟨q, rfl, hvq⟩, R.size, hdef⟩ hk
      | ret v =>
        obtain ⟨q, rfl, hvq⟩ := hor
        have hmY := lp_mu EY hlp rfl hX1m
        have fin : ∀ (st : LoopState) (pd : Option Code) (r' : Loop), Y.h[X'.h.length]? = some (.lp st pd r') → r' = { state := .ready, pending := none, fn, tmps := a.tmps, params := ps, assign := x, body := y, defers := X'.w.heap.size } → st ≠ .busy →
            ∃ Z : Cx, (Instr.endLoop (X'.w.heap.size + 1)).run P Y.w = .ok pd Z.w ∧ HR Z ∧ Ext X' Z ∧ Z.h = Y.h.set X'.h.length (.lp .exhausted pd r') ∧ SR n ds Z t { a with defers := { target := .collected X'.w.heap.size, args := #[] } :: a.defers } := by
          rintro st pd r' hh rfl hst
          obtain ⟨hl, Z, hZw, hZh, HZ, EZ⟩ := lp_set HY hh hmY .exhausted pd
          exact ⟨Z, by rw [run_endLoop hl hst, hZw], HZ, (E1.trans EY).trans EZ, hZh, R2.ext EZ⟩
        unfold rangeEnd endX endO at hk
        simp only at hk
        split at hk
        · rename_i r' hh
          obtain ⟨Z, hend, HZ, EZ, hZh, RZ⟩ := fin _ _ _ hh hk.1 (by simp)
          rw [hk.1] at hZh
          rw [← hZh] at hk
          exact ⟨none, _, hend, hQ Z .normal t _ _ HZ EZ ⟨rfl, RZ⟩ hk.2⟩
        · rename_i r' hh
          obtain ⟨Z, hend, HZ, EZ, hZh, RZ⟩ := fin _ _ _ hh hk.1 (by simp)
          rw [hk.1] at hZh
          rw [← hZh] at hk
          exact ⟨some .ret, _, hend, wpIn_ret (hQ Z .ret t _ _ HZ EZ ⟨rfl, RZ⟩ hk.2)⟩
        · rename_i i r' hh
          obtain ⟨Z, hend, HZ, EZ, hZh, RZ⟩ := fin _ _ _ hh hk.1 (by simp)
          rw [hk.1] at hZh
          rw [← hZh] at hk
          exact ⟨some (.exit i), _, hend, wpIn_exit (hQ Z (.exit i) t _ _ HZ EZ ⟨rfl, RZ⟩ hk.2)⟩
        · rename_i i r' hh
          obtain ⟨Z, hend, HZ, EZ, hZh, RZ⟩ := fin _ _ _ hh hk.1 (by simp)
          rw [hk.1] at hZh
          rw [← hZh] at hk
          exact ⟨some (.goto i), _, hend, wpIn_goto (hQ Z (.goto i) t _ _ HZ EZ ⟨rfl, RZ⟩ hk.2)⟩
        · exact hk.elim
  | seq x y ihx ihy =>
    intro ro c C CS hdr YY CI hI nf g κ t X a Q rest hd EB H R hw hQ hf
    simp only [dstOk, Bool.and_eq_true] at hd
    have hy : ∀ Y t a, HR Y → Ext X Y → SR n ds Y t a → W c none y ⟨t, Y.h⟩ κ → y.wpIn (FW ro) nf P Q a Y.w :=
      fun Y t a HY EY RY hwy => ihy ro c C CS hdr YY CI hI nf none κ t Y a Q y hd.2 (EB.trans EY) HY RY hwy (hQ.ext EY) rfl
    cases g with
    | none =>
      obtain rfl := hf
      simp only [W] at hw
      exact wpIn_seq (ihx ro c C CS hdr YY CI hI nf none _ t X a _ x hd.1 EB H R hw (seq_Q hQ hy) rfl)
    | some l =>
      simp only [W, hasLabel_eq] at hw
      simp only [From, findLabel] at hf
      cases hfx : findLabel x l with
      | some rx =>
        rw [hfx] at hf hw
        cases hf
        simp only [Option.isSome_some] at hw
        exact wpIn_seq (ihx ro c C CS hdr YY CI hI nf (some l) _ t X a _ rx hd.1 EB H R hw (seq_Q hQ hy) hfx)
      | none =>
        rw [hfx] at hf hw
        simp only [Option.isSome_none] at hw
        exact ihy ro c C CS hdr YY CI hI nf (some l) κ t X a Q rest hd.2 EB H R hw hQ hf
  | cond x p q ihp ihq =>
    intro ro c C CS hdr YY CI hI nf g κ t X a Q rest hd EB H R hw hQ hf
    simp only [dstOk, Bool.and_eq_true] at hd
    cases g with
    | some l => simp only [W] at hw
    | none =>
      obtain rfl := hf
      simp only [W] at hw
      unfold condW at hw
      split at hw
      rotate_left
      · exact hw.elim
      rename_i b hb
      have hv : a.eval x = .bool b := by have := R.ev x .bool; rw [hb] at this; exact this
      exact wpIn_cond_split hv (fun h => ihp ro c C CS hdr YY CI hI nf none κ t X a Q p hd.1 EB H R (hw.1 h) hQ rfl) (fun h => ihq ro c C CS hdr YY CI hI nf none κ t X a Q q hd.2 EB H R (hw.2 h) hQ rfl)
  | block id p ih =>
    intro ro c C CS hdr YY CI hI nf g κ t X a Q rest hd EB H R hw hQ hf
    simp only [dstOk] at hd
    cases g with
    | some l => simp only [W] at hw
    | none =>
      obtain rfl := hf
      simp only [W] at hw
      refine wpIn_block (ih ro c C CS hdr YY CI hI nf none _ t X a _ p hd EB H R hw (fun Y ae t' e a' HY EY hx hk => ?_) rfl)
      cases ae with
      | normal => obtain ⟨rfl, R⟩ := hx; exact hQ Y .normal t' _ a' HY EY ⟨rfl, R⟩ hk
      | exit i =>
        obtain ⟨rfl, R⟩ := hx
        simp only [Exit.inBlock]
        simp only at hk
        by_cases e : i = id
        · subst e
          simp only [Nat.beq_refl] at hk
          rw [if_pos rfl]
          exact hQ Y .normal t' _ a' HY EY ⟨rfl, R⟩ hk
        · have : Nat.beq i id = false := by rw [Bool.eq_false_iff]; intro h; exact e (Nat.eq_of_beq_eq_true h)
          simp only [this] at hk
          rw [if_neg e]
          exact hQ Y (.exit i) t' _ a' HY EY ⟨rfl, R⟩ hk
      | goto i => obtain ⟨rfl, R⟩ := hx; exact hQ Y (.goto i) t' _ a' HY EY ⟨rfl, R⟩ hk
      | ret => obtain ⟨rfl, R⟩ := hx; exact hQ Y .ret t' _ a' HY EY ⟨rfl, R⟩ hk
      | pan v => obtain ⟨⟨q, rfl, hv⟩, h1, h2⟩ := hx; exact hQ Y (.pan v) t' _ a' HY EY ⟨⟨q, rfl, hv⟩, h1, h2⟩ hk
  | scope p ih =>
    intro ro c C CS hdr YY CI hI nf g κ t X a Q rest hd EB H R hw hQ hf
    simp only [dstOk] at hd
    cases g with
    | some l => simp only [W] at hw
    | none =>
      obtain rfl := hf
      simp only [W] at hw
      refine wpIn_scope (fun l a w => ∃ Y t', Y.w = w ∧ HR Y ∧ Ext X Y ∧ SR n ds Y t' a ∧ W c (some l) p ⟨t', Y.h⟩ fun e st' => match e with
          | .goto _ => False
          | e => κ e st') (ih ro c C CS hdr YY CI hI nf none _ t X a _ p hd EB H R hw (fun Y ae t' e a' HY EY hx hk => ?_) rfl) ?_
      · cases ae with
        | normal => obtain ⟨rfl, R⟩ := hx; exact hQ Y .normal t' _ a' HY EY ⟨rfl, R⟩ hk
        | exit i => obtain ⟨rfl, R⟩ := hx; exact hQ Y (.exit i) t' _ a' HY EY ⟨rfl, R⟩ hk
        | goto l =>
          obtain ⟨rfl, R⟩ := hx
          simp only [hasLabel_eq] at hk
          simp only [jumpS]
          cases hl : (findLabel p l).isSome with
          | true => rw [hl] at hk; rw [if_pos rfl]; exact ⟨Y, t', rfl, HY, EY, R, hk⟩
          | false => rw [hl] at hk; rw [if_neg (by simp)]; exact hQ Y (.goto l) t' _ a' HY EY ⟨rfl, R⟩ hk
        | ret => obtain ⟨rfl, R⟩ := hx; exact hQ Y .ret t' _ a' HY EY ⟨rfl, R⟩ hk
        | pan v => obtain ⟨⟨q, rfl, hv⟩, h1, h2⟩ := hx; exact hQ Y (.pan v) t' _ a' HY EY ⟨⟨q, rfl, hv⟩, h1, h2⟩ hk
      · rintro l rest a w hl ⟨Y, t', rfl, HY, EY, RY, hwy⟩
        refine ih ro c C CS hdr YY CI hI nf (some l) _ t' Y a _ rest hd (EB.trans EY) HY RY hwy (fun Z ae t'' e a' HZ EZ hx hk => ?_) hl
        cases ae with
        | normal => obtain ⟨rfl, R⟩ := hx; exact hQ Z .normal t'' _ a' HZ (EY.trans EZ) ⟨rfl, R⟩ hk
        | exit i => obtain ⟨rfl, R⟩ := hx; exact hQ Z (.exit i) t'' _ a' HZ (EY.trans EZ) ⟨rfl, R⟩ hk
        | goto l => exact hk.elim
        | ret => obtain ⟨rfl, R⟩ := hx; exact hQ Z .ret t'' _ a' HZ (EY.trans EZ) ⟨rfl, R⟩ hk
        | pan v => obtain ⟨⟨q, rfl, hv⟩, h1, h2⟩ := hx; exact hQ Z (.pan v) t'' _ a' HZ (EY.trans EZ) ⟨⟨q, rfl, hv⟩, h1, h2⟩ hk
  | loop p ih =>
    intro ro c C CS hdr YY CI hI nf g κ t X a Q rest hd EB H R hw hQ hf
    simp only [dstOk] at hd
    cases g with
    | some l => simp only [W] at hw
    | none =>
      obtain rfl := hf
      simp only [W] at hw
      obtain ⟨Y, us, hYw, HY, EY, TY, hw⟩ := promV_sound _ _ H (TV.of_gets R (c.loop (firstRegion p)).live) hw
      rw [← hYw]
      obtain ⟨I, ⟨m0, hI0⟩, hround⟩ := hw
      -- the constants
      have TC0 : TV Y a (c.loop (firstRegion p)).const (gets t (c.loop (firstRegion p)).const) := (TV.of_gets R _).ext EY
      have TC : TV (Y.drop Y.h.length) a (c.loop (firstRegion p)).const (AV.norms Y.h.length Y.h (gets t (c.loop (firstRegion p)).const)) := TC0.norm HY
      refine wpIn_loop_n (fun m a w => ∃ Z vs, Z.w = w ∧ HR Z ∧ Ext Y Z ∧ TV Z a (c.loop (firstRegion p)).live vs ∧
          TV Z a (c.loop (firstRegion p)).const (AV.norms Y.h.length Y.h (gets t (c.loop (firstRegion p)).const)) ∧ n ≤ a.tmps.size ∧ DefOk ds Z a.defers ∧ I m vs Z.h) m0
        ⟨Y.drop Y.h.length, _, rfl, drop_hr HY, drop_ext HY (Ext.refl Y) (Nat.le_refl _), TY.norm HY, TC, R.size, (R.defers.ext EY).drop, hI0⟩ ?_
      rintro m a1 w1 ⟨Z, vs, rfl, HZ, EZ, T1, T2, hs, hdf, hIm⟩
      have hb := forallV_inst (hround m Z.h) vs T1.len hIm
      refine ih ro c C CS hdr YY CI hI nf none _ _ Z a1 _ p hd (EB.trans (EY.trans EZ)) HZ (SR.of_TV T1 T2 hs hdf) hb (fun V ae t' e a' HV EV hx hk => ?_) rfl
      cases ae with
      | normal =>
        obtain ⟨rfl, R'⟩ := hx
        obtain ⟨⟨m', hlt, hI'⟩, hconst⟩ := hk
        refine ⟨m', hlt, V.drop Y.h.length, _, rfl, drop_hr HV, drop_ext HY (EZ.trans EV) (Nat.le_refl _), (TV.of_gets R' _).norm HV, ?_, R'.size, R'.defers.drop, hI'⟩
        have := (TV.of_gets R' (c.loop (firstRegion p)).const).norm HV (m := Y.h.length)
        rw [hconst] at this
        exact this
      | exit i => obtain ⟨rfl, R'⟩ := hx; exact hQ V (.exit i) t' _ a' HV (EY.trans (EZ.trans EV)) ⟨rfl, R'⟩ hk
      | goto l => obtain ⟨rfl, R'⟩ := hx; exact hQ V (.goto l) t' _ a' HV (EY.trans (EZ.trans EV)) ⟨rfl, R'⟩ hk
      | ret => obtain ⟨rfl, R'⟩ := hx; exact hQ V .ret t' _ a' HV (EY.trans (EZ.trans EV)) ⟨rfl, R'⟩ hk
      | pan v => obtain ⟨⟨q, rfl, hv⟩, h1, h2⟩ := hx; exact hQ V (.pan v) t' _ a' HV (EY.trans (EZ.trans EV)) ⟨⟨q, rfl, hv⟩, h1, h2⟩ hk
  | region id ops draw =>
    intro ro c C CS hdr YY CI hI nf g κ t X a Q rest hd EB H R hw hQ hf
    cases g with
    | some l => simp only [W] at hw
    | none =>
      obtain rfl := hf
      have hds : ∀ o ∈ ops.toList, ∀ i, o.dst = some i → i < n := by
        intro o ho i hi
        simp only [dstOk, List.all_eq_true] at hd
        have := hd o ho
        rw [hi] at this
        simpa using this
      simp only [W] at hw
      cases draw with
      | false =>
        refine wpIn_region_list (opsW_sound C CS hdr YY nf ops ops.toList [] t X a hds (Kn.nil t) EB H R hw (fun Y t' a' HY EY RY hk => hQ Y .normal t' _ a' HY EY ⟨rfl, RY⟩ hk)
          (fun Y v q a' HY EY h1 h2 hk hv => hQ Y (.pan v) t _ a' HY EY ⟨⟨q, rfl, hv⟩, h1, h2⟩ hk))
      | true =>
        simp only at hw
        split at hw
        · exact hw.elim
        · rename_i hok
          exact region_draw C hm nf H R hds hok hw fun Y t' a' HY EY RY hk => hQ Y .normal t' _ a' HY EY ⟨rfl, RY⟩ hk
end

end Lam
