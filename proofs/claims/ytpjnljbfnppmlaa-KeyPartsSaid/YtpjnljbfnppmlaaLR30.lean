/- Regions that draw their order: whatever the order, it comes to what the text's order comes to. -/
import Derived.Test.YtpjnljbfnppmlaaLR29
set_option linter.unnecessarySimpa false
set_option linter.unusedSimpArgs false
set_option linter.unusedVariables false
set_option linter.unusedSectionVars false
namespace Lam
open Go

theorem mutate_length (h : List AObj) (mm : Option (Nat × AObj)) : (mutate h mm).length = h.length := by
  cases mm <;> simp [mutate]

theorem mutate_get (h : List AObj) (mm : Option (Nat × AObj)) (id : Nat) (hm : ∀ o, mm ≠ some (id, o)) : (mutate h mm)[id]? = h[id]? := by
  cases mm with
  | none => rfl
  | some p =>
    obtain ⟨i, o⟩ := p
    have : i ≠ id := by rintro rfl; exact hm o rfl
    simp [mutate, List.getElem?_set, this]

theorem mutate_congr {h h' : List AObj} (mm : Option (Nat × AObj)) (id : Nat) (he : h[id]? = h'[id]?) : (mutate h mm)[id]? = (mutate h' mm)[id]? := by
  cases mm with
  | none => exact he
  | some p =>
    obtain ⟨i, o⟩ := p
    simp only [mutate, List.getElem?_set]
    by_cases e : i = id
    · subst e
      simp only [if_true]
      have : (i < h.length) ↔ (i < h'.length) := by
        rw [← Nat.not_le, ← Nat.not_le, ← List.getElem?_eq_none_iff, ← List.getElem?_eq_none_iff, he]
      by_cases hl : i < h.length
      · rw [if_pos hl, if_pos (this.1 hl)]
      · rw [if_neg hl, if_neg (fun x => hl (this.2 x))]
    · simp only [if_neg e, he]

section
variable {c : Ctx} {L : List Oper} {t0 : List (Nat × AV)} {h0 : List AObj} {rs : Nat → Rec} {tk : Nat → List (Nat × AV)} {η : Nat → List AObj} {b : Nat → Nat → Bool}

/-- op m makes or changes an object -/
def Touches (rs : Nat → Rec) (η : Nat → List AObj) (m id : Nat) : Prop := ((η m).length ≤ id ∧ id < (η (m + 1)).length) ∨ ∃ o, (rs m).mm = some (id, o)

def hx (η : Nat → List AObj) (k id : Nat) : Option AObj := if id < (η k).length then (η k)[id]? else some .dead

theorem TS.lenS (T : TS c L L t0 h0 rs tk η) {k : Nat} (hk : k < L.length) : (η (k + 1)).length = (η k).length + (rs k).news.length := by
  rw [T.hs k hk, mutate_length, List.length_append]

theorem TS.mono (T : TS c L L t0 h0 rs tk η) : ∀ {k k' : Nat}, k ≤ k' → k' ≤ L.length → (η k).length ≤ (η k').length := by
  intro k k' h
  induction h with
  | refl => intro _; exact Nat.le_refl _
  | @step m hm ih => intro hl; have := ih (by omega); have e := T.lenS (k := m) (by omega); show _ ≤ (η (m + 1)).length; omega

theorem TS.tk_same (T : TS c L L t0 h0 rs tk η) {i k k' : Nat} (h : k ≤ k') (hl : k' ≤ L.length) (hno : ∀ (m : Nat) (o : Oper), k ≤ m → m < k' → L[m]? = some o → o.dst ≠ some i) : get (tk k') i = get (tk k) i := by
  induction h with
  | refl => rfl
  | @step m hm ih =>
    have hm : k ≤ m := hm
    show get (tk (m + 1)) i = _
    have ho : L[m]? = some L[m] := List.getElem?_eq_getElem (by omega)
    rw [T.ts m _ ho, if_neg (hno m _ hm (by omega) ho)]
    exact ih (by omega) fun m' o h1 h2 => hno m' o h1 (by omega)

theorem TS.hx_same (T : TS c L L t0 h0 rs tk η) {id k k' : Nat} (h : k ≤ k') (hl : k' ≤ L.length) (hno : ∀ m, k ≤ m → m < k' → ¬ Touches rs η m id) : hx η k' id = hx η k id := by
  induction h with
  | refl => rfl
  | @step m hm ih =>
    have hm : k ≤ m := hm
    show hx η (m + 1) id = _
    rw [← ih (by omega) fun m' h1 h2 => hno m' h1 (by omega)]
    have hnt := hno m hm (by omega)
    have hs := T.lenS (k := m) (by omega)
    unfold hx
    by_cases h1 : id < (η m).length
    · rw [if_pos h1, if_pos (by omega), T.hs m (by omega), mutate_get _ _ _ (fun o e => hnt (.inr ⟨o, e⟩)), List.getElem?_append_left h1]
    · rw [if_neg h1, if_neg fun h2 => hnt (.inl ⟨by omega, h2⟩)]

theorem TS.mut_lt (T : TS c L L t0 h0 rs tk η) {m id : Nat} {o : AObj} {om : Oper} (hm : L[m]? = some om) (e : (rs m).mm = some (id, o)) :
    id < (η m).length ∧ ∃ x, mutOf om = some x ∧ x ∈ om.op.operands.toList ∧ id ∈ (ev (tk m) .other x).ids ∧ looks om = true := by
  cases hr : (rs m).ran with
  | false => have := (T.pass m om hm hr).2.2; rw [this] at e; cases e
  | true =>
    obtain ⟨⟨S, hS, h1⟩, h2⟩ := T.ran m om hm hr
    rw [e] at h1
    obtain ⟨x, q1, q2, q3, q4⟩ := opD_mut h1
    exact ⟨h2 x q2 id q3, x, q1, q2, q3, q4⟩

theorem DrawFacts.lt (DF : DrawFacts L b) : ∀ {k i : Nat}, b k i = true → i < k := by
  intro k
  induction k using Nat.strongRecOn with
  | _ k ih =>
    intro i h
    obtain ⟨o, ho, e, he, hb, h1⟩ := DF.bit k i h
    have hlt := DF.edge k o ho e he hb
    rcases h1 with rfl | h1
    · exact hlt
    · have := ih e.on hlt h1; omega

theorem mem_tmpsOf {o : Oper} {i : Nat} (h : Operand.tmp i ∈ o.op.operands.toList) : i ∈ tmpsOf o := by
  unfold tmpsOf
  exact List.mem_filterMap.2 ⟨_, h, rfl⟩

theorem ev_congr {t t' : List (Nat × AV)} {x : Operand} (h : ∀ i, x = .tmp i → get t i = get t' i) (d : TyD) : ev t d x = ev t' d x := by
  cases x with
  | tmp i => exact h i rfl
  | _ => rfl

structure Sep (L : List Oper) (b : Nat → Nat → Bool) (t : List (Nat × AV)) : Prop where
  sep : ∀ (i j : Nat) (oi oj : Oper), L[i]? = some oi → L[j]? = some oj → i ≠ j → b i j = false → b j i = false → (mutOf oi).isSome = true → looks oj = true →
    ∃ x, mutOf oi = some x ∧ sepB (ev t .other x) (oj.op.operands.toList.map (ev t .other)) = true

/-- the state, when the operations of D are done -/
structure DI (n : Nat) (ds : Nat) (L : List Oper) (b : Nat → Nat → Bool) (rs : Nat → Rec) (tk : Nat → List (Nat × AV)) (η : Nat → List AObj) (D : Nat → Prop) (X : Cx) (a : Act) : Prop where
  hr : HR X
  len : X.h.length = (η L.length).length
  heap : ∀ id k, k ≤ L.length → id < (η L.length).length → (∀ m, m < L.length → Touches rs η m id → (m < k ↔ D m)) → X.h[id]? = hx η k id
  made : ∀ m id o, m < L.length → D m → (rs m).mm = some (id, o) → ∀ j, j < L.length → (η j).length ≤ id → id < (η (j + 1)).length → D j
  closed : ∀ k, D k → ∀ i, b k i = true → D i
  tmp : ∀ i k, k ≤ L.length → (∀ (m : Nat) (o : Oper), L[m]? = some o → o.dst = some i → (m < k ↔ D m)) → VV X (get (tk k) i) (a.tmps.getD i undef)
  size : n ≤ a.tmps.size
  defers : DefOk ds X a.defers

variable {n : Nat} {ds : Nat} {D : Nat → Prop} {X : Cx} {a : Act} {k : Nat} {o : Oper}

theorem TS.final (T : TS c L L t0 h0 rs tk η) (DF : DrawFacts L b) {i : Nat} {oi : Oper} (hi : L[i]? = some oi) (hb : ∀ (w : Nat) (ow : Oper) (d : Nat), L[w]? = some ow → ow.dst = some d → d ∈ tmpsOf oi → b i w = true)
    {x : Operand} (hx : x ∈ oi.op.operands.toList) (d : TyD) : ev (tk L.length) d x = ev (tk i) d x := by
  have hil : i < L.length := (List.getElem?_eq_some_iff.1 hi).1
  refine ev_congr (fun j hj => ?_) d
  subst hj
  refine T.tk_same (Nat.le_of_lt hil) (Nat.le_refl _) fun m o h1 h2 hm hd => ?_
  have := DF.lt (hb m o j hm hd (mem_tmpsOf hx))
  omega

section ready

theorem ready_bits (T : TS c L L t0 h0 rs tk η) (DF : DrawFacts L b) (I : DI n ds L b rs tk η D X a) (ho : L[k]? = some o) (hk : ¬ D k) (hready : ∀ e ∈ o.after.toList, Region.binds .any e = true → D e.on) : ∀ i, b k i = true → D i := by
  intro i h
  obtain ⟨o', ho', e, he, hb, h1⟩ := DF.bit k i h
  rw [ho] at ho'; cases ho'
  rcases h1 with rfl | h1
  · exact hready e he hb
  · exact I.closed _ (hready e he hb) _ h1

theorem ready_tmp (T : TS c L L t0 h0 rs tk η) (DF : DrawFacts L b) (I : DI n ds L b rs tk η D X a) (ho : L[k]? = some o) (hk : ¬ D k) (hready : ∀ e ∈ o.after.toList, Region.binds .any e = true → D e.on) {i : Nat} (hi : i ∈ tmpsOf o) (m : Nat) (o' : Oper) (hm : L[m]? = some o') (hd : o'.dst = some i) : m < k ↔ D m := by
  rcases DF.reads k m o o' i ho hm hd hi with h | ⟨h1, h2⟩ | h
  · exact ⟨fun _ => ready_bits T DF I ho hk hready m h, fun _ => DF.lt h⟩
  · have := DF.lt h2
    exact ⟨fun h => by omega, fun h => absurd (I.closed m h k h2) hk⟩
  · subst h
    exact ⟨fun h => by omega, fun h => absurd h hk⟩

theorem ready_opd (T : TS c L L t0 h0 rs tk η) (DF : DrawFacts L b) (I : DI n ds L b rs tk η D X a) (ho : L[k]? = some o) (hk : ¬ D k) (hready : ∀ e ∈ o.after.toList, Region.binds .any e = true → D e.on) {x : Operand} (hx : x ∈ o.op.operands.toList) (d : TyD) : VV X (ev (tk k) d x) (a.eval x) := by
  have hkl : k < L.length := (List.getElem?_eq_some_iff.1 ho).1
  cases x with
  | tmp i => exact I.tmp i k (Nat.le_of_lt hkl) fun m o' hm hd => ready_tmp T DF I ho hk hready (mem_tmpsOf hx) m o' hm hd
  | const v => exact const_VV d v
  | global g => trivial
  | func f => exact ⟨#[], #[], rfl, by simp [VVs], by simp [VVs]⟩

theorem ready_guard (T : TS c L L t0 h0 rs tk η) (DF : DrawFacts L b) (I : DI n ds L b rs tk η D X a) (ho : L[k]? = some o) (hk : ¬ D k) (hready : ∀ e ∈ o.after.toList, Region.binds .any e = true → D e.on) {j : Nat} {want : Bool} (hg : o.guard = some (j, want)) {g : Nat} (hgt : guardTmp L j = some g) : VV X (get (tk k) g) (a.tmps.getD g undef) := by
  have hkl : k < L.length := (List.getElem?_eq_some_iff.1 ho).1
  obtain ⟨hb, hjk⟩ := DF.guard k o ho j want hg
  refine I.tmp g k (Nat.le_of_lt hkl) fun m o' hm hd => ?_
  obtain ⟨oj, hoj, hdj⟩ : ∃ oj, L[j]? = some oj ∧ oj.dst = some g := by
    unfold guardTmp at hgt
    cases h : L[j]? with
    | none => rw [h] at hgt; cases hgt
    | some oj => rw [h] at hgt; exact ⟨oj, rfl, hgt⟩
  obtain rfl := DF.once m j o' oj g hm hoj hd hdj
  exact ⟨fun _ => ready_bits T DF I ho hk hready m hb, fun _ => hjk⟩

/-- who made what an operand names is done -/
theorem ready_cre (T : TS c L L t0 h0 rs tk η) (DF : DrawFacts L b) (I : DI n ds L b rs tk η D X a) (ho : L[k]? = some o) (hk : ¬ D k) (hready : ∀ e ∈ o.after.toList, Region.binds .any e = true → D e.on) (hr : (rs k).ran = true) {x : Operand} (hx' : x ∈ o.op.operands.toList) {id : Nat} (hid : id ∈ (ev (tk k) .other x).ids) {j : Nat} (hj : j < L.length) (h1 : (η j).length ≤ id) (h2 : id < (η (j + 1)).length) : j < k ∧ D j := by
  have hkl : k < L.length := (List.getElem?_eq_some_iff.1 ho).1
  have hlt := (T.ran k o ho hr).2 x hx' id hid
  have hjk : j < k := by
    rcases Nat.lt_or_ge j k with h | h
    · exact h
    · have := T.mono h (Nat.le_of_lt hj); omega
  refine ⟨hjk, ?_⟩
  apply Classical.byContradiction
  intro hD
  have hN : id < (η L.length).length := Nat.lt_of_lt_of_le h2 (T.mono (by omega) (Nat.le_refl _))
  have hdead := I.heap id j (Nat.le_of_lt hj) hN fun m hm ht => by
    rcases ht with ⟨h3, h4⟩ | ⟨q, h3⟩
    · have : m = j := by
        rcases Nat.lt_trichotomy m j with h | h | h
        · have := T.mono (k := m + 1) (k' := j) (by omega) (by omega); omega
        · exact h
        · have := T.mono (k := j + 1) (k' := m) (by omega) (by omega); omega
      subst this
      exact ⟨fun h => by omega, fun h => absurd h hD⟩
    · obtain ⟨om, hom⟩ : ∃ om, L[m]? = some om := ⟨_, List.getElem?_eq_getElem hm⟩
      have := (T.mut_lt hom h3).1
      constructor
      · intro h
        have := T.mono (k := m) (k' := j) (by omega) (by omega); omega
      · intro h
        exact absurd (I.made m id q hm h h3 j hj h1 h2) hD
  unfold hx at hdead
  rw [if_neg (by omega)] at hdead
  exact (VV_here (ready_opd T DF I ho hk hready hx' .other) id hid).alive I.hr hdead

/-- what an operand that is looked at names is as in the text's order -/
theorem ready_ids (T : TS c L L t0 h0 rs tk η) (DF : DrawFacts L b) (SP : Sep L b (tk L.length)) (I : DI n ds L b rs tk η D X a) (ho : L[k]? = some o) (hk : ¬ D k) (hready : ∀ e ∈ o.after.toList, Region.binds .any e = true → D e.on) (hr : (rs k).ran = true) (hl : looks o = true) {x : Operand} (hx' : x ∈ o.op.operands.toList) {id : Nat} (hid : id ∈ (ev (tk k) .other x).ids) :
    ∀ m, m < L.length → Touches rs η m id → (m < k ↔ D m) := by
  intro m hm ht
  by_cases hmk : m = k
  · subst hmk; exact ⟨fun h => by omega, fun h => absurd h hk⟩
  obtain ⟨om, hom⟩ : ∃ om, L[m]? = some om := ⟨_, List.getElem?_eq_getElem hm⟩
  rcases ht with ⟨h1, h2⟩ | ⟨q, h1⟩
  · obtain ⟨p1, p2⟩ := ready_cre T DF I ho hk hready hr hx' hid hm h1 h2
    exact ⟨fun _ => p2, fun _ => p1⟩
  · cases hb1 : b k m with
    | true => exact ⟨fun _ => ready_bits T DF I ho hk hready m hb1, fun _ => DF.lt hb1⟩
    | false =>
      cases hb2 : b m k with
      | true =>
        have := DF.lt hb2
        exact ⟨fun h => by omega, fun h => absurd (I.closed m h k hb2) hk⟩
      | false =>
        exfalso
        obtain ⟨_, y, q1, q2, q3, q4⟩ := T.mut_lt hom h1
        have hbh := DF.behind m k om o hom ho hmk hb2 hb1 (by rw [q1]; rfl) hl
        obtain ⟨y', e1, e2⟩ := SP.sep m k om o hom ho hmk hb2 hb1 (by rw [q1]; rfl) hl
        rw [q1] at e1; cases e1
        refine sepB_inv e2 (i := id) ?_ ?_
        · rw [T.final DF hom (fun w ow d hw hd hm' => (hbh w ow d hw hd).1 hm') q2]; exact q3
        · refine idss_mem (List.mem_map_of_mem hx') id ?_
          rw [T.final DF ho (fun w ow d hw hd hm' => (hbh w ow d hw hd).2 hm') hx']; exact hid

theorem ready_star (T : TS c L L t0 h0 rs tk η) (DF : DrawFacts L b) (SP : Sep L b (tk L.length)) (I : DI n ds L b rs tk η D X a) (ho : L[k]? = some o) (hk : ¬ D k) (hready : ∀ e ∈ o.after.toList, Region.binds .any e = true → D e.on) {id : Nat} (ht : Touches rs η k id) : ∀ m, m < L.length → Touches rs η m id → (m < k ↔ D m) := by
  have hkl : k < L.length := (List.getElem?_eq_some_iff.1 ho).1
  rcases ht with ⟨h1, h2⟩ | ⟨q, h1⟩
  · intro m hm htm
    by_cases hmk : m = k
    · subst hmk; exact ⟨fun h => by omega, fun h => absurd h hk⟩
    rcases htm with ⟨h3, h4⟩ | ⟨q, h3⟩
    · exfalso
      rcases Nat.lt_or_gt_of_ne hmk with h | h
      · have := T.mono (k := m + 1) (k' := k) (by omega) (by omega); omega
      · have := T.mono (k := k + 1) (k' := m) (by omega) (by omega); omega
    · obtain ⟨om, hom⟩ : ∃ om, L[m]? = some om := ⟨_, List.getElem?_eq_getElem hm⟩
      have := (T.mut_lt hom h3).1
      constructor
      · intro h
        have := T.mono (k := m) (k' := k) (by omega) (by omega); omega
      · intro h
        exact absurd (I.made m id q hm h h3 k hkl h1 h2) hk
  · have hr : (rs k).ran = true := by
      cases h : (rs k).ran with
      | true => rfl
      | false => rw [(T.pass k o ho h).2.2] at h1; cases h1
    obtain ⟨_, y, q1, q2, q3, q4⟩ := T.mut_lt ho h1
    exact ready_ids T DF SP I ho hk hready hr q4 q2 q3

/-- the state behind an operation -/
theorem ready_next (T : TS c L L t0 h0 rs tk η) (DF : DrawFacts L b) (SP : Sep L b (tk L.length)) (I : DI n ds L b rs tk η D X a) (ho : L[k]? = some o) (hk : ¬ D k) (hready : ∀ e ∈ o.after.toList, Region.binds .any e = true → D e.on) {Y : Cx} {q : Value} (hd : ∀ i, o.dst = some i → i < n) (HY : HR Y) (E : Ext X Y) (hh : Y.h = mutate (place X.h (η k).length (rs k).news) (rs k).mm) (hv : VV Y (rs k).v q) :
    DI n ds L b rs tk η (fun i => D i ∨ i = k) Y (a.put o.dst q) := by
  have hkl : k < L.length := (List.getElem?_eq_some_iff.1 ho).1
  have hsk := T.lenS hkl
  have hmono := T.mono (k := k + 1) (k' := L.length) (by omega) (Nat.le_refl _)
  have hroom : (rs k).news ≠ [] → (η k).length + (rs k).news.length ≤ X.h.length := fun _ => by rw [I.len]; omega
  refine ⟨HY, by rw [hh, mutate_length, place_length, I.len], fun id k' hk' hid hyp => ?_, fun m id q hm hD hmm j hj h1 h2 => ?_, fun m hD i hb => ?_, fun i k' hk' hyp => ?_, by
    cases o.dst <;> simp [Act.put, I.size], by have := I.defers.ext E; cases o.dst <;> exact this⟩
  · by_cases ht : Touches rs η k id
    · have hkk' : k < k' := (hyp k hkl ht).2 (.inr rfl)
      have star := ready_star T DF SP I ho hk hready ht
      have e1 : hx η k' id = hx η (k + 1) id := T.hx_same hkk' hk' fun m h1 h2 htm => by
        have := (hyp m (by omega) htm).1 h2
        rcases this with h | h
        · have := (star m (by omega) htm).2 h; omega
        · omega
      rw [e1]
      have e2 := I.heap id k (Nat.le_of_lt hkl) hid star
      have hid1 : id < (η (k + 1)).length := by
        rcases ht with ⟨_, h⟩ | ⟨q, h⟩
        · exact h
        · have := (T.mut_lt ho h).1; omega
      unfold hx
      rw [if_pos hid1, hh, T.hs k hkl]
      apply mutate_congr
      rw [place_get _ _ _ hroom]
      by_cases h1 : (η k).length ≤ id ∧ id < (η k).length + (rs k).news.length
      · rw [if_pos h1, List.getElem?_append_right h1.1]
      · have h2 : id < (η k).length := by omega
        rw [if_neg h1, List.getElem?_append_left h2, e2]
        unfold hx
        rw [if_pos h2]
    · rw [hh, mutate_get _ _ _ (fun q e => ht (.inr ⟨q, e⟩)), place_get _ _ _ hroom, if_neg fun h => ht (.inl ⟨h.1, by omega⟩)]
      refine I.heap id k' hk' hid fun m hm htm => ?_
      have hmk : m ≠ k := by rintro rfl; exact ht htm
      rw [hyp m hm htm]
      exact ⟨fun h => h.resolve_right hmk, .inl⟩
  · rcases hD with hD | rfl
    · exact .inl (I.made m id q hm hD hmm j hj h1 h2)
    · have hr : (rs m).ran = true := by
        cases h : (rs m).ran with
        | true => rfl
        | false => rw [(T.pass m o ho h).2.2] at hmm; cases hmm
      obtain ⟨_, y, q1, q2, q3, q4⟩ := T.mut_lt ho hmm
      exact .inl (ready_cre T DF I ho hk hready hr q2 q3 hj h1 h2).2
  · rcases hD with hD | rfl
    · exact .inl (I.closed m hD i hb)
    · exact .inl (ready_bits T DF I ho hk hready i hb)
  · by_cases hi : o.dst = some i
    · have hkk' : k < k' := (hyp k o ho hi).2 (.inr rfl)
      have hval : get (tk k') i = (rs k).v := by
        rw [T.tk_same (k := k + 1) (k' := k') hkk' hk' fun m o' h1 h2 hm hdm => by
          have := DF.once m k o' o i hm ho hdm hi; omega]
        rw [T.ts k o ho, if_pos hi]
      rw [hval, hi]
      have hs : i < a.tmps.size := Nat.lt_of_lt_of_le (hd i hi) I.size
      simp [Act.put, Array.getD_eq_getD_getElem?, Array.getElem?_setIfInBounds, hs, hv]
    · have h1 : VV X (get (tk k') i) (a.tmps.getD i undef) := I.tmp i k' hk' fun m o' hm hdm => by
        have hmk : m ≠ k := by rintro rfl; rw [ho] at hm; cases hm; exact hi hdm
        rw [hyp m o' hm hdm]
        exact ⟨fun h => h.resolve_right hmk, .inl⟩
      have h2 : (a.put o.dst q).tmps.getD i undef = a.tmps.getD i undef := by
        cases hdst : o.dst with
        | none => rfl
        | some j =>
          have hji : j ≠ i := by rintro rfl; exact hi hdst
          simp [Act.put, Array.getD_eq_getD_getElem?, Array.getElem?_setIfInBounds, hji]
      rw [h2]; exact h1.ext E

theorem ready_opD (T : TS c L L t0 h0 rs tk η) (DF : DrawFacts L b) (SP : Sep L b (tk L.length)) (I : DI n ds L b rs tk η D X a) (ho : L[k]? = some o) (hk : ¬ D k) (hready : ∀ e ∈ o.after.toList, Region.binds .any e = true → D e.on) (hr : (rs k).ran = true) : ∃ S, S ∧ opD c (η k).length (tk k) X.h o.op o.type = some (S, (rs k).v, (rs k).news, (rs k).mm) := by
  have hkl : k < L.length := (List.getElem?_eq_some_iff.1 ho).1
  obtain ⟨⟨S, hS, e⟩, hb⟩ := T.ran k o ho hr
  refine ⟨S, hS, ?_⟩
  cases hl : looks o with
  | false => rw [opD_nolook hl (h' := η k)]; exact e
  | true =>
    rw [opD_local (h' := η k)]
    · exact e
    · intro id hid
      obtain ⟨v, hv, hj⟩ := mem_idss hid
      obtain ⟨x, hx', rfl⟩ := List.mem_map.1 hv
      have hlt := hb x hx' id hj
      have := I.heap id k (Nat.le_of_lt hkl) (Nat.lt_of_lt_of_le hlt (T.mono (Nat.le_of_lt hkl) (Nat.le_refl _))) (ready_ids T DF SP I ho hk hready hr hl hx' hj)
      rw [this]; unfold hx; rw [if_pos hlt]

theorem ready_dead (T : TS c L L t0 h0 rs tk η) (DF : DrawFacts L b) (SP : Sep L b (tk L.length)) (I : DI n ds L b rs tk η D X a) (ho : L[k]? = some o) (hk : ¬ D k) (hready : ∀ e ∈ o.after.toList, Region.binds .any e = true → D e.on) : ∀ j, j < (rs k).news.length → X.h[(η k).length + j]? = some .dead := by
  have hkl : k < L.length := (List.getElem?_eq_some_iff.1 ho).1
  intro j hj
  have hsk := T.lenS hkl
  have hmono := T.mono (k := k + 1) (k' := L.length) (by omega) (Nat.le_refl _)
  have := I.heap ((η k).length + j) k (Nat.le_of_lt hkl) (by omega) (ready_star T DF SP I ho hk hready (.inl ⟨by omega, by omega⟩))
  rw [this]; unfold hx; rw [if_neg (by omega)]
end ready
end

end Lam
