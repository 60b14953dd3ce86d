/- What functions of the program come to, each proved from its code. -/
import Derived.Test.YtmbmfnmjjelmkabGreatLm2
import Derived.RangeFuncRecord
import Derived.Below
import Derived.WalkKit
import Derived.ProofKit
import Derived.OpenShut
import Derived.ChangeArms
import Derived.DataReads
import Derived.Recover
import Derived.Attr
set_option linter.unusedVariables false
set_option linter.unusedSimpArgs false
set_option linter.unnecessarySimpa false
set_option linter.unusedSectionVars false
open Nat (reduceEqDiff reduceAdd reduceSub reduceLeDiff)
open Int (reduceToNat reduceEq reduceLE reduceLT)
open List (reduceReplicate)
set_option maxRecDepth 20000
namespace Lam
open Go

theorem zV (h : List AObj) (mm : Option (Nat × AObj)) : (dY h mm).length = h.length := by
 cases mm <;> simp [dY]

theorem aDi (h : List AObj) (mm : Option (Nat × AObj)) (id : Nat) (hm : ∀ o, mm ≠ some (id, o)) : (dY h mm)[id]? = h[id]? := by
 cases mm with
 | none => rfl
 | some p =>
   obtain ⟨i, o⟩ := p
   have : i ≠ id := by rintro rfl; exact hm o rfl
   simp [dY, List.getElem?_set, this]

theorem aGu {h h' : List AObj} (mm : Option (Nat × AObj)) (id : Nat) (he : h[id]? = h'[id]?) : (dY h mm)[id]? = (dY h' mm)[id]? := by
 cases mm with
 | none => exact he
 | some p =>
   obtain ⟨i, o⟩ := p
   simp only [dY, List.getElem?_set]
   by_cases e : i = id
   · subst e
     simp only [if_true]
     have : (i < h.length) ↔ (i < h'.length) := by
       rw [← Nat.not_le, ← Nat.not_le, ← List.getElem?_eq_none_iff, ← List.getElem?_eq_none_iff, he]
     by_cases hl : i < h.length
     · rw [if_pos hl, if_pos (this.1 hl)]
     · rw [if_neg hl, if_neg (fun x => hl (this.2 x))]
   · simp only [if_neg e, he]

section
variable {c : Ctx} {L : List Oper} {t0 : List (Nat × AV)} {h0 : List AObj} {rs : Nat → Rec} {tk : Nat → List (Nat × AV)} {η : Nat → List AObj} {b : Nat → Nat → Bool}

def vE (rs : Nat → Rec) (η : Nat → List AObj) (m id : Nat) : Prop := ((η m).length ≤ id ∧ id < (η (m + 1)).length) ∨ ∃ o, (rs m).mm = some (id, o)

def hx (η : Nat → List AObj) (k id : Nat) : Option AObj := if id < (η k).length then (η k)[id]? else some .dead

theorem TS.lenS (T : TS c L L t0 h0 rs tk η) {k : Nat} (hk : k < L.length) : (η (k + 1)).length = (η k).length + (rs k).news.length := by
 rw [T.hs k hk, zV, List.length_append]

theorem TS.mono (T : TS c L L t0 h0 rs tk η) : ∀ {k k' : Nat}, k ≤ k' → k' ≤ L.length → (η k).length ≤ (η k').length := by
 intro k k' h
 induction h with
 | refl => intro _; exact Nat.le_refl _
 | @step m hm ih => intro hl; have := ih (by omega); have e := T.lenS (k := m) (by omega); show _ ≤ (η (m + 1)).length; omega

theorem TS.tk_same (T : TS c L L t0 h0 rs tk η) {i k k' : Nat} (h : k ≤ k') (hl : k' ≤ L.length) (hno : ∀ (m : Nat) (o : Oper), k ≤ m → m < k' → L[m]? = some o → o.dst ≠ some i) : get (tk k') i = get (tk k) i := by
 induction h with
 | refl => rfl
 | @step m hm ih =>
   have hm : k ≤ m := hm
   show get (tk (m + 1)) i = _
   have ho : L[m]? = some L[m] := List.getElem?_eq_getElem (by omega)
   rw [T.ts m _ ho, if_neg (hno m _ hm (by omega) ho)]
   exact ih (by omega) fun m' o h1 h2 => hno m' o h1 (by omega)

theorem TS.hx_same (T : TS c L L t0 h0 rs tk η) {id k k' : Nat} (h : k ≤ k') (hl : k' ≤ L.length) (hno : ∀ m, k ≤ m → m < k' → ¬ vE rs η m id) : hx η k' id = hx η k id := by
 induction h with
 | refl => rfl
 | @step m hm ih =>
   have hm : k ≤ m := hm
   show hx η (m + 1) id = _
   rw [← ih (by omega) fun m' h1 h2 => hno m' h1 (by omega)]
   have hnt := hno m hm (by omega)
   have hs := T.lenS (k := m) (by omega)
   unfold hx
   by_cases h1 : id < (η m).length
   · rw [if_pos h1, if_pos (by omega), T.hs m (by omega), aDi _ _ _ (fun o e => hnt (.inr ⟨o, e⟩)), List.getElem?_append_left h1]
   · rw [if_neg h1, if_neg fun h2 => hnt (.inl ⟨by omega, h2⟩)]

theorem TS.mut_lt (T : TS c L L t0 h0 rs tk η) {m id : Nat} {o : AObj} {om : Oper} (hm : L[m]? = some om) (e : (rs m).mm = some (id, o)) :
   id < (η m).length ∧ ∃ x, nB (jE L) om = some x ∧ x ∈ om.op.operands.toList ∧ id ∈ (ev (tk m) .other x).ids ∧ mO om = true := by
 cases hr : (rs m).ran with
 | false => have := (T.pass m om hm hr).2.2; rw [this] at e; cases e
 | true =>
   obtain ⟨⟨S, hS, h1⟩, h2⟩ := T.ran m om hm hr
   rw [e] at h1
   obtain ⟨x, q1, q2, q3, q4⟩ := aMV h1
   exact ⟨h2 x q2 id q3, x, q1, q2, q3, q4⟩

theorem iX.lt (DF : iX L b) : ∀ {k i : Nat}, b k i = true → i < k := by
 intro k
 induction k using Nat.strongRecOn with
 | _ k ih =>
   intro i h
   obtain ⟨o, ho, e, he, hb, h1⟩ := DF.bit k i h
   have hlt := DF.edge k o ho e he hb
   rcases h1 with rfl | h1
   · exact hlt
   · have := ih e.on hlt h1; omega

theorem aDj {o : Oper} {i : Nat} (h : Operand.tmp i ∈ o.op.operands.toList) : i ∈ oQ o := by
 unfold oQ
 exact List.mem_filterMap.2 ⟨_, h, rfl⟩

theorem aLK {t t' : List (Nat × AV)} {x : Operand} (h : ∀ i, x = .tmp i → get t i = get t' i) (d : TyD) : ev t d x = ev t' d x := by
 cases x with
 | tmp i => exact h i rfl
 | _ => rfl

structure Sep (L : List Oper) (b : Nat → Nat → Bool) (t : List (Nat × AV)) : Prop where
 sep : ∀ (i j : Nat) (oi oj : Oper), L[i]? = some oi → L[j]? = some oj → i ≠ j → b i j = false → b j i = false → (nB (jE L) oi).isSome = true → mO oj = true →
   ∃ x, nB (jE L) oi = some x ∧ sepB (ev t .other x) (oj.op.operands.toList.map (ev t .other)) = true

structure DI (n : Nat) (ds : DB) (L : List Oper) (b : Nat → Nat → Bool) (rs : Nat → Rec) (tk : Nat → List (Nat × AV)) (η : Nat → List AObj) (D : Nat → Prop) (X : Cx) (a : Act) : Prop where
 hr : HR X
 len : X.h.length = (η L.length).length
 heap : ∀ id k, k ≤ L.length → id < (η L.length).length → (∀ m, m < L.length → vE rs η m id → (m < k ↔ D m)) → X.h[id]? = hx η k id
 made : ∀ m id o, m < L.length → D m → (rs m).mm = some (id, o) → ∀ j, j < L.length → (η j).length ≤ id → id < (η (j + 1)).length → D j
 closed : ∀ k, D k → ∀ i, b k i = true → D i
 tmp : ∀ i k, k ≤ L.length → (∀ (m : Nat) (o : Oper), L[m]? = some o → o.dst = some i → (m < k ↔ D m)) → VV X (get (tk k) i) (a.tmps.getD i undef)
 size : n ≤ a.tmps.size
 defers : lR ds X a.defers

variable {n : Nat} {ds : DB} {D : Nat → Prop} {X : Cx} {a : Act} {k : Nat} {o : Oper}

theorem TS.final (T : TS c L L t0 h0 rs tk η) (DF : iX L b) {i : Nat} {oi : Oper} (hi : L[i]? = some oi) (hb : ∀ (w : Nat) (ow : Oper) (d : Nat), L[w]? = some ow → ow.dst = some d → d ∈ oQ oi → b i w = true)
   {x : Operand} (hx : x ∈ oi.op.operands.toList) (d : TyD) : ev (tk L.length) d x = ev (tk i) d x := by
 have hil : i < L.length := (List.getElem?_eq_some_iff.1 hi).1
 refine aLK (fun j hj => ?_) d
 subst hj
 refine T.tk_same (Nat.le_of_lt hil) (Nat.le_refl _) fun m o h1 h2 hm hd => ?_
 have := DF.lt (hb m o j hm hd (aDj hx))
 omega

section ready

theorem uP (T : TS c L L t0 h0 rs tk η) (DF : iX L b) (I : DI n ds L b rs tk η D X a) (ho : L[k]? = some o) (hk : ¬ D k) (hready : ∀ e ∈ o.after.toList, Region.binds .any e = true → D e.on) : ∀ i, b k i = true → D i := by
 intro i h
 obtain ⟨o', ho', e, he, hb, h1⟩ := DF.bit k i h
 rw [ho] at ho'; cases ho'
 rcases h1 with rfl | h1
 · exact hready e he hb
 · exact I.closed _ (hready e he hb) _ h1

theorem aKu (T : TS c L L t0 h0 rs tk η) (DF : iX L b) (I : DI n ds L b rs tk η D X a) (ho : L[k]? = some o) (hk : ¬ D k) (hready : ∀ e ∈ o.after.toList, Region.binds .any e = true → D e.on) {i : Nat} (hi : i ∈ oQ o) (m : Nat) (o' : Oper) (hm : L[m]? = some o') (hd : o'.dst = some i) : m < k ↔ D m := by
 rcases DF.reads k m o o' i ho hm hd hi with h | ⟨h1, h2⟩ | h
 · exact ⟨fun _ => uP T DF I ho hk hready m h, fun _ => DF.lt h⟩
 · have := DF.lt h2
   exact ⟨fun h => by omega, fun h => absurd (I.closed m h k h2) hk⟩
 · subst h
   exact ⟨fun h => by omega, fun h => absurd h hk⟩

theorem aAu (T : TS c L L t0 h0 rs tk η) (DF : iX L b) (I : DI n ds L b rs tk η D X a) (ho : L[k]? = some o) (hk : ¬ D k) (hready : ∀ e ∈ o.after.toList, Region.binds .any e = true → D e.on) {x : Operand} (hx : x ∈ o.op.operands.toList) (d : TyD) : VV X (ev (tk k) d x) (a.eval x) := by
 have hkl : k < L.length := (List.getElem?_eq_some_iff.1 ho).1
 cases x with
 | tmp i => exact I.tmp i k (Nat.le_of_lt hkl) fun m o' hm hd => aKu T DF I ho hk hready (aDj hx) m o' hm hd
 | const v => exact aGm d v
 | global g => trivial
 | func f => exact ⟨#[], #[], rfl, by simp [VVs], by simp [VVs]⟩

theorem aBE (T : TS c L L t0 h0 rs tk η) (DF : iX L b) (I : DI n ds L b rs tk η D X a) (ho : L[k]? = some o) (hk : ¬ D k) (hready : ∀ e ∈ o.after.toList, Region.binds .any e = true → D e.on) {j : Nat} {want : Bool} (hg : o.guard = some (j, want)) {g : Nat} (hgt : jX L j = some g) : VV X (get (tk k) g) (a.tmps.getD g undef) := by
 have hkl : k < L.length := (List.getElem?_eq_some_iff.1 ho).1
 obtain ⟨hb, hjk⟩ := DF.guard k o ho j want hg
 refine I.tmp g k (Nat.le_of_lt hkl) fun m o' hm hd => ?_
 obtain ⟨oj, hoj, hdj⟩ : ∃ oj, L[j]? = some oj ∧ oj.dst = some g := by
   unfold jX at hgt
   cases h : L[j]? with
   | none => rw [h] at hgt; cases hgt
   | some oj => rw [h] at hgt; exact ⟨oj, rfl, hgt⟩
 obtain rfl := DF.once m j o' oj g hm hoj hd hdj
 exact ⟨fun _ => uP T DF I ho hk hready m hb, fun _ => hjk⟩

theorem aEG (T : TS c L L t0 h0 rs tk η) (DF : iX L b) (I : DI n ds L b rs tk η D X a) (ho : L[k]? = some o) (hk : ¬ D k) (hready : ∀ e ∈ o.after.toList, Region.binds .any e = true → D e.on) (hr : (rs k).ran = true) {x : Operand} (hx' : x ∈ o.op.operands.toList) {id : Nat} (hid : id ∈ (ev (tk k) .other x).ids) {j : Nat} (hj : j < L.length) (h1 : (η j).length ≤ id) (h2 : id < (η (j + 1)).length) : j < k ∧ D j := by
 have hkl : k < L.length := (List.getElem?_eq_some_iff.1 ho).1
 have hlt := (T.ran k o ho hr).2 x hx' id hid
 have hjk : j < k := by
   rcases Nat.lt_or_ge j k with h | h
   · exact h
   · have := T.mono h (Nat.le_of_lt hj); omega
 refine ⟨hjk, ?_⟩
 apply Classical.byContradiction
 intro hD
 have hN : id < (η L.length).length := Nat.lt_of_lt_of_le h2 (T.mono (by omega) (Nat.le_refl _))
 have hdead := I.heap id j (Nat.le_of_lt hj) hN fun m hm ht => by
   rcases ht with ⟨h3, h4⟩ | ⟨q, h3⟩
   · have : m = j := by
       rcases Nat.lt_trichotomy m j with h | h | h
       · have := T.mono (k := m + 1) (k' := j) (by omega) (by omega); omega
       · exact h
       · have := T.mono (k := j + 1) (k' := m) (by omega) (by omega); omega
     subst this
     exact ⟨fun h => by omega, fun h => absurd h hD⟩
   · obtain ⟨om, hom⟩ : ∃ om, L[m]? = some om := ⟨_, List.getElem?_eq_getElem hm⟩
     have := (T.mut_lt hom h3).1
     constructor
     · intro h
       have := T.mono (k := m) (k' := j) (by omega) (by omega); omega
     · intro h
       exact absurd (I.made m id q hm h h3 j hj h1 h2) hD
 unfold hx at hdead
 rw [if_neg (by omega)] at hdead
 exact (xU (aAu T DF I ho hk hready hx' .other) id hid).alive I.hr hdead

theorem aEH (T : TS c L L t0 h0 rs tk η) (DF : iX L b) (SP : Sep L b (tk L.length)) (I : DI n ds L b rs tk η D X a) (ho : L[k]? = some o) (hk : ¬ D k) (hready : ∀ e ∈ o.after.toList, Region.binds .any e = true → D e.on) (hr : (rs k).ran = true) (hl : mO o = true) {x : Operand} (hx' : x ∈ o.op.operands.toList) {id : Nat} (hid : id ∈ (ev (tk k) .other x).ids) :
   ∀ m, m < L.length → vE rs η m id → (m < k ↔ D m) := by
 intro m hm ht
 by_cases hmk : m = k
 · subst hmk; exact ⟨fun h => by omega, fun h => absurd h hk⟩
 obtain ⟨om, hom⟩ : ∃ om, L[m]? = some om := ⟨_, List.getElem?_eq_getElem hm⟩
 rcases ht with ⟨h1, h2⟩ | ⟨q, h1⟩
 · obtain ⟨p1, p2⟩ := aEG T DF I ho hk hready hr hx' hid hm h1 h2
   exact ⟨fun _ => p2, fun _ => p1⟩
 · cases hb1 : b k m with
   | true => exact ⟨fun _ => uP T DF I ho hk hready m hb1, fun _ => DF.lt hb1⟩
   | false =>
     cases hb2 : b m k with
     | true =>
       have := DF.lt hb2
       exact ⟨fun h => by omega, fun h => absurd (I.closed m h k hb2) hk⟩
     | false =>
       exfalso
       obtain ⟨_, y, q1, q2, q3, q4⟩ := T.mut_lt hom h1
       have hbh := DF.behind m k om o hom ho hmk hb2 hb1 (by rw [q1]; rfl) hl
       obtain ⟨y', e1, e2⟩ := SP.sep m k om o hom ho hmk hb2 hb1 (by rw [q1]; rfl) hl
       rw [q1] at e1; cases e1
       refine aLI e2 (i := id) ?_ ?_
       · rw [T.final DF hom (fun w ow d hw hd hm' => (hbh w ow d hw hd).1 hm') q2]; exact q3
       · refine aCb (List.mem_map_of_mem hx') id ?_
         rw [T.final DF ho (fun w ow d hw hd hm' => (hbh w ow d hw hd).2 hm') hx']; exact hid

theorem aDk (T : TS c L L t0 h0 rs tk η) (DF : iX L b) (SP : Sep L b (tk L.length)) (I : DI n ds L b rs tk η D X a) (ho : L[k]? = some o) (hk : ¬ D k) (hready : ∀ e ∈ o.after.toList, Region.binds .any e = true → D e.on) {id : Nat} (ht : vE rs η k id) : ∀ m, m < L.length → vE rs η m id → (m < k ↔ D m) := by
 have hkl : k < L.length := (List.getElem?_eq_some_iff.1 ho).1
 rcases ht with ⟨h1, h2⟩ | ⟨q, h1⟩
 · intro m hm htm
   by_cases hmk : m = k
   · subst hmk; exact ⟨fun h => by omega, fun h => absurd h hk⟩
   rcases htm with ⟨h3, h4⟩ | ⟨q, h3⟩
   · exfalso
     rcases Nat.lt_or_gt_of_ne hmk with h | h
     · have := T.mono (k := m + 1) (k' := k) (by omega) (by omega); omega
     · have := T.mono (k := k + 1) (k' := m) (by omega) (by omega); omega
   · obtain ⟨om, hom⟩ : ∃ om, L[m]? = some om := ⟨_, List.getElem?_eq_getElem hm⟩
     have := (T.mut_lt hom h3).1
     constructor
     · intro h
       have := T.mono (k := m) (k' := k) (by omega) (by omega); omega
     · intro h
       exact absurd (I.made m id q hm h h3 k hkl h1 h2) hk
 · have hr : (rs k).ran = true := by
     cases h : (rs k).ran with
     | true => rfl
     | false => rw [(T.pass k o ho h).2.2] at h1; cases h1
   obtain ⟨_, y, q1, q2, q3, q4⟩ := T.mut_lt ho h1
   exact aEH T DF SP I ho hk hready hr q4 q2 q3

theorem aDl (T : TS c L L t0 h0 rs tk η) (DF : iX L b) (SP : Sep L b (tk L.length)) (I : DI n ds L b rs tk η D X a) (ho : L[k]? = some o) (hk : ¬ D k) (hready : ∀ e ∈ o.after.toList, Region.binds .any e = true → D e.on) {Y : Cx} {q : Value} (hd : ∀ i, o.dst = some i → i < n) (HY : HR Y) (E : Ext X Y) (hh : Y.h = dY (eV X.h (η k).length (rs k).news) (rs k).mm) (hv : VV Y (rs k).v q) :
   DI n ds L b rs tk η (fun i => D i ∨ i = k) Y (a.put o.dst q) := by
 have hkl : k < L.length := (List.getElem?_eq_some_iff.1 ho).1
 have hsk := T.lenS hkl
 have hmono := T.mono (k := k + 1) (k' := L.length) (by omega) (Nat.le_refl _)
 have hroom : (rs k).news ≠ [] → (η k).length + (rs k).news.length ≤ X.h.length := fun _ => by rw [I.len]; omega
 refine ⟨HY, by rw [hh, zV, vP, I.len], fun id k' hk' hid hyp => ?_, fun m id q hm hD hmm j hj h1 h2 => ?_, fun m hD i hb => ?_, fun i k' hk' hyp => ?_, by
   cases o.dst <;> simp [Act.put, I.size], by have := I.defers.ext E; cases o.dst <;> exact this⟩
 · by_cases ht : vE rs η k id
   · have hkk' : k < k' := (hyp k hkl ht).2 (.inr rfl)
     have star := aDk T DF SP I ho hk hready ht
     have e1 : hx η k' id = hx η (k + 1) id := T.hx_same hkk' hk' fun m h1 h2 htm => by
       have := (hyp m (by omega) htm).1 h2
       rcases this with h | h
       · have := (star m (by omega) htm).2 h; omega
       · omega
     rw [e1]
     have e2 := I.heap id k (Nat.le_of_lt hkl) hid star
     have hid1 : id < (η (k + 1)).length := by
       rcases ht with ⟨_, h⟩ | ⟨q, h⟩
       · exact h
       · have := (T.mut_lt ho h).1; omega
     unfold hx
     rw [if_pos hid1, hh, T.hs k hkl]
     apply aGu
     rw [rB _ _ _ hroom]
     by_cases h1 : (η k).length ≤ id ∧ id < (η k).length + (rs k).news.length
     · rw [if_pos h1, List.getElem?_append_right h1.1]
     · have h2 : id < (η k).length := by omega
       rw [if_neg h1, List.getElem?_append_left h2, e2]
       unfold hx
       rw [if_pos h2]
   · rw [hh, aDi _ _ _ (fun q e => ht (.inr ⟨q, e⟩)), rB _ _ _ hroom, if_neg fun h => ht (.inl ⟨h.1, by omega⟩)]
     refine I.heap id k' hk' hid fun m hm htm => ?_
     have hmk : m ≠ k := by rintro rfl; exact ht htm
     rw [hyp m hm htm]
     exact ⟨fun h => h.resolve_right hmk, .inl⟩
 · rcases hD with hD | rfl
   · exact .inl (I.made m id q hm hD hmm j hj h1 h2)
   · have hr : (rs m).ran = true := by
       cases h : (rs m).ran with
       | true => rfl
       | false => rw [(T.pass m o ho h).2.2] at hmm; cases hmm
     obtain ⟨_, y, q1, q2, q3, q4⟩ := T.mut_lt ho hmm
     exact .inl (aEG T DF I ho hk hready hr q2 q3 hj h1 h2).2
 · rcases hD with hD | rfl
   · exact .inl (I.closed m hD i hb)
   · exact .inl (uP T DF I ho hk hready i hb)
 · by_cases hi : o.dst = some i
   · have hkk' : k < k' := (hyp k o ho hi).2 (.inr rfl)
     have hval : get (tk k') i = (rs k).v := by
       rw [T.tk_same (k := k + 1) (k' := k') hkk' hk' fun m o' h1 h2 hm hdm => by
         have := DF.once m k o' o i hm ho hdm hi; omega]
       rw [T.ts k o ho, if_pos hi]
     rw [hval, hi]
     have hs : i < a.tmps.size := Nat.lt_of_lt_of_le (hd i hi) I.size
     simp [Act.put, Array.getD_eq_getD_getElem?, Array.getElem?_setIfInBounds, hs, hv]
   · have h1 : VV X (get (tk k') i) (a.tmps.getD i undef) := I.tmp i k' hk' fun m o' hm hdm => by
       have hmk : m ≠ k := by rintro rfl; rw [ho] at hm; cases hm; exact hi hdm
       rw [hyp m o' hm hdm]
       exact ⟨fun h => h.resolve_right hmk, .inl⟩
     have h2 : (a.put o.dst q).tmps.getD i undef = a.tmps.getD i undef := by
       cases hdst : o.dst with
       | none => rfl
       | some j =>
         have hji : j ≠ i := by rintro rfl; exact hi hdst
         simp [Act.put, Array.getD_eq_getD_getElem?, Array.getElem?_setIfInBounds, hji]
     rw [h2]; exact h1.ext E

theorem aEI (T : TS c L L t0 h0 rs tk η) (DF : iX L b) (SP : Sep L b (tk L.length)) (I : DI n ds L b rs tk η D X a) (ho : L[k]? = some o) (hk : ¬ D k) (hready : ∀ e ∈ o.after.toList, Region.binds .any e = true → D e.on) (hr : (rs k).ran = true) : ∃ S, S ∧ opD c (jE L) (η k).length (tk k) X.h o.op o.type = some (S, (rs k).v, (rs k).news, (rs k).mm) := by
 have hkl : k < L.length := (List.getElem?_eq_some_iff.1 ho).1
 obtain ⟨⟨S, hS, e⟩, hb⟩ := T.ran k o ho hr
 refine ⟨S, hS, ?_⟩
 cases hl : mO o with
 | false => rw [aIY hl (h' := η k)]; exact e
 | true =>
   rw [aAo (h' := η k)]
   · exact e
   · intro id hid
     obtain ⟨v, hv, hj⟩ := yU hid
     obtain ⟨x, hx', rfl⟩ := List.mem_map.1 hv
     have hlt := hb x hx' id hj
     have := I.heap id k (Nat.le_of_lt hkl) (Nat.lt_of_lt_of_le hlt (T.mono (Nat.le_of_lt hkl) (Nat.le_refl _))) (aEH T DF SP I ho hk hready hr hl hx' hj)
     rw [this]; unfold hx; rw [if_pos hlt]

theorem aDm (T : TS c L L t0 h0 rs tk η) (DF : iX L b) (SP : Sep L b (tk L.length)) (I : DI n ds L b rs tk η D X a) (ho : L[k]? = some o) (hk : ¬ D k) (hready : ∀ e ∈ o.after.toList, Region.binds .any e = true → D e.on) : ∀ j, j < (rs k).news.length → X.h[(η k).length + j]? = some .dead := by
 have hkl : k < L.length := (List.getElem?_eq_some_iff.1 ho).1
 intro j hj
 have hsk := T.lenS hkl
 have hmono := T.mono (k := k + 1) (k' := L.length) (by omega) (Nat.le_refl _)
 have := I.heap ((η k).length + j) k (Nat.le_of_lt hkl) (by omega) (aDk T DF SP I ho hk hready (.inl ⟨by omega, by omega⟩))
 rw [this]; unfold hx; rw [if_neg (by omega)]
end ready
end

end Lam
namespace Lam
open Go

theorem aEJ {listed : Array Bool} {i j : Nat} (h : listed.getD j true = false) : (listed.setIfInBounds j true).getD i false = true ↔ (listed.getD i false = true ∨ i = j) := by
 have hj : j < listed.size := by
   rcases Nat.lt_or_ge j listed.size with h1 | h1
   · exact h1
   · rw [Array.getD_eq_getD_getElem?, Array.getElem?_eq_none h1] at h; cases h
 simp only [Array.getD_eq_getD_getElem?, Array.getElem?_setIfInBounds]
 by_cases e : j = i
 · subst e; simp [hj]
 · simp [e, Ne.symm e]

section
variable {ro : Option Nat} {P : Program} {n : Nat} {ds : DB} {c : Ctx} {ops : Array Oper} {t0 : List (Nat × AV)} {h0 : List AObj} {rs : Nat → Rec} {tk : Nat → List (Nat × AV)} {η : Nat → List AObj} {b : Nat → Nat → Bool}

theorem aKv (C : mR P c) (T : TS c ops.toList ops.toList t0 h0 rs tk η) (DF : iX ops.toList b) (SP : Sep ops.toList b (tk ops.toList.length)) (hd : ∀ o ∈ ops.toList, ∀ i, o.dst = some i → i < n) (nf : Nat) {Q : Exit → Act → World → Prop} {X00 : Cx}
   (hQ : ∀ Y a', HR Y → Ext X00 Y → SR n ds Y (tk ops.toList.length) a' → Y.h = η ops.toList.length → Q .normal a' Y.w) :
   ∀ (fuel : Nat) (listed : Array Bool) (X : Cx) (a : Act), listed.size = ops.size → listed.toList.count false ≤ fuel → Ext X00 X → DI n ds ops.toList b rs tk η (fun i => listed.getD i false = true) X a →
     wpAnyIn (FW ro) nf P .any ops Q fuel listed a X.w := by
 have fin : ∀ (listed : Array Bool) (X : Cx) (a : Act), Ext X00 X → DI n ds ops.toList b rs tk η (fun i => listed.getD i false = true) X a → (∀ i, i < ops.toList.length → listed.getD i false = true) → Q .normal a X.w := by
   intro listed X a E I hall
   refine hQ X a I.hr E ⟨fun i => I.tmp i _ (Nat.le_refl _) fun m o hm _ => ?_, I.size, I.defers⟩ ?_
   · have := (List.getElem?_eq_some_iff.1 hm).1
     exact ⟨fun _ => hall m this, fun _ => this⟩
   · apply List.ext_getElem?
     intro id
     rcases Nat.lt_or_ge id (η ops.toList.length).length with h | h
     · rw [I.heap id _ (Nat.le_refl _) h fun m hm _ => ⟨fun _ => hall m hm, fun _ => hm⟩]
       unfold hx; rw [if_pos h]
     · rw [List.getElem?_eq_none h, List.getElem?_eq_none (by rw [I.len]; exact h)]
 have noready : ∀ (listed : Array Bool), listed.size = ops.size → Region.ready .any ops listed = [] → ∀ i, i < ops.toList.length → listed.getD i false = true := by
   intro listed hsz hr i
   induction i using Nat.strongRecOn with
   | _ i ih =>
     intro hi
     have hi' : i < ops.size := by simpa using hi
     apply Classical.byContradiction
     intro hc
     have : i ∈ Region.ready .any ops listed := by
       rw [mem_ready]
       refine ⟨?_, ops[i], by simp [hi'], fun e he hb => ?_⟩
       · rw [Array.getD_eq_getD_getElem?, Array.getElem?_eq_getElem (by omega)] at hc ⊢
         simpa using hc
       · have hlt := DF.edge i ops[i] (by simp [hi']) e (by simpa using he) hb
         exact ih e.on hlt (by omega)
     rw [hr] at this; cases this
 intro fuel
 induction fuel with
 | zero =>
   intro listed X a hsz hc E I
   have hall : ∀ i, i < ops.toList.length → listed.getD i false = true := by
     intro i hi
     have hi' : i < listed.size := by rw [hsz]; simpa using hi
     have h0 : listed.toList.count false = 0 := by omega
     rw [List.count_eq_zero] at h0
     rw [Array.getD_eq_getD_getElem?, Array.getElem?_eq_getElem hi']
     simp only [Option.getD_some]
     cases hx : listed[i] with
     | true => rfl
     | false => exact absurd (by rw [← hx]; simp) h0
   refine ⟨?_, fin listed X a E I hall⟩
   apply List.eq_nil_iff_forall_not_mem.2
   intro j hj
   rw [mem_ready] at hj
   obtain ⟨h1, o, ho, _⟩ := hj
   have hjl : j < ops.toList.length := by simpa using (Array.getElem?_eq_some_iff.1 ho).1
   have := hall j hjl
   have hjs : j < listed.size := by rw [hsz]; simpa using hjl
   rw [Array.getD_eq_getD_getElem?, Array.getElem?_eq_getElem hjs] at this h1
   simp only [Option.getD_some] at this h1
   rw [this] at h1; cases h1
 | succ fuel ih =>
   intro listed X a hsz hc E I
   refine ⟨fun hr => fin listed X a E I (noready listed hsz hr), fun k hk => ?_⟩
   rw [mem_ready] at hk
   obtain ⟨hkf, o, ho, hedges⟩ := hk
   have hoL : ops.toList[k]? = some o := by simpa using ho
   have hks : k < listed.size := by rw [hsz]; exact (Array.getElem?_eq_some_iff.1 ho).1
   have hkD : ¬ listed.getD k false = true := by
     rw [Array.getD_eq_getD_getElem?, Array.getElem?_eq_getElem hks] at hkf ⊢
     simp only [Option.getD_some] at hkf ⊢
     rw [hkf]; simp
   have hready : ∀ e ∈ o.after.toList, Region.binds .any e = true → listed.getD e.on false = true := fun e he hb => hedges e (by simpa using he) hb
   have hdo : ∀ i, o.dst = some i → i < n := hd o (List.mem_of_getElem? hoL)
   have hset : (fun i => (listed.setIfInBounds k true).getD i false = true) = fun i => listed.getD i false = true ∨ i = k := by
     funext i; exact propext (aEJ hkf)
   have hcnt : (listed.setIfInBounds k true).toList.count false ≤ fuel := by
     have hlf : listed.toList[k]'(by simpa using hks) = false := by
       rw [Array.getD_eq_getD_getElem?, Array.getElem?_eq_getElem hks] at hkf
       simpa using hkf
     rw [Array.toList_setIfInBounds, List.count_set (by simpa using hks), hlf]
     have e1 : (false == false) = true := rfl
     have e2 : ¬ (true == false) = true := by decide
     rw [if_pos e1, if_neg e2]; omega
   have next : ∀ (Y : Cx) (q : Value), HR Y → Ext X Y → Y.h = dY (eV X.h (η k).length (rs k).news) (rs k).mm → VV Y (rs k).v q →
       wpAnyIn (FW ro) nf P .any ops Q fuel (listed.setIfInBounds k true) (a.put o.dst q) Y.w := by
     intro Y q HY EY hh hv
     refine ih _ Y _ (by simpa using hsz) hcnt (E.trans EY) ?_
     rw [hset]
     exact aDl T DF SP I hoL hkD hready hdo HY EY hh hv
   unfold wpOpIn
   rw [ho]
   have pass : (rs k).ran = false → Region.wanted o (yielded ops a.tmps) = false →
       (if Region.wanted o (yielded ops a.tmps) = true then o.wpIn (FW ro) nf P a X.w (wpAnyIn (FW ro) nf P .any ops Q fuel (listed.setIfInBounds k true)) Q
         else (∀ f, o.about P X.w a.eval = some f → (FW ro).fn f) ∧ wpAnyIn (FW ro) nf P .any ops Q fuel (listed.setIfInBounds k true) (a.put o.dst undef) X.w) := by
     intro hr hw
     rw [if_neg (by rw [hw]; simp)]
     obtain ⟨p1, p2, p3⟩ := T.pass k o hoL hr
     exact ⟨fun _ _ => trivial, next X undef I.hr (Ext.refl X) (by rw [p2, p3]; rfl) (by rw [p1]; rfl)⟩
   have run : (rs k).ran = true → Region.wanted o (yielded ops a.tmps) = true →
       (if Region.wanted o (yielded ops a.tmps) = true then o.wpIn (FW ro) nf P a X.w (wpAnyIn (FW ro) nf P .any ops Q fuel (listed.setIfInBounds k true)) Q
         else (∀ f, o.about P X.w a.eval = some f → (FW ro).fn f) ∧ wpAnyIn (FW ro) nf P .any ops Q fuel (listed.setIfInBounds k true) (a.put o.dst undef) X.w) := by
     intro hr hw
     rw [if_pos hw]
     obtain ⟨S, hS, e⟩ := aEI T DF SP I hoL hkD hready hr
     have hto := wH (ro := ro) (a := a) I.hr C (fun x hx d => aAu T DF I hoL hkD hready hx d) (aDm T DF SP I hoL hkD hready) e hS
     refine hto nf _ Q fun q w' hg => ?_
     obtain ⟨Y, rfl, hYh, HY, EY, hv⟩ := hg
     exact next Y q HY EY hYh hv
   have hg := T.guard k o hoL
   show (if Region.wanted o (yielded ops a.tmps) = true then _ else _)
   split at hg
   · rename_i hgn
     exact run hg (by simp [Region.wanted, hgn])
   · rename_i j want hgs
     obtain ⟨g, hgt, hcase⟩ := hg
     have hv := aBE T DF I hoL hkD hready hgs hgt
     rcases hcase with ⟨bb, hb, hran⟩ | ⟨hb, hran⟩
     · rw [hb] at hv
       have hy := uL hgt hv
       have hw : Region.wanted o (yielded ops a.tmps) = (bb == want) := by simp [Region.wanted, hgs, hy]
       cases hbw : (bb == want) with
       | true => exact run (by rw [hran, hbw]) (by rw [hw, hbw])
       | false => exact pass (by rw [hran, hbw]) (by rw [hw, hbw])
     · rw [hb] at hv
       have hy := aAr hgt hv
       exact pass hran (by simp [Region.wanted, hgs, hy])

theorem aDn {L : List Oper} {o : Oper} {j g : Nat} (h : jX L j = some g) : jX (L ++ [o]) j = some g := by
 unfold jX at h ⊢
 cases e : L[j]? with
 | none => rw [e] at h; cases h
 | some q =>
   rw [e] at h
   rw [List.getElem?_append_left (List.getElem?_eq_some_iff.1 e).1, e]; exact h

theorem aJa (C : mR P c) {L : List Oper} {o1 : Oper} (hops : ops.toList = L ++ [o1]) (hg1 : o1.guard = none)
   (hedge : ∀ e ∈ o1.after.toList, Region.binds .any e = true → e.on < L.length) (hbef : ∀ i, i < L.length → ∃ e ∈ o1.after.toList, Region.binds .any e = true ∧ (e.on = i ∨ b e.on i = true))
   (T : TS c L L t0 h0 rs tk η) (DF : iX L b) (SP : Sep L b (tk L.length)) (hd : ∀ o ∈ L, ∀ i, o.dst = some i → i < n) (nf : Nat) {Q : Exit → Act → World → Prop} {X00 : Cx}
   (hl : ∀ (Y : Cx) (a' : Act) (next : Act → World → Prop), HR Y → Ext X00 Y → SR n ds Y (tk L.length) a' → Y.h = η L.length → (∀ a2 w2, Q .normal a2 w2 → next a2 w2) → o1.wpIn (FW ro) nf P a' Y.w next Q) :
   ∀ (fuel : Nat) (listed : Array Bool) (X : Cx) (a : Act), listed.size = ops.size → listed.getD L.length true = false → listed.toList.count false ≤ fuel → Ext X00 X → DI n ds L b rs tk η (fun i => listed.getD i false = true) X a →
     wpAnyIn (FW ro) nf P .any ops Q fuel listed a X.w := by
 have hsize : ops.size = L.length + 1 := by rw [← Array.length_toList, hops]; simp
 have hlast : ops[L.length]? = some o1 := by rw [← Array.getElem?_toList, hops]; simp
 have hget : ∀ k, k < L.length → ops[k]? = L[k]? := fun k hk => by rw [← Array.getElem?_toList, hops, List.getElem?_append_left hk]
 have fin : ∀ (listed : Array Bool) (X : Cx) (a : Act), Ext X00 X → DI n ds L b rs tk η (fun i => listed.getD i false = true) X a → (∀ i, i < L.length → listed.getD i false = true) → SR n ds X (tk L.length) a ∧ X.h = η L.length := by
   intro listed X a E I hall
   refine ⟨⟨fun i => I.tmp i _ (Nat.le_refl _) fun m o hm _ => ?_, I.size, I.defers⟩, ?_⟩
   · have := (List.getElem?_eq_some_iff.1 hm).1
     exact ⟨fun _ => hall m this, fun _ => this⟩
   · apply List.ext_getElem?
     intro id
     rcases Nat.lt_or_ge id (η L.length).length with h | h
     · rw [I.heap id _ (Nat.le_refl _) h fun m hm _ => ⟨fun _ => hall m hm, fun _ => hm⟩]
       unfold hx; rw [if_pos h]
     · rw [List.getElem?_eq_none h, List.getElem?_eq_none (by rw [I.len]; exact h)]
 have noready : ∀ (listed : Array Bool), listed.size = ops.size → Region.ready .any ops listed = [] → ∀ i, i < L.length → listed.getD i false = true := by
   intro listed hsz hr i
   induction i using Nat.strongRecOn with
   | _ i ih =>
     intro hi
     apply Classical.byContradiction
     intro hc
     have : i ∈ Region.ready .any ops listed := by
       rw [mem_ready]
       have hoi : ops[i]? = some L[i] := by rw [hget i hi]; exact List.getElem?_eq_getElem hi
       refine ⟨?_, L[i], hoi, fun e he hb => ?_⟩
       · rw [Array.getD_eq_getD_getElem?, Array.getElem?_eq_getElem (by omega)] at hc ⊢
         simpa using hc
       · have hlt := DF.edge i L[i] (List.getElem?_eq_getElem hi) e (by simpa using he) hb
         exact ih e.on hlt (by omega)
     rw [hr] at this; cases this
 intro fuel
 induction fuel with
 | zero =>
   intro listed X a hsz hlf hc E I
   exfalso
   have hm : L.length < listed.size := by omega
   have h0 : listed.toList.count false = 0 := by omega
   rw [List.count_eq_zero] at h0
   rw [Array.getD_eq_getD_getElem?, Array.getElem?_eq_getElem hm] at hlf
   simp only [Option.getD_some] at hlf
   exact h0 (by rw [← hlf]; simp)
 | succ fuel ih =>
   intro listed X a hsz hlf hc E I
   have hm : L.length < listed.size := by omega
   by_cases hall : ∀ i, i < L.length → listed.getD i false = true
   · obtain ⟨hS, hh⟩ := fin listed X a E I hall
     have hmr : L.length ∈ Region.ready .any ops listed := by
       rw [mem_ready]
       exact ⟨hlf, o1, hlast, fun e he hb => hall e.on (hedge e (by simpa using he) hb)⟩
     refine ⟨fun hr => (by rw [hr] at hmr; cases hmr), fun k hk => ?_⟩
     rw [mem_ready] at hk
     obtain ⟨hkf, o, ho, _⟩ := hk
     have hkm : k = L.length := by
       have h1 : k < ops.size := (Array.getElem?_eq_some_iff.1 ho).1
       apply Classical.byContradiction
       intro hne
       have h2 := hall k (by omega)
       rw [Array.getD_eq_getD_getElem?, Array.getElem?_eq_getElem (by omega)] at hkf h2
       simp only [Option.getD_some] at hkf h2
       rw [h2] at hkf; cases hkf
     subst hkm
     rw [hlast] at ho; cases ho
     unfold wpOpIn
     rw [hlast]
     show (if Region.wanted o1 (yielded ops a.tmps) = true then _ else _)
     rw [if_pos (by simp [Region.wanted, hg1])]
     refine hl X a _ I.hr E hS hh fun a2 w2 hq => ?_
     refine wpAnyIn_done ?_ hq _
     apply List.eq_nil_iff_forall_not_mem.2
     intro j hj
     rw [mem_ready] at hj
     obtain ⟨h1, o, ho, _⟩ := hj
     have hjl : j < ops.size := (Array.getElem?_eq_some_iff.1 ho).1
     rw [Array.getD_eq_getD_getElem?, Array.getElem?_setIfInBounds] at h1
     by_cases e : L.length = j
     · subst e
       rw [if_pos rfl, if_pos hm] at h1; cases h1
     · rw [if_neg e] at h1
       have h2 := hall j (by omega)
       rw [Array.getD_eq_getD_getElem?, Array.getElem?_eq_getElem (by omega)] at h2
       rw [Array.getElem?_eq_getElem (by omega)] at h1
       simp only [Option.getD_some] at h1 h2
       rw [h2] at h1; cases h1
   refine ⟨fun hr => absurd (noready listed hsz hr) hall, fun k hk => ?_⟩
   rw [mem_ready] at hk
   obtain ⟨hkf, o, ho, hedges⟩ := hk
   have hks : k < listed.size := by rw [hsz]; exact (Array.getElem?_eq_some_iff.1 ho).1
   have hkL : k < L.length := by
     apply Classical.byContradiction
     intro hge
     have hkm : k = L.length := by omega
     subst hkm
     rw [hlast] at ho; cases ho
     refine hall fun i hi => ?_
     obtain ⟨e, he, hb, h1⟩ := hbef i hi
     have h2 := hedges e (by simpa using he) hb
     rcases h1 with rfl | h1
     · exact h2
     · exact I.closed _ h2 _ h1
   have hoL : L[k]? = some o := by rw [← hget k hkL]; exact ho
   have hkD : ¬ listed.getD k false = true := by
     rw [Array.getD_eq_getD_getElem?, Array.getElem?_eq_getElem hks] at hkf ⊢
     simp only [Option.getD_some] at hkf ⊢
     rw [hkf]; simp
   have hready : ∀ e ∈ o.after.toList, Region.binds .any e = true → listed.getD e.on false = true := fun e he hb => hedges e (by simpa using he) hb
   have hdo : ∀ i, o.dst = some i → i < n := hd o (List.mem_of_getElem? hoL)
   have hset : (fun i => (listed.setIfInBounds k true).getD i false = true) = fun i => listed.getD i false = true ∨ i = k := by
     funext i; exact propext (aEJ hkf)
   have hcnt : (listed.setIfInBounds k true).toList.count false ≤ fuel := by
     have hlf : listed.toList[k]'(by simpa using hks) = false := by
       rw [Array.getD_eq_getD_getElem?, Array.getElem?_eq_getElem hks] at hkf
       simpa using hkf
     rw [Array.toList_setIfInBounds, List.count_set (by simpa using hks), hlf]
     have e1 : (false == false) = true := rfl
     have e2 : ¬ (true == false) = true := by decide
     rw [if_pos e1, if_neg e2]; omega
   have hlf2 : (listed.setIfInBounds k true).getD L.length true = false := by
     rw [Array.getD_eq_getD_getElem?, Array.getElem?_setIfInBounds, if_neg (by omega), ← Array.getD_eq_getD_getElem?]; exact hlf
   have next : ∀ (Y : Cx) (q : Value), HR Y → Ext X Y → Y.h = dY (eV X.h (η k).length (rs k).news) (rs k).mm → VV Y (rs k).v q →
       wpAnyIn (FW ro) nf P .any ops Q fuel (listed.setIfInBounds k true) (a.put o.dst q) Y.w := by
     intro Y q HY EY hh hv
     refine ih _ Y _ (by simpa using hsz) hlf2 hcnt (E.trans EY) ?_
     rw [hset]
     exact aDl T DF SP I hoL hkD hready hdo HY EY hh hv
   unfold wpOpIn
   rw [ho]
   have pass : (rs k).ran = false → Region.wanted o (yielded ops a.tmps) = false →
       (if Region.wanted o (yielded ops a.tmps) = true then o.wpIn (FW ro) nf P a X.w (wpAnyIn (FW ro) nf P .any ops Q fuel (listed.setIfInBounds k true)) Q
         else (∀ f, o.about P X.w a.eval = some f → (FW ro).fn f) ∧ wpAnyIn (FW ro) nf P .any ops Q fuel (listed.setIfInBounds k true) (a.put o.dst undef) X.w) := by
     intro hr hw
     rw [if_neg (by rw [hw]; simp)]
     obtain ⟨p1, p2, p3⟩ := T.pass k o hoL hr
     exact ⟨fun _ _ => trivial, next X undef I.hr (Ext.refl X) (by rw [p2, p3]; rfl) (by rw [p1]; rfl)⟩
   have run : (rs k).ran = true → Region.wanted o (yielded ops a.tmps) = true →
       (if Region.wanted o (yielded ops a.tmps) = true then o.wpIn (FW ro) nf P a X.w (wpAnyIn (FW ro) nf P .any ops Q fuel (listed.setIfInBounds k true)) Q
         else (∀ f, o.about P X.w a.eval = some f → (FW ro).fn f) ∧ wpAnyIn (FW ro) nf P .any ops Q fuel (listed.setIfInBounds k true) (a.put o.dst undef) X.w) := by
     intro hr hw
     rw [if_pos hw]
     obtain ⟨S, hS, e⟩ := aEI T DF SP I hoL hkD hready hr
     have hto := wH (ro := ro) (a := a) I.hr C (fun x hx d => aAu T DF I hoL hkD hready hx d) (aDm T DF SP I hoL hkD hready) e hS
     refine hto nf _ Q fun q w' hg => ?_
     obtain ⟨Y, rfl, hYh, HY, EY, hv⟩ := hg
     exact next Y q HY EY hYh hv
   have hg := T.guard k o hoL
   show (if Region.wanted o (yielded ops a.tmps) = true then _ else _)
   split at hg
   · rename_i hgn
     exact run hg (by simp [Region.wanted, hgn])
   · rename_i j want hgs
     obtain ⟨g, hgt, hcase⟩ := hg
     have hv := aBE T DF I hoL hkD hready hgs hgt
     have hgt' : jX ops.toList j = some g := by rw [hops]; exact aDn hgt
     rcases hcase with ⟨bb, hb, hran⟩ | ⟨hb, hran⟩
     · rw [hb] at hv
       have hy := uL hgt' hv
       have hw : Region.wanted o (yielded ops a.tmps) = (bb == want) := by simp [Region.wanted, hgs, hy]
       cases hbw : (bb == want) with
       | true => exact run (by rw [hran, hbw]) (by rw [hw, hbw])
       | false => exact pass (by rw [hran, hbw]) (by rw [hw, hbw])
     · rw [hb] at hv
       have hy := aAr hgt' hv
       exact pass hran (by simp [Region.wanted, hgs, hy])

theorem aEK {X : Cx} (H : HR X) {w' : World} (hw : w'.heap = X.w.heap) (hv : kJ X.w w') : HR ⟨X.S, X.μ, X.h, w'⟩ ∧ Ext X ⟨X.S, X.μ, X.h, w'⟩ := by
 have E : Ext X ⟨X.S, X.μ, X.h, w'⟩ := by
   refine ⟨fun _ h => h, fun b _ => by rw [hw], fun b hb => .inl hb, fun i b hb => .inl hb, fun b _ _ => by rw [hw], by rw [hw]; exact Nat.le_refl _, fun i k ver l hl => ?_, fun i b h1 h2 => ⟨h2, h1⟩, hv⟩
   exact ⟨k, ver, l, hl, Nat.le_refl _, fun _ => ⟨rfl, rfl, fun b hb => ⟨hb, by simp only [eU, hw]; exact Nat.le_refl _⟩⟩, fun h => ⟨h, rfl⟩⟩
 refine ⟨⟨H.len, fun i o ho => ?_, H.apart, fun i b hb => ?_, fun b hb => ?_⟩, E⟩
 · obtain ⟨b, hb, hor⟩ := H.obj i o ho
   exact ⟨b, hb, hor.ext E fun k _ => by rw [hw]⟩
 · have := H.live i b hb
   rw [hw]; exact this
 · rw [hw]; exact H.old b hb

theorem aDo (C : mR P c) : mR P c.noS := ⟨C.tab, C.sh, C.fok⟩

theorem aHB (C : mR P c) (hm : P.follows .mixedOrders = true) (nf : Nat) {X : Cx} {a : Act} {t : List (Nat × AV)} (H : HR X) (R : SR n ds X t a) {id : Nat} (hd : ∀ o ∈ ops.toList, ∀ i, o.dst = some i → i < n)
   {κ : List (Nat × AV) → List AObj → Prop} {Q : Exit → Act → World → Prop} (hok : xL ops.toList (gV ops.toList []) = true)
   (hw : opsW c.noS (jE ops.toList) ops.toList (fun _ _ _ => False) (fun t h => sepW t (tC ops.toList (gV ops.toList [])) (κ t h)) ops.toList [] t X.h)
   (hQ : ∀ Y t' a', HR Y → Ext X Y → SR n ds Y t' a' → κ t' Y.h → Q .normal a' Y.w) : (Code.region id ops true).wpIn (FW ro) nf P Q a X.w := by
 have DF := aEF hok
 obtain ⟨rs, tk, η, T, hκ⟩ := uO (aDo C) rfl (fun _ _ _ _ h => h) (fun _ _ _ _ h => h) ops.toList ops.toList [] t X a hd (fun o ho => by
   obtain ⟨k, hk⟩ := List.getElem?_of_mem ho
   exact DF.noNil k o hk) (Kn.nil t) H R hw
 obtain ⟨hκ, hsep⟩ := aCg hκ
 have SP : Sep ops.toList (fun k j => ((gV ops.toList []).getD k 0).testBit j) (tk ops.toList.length) := by
   refine ⟨fun i j oi oj hi hj hne h1 h2 hmu hl => ?_⟩
   have hp := aAt hi hj hne h1 h2 hmu hl
   have hq : (nB (jE ops.toList) oi, oj.op.operands.toList) ∈ tC ops.toList (gV ops.toList []) := by
     unfold tC
     refine List.mem_map.2 ⟨_, hp, ?_⟩
     simp only [hi, hj]
   obtain ⟨x, hx, hb⟩ := hsep _ hq
   exact ⟨x, hx, hb⟩
 refine wpIn_region_any hm ?_
 obtain ⟨H1, E1⟩ := aEK H (w' := { X.w with drawn := X.w.drawn + 1 }) rfl ⟨rfl, rfl, rfl⟩
 obtain ⟨H2, E2⟩ := vQ H1 ((η ops.toList.length).length - X.h.length)
 have E3 := E1.trans E2
 have R3 := R.ext E3
 have hs0 : (η 0).length ≤ (η ops.toList.length).length := T.mono (Nat.zero_le _) (Nat.le_refl _)
 have hη0 : η 0 = X.h := T.h0
 rw [hη0] at hs0
 refine aKv (aDo C) T DF SP hd nf (X00 := X) (fun Y a' HY EY RY hh => hQ Y _ a' HY EY RY (by rw [hh]; exact hκ)) ops.size (Array.replicate ops.size false) _ a (by simp) ?_ E3 ?_
 · simp
 · have hF : ∀ i, ¬ (Array.replicate ops.size false).getD i false = true := by
     intro i
     simp only [Array.getD_eq_getD_getElem?, Array.getElem?_replicate]
     split <;> simp
   refine ⟨H2, ?_, fun id k hk hid hyp => ?_, fun m id o hm hD => absurd hD (hF m), fun k hD => absurd hD (hF k), fun i k hk hyp => ?_, R.size, R3.defers⟩
   · simp only [Cx.pad, List.length_append, List.length_replicate]; omega
   · rw [sW, T.hx_same (k := 0) (k' := k) (Nat.zero_le _) hk fun m _ h2 ht => hF m ((hyp m (by omega) ht).1 h2)]
     unfold hx
     rw [hη0]
     by_cases h1 : id < X.h.length
     · simp only [h1, if_true]
     · simp only [h1, if_false]
       rw [if_pos (by show id < X.h.length + _; omega)]
   · rw [T.tk_same (k := 0) (k' := k) (Nat.zero_le _) hk fun m o _ h2 hm' hdm => hF m ((hyp m o hm' hdm).1 h2), T.t0]
     exact R3.v i
theorem aGv (o : Oper) : ∀ (L : List Oper) (acc : List Nat) (k : Nat), k < acc.length + L.length → (gV (L ++ [o]) acc).getD k 0 = (gV L acc).getD k 0
 | [], acc, k, hk => by
   rw [List.nil_append, oX, uM [] _ k (by simp at hk ⊢; omega)]
   simp only [List.length_nil, Nat.add_zero] at hk
   simp only [gV, List.getD_eq_getElem?_getD, List.getElem?_append_left hk]
 | q :: L, acc, k, hk => by
   rw [List.cons_append, oX, oX]
   exact aGv o L _ k (by simp at hk ⊢; omega)

theorem aHC (C : mR P c) (CS : SOk P c.envS) (hdr : c.drawn = false) {B : Cx} (YY : ∀ l, YOk P B l (c.envY l)) (hm : P.follows .mixedOrders = true) (nf : Nat) {X : Cx} {a : Act} {t : List (Nat × AV)} (EB : Ext B X) (H : HR X) (R : SR n ds X t a) {id : Nat} (hd : ∀ o ∈ ops.toList, ∀ i, o.dst = some i → i < n)
   {L : List Oper} {o1 : Oper} (hlast : aDQ ops.toList = some (L, o1))
   {κ : AV → List (Nat × AV) → List AObj → Prop} {KP : List (Nat × AV) → AV → List AObj → Prop} {Q : Exit → Act → World → Prop} (hok : xL L (gV L []) = true)
   (hw : opsW c.noS (jE L) L (fun _ _ _ => False) (fun t h => sepW t (tC L (gV L [])) (opW c [] t h o1.op o1.type (fun v h' => κ v t h') (KP t))) L [] t X.h)
   (hQ : ∀ Y v t' a', HR Y → Ext X Y → SR n ds Y (putO o1.dst v t') a' → κ v t' Y.h → Q .normal a' Y.w)
   (hP : ∀ Y t' v q a', HR Y → Ext X Y → SR n ds Y t' a' → KP t' v Y.h → VV Y v q → Q (.panic [{ v := q, recovered := false }]) a' Y.w) : (Code.region id ops true).wpIn (FW ro) nf P Q a X.w := by
 obtain ⟨hops, hg1, hedge, hbef⟩ : ops.toList = L ++ [o1] ∧ o1.guard = none ∧ (∀ e ∈ o1.after.toList, Region.binds .any e = true → e.on < L.length) ∧ ∀ i, i < L.length → ∃ e ∈ o1.after.toList, Region.binds .any e = true ∧ (e.on = i ∨ ((gV L []).getD e.on 0).testBit i = true) := by
   unfold aDQ at hlast
   split at hlast
   · cases hlast
   rename_i q r hrev
   split at hlast
   rotate_left
   · cases hlast
   rename_i hop hgd
   split at hlast
   rotate_left
   · cases hlast
   rename_i hcond
   cases hlast
   have hops : ops.toList = r.reverse ++ [o1] := by
     have := congrArg List.reverse hrev
     rwa [List.reverse_reverse, List.reverse_cons] at this
   rw [Bool.and_eq_true] at hcond
   obtain ⟨h1, h2⟩ := hcond
   have hed : ∀ e ∈ o1.after.toList, Region.binds .any e = true → e.on < r.reverse.length := fun e he hb => by
     rw [List.all_eq_true] at h2
     have := h2 e he
     rw [hb] at this
     simpa using this
   refine ⟨hops, hgd, hed, fun i hi => ?_⟩
   rw [List.all_eq_true] at h1
   have hbit := h1 i (List.mem_range.2 (by simpa using hi))
   rw [hops] at hbit
   have hlen : r.length = r.reverse.length := by simp
   rw [hlen] at hbit
   obtain ⟨o', ho', e, he, hb, h3⟩ := aEe (r.reverse ++ [o1]) [] r.reverse.length i (Nat.zero_le _) hbit
   have e1 : o' = o1 := by
     simp only [List.length_nil, Nat.sub_zero] at ho'
     rw [List.getElem?_append_right (Nat.le_refl _), Nat.sub_self] at ho'
     simpa using ho'.symm
   subst e1
   refine ⟨e, he, hb, h3.imp (fun h => h) fun h3 => ?_⟩
   rwa [aGv _ _ _ _ (by simpa using hed e he hb)] at h3
 have DF := aEF hok
 have hdL : ∀ o ∈ L, ∀ i, o.dst = some i → i < n := fun o ho => hd o (by rw [hops]; exact List.mem_append_left _ ho)
 have hd1 : ∀ i, o1.dst = some i → i < n := hd o1 (by rw [hops]; simp)
 obtain ⟨rs, tk, η, T, hκ⟩ := uO (aDo C) rfl (fun _ _ _ _ h => h) (fun _ _ _ _ h => h) L L [] t X a hdL (fun o ho => by
   obtain ⟨k, hk⟩ := List.getElem?_of_mem ho
   exact DF.noNil k o hk) (Kn.nil t) H R hw
 obtain ⟨hκ, hsep⟩ := aCg hκ
 have SP : Sep L (fun k j => ((gV L []).getD k 0).testBit j) (tk L.length) := by
   refine ⟨fun i j oi oj hi hj hne h1 h2 hmu hl => ?_⟩
   have hp := aAt hi hj hne h1 h2 hmu hl
   have hq : (nB (jE L) oi, oj.op.operands.toList) ∈ tC L (gV L []) := by
     unfold tC
     refine List.mem_map.2 ⟨_, hp, ?_⟩
     simp only [hi, hj]
   obtain ⟨x, hx, hb⟩ := hsep _ hq
   exact ⟨x, hx, hb⟩
 refine wpIn_region_any hm ?_
 obtain ⟨H1, E1⟩ := aEK H (w' := { X.w with drawn := X.w.drawn + 1 }) rfl ⟨rfl, rfl, rfl⟩
 obtain ⟨H2, E2⟩ := vQ H1 ((η L.length).length - X.h.length)
 have E3 := E1.trans E2
 have R3 := R.ext E3
 have hs0 : (η 0).length ≤ (η L.length).length := T.mono (Nat.zero_le _) (Nat.le_refl _)
 have hη0 : η 0 = X.h := T.h0
 rw [hη0] at hs0
 have hsize : ops.size = L.length + 1 := by rw [← Array.length_toList, hops]; simp
 refine aJa (ds := ds) (aDo C) hops hg1 hedge hbef T DF SP hdL nf (X00 := X) (fun Y a' next HY EY RY hh hn => ?_) ops.size (Array.replicate ops.size false) _ a (by simp) ?_ ?_ E3 ?_
 · have hk2 : opW c [] (tk L.length) Y.h o1.op o1.type (fun v h' => κ v (tk L.length) h') (KP (tk L.length)) := by rw [hh]; exact hκ
   refine aEB C CS hdr YY (EB.trans EY) HY RY hk2 nf (fun Z v q HZ EZ hk hv => hn _ _ ?_) (fun Z v q HZ EZ hk hv => hP Z _ v q a' HZ (EY.trans EZ) (RY.ext EZ) hk hv)
   exact hQ Z v _ _ HZ (EY.trans EZ) ((RY.ext EZ).putO hd1 hv) hk
 · rw [Array.getD_eq_getD_getElem?, Array.getElem?_replicate, if_pos (by omega)]; rfl
 · simp
 · have hF : ∀ i, ¬ (Array.replicate ops.size false).getD i false = true := by
     intro i
     simp only [Array.getD_eq_getD_getElem?, Array.getElem?_replicate]
     split <;> simp
   refine ⟨H2, ?_, fun id k hk hid hyp => ?_, fun m id o hm hD => absurd hD (hF m), fun k hD => absurd hD (hF k), fun i k hk hyp => ?_, R.size, R3.defers⟩
   · simp only [Cx.pad, List.length_append, List.length_replicate]; omega
   · rw [sW, T.hx_same (k := 0) (k' := k) (Nat.zero_le _) hk fun m _ h2 ht => hF m ((hyp m (by omega) ht).1 h2)]
     unfold hx
     rw [hη0]
     by_cases h1 : id < X.h.length
     · simp only [h1, if_true]
     · simp only [h1, if_false]
       rw [if_pos (by show id < X.h.length + _; omega)]
   · rw [T.tk_same (k := 0) (k' := k) (Nat.zero_le _) hk fun m o _ h2 hm' hdm => hF m ((hyp m o hm' hdm).1 h2), T.t0]
     exact R3.v i
end

end Lam
namespace Lam
open Go

def ExR (n : Nat) (ds : DB) (Y : Cx) : sT → List (Nat × AV) → Exit → Act → Prop
 | .normal, t, e, a => e = .normal ∧ SR n ds Y t a
 | .exit i, t, e, a => e = .exit i ∧ SR n ds Y t a
 | .goto l, t, e, a => e = .goto l ∧ SR n ds Y t a
 | .ret, t, e, a => e = .ret ∧ SR n ds Y t a
 | .pan v, t, e, a => (∃ q, e = .panic [{ v := q, recovered := false }] ∧ VV Y v q) ∧ SR n ds Y t a

def QOk (n : Nat) (ds : DB) (X : Cx) (κ : sT → St → Prop) (Q : Exit → Act → World → Prop) : Prop :=
 ∀ Y ae t' e a', HR Y → Ext X Y → ExR n ds Y ae t' e a' → κ ae ⟨t', Y.h⟩ → Q e a' Y.w

theorem QOk.ext {n : Nat} {ds : DB} {X Y : Cx} {κ : sT → St → Prop} {Q : Exit → Act → World → Prop} (h : QOk n ds X κ Q) (E : Ext X Y) : QOk n ds Y κ Q :=
 fun Z ae t' e a' HZ EZ hx hk => h Z ae t' e a' HZ (E.trans EZ) hx hk

def From (g : Option Nat) (code rest : Code) : Prop :=
 match g with
 | none => rest = code
 | some l => findLabel code l = some rest

section
variable {ro : Option Nat} {P : Program} {n : Nat} {ds : DB} {c : Ctx}

theorem aMw {X : Cx} {κ : sT → St → Prop} {Q : Exit → Act → World → Prop} {b : Code} {nf : Nat}
   (hQ : QOk n ds X κ Q)
   (hb : ∀ Y t a, HR Y → Ext X Y → SR n ds Y t a → W c none b ⟨t, Y.h⟩ κ → b.wpIn (FW ro) nf P Q a Y.w) :
   QOk n ds X (fun e st' => match e with
     | .normal => W c none b st' κ
     | e => κ e st') (Exit.then (b.wpIn (FW ro) nf P Q) Q) := by
 intro Y ae t' e a' HY EY hx hk
 cases ae with
 | normal => obtain ⟨rfl, R⟩ := hx; exact hb Y t' a' HY EY R hk
 | exit i => obtain ⟨rfl, R⟩ := hx; exact hQ Y (.exit i) t' _ a' HY EY ⟨rfl, R⟩ hk
 | goto i => obtain ⟨rfl, R⟩ := hx; exact hQ Y (.goto i) t' _ a' HY EY ⟨rfl, R⟩ hk
 | ret => obtain ⟨rfl, R⟩ := hx; exact hQ Y .ret t' _ a' HY EY ⟨rfl, R⟩ hk
 | pan v => obtain ⟨⟨q, rfl, hv⟩, h1⟩ := hx; exact hQ Y (.pan v) t' _ a' HY EY ⟨⟨q, rfl, hv⟩, h1⟩ hk


/-! ### Ranges over functions -/
theorem aEL {X : Cx} {n : Nat} : ∀ (L : List Nat) (vs : List AV) (cs : List Value) (t : List (Nat × AV)) (tmps : Array Value), VVs X vs cs → vs.length = L.length → (∀ i ∈ L, i < n) → SR n ds X t { tmps := tmps, defers := [] } →
   SR n ds X (aAd L vs t) { tmps := (L.zip cs).foldl (fun tmps p => tmps.setIfInBounds p.1 p.2) tmps, defers := [] }
 | [], vs, cs, t, tmps, _, _, _, R => by cases vs <;> simpa [aAd] using R
 | i :: L, [], cs, t, tmps, _, hl, _, R => by simp at hl
 | i :: L, v :: vs, cs, t, tmps, hv, hl, hn, R => by
   simp only [VVs] at hv
   obtain ⟨c, d, rfl, h1, h2⟩ := hv
   have := aEL L vs d (put i v t) (tmps.setIfInBounds i c) h2 (by simpa using hl) (fun j hj => hn j (by simp [hj])) (R.put (hn i (by simp)) h1)
   simpa [aAd] using this

theorem aEM : ∀ {L : List Nat} {vs : List AV} {t : List (Nat × AV)} {A : List (Nat × AV) → Prop}, aIB L vs t A → vs.length = L.length ∧ A (aAd L vs t)
 | [], [], t, A, h => ⟨rfl, h⟩
 | [], _ :: _, t, A, h => h.elim
 | i :: L, [], t, A, h => h.elim
 | i :: L, v :: vs, t, A, h => by
   obtain ⟨h1, h2⟩ := aEM (L := L) (vs := vs) (t := put i v t) (A := A) h
   exact ⟨by simp [h1], h2⟩

theorem aHD {X : Cx} (H : HR X) {l : Lst} {cs : List Value} (h : VC X (.sl true l) cs) :
   ∃ Y : Cx, Y.w = X.w ∧ HR Y ∧ Ext X Y ∧ Y.h = X.h ++ mP (oJ l X.h.length).2 ∧ VC Y (oJ l X.h.length).1 cs := by
 unfold oJ
 split
 · rename_i hl
   simp only [VC] at h
   obtain ⟨c, hcs, hsl⟩ := h
   obtain ⟨Y, hw, HY, EY, hh, hv⟩ := aCf H hl hsl
   exact ⟨Y, hw, HY, EY, hh, by simp only [VC]; exact ⟨c, hcs, hv⟩⟩
 · exact ⟨X, rfl, H, Ext.refl X, by simp [mP], h⟩

mutual
theorem aBF : ∀ (v : AV) {X : Cx} {cs : List Value}, HR X → VC X v cs → ∃ Y : Cx, Y.w = X.w ∧ HR Y ∧ Ext X Y ∧ Y.h = X.h ++ mP (iC v X.h.length).2 ∧ VC Y (iC v X.h.length).1 cs
 | .sl true l, X, cs, H, h => by simp only [iC]; exact aHD H h
 | .sl false l, X, cs, H, h => ⟨X, rfl, H, Ext.refl X, by simp [iC, mP], by simpa only [iC] using h⟩
 | .agg vs, X, cs, H, h => by
   simp only [VC] at h
   obtain ⟨Y, h1, h2, h3, h4, h5⟩ := aAv vs H h
   simp only [iC, VC]
   exact ⟨Y, h1, h2, h3, h4, h5⟩
 | .top, X, cs, H, h | .und, X, cs, H, h | .int _ _, X, cs, H, h | .bool _, X, cs, H, h | .str _, X, cs, H, h | .arr _, X, cs, H, h | .tup _, X, cs, H, h | .sref _ _ _ _ _, X, cs, H, h
 | .ep _ _ _, X, cs, H, h | .nilp, X, cs, H, h | .ptr _ _, X, cs, H, h | .map _, X, cs, H, h | .fn _ _ _, X, cs, H, h | .nilfn, X, cs, H, h | .iface _ _, X, cs, H, h | .niliface, X, cs, H, h =>
   ⟨X, rfl, H, Ext.refl X, by simp [iC, mP], by simpa only [iC] using h⟩
theorem aAv : ∀ (vs : List AV) {X : Cx} {cs : List Value}, HR X → VCs X vs cs → ∃ Y : Cx, Y.w = X.w ∧ HR Y ∧ Ext X Y ∧ Y.h = X.h ++ mP (lZ vs X.h.length).2 ∧ VCs Y (lZ vs X.h.length).1 cs
 | [], X, cs, H, h => ⟨X, rfl, H, Ext.refl X, by simp [lZ, mP], by simpa only [lZ] using h⟩
 | v :: r, X, cs, H, h => by
   simp only [VCs] at h
   obtain ⟨a, b, rfl, h1, h2⟩ := h
   obtain ⟨Y, q1, q2, q3, q4, q5⟩ := aBF v H h1
   obtain ⟨Z, r1, r2, r3, r4, r5⟩ := aAv r q2 (VCs.ext q3 h2)
   have hl : Y.h.length = X.h.length + (iC v X.h.length).2.length := by rw [q4]; simp [mP]
   rw [hl] at r4 r5
   simp only [lZ, VCs]
   refine ⟨Z, by rw [r1, q1], r2, q3.trans r3, ?_, a, b, rfl, VC.ext r3 q5, r5⟩
   rw [r4, q4]
   simp [mP]
end

theorem aHE {X : Cx} {i : Nat} {o : AObj} (H : HR X) (h0 : X.h[i]? = some o) :
   ∃ Z : Cx, Z.w = X.w ∧ HR Z ∧ Ext X Z ∧ Z.h = rI i o X.h ∧ X.h.length ≤ Z.h.length ∧ ∀ j, j ≠ i → j < X.h.length → Z.h[j]? = X.h[j]? := by
 have triv : ∃ Z : Cx, Z.w = X.w ∧ HR Z ∧ Ext X Z ∧ Z.h = X.h ∧ X.h.length ≤ Z.h.length ∧ ∀ j, j ≠ i → j < X.h.length → Z.h[j]? = X.h[j]? :=
   ⟨X, rfl, H, Ext.refl X, rfl, Nat.le_refl _, fun _ _ _ => rfl⟩
 unfold rI
 split
 rotate_left
 · exact triv
 rename_i v
 unfold aCA
 split
 · exact triv
 have hi : i < X.h.length := (List.getElem?_eq_some_iff.1 h0).1
 obtain ⟨b, hb, b', cs, elem, rfl, hc, hvc⟩ := H.obj _ _ h0
 obtain ⟨Y, hw, HY, EY, hh, hv⟩ := aBF v H hvc
 have hiY : Y.h[i]? = some (.box v) := by rw [hh, List.getElem?_append_left hi]; exact h0
 have hmY : Y.μ[i]? = some (some b') := (EY.oth i b' (by rw [h0]; rfl) hb).1
 let Z : Cx := ⟨Y.S, Y.μ.set i (some b'), Y.h.set i (.box (iC v X.h.length).1), Y.w⟩
 have U : Upd Y Z i (.box v) (.box (iC v X.h.length).1) (some b') (some b') := by
   refine ⟨rfl, rfl, rfl, hiY, hmY, fun k _ _ => rfl, Nat.le_refl _, .inl rfl, fun k hk hs => ?_, fun k ver l h => (by cases h), fun _ => .inr ⟨rfl, rfl⟩, kJ.refl _⟩
   cases hk
   obtain ⟨ver', l', e⟩ := (HY.live i b' hmY).2 hs
   rw [hiY] at e; cases e
 have EZ := U.ext HY
 have HZ : HR Z := U.hr HY fun E => ⟨b', cs, elem, rfl, by show Y.w.heap[b']? = _; rw [hw]; exact hc, VC.ext E hv⟩
 refine ⟨Z, hw, HZ, EY.trans EZ, ?_, ?_, fun j hj hjl => ?_⟩
 · show Y.h.set i _ = _
   rw [hh]
 · show _ ≤ (Y.h.set i _).length
   rw [List.length_set, hh, List.length_append]; omega
 · show (Y.h.set i _)[j]? = _
   rw [List.getElem?_set, if_neg (Ne.symm hj), hh, List.getElem?_append_left hjl]

theorem aHF (a : AV) {X : Cx} (H : HR X) : ∃ Y : Cx, Y.w = X.w ∧ HR Y ∧ Ext X Y ∧ Y.h = aCB a X.h := by
 unfold aCB
 split
 · rename_i id
   cases ho : X.h[id]? with
   | none =>
     rw [List.getD_eq_getElem?_getD, ho]
     exact ⟨X, rfl, H, Ext.refl X, rfl⟩
   | some o =>
     obtain ⟨Z, h1, h2, h3, h4, _⟩ := aHE H ho
     rw [List.getD_eq_getElem?_getD, ho]
     exact ⟨Z, h1, h2, h3, h4⟩
 · exact ⟨X, rfl, H, Ext.refl X, rfl⟩

theorem yX : ∀ (l : List AV) {X : Cx}, HR X → ∃ Y : Cx, Y.w = X.w ∧ HR Y ∧ Ext X Y ∧ Y.h = boxH l X.h
 | [], X, H => ⟨X, rfl, H, Ext.refl X, rfl⟩
 | a :: r, X, H => by
   obtain ⟨Y, h1, h2, h3, h4⟩ := aHF a H
   obtain ⟨Z, q1, q2, q3, q4⟩ := yX r h2
   exact ⟨Z, by rw [q1, h1], q2, h3.trans q3, by rw [q4, h4]; rfl⟩

theorem aNy {X : Cx} (H : HR X) {r : Loop} (hr : r = { r with state := .ready, pending := none }) :
   ∃ Y : Cx, Y.w = (X.w.alloc (.deferred (some []))).alloc (.loop r) ∧ HR Y ∧ Ext X Y ∧ Y.h = X.h ++ [.lp .ready none r] ∧ Y.μ[X.h.length]? = some (some (X.w.heap.size + 1)) ∧
     (∀ i : Nat, Y.μ[i]? ≠ some (some X.w.heap.size)) ∧ ¬ Y.S X.w.heap.size := by
 obtain ⟨H1, E1⟩ := vQ H 1
 have hsz : ((X.w.alloc (.deferred (some []))).alloc (.loop r)).heap = (X.w.heap.push (.deferred (some []))).push (.loop r) := rfl
 have hml : (X.pad 1).μ.length = X.h.length + 1 := by simp [Cx.pad, H.len]
 let Y : Cx := ⟨X.S, (X.pad 1).μ.set X.h.length (some (X.w.heap.size + 1)), (X.pad 1).h.set X.h.length (.lp .ready none r), (X.w.alloc (.deferred (some []))).alloc (.loop r)⟩
 have old : ∀ k, k < X.w.heap.size → Y.w.heap[k]? = X.w.heap[k]? := fun k hk => by
   show ((X.w.heap.push (.deferred (some []))).push (.loop r))[k]? = _
   rw [Array.getElem?_push, Array.getElem?_push, if_neg (by simp; omega), if_neg (by omega)]
 have U : Upd (X.pad 1) Y X.h.length .dead (.lp .ready none r) none (some (X.w.heap.size + 1)) := by
   refine ⟨rfl, rfl, rfl, ?_, ?_, fun k hk _ => old k hk, ?_, .inr ⟨_, rfl, ?_, ?_⟩, fun k h => (by cases h), fun k ver l h => (by cases h), fun _ => .inl rfl, ⟨rfl, rfl, rfl⟩⟩
   · rw [sW, if_neg (by omega), if_pos (by omega)]
   · rw [aKm H.len, if_neg (by omega), if_pos (by omega)]
   · show X.w.heap.size ≤ ((X.w.heap.push (.deferred (some []))).push (.loop r)).size
     simp; omega
   · show X.w.heap.size ≤ X.w.heap.size + 1; omega
   · show X.w.heap.size + 1 < ((X.w.heap.push (.deferred (some []))).push (.loop r)).size
     simp
 have hnew : Y.w.heap[X.w.heap.size + 1]? = some (.loop r) := by
   show ((X.w.heap.push (.deferred (some []))).push (.loop r))[X.w.heap.size + 1]? = _
   rw [Array.getElem?_push, if_pos (by simp)]
 have HY : HR Y := U.hr H1 fun _ => ⟨_, rfl, by rw [hnew, ← hr]⟩
 have hμ : Y.μ[X.h.length]? = some (some (X.w.heap.size + 1)) := by
   show ((X.pad 1).μ.set X.h.length (some (X.w.heap.size + 1)))[X.h.length]? = _
   rw [List.getElem?_set, if_pos rfl, if_pos (by omega)]
 refine ⟨Y, rfl, HY, E1.trans (U.ext H1), ?_, hμ, fun i hi => ?_, fun hs => ?_⟩
 · show (X.h ++ List.replicate 1 AObj.dead).set X.h.length (.lp .ready none r) = _
   simp
 · by_cases e : X.h.length = i
   · subst e; rw [hμ] at hi; simp at hi
   · have : (X.pad 1).μ[i]? = some (some X.w.heap.size) := by
       have h2 : ((X.pad 1).μ.set X.h.length (some (X.w.heap.size + 1)))[i]? = some (some X.w.heap.size) := hi
       rwa [List.getElem?_set, if_neg e] at h2
     have := (H1.live _ _ this).1
     exact absurd this (Nat.lt_irrefl _)
 · exact absurd (H.old _ hs) (Nat.lt_irrefl _)

theorem aDp {Y : Cx} (H : HR Y) {id l : Nat} {st : LoopState} {pd : Option Code} {r : Loop} (hh : Y.h[id]? = some (.lp st pd r)) (hm : Y.μ[id]? = some (some l)) (st' : LoopState) (pd' : Option Code) :
   Y.w.heap[l]? = some (.loop { r with state := st, pending := pd }) ∧ ∃ Z : Cx, Z.w = Y.w.putObj l (.loop { r with state := st', pending := pd' }) ∧ Z.h = Y.h.set id (.lp st' pd' r) ∧ HR Z ∧ Ext Y Z := by
 obtain ⟨b, hb, b', rfl, hl⟩ := H.obj _ _ hh
 rw [hm] at hb
 obtain rfl : l = b' := by simpa using hb
 have hlt : l < Y.w.heap.size := (Array.getElem?_eq_some_iff.1 hl).1
 let Z : Cx := ⟨Y.S, Y.μ.set id (some l), Y.h.set id (.lp st' pd' r), Y.w.putObj l (.loop { r with state := st', pending := pd' })⟩
 have U : Upd Y Z id (.lp st pd r) (.lp st' pd' r) (some l) (some l) := by
   refine ⟨rfl, rfl, rfl, hh, hm, fun k _ hk => ?_, ?_, .inl rfl, fun k hk hs => ?_, fun k ver l h => (by cases h), fun _ => .inr ⟨rfl, rfl⟩, ⟨rfl, rfl, rfl⟩⟩
   · exact World.putObj_heap_other fun e => hk (by rw [e])
   · show _ ≤ (Y.w.putObj l _).heap.size
     simp
   · cases hk
     obtain ⟨ver, l', e⟩ := (H.live _ _ hm).2 hs
     rw [hh] at e; cases e
 exact ⟨hl, Z, rfl, rfl, U.hr H fun _ => ⟨_, rfl, World.putObj_heap_same hlt⟩, U.ext H⟩

theorem aFF {X Y : Cx} (E : Ext X Y) {id l : Nat} {o : AObj} (hh : X.h[id]? = some o) (ho : rowO (some o) = none) (hm : X.μ[id]? = some (some l)) : Y.μ[id]? = some (some l) :=
 (E.oth id l (by rw [hh]; exact ho) hm).1

theorem aLL {X1 : Cx} {t : List (Nat × AV)} {r : Loop} {id l : Nat} {o : AObj} (hps : ∀ i ∈ r.params.toList, i < n) (ho : X1.h[id]? = some o) (hro : rowO (some o) = none) (hmu : X1.μ[id]? = some (some l))
   (R1 : SR n ds X1 t { tmps := r.tmps, defers := [] })
   (ihA : ∀ nf κ t X a Q, Ext X1 X → HR X → SR n ds X t a → W c none r.assign ⟨t, X.h⟩ κ → QOk n ds X κ Q → r.assign.wpIn (FW (some l)) nf P Q a X.w)
   (ihB : ∀ nf κ t X a Q, Ext X1 X → HR X → SR n ds X t a → W c none r.body ⟨t, X.h⟩ κ → QOk n ds X κ Q → r.body.wpIn (FW (some l)) nf P Q a X.w) :
   YOk P X1 l (fun args h' K => aJS r.params.toList (fun t h k => W c none r.assign ⟨t, h⟩ fun e s => k e s.t s.h) (fun t h k => W c none r.body ⟨t, h⟩ fun e s => k e s.t s.h) t id r args h' K) := by
 intro args h K hw X cs EX H hXh hv
 subst hXh
 obtain ⟨hlp, hw⟩ := hw
 obtain ⟨hlen, hw⟩ := aEM hw
 have hm := aFF EX ho hro hmu
 obtain ⟨hl, _⟩ := aDp H hlp hm .busy none
 have hsz : cs.size = r.params.size := by
   have := uG hv
   rw [Array.length_toList, hlen, Array.length_toList] at this
   exact this
 refine ⟨_, _, _, _, run_yield hl hsz, fun nf => roundIn_of_wpIn trivial ?_⟩
 have R0 := aEL (ds := ds) r.params.toList args cs.toList t r.tmps hv hlen hps (R1.ext EX)
 have hz : ((r.params.zip cs).foldl (fun tmps (t, a) => tmps.setIfInBounds t a) r.tmps) = (r.params.toList.zip cs.toList).foldl (fun tmps p => tmps.setIfInBounds p.1 p.2) r.tmps := by
   rw [← Array.foldl_toList, Array.toList_zip]
 rw [← hz] at R0
 refine ihA nf _ _ X _ _ EX H R0 hw fun Y ae t' e a' HY EY hx hk => ?_
 cases ae with
 | exit i => exact hk.elim
 | goto i => exact hk.elim
 | ret => exact hk.elim
 | pan v => exact hk.elim
 | normal =>
   obtain ⟨rfl, RY⟩ := hx
   obtain ⟨hlpY, hk⟩ := hk
   have hmY := aFF (EX.trans EY) ho hro hmu
   obtain ⟨hlY, Z, hZw, hZh, HZ, EZ⟩ := aDp HY hlpY hmY .busy none
   refine ⟨_, run_beginRound hlY rfl, ?_⟩
   have e1 : Y.w.putObj l (.loop { { r with state := .ready, pending := none } with state := .busy }) = Z.w := hZw.symm
   rw [e1]
   rw [← hZh] at hk
   refine ihB nf _ t' Z a' _ ((EX.trans EY).trans EZ) HZ (RY.ext EZ) hk fun V ae t'' e a'' HV EV hx hk => ?_
   have EXV : Ext X V := (EY.trans EZ).trans EV
   have hmV := aFF (EX.trans EXV) ho hro hmu
   have fin : ∀ (jump : Option Code) (st : LoopState), (if jump.isNone then LoopState.ready else LoopState.done) = st → lpIs V.h id .busy r ∧ K (.ret (.bool jump.isNone)) (V.h.set id (.lp st jump r)) →
       ∃ v w', (Instr.endRound l jump).run P V.w = .ok v w' ∧ ∃ Y ao, Y.w = w' ∧ HR Y ∧ Ext X Y ∧ OutR Y ao (.returned v) ∧ K ao Y.h := by
     rintro jump st hst ⟨hlpV, hk⟩
     obtain ⟨hlV, U, hUw, hUh, HU, EU⟩ := aDp HV hlpV hmV st jump
     refine ⟨_, _, run_endRound jump hlV, U, .ret (.bool jump.isNone), ?_, HU, EXV.trans EU, ⟨_, rfl, rfl⟩, ?_⟩
     · rw [hUw, ← hst]
     · rw [hUh]; exact hk
   cases ae with
   | normal => obtain ⟨rfl, _⟩ := hx; exact fin none .ready rfl hk
   | ret => obtain ⟨rfl, _⟩ := hx; exact fin (some .ret) .done rfl hk
   | exit i => obtain ⟨rfl, _⟩ := hx; exact fin (some (.exit i)) .done rfl hk
   | goto i => obtain ⟨rfl, _⟩ := hx; exact fin (some (.goto i)) .done rfl hk
   | pan v => exact hk.elim

theorem aKw : ISOk P c.noI.iterS := ⟨fun _ _ _ _ _ _ h => h.elim⟩

theorem aEf (hm : P.follows .mixedOrders = true) {B : Cx} :
   ∀ (code : Code) (ds : DB) (_ : ds.sz ≤ B.w.heap.size) (ro : Option Nat) (c : Ctx) (_ : mR P c) (_ : SOk P c.envS) (_ : c.drawn = false) (_ : ∀ l, YOk P B l (c.envY l)) (_ : ISOk P c.iterS) (_ : ro = none ∨ ∀ f Y a h K, ¬ c.iterS f Y a h K) (nf : Nat) (g : Option Nat) (κ : sT → St → Prop) (t : List (Nat × AV)) (X : Cx) (a : Act) (Q : Exit → Act → World → Prop) (rest : Code),
     lD n code = true → Ext B X → HR X → SR n ds X t a → W c g code ⟨t, X.h⟩ κ → QOk n ds X κ Q → From g code rest → rest.wpIn (FW ro) nf P Q a X.w := by
 intro code
 induction code with
 | skip =>
   intro ds hbase ro c C CS hdr YY CI hI nf g κ t X a Q rest hd EB H R hw hQ hf
   cases g with
   | none => obtain rfl := hf; exact wpIn_skip (hQ X .normal t _ a H (Ext.refl X) ⟨rfl, R⟩ (by simpa only [W] using hw))
   | some l => simp only [W] at hw
 | ret =>
   intro ds hbase ro c C CS hdr YY CI hI nf g κ t X a Q rest hd EB H R hw hQ hf
   cases g with
   | none => obtain rfl := hf; exact wpIn_ret (hQ X .ret t _ a H (Ext.refl X) ⟨rfl, R⟩ (by simpa only [W] using hw))
   | some l => simp only [W] at hw
 | exit id =>
   intro ds hbase ro c C CS hdr YY CI hI nf g κ t X a Q rest hd EB H R hw hQ hf
   cases g with
   | none => obtain rfl := hf; exact wpIn_exit (hQ X (.exit id) t _ a H (Ext.refl X) ⟨rfl, R⟩ (by simpa only [W] using hw))
   | some l => simp only [W] at hw
 | goto l =>
   intro ds hbase ro c C CS hdr YY CI hI nf g κ t X a Q rest hd EB H R hw hQ hf
   cases g with
   | none => obtain rfl := hf; exact wpIn_goto (hQ X (.goto l) t _ a H (Ext.refl X) ⟨rfl, R⟩ (by simpa only [W] using hw))
   | some l => simp only [W] at hw
 | label l =>
   intro ds hbase ro c C CS hdr YY CI hI nf g κ t X a Q rest hd EB H R hw hQ hf
   cases g with
   | none => obtain rfl := hf; exact wpIn_label (hQ X .normal t _ a H (Ext.refl X) ⟨rfl, R⟩ (by simpa only [W] using hw))
   | some l' =>
     simp only [From, findLabel] at hf
     split at hf
     · cases hf
       exact wpIn_skip (hQ X .normal t _ a H (Ext.refl X) ⟨rfl, R⟩ (by simpa only [W] using hw))
     · cases hf
 | refuse w => intro ds hbase ro c C CS hdr YY CI hI nf g κ t X a Q rest hd EB H R hw hQ hf; cases g <;> simp only [W] at hw
 | rangeFunc f ps x y ihx ihy =>
   intro ds hbase ro c C CS hdr YY CI hI nf g κ t X a Q rest hd EB H R hw hQ hf
   cases g with
   | some l => simp only [W] at hw
   | none =>
     obtain rfl := hf
     simp only [W] at hw
     simp only [lD, Bool.and_eq_true] at hd
     obtain ⟨⟨hps, hdx⟩, hdy⟩ := hd
     have hps : ∀ i ∈ ps.toList, i < n := by
       intro i hi
       have := List.all_eq_true.1 hps i hi
       simpa using this
     unfold aJT vI aCC at hw
     split at hw
     rotate_left
     · exact hw.elim
     rename_i q gf cap hg
     obtain ⟨X', hXw, H', E', hXh⟩ := yX (gets t (c.loop (eB x)).box) H
     rw [← hXh] at hw
     rw [← hXw]
     replace EB := EB.trans E'
     replace R := R.ext E'
     replace hQ := hQ.ext E'
     replace H := H'
     have hro : ro = none := by
       rcases hI with h | h
       · exact h
       · exact (h _ _ _ _ _ (hw 0 default)).elim
     subst hro
     have hv := R.ev f .func
     rw [hg] at hv
     simp only [VV] at hv
     obtain ⟨ca, cd, hfe, hf1, hf2⟩ := hv
     simp only [VVs, Array.toList_eq_nil_iff] at hf1
     subst hf1
     refine wpIn_rangeFunc fun fn _ => ?_
     obtain ⟨X1, hX1w, H1, E1, hX1h, hX1m, hnm, hnS⟩ := aNy H (r := { state := .ready, pending := none, fn, tmps := a.tmps, params := ps, assign := x, body := y, defers := X'.w.heap.size }) rfl
     have hlp : X1.h[X'.h.length]? = some (.lp .ready none { state := .ready, pending := none, fn, tmps := a.tmps, params := ps, assign := x, body := y, defers := X'.w.heap.size }) := by
       rw [hX1h]; simp
     have R1 := R.ext E1
     have EB1 := EB.trans E1
     have hyok : YOk P X1 (X'.w.heap.size + 1) _ := aLL (c := c.noI) (n := n) (ds := ⟨ds.sz, []⟩) (t := t) (r := { state := .ready, pending := none, fn, tmps := a.tmps, params := ps, assign := x, body := y, defers := X'.w.heap.size }) hps hlp rfl hX1m
       ⟨R1.v, R1.size, lR.nil⟩
       (fun nf κ t X a Q E H R hw hQ => ihx ⟨ds.sz, []⟩ hbase (some (_ + 1)) c.noI ⟨C.tab, C.sh, C.fok⟩ CS hdr YY aKw (.inr fun _ _ _ _ _ h => h) nf none κ t X a Q x hdx (EB1.trans E) H R hw hQ rfl)
       (fun nf κ t X a Q E H R hw hQ => ihy ⟨ds.sz, []⟩ hbase (some (_ + 1)) c.noI ⟨C.tab, C.sh, C.fok⟩ CS hdr YY aKw (.inr fun _ _ _ _ _ h => h) nf none κ t X a Q y hdy (EB1.trans E) H R hw hQ rfl)
     have hw := hw (X'.w.heap.size + 1) { state := .ready, pending := none, fn, tmps := a.tmps, params := ps, assign := x, body := y, defers := X'.w.heap.size }
     rw [← hX1h] at hw
     have hargs : VVs X1 (.fn (.yield (X'.w.heap.size + 1)) [] [] :: cap) ((#[] ++ #[Value.func (.yield (X'.w.heap.size + 1)) #[] #[]]) ++ cd).toList := by
       have h1 : VVs X1 [AV.fn (.yield (X'.w.heap.size + 1)) [] []] [Value.func (.yield (X'.w.heap.size + 1)) #[] #[]] := ⟨_, _, rfl, ⟨#[], #[], rfl, rfl, rfl⟩, rfl⟩
       have := pK h1 ((VVs.ext E1) hf2)
       simpa using this
     obtain ⟨hent, hcall⟩ := CI.spec _ _ _ _ _ _ hw X1 _ hyok H1 rfl hargs
     have hres : (resolve a.eval (rangeCall f (X'.w.heap.size + 1)) 0).run P X1.w = .ok { target := .fn (.func gf) cd, args := #[] ++ #[Value.func (.yield (X'.w.heap.size + 1)) #[] #[]] } X1.w := by
       simp only [resolve, rangeCall, hfe, Deferred.ofValue, Sem.run_pure, List.map_toArray, List.map_cons, List.map_nil]
       rfl
     refine ⟨X'.w.heap.size + 1, [{ target := .collected X'.w.heap.size, args := #[] }], X1.w, _, _, gf, _, _, by rw [run_enterLoop_outer, hX1w], hres, fun _ _ => trivial, hent _, fun h => (by cases h), CallsIn.mono (aBU hcall) fun e w'' he => ?_⟩
     obtain ⟨Y, ao, rfl, HY, EY, hor, hk⟩ := he
     have hdef : lR ds Y ({ target := .collected X'.w.heap.size, args := #[] } :: a.defers) := by
       obtain ⟨mk, hmk, hmks⟩ := R.defers
       refine lR.ext EY ⟨_ :: mk, by rw [hmk]; rfl, ⟨_, rfl, Nat.le_trans hbase EB.grow, ?_, hnm, hnS, fun d' hd' e => ?_⟩, hmks.ext E1⟩
       · rw [hX1w]
         show ((X'.w.heap.push (.deferred (some []))).push _)[X'.w.heap.size]? = _
         rw [Array.getElem?_push, Array.getElem?_push, if_neg (by simp), if_pos rfl]
       · have := hmks.lt d' hd' e
         exact absurd this (Nat.lt_irrefl _)
     have R2 : SR n ds Y t { a with defers := { target := .collected X'.w.heap.size, args := #[] } :: a.defers } := ⟨(R1.ext EY).v, R.size, hdef⟩
     cases ao with
     | pan v =>
       obtain ⟨q, rfl, hvq⟩ := hor
       exact hQ Y (.pan v) t _ _ HY (E1.trans EY) ⟨⟨q, rfl, hvq⟩, R2⟩ hk
     | ret v =>
       obtain ⟨q, rfl, hvq⟩ := hor
       have hmY := aFF EY hlp rfl hX1m
       have fin : ∀ (st : LoopState) (pd : Option Code) (r' : Loop), Y.h[X'.h.length]? = some (.lp st pd r') → r' = { state := .ready, pending := none, fn, tmps := a.tmps, params := ps, assign := x, body := y, defers := X'.w.heap.size } → st ≠ .busy →
           ∃ Z : Cx, (Instr.endLoop (X'.w.heap.size + 1)).run P Y.w = .ok pd Z.w ∧ HR Z ∧ Ext X' Z ∧ Z.h = Y.h.set X'.h.length (.lp .exhausted pd r') ∧ SR n ds Z t { a with defers := { target := .collected X'.w.heap.size, args := #[] } :: a.defers } := by
         rintro st pd r' hh rfl hst
         obtain ⟨hl, Z, hZw, hZh, HZ, EZ⟩ := aDp HY hh hmY .exhausted pd
         exact ⟨Z, by rw [run_endLoop hl hst, hZw], HZ, (E1.trans EY).trans EZ, hZh, R2.ext EZ⟩
       unfold aFN endX endO at hk
       simp only at hk
       split at hk
       · rename_i r' hh
         obtain ⟨Z, hend, HZ, EZ, hZh, RZ⟩ := fin _ _ _ hh hk.1 (by simp)
         rw [hk.1] at hZh
         rw [← hZh] at hk
         exact ⟨none, _, hend, hQ Z .normal t _ _ HZ EZ ⟨rfl, RZ⟩ hk.2⟩
       · rename_i r' hh
         obtain ⟨Z, hend, HZ, EZ, hZh, RZ⟩ := fin _ _ _ hh hk.1 (by simp)
         rw [hk.1] at hZh
         rw [← hZh] at hk
         exact ⟨some .ret, _, hend, wpIn_ret (hQ Z .ret t _ _ HZ EZ ⟨rfl, RZ⟩ hk.2)⟩
       · rename_i i r' hh
         obtain ⟨Z, hend, HZ, EZ, hZh, RZ⟩ := fin _ _ _ hh hk.1 (by simp)
         rw [hk.1] at hZh
         rw [← hZh] at hk
         exact ⟨some (.exit i), _, hend, wpIn_exit (hQ Z (.exit i) t _ _ HZ EZ ⟨rfl, RZ⟩ hk.2)⟩
       · rename_i i r' hh
         obtain ⟨Z, hend, HZ, EZ, hZh, RZ⟩ := fin _ _ _ hh hk.1 (by simp)
         rw [hk.1] at hZh
         rw [← hZh] at hk
         exact ⟨some (.goto i), _, hend, wpIn_goto (hQ Z (.goto i) t _ _ HZ EZ ⟨rfl, RZ⟩ hk.2)⟩
       · exact hk.elim
 | seq x y ihx ihy =>
   intro ds hbase ro c C CS hdr YY CI hI nf g κ t X a Q rest hd EB H R hw hQ hf
   simp only [lD, Bool.and_eq_true] at hd
   have hy : ∀ Y t a, HR Y → Ext X Y → SR n ds Y t a → W c none y ⟨t, Y.h⟩ κ → y.wpIn (FW ro) nf P Q a Y.w :=
     fun Y t a HY EY RY hwy => ihy ds hbase ro c C CS hdr YY CI hI nf none κ t Y a Q y hd.2 (EB.trans EY) HY RY hwy (hQ.ext EY) rfl
   cases g with
   | none =>
     obtain rfl := hf
     simp only [W] at hw
     exact wpIn_seq (ihx ds hbase ro c C CS hdr YY CI hI nf none _ t X a _ x hd.1 EB H R hw (aMw hQ hy) rfl)
   | some l =>
     simp only [W, sX] at hw
     simp only [From, findLabel] at hf
     cases hfx : findLabel x l with
     | some rx =>
       rw [hfx] at hf hw
       cases hf
       simp only [Option.isSome_some] at hw
       exact wpIn_seq (ihx ds hbase ro c C CS hdr YY CI hI nf (some l) _ t X a _ rx hd.1 EB H R hw (aMw hQ hy) hfx)
     | none =>
       rw [hfx] at hf hw
       simp only [Option.isSome_none] at hw
       exact ihy ds hbase ro c C CS hdr YY CI hI nf (some l) κ t X a Q rest hd.2 EB H R hw hQ hf
 | cond x p q ihp ihq =>
   intro ds hbase ro c C CS hdr YY CI hI nf g κ t X a Q rest hd EB H R hw hQ hf
   simp only [lD, Bool.and_eq_true] at hd
   cases g with
   | some l => simp only [W] at hw
   | none =>
     obtain rfl := hf
     simp only [W] at hw
     unfold aW at hw
     split at hw
     rotate_left
     · exact hw.elim
     rename_i b hb
     have hv : a.eval x = .bool b := by have := R.ev x .bool; rw [hb] at this; exact this
     exact wpIn_cond_split hv (fun h => ihp ds hbase ro c C CS hdr YY CI hI nf none κ t X a Q p hd.1 EB H R (hw.1 h) hQ rfl) (fun h => ihq ds hbase ro c C CS hdr YY CI hI nf none κ t X a Q q hd.2 EB H R (hw.2 h) hQ rfl)
 | block id p ih =>
   intro ds hbase ro c C CS hdr YY CI hI nf g κ t X a Q rest hd EB H R hw hQ hf
   simp only [lD] at hd
   cases g with
   | some l => simp only [W] at hw
   | none =>
     obtain rfl := hf
     simp only [W] at hw
     refine wpIn_block (ih ds hbase ro c C CS hdr YY CI hI nf none _ t X a _ p hd EB H R hw (fun Y ae t' e a' HY EY hx hk => ?_) rfl)
     cases ae with
     | normal => obtain ⟨rfl, R⟩ := hx; exact hQ Y .normal t' _ a' HY EY ⟨rfl, R⟩ hk
     | exit i =>
       obtain ⟨rfl, R⟩ := hx
       simp only [Exit.inBlock]
       simp only at hk
       by_cases e : i = id
       · subst e
         simp only [Nat.beq_refl] at hk
         rw [if_pos rfl]
         exact hQ Y .normal t' _ a' HY EY ⟨rfl, R⟩ hk
       · have : Nat.beq i id = false := by rw [Bool.eq_false_iff]; intro h; exact e (Nat.eq_of_beq_eq_true h)
         simp only [this] at hk
         rw [if_neg e]
         exact hQ Y (.exit i) t' _ a' HY EY ⟨rfl, R⟩ hk
     | goto i => obtain ⟨rfl, R⟩ := hx; exact hQ Y (.goto i) t' _ a' HY EY ⟨rfl, R⟩ hk
     | ret => obtain ⟨rfl, R⟩ := hx; exact hQ Y .ret t' _ a' HY EY ⟨rfl, R⟩ hk
     | pan v => obtain ⟨⟨q, rfl, hv⟩, h1⟩ := hx; exact hQ Y (.pan v) t' _ a' HY EY ⟨⟨q, rfl, hv⟩, h1⟩ hk
 | scope p ih =>
   intro ds hbase ro c C CS hdr YY CI hI nf g κ t X a Q rest hd EB H R hw hQ hf
   simp only [lD] at hd
   cases g with
   | some l => simp only [W] at hw
   | none =>
     obtain rfl := hf
     simp only [W] at hw
     refine aIW (fun l a w => ∃ Y t', Y.w = w ∧ HR Y ∧ Ext X Y ∧ SR n ds Y t' a ∧ W c (some l) p ⟨t', Y.h⟩ fun e st' => match e with
         | .goto _ => False
         | e => κ e st') (ih ds hbase ro c C CS hdr YY CI hI nf none _ t X a _ p hd EB H R hw (fun Y ae t' e a' HY EY hx hk => ?_) rfl) ?_
     · cases ae with
       | normal => obtain ⟨rfl, R⟩ := hx; exact hQ Y .normal t' _ a' HY EY ⟨rfl, R⟩ hk
       | exit i => obtain ⟨rfl, R⟩ := hx; exact hQ Y (.exit i) t' _ a' HY EY ⟨rfl, R⟩ hk
       | goto l =>
         obtain ⟨rfl, R⟩ := hx
         simp only [sX] at hk
         simp only [aFE]
         cases hl : (findLabel p l).isSome with
         | true => rw [hl] at hk; rw [if_pos rfl]; exact ⟨Y, t', rfl, HY, EY, R, hk⟩
         | false => rw [hl] at hk; rw [if_neg (by simp)]; exact hQ Y (.goto l) t' _ a' HY EY ⟨rfl, R⟩ hk
       | ret => obtain ⟨rfl, R⟩ := hx; exact hQ Y .ret t' _ a' HY EY ⟨rfl, R⟩ hk
       | pan v => obtain ⟨⟨q, rfl, hv⟩, h1⟩ := hx; exact hQ Y (.pan v) t' _ a' HY EY ⟨⟨q, rfl, hv⟩, h1⟩ hk
     · rintro l rest a w hl ⟨Y, t', rfl, HY, EY, RY, hwy⟩
       refine ih ds hbase ro c C CS hdr YY CI hI nf (some l) _ t' Y a _ rest hd (EB.trans EY) HY RY hwy (fun Z ae t'' e a' HZ EZ hx hk => ?_) hl
       cases ae with
       | normal => obtain ⟨rfl, R⟩ := hx; exact hQ Z .normal t'' _ a' HZ (EY.trans EZ) ⟨rfl, R⟩ hk
       | exit i => obtain ⟨rfl, R⟩ := hx; exact hQ Z (.exit i) t'' _ a' HZ (EY.trans EZ) ⟨rfl, R⟩ hk
       | goto l => exact hk.elim
       | ret => obtain ⟨rfl, R⟩ := hx; exact hQ Z .ret t'' _ a' HZ (EY.trans EZ) ⟨rfl, R⟩ hk
       | pan v => obtain ⟨⟨q, rfl, hv⟩, h1⟩ := hx; exact hQ Z (.pan v) t'' _ a' HZ (EY.trans EZ) ⟨⟨q, rfl, hv⟩, h1⟩ hk
 | loop p ih =>
   intro ds hbase ro c C CS hdr YY CI hI nf g κ t X a Q rest hd EB H R hw hQ hf
   simp only [lD] at hd
   cases g with
   | some l => simp only [W] at hw
   | none =>
     obtain rfl := hf
     simp only [W] at hw
     obtain ⟨X', hXw, H', E', hXh⟩ := yX (gets t (c.loop (eB p)).box) H
     rw [← hXh] at hw
     rw [← hXw]
     replace EB := EB.trans E'
     replace R := R.ext E'
     replace hQ := hQ.ext E'
     clear H
     have H := H'
     obtain ⟨Y, us, hYw, HY, EY, TY, hw⟩ := xC _ _ H (TV.of_gets R (c.loop (eB p)).live) hw
     rw [← hYw]
     cases hkp : (c.loop (eB p)).keep with
     | nil =>
       simp only [hkp] at hw
       obtain ⟨I, ⟨m0, hI0⟩, hround⟩ := hw
       -- the constants
       have TC0 : TV Y a (c.loop (eB p)).const (gets t (c.loop (eB p)).const) := (TV.of_gets R _).ext EY
       have TC : TV (Y.drop Y.h.length) a (c.loop (eB p)).const (AV.norms Y.h.length Y.h (gets t (c.loop (eB p)).const)) := TC0.norm HY
       refine aBD (fun m a w => ∃ Z vs, Z.w = w ∧ HR Z ∧ Ext Y Z ∧ TV Z a (c.loop (eB p)).live vs ∧
           TV Z a (c.loop (eB p)).const (AV.norms Y.h.length Y.h (gets t (c.loop (eB p)).const)) ∧ n ≤ a.tmps.size ∧ lR ds Z a.defers ∧ I m vs Z.h) m0
         ⟨Y.drop Y.h.length, _, rfl, aBe HY, yW HY (Ext.refl Y) (Nat.le_refl _), TY.norm HY, TC, R.size, (R.defers.ext EY).drop, hI0⟩ ?_
       rintro m a1 w1 ⟨Z, vs, rfl, HZ, EZ, T1, T2, hs, hdf, hIm⟩
       have hb := vS (hround m Z.h) vs T1.len hIm
       refine ih ds hbase ro c C CS hdr YY CI hI nf none _ _ Z a1 _ p hd (EB.trans (EY.trans EZ)) HZ (SR.of_TV T1 T2 hs hdf) hb (fun V ae t' e a' HV EV hx hk => ?_) rfl
       cases ae with
       | normal =>
         obtain ⟨rfl, R'⟩ := hx
         obtain ⟨⟨m', hlt, hI'⟩, hconst⟩ := hk
         refine ⟨m', hlt, V.drop Y.h.length, _, rfl, aBe HV, yW HY (EZ.trans EV) (Nat.le_refl _), (TV.of_gets R' _).norm HV, ?_, R'.size, R'.defers.drop, hI'⟩
         have := (TV.of_gets R' (c.loop (eB p)).const).norm HV (m := Y.h.length)
         rw [hconst] at this
         exact this
       | exit i => obtain ⟨rfl, R'⟩ := hx; exact hQ V (.exit i) t' _ a' HV (EY.trans (EZ.trans EV)) ⟨rfl, R'⟩ hk
       | goto l => obtain ⟨rfl, R'⟩ := hx; exact hQ V (.goto l) t' _ a' HV (EY.trans (EZ.trans EV)) ⟨rfl, R'⟩ hk
       | ret => obtain ⟨rfl, R'⟩ := hx; exact hQ V .ret t' _ a' HV (EY.trans (EZ.trans EV)) ⟨rfl, R'⟩ hk
       | pan v => obtain ⟨⟨q, rfl, hv⟩, h1⟩ := hx; exact hQ V (.pan v) t' _ a' HV (EY.trans (EZ.trans EV)) ⟨⟨q, rfl, hv⟩, h1⟩ hk
     | cons kk ks =>
       simp only [hkp] at hw
       obtain ⟨hcl, hw⟩ := hw
       obtain ⟨I, ⟨m0, hI0⟩, hround⟩ := hw
       -- the constants
       have TC0 : TV Y a (c.loop (eB p)).const (gets t (c.loop (eB p)).const) := (TV.of_gets R _).ext EY
       have TC : TV (Y.drop Y.h.length) a (c.loop (eB p)).const (AV.norms Y.h.length Y.h (gets t (c.loop (eB p)).const)) := TC0.norm HY
       refine aBD (fun m a w => ∃ Z vs, Z.w = w ∧ HR Z ∧ Ext Y Z ∧ TV Z a (kk :: ks) (gets t (kk :: ks)) ∧ TV Z a (c.loop (eB p)).live vs ∧
           TV Z a (c.loop (eB p)).const (AV.norms Y.h.length Y.h (gets t (c.loop (eB p)).const)) ∧ n ≤ a.tmps.size ∧ lR ds Z a.defers ∧ I m vs Z.h) m0
         ⟨Y.drop Y.h.length, _, rfl, aBe HY, yW HY (Ext.refl Y) (Nat.le_refl _), ((TV.of_gets R _).ext EY).closed (fun _ h => vR h) (fun _ _ => rfl) hcl, TY.norm HY, TC, R.size, (R.defers.ext EY).drop, hI0⟩ ?_
       rintro m a1 w1 ⟨Z, vs, rfl, HZ, EZ, T0, T1, T2, hs, hdf, hIm⟩
       have hb := vS (hround m Z.h) vs T1.len hIm
       refine ih ds hbase ro c C CS hdr YY CI hI nf none _ _ Z a1 _ p hd (EB.trans (EY.trans EZ)) HZ (SR.of_TV3 T1 T2 T0 hs hdf) hb (fun V ae t' e a' HV EV hx hk => ?_) rfl
       cases ae with
       | normal =>
         obtain ⟨rfl, R'⟩ := hx
         obtain ⟨⟨⟨m', hlt, hI'⟩, hconst⟩, hkeep⟩ := hk
         refine ⟨m', hlt, V.drop Y.h.length, _, rfl, aBe HV, yW HY (EZ.trans EV) (Nat.le_refl _), ?_, (TV.of_gets R' _).norm HV, ?_, R'.size, R'.defers.drop, hI'⟩
         · rw [← hkeep]
           exact (TV.of_gets R' _).closed (fun _ h => vR h) (fun _ _ => rfl) (by rw [hkeep]; exact hcl)
         have := (TV.of_gets R' (c.loop (eB p)).const).norm HV (m := Y.h.length)
         rw [hconst] at this
         exact this
       | exit i => obtain ⟨rfl, R'⟩ := hx; exact hQ V (.exit i) t' _ a' HV (EY.trans (EZ.trans EV)) ⟨rfl, R'⟩ hk
       | goto l => obtain ⟨rfl, R'⟩ := hx; exact hQ V (.goto l) t' _ a' HV (EY.trans (EZ.trans EV)) ⟨rfl, R'⟩ hk
       | ret => obtain ⟨rfl, R'⟩ := hx; exact hQ V .ret t' _ a' HV (EY.trans (EZ.trans EV)) ⟨rfl, R'⟩ hk
       | pan v => obtain ⟨⟨q, rfl, hv⟩, h1⟩ := hx; exact hQ V (.pan v) t' _ a' HV (EY.trans (EZ.trans EV)) ⟨⟨q, rfl, hv⟩, h1⟩ hk
 | region id ops draw =>
   intro ds hbase ro c C CS hdr YY CI hI nf g κ t X a Q rest hd EB H R hw hQ hf
   cases g with
   | some l => simp only [W] at hw
   | none =>
     obtain rfl := hf
     have hds : ∀ o ∈ ops.toList, ∀ i, o.dst = some i → i < n := by
       intro o ho i hi
       simp only [lD, List.all_eq_true] at hd
       have := hd o ho
       rw [hi] at this
       simpa using this
     simp only [W] at hw
     cases draw with
     | false =>
       refine wpIn_region_list (xB C CS hdr YY nf ops _ ops.toList t X a hds EB H R hw (fun Y t' a' HY EY RY hk => hQ Y .normal t' _ a' HY EY ⟨rfl, RY⟩ hk)
         (fun Y t' v q a' HY EY h1 hk hv => hQ Y (.pan v) t' _ a' HY EY ⟨⟨q, rfl, hv⟩, h1⟩ hk))
     | true =>
       simp only at hw
       split at hw
       · split at hw
         · exact hw.elim
         · rename_i hok
           exact aHB C hm nf H R hds hok hw fun Y t' a' HY EY RY hk => hQ Y .normal t' _ a' HY EY ⟨rfl, RY⟩ hk
       · rename_i L o1 hlast
         split at hw
         · exact hw.elim
         · rename_i hok
           exact aHC C CS hdr YY hm nf EB H R hds hlast hok hw (fun Y v t' a' HY EY RY hk => hQ Y .normal _ _ a' HY EY ⟨rfl, RY⟩ hk)
             (fun Y t' v q a' HY EY h1 hk hv => hQ Y (.pan v) t' _ a' HY EY ⟨⟨q, rfl, hv⟩, h1⟩ hk)
end

end Lam
namespace Lam
open Go

structure OkI (P : Program) (c : Ctx) : Prop where
 ok : mR P c
 s : SOk P c.envS
 plain : c.drawn = false
 mixed : P.follows .mixedOrders = true
 i : ISOk P c.iterS

structure Ok (P : Program) (c : Ctx) : Prop extends OkI P c where
 y : ∀ l args h K, ¬ c.envY l args h K

theorem yY {P : Program} {X : Cx} {l : Nat} {Y : Con} (h : ∀ args h K, ¬ Y args h K) : YOk P X l Y := fun _ _ _ hw => (h _ _ _ hw).elim

section
variable {P : Program} {c : Ctx}

theorem aGw {X : Cx} : ∀ {i : Nat} {vs : List AV} {cs : List Value} (j : Nat), VVs X vs cs → i ≤ j → VV X (get (init i vs) j) ((cs[j - i]?).getD undef)
 | _, [], _, _, _, _ => trivial
 | i, v :: r, cs, j, h, hj => by
   simp only [VVs] at h
   obtain ⟨c, d, rfl, h1, h2⟩ := h
   have e : get (init i (v :: r)) j = if i = j then v else get (init (i + 1) r) j := kR (init (i + 1) r) i j v
   rw [e]
   by_cases hij : i = j
   · subst hij; simp [h1]
   · rw [if_neg hij]
     have := aGw (i := i + 1) j h2 (by omega)
     have e2 : j - i = (j - (i + 1)) + 1 := by omega
     rw [e2, List.getElem?_cons_succ]
     exact this

theorem aIj {X : Cx} {vs : List AV} {cs : Array Value} {n : Nat} {ds : DB} (h : VVs X vs cs.toList) (hn : vs.length ≤ n) (hds : ds.base = []) : SR n ds X (init 0 vs) { tmps := cs ++ Array.replicate (n - cs.size) undef, defers := [] } := by
 have hl : cs.size = vs.length := by rw [← Array.length_toList]; exact uG h
 refine ⟨fun i => ?_, by simp; omega, ⟨[], by rw [hds]; rfl, trivial⟩⟩
 have := aGw (i := 0) i h (Nat.zero_le _)
 simp only [Nat.sub_zero] at this
 have e : (cs ++ Array.replicate (n - cs.size) undef).getD i undef = (cs.toList[i]?).getD undef := by
   rw [Array.getD_eq_getD_getElem?, Array.getElem?_append, Array.getElem?_toList]
   by_cases hi : i < cs.size
   · rw [if_pos hi]
   · have h2 : cs[i]? = none := Array.getElem?_eq_none (by omega)
     rw [if_neg hi, h2, Array.getElem?_replicate]
     split <;> rfl
 rw [e]; exact this

theorem aHG {x : D} {K : AV → Prop} (h : cT x K) : ∃ S v news, x = some (S, v, news) ∧ S ∧ K v := by
 unfold cT at h
 split at h
 · exact ⟨_, _, _, rfl, h.1, h.2⟩
 · exact h.elim

def resV (tmps : Array Value) : ResultVar → Sem Value
 | .tmp t => pure (tmps.getD t undef)
 | .cell a t => do loadVar t (← asAddr (tmps.getD a undef))

theorem uQ (fn : Func) (tmps : Array Value) : results fn tmps = (do
   let vs ← fn.results.mapM (resV tmps)
   pure (if h : vs.size = 1 then vs[0] else .tuple vs)) := rfl

theorem wJ (tab : aIG P c.tab) {X : Cx} (H : HR X) {n : Nat} {ds : DB} {t : List (Nat × AV)} {a : Act} (R : SR n ds X t a) : ∀ (l : List ResultVar) {K : List AV → Prop}, resW c X.h t l K →
   ∃ vs cs, K vs ∧ VVs X vs cs ∧ (l.mapM (resV a.tmps)).run P X.w = .ok cs X.w
 | [], K, h => ⟨[], [], h, rfl, rfl⟩
 | .tmp i :: r, K, h => by
   simp only [resW] at h
   obtain ⟨vs, cs, hK, hv, hr⟩ := wJ tab H R r h
   refine ⟨_, a.tmps.getD i undef :: cs, hK, ⟨_, _, rfl, R.v i, hv⟩, ?_⟩
   have h1 : (resV a.tmps (.tmp i)).run P X.w = .ok (a.tmps.getD i undef) X.w := rfl
   simp only [List.mapM_cons, Sem.run_bind, h1, Sem.run_pure, Result.andThen_ok, hr]
 | .cell b T :: r, K, h => by
   simp only [resW] at h
   obtain ⟨S, v, news, e, hS, h⟩ := aHG h
   obtain ⟨S', e', rfl⟩ := aGk e
   obtain ⟨vs, cs, hK, hv, hr⟩ := wJ tab H R r h
   obtain ⟨_, hl⟩ := aBy H e' hS.1 (R.v b)
   obtain ⟨q, hq, hqv⟩ := aCI (P := P) (tab T) hS.2 hl
   obtain ⟨ad, cs', hp, _⟩ := hl
   refine ⟨_, q :: cs, hK, ⟨_, _, rfl, hqv, hv⟩, ?_⟩
   have hq' : (loadVar T ad).run P X.w = .ok q X.w := by
     rw [hp] at hq
     simpa [Instr.loadAt, Instr.sureAddr] using hq
   have h1 : (resV a.tmps (.cell b T)).run P X.w = .ok q X.w := by
     simp only [resV, hp, asAddr, Sem.run_bind, Sem.run_pure, Result.andThen_ok, hq']
   simp only [List.mapM_cons, Sem.run_bind, h1, Sem.run_pure, Result.andThen_ok, hr]

theorem aEN {X : Cx} {vs : List AV} {cs : List Value} (h : VVs X vs cs) : VV X (tD vs) (if h : cs.toArray.size = 1 then cs.toArray[0] else .tuple cs.toArray) := by
 have hl := uG h
 cases vs with
 | nil => simp only [VVs] at h; subst h; exact ⟨#[], by simp, by simp [VVs]⟩
 | cons v r =>
   cases r with
   | nil =>
     obtain ⟨q, rfl, hv⟩ := VVs1 h
     simpa [tD] using hv
   | cons u r' =>
     have : ¬ cs.toArray.size = 1 := by simp only [List.size_toArray]; rw [hl]; simp
     rw [dif_neg this]
     show VV X (.tup (v :: u :: r')) _
     exact ⟨cs.toArray, rfl, by simpa using h⟩

theorem oG {bs : List Deferred} {F : Fence} {nf : Nat} {fn : Func} {tmps : Array Value} {R : Ending → World → Prop} {u : FrameMode} (hu : u ≠ .run) {X0 : Cx} : ∀ (ds : List Deferred) (Y : Cx), nC X0.w.heap.size Y ds → HR Y → Ext X0 Y →
   (∀ Z : Cx, HR Z → Ext X0 Z → ExtV Y Z → Z.h = Y.h → LeavesInM F nf P fn tmps R bs u Z.w) → LeavesInM F nf P fn tmps R (ds ++ bs) u Y.w
 | [], Y, _, H, E, h => h Y H E (Ext.refl Y).v rfl
 | d :: ds, Y, ⟨⟨r, e, h1, h2, h3, h4, h5⟩, hd⟩, H, E, h => by
   refine ⟨hu, .inl ⟨r, _, by rw [e], run_takeDeferred h2, ?_⟩⟩
   let Z : Cx := ⟨Y.S, Y.μ, Y.h, Y.w.putObj r (.deferred none)⟩
   have hz : ∀ b, b ≠ r → Z.w.heap[b]? = Y.w.heap[b]? := fun b hb => World.putObj_heap_other hb
   have hsz : Z.w.heap.size = Y.w.heap.size := World.putObj_size
   have EV : ExtV Y Z := by
     refine ⟨fun _ h => h, fun b hb => hz b (by rintro rfl; exact h4 hb), fun i k ver l hl => ⟨k, ver, l, hl, Nat.le_refl _, fun _ => ⟨rfl, rfl, fun b hb => ⟨hb, ?_⟩⟩, fun h => ⟨h, rfl⟩⟩, fun i b q1 q2 => ⟨q2, q1⟩⟩
     have : b ≠ r := by rintro rfl; exact h3 i hb
     unfold eU; rw [hz b this]; exact Nat.le_refl _
   have HZ : HR Z := by
     refine ⟨H.len, fun i o ho => ?_, H.apart, fun i b hb => ?_, fun b hb => by rw [hsz]; exact H.old b hb⟩
     · obtain ⟨b, hb, hor⟩ := H.obj i o ho
       exact ⟨b, hb, hor.extV EV fun k hk => hz k (by rintro rfl; subst hk; exact h3 i hb)⟩
     · rw [hsz]; exact H.live i b hb
   have EZ : Ext X0 Z := by
     refine ⟨E.S, fun b hb => ?_, E.new, E.muinv, fun b hb hn => ?_, by rw [hsz]; exact E.grow, fun i k ver l hl => ?_, E.oth, E.env⟩
     · rw [hz b (by rintro rfl; exact h4 (E.S _ hb))]; exact E.cells b hb
     · rw [hz b (by omega)]; exact E.keep b hb hn
     · obtain ⟨k', ver', l', q1, q2, q3, q4⟩ := E.row i k ver l hl
       refine ⟨k', ver', l', q1, q2, fun e => ?_, q4⟩
       obtain ⟨p1, p2, p3⟩ := q3 e
       refine ⟨p1, p2, fun b hb => ?_⟩
       obtain ⟨p4, p5⟩ := p3 b hb
       refine ⟨p4, ?_⟩
       have : b ≠ r := by rintro rfl; exact h3 i p4
       have e2 : eU Z.w b = eU Y.w b := by unfold eU; rw [hz b this]
       rw [e2]; exact p5
   have hd' : nC X0.w.heap.size Z ds := by
     clear h
     induction ds with
     | nil => trivial
     | cons d' ds ih =>
       obtain ⟨⟨r', e', q1, q2, q3, q4, q5⟩, hd2⟩ := hd
       have hne : r' ≠ r := by
         rintro rfl
         exact h5 d' (by simp) (by rw [e'])
       exact ⟨⟨r', e', q1, by rw [hz r' hne]; exact q2, q3, q4, q5⟩, ih (fun d hd => h5 d (by simp [hd])) hd2⟩
   exact oG hu ds Z hd' HZ EZ fun V HV EV1 EV2 hh => h V HV EV1 (EV.trans EV2) (by rw [hh])

theorem aDq (O : OkI P c) {f : FuncId} {fn : Func} (hf : P.funcs[f]? = some fn) {vs : List AV} {cs : Array Value} {X : Cx} (YY : ∀ l, YOk P X l (c.envY l)) (H : HR X) (hv : VVs X vs cs.toList) {K : AOut → List AObj → Prop} (hw : funW c fn vs X.h K) :
   Calls P f cs X.w fun e w' => ∃ Y ao, Y.w = w' ∧ HR Y ∧ Ext X Y ∧ OutR Y ao e ∧ K ao Y.h := by
 unfold funW at hw
 split at hw
 · exact hw.elim
 rename_i body hb
 split at hw
 rotate_left
 · exact hw.elim
 rename_i hok
 simp only [Bool.and_eq_true] at hok
 have hlen : vs.length ≤ fn.ntmps := Nat.le_of_ble_eq_true hok.2
 have fin : ∀ (Y : Cx) (t : List (Nat × AV)) (a : Act), HR Y → Ext X Y → SR fn.ntmps ⟨X.w.heap.size, []⟩ Y t a → resW c Y.h t fn.results.toList (fun vs => K (.ret (tD vs)) Y.h) →
     LeavesInM (FW none) 0 P fn a.tmps (fun e w' => ∃ Y ao, Y.w = w' ∧ HR Y ∧ Ext X Y ∧ OutR Y ao e ∧ K ao Y.h) a.defers .returning Y.w := by
   intro Y t a HY EY R hr
   obtain ⟨mk, hmk, hmks⟩ := R.defers
   rw [hmk]
   refine oG (by simp) mk Y hmks HY EY fun Z HZ EZ EV hZh => ?_
   have RZ : SR fn.ntmps ⟨X.w.heap.size, []⟩ Z t { tmps := a.tmps, defers := [] } := ⟨fun i => (R.v i).extV EV, R.size, lR.nil⟩
   rw [← hZh] at hr
   obtain ⟨us, ds, hK, hus, hrun⟩ := wJ O.ok.tab HZ RZ _ hr
   refine ⟨(if h : ds.toArray.size = 1 then ds.toArray[0] else .tuple ds.toArray), ?_, Z, .ret (tD us), rfl, HZ, EZ, ⟨_, rfl, aEN hus⟩, hK⟩
   rw [uQ, Array.mapM_eq_mapM_toList]
   simp only [Sem.run_bind, Sem.run_map, hrun, Result.andThen_ok, Sem.run_pure]
 have hwp := aEf (n := fn.ntmps) O.mixed (B := X) body ⟨X.w.heap.size, []⟩ (Nat.le_refl _) none c O.ok O.s O.plain YY O.i (.inl rfl) 0 none _ (init 0 vs) X _ (bodyPostM (FW none) 0 P fn fun e w' => ∃ Y ao, Y.w = w' ∧ HR Y ∧ Ext X Y ∧ OutR Y ao e ∧ K ao Y.h) body hok.1 (Ext.refl X) H (aIj hv hlen rfl) hw
   (fun Y ae t' e a' HY EY hx hk => by
     cases ae with
     | normal => obtain ⟨rfl, R⟩ := hx; exact fin Y t' a' HY EY R hk
     | ret => obtain ⟨rfl, R⟩ := hx; exact fin Y t' a' HY EY R hk
     | exit i => exact hk.elim
     | goto i => exact hk.elim
     | pan v =>
       obtain ⟨⟨q, rfl, hvq⟩, h1⟩ := hx
       obtain ⟨mk, hmk, hmks⟩ := h1.defers
       show LeavesInM _ _ _ _ _ _ a'.defers _ _
       rw [hmk]
       exact oG (by simp) mk Y hmks HY EY fun Z HZ EZ EV hZh => ⟨Z, .pan v, rfl, HZ, EZ, ⟨q, rfl, hvq.extV EV⟩, by rw [hZh]; exact hk⟩) rfl
 exact (callsIn_wide (n := 0)).1 (callsIn_of_wp_marks (F := FW none) hf hb trivial hwp)

theorem wK (O : Ok P c) {f : FuncId} {fn : Func} (hf : P.funcs[f]? = some fn) {vs : List AV} {cs : Array Value} {X : Cx} (H : HR X) (hv : VVs X vs cs.toList) {K : AOut → List AObj → Prop} (hw : funW c fn vs X.h K) :
   Calls P f cs X.w fun e w' => ∃ Y ao, Y.w = w' ∧ HR Y ∧ Ext X Y ∧ OutR Y ao e ∧ K ao Y.h :=
 aDq O.toOkI hf (fun l => yY (O.y l)) H hv hw

end

end Lam
namespace Lam
open Go

def Told (ao : AOut) (h : List AObj) : Prop := ao = .ret (.bool true)

abbrev aE := List AV → Option (Bool × D)

structure bI (P : Program) (f : FuncId) (C : aE) : Prop where
 enter : ∀ (args : Array Value) (w : World), (callFunc f args).run P w = .ok (.enter f args) w
 spec : ∀ vs b S v news, C vs = some (b, some (S, v, news)) → S → ∀ (X0 : Cx) (cs : Array Value), X0.h = [] → X0.μ = [] → HR X0 → VVs X0 vs cs.toList →
   Calls P f cs X0.w (Ends X0 b v news)

structure dH (P : Program) (f : FuncId) (C : Con) : Prop where
 spec : ∀ args h K, C args h K → ∀ (X : Cx) (cs : Array Value), HR X → X.h = h → VVs X args cs.toList →
   (∀ w, (callFunc f cs).run P w = .ok (.enter f cs) w) ∧
     Calls P f cs X.w fun e w' => ∃ Y ao, Y.w = w' ∧ HR Y ∧ Ext X Y ∧ OutR Y ao e ∧ K ao Y.h

structure qK (P : Program) (f : FuncId) (C : Con → Con) : Prop where
 spec : ∀ Yc l cap h K, C Yc (.fn (.yield l) [] [] :: cap) h K → ∀ (X : Cx) (cs : Array Value), YOk P X l Yc → HR X → X.h = h → VVs X (.fn (.yield l) [] [] :: cap) cs.toList →
   (∀ w, (callFunc f cs).run P w = .ok (.enter f cs) w) ∧
     Calls P f cs X.w fun e w' => ∃ Y ao, Y.w = w' ∧ HR Y ∧ Ext X Y ∧ OutR Y ao e ∧ K ao Y.h

def qL : List (FuncId × (Con → Con)) → FuncId → Con → Con
 | [], _ => fun _ _ _ _ => False
 | (g, C) :: r, f => match Nat.beq f g with
   | true => C
   | false => qL r f

def mS : List (FuncId × aE) → FuncId → aE
 | [], _ => fun _ => none
 | (g, C) :: r, f => match Nat.beq f g with
   | true => C
   | false => mS r f

def oK : List (FuncId × Con) → FuncId → Con
 | [], _ => fun _ _ _ => False
 | (g, C) :: r, f => match Nat.beq f g with
   | true => C
   | false => oK r f

theorem aCh {P : Program} : ∀ {l : List (FuncId × aE)}, (∀ p ∈ l, bI P p.1 p.2) → FOk P (mS l)
 | [], _ => ⟨fun f vs r h => by simp [mS] at h, fun f vs b S v news h => by simp [mS] at h⟩
 | (g, C) :: r, h => by
   have ih := aCh (P := P) (l := r) fun p hp => h p (by simp [hp])
   have h0 := h (g, C) (by simp)
   refine ⟨fun f vs q e => ?_, fun f vs b S v news e => ?_⟩
   · cases hb : Nat.beq f g with
     | true =>
       simp only [mS, hb] at e
       obtain rfl := Nat.eq_of_beq_eq_true hb
       exact h0.enter
     | false =>
       simp only [mS, hb] at e
       exact ih.enter f vs q e
   · cases hb : Nat.beq f g with
     | true =>
       simp only [mS, hb] at e
       obtain rfl := Nat.eq_of_beq_eq_true hb
       exact h0.spec vs b S v news e
     | false =>
       simp only [mS, hb] at e
       exact ih.spec f vs b S v news e

theorem aCi {P : Program} : ∀ {l : List (FuncId × Con)}, (∀ p ∈ l, dH P p.1 p.2) → SOk P (oK l)
 | [], _ => ⟨fun f args h K e => by simp [oK] at e⟩
 | (g, C) :: r, h => by
   have ih := aCi (P := P) (l := r) fun p hp => h p (by simp [hp])
   have h0 := h (g, C) (by simp)
   refine ⟨fun f args hh K e => ?_⟩
   cases hb : Nat.beq f g with
   | true =>
     simp only [oK, hb] at e
     obtain rfl := Nat.eq_of_beq_eq_true hb
     exact h0.spec args hh K e
   | false =>
     simp only [oK, hb] at e
     exact ih.spec f args hh K e

theorem aEO {P : Program} : ∀ {l : List (FuncId × (Con → Con))}, (∀ p ∈ l, qK P p.1 p.2) → ISOk P (qL l)
 | [], _ => ⟨fun f Yc l cap h K e => by simp [qL] at e⟩
 | (g, C) :: r, h => by
   have ih := aEO (P := P) (l := r) fun p hp => h p (by simp [hp])
   have h0 := h (g, C) (by simp)
   refine ⟨fun f Yc l cap hh K e => ?_⟩
   cases hb : Nat.beq f g with
   | true =>
     simp only [qL, hb] at e
     obtain rfl := Nat.eq_of_beq_eq_true hb
     exact h0.spec Yc l cap hh K e
   | false =>
     simp only [qL, hb] at e
     exact ih.spec f Yc l cap hh K e

theorem aMW {P : Program} : ISOk P fun _ _ _ _ _ => False := ⟨fun _ _ _ _ _ _ h => h.elim⟩

def Post (b : Bool) (v : AV) (news : List AObj) (ao : AOut) (h : List AObj) : Prop :=
 ∃ v', ao = .ret v' ∧ match b with
   | false => (v'.val h = some v ∨ v' = v) ∧ v.closed = true
   | true => (∃ x x' id ver len k l, v' = .sref x id ver 0 len ∧ h[id]? = some (.row k ver l) ∧ k ≠ .fro ∧ v = .sref x' 0 0 0 len ∧ (x' = true → x = true) ∧ news = [.row .own 0 l]) ∨
     ∃ l, v' = .sl true l ∧ l.len = 0 ∧ v = .sref false 0 0 0 0 ∧ news = [.row .own 0 l]

theorem aG {v v' : AV} {h : List AObj} (e : v'.val h = some v) (hc : v.closed = true) : Post false v [] (.ret v') h := ⟨v', rfl, .inl e, hc⟩
theorem aKx {v : AV} {h : List AObj} (hc : v.closed = true) : Post false v [] (.ret v) h := ⟨v, rfl, .inr rfl, hc⟩
theorem vT {x : Bool} {id ver len : Nat} {k : RK} {l : Lst} {h : List AObj} (hh : h[id]? = some (.row k ver l)) (hk : k ≠ .fro) : Post true (.sref false 0 0 0 len) [.row .own 0 l] (.ret (.sref x id ver 0 len)) h :=
 ⟨_, rfl, .inl ⟨x, false, id, ver, len, k, l, rfl, hh, hk, rfl, fun h => (by cases h), rfl⟩⟩
theorem aCj {l : Lst} {h : List AObj} (hl : l.len = 0) : Post true (.sref false 0 0 0 0) [.row .own 0 l] (.ret (.sl true l)) h := ⟨_, rfl, .inr ⟨l, rfl, hl, rfl, rfl⟩⟩

section
variable {P : Program}

theorem Post.ends {X0 Y : Cx} (HX : HR X0) (Hh : X0.h = []) (H0 : X0.μ = []) (HY : HR Y) (E : Ext X0 Y) {b : Bool} {v : AV} {news : List AObj} {ao : AOut} {e : Ending} (ho : OutR Y ao e) (hp : Post b v news ao Y.h) : Ends X0 b v news e Y.w := by
 obtain ⟨v', rfl, hp⟩ := hp
 obtain ⟨c, rfl, hv⟩ := ho
 refine ⟨c, rfl, ?_⟩
 cases b with
 | false =>
   obtain ⟨he, hc⟩ := hp
   rcases he with he | rfl
   rotate_left
   · exact ⟨Y, rfl, HY, E, hc, hv⟩
   obtain ⟨H1, E1⟩ := aAp HY (ids := v'.rows) (fun id hid => aIh hv id hid)
   exact ⟨Y.fro v'.rows, rfl, H1, E.trans E1, hc, valV HY (Y := Y.fro v'.rows) (fun b h => .inl h) (fun _ _ => rfl) (fun id hid b hb => ⟨.inr ⟨id, hid, hb⟩, rfl⟩) he hc hv⟩
 | true =>
   obtain ⟨Y, hYw, HY, E, x, x', id, ver, len, k, l, hv, hh, hk, rfl, hx, rfl⟩ : ∃ Y' : Cx, Y'.w = Y.w ∧ HR Y' ∧ Ext X0 Y' ∧ ∃ x x' id ver len k l, VV Y' (.sref x id ver 0 len) c ∧ Y'.h[id]? = some (.row k ver l) ∧ k ≠ .fro ∧ v = .sref x' 0 0 0 len ∧ (x' = true → x = true) ∧ news = [.row .own 0 l] := by
     rcases hp with ⟨x, x', id, ver, len, k, l, rfl, hh, hk, hv', hx, hn⟩ | ⟨l, rfl, hl, hv', hn⟩
     · exact ⟨Y, rfl, HY, E, x, x', id, ver, len, k, l, hv, hh, hk, hv', hx, hn⟩
     · obtain ⟨Z, hw, HZ, EZ, hh, hz⟩ := aCf HY hl hv
       exact ⟨Z, hw, HZ, E.trans EZ, false, false, _, 0, 0, .own, l, hz, by rw [hh]; simp, by simp, hv', id, hn⟩
   rw [← hYw]
   obtain ⟨b, hb, hor⟩ := HY.obj _ _ hh
   have hbS : ∀ q, b = some q → ¬ Y.S q := by
     rintro q rfl hs
     obtain ⟨ver', l', e⟩ := (HY.live _ _ hb).2 hs
     rw [hh] at e; cases e; exact hk rfl
   have hOR : ∀ Z : Cx, Z.w = Y.w → OR Z b (.row .own 0 l) := by
     intro Z hZ
     rcases hor with ⟨h1, h2, _⟩ | ⟨b', cs, elem, h1, h2, h3, _⟩
     · exact .inl ⟨h1, h2, by simp⟩
     · exact .inr ⟨b', cs, elem, h1, by rw [hZ]; exact h2, h3, fun h => by cases h⟩
   have hHR : ∀ S : Nat → Prop, (∀ q, S q → X0.S q) → HR ⟨S, [b], [.row .own 0 l], Y.w⟩ := by
     intro S hS
     refine ⟨rfl, fun i o ho => ?_, fun i j q h1 h2 => ?_, fun i q hq => ?_, fun q hq => Nat.lt_of_lt_of_le (HX.old q (hS q hq)) E.grow⟩
     · cases i with
       | zero => simp only [List.getElem?_cons_zero, Option.some.injEq] at ho; subst ho; exact ⟨b, rfl, hOR _ rfl⟩
       | succ i => simp at ho
     · cases i <;> cases j <;> simp at h1 h2 ⊢
     · cases i with
       | zero =>
         simp only [List.getElem?_cons_zero, Option.some.injEq] at hq
         exact ⟨(HY.live id q (by rw [hb, hq])).1, fun hs => (hbS q hq (E.S q (hS q hs))).elim⟩
       | succ i => simp at hq
   have EZ : Ext X0 ⟨X0.S, [b], [.row .own 0 l], Y.w⟩ := by
     refine ⟨fun _ h => h, E.cells, fun b h => .inl h, fun i q hq => ?_, E.keep, E.grow, fun i k ver l hl => ?_, fun i q h1 h2 => ?_, E.env⟩
     · cases i with
       | zero =>
         simp only [List.getElem?_cons_zero, Option.some.injEq] at hq
         rcases E.muinv id q (by rw [hb, hq]) with h | h
         · rw [H0] at h; simp at h
         · exact .inr h
       | succ i => simp at hq
     · rw [Hh] at hl; cases hl
     · rw [H0] at h2; simp at h2
   refine ⟨⟨X0.S, [b], [.row .own 0 l], Y.w⟩, rfl, hHR _ (fun _ h => h), EZ, rfl, fun o ho => ?_, rfl, hHR _ (fun _ h => h.elim), ?_⟩
   · simp only [List.mem_singleton] at ho; subst ho; rfl
   · obtain ⟨a, n, cap, rfl, k', ver', l', hl', hle, g⟩ := hv
     rw [hh] at hl'; cases hl'
     obtain ⟨rfl, g2, g3, g4, g5, g6⟩ := g rfl
     refine ⟨a, n, cap, rfl, .own, 0, l, rfl, Nat.le_refl _, fun _ => ⟨rfl, g2, g3, fun h => g4 (hx h), g5, fun hn => ?_⟩⟩
     obtain ⟨q, q1, q2, q3⟩ := g6 hn
     refine ⟨q, ?_, q2, q3⟩
     rw [hb] at q1
     simpa using q1

theorem sQ {f : FuncId} {fn : Func} (hf : P.funcs[f]? = some fn) (hn : (fn.name == "runtime.NumGoroutine") = false) (hb : fn.body.isNone = false) (args : Array Value) (w : World) :
   (callFunc f args).run P w = .ok (.enter f args) w := by
 simp only [callFunc, Sem.run_bind, run_program, Result.andThen_ok, hf, hn, hb, Bool.false_eq_true, if_false, Sem.run_pure]

theorem bI.of {c : Ctx} (O : Ok P c) {f : FuncId} {fn : Func} {C : aE} (hf : P.funcs[f]? = some fn) (hn : (fn.name == "runtime.NumGoroutine") = false) (hb : fn.body.isNone = false)
   (h : ∀ vs b S v news, C vs = some (b, some (S, v, news)) → S → funW c fn vs [] (Post b v news)) : bI P f C := by
 refine ⟨sQ hf hn hb, fun vs b S v news e hS X0 cs Hh Hm HX hv => ?_⟩
 have hw := h vs b S v news e hS
 rw [← Hh] at hw
 refine (wK O hf HX hv hw).mono fun en w' he => ?_
 obtain ⟨Y, ao, rfl, HY, EY, ho, hp⟩ := he
 exact hp.ends HX Hh Hm HY EY ho

theorem dH.of {c : Ctx} (O : Ok P c) {f : FuncId} {fn : Func} {C : Con} (hf : P.funcs[f]? = some fn) (hn : (fn.name == "runtime.NumGoroutine") = false) (hb : fn.body.isNone = false)
   (h : ∀ args h K, C args h K → funW c fn args h K) : dH P f C := by
 refine ⟨fun args hh K hC X cs H hXh hv => ⟨fun w => sQ hf hn hb cs w, ?_⟩⟩
 have hw := h args hh K hC
 rw [← hXh] at hw
 exact wK O hf H hv hw

theorem qK.of {c : Ctx} (O : OkI P c) {f : FuncId} {fn : Func} {C : Con → Con} (hf : P.funcs[f]? = some fn) (hn : (fn.name == "runtime.NumGoroutine") = false) (hb : fn.body.isNone = false)
   (h : ∀ Yc l cap hh K, C Yc (.fn (.yield l) [] [] :: cap) hh K → funW (c.withY l Yc) fn (.fn (.yield l) [] [] :: cap) hh K) : qK P f C := by
 refine ⟨fun Yc l cap hh K hC X cs hY H hXh hv => ⟨fun w => sQ hf hn hb cs w, ?_⟩⟩
 have hw := h Yc l cap hh K hC
 rw [← hXh] at hw
 have O' : OkI P (c.withY l Yc) := ⟨⟨O.ok.tab, O.ok.sh, O.ok.fok⟩, O.s, O.plain, O.mixed, O.i⟩
 refine aDq O' hf (fun l' args h K hq => ?_) H hv hw
 obtain ⟨e, hq⟩ := hq
 rw [e]
 exact hY args h K hq
end

/-! ### Arguments as they may be -/
def w64L (n : Int) : Prop := (Lit.int .i64 n).wf = true
def wfL : Lst → Prop
 | .ints k xs => ∀ x ∈ xs, (Lit.int k x).wf = true
 | .bools _ => True
 | .strs xs => ∀ s ∈ xs, s.length ≤ maxLen
 | .pends xs => ∀ p ∈ xs, w64L p.at_ ∧ w64L p.val
 | .mics xs => ∀ p ∈ xs, w64L p.kind ∧ w64L p.at_ ∧ w64L p.val
 | .recs xs => ∀ p ∈ xs, w64L p.kind ∧ p.key.length ≤ maxLen ∧ p.val.length ≤ maxLen ∧ w64L p.child
 | .pairs xs => ∀ p ∈ xs, p.key.length ≤ maxLen ∧ p.val.length ≤ maxLen
 | .slots xs => ∀ p ∈ xs, w64L p.at_ ∧ w64L p.val
 | .fns _ => True

mutual
def sY : TyD → AV → Prop
 | .int k, v => ∃ n, v = .int k n ∧ (Lit.int k n).wf = true
 | .bool, v => ∃ b, v = .bool b
 | .str, v => ∃ s : aY, v = .str s ∧ s.length ≤ maxLen
 | .slice e, v => ∃ l, v = .sl false l ∧ l.kind = e ∧ wfL l ∧ l.len ≤ maxLen
 | .strct fs, v => ∃ vs, v = .agg vs ∧ tL fs vs
 | _, _ => False
def tL : List TyD → List AV → Prop
 | [], vs => vs = []
 | d :: ds, vs => ∃ v r, vs = v :: r ∧ sY d v ∧ tL ds r
end

theorem aDr {k : IntKind} {l : Lst} (h : l.kind = .int k) : ∃ xs, l = .ints k xs := by cases l <;> first | (simp only [Lst.kind, LK.int.injEq] at h; subst h; exact ⟨_, rfl⟩) | cases h
end Lam
namespace Lam
open Go

def pN (w : World) : Cx := ⟨fun b => b < w.heap.size, [], [], w⟩

theorem aLM (w : World) : HR (pN w) := hr0 fun _ h => h

open Go.RowKit in
theorem law_calls {P : Program} {c : Ctx} (O : Ok P c) {f : FuncId} {fn : Func} (hf : P.funcs[f]? = some fn) {vs : List AV} {cs : Array Value} {w : World} (hw : funW c fn vs [] Told) (hv : VVs (pN w) vs cs.toList) :
   Calls P f cs w fun e w' => e = .returned (.bool true) ∧ Below w.heap.size w w' := by
 refine (wK (X := pN w) O hf (aLM w) hv hw).mono fun e w' he => ?_
 obtain ⟨Y, ao, rfl, HY, EY, ho, hk⟩ := he
 obtain rfl : ao = .ret (.bool true) := hk
 obtain ⟨c', rfl, hc⟩ := ho
 obtain rfl : c' = .bool true := hc
 exact ⟨rfl, EY.env.1, EY.env.2.1, EY.env.2.2, EY.grow, fun k hk => nS (w := w) EY hk⟩
end Lam
namespace Lam
open Go

mutual
def mT (sl : LK → TypeId → Bool) (P : Program) : TyD → TypeId → Bool
 | .int k, T => match P.underlying T with | some (.int k') => k == k' | _ => false
 | .bool, T => match P.underlying T with | some .bool => true | _ => false
 | .str, T => match P.underlying T with | some .string => true | _ => false
 | .slice e, T => match P.underlying T with | some (.slice E) => sl e E | _ => false
 | .strct fs, T => match P.underlying T with | some (.struct fields) => Nat.beq (P.cellsOf T) (TyD.sizes fs) && aAw sl P fs 0 fields.toList | _ => false
 | _, _ => false
def aAw (sl : LK → TypeId → Bool) (P : Program) : List TyD → Nat → List Field → Bool
 | [], _, fs => fs.isEmpty
 | d :: ds, off, fs => match fs with
   | [] => false
   | f :: fs' => Nat.beq f.offset off && Nat.beq (P.cellsOf f.type) d.size && mT sl P d f.type && aAw sl P ds (off + d.size) fs'
end

def aFG (P : Program) (d : TyD) (T : TypeId) : Bool := mT (fun _ _ => false) P d T
def aJb (P : Program) (d : TyD) (T : TypeId) : Bool := mT (fun e E => Nat.beq (P.cellsOf E) e.size && aFG P e.ty E) P d T

section
variable {H : Type} {enc : TypeId × Value → H} {P : Program} {w : World} {spare : Nat → Bool} {held : Bool}

theorem pO {α : Type} (d : α) (Q : Nat → α → Prop) : ∀ (n : Nat), (∀ i, i < n → ∃ x, Q i x) → ∃ xs : List α, xs.length = n ∧ ∀ i, i < n → Q i (xs.getD i d)
 | 0, _ => ⟨[], rfl, fun i hi => by omega⟩
 | n + 1, h => by
   obtain ⟨xs, hl, hx⟩ := pO d Q n fun i hi => h i (by omega)
   obtain ⟨x, hq⟩ := h n (by omega)
   refine ⟨xs ++ [x], by simp [hl], fun i hi => ?_⟩
   rw [List.getD_eq_getElem?_getD]
   by_cases e : i = n
   · subst e
     rw [List.getElem?_append_right (by omega), hl]
     simpa using hq
   · rw [List.getElem?_append_left (by omega), ← List.getD_eq_getElem?_getD]
     exact hx i (by omega)

mutual
theorem aCk {sl : LK → TypeId → Bool} (HS : ∀ e T E fuel cs x, P.underlying T = some (.slice E) → sl e E = true → DataW.trod enc P w 0 spare held fuel T cs = some x → ∃ l, l.kind = e ∧ wfL l ∧ l.len ≤ maxLen ∧ VC (pN w) (.sl false l) cs) :
   ∀ (d : TyD) (T : TypeId) (fuel : Nat) (cs : List Value) (x : DataW H × List MemPlace), mT sl P d T = true → DataW.trod enc P w 0 spare held fuel T cs = some x → ∃ v, sY d v ∧ VC (pN w) v cs
 | .int k, T, fuel, cs, x, h, ht => by
   simp only [mT] at h
   split at h
   · rename_i k' hu
     obtain rfl : k = k' := by simpa using h
     obtain ⟨n, rfl, _, hw⟩ := DataW.trod_int hu ht
     exact ⟨.int k n, ⟨n, rfl, hw⟩, ⟨_, rfl, rfl⟩⟩
   · cases h
 | .bool, T, fuel, cs, x, h, ht => by
   simp only [mT] at h
   split at h
   · rename_i hu
     obtain ⟨b, rfl, _⟩ := DataW.trod_bool hu ht
     exact ⟨.bool b, ⟨b, rfl⟩, ⟨_, rfl, rfl⟩⟩
   · cases h
 | .str, T, fuel, cs, x, h, ht => by
   simp only [mT] at h
   split at h
   · rename_i hu
     obtain ⟨s, rfl, _, hs⟩ := DataW.trod_string hu ht
     have hl : s.data.toList.length ≤ maxLen := by rw [Array.length_toList]; exact hs
     exact ⟨.str s.data.toList, ⟨_, rfl, hl⟩, ⟨_, rfl, by show Value.string s = _; rw [bstr_data]⟩⟩
   · cases h
 | .slice e, T, fuel, cs, x, h, ht => by
   simp only [mT] at h
   split at h
   · rename_i E hu
     obtain ⟨l, h1, h2, h3, h4⟩ := HS e T E fuel cs x hu h ht
     exact ⟨.sl false l, ⟨l, rfl, h1, h2, h3⟩, h4⟩
   · cases h
 | .strct ds, T, fuel, cs, x, h, ht => by
   simp only [mT] at h
   split at h
   · rename_i fields hu
     simp only [Bool.and_eq_true] at h
     obtain ⟨hc, hg⟩ := h
     have hc := Nat.eq_of_beq_eq_true hc
     obtain ⟨xs, n, rfl, _, hl, hxl, hf⟩ := DataW.trod_struct hu ht
     obtain ⟨vs, g1, g2⟩ := aEP HS ds 0 fields.toList n cs hg (by rw [hl, hc]; omega) (fun i f hi => by
       have := hf i f (by simpa using hi)
       rw [this]
       have hlt : i < xs.length := by rw [hxl]; simpa using (List.getElem?_eq_some_iff.1 hi).1
       exact ⟨_, List.getElem?_eq_getElem hlt⟩)
     refine ⟨.agg vs, ⟨vs, rfl, g1⟩, ?_⟩
     simp only [VC]
     rw [List.drop_zero] at g2
     exact g2
   · cases h
 | .arr _ _, T, fuel, cs, x, h, ht => by simp only [mT] at h; cases h
 | .ptr, T, fuel, cs, x, h, ht => by simp only [mT] at h; cases h
 | .map _, T, fuel, cs, x, h, ht => by simp only [mT] at h; cases h
 | .func, T, fuel, cs, x, h, ht => by simp only [mT] at h; cases h
 | .iface, T, fuel, cs, x, h, ht => by simp only [mT] at h; cases h
 | .tup _, T, fuel, cs, x, h, ht => by simp only [mT] at h; cases h
 | .other, T, fuel, cs, x, h, ht => by simp only [mT] at h; cases h
theorem aEP {sl : LK → TypeId → Bool} (HS : ∀ e T E fuel cs x, P.underlying T = some (.slice E) → sl e E = true → DataW.trod enc P w 0 spare held fuel T cs = some x → ∃ l, l.kind = e ∧ wfL l ∧ l.len ≤ maxLen ∧ VC (pN w) (.sl false l) cs) :
   ∀ (ds : List TyD) (off : Nat) (fs : List Field) (fuel : Nat) (cs : List Value), aAw sl P ds off fs = true → cs.length = off + TyD.sizes ds →
     (∀ (i : Nat) (f : Field), fs[i]? = some f → ∃ x, DataW.trod enc P w 0 spare held fuel f.type ((cs.drop f.offset).take (P.cellsOf f.type)) = some x) → ∃ vs, tL ds vs ∧ VCs (pN w) vs (cs.drop off)
 | [], off, fs, fuel, cs, h, hl, hf => by
   refine ⟨[], rfl, ?_⟩
   simp only [TyD.sizes, Nat.add_zero] at hl
   simp only [VCs]
   exact List.drop_eq_nil_of_le (by omega)
 | d :: ds, off, [], fuel, cs, h, hl, hf => by simp [aAw] at h
 | d :: ds, off, f :: fs, fuel, cs, h, hl, hf => by
   simp only [aAw, Bool.and_eq_true] at h
   obtain ⟨⟨⟨h1, h2⟩, h3⟩, h4⟩ := h
   have h1 := Nat.eq_of_beq_eq_true h1
   have h2 := Nat.eq_of_beq_eq_true h2
   simp only [TyD.sizes] at hl
   obtain ⟨x, hx⟩ := hf 0 f rfl
   rw [h1, h2] at hx
   obtain ⟨v, g1, g2⟩ := aCk HS d f.type fuel _ x h3 hx
   obtain ⟨vs, g3, g4⟩ := aEP HS ds (off + d.size) fs fuel cs h4 (by omega) fun i f' hi => hf (i + 1) f' (by simpa using hi)
   refine ⟨v :: vs, ⟨v, vs, rfl, g1, g3⟩, ?_⟩
   simp only [VCs]
   refine ⟨_, _, ?_, g2, g4⟩
   rw [← List.drop_drop, List.take_append_drop]
end

theorem aKy {d : TyD} {T : TypeId} {fuel : Nat} {cs : List Value} {x : DataW H × List MemPlace} (h : aFG P d T = true) (ht : DataW.trod enc P w 0 spare held fuel T cs = some x) : ∃ v, sY d v ∧ VC (pN w) v cs :=
 aCk (fun _ _ _ _ _ _ _ h _ => by cases h) d T fuel cs x h ht

theorem xW {X : Cx} {cs : List Value} (h : VCs X [] cs) : cs = [] := by simpa only [VCs] using h
theorem pP {X : Cx} {k : IntKind} {n : Int} {r : List AV} {cs : List Value} (h : VCs X (.int k n :: r) cs) : ∃ b, cs = .int k n :: b ∧ VCs X r b := by
 simp only [VCs, VC] at h
 obtain ⟨a, b, rfl, ⟨c, rfl, hc⟩, hr⟩ := h
 exact ⟨b, by rw [show c = _ from hc]; rfl, hr⟩
theorem aLN {X : Cx} {n : Bool} {r : List AV} {cs : List Value} (h : VCs X (.bool n :: r) cs) : ∃ b, cs = .bool n :: b ∧ VCs X r b := by
 simp only [VCs, VC] at h
 obtain ⟨a, b, rfl, ⟨c, rfl, hc⟩, hr⟩ := h
 exact ⟨b, by rw [show c = _ from hc]; rfl, hr⟩
theorem aBf {X : Cx} {n : aY} {r : List AV} {cs : List Value} (h : VCs X (.str n :: r) cs) : ∃ b, cs = .string (bstr n) :: b ∧ VCs X r b := by
 simp only [VCs, VC] at h
 obtain ⟨a, b, rfl, ⟨c, rfl, hc⟩, hr⟩ := h
 exact ⟨b, by rw [show c = _ from hc]; rfl, hr⟩

theorem aGx (e : LK) {E : TypeId} (hE : aFG P e.ty E = true) {fuel : Nat} {cs : Nat → List Value} {n : Nat} (h : ∀ i, i < n → ∃ x, DataW.trod enc P w 0 spare held fuel E (cs i) = some x) :
   ∃ l : Lst, l.kind = e ∧ wfL l ∧ l.len = n ∧ ∀ i, i < n → cs i = l.cell i := by
 have hh : ∀ i, i < n → ∃ v, sY e.ty v ∧ VC (pN w) v (cs i) := fun i hi => by
   obtain ⟨x, hx⟩ := h i hi
   exact aKy hE hx
 have mem : ∀ {α : Type} (d : α) (xs : List α) (Q : α → Prop), xs.length = n → (∀ i, i < n → Q (xs.getD i d)) → ∀ x ∈ xs, Q x := by
   intro α d xs Q hl hq x hx
   obtain ⟨i, hi, rfl⟩ := List.getElem_of_mem hx
   have := hq i (by omega)
   rwa [List.getD_eq_getElem?_getD, List.getElem?_eq_getElem hi] at this
 cases e with
 | int k =>
   obtain ⟨xs, hl, hx⟩ := pO (0 : Int) (fun i x => cs i = [.int k x] ∧ (Lit.int k x).wf = true) n fun i hi => by
     obtain ⟨v, hg, hv⟩ := hh i hi
     obtain ⟨m, rfl, hw⟩ := hg
     simp only [VC] at hv
     obtain ⟨c, hc, hc2⟩ := hv
     exact ⟨m, by rw [hc, show c = _ from hc2], hw⟩
   exact ⟨.ints k xs, rfl, mem 0 xs (fun x => (Lit.int k x).wf = true) hl (fun i hi => (hx i hi).2), hl, fun i hi => (hx i hi).1⟩
 | bool =>
   obtain ⟨xs, hl, hx⟩ := pO false (fun i x => cs i = [.bool x]) n fun i hi => by
     obtain ⟨v, hg, hv⟩ := hh i hi
     obtain ⟨m, rfl⟩ := hg
     simp only [VC] at hv
     obtain ⟨c, hc, hc2⟩ := hv
     exact ⟨m, by rw [hc, show c = _ from hc2]⟩
   exact ⟨.bools xs, rfl, trivial, hl, hx⟩
 | str =>
   obtain ⟨xs, hl, hx⟩ := pO ([] : aY) (fun i x => cs i = [.string (bstr x)] ∧ x.length ≤ maxLen) n fun i hi => by
     obtain ⟨v, hg, hv⟩ := hh i hi
     obtain ⟨m, rfl, hw⟩ := hg
     simp only [VC] at hv
     obtain ⟨c, hc, hc2⟩ := hv
     exact ⟨m, by rw [hc, show c = _ from hc2], hw⟩
   exact ⟨.strs xs, rfl, mem [] xs (fun x => x.length ≤ maxLen) hl (fun i hi => (hx i hi).2), hl, fun i hi => (hx i hi).1⟩
 | pend =>
   obtain ⟨xs, hl, hx⟩ := pO (⟨0, 0, false⟩ : Pend) (fun i x => cs i = [.int .i64 x.at_, .int .i64 x.val, .bool x.fl] ∧ w64L x.at_ ∧ w64L x.val) n fun i hi => by
     obtain ⟨v, hg, hv⟩ := hh i hi
     simp only [LK.ty, sY, tL] at hg
     obtain ⟨_, rfl, _, _, rfl, ⟨a, rfl, ha⟩, _, _, rfl, ⟨b, rfl, hb⟩, _, _, rfl, ⟨c, rfl⟩, rfl⟩ := hg
     simp only [VC] at hv
     obtain ⟨_, e1, hv⟩ := pP hv
     obtain ⟨_, e2, hv⟩ := pP hv
     rw [e2] at e1
     obtain ⟨_, e2, hv⟩ := aLN hv
     rw [e2] at e1
     rw [xW hv] at e1
     exact ⟨⟨a, b, c⟩, e1, ha, hb⟩
   exact ⟨.pends xs, rfl, mem ⟨0, 0, false⟩ xs (fun x => w64L x.at_ ∧ w64L x.val) hl (fun i hi => (hx i hi).2), hl, fun i hi => (hx i hi).1⟩
 | mic =>
   obtain ⟨xs, hl, hx⟩ := pO (⟨0, 0, 0⟩ : Mic) (fun i x => cs i = [.int .i64 x.kind, .int .i64 x.at_, .int .i64 x.val] ∧ w64L x.kind ∧ w64L x.at_ ∧ w64L x.val) n fun i hi => by
     obtain ⟨v, hg, hv⟩ := hh i hi
     simp only [LK.ty, sY, tL] at hg
     obtain ⟨_, rfl, _, _, rfl, ⟨a, rfl, ha⟩, _, _, rfl, ⟨b, rfl, hb⟩, _, _, rfl, ⟨c, rfl, hc⟩, rfl⟩ := hg
     simp only [VC] at hv
     obtain ⟨_, e1, hv⟩ := pP hv
     obtain ⟨_, e2, hv⟩ := pP hv
     rw [e2] at e1
     obtain ⟨_, e2, hv⟩ := pP hv
     rw [e2] at e1
     rw [xW hv] at e1
     exact ⟨⟨a, b, c⟩, e1, ha, hb, hc⟩
   exact ⟨.mics xs, rfl, mem ⟨0, 0, 0⟩ xs (fun x => w64L x.kind ∧ w64L x.at_ ∧ w64L x.val) hl (fun i hi => (hx i hi).2), hl, fun i hi => (hx i hi).1⟩
 | rcd =>
   obtain ⟨xs, hl, hx⟩ := pO (⟨0, [], [], 0⟩ : RecT) (fun i x => cs i = [.int .i64 x.kind, .string (bstr x.key), .string (bstr x.val), .int .i64 x.child] ∧ w64L x.kind ∧ x.key.length ≤ maxLen ∧ x.val.length ≤ maxLen ∧ w64L x.child) n fun i hi => by
     obtain ⟨v, hg, hv⟩ := hh i hi
     simp only [LK.ty, sY, tL] at hg
     obtain ⟨_, rfl, _, _, rfl, ⟨a, rfl, ha⟩, _, _, rfl, ⟨b, rfl, hb⟩, _, _, rfl, ⟨c, rfl, hc⟩, _, _, rfl, ⟨d, rfl, hd⟩, rfl⟩ := hg
     simp only [VC] at hv
     obtain ⟨_, e1, hv⟩ := pP hv
     obtain ⟨_, e2, hv⟩ := aBf hv
     rw [e2] at e1
     obtain ⟨_, e2, hv⟩ := aBf hv
     rw [e2] at e1
     obtain ⟨_, e2, hv⟩ := pP hv
     rw [e2] at e1
     rw [xW hv] at e1
     exact ⟨⟨a, b, c, d⟩, e1, ha, hb, hc, hd⟩
   exact ⟨.recs xs, rfl, mem ⟨0, [], [], 0⟩ xs (fun x => w64L x.kind ∧ x.key.length ≤ maxLen ∧ x.val.length ≤ maxLen ∧ w64L x.child) hl (fun i hi => (hx i hi).2), hl, fun i hi => (hx i hi).1⟩
 | pair =>
   obtain ⟨xs, hl, hx⟩ := pO (⟨[], []⟩ : iY) (fun i x => cs i = [.string (bstr x.key), .string (bstr x.val)] ∧ x.key.length ≤ maxLen ∧ x.val.length ≤ maxLen) n fun i hi => by
     obtain ⟨v, hg, hv⟩ := hh i hi
     simp only [LK.ty, sY, tL] at hg
     obtain ⟨_, rfl, _, _, rfl, ⟨b, rfl, hb⟩, _, _, rfl, ⟨c, rfl, hc⟩, rfl⟩ := hg
     simp only [VC] at hv
     obtain ⟨_, e1, hv⟩ := aBf hv
     obtain ⟨_, e2, hv⟩ := aBf hv
     rw [e2] at e1
     rw [xW hv] at e1
     exact ⟨⟨b, c⟩, e1, hb, hc⟩
   exact ⟨.pairs xs, rfl, mem ⟨[], []⟩ xs (fun x => x.key.length ≤ maxLen ∧ x.val.length ≤ maxLen) hl (fun i hi => (hx i hi).2), hl, fun i hi => (hx i hi).1⟩
 | slot =>
   obtain ⟨xs, hl, hx⟩ := pO (⟨0, 0⟩ : aAW) (fun i x => cs i = [.int .i64 x.at_, .int .i64 x.val] ∧ w64L x.at_ ∧ w64L x.val) n fun i hi => by
     obtain ⟨v, hg, hv⟩ := hh i hi
     simp only [LK.ty, sY, tL] at hg
     obtain ⟨_, rfl, _, _, rfl, ⟨a, rfl, ha⟩, _, _, rfl, ⟨b, rfl, hb⟩, rfl⟩ := hg
     simp only [VC] at hv
     obtain ⟨_, e1, hv⟩ := pP hv
     obtain ⟨_, e2, hv⟩ := pP hv
     rw [e2] at e1
     rw [xW hv] at e1
     exact ⟨⟨a, b⟩, e1, ha, hb⟩
   exact ⟨.slots xs, rfl, mem ⟨0, 0⟩ xs (fun x => w64L x.at_ ∧ w64L x.val) hl (fun i hi => (hx i hi).2), hl, fun i hi => (hx i hi).1⟩
 | fnk =>
   cases n with
   | zero => exact ⟨.fns [], rfl, trivial, rfl, fun i hi => absurd hi (Nat.not_lt_zero _)⟩
   | succ n =>
     obtain ⟨v, hg, hv⟩ := hh 0 (Nat.succ_pos _)
     exact hg.elim

theorem aMX {a : Addr} (h : a.spot = none) (m r : Nat) : (a.add m).add r = ⟨a.block, a.off + m + r, none⟩ := by
 unfold Addr.add
 cases a with
 | mk b o s =>
   simp only at h; subst h
   by_cases h1 : m = 0 <;> by_cases h2 : r = 0 <;> simp [h1, h2]

theorem aJc {e : LK} {T E : TypeId} {fuel : Nat} {cs : List Value} {x : DataW H × List MemPlace} (hu : P.underlying T = some (.slice E)) (hE : (Nat.beq (P.cellsOf E) e.size && aFG P e.ty E) = true)
   (ht : DataW.trod enc P w 0 spare held fuel T cs = some x) : ∃ l, l.kind = e ∧ wfL l ∧ l.len ≤ maxLen ∧ VC (pN w) (.sl false l) cs := by
 simp only [Bool.and_eq_true] at hE
 obtain ⟨hsz, hE⟩ := hE
 have hsz := Nat.eq_of_beq_eq_true hsz
 rcases DataW.trod_slice hu ht with ⟨rfl, _⟩ | ⟨a, len, cap, elems, rest, n, rfl, rfl, _, _, hle, hmx, hel, hlook, _⟩
 · obtain ⟨l, h1, h2, h3, _⟩ := aGx (enc := enc) (w := w) (spare := spare) (held := held) e hE (fuel := 0) (cs := fun _ => []) (n := 0) fun i hi => by omega
   refine ⟨l, h1, h2, by omega, _, rfl, none, 0, by rw [h3], by omega, fun h => (by cases h), fun _ => rfl, fun h => absurd h3 h⟩
 · have hcells : ∀ i, i < len → ∃ c, w.cells? 0 (a.add (i * e.size)) e.size = some c ∧ ∃ y, DataW.trod enc P w 0 spare held n E c = some y := by
     intro i hi
     have := hlook i hi
     rw [hsz, List.getElem?_eq_getElem (by omega), Option.bind_eq_some_iff] at this
     obtain ⟨c, h1, h2⟩ := this
     exact ⟨c, h1, _, h2⟩
   obtain ⟨l, h1, h2, h3, h4⟩ := aGx (enc := enc) (w := w) (spare := spare) (held := held) e hE (fuel := n) (cs := fun i => (w.cells? 0 (a.add (i * e.size)) e.size).getD []) (n := len) fun i hi => by
     obtain ⟨c, q1, q2⟩ := hcells i hi
     rw [q1]; exact q2
   refine ⟨l, h1, h2, by omega, _, rfl, some a, cap, by rw [h3], by omega, fun h => (by cases h), fun h => (by cases h), fun hn => ?_⟩
   have hkp := LK.size_pos e
   have hpos : 0 < len := by omega
   obtain ⟨c0, q0, _⟩ := hcells 0 hpos
   obtain ⟨_, c0l, q1⟩ := World.cells?_some q0
   have q2 := q1 0 hkp
   have hc0 : ∃ u, w.cell? a = some u := by
     rw [Nat.zero_mul, show (a.add 0).add 0 = a from rfl, List.getElem?_eq_getElem (by omega)] at q2
     exact ⟨_, q2⟩
   obtain ⟨u, hu⟩ := hc0
   have hsp : a.spot = none := by
     unfold World.cell? at hu
     split at hu
     · split at hu
       · cases hu
       · rename_i hs; simpa using hs
     · cases hu
   have hb : a.block < w.heap.size := by
     unfold World.cell? at hu
     split at hu
     · rename_i hx; exact (Array.getElem?_eq_some_iff.1 hx).1
     · cases hu
   refine ⟨a, rfl, hsp, hb, fun j v hj => ?_⟩
   have hjl : j < l.flat.length := (List.getElem?_eq_some_iff.1 hj).1
   rw [Lst.flat_length, h3, h1] at hjl
   have hi : j / e.size < len := Nat.div_lt_of_lt_mul (by rw [Nat.mul_comm]; exact hjl)
   have hr : j % e.size < e.size := Nat.mod_lt _ hkp
   have hjd : j = j / e.size * e.size + j % e.size := by rw [Nat.mul_comm]; exact (Nat.div_add_mod _ _).symm
   obtain ⟨c, q3, _⟩ := hcells _ hi
   have h5 := h4 _ hi
   simp only [q3, Option.getD_some] at h5
   obtain ⟨_, _, q5⟩ := World.cells?_some q3
   have q6 := q5 _ hr
   rw [aMX hsp, Nat.add_assoc, ← hjd, h5] at q6
   have h6 := l.flat_get (i := j / e.size) (j := j % e.size) (by omega) (by rw [h1]; exact hr)
   rw [h1, ← hjd] at h6
   show w.cell? ⟨a.block, a.off + j, none⟩ = some v
   rw [q6, ← h6, hj]

theorem aJd {d : TyD} {T : TypeId} {fuel : Nat} {cs : List Value} {x : DataW H × List MemPlace} (h : aJb P d T = true) (ht : DataW.trod enc P w 0 spare held fuel T cs = some x) : ∃ v, sY d v ∧ VC (pN w) v cs :=
 aCk (fun e T E fuel cs x hu h ht => aJc hu h ht) d T fuel cs x h ht

theorem open_sl {r : Reach} {base : Nat} {e : LK} {T : TypeId} {v : Value} {dd : DataW H} {ps : List MemPlace} (h : aJb P (.slice e) T = true) (hok : Value.okWide P w r base T v) (ht : DataW.Trod enc P w 0 spare held T v dd ps) :
   ∃ l, l.kind = e ∧ wfL l ∧ l.len ≤ maxLen ∧ VV (pN w) (.sl false l) v := by
 obtain ⟨fuel, ht⟩ := ht
 obtain ⟨av, ⟨l, rfl, g1, g2, g3⟩, hv⟩ := aJd h ht
 refine ⟨l, g1, g2, g3, ?_⟩
 unfold aJb mT at h
 split at h
 · rename_i E hu
   simp only [Value.okWide, hu, Cell.okWide] at hok
   have hv : ∃ c, v.cells.toList = [c] ∧ VV (pN w) (.sl false l) c := hv
   obtain ⟨c, hc, hv⟩ := hv
   have : v = c := by
     cases v <;> simp_all [Cell.ok, Value.cells]
   rw [this]; exact hv
 · cases h
end

end Lam
namespace Lam
open Go

abbrev JR := Option (Prop × Bool × AV × Bool × AV × List AObj)
abbrev JCon := List AV → JR

def aJe : AV → Bool
 | .iface _ u => u.noSl
 | _ => false

theorem panV {X Y : Cx} {v : AV} {c : Value} (h : aJe v = true) (hv : VV X v c) : VV Y v c := by
 cases v with
 | iface t u =>
   simp only [VV] at hv ⊢
   obtain ⟨z, rfl, hz⟩ := hv
   exact ⟨z, rfl, aDb h hz⟩
 | _ => cases h

structure nD (P : Program) (f : FuncId) (J : JCon) : Prop where
 enter : ∀ (args : Array Value) (w : World), (callFunc f args).run P w = .ok (.enter f args) w
 spec : ∀ vs S pb pv b v news, J vs = some (S, pb, pv, b, v, news) → S → ∀ (X0 : Cx) (cs : Array Value), X0.h = [] → X0.μ = [] → HR X0 → VVs X0 vs cs.toList →
   Calls P f cs X0.w fun e w' => (pb = true ∧ aJe pv = true ∧ ∃ c Y, e = .panicked [{ v := c, recovered := false }] ∧ Y.w = w' ∧ HR Y ∧ Ext X0 Y ∧ VV Y pv c) ∨ (pb = false ∧ Ends X0 b v news e w')

def aBg (J : JCon) (vs : Option (List AV)) : JR :=
 match vs with
 | some vs => match AV.closeds vs with
   | true => J vs
   | false => none
 | none => none

def jrun (x : JR) (rows : List Nat) (h : List AObj) (K : AOut → List AObj → Prop) : Prop :=
 match x with
 | some (S, pb, pv, b, v, news) => S ∧ (pb = true → K (.pan pv) h) ∧ (pb = false → match b with
   | true => K (.ret (v.shift h.length)) (h ++ news)
   | false => match v.noSl with
     | true => K (.ret v) h
     | false => K (.ret v) (gU rows h))
 | none => False

def Jcon (J : JCon) : Con := fun args h K => jrun (aBg J (AV.vals h args)) (AV.rowss args) h K

theorem aKz {J : JCon} {vs : Option (List AV)} {r} (h : aBg J vs = some r) : ∃ us, vs = some us ∧ AV.closeds us = true ∧ J us = some r := by
 unfold aBg at h
 split at h
 · rename_i us
   split at h
   · rename_i hc; exact ⟨us, rfl, hc, h⟩
   · cases h
 · cases h

section
variable {P : Program}

theorem nD.con {f : FuncId} {J : JCon} (h : nD P f J) : dH P f (Jcon J) := by
 refine ⟨fun args hh K hC X cs H hXh hv => ⟨fun w => h.enter cs w, ?_⟩⟩
 subst hXh
 unfold Jcon jrun at hC
 split at hC
 rotate_left
 · exact hC.elim
 rename_i S pb pv b v news e
 obtain ⟨hS, hp, hr⟩ := hC
 obtain ⟨us, e1, e2, e3⟩ := aKz e
 have base := fun (S' : Nat → Prop) (hS' : ∀ b, X.S b → S' b) (hr' : ∀ id ∈ AV.rowss args, ∀ b, X.μ[id]? = some (some b) → S' b) (hlt : ∀ b, S' b → b < X.w.heap.size) =>
   h.spec _ _ _ _ _ _ _ e3 hS ⟨S', [], [], X.w⟩ cs rfl rfl (hr0 hlt) (yV H hS' hr' e1 e2 hv)
 cases pb with
 | true =>
   refine (base (fun b => b < X.w.heap.size) H.old (fun id _ b hb => (H.live id b hb).1) (fun _ h => h)).mono fun e w' he => ?_
   rcases he with ⟨_, hpo, c, Y, rfl, rfl, HY, E, hvv⟩ | ⟨h, _⟩
   · obtain ⟨Z1, Z2⟩ := xA H E
     exact ⟨⟨X.S, X.μ, X.h, Y.w⟩, .pan pv, rfl, Z1, Z2, ⟨c, rfl, panV hpo hvv⟩, hp rfl⟩
   · cases h
 | false =>
   have hr := hr rfl
   cases b with
   | true =>
     obtain ⟨H', E'⟩ := vQ H news.length
     refine (base (fun b => b < X.w.heap.size) H.old (fun id _ b hb => (H.live id b hb).1) (fun _ h => h)).mono fun e w' he => ?_
     rcases he with ⟨h, _⟩ | ⟨_, he⟩
     · cases h
     obtain ⟨r, rfl, Y, rfl, HY, E, rfl, hnew, hsh, HY0, hvv⟩ := he
     obtain ⟨Z1, Z2, Z3⟩ := aEA (X := X.pad Y.h.length) (s := X.h.length) H' E HY0 (fun j hj => by rw [sW, if_neg (by omega), if_pos (by omega)]) hnew
     refine ⟨⟨(X.pad Y.h.length).S, eV (X.pad Y.h.length).μ X.h.length Y.μ, eV (X.pad Y.h.length).h X.h.length Y.h, Y.w⟩, .ret (v.shift X.h.length), rfl, Z1, E'.trans Z2, ⟨r, rfl, shV Z3 hsh hvv⟩, ?_⟩
     show K _ (eV (X.pad Y.h.length).h X.h.length Y.h)
     rw [show (X.pad Y.h.length).h = X.h ++ List.replicate Y.h.length .dead from rfl, wI]
     exact hr
   | false =>
     simp only at hr
     cases hns : v.noSl with
     | true =>
       rw [hns] at hr
       refine (base (fun b => b < X.w.heap.size) H.old (fun id _ b hb => (H.live id b hb).1) (fun _ h => h)).mono fun e w' he => ?_
       rcases he with ⟨h, _⟩ | ⟨_, he⟩
       · cases h
       obtain ⟨r, rfl, Y, rfl, HY, E, hcl, hvv⟩ := he
       obtain ⟨Z1, Z2⟩ := xA H E
       exact ⟨⟨X.S, X.μ, X.h, Y.w⟩, .ret v, rfl, Z1, Z2, ⟨r, rfl, aDb hns hvv⟩, hr⟩
     | false =>
       rw [hns] at hr
       obtain ⟨H1, E1⟩ := aAp H (ids := AV.rowss args) (fun id hid => sO hv id hid)
       refine (base (X.fro (AV.rowss args)).S (fun _ h => .inl h) (fun id hid b hb => .inr ⟨id, hid, hb⟩) H1.old).mono fun e w' he => ?_
       rcases he with ⟨h, _⟩ | ⟨_, he⟩
       · cases h
       obtain ⟨r, rfl, Y, rfl, HY, E, hcl, hvv⟩ := he
       obtain ⟨Z1, Z2⟩ := tJ (X := X.fro (AV.rowss args)) H1 E HY
       exact ⟨⟨Y.S, X.μ, gU (AV.rowss args) X.h, Y.w⟩, .ret v, rfl, Z1, E1.trans Z2,
         ⟨r, rfl, jL (X := Y) (Y := ⟨Y.S, X.μ, gU (AV.rowss args) X.h, Y.w⟩) (fun _ h => h) (fun _ _ => rfl) hcl hvv⟩, hr⟩

def aDs (pb : Bool) (pv : AV) (b : Bool) (v : AV) (news : List AObj) : AOut → List AObj → Prop := fun ao h =>
 match pb with
 | true => ao = .pan pv
 | false => Post b v news ao h

theorem nD.of {c : Ctx} (O : Ok P c) {f : FuncId} {fn : Func} {J : JCon} (hf : P.funcs[f]? = some fn) (hn : (fn.name == "runtime.NumGoroutine") = false) (hb : fn.body.isNone = false)
   (hp : ∀ vs S pb pv b v news, J vs = some (S, pb, pv, b, v, news) → aJe pv = true)
   (h : ∀ vs S pb pv b v news, J vs = some (S, pb, pv, b, v, news) → S → funW c fn vs [] (aDs pb pv b v news)) : nD P f J := by
 refine ⟨sQ hf hn hb, fun vs S pb pv b v news e hS X0 cs Hh Hm HX hv => ?_⟩
 have hw := h vs S pb pv b v news e hS
 rw [← Hh] at hw
 refine (wK O hf HX hv hw).mono fun en w' he => ?_
 obtain ⟨Y, ao, rfl, HY, EY, ho, hq⟩ := he
 cases pb with
 | true =>
   obtain rfl : ao = .pan pv := hq
   obtain ⟨c, rfl, hv⟩ := ho
   exact .inl ⟨rfl, hp _ _ _ _ _ _ _ e, c, Y, rfl, rfl, HY, EY, hv⟩
 | false => exact .inr ⟨rfl, Post.ends HX Hh Hm HY EY ho hq⟩
end

section
variable {h : List AObj} {K : AOut → List AObj → Prop} {S : Prop} {pb : Bool} {pv v : AV} {news : List AObj} {rows : List Nat}
@[go_sem] theorem aYf (J : JCon) (args : List AV) : Jcon J args h K = jrun (aBg J (AV.vals h args)) (AV.rowss args) h K := (rfl)
@[go_sem] theorem aPy (J : JCon) (vs : List AV) : aBg J (some vs) = if AV.closeds vs = true then J vs else none := by
 cases h : AV.closeds vs <;> simp [aBg, h]
@[go_sem] theorem aPz : jrun (some (S, pb, pv, true, v, news)) rows h K = (S ∧ (pb = true → K (.pan pv) h) ∧ (pb = false → K (.ret (v.shift h.length)) (h ++ news))) := (rfl)
@[go_sem] theorem aPA (hv : v.noSl = true) : jrun (some (S, pb, pv, false, v, news)) rows h K = (S ∧ (pb = true → K (.pan pv) h) ∧ (pb = false → K (.ret v) h)) := by simp [jrun, hv]
@[go_sem] theorem aVr (hv : v.noSl = false) : jrun (some (S, pb, pv, false, v, news)) rows h K = (S ∧ (pb = true → K (.pan pv) h) ∧ (pb = false → K (.ret v) (gU rows h))) := by simp [jrun, hv]
end
end Lam
namespace Lam
open Go

def aMx (o : Oper) : Option (Operand × FuncId) :=
 match o.op, o.guard, o.dst with
 | .defer cl, none, none => match cl.callee, cl.args.toList with
   | .value (.func f), [x] => some (x, f)
   | _, _ => none
 | _, _, _ => none

def aMy : Code → Option (Code × (Operand × FuncId) × Code)
 | .seq a (.seq (.region _ ops draw) b) => match draw with
   | true => none
   | false => match ops.toList with
     | [o] => match aMx o with
       | some p => some (a, p, b)
       | none => none
     | _ => none
 | _ => none

def defX (v : AV) (K : Nat → Prop) : Prop :=
 match v with
 | .ptr id [] => K id
 | _ => False

def aFH (o : Option AObj) (A : Prop) : Prop :=
 match o with
 | some (.box (.int .i64 _)) => A
 | _ => False

def yZ (corT : TypeId) (code : Int) (v : AV) (id : Nat) (h : List AObj) (k : List AObj → Prop) : Prop :=
 v = .iface corT (.agg []) ∧ aFH (h[id]?) (k ((h ++ [AObj.box (.agg [])]).set id (AObj.box (.int .i64 code))))

def endT (c : Ctx) (fn : Func) (K : AOut → List AObj → Prop) (t : List (Nat × AV)) (h : List AObj) : Prop := resW c h t fn.results.toList fun vs => K (.ret (tD vs)) h

def aKA (c : Ctx) (fn : Func) (tf : FuncId) (corT : TypeId) (code : Int) (d : Option (Code × (Operand × FuncId) × Code)) (args : List AV) (h : List AObj) (K : AOut → List AObj → Prop) : Prop :=
 match d with
 | none => False
 | some (a, (x, f), b) => match Nat.beq f tf with
   | false => False
   | true => W c none a ⟨init 0 args, h⟩ fun e st => match e with
     | .normal => defX (ev st.t .ptr x) fun id => W c none b st fun e st' => match e with
       | .ret => endT c fn K st'.t st'.h
       | .normal => endT c fn K st'.t st'.h
       | .pan v => yZ corT code v id st'.h fun h' => endT c fn K st'.t h'
       | _ => False
     | _ => False

def aBh (c : Ctx) (fn : Func) (tf : FuncId) (corT : TypeId) (code : Int) (args : List AV) (h : List AObj) (K : AOut → List AObj → Prop) : Prop :=
 match fn.body with
 | none => False
 | some body => match lD fn.ntmps body && Nat.ble args.length fn.ntmps with
   | true => aKA c fn tf corT code (aMy body) args h K
   | false => False

structure aJf (P : Program) (tf : FuncId) (corT : TypeId) (code : Int) : Prop where
 enter : ∀ (args : Array Value) (w : World), (callFunc tf args).run P w = .ok (.enter tf args) w
 ret : ∀ (q : Value) (w : World), CallsDIn (FW none) 0 P tf #[q] .returning w fun e u' w' => (∃ v, e = .returned v) ∧ u' = .returning ∧ w' = w
 pan : ∀ (X : Cx) (id : Nat) (q z : Value) (n : Int), HR X → VV X (.ptr id []) q → VV X (.iface corT (.agg [])) z → X.h[id]? = some (.box (.int .i64 n)) →
   CallsDIn (FW none) 0 P tf #[q] (.panicking [{ v := z, recovered := false }]) X.w fun e u' w' => (∃ v, e = .returned v) ∧ u' = .panicking [{ v := z, recovered := true }] ∧
     ∃ Y : Cx, Y.w = w' ∧ HR Y ∧ Ext X Y ∧ Y.h = (X.h ++ [AObj.box (.agg [])]).set id (AObj.box (.int .i64 code))

theorem wL {P : Program} {f : FuncId} {fn : Func} {c : Code} {args : Array Value} {u : FrameMode} {w : World} {R : Ending → FrameMode → World → Prop}
   (hf : P.funcs[f]? = some fn) (hb : fn.body = some c)
   (h : ∀ (c₀ : Frame) (cs : List Frame), c₀.mode = u →
     c.wpS P (bodyPostS P fn c₀ cs R) { tmps := args ++ Array.replicate (fn.ntmps - args.size) undef, defers := [] } (c₀ :: cs) w) :
   CallsDIn (FW none) 0 P f args u w R := by
 refine ⟨trivial, fun c₀ cs hu _ => ?_⟩
 let b : Frame := { (default : Frame) with fn := f, kind := .deferred }
 have henter : Frame.enter P f args .deferred =
     b.at { tmps := args ++ Array.replicate (fn.ntmps - args.size) undef, defers := [] } [.code c] := by
   simp [Frame.enter, Frame.at, hf, hb, b]
 obtain ⟨e, a', cs', w', hq, harr⟩ := h c₀ cs hu b [] rfl rfl
 rw [← henter] at harr
 cases e with
 | normal =>
   obtain ⟨hd, u', rfl, v, hr, hR⟩ := hq
   exact ⟨.returned v, u', w', _, hR, comesIn_wide.2 (Steps.trans harr (.one step_end)), rfl, rfl, rfl, hd, fn, hf, hr⟩
 | ret =>
   obtain ⟨hd, u', rfl, v, hr, hR⟩ := hq
   obtain ⟨todo, hs⟩ := harr
   exact ⟨.returned v, u', w', _, hR, comesIn_wide.2 hs, rfl, rfl, rfl, hd, fn, hf, hr⟩
 | panic chain =>
   obtain ⟨hd, u', rfl, hR⟩ := hq
   obtain ⟨todo, hs⟩ := harr
   exact ⟨.panicked chain, u', w', _, hR, comesIn_wide.2 hs, rfl, rfl, rfl, hd, fn, hf⟩
 | exit id => exact hq.elim
 | goto l => exact hq.elim
 | outgrown =>
   obtain ⟨u', hR⟩ := hq
   exact ⟨.outgrown, u', w', b, hR, comesIn_wide.2 (harr.resolve_left (by simp [b])), rfl, rfl, trivial⟩

section
variable {P : Program} {c : Ctx}

theorem aKB {corT : TypeId} {code : Int} {v : AV} {id : Nat} {h : List AObj} {k : List AObj → Prop} (hw : yZ corT code v id h k) :
   v = .iface corT (.agg []) ∧ (∃ n, h[id]? = some (.box (.int .i64 n))) ∧ k ((h ++ [AObj.box (.agg [])]).set id (AObj.box (.int .i64 code))) := by
 obtain ⟨h1, h2⟩ := hw
 unfold aFH at h2
 split at h2
 · rename_i n e; exact ⟨h1, ⟨n, e⟩, h2⟩
 · exact h2.elim

theorem aLO (O : Ok P c) {tf : FuncId} {corT : TypeId} {code : Int} (TT : aJf P tf corT code) {f : FuncId} {fn : Func} (hf : P.funcs[f]? = some fn) {vs : List AV} {cs : Array Value} {X : Cx} (H : HR X) (hv : VVs X vs cs.toList) {K : AOut → List AObj → Prop}
   (hw : aBh c fn tf corT code vs X.h K) : Calls P f cs X.w fun e w' => ∃ Y ao, Y.w = w' ∧ HR Y ∧ Ext X Y ∧ OutR Y ao e ∧ K ao Y.h := by
 have YY : ∀ (B : Cx) l, YOk P B l (c.envY l) := fun B l => yY (O.y l)
 unfold aBh at hw
 split at hw
 · exact hw.elim
 rename_i body hb
 split at hw
 rotate_left
 · exact hw.elim
 rename_i hok
 simp only [Bool.and_eq_true] at hok
 have hlen : vs.length ≤ fn.ntmps := Nat.le_of_ble_eq_true hok.2
 unfold aKA at hw
 split at hw
 · exact hw.elim
 rename_i a0 x f0 b hdef
 split at hw
 · exact hw.elim
 rename_i hff
 obtain rfl := Nat.eq_of_beq_eq_true hff
 unfold aMy at hdef
 split at hdef
 rotate_left
 · cases hdef
 rename_i a1 id ops draw b1
 split at hdef
 · cases hdef
 split at hdef
 rotate_left
 · cases hdef
 rename_i o hops
 split at hdef
 rotate_left
 · cases hdef
 rename_i p hdc
 simp only [Option.some.injEq, Prod.mk.injEq] at hdef
 obtain ⟨rfl, rfl, rfl⟩ := hdef
 simp only [lD, Bool.and_eq_true] at hok
 obtain ⟨⟨hda, _, hdb⟩, _⟩ := hok
 unfold aMx at hdc
 split at hdc
 rotate_left
 · cases hdc
 rename_i cl hop hgd hds
 split at hdc
 rotate_left
 · cases hdc
 rename_i f1 x1 hcal hargs
 simp only [Option.some.injEq, Prod.mk.injEq] at hdc
 obtain ⟨rfl, rfl⟩ := hdc
 -- the ends
 have fin : ∀ (Y : Cx) (t : List (Nat × AV)) (tmps : Array Value) (l : List Deferred), HR Y → Ext X Y → (∀ i, VV Y (get t i) (tmps.getD i undef)) → fn.ntmps ≤ tmps.size → nC X.w.heap.size Y l → endT c fn K t Y.h →
     LeavesInM (FW none) 0 P fn tmps (fun e w' => ∃ Y ao, Y.w = w' ∧ HR Y ∧ Ext X Y ∧ OutR Y ao e ∧ K ao Y.h) l .returning Y.w := by
   intro Y t tmps l HY EY RV RS hm hr
   rw [← List.append_nil l]
   refine oG (by simp) l Y hm HY EY fun Z HZ EZ EV hZh => ?_
   have RZ : SR fn.ntmps ⟨X.w.heap.size, []⟩ Z t { tmps := tmps, defers := [] } := ⟨fun i => (RV i).extV EV, RS, lR.nil⟩
   unfold endT at hr
   rw [← hZh] at hr
   obtain ⟨us, ds, hK, hus, hrun⟩ := wJ O.ok.tab HZ RZ _ hr
   refine ⟨(if h : ds.toArray.size = 1 then ds.toArray[0] else .tuple ds.toArray), ?_, Z, .ret (tD us), rfl, HZ, EZ, ⟨_, rfl, aEN hus⟩, hK⟩
   rw [uQ, Array.mapM_eq_mapM_toList]
   simp only [Sem.run_bind, Sem.run_map, hrun, Result.andThen_ok, Sem.run_pure]
 refine (callsIn_wide (n := 0)).1 (callsIn_of_wp_marks (F := FW none) hf hb trivial (wpIn_seq ?_))
 refine aEf (n := fn.ntmps) O.mixed (B := X) a1 ⟨X.w.heap.size, []⟩ (Nat.le_refl _) none c O.ok O.s O.plain (YY _) O.i (.inl rfl) 0 none _ (init 0 vs) X _ _ a1 hda (Ext.refl X) H (aIj hv hlen rfl) hw
   (fun Y ae t' e a' HY EY hx hk => ?_) rfl
 cases ae with
 | ret => exact hk.elim
 | exit i => exact hk.elim
 | goto i => exact hk.elim
 | pan v => exact hk.elim
 | normal =>
   obtain ⟨rfl, R⟩ := hx
   simp only at hk
   unfold defX at hk
   split at hk
   rotate_left
   · exact hk.elim
   rename_i pid hpid
   have hq := R.ev x1 .ptr
   rw [hpid] at hq
   obtain ⟨m0, hm0, hmk0⟩ := R.defers
   simp only [List.append_nil] at hm0
   let d : Deferred := { target := .fn (.func f1) #[], args := #[a'.eval x1] }
   have hexec : (execOp a'.eval o).run P Y.w = .ok (.defer d) Y.w := by
     have : cl.args = #[x1] := by apply Array.toList_inj.1; rw [hargs]
     simp [execOp, hop, resolve, hcal, this, Act.eval, Deferred.ofValue, d]
   show (Code.seq (.region id ops false) b1).wpIn (FW none) 0 P _ a' Y.w
   refine wpIn_seq (wpIn_region_list ?_)
   rw [hops]
   have hw0 : Region.wanted o (yielded ops a'.tmps) = true := by simp [Region.wanted, hgd]
   simp only [wpListIn]
   rw [if_pos hw0]
   refine ⟨fun _ _ => trivial, ?_⟩
   show Oper.uponIn _ _ _ _ _ _ _ ((o.semAt none a'.eval).run P Y.w)
   rw [Oper.semAt_none, hexec, Oper.uponIn_defer]
   have hput : ({ a' with defers := d :: a'.defers } : Act).put o.dst undef = { a' with defers := d :: a'.defers } := by rw [hds]; rfl
   rw [hput]
   show b1.wpIn (FW none) 0 P _ { a' with defers := d :: a'.defers } Y.w
   have R1 : SR fn.ntmps ⟨Y.w.heap.size, d :: m0⟩ Y t' { a' with defers := d :: a'.defers } := ⟨R.v, R.size, [], by rw [hm0]; rfl, trivial⟩
   refine aEf (n := fn.ntmps) O.mixed (B := Y) b1 ⟨Y.w.heap.size, d :: m0⟩ (Nat.le_refl _) none c O.ok O.s O.plain (YY _) O.i (.inl rfl) 0 none _ t' Y _ _ b1 hdb (Ext.refl Y) HY R1 hk
     (fun Z ae t'' e a'' HZ EZ hx hk => ?_) rfl
   have inv : ∀ w, (invoke d.target d.args).run P w = .ok (.enter f1 #[a'.eval x1]) w := by
     intro w
     have : (invoke d.target d.args).run P w = (callFunc f1 #[a'.eval x1]).run P w := by simp [invoke, d]
     rw [this, TT.enter]
   have ok : SR fn.ntmps ⟨Y.w.heap.size, d :: m0⟩ Z t'' a'' → endT c fn K t'' Z.h → LeavesInM (FW none) 0 P fn a''.tmps (fun e w' => ∃ Y ao, Y.w = w' ∧ HR Y ∧ Ext X Y ∧ OutR Y ao e ∧ K ao Y.h) a''.defers .returning Z.w := by
     intro R2 hk
     obtain ⟨m2, hm2, hmk2⟩ := R2.defers
     rw [hm2]
     refine oG (by simp) (X0 := Y) m2 Z hmk2 HZ EZ fun V HV EV1 EV2 hh => ?_
     refine ⟨by simp, .inr ⟨fun h => (by cases h), _, _, _, _, rfl, inv _, fun _ _ => trivial, CallsDIn.mono (TT.ret _ V.w) ?_⟩⟩
     rintro e u' w' ⟨⟨v, rfl⟩, rfl, rfl⟩
     exact fin V t'' a''.tmps m0 HV (EY.trans EV1) (fun i => (R2.v i).extV EV2) R2.size (hmk0.ext EV1) (by rw [hh]; exact hk)
   cases ae with
   | exit i => exact hk.elim
   | goto i => exact hk.elim
   | ret => obtain ⟨rfl, R2⟩ := hx; exact ok R2 hk
   | normal => obtain ⟨rfl, R2⟩ := hx; exact ok R2 hk
   | pan v =>
     obtain ⟨⟨q, rfl, hvq⟩, R2⟩ := hx
     obtain ⟨rfl, ⟨n, hbox⟩, hk⟩ := aKB hk
     obtain ⟨m2, hm2, hmk2⟩ := R2.defers
     show LeavesInM _ _ _ _ _ _ a''.defers _ _
     rw [hm2]
     refine oG (by simp) (X0 := Y) m2 Z hmk2 HZ EZ fun V HV EV1 EV2 hh => ?_
     refine ⟨by simp, .inr ⟨fun h => (by cases h), _, _, _, _, rfl, inv _, fun _ _ => trivial, CallsDIn.mono (TT.pan V pid _ q n HV ((hq.ext EZ).extV EV2) (hvq.extV EV2) (by rw [hh]; exact hbox)) ?_⟩⟩
     rintro e u' w' ⟨⟨v, rfl⟩, rfl, U, rfl, HU, EU, hUh⟩
     exact fin U t'' a''.tmps m0 HU (EY.trans (EV1.trans EU)) (fun i => ((R2.v i).extV EV2).ext EU) R2.size (hmk0.ext (EV1.trans EU)) (by rw [hUh, hh]; exact hk)

theorem bI.ofD (O : Ok P c) {tf : FuncId} {corT : TypeId} {code : Int} (TT : aJf P tf corT code) {f : FuncId} {fn : Func} {C : aE} (hf : P.funcs[f]? = some fn) (hn : (fn.name == "runtime.NumGoroutine") = false) (hb : fn.body.isNone = false)
   (h : ∀ vs b S v news, C vs = some (b, some (S, v, news)) → S → aBh c fn tf corT code vs [] (Post b v news)) : bI P f C := by
 refine ⟨sQ hf hn hb, fun vs b S v news e hS X0 cs Hh Hm HX hv => ?_⟩
 have hw := h vs b S v news e hS
 rw [← Hh] at hw
 refine (aLO O TT hf HX hv hw).mono fun en w' he => ?_
 obtain ⟨Y, ao, rfl, HY, EY, ho, hp⟩ := he
 exact hp.ends HX Hh Hm HY EY ho
end

section
variable {K : Nat → Prop} {k : List AObj → Prop} {h : List AObj}
@[go_sem] theorem aVs (id : Nat) : defX (.ptr id []) K = K id := (rfl)
@[go_sem] theorem aVt (corT : TypeId) (code : Int) (v : AV) (id : Nat) : yZ corT code v id h k = (v = .iface corT (.agg []) ∧ aFH (h[id]?) (k ((h ++ [AObj.box (.agg [])]).set id (AObj.box (.int .i64 code))))) := (rfl)
@[go_sem] theorem aSp (n : Int) (A : Prop) : aFH (some (.box (.int .i64 n))) A = A := (rfl)
end

end Lam
namespace Lam
open Go

structure SubC (X X0 : Cx) (σ : List Nat) : Prop where
 S : X0.S = X.S
 w : X0.w = X.w
 len : X0.μ.length = σ.length
 mu : ∀ k i : Nat, σ[k]? = some i → X0.μ[k]? = X.μ[i]?
 nr : ∀ i ∈ σ, rowO (X.h[i]?) = none
 nd : σ.Nodup

theorem SubC.inv {X X0 : Cx} {σ : List Nat} (s : SubC X X0 σ) {k b : Nat} (h : X0.μ[k]? = some (some b)) : ∃ i, σ[k]? = some i ∧ X.μ[i]? = some (some b) := by
 have hk : k < σ.length := by rw [← s.len]; exact (List.getElem?_eq_some_iff.1 h).1
 refine ⟨σ[k], List.getElem?_eq_getElem hk, ?_⟩
 rw [← s.mu k _ (List.getElem?_eq_getElem hk)]; exact h

theorem SubC.hr {X X0 : Cx} {σ : List Nat} (H : HR X) (s : SubC X X0 σ) (hl : X0.h.length = σ.length) (ho : ∀ (k : Nat) (o : AObj), X0.h[k]? = some o → ∃ b, X0.μ[k]? = some b ∧ OR X0 b o) : HR X0 := by
 refine ⟨by rw [s.len, hl], ho, fun k k' b h1 h2 => ?_, fun k b h1 => ?_, fun b hb => by rw [s.w]; exact H.old b (by rw [← s.S]; exact hb)⟩
 · obtain ⟨i, e1, q1⟩ := s.inv h1
   obtain ⟨i', e2, q2⟩ := s.inv h2
   have := H.apart _ _ _ q1 q2
   subst this
   obtain ⟨g1, g1'⟩ := List.getElem?_eq_some_iff.1 e1
   obtain ⟨g2, g2'⟩ := List.getElem?_eq_some_iff.1 e2
   have hp := List.pairwise_iff_getElem.1 s.nd
   rcases Nat.lt_trichotomy k k' with h | h | h
   · exact absurd (by rw [g1', g2']) (hp k k' g1 g2 h)
   · exact h
   · exact absurd (by rw [g1', g2']) (hp k' k g2 g1 h)
 · obtain ⟨i, e1, q1⟩ := s.inv h1
   obtain ⟨l1, l2⟩ := H.live _ _ q1
   refine ⟨by rw [s.w]; exact l1, fun hs => ?_⟩
   rw [s.S] at hs
   obtain ⟨ver, l, e⟩ := l2 hs
   have := s.nr i (List.mem_of_getElem? e1)
   rw [e] at this; cases this

/-! ### A struct of a list and of two maps, and boxes of closed values -/
section
variable {X : Cx} {w : List Int} {id i j : Nat} {m1 m2 : Int → Bool} {ex : List AV} {σe : List Nat}

end

end Lam
namespace Lam
open Go

abbrev QR := Option (Prop × (AV → Prop))
abbrev QCon := List AV → QR

structure aMz (P : Program) (f : FuncId) (Q : QCon) : Prop where
 enter : ∀ (args : Array Value) (w : World), (callFunc f args).run P w = .ok (.enter f args) w
 spec : ∀ vs S q, Q vs = some (S, q) → S → ∀ (X0 : Cx) (cs : Array Value), X0.h = [] → X0.μ = [] → HR X0 → VVs X0 vs cs.toList →
   Calls P f cs X0.w fun e w' => ∃ v, q v ∧ Ends X0 false v [] e w'

def aBi (Q : QCon) (vs : Option (List AV)) : QR :=
 match vs with
 | some vs => match AV.closeds vs with
   | true => Q vs
   | false => none
 | none => none

def qrun (x : QR) (rows : List Nat) (h : List AObj) (K : AOut → List AObj → Prop) : Prop :=
 match x with
 | some (S, q) => S ∧ ∀ v, q v → K (.ret v) (gU rows h)
 | none => False

def Qcon (Q : QCon) : Con := fun args h K => qrun (aBi Q (AV.vals h args)) (AV.rowss args) h K

theorem aKC {Q : QCon} {vs : Option (List AV)} {r} (h : aBi Q vs = some r) : ∃ us, vs = some us ∧ AV.closeds us = true ∧ Q us = some r := by
 unfold aBi at h
 split at h
 · rename_i us
   split at h
   · rename_i hc; exact ⟨us, rfl, hc, h⟩
   · cases h
 · cases h

section
variable {P : Program}

theorem aMz.con {f : FuncId} {Q : QCon} (h : aMz P f Q) : dH P f (Qcon Q) := by
 refine ⟨fun args hh K hC X cs H hXh hv => ⟨fun w => h.enter cs w, ?_⟩⟩
 subst hXh
 unfold Qcon qrun at hC
 split at hC
 rotate_left
 · exact hC.elim
 rename_i S q e
 obtain ⟨hS, hr⟩ := hC
 obtain ⟨us, e1, e2, e3⟩ := aKC e
 obtain ⟨H1, E1⟩ := aAp H (ids := AV.rowss args) (fun id hid => sO hv id hid)
 refine (h.spec _ _ _ e3 hS ⟨(X.fro (AV.rowss args)).S, [], [], X.w⟩ cs rfl rfl (hr0 H1.old) (yV H (fun _ h => .inl h) (fun id hid b hb => .inr ⟨id, hid, hb⟩) e1 e2 hv)).mono fun e w' he => ?_
 obtain ⟨v, hq, r, rfl, Y, rfl, HY, E, hcl, hvv⟩ := he
 obtain ⟨Z1, Z2⟩ := tJ (X := X.fro (AV.rowss args)) H1 E HY
 exact ⟨⟨Y.S, X.μ, gU (AV.rowss args) X.h, Y.w⟩, .ret v, rfl, Z1, E1.trans Z2,
   ⟨r, rfl, jL (X := Y) (Y := ⟨Y.S, X.μ, gU (AV.rowss args) X.h, Y.w⟩) (fun _ h => h) (fun _ _ => rfl) hcl hvv⟩, hr v hq⟩

end

section
variable {h : List AObj} {K : AOut → List AObj → Prop} {S : Prop} {q : AV → Prop} {rows : List Nat}
@[go_sem] theorem aYg (Q : QCon) (args : List AV) : Qcon Q args h K = qrun (aBi Q (AV.vals h args)) (AV.rowss args) h K := (rfl)
@[go_sem] theorem aPB (Q : QCon) (vs : List AV) : aBi Q (some vs) = if AV.closeds vs = true then Q vs else none := by
 cases h : AV.closeds vs <;> simp [aBi, h]
@[go_sem] theorem aSq : qrun (some (S, q)) rows h K = (S ∧ ∀ v, q v → K (.ret v) (gU rows h)) := (rfl)
end
end Lam
namespace Lam
open Go

def xorI (k : IntKind) (a b : Int) : Int := k.wrap (BitVec.ofInt k.bits a ^^^ BitVec.ofInt k.bits b).toNat
def andI (k : IntKind) (a b : Int) : Int := k.wrap (BitVec.ofInt k.bits a &&& BitVec.ofInt k.bits b).toNat
def orI (k : IntKind) (a b : Int) : Int := k.wrap (BitVec.ofInt k.bits a ||| BitVec.ofInt k.bits b).toNat
def xX (k : IntKind) (a b : Int) : Int := k.wrap (BitVec.ofInt k.bits a &&& ~~~ BitVec.ofInt k.bits b).toNat
def notI (k : IntKind) (a : Int) : Int := k.wrap (BitVec.ofInt k.bits (if k.signed then -1 else k.max) ^^^ BitVec.ofInt k.bits a).toNat

section runs
variable (S : Prop) (v : AV) (news h : List AObj) (K KP : AV → List AObj → Prop)
@[go_sem] theorem aZj : runD (pD S v) h K = (S ∧ K v h) := by simp [pD, runD]
@[go_sem] theorem aSr : runD (some (S, v, news)) h K = (S ∧ K v (h ++ news)) := (rfl)
@[go_sem] theorem aSs (id : Nat) (o : AObj) : runH (some (S, id, o)) h K = (S ∧ K .und (h.set id o)) := (rfl)
@[go_sem] theorem aSt (id : Nat) (o : AObj) : runM (some (S, v, id, o)) h K = (S ∧ K v (h.set id o)) := (rfl)
@[go_sem] theorem aYh (y) : jC (pD S v) y h K = (S ∧ K v h) := by simp [pD, jC]
@[go_sem] theorem aPC (y) : jC (some (S, v, news)) y h K = (S ∧ K v (h ++ news)) := (rfl)
@[go_sem] theorem aPD (y) : jC none y h K = runM y h K := (rfl)
@[go_sem] theorem aOi (n : Nat) : rH (some n) h K = ∀ b : Bool, (b = true → n = 0) → K (.bool b) h := (rfl)
@[go_sem] theorem aSu (d : TyD) : cP d h K = (oI d ∧ K (.ptr h.length []) (h ++ [boxO d.zero])) := (rfl)
@[go_sem] theorem aSv (m : MK) : oI (.map m) = True := (rfl)
@[go_sem] theorem aSw (k : IntKind) : oI (.int k) = fitP (.int k) (TyD.int k).zero := (rfl)
@[go_sem] theorem aPE : oI .bool = fitP .bool TyD.bool.zero := (rfl)
@[go_sem] theorem aSx : oI .str = fitP .str TyD.str.zero := (rfl)
@[go_sem] theorem aOj (e : LK) : oI (.slice e) = fitP (.slice e) (TyD.slice e).zero := (rfl)
@[go_sem] theorem aOk (fs : List TyD) : oI (.strct fs) = fitP (.strct fs) (TyD.strct fs).zero := (rfl)
@[go_sem] theorem aSy (n : Nat) (e : LK) : oI (.arr n e) = fitP (.arr n e) (TyD.arr n e).zero := (rfl)
@[go_sem] theorem aSz : oI .ptr = fitP .ptr TyD.ptr.zero := (rfl)
@[go_sem] theorem aPF : oI .func = fitP .func TyD.func.zero := (rfl)
@[go_sem] theorem aOl : oI .iface = fitP .iface TyD.iface.zero := (rfl)
@[congr] theorem aNz {d d' : TyD} {h h' : List AObj} {K : AV → List AObj → Prop} (e2 : d = d') (e : h = h') : cP d h K = cP d' h' K := by rw [e, e2]
@[go_sem] theorem aYi (d : TyD) : boxW d v h K = (fitP d v ∧ K (.ptr h.length []) (h ++ [boxO v])) := (rfl)
@[go_sem] theorem aPG (t : TypeId) (u : AV) : panW (.iface t u) h KP = KP (.iface t u) h := (rfl)
@[go_sem] theorem aPH (A : Prop) : uE true A = A := (rfl)
@[go_sem] theorem aPI (x : D) : fS true x = x := (rfl)
theorem oH (b w : Bool) (A B : Prop) : aT (.bool b) w A B = ((b = w → A) ∧ (b = (!w) → B)) := (rfl)
@[go_sem] theorem aPJ (b : Bool) (A B : Prop) : aW (.bool b) A B = ((b = true → A) ∧ (b = false → B)) := (rfl)
@[go_sem] theorem aVu (mt : Bool) (c : Ctx) (f : FuncId) (first cap args : List AV) : aQ mt c (.fn (.func f) first cap) args h K KP =
   mE (oB mt args) c.drawn (oO c f (AV.vals h (first ++ args ++ cap))) (AV.rowss (first ++ args ++ cap)) h K (c.envS f (first ++ args ++ cap) h (outW K KP)) := (rfl)
@[go_sem] theorem aNj (c : Ctx) (f : FuncId) (vs : List AV) : oO c f (some vs) = if AV.closeds vs = true then c.envF f vs else none := by
 cases h : AV.closeds vs <;> simp [oO, h]
@[go_sem] theorem aNk (c : Ctx) (f : FuncId) : oO c f none = none := (rfl)
@[go_sem] theorem aOm (la : Option Nat) (dr : Bool) (rows : List Nat) (els : Prop) : mE la dr (some (true, some (S, v, news))) rows h K els = (S ∧ K (v.shift h.length) (h ++ news)) := (rfl)
@[go_sem] theorem aNA (la : Option Nat) (dr : Bool) (rows : List Nat) (els : Prop) : mE la dr (some (true, pD S v)) rows h K els = (S ∧ K (v.shift h.length) h) := by simp [pD, mE]
@[go_sem] theorem aOn (la : Option Nat) (dr : Bool) (rows : List Nat) (els : Prop) (hv : v.noSl = true) : mE la dr (some (false, pD S v)) rows h K els = (S ∧ K v h) := by simp [pD, mE, hv]
@[go_sem] theorem aPK (la : Option Nat) (rows : List Nat) (els : Prop) (hv : v.noSl = false) : mE la false (some (false, pD S v)) rows h K els = (S ∧ K v (gU rows h)) := by simp [pD, mE, hv]
@[go_sem] theorem aSA (id : Nat) (els : Prop) (hv : v.noSl = false) : mE (some id) true (some (false, pD S v)) [id] h K els = (S ∧ K v (gU [id] h)) := by simp [pD, mE, hv]
@[go_sem] theorem aNB (args : List AV) : oB false args = none := (rfl)
@[go_sem] theorem aPL (x : Bool) (id ver off len : Nat) : oB true [.sref x id ver off len] = some id := (rfl)
@[go_sem] theorem aSB (x : Bool) (l : Lst) : oB true [.sl x l] = none := (rfl)
@[go_sem] theorem aOo (a b : AV) (r : List AV) : oB true (a :: b :: r) = oB true (b :: r) := by simp [oB]
@[go_sem] theorem aOp (la : Option Nat) (dr : Bool) (els : Prop) : mE la dr (some (false, pD S v)) [] h K els = (S ∧ K v h) := by cases hv : v.noSl <;> simp [pD, mE, hv, gU]
@[go_sem] theorem aPM (la : Option Nat) (dr : Bool) (rows : List Nat) (els : Prop) : mE la dr none rows h K els = els := (rfl)
@[go_sem] theorem aPN : gU [] h = h := (rfl)
@[go_sem] theorem aOq (id : Nat) (r : List Nat) : gU (id :: r) h = gU r (h.modify id froO) := (rfl)
@[go_sem] theorem aVv (k : RK) (ver : Nat) (l : Lst) : froO (.row k ver l) = .row .fro ver l := (rfl)
@[go_sem] theorem aVw (u : AV) : froO (.box u) = .box u := (rfl)
@[go_sem] theorem aYj (st : LoopState) (pd : Option Code) (r : Loop) : froO (.lp st pd r) = .lp st pd r := (rfl)
@[go_sem] theorem aVx (n : Nat) (st : LoopState) (pd : Option Code) (r : Loop) : rJ n h (.lp st pd r) = .lp st pd r := (rfl)
@[go_sem] theorem aOr (mt : Bool) (c : Ctx) (l : Nat) (args : List AV) (KP : AV → List AObj → Prop) : aQ mt c (.fn (.yield l) [] []) args h K KP = c.envY l args h (outW K KP) := (rfl)
@[go_sem] theorem aVy (c : Ctx) (l : Nat) (a : List AV) (K' : AOut → List AObj → Prop) : c.noS.envY l a h K' = False := (rfl)
@[go_sem] theorem aSC (c : Ctx) : c.noI.drawn = c.drawn := (rfl)
@[go_sem] theorem aVz (c : Ctx) : c.noI.envF = c.envF := (rfl)
@[go_sem] theorem aVA (c : Ctx) : c.noI.envS = c.envS := (rfl)
@[go_sem] theorem aVB (c : Ctx) : c.noI.envY = c.envY := (rfl)
@[go_sem] theorem aYk (c : Ctx) : c.noI.tab = c.tab := (rfl)
@[go_sem] theorem aOs (c : Ctx) (l : Nat) (Y : Con) : (c.withY l Y).drawn = c.drawn := (rfl)
@[go_sem] theorem aPO (c : Ctx) (l : Nat) (Y : Con) : (c.withY l Y).envF = c.envF := (rfl)
@[go_sem] theorem aPP (c : Ctx) (l : Nat) (Y : Con) : (c.withY l Y).envS = c.envS := (rfl)
@[go_sem] theorem aPQ (c : Ctx) (l l' : Nat) (Y : Con) (a : List AV) (K' : AOut → List AObj → Prop) : (c.withY l Y).envY l' a h K' = (l' = l ∧ Y a h K') := (rfl)
@[go_sem] theorem aSD (iterS : FuncId → Con → Con) (f : FuncId) (cap : List AV) (rd : Nat → Loop → Con) (fin : Nat → Loop → AOut → List AObj → Prop) :
   vI iterS (.fn (.func f) [] cap) h rd fin = aCC iterS f cap h rd fin := (rfl)
@[go_sem] theorem aSE (iterS : FuncId → Con → Con) (f : FuncId) (cap : List AV) (rd : Nat → Loop → Con) (fin : Nat → Loop → AOut → List AObj → Prop) :
   aCC iterS f cap h rd fin = ∀ (l : Nat) (r : Loop), iterS f (rd h.length r) (.fn (.yield l) [] [] :: cap) (h ++ [.lp .ready none r]) (fin h.length r) := (rfl)
@[go_sem] theorem aVC : boxH [] h = h := (rfl)
@[go_sem] theorem aSF (a : AV) (r : List AV) : boxH (a :: r) h = boxH r (aCB a h) := (rfl)
@[go_sem] theorem aSG (id : Nat) : aCB (.ptr id []) h = rI id (h.getD id .dead) h := (rfl)
@[go_sem] theorem aSH (i : Nat) : aFA [] i h = h := (rfl)
@[go_sem] theorem aPR (o : AObj) (r : List AObj) (i : Nat) : aFA (o :: r) i h = aFA r (i + 1) (rI i o h) := (rfl)
@[go_sem] theorem aSI (v : AV) (i : Nat) : rI i (.box v) h = aCA i (iC v h.length) h := (rfl)
@[go_sem] theorem aSJ (k : RK) (v i : Nat) (l : Lst) : rI i (.row k v l) h = h := (rfl)
@[go_sem] theorem aVD (m : MapC) (i : Nat) : rI i (.map m) h = h := (rfl)
@[go_sem] theorem aVE (st : LoopState) (pd : Option Code) (r : Loop) (i : Nat) : rI i (.lp st pd r) h = h := (rfl)
@[go_sem] theorem aPS (i : Nat) : rI i .dead h = h := (rfl)
@[go_sem] theorem aSK (i : Nat) (v : AV) : aCA i (v, []) h = h := (rfl)
@[go_sem] theorem aPT (i : Nat) (v : AV) (l : Lst) (r : List Lst) : aCA i (v, l :: r) h = (h ++ mP (l :: r)).set i (.box v) := (rfl)
@[go_sem] theorem aPU : mP [] = [] := (rfl)
@[go_sem] theorem aOt (l : Lst) (r : List Lst) : mP (l :: r) = .row .own 0 l :: mP r := (rfl)
@[go_sem] theorem aPV (i : Nat) : lZ [] i = ([], []) := (rfl)
@[go_sem] theorem aOu (v : AV) (r : List AV) (n : Nat) : lZ (v :: r) n = ((iC v n).1 :: (lZ r (n + (iC v n).2.length)).1, (iC v n).2 ++ (lZ r (n + (iC v n).2.length)).2) := (rfl)
@[go_sem] theorem aSL (vs : List AV) (n : Nat) : iC (.agg vs) n = (.agg (lZ vs n).1, (lZ vs n).2) := (rfl)
@[go_sem] theorem aSM (l : Lst) (n : Nat) : iC (.sl true l) n = oJ l n := (rfl)
@[go_sem] theorem aSN (l : Lst) (i : Nat) : iC (.sl false l) i = (.sl false l, []) := (rfl)
@[go_sem] theorem aSO (k : IntKind) (n : Int) (i : Nat) : iC (.int k n) i = (.int k n, []) := (rfl)
@[go_sem] theorem aPW (b : Bool) (i : Nat) : iC (.bool b) i = (.bool b, []) := (rfl)
@[go_sem] theorem aSP (b : aY) (i : Nat) : iC (.str b) i = (.str b, []) := (rfl)
@[go_sem] theorem aPX (x : Bool) (a b c d : Nat) (i : Nat) : iC (.sref x a b c d) i = (.sref x a b c d, []) := (rfl)
@[go_sem] theorem aSQ (a : Nat) (i : Nat) : iC (.map a) i = (.map a, []) := (rfl)
@[go_sem] theorem aSR (a : Nat) (p : List PS) (i : Nat) : iC (.ptr a p) i = (.ptr a p, []) := (rfl)
@[go_sem] theorem aVF (f : Fn) (a b : List AV) (i : Nat) : iC (.fn f a b) i = (.fn f a b, []) := (rfl)
@[go_sem] theorem aPY (i : Nat) : iC .nilp i = (.nilp, []) := (rfl)
@[go_sem] theorem aOv (i : Nat) : iC .nilfn i = (.nilfn, []) := (rfl)
@[go_sem] theorem aMY (i : Nat) : iC .niliface i = (.niliface, []) := (rfl)
@[go_sem] theorem aOw (t : TypeId) (v : AV) (i : Nat) : iC (.iface t v) i = (.iface t v, []) := (rfl)
@[go_sem] theorem aSS (i : Nat) : iC .top i = (.top, []) := (rfl)
@[go_sem] theorem aST (i : Nat) : iC .und i = (.und, []) := (rfl)
@[go_sem] theorem aSU (l : Lst) (i : Nat) : iC (.arr l) i = (.arr l, []) := (rfl)
@[go_sem] theorem aPZ (k : IntKind) (n : Nat) : oJ (.ints k []) n = (.sref false n 0 0 0, [.ints k []]) := (rfl)
@[go_sem] theorem aOx (n : Nat) : oJ (.bools []) n = (.sref false n 0 0 0, [.bools []]) := (rfl)
@[go_sem] theorem aQa (n : Nat) : oJ (.strs []) n = (.sref false n 0 0 0, [.strs []]) := (rfl)
@[go_sem] theorem aOy (n : Nat) : oJ (.pends []) n = (.sref false n 0 0 0, [.pends []]) := (rfl)
@[go_sem] theorem aQb (n : Nat) : oJ (.mics []) n = (.sref false n 0 0 0, [.mics []]) := (rfl)
@[go_sem] theorem aQc (n : Nat) : oJ (.recs []) n = (.sref false n 0 0 0, [.recs []]) := (rfl)
@[go_sem] theorem aOz (n : Nat) : oJ (.pairs []) n = (.sref false n 0 0 0, [.pairs []]) := (rfl)
@[go_sem] theorem aOA (n : Nat) : oJ (.slots []) n = (.sref false n 0 0 0, [.slots []]) := (rfl)
@[go_sem] theorem aSV (n : Nat) : oJ (.fns []) n = (.sref false n 0 0 0, [.fns []]) := (rfl)
@[go_sem] theorem aYl (id : Nat) (st : LoopState) (r : Loop) : lpIs h id st r = (h[id]? = some (.lp st none r)) := (rfl)
@[go_sem] theorem aSW (A : Prop) : aIC [] A = A := (rfl)
@[go_sem] theorem aQd (v : AV) (vs : List AV) (A : AV → Prop) : yM (v :: vs) A = aIC vs (A v) := (rfl)
@[go_sem] theorem aQe (v : AV) (vs : List AV) (A : AV → AV → Prop) : aPu (v :: vs) A = yM vs (A v) := (rfl)
section
variable (id : Nat) (r r' : Loop) (kn kr : List AObj → Prop) (ke kg : Nat → List AObj → Prop) (kp : AV → List AObj → Prop)
@[go_sem] theorem aVG (v : AV) : endX id r (.ret v) h kn kr ke kg kp = endO (h[id]?) id r h kn kr ke kg := (rfl)
@[go_sem] theorem aVH (v : AV) : endX id r (.pan v) h kn kr ke kg kp = kp v h := (rfl)
@[go_sem] theorem aQf : endO (some (.lp .ready none r')) id r h kn kr ke kg = (r' = r ∧ kn (h.set id (.lp .exhausted none r))) := (rfl)
@[go_sem] theorem aVI : endO (some (.lp .done (some .ret) r')) id r h kn kr ke kg = (r' = r ∧ kr (h.set id (.lp .exhausted (some .ret) r))) := (rfl)
@[go_sem] theorem aSX (i : Nat) : endO (some (.lp .done (some (.exit i)) r')) id r h kn kr ke kg = (r' = r ∧ ke i (h.set id (.lp .exhausted (some (.exit i)) r))) := (rfl)
@[go_sem] theorem aSY (i : Nat) : endO (some (.lp .done (some (.goto i)) r')) id r h kn kr ke kg = (r' = r ∧ kg i (h.set id (.lp .exhausted (some (.goto i)) r))) := (rfl)
end
@[go_sem] theorem aVJ (i id : Nat) (A B : Prop) : aCD i id A B = match Nat.beq i id with
 | true => A
 | false => B := (rfl)
@[go_sem] theorem aSZ (c : Ctx) : c.noS.drawn = true := (rfl)
@[go_sem] theorem aVK (c : Ctx) : c.noS.envF = c.envF := (rfl)
@[go_sem] theorem aYm (c : Ctx) : c.noS.tab = c.tab := (rfl)
@[go_sem] theorem aVL (c : Ctx) (f : FuncId) (a : List AV) (K' : AOut → List AObj → Prop) : c.noS.envS f a h K' = False := (rfl)
@[go_sem] theorem aVM : outW K KP (.ret v) h = K v h := (rfl)
@[go_sem] theorem aVN : outW K KP (.pan v) h = KP v h := (rfl)
@[go_sem] theorem aTa (K : AV → Prop) : cT (pD S v) K = (S ∧ K v) := (rfl)
@[go_sem] theorem aQg {α : Type} (a : α) (f : α → D) : fH (some a) f = f a := (rfl)
@[go_sem] theorem aQh {α : Type} (f : α → D) : fH (none : Option α) f = none := (rfl)
end runs

section congrs
variable {K KP : AV → List AObj → Prop} {h h' : List AObj}
@[congr] theorem aQi {x x' : D} (e : x = x') (e' : h = h') : runD x h K = runD x' h' K := by rw [e, e']
@[congr] theorem aQj {x x' : Option (Prop × Nat × AObj)} (e : x = x') (e' : h = h') : runH x h K = runH x' h' K := by rw [e, e']
@[congr] theorem aQk {x x' : Option (Prop × AV × Nat × AObj)} (e : x = x') (e' : h = h') : runM x h K = runM x' h' K := by rw [e, e']
@[congr] theorem aOB {x x' : D} {y : Option (Prop × AV × Nat × AObj)} (e : x = x') (e' : h = h') : jC x y h K = jC x' y h' K := by rw [e, e']
@[congr] theorem aOC {v v' : AV} {A B : Prop} (e : v = v') : aW v A B = aW v' A B := by rw [e]
@[congr] theorem aNC {v v' : AV} {w : Bool} {A B : Prop} (e : v = v') : aT v w A B = aT v' w A B := by rw [e]
@[congr] theorem aND {x x' : Option Nat} (e' : x = x') (e : h = h') : rH x h K = rH x' h' K := by rw [e, e']
@[congr] theorem aQl {d d' : TyD} {x x' : AV} (e2 : d = d') (e' : x = x') (e : h = h') : boxW d x h K = boxW d' x' h' K := by rw [e, e', e2]
@[congr] theorem aQm {x x' : AV} (e' : x = x') (e : h = h') : panW x h KP = panW x' h' KP := by rw [e, e']
@[congr] theorem aOD {b b' : Bool} {A : Prop} (e : b = b') : uE b A = uE b' A := by rw [e]
@[congr] theorem aOE {mt : Bool} {c : Ctx} {f f' : AV} {a a' : List AV} (e2 : f = f') (e' : a = a') (e : h = h') : aQ mt c f a h K KP = aQ mt c f' a' h' K KP := by rw [e, e', e2]
@[congr] theorem aOF {la la' : Option Nat} {dr dr' : Bool} {x x' : Option (Bool × D)} {rows rows' : List Nat} {els : Prop} (e1 : la = la') (e2 : dr = dr') (e : x = x') (e3 : rows = rows') (e' : h = h') : mE la dr x rows h K els = mE la' dr' x' rows' h' K els := by rw [e1, e, e', e2, e3]
@[congr] theorem aQn {t t' : List (Nat × AV)} {l : List (Option Operand × List Operand)} {A : Prop} (e : t = t') : sepW t l A = sepW t' l A := by rw [e]
@[congr] theorem aNl {x x' : D} {K : AV → Prop} (e : x = x') : cT x K = cT x' K := by rw [e]
@[congr] theorem aOG {fs : List Bool} {vs vs' : List AV} {K : List AV → List AObj → Prop} (e : vs = vs') (e' : h = h') : dC fs vs h K = dC fs vs' h' K := by rw [e, e']
end congrs

section lists
@[go_sem] theorem aTb : AV.sizes [] = 0 := (rfl)
@[go_sem] theorem aQo (v : AV) (r : List AV) : AV.sizes (v :: r) = v.size + AV.sizes r := (rfl)
@[go_sem] theorem aVO (vs : List AV) : (AV.agg vs).size = AV.sizes vs := (rfl)
@[go_sem] theorem aVP (k : IntKind) (n : Int) : (AV.int k n).size = 1 := (rfl)
@[go_sem] theorem aTc (b : Bool) : (AV.bool b).size = 1 := (rfl)
@[go_sem] theorem aVQ (s : aY) : (AV.str s).size = 1 := (rfl)
@[go_sem] theorem aYn (x : Bool) (l : Lst) : (AV.sl x l).size = 1 := (rfl)
@[go_sem] theorem aTd (x : Bool) (a b c d : Nat) : (AV.sref x a b c d).size = 1 := (rfl)
@[go_sem] theorem aVR (a : Nat) (p : List PS) : (AV.ptr a p).size = 1 := (rfl)
@[go_sem] theorem aTe : (AV.nilp).size = 1 := (rfl)
@[go_sem] theorem aYo (l : Lst) (a : Nat) (p : List PS) : (AV.ep l a p).size = 1 := (rfl)
@[go_sem] theorem aVS (a : Nat) : (AV.map a).size = 1 := (rfl)
@[go_sem] theorem aYp (f : Fn) (a b : List AV) : (AV.fn f a b).size = 1 := (rfl)
@[go_sem] theorem aVT : (AV.top).size = 1 := (rfl)
@[go_sem] theorem aQp : (AV.nilfn).size = 1 := (rfl)
@[go_sem] theorem aQq (t : TypeId) (v : AV) : (AV.iface t v).size = 1 := (rfl)
@[go_sem] theorem aNm : (AV.niliface).size = 1 := (rfl)
@[go_sem] theorem aTf (k : IntKind) : (TyD.int k).size = 1 := (rfl)
@[go_sem] theorem aQr : TyD.bool.size = 1 := (rfl)
@[go_sem] theorem aTg : TyD.str.size = 1 := (rfl)
@[go_sem] theorem aOH (e : LK) : (TyD.slice e).size = 1 := (rfl)
@[go_sem] theorem aTh : TyD.ptr.size = 1 := (rfl)
@[go_sem] theorem aTi (m : MK) : (TyD.map m).size = 1 := (rfl)
@[go_sem] theorem aQs : TyD.func.size = 1 := (rfl)
@[go_sem] theorem aOI : TyD.other.size = 1 := (rfl)
@[go_sem] theorem aOJ (fs : List TyD) : (TyD.strct fs).size = TyD.sizes fs := (rfl)
@[go_sem] theorem aQt : TyD.sizes [] = 0 := (rfl)
@[go_sem] theorem aOK (t : TyD) (r : List TyD) : TyD.sizes (t :: r) = t.size + TyD.sizes r := (rfl)
@[go_sem] theorem aVU (k : IntKind) : (TyD.int k).zero = .int k 0 := (rfl)
@[go_sem] theorem aTj : TyD.bool.zero = .bool false := (rfl)
@[go_sem] theorem aVV : TyD.str.zero = .str [] := (rfl)
@[go_sem] theorem aQu (e : LK) : (TyD.slice e).zero = .sl true e.empty := (rfl)
@[go_sem] theorem aVW : TyD.ptr.zero = .nilp := (rfl)
@[go_sem] theorem aVX (m : MK) : (TyD.map m).zero = .top := (rfl)
@[go_sem] theorem aTk : TyD.func.zero = .nilfn := (rfl)
@[go_sem] theorem aVY (n : Nat) (e : LK) : (TyD.arr n e).zero = .arr (e.zeros n) := (rfl)
@[go_sem] theorem aQv (fs : List TyD) : (TyD.strct fs).zero = .agg (TyD.zeros fs) := (rfl)
@[go_sem] theorem aTl : TyD.zeros [] = [] := (rfl)
@[go_sem] theorem aQw (t : TyD) (r : List TyD) : TyD.zeros (t :: r) = t.zero :: TyD.zeros r := (rfl)
@[go_sem] theorem aTm (k : IntKind) : (LK.int k).empty = .ints k [] := (rfl)
@[go_sem] theorem aQx : LK.bool.empty = .bools [] := (rfl)
@[go_sem] theorem aTn : LK.str.empty = .strs [] := (rfl)
@[go_sem] theorem aQy : LK.pend.empty = .pends [] := (rfl)
@[go_sem] theorem aTo : LK.mic.empty = .mics [] := (rfl)
@[go_sem] theorem aTp : LK.rcd.empty = .recs [] := (rfl)
@[go_sem] theorem aQz : LK.pair.empty = .pairs [] := (rfl)
@[go_sem] theorem aQA : LK.slot.empty = .slots [] := (rfl)
@[go_sem] theorem aTq : LK.fnk.empty = .fns [] := (rfl)
@[go_sem] theorem aTr (n : Nat) (k : IntKind) : (LK.int k).zeros n = .ints k (List.replicate n 0) := (rfl)
@[go_sem] theorem aQB (n : Nat) : LK.bool.zeros n = .bools (List.replicate n false) := (rfl)
@[go_sem] theorem aQC (n : Nat) : LK.pend.zeros n = .pends (List.replicate n ⟨0, 0, false⟩) := (rfl)
@[go_sem] theorem aTs (n : Nat) : LK.mic.zeros n = .mics (List.replicate n ⟨0, 0, 0⟩) := (rfl)
@[go_sem] theorem aQD (n : Nat) : LK.slot.zeros n = .slots (List.replicate n ⟨0, 0⟩) := (rfl)
@[go_sem] theorem aTt (n : Nat) : LK.fnk.zeros n = .fns (List.replicate n none) := (rfl)
@[go_sem] theorem aTu (n : Nat) : LK.rcd.zeros n = .recs (List.replicate n ⟨0, [], [], 0⟩) := (rfl)
@[go_sem] theorem aQE (n : Nat) : LK.pair.zeros n = .pairs (List.replicate n ⟨[], []⟩) := (rfl)
@[go_sem] theorem aTv (n : Nat) : LK.str.zeros n = .strs (List.replicate n []) := (rfl)
@[go_sem] theorem aQF (k : IntKind) : (LK.int k).size = 1 := (rfl)
@[go_sem] theorem aOL : LK.bool.size = 1 := (rfl)
@[go_sem] theorem aQG : LK.str.size = 1 := (rfl)
@[go_sem] theorem aOM : LK.pend.size = 3 := (rfl)
@[go_sem] theorem aQH : LK.mic.size = 3 := (rfl)
@[go_sem] theorem aQI : LK.rcd.size = 4 := (rfl)
@[go_sem] theorem aON : LK.pair.size = 2 := (rfl)
@[go_sem] theorem aOO : LK.slot.size = 2 := (rfl)
@[go_sem] theorem aQJ : LK.fnk.size = 1 := (rfl)
variable (k : IntKind) (xs ys : List Int) (bs cs : List Bool) (ps qs : List Pend) (ms ns : List Mic) (rs ss : List RecT) (ts us : List iY) (vs ws : List aAW) (ys1 ys2 : List aY) (i n : Nat)
@[go_sem] theorem aVZ : (Lst.ints k xs).len = xs.length := (rfl)
@[go_sem] theorem aTw : (Lst.bools bs).len = bs.length := (rfl)
@[go_sem] theorem aWa : (Lst.strs ys1).len = ys1.length := (rfl)
@[go_sem] theorem aTx : (Lst.pends ps).len = ps.length := (rfl)
@[go_sem] theorem aWb : (Lst.mics ms).len = ms.length := (rfl)
@[go_sem] theorem aWc : (Lst.recs rs).len = rs.length := (rfl)
@[go_sem] theorem aTy : (Lst.pairs ts).len = ts.length := (rfl)
@[go_sem] theorem aTz : (Lst.slots vs).len = vs.length := (rfl)
@[go_sem] theorem aYq (fs : List (Option FuncId)) : (Lst.fns fs).len = fs.length := (rfl)
@[go_sem] theorem aTA : (Lst.ints k xs).kind = .int k := (rfl)
@[go_sem] theorem aQK : (Lst.bools bs).kind = .bool := (rfl)
@[go_sem] theorem aTB : (Lst.strs ys1).kind = .str := (rfl)
@[go_sem] theorem aQL : (Lst.pends ps).kind = .pend := (rfl)
@[go_sem] theorem aTC : (Lst.mics ms).kind = .mic := (rfl)
@[go_sem] theorem aTD : (Lst.recs rs).kind = .rcd := (rfl)
@[go_sem] theorem aQM : (Lst.pairs ts).kind = .pair := (rfl)
@[go_sem] theorem aQN : (Lst.slots vs).kind = .slot := (rfl)
@[go_sem] theorem aWd (fs : List (Option FuncId)) : (Lst.fns fs).kind = .fnk := (rfl)
@[go_sem] theorem aWe : (Lst.ints k xs).nth i = .int k (xs.getD i 0) := (rfl)
@[go_sem] theorem aTE : (Lst.bools bs).nth i = .bool (bs.getD i false) := (rfl)
@[go_sem] theorem aWf : (Lst.strs ys1).nth i = .str (ys1.getD i []) := (rfl)
@[go_sem] theorem aTF : (Lst.pends ps).nth i = .agg [.int .i64 (ps.getD i ⟨0, 0, false⟩).at_, .int .i64 (ps.getD i ⟨0, 0, false⟩).val, .bool (ps.getD i ⟨0, 0, false⟩).fl] := (rfl)
@[go_sem] theorem aWg : (Lst.mics ms).nth i = .agg [.int .i64 (ms.getD i ⟨0, 0, 0⟩).kind, .int .i64 (ms.getD i ⟨0, 0, 0⟩).at_, .int .i64 (ms.getD i ⟨0, 0, 0⟩).val] := (rfl)
@[go_sem] theorem aWh : (Lst.recs rs).nth i = .agg [.int .i64 (rs.getD i ⟨0, [], [], 0⟩).kind, .str (rs.getD i ⟨0, [], [], 0⟩).key, .str (rs.getD i ⟨0, [], [], 0⟩).val, .int .i64 (rs.getD i ⟨0, [], [], 0⟩).child] := (rfl)
@[go_sem] theorem aTG : (Lst.pairs ts).nth i = .agg [.str (ts.getD i ⟨[], []⟩).key, .str (ts.getD i ⟨[], []⟩).val] := (rfl)
@[go_sem] theorem aTH : (Lst.slots vs).nth i = .agg [.int .i64 (vs.getD i ⟨0, 0⟩).at_, .int .i64 (vs.getD i ⟨0, 0⟩).val] := (rfl)
@[go_sem] theorem aWi (f : FuncId) : fnA (some f) = .fn (.func f) [] [] := (rfl)
@[go_sem] theorem aWj : fnA none = .nilfn := (rfl)
@[go_sem] theorem aYr (fs : List (Option FuncId)) (i : Nat) : (Lst.fns fs).nth i = fnA (fs.getD i none) := (rfl)
@[go_sem] theorem aWk : (Lst.ints k xs).cut i n = .ints k ((xs.drop i).take n) := (rfl)
@[go_sem] theorem aTI : (Lst.bools bs).cut i n = .bools ((bs.drop i).take n) := (rfl)
@[go_sem] theorem aWl : (Lst.strs ys1).cut i n = .strs ((ys1.drop i).take n) := (rfl)
@[go_sem] theorem aTJ : (Lst.pends ps).cut i n = .pends ((ps.drop i).take n) := (rfl)
@[go_sem] theorem aWm : (Lst.mics ms).cut i n = .mics ((ms.drop i).take n) := (rfl)
@[go_sem] theorem aWn : (Lst.recs rs).cut i n = .recs ((rs.drop i).take n) := (rfl)
@[go_sem] theorem aTK : (Lst.pairs ts).cut i n = .pairs ((ts.drop i).take n) := (rfl)
@[go_sem] theorem aTL : (Lst.slots vs).cut i n = .slots ((vs.drop i).take n) := (rfl)
@[go_sem] theorem aYs (fs : List (Option FuncId)) (i n : Nat) : (Lst.fns fs).cut i n = .fns ((fs.drop i).take n) := (rfl)
@[go_sem] theorem aWo : (Lst.ints k xs).app (.ints k ys) = some (.ints k (xs ++ ys)) := by simp [Lst.app]
@[go_sem] theorem aTM : (Lst.bools bs).app (.bools cs) = some (.bools (bs ++ cs)) := (rfl)
@[go_sem] theorem aWp : (Lst.strs ys1).app (.strs ys2) = some (.strs (ys1 ++ ys2)) := (rfl)
@[go_sem] theorem aTN : (Lst.pends ps).app (.pends qs) = some (.pends (ps ++ qs)) := (rfl)
@[go_sem] theorem aWq : (Lst.mics ms).app (.mics ns) = some (.mics (ms ++ ns)) := (rfl)
@[go_sem] theorem aWr : (Lst.recs rs).app (.recs ss) = some (.recs (rs ++ ss)) := (rfl)
@[go_sem] theorem aTO : (Lst.pairs ts).app (.pairs us) = some (.pairs (ts ++ us)) := (rfl)
@[go_sem] theorem aTP : (Lst.slots vs).app (.slots ws) = some (.slots (vs ++ ws)) := (rfl)
@[go_sem] theorem aYt (fs gs : List (Option FuncId)) : (Lst.fns fs).app (.fns gs) = some (.fns (fs ++ gs)) := (rfl)
variable (a b : Int) (x y : aY) (p q : Bool)
@[go_sem] theorem aWs : (Lst.ints k xs).set i (.int k a) = some (.ints k (xs.set i a)) := by simp [Lst.set]
@[go_sem] theorem aTQ : (Lst.bools bs).set i (.bool p) = some (.bools (bs.set i p)) := (rfl)
@[go_sem] theorem aWt : (Lst.strs ys1).set i (.str x) = some (.strs (ys1.set i x)) := (rfl)
@[go_sem] theorem aTR : (Lst.pends ps).set i (.agg [.int .i64 a, .int .i64 b, .bool p]) = some (.pends (ps.set i ⟨a, b, p⟩)) := (rfl)
@[go_sem] theorem aWu (c : Int) : (Lst.mics ms).set i (.agg [.int .i64 a, .int .i64 b, .int .i64 c]) = some (.mics (ms.set i ⟨a, b, c⟩)) := (rfl)
@[go_sem] theorem aWv : (Lst.recs rs).set i (.agg [.int .i64 a, .str x, .str y, .int .i64 b]) = some (.recs (rs.set i ⟨a, x, y, b⟩)) := (rfl)
@[go_sem] theorem aTS : (Lst.pairs ts).set i (.agg [.str x, .str y]) = some (.pairs (ts.set i ⟨x, y⟩)) := (rfl)
@[go_sem] theorem aTT : (Lst.slots vs).set i (.agg [.int .i64 a, .int .i64 b]) = some (.slots (vs.set i ⟨a, b⟩)) := (rfl)
@[go_sem] theorem aYu (fs : List (Option FuncId)) (i : Nat) (f : FuncId) : (Lst.fns fs).set i (.fn (.func f) [] []) = some (.fns (fs.set i (some f))) := (rfl)
@[go_sem] theorem aWw (fs : List (Option FuncId)) (i : Nat) : (Lst.fns fs).set i .nilfn = some (.fns (fs.set i none)) := (rfl)
end lists

section ops
variable (k : IntKind) (a b : Int) (x y : aY) (p q : Bool) (h : List AObj) (op : BinOp) (vs ws : List AV) (l l' : Lst) (S : Prop)
@[go_sem] theorem aZk (v : AV) : v.at_ [] = some v := by cases v <;> exact (rfl)
@[go_sem] theorem aZl (i off : Nat) (ps : List PS) : (AV.agg vs).at_ (.f i off :: ps) = if AV.sizes (vs.take i) = off then (vs[i]?).bind fun v => v.at_ ps else none := (rfl)
@[go_sem] theorem aTU (u v : AV) : u.setAt [] v = if u.size = v.size then some v else none := by cases u <;> exact (rfl)
@[go_sem] theorem aTV (i off : Nat) (ps : List PS) (v : AV) : (AV.agg vs).setAt (.f i off :: ps) v = if AV.sizes (vs.take i) = off then (vs[i]?).bind fun u => (u.setAt ps v).map fun u' => .agg (vs.set i u') else none := (rfl)
@[go_sem] theorem aWx (d : TyD) : binD d op (.int k a) (.int k b) = iP op k a b := by simp [binD]
@[go_sem] theorem aWy (d : TyD) (k' : IntKind) : binD d .shl (.int k a) (.int k' b) = iP .shl k a b := by simp [binD, xH]
@[go_sem] theorem aWz (d : TyD) (k' : IntKind) : binD d .shr (.int k a) (.int k' b) = iP .shr k a b := by simp [binD, xH]
@[go_sem] theorem aWA (d : TyD) : binD d op (.str x) (.str y) = nG op x y := (rfl)
@[go_sem] theorem aTW (d : TyD) : binD d op (.bool p) (.bool q) = uD op (AV.eqD d (.bool p) (.bool q)) := (rfl)
@[go_sem] theorem aWB (d : TyD) : binD d op (.agg vs) (.agg ws) = uD op (AV.eqD d (.agg vs) (.agg ws)) := (rfl)
@[go_sem] theorem aWC (d : TyD) : binD d op (.arr l) (.arr l') = uD op (AV.eqD d (.arr l) (.arr l')) := (rfl)
@[go_sem] theorem aQO (d : TyD) : binD d op .nilfn .nilfn = uD op (AV.eqD d .nilfn .nilfn) := (rfl)
@[go_sem] theorem aTX : uD .eql (some p) = pD True (.bool p) := (rfl)
@[go_sem] theorem aTY : uD .neq (some p) = pD True (.bool (!p)) := (rfl)
@[go_sem] theorem aYv (k' : IntKind) : AV.eqD (.int k') (.int k a) (.int k b) = some (decide (a = b)) := by simp [AV.eqD, kO]
@[go_sem] theorem aYw : AV.eqD .str (.str x) (.str y) = some (decide (x = y)) := by simp [AV.eqD, kO]
@[go_sem] theorem aWD : AV.eqD .bool (.bool p) (.bool q) = some (p == q) := by simp [AV.eqD, kO]
@[go_sem] theorem aTZ : AV.eqD .func .nilfn .nilfn = some true := by simp [AV.eqD, kO]
@[go_sem] theorem aYx (fs : List TyD) : AV.eqD (.strct fs) (.agg vs) (.agg ws) = AV.eqsD fs vs ws := by simp [AV.eqD]
@[go_sem] theorem aYy (n : Nat) (xs ys : List Int) : AV.eqD (.arr n (.int k)) (.arr (.ints k xs)) (.arr (.ints k ys)) = if xs.length = n ∧ ys.length = n then some (decide (xs = ys)) else none := by simp [AV.eqD, kO]
@[go_sem] theorem aWE : AV.eqsD [] [] [] = some true := by simp [AV.eqsD]
def aMA : Option Bool → Option Bool → Option Bool
 | some a, some b => some (a && b)
 | _, _ => none
@[go_sem] theorem aUa (d : TyD) (ds : List TyD) (v w : AV) (r r' : List AV) : AV.eqsD (d :: ds) (v :: r) (w :: r') = aMA (AV.eqD d v w) (AV.eqsD ds r r') := by
 simp only [AV.eqsD]; cases AV.eqD d v w <;> cases AV.eqsD ds r r' <;> rfl
@[go_sem] theorem aQP : aMA (some p) (some q) = some (p && q) := (rfl)
@[go_sem] theorem aZm : iP .add k a b = pD True (.int k (k.wrap (a + b))) := (rfl)
@[go_sem] theorem aZn : iP .sub k a b = pD True (.int k (k.wrap (a - b))) := (rfl)
@[go_sem] theorem aZo : iP .mul k a b = pD True (.int k (k.wrap (a * b))) := (rfl)
@[go_sem] theorem aZp : iP .quo k a b = pD (b ≠ 0) (.int k (k.wrap (a.tdiv b))) := (rfl)
@[go_sem] theorem aZq : iP .rem k a b = pD (b ≠ 0) (.int k (a.tmod b)) := (rfl)
@[go_sem] theorem aZr : iP .and k a b = pD True (.int k (andI k a b)) := (rfl)
@[go_sem] theorem aZO : iP .or k a b = pD True (.int k (orI k a b)) := (rfl)
@[go_sem] theorem aZs : iP .xor k a b = pD True (.int k (xorI k a b)) := (rfl)
@[go_sem] theorem aUb : iP .andNot k a b = pD True (.int k (xX k a b)) := (rfl)
@[go_sem] theorem aZt : iP .shl k a b = pD (0 ≤ b) (.int k (k.wrap (a * 2 ^ (min b.toNat k.bits)))) := (rfl)
@[go_sem] theorem aZu : iP .shr k a b = pD (0 ≤ b) (.int k (a.fdiv (2 ^ (min b.toNat k.bits)))) := (rfl)
@[go_sem] theorem aZv : iP .eql k a b = pD True (.bool (decide (a = b))) := (rfl)
@[go_sem] theorem aZw : iP .neq k a b = pD True (.bool (!decide (a = b))) := (rfl)
@[go_sem] theorem aZx : iP .lss k a b = pD True (.bool (decide (a < b))) := (rfl)
@[go_sem] theorem aZy : iP .leq k a b = pD True (.bool (decide (a ≤ b))) := (rfl)
@[go_sem] theorem aZz : iP .gtr k a b = pD True (.bool (decide (b < a))) := (rfl)
@[go_sem] theorem aZA : iP .geq k a b = pD True (.bool (decide (b ≤ a))) := (rfl)
@[go_sem] theorem aZB : nG .add x y = pD (x.length + y.length ≤ 1099511627776) (.str (x ++ y)) := (rfl)
@[go_sem] theorem aZC : nG .eql x y = pD True (.bool (decide (x = y))) := (rfl)
@[go_sem] theorem aZD : nG .neq x y = pD True (.bool (!decide (x = y))) := (rfl)
@[go_sem] theorem aZE : nG .lss x y = pD True (.bool (ltB x y)) := (rfl)
@[go_sem] theorem aZF : nG .gtr x y = pD True (.bool (ltB y x)) := (rfl)
@[go_sem] theorem aZG : nG .leq x y = pD True (.bool (!ltB y x)) := (rfl)
@[go_sem] theorem aZH : nG .geq x y = pD True (.bool (!ltB x y)) := (rfl)
@[go_sem] theorem aUc (rk : RK) (ver ver' off len : Nat) : mN (some (.row rk ver' l)) ver off len = if ver = ver' then some (l.cut off len) else none := (rfl)
@[go_sem] theorem aYz (x : Bool) : (AV.sl x l).list h = some l := (rfl)
@[go_sem] theorem aUd (x : Bool) (id ver off len : Nat) : (AV.sref x id ver off len).list h = mN (h[id]?) ver off len := (rfl)
@[go_sem] theorem aWF (rk : RK) (ver ver' len : Nat) : lenO (some (.row rk ver' l)) ver len = if ver = ver' then some len else none := (rfl)
@[go_sem] theorem aWG (e : LK) (x : Bool) : (AV.sl x l).len (.slice e) h = some l.len := (rfl)
@[go_sem] theorem aQQ (e : LK) (x : Bool) (id ver off len : Nat) : (AV.sref x id ver off len).len (.slice e) h = lenO (h[id]?) ver len := (rfl)
@[go_sem] theorem aUe : (AV.str x).len .str h = some x.length := (rfl)
@[go_sem] theorem aUf (n : Nat) (e : LK) (v : AV) : v.len (.arr n e) h = some n := (rfl)
@[go_sem] theorem aYA (d : TyD) (v : AV) : lenD d h v = fH (v.len d h) fun n => pD True (.int .i64 n) := (rfl)
@[go_sem] theorem aUg (e : LK) : (TyD.slice e).slc = true := (rfl)
@[go_sem] theorem aNn (e e' : LK) : (TyD.slice e).isSlice e' = decide (e = e') := (rfl)
@[go_sem] theorem aUh (n m : Nat) (e e' : LK) : (TyD.arr n e).isArr m e' = (decide (n = m) && decide (e = e')) := (rfl)
@[go_sem] theorem aUi : TyD.str.isStr = true := (rfl)
@[go_sem] theorem aOP (rk : RK) (ver : Nat) : jB (some (.row rk ver l)) = some l.kind := (rfl)
@[go_sem] theorem aNo (e e' : LK) : (TyD.slice e).fitsRow (some e') = decide (e = e') := (rfl)
@[go_sem] theorem aWH (rk : RK) (ver ver' : Nat) : verB (some (.row rk ver' l)) ver = decide (ver = ver') := (rfl)
@[go_sem] theorem aWI : (TyD.map .ib).isMap .ib = true := (rfl)
@[go_sem] theorem aWJ : (TyD.map .ii).isMap .ii = true := (rfl)
@[go_sem] theorem aWK : (TyD.map .sb).isMap .sb = true := (rfl)
@[go_sem] theorem aUj : (TyD.map .ifn).isMap .ifn = true := (rfl)
@[go_sem] theorem aUk : (TyD.int k).known = true := (rfl)
@[go_sem] theorem aQR : TyD.bool.known = true := (rfl)
@[go_sem] theorem aUl : TyD.str.known = true := (rfl)
@[go_sem] theorem aOQ (fs : List TyD) : (TyD.strct fs).known = true := (rfl)
@[go_sem] theorem aUm (id : Nat) (ps : List PS) : aD h (.ptr id ps) = aAY (h[id]?) ps := (rfl)
@[go_sem] theorem aWL (i : Nat) (fs : List PS) : aD h (.ep l i fs) = fH ((l.nth i).at_ fs) fun v => pD True v := (rfl)
@[go_sem] theorem aUn (v : AV) (ps : List PS) : aAY (some (.box v)) ps = fH (v.at_ ps) fun u => pD True u := (rfl)
@[go_sem] theorem aUo (ver : Nat) : aAY (some (.row .arr ver l)) [] = pD True (.arr l) := (rfl)
@[go_sem] theorem aOR (rk : RK) (ver v i sz : Nat) (ps : List PS) : aAY (some (.row rk ver l)) (.i v i sz :: ps) = if v = ver ∧ sz = l.kind.size then fH ((l.nth i).at_ ps) fun v => pD (i < l.len) v else none := by cases rk <;> rfl
@[go_sem] theorem aQS (d : TyD) (id : Nat) (ps : List PS) (v : AV) : aO d h (.ptr id ps) v = (oM (h[id]?) ps v).map fun r => (r.1 ∧ fitP d v, id, r.2) := by
 show (match oM (h[id]?) ps v with | some (S, o) => some (S ∧ fitP d v, id, o) | none => none) = _
 cases oM (h[id]?) ps v <;> rfl
@[go_sem] theorem aQT (u v : AV) (ps : List PS) : oM (some (.box u)) ps v = (u.setAt ps v).map fun u' => (True, .box u') := by
 show (match u.setAt ps v with | some u' => some (True, AObj.box u') | none => none) = _
 cases u.setAt ps v <;> rfl
@[go_sem] theorem aQU (ver : Nat) : oM (some (.row .arr ver l)) [] (.arr l') = if l'.kind = l.kind then some (l'.len = l.len, .row .arr ver l') else none := (rfl)
theorem aAx (rk : RK) (hk : rk ≠ .fro) (ver vr i sz : Nat) (ps : List PS) (v : AV) : oM (some (.row rk ver l)) (.i vr i sz :: ps) v = if vr = ver ∧ sz = l.kind.size then ((l.nth i).setAt ps v).bind fun u => (l.set i u).map fun l' => (i < l.len, .row rk ver l') else none := by
 have : oM (some (.row rk ver l)) (.i vr i sz :: ps) v = if vr = ver ∧ sz = l.kind.size ∧ rk ≠ .fro then (match (l.nth i).setAt ps v with
       | some u => match l.set i u with
         | some l' => some (i < l.len, AObj.row rk ver l')
         | none => none
       | none => none) else none := by cases rk <;> rfl
 rw [this]
 have e : (vr = ver ∧ sz = l.kind.size ∧ rk ≠ .fro) ↔ (vr = ver ∧ sz = l.kind.size) := by simp [hk]
 simp only [e]
 congr 1
 cases (l.nth i).setAt ps v with
 | none => rfl
 | some u => show (match l.set i u with | some l' => some (i < l.len, AObj.row rk ver l') | none => none) = _; cases h0 : l.set i u <;> simp [h0]
@[go_sem] theorem aNE (ver vr i sz : Nat) (ps : List PS) (v : AV) : oM (some (.row .own ver l)) (.i vr i sz :: ps) v = if vr = ver ∧ sz = l.kind.size then ((l.nth i).setAt ps v).bind fun u => (l.set i u).map fun l' => (i < l.len, .row .own ver l') else none := aAx l _ (by simp) _ _ _ _ _ _
@[go_sem] theorem aNF (ver vr i sz : Nat) (ps : List PS) (v : AV) : oM (some (.row .arr ver l)) (.i vr i sz :: ps) v = if vr = ver ∧ sz = l.kind.size then ((l.nth i).setAt ps v).bind fun u => (l.set i u).map fun l' => (i < l.len, .row .arr ver l') else none := aAx l _ (by simp) _ _ _ _ _ _
@[go_sem] theorem aOS (d : TyD) (id : Nat) (kk v : AV) : jQ d h (.map id) kk v = (pI d (h[id]?) kk v).map fun m => (True, id, .map m) := by
 show (match pI d (h[id]?) kk v with | some m => some (True, id, AObj.map m) | none => none) = _
 cases pI d (h[id]?) kk v <;> rfl
@[go_sem] theorem aQV (m : Int → Bool) : pI (.map .ib) (some (.map (.ib m))) (.int .i64 a) (.bool p) = some (.ib fun j => if j = a then p else m j) := (rfl)
@[go_sem] theorem aQW (m : Int → Int) : pI (.map .ii) (some (.map (.ii m))) (.int .i64 a) (.int .i64 b) = some (.ii fun j => if j = a then b else m j) := (rfl)
@[go_sem] theorem aOT (m : Int → Option FuncId) (f : FuncId) : pI (.map .ifn) (some (.map (.ifn m))) (.int .i64 a) (.fn (.func f) [] []) = some (.ifn fun j => if j = a then some f else m j) := (rfl)
@[go_sem] theorem aQX (m : aY → Bool) : pI (.map .sb) (some (.map (.sb m))) (.str x) (.bool p) = some (.sb fun j => if j = x then p else m j) := (rfl)
@[go_sem] theorem aOU (d : TyD) (id : Nat) (kk : AV) : lW d h (.map id) kk = sK d (h[id]?) kk := (rfl)
@[go_sem] theorem aQY (m : Int → Bool) : sK (.map .ib) (some (.map (.ib m))) (.int .i64 a) = pD True (.bool (m a)) := (rfl)
@[go_sem] theorem aQZ (m : Int → Int) : sK (.map .ii) (some (.map (.ii m))) (.int .i64 a) = pD True (.int .i64 (m a)) := (rfl)
@[go_sem] theorem aOV (m : Int → Option FuncId) : sK (.map .ifn) (some (.map (.ifn m))) (.int .i64 a) = pD True (aCx (m a)) := (rfl)
@[go_sem] theorem aRa (m : aY → Bool) : sK (.map .sb) (some (.map (.sb m))) (.str x) = pD True (.bool (m x)) := (rfl)
@[go_sem] theorem aRb (f : FuncId) : aCx (some f) = .fn (.func f) [] [] := (rfl)
@[go_sem] theorem aRc (d : TyD) (e : LK) (s x : AV) (K : AV → List AObj → Prop) : xJ d (.slice e) s x h K = jC (fI d h s x h.length) (fW d h s x) h K := (rfl)
@[go_sem] theorem aOW (d : TyD) (kk : IntKind) (s : AV) (n : Int) (K : AV → List AObj → Prop) : xJ d (.int kk) s (.int .i64 n) h K = ((0 ≤ n ∧ n ≤ 1099511627776) ∧ jC (fI d h s (oP d n) h.length) (fW d h s (oP d n)) h K) := (rfl)
@[go_sem] theorem aNG (e : LK) (n : Int) : oP (.slice e) n = .sl true (e.zeros n.toNat) := (rfl)
@[go_sem] theorem aRd (d : TyD) (xs : Lst) (v : AV) (n : Nat) : fI d h (.sl true xs) v n = fS (d.isSlice xs.kind) (fH (v.list h) fun ys => lT xs ys n) := (rfl)
@[go_sem] theorem aNH {α : Type} (p : Prop) [Decidable p] (A B : α) : (if p ∨ False then A else B) = if p then A else B := by
 by_cases h : p <;> simp [h]
@[go_sem] theorem aOX {α : Type} (p : Prop) [Decidable p] (A B : α) : (if p ∨ True then A else B) = A := by simp
@[go_sem] theorem aNI {α : Type} (A B : α) : (if False then A else B) = B := by simp
@[go_sem] theorem aRe (d : TyD) (v : AV) (n id ver off len : Nat) : fI d h (.sref true id ver off len) v n = if len = 0 ∨ xI (h[id]?) = false then fS (d.fitsRow (jB (h[id]?))) (fH (mN (h[id]?) ver off len) fun xs => fH (v.list h) fun ys => lT xs ys n) else none := (rfl)
@[go_sem] theorem aRf (ver : Nat) (l : Lst) : xI (some (.row .own ver l)) = true := (rfl)
@[go_sem] theorem aRg (ver : Nat) (l : Lst) : xI (some (.row .arr ver l)) = false := (rfl)
@[go_sem] theorem aRh (ver : Nat) (l : Lst) : xI (some (.row .fro ver l)) = false := (rfl)
@[go_sem] theorem aRi (v : AV) : xI (some (.box v)) = false := (rfl)
@[go_sem] theorem aRj (d : TyD) (v : AV) (n id ver off len : Nat) : fI d h (.sref false id ver off len) v n = none := (rfl)
@[go_sem] theorem aNJ (xs ys : Lst) (s : Nat) : lT xs ys s = fH (xs.app ys) fun zs => some ((0 < ys.len ∨ xs.len = 0) ∧ roomy zs.len, .sref false s 0 0 zs.len, [.row .own 0 zs]) := (rfl)
@[go_sem] theorem aRk (d : TyD) (v : AV) (id ver off len : Nat) : fW d h (.sref false id ver off len) v = if d.fitsRow (jB (h[id]?)) = true then uX (h[id]?) id ver off len (v.list h) else none := (rfl)
@[go_sem] theorem aRl (d : TyD) (v : AV) (id ver off len : Nat) : fW d h (.sref true id ver off len) v = if d.fitsRow (jB (h[id]?)) = true then uX (h[id]?) id ver off len (v.list h) else none := (rfl)
@[go_sem] theorem aOY (ver ver' id off len : Nat) (ys : Lst) : uX (some (.row .own ver' l)) id ver off len (some ys) =
   if ver = ver' then (l.app ys).map fun zs => (off = 0 ∧ len = l.len ∧ roomy zs.len, .sref false id (ver + 1) 0 zs.len, id, .row .own (ver + 1) zs) else none := by
 show (if ver = ver' then (match l.app ys with
     | some zs => some (off = 0 ∧ len = l.len ∧ roomy zs.len, AV.sref false id (ver + 1) 0 zs.len, id, AObj.row .own (ver + 1) zs)
     | none => none) else none) = _
 congr 1; cases l.app ys <;> rfl
@[go_sem] theorem aWM (d : TyD) (x : Bool) (id ver off len : Nat) (s : AV) : mD d h (.sref x id ver off len) s = if d.fitsRow (jB (h[id]?)) = true then yL (h[id]?) id ver off len (s.list h) else none := (rfl)
theorem aEQ (rk : RK) (hk : rk ≠ .fro) (ver ver' id off len : Nat) (ys : Lst) : yL (some (.row rk ver' l)) id ver off len (some ys) =
   if ver = ver' then (l.over off len ys).map fun l' => (True, .int .i64 (min len ys.len : Nat), id, .row rk ver' l') else none := by
 show (if ver = ver' ∧ rk ≠ .fro then (match l.over off len ys with
     | some l' => some (True, AV.int .i64 (min len ys.len : Nat), id, AObj.row rk ver' l')
     | none => none) else none) = _
 have e : (ver = ver' ∧ rk ≠ .fro) ↔ ver = ver' := by simp [hk]
 simp only [e]
 congr 1; cases l.over off len ys <;> rfl
@[go_sem] theorem aUp (ver ver' id off len : Nat) (ys : Lst) : yL (some (.row .own ver' l)) id ver off len (some ys) =
   if ver = ver' then (l.over off len ys).map fun l' => (True, .int .i64 (min len ys.len : Nat), id, .row .own ver' l') else none := aEQ l _ (by simp) _ _ _ _ _ _
@[go_sem] theorem aUq (ver ver' id off len : Nat) (ys : Lst) : yL (some (.row .arr ver' l)) id ver off len (some ys) =
   if ver = ver' then (l.over off len ys).map fun l' => (True, .int .i64 (min len ys.len : Nat), id, .row .arr ver' l') else none := aEQ l _ (by simp) _ _ _ _ _ _
@[go_sem] theorem aUr (xs ys : List Int) (off len : Nat) : (Lst.ints k xs).over off len (.ints k ys) =
   some (.ints k (xs.take off ++ ys.take len ++ (xs.drop (off + min len ys.length)).take (xs.length - (off + min len ys.length)))) := by
 simp [Lst.over, Lst.cut, Lst.app, Lst.len]
@[go_sem] theorem aNp (d : TyD) (x : Bool) (k : IntKind) : aH d h (.sl x l) (.int k a) = fS (d.isSlice l.kind) (pD (0 ≤ a ∧ a < l.len) (.ep l a.toNat [])) := (rfl)
@[go_sem] theorem aMB (d : TyD) (x : Bool) (id ver off len : Nat) (k : IntKind) : aH d h (.sref x id ver off len) (.int k a) = wC (h[id]?) d id ver off len a := (rfl)
@[go_sem] theorem aMZ (d : TyD) (id : Nat) (k : IntKind) : aH d h (.ptr id []) (.int k a) = wD (h[id]?) d id a := (rfl)
@[go_sem] theorem aNq (d : TyD) (rk : RK) (ver ver' id off len : Nat) : wC (some (.row rk ver' l)) d id ver off len a = fS (d.isSlice l.kind) (if ver = ver' then pD (0 ≤ a ∧ a < len) (.ptr id [.i ver (off + a.toNat) l.kind.size]) else none) := (rfl)
@[go_sem] theorem aNr (d : TyD) (ver id : Nat) : wD (some (.row .arr ver l)) d id a = fS (d.isArr l.len l.kind) (pD (0 ≤ a ∧ a < l.len) (.ptr id [.i ver a.toNat l.kind.size])) := (rfl)
@[go_sem] theorem aRm (k : IntKind) : tB .str (.str x) (.int k a) = pD (0 ≤ a ∧ a < x.length) (.int .u8 (x.getD a.toNat 0).toNat) := (rfl)
@[go_sem] theorem aRn (d : TyD) (k : IntKind) : tB d (.arr l) (.int k a) = fS (d.isArr l.len l.kind) (pD (0 ≤ a ∧ a < l.len) (l.nth a.toNat)) := (rfl)
@[go_sem] theorem aYB : unD .not (.bool p) = pD True (.bool (!p)) := (rfl)
@[go_sem] theorem aYC : unD .neg (.int k a) = pD True (.int k (k.wrap (0 - a))) := (rfl)
@[go_sem] theorem aYD : unD .xor (.int k a) = pD True (.int k (notI k a)) := (rfl)
@[go_sem] theorem aUs (k1 k' k2 : IntKind) : jK h (.int k1) (.int k') (.int k2 a) = pD True (.int k' (k'.wrap a)) := (rfl)
@[go_sem] theorem aUt : jK h .str .str (.str x) = pD True (.str x) := (rfl)
@[go_sem] theorem aWN (x : Bool) : jK h (.slice (.int .u8)) .str (.sl x l) = vH (some l) := (rfl)
@[go_sem] theorem aRo (x : Bool) (id ver off len : Nat) : jK h (.slice (.int .u8)) .str (.sref x id ver off len) = vH (mN (h[id]?) ver off len) := (rfl)
@[go_sem] theorem aOZ (xs : List Int) : vH (some (.ints .u8 xs)) = pD True (.str (xs.map fun n => UInt8.ofNat n.toNat)) := (rfl)
@[go_sem] theorem aUu (fs : List TyD) (f : Nat) : aAb (.strct fs) (.agg vs) f = if AV.sizes (vs.take f) = TyD.sizes (fs.take f) ∧ f < fs.length ∧ f < vs.length then pD (fitP (fs.getD f .other) (vs.getD f .top)) (vs.getD f .top) else none := (rfl)
@[go_sem] theorem aNa (fs : List TyD) (id f : Nat) (ps : List PS) : aC (.strct fs) (.ptr id ps) f = if f < fs.length then pD True (.ptr id (ps ++ [.f f (TyD.sizes (fs.take f))])) else none := (rfl)
@[go_sem] theorem aNs (fs : List TyD) (i f : Nat) (ps : List PS) : aC (.strct fs) (.ep l i ps) f = if f < fs.length then pD True (.ep l i (ps ++ [.f f (TyD.sizes (fs.take f))])) else none := (rfl)
@[go_sem] theorem aNt (e : LK) (s : Nat) : kC (.slice e) (.int .i64 a) (.int .i64 b) s = some (0 ≤ a ∧ a ≤ b ∧ roomy b.toNat, .sref (decide (a = b)) s 0 0 a.toNat, [.row .own 0 (e.zeros a.toNat)]) := (rfl)
@[go_sem] theorem aPa (s : Nat) : kQ (.map .ib) s = some (True, .map s, [.map (.ib fun _ => false)]) := (rfl)
@[go_sem] theorem aPb (s : Nat) : kQ (.map .ii) s = some (True, .map s, [.map (.ii fun _ => 0)]) := (rfl)
@[go_sem] theorem aPc (s : Nat) : kQ (.map .sb) s = some (True, .map s, [.map (.sb fun _ => false)]) := (rfl)
@[go_sem] theorem aNK (s : Nat) : kQ (.map .ifn) s = some (True, .map s, [.map (.ifn fun _ => none)]) := (rfl)
@[go_sem] theorem aNu (id : Nat) (ps : List PS) : cV (.ptr id ps) = pD True (.ptr id ps) := (rfl)
@[go_sem] theorem aNL (i : Nat) (ps : List PS) : cV (.ep l i ps) = pD True (.ep l i ps) := (rfl)
@[go_sem] theorem aPd (i : Nat) : aV (.tup vs) i = if i < vs.length then pD True (vs.getD i .top) else none := (rfl)
@[go_sem] theorem aRp (v w : AV) : bK (.bool true) v w = pD True v := (rfl)
@[go_sem] theorem aPe (v w : AV) : bK (.bool false) v w = pD True w := (rfl)
@[go_sem] theorem aWO : minD (.int k a) (.int k b) = pD True (.int k (if b < a then b else a)) := by simp [minD]
@[go_sem] theorem aWP : maxD (.int k a) (.int k b) = pD True (.int k (if b > a then b else a)) := by simp [maxD]
@[go_sem] theorem aUv : maxD (.str x) (.str y) = pD True (.str (if ltB x y then y else x)) := (rfl)
@[go_sem] theorem aNM (fs : List TyD) (parts : List (Nat × AV)) : gT (.strct fs) parts = fH (oE (TyD.zeros fs) parts) fun vs => pD True (.agg vs) := (rfl)
@[go_sem] theorem aRq (n : Nat) (e : LK) (parts : List (Nat × AV)) : gT (.arr n e) parts = fH (jY (e.zeros n) parts) fun l => pD True (.arr l) := (rfl)
@[go_sem] theorem aNb (e : LK) (n s : Nat) (parts : List (Nat × AV)) : eN (.slice e) n parts s = fH (jY (e.zeros n) parts) fun l => some (n ≤ 1048576, .sref true s 0 0 n, [.row .own 0 l]) := (rfl)
@[go_sem] theorem aPf : oE vs [] = some vs := (rfl)
@[go_sem] theorem aNN (i : Nat) (v : AV) (r : List (Nat × AV)) : oE vs ((i, v) :: r) = if i < vs.length ∧ (vs.getD i .top).size = v.size ∧ v.solid = true then oE (vs.set i v) r else none := (rfl)
@[go_sem] theorem aPg : jY l [] = some l := (rfl)
@[go_sem] theorem aNO (i : Nat) (v : AV) (r : List (Nat × AV)) : jY l ((i, v) :: r) = if i < l.len then (l.set i v).bind fun l' => jY l' r else none := by
 show (if i < l.len then (match l.set i v with | some l' => jY l' r | none => none) else none) = _
 congr 1; cases l.set i v <;> rfl
@[go_sem] theorem aWQ : boxO (.arr l) = .row .arr 0 l := (rfl)
@[go_sem] theorem aWR : boxO (.int k a) = .box (.int k a) := (rfl)
@[go_sem] theorem aUw : boxO (.bool p) = .box (.bool p) := (rfl)
@[go_sem] theorem aWS : boxO (.str x) = .box (.str x) := (rfl)
@[go_sem] theorem aWT : boxO (.agg vs) = .box (.agg vs) := (rfl)
@[go_sem] theorem aYE (x : Bool) : boxO (.sl x l) = .box (.sl x l) := (rfl)
@[go_sem] theorem aUx (x : Bool) (id ver off len : Nat) : boxO (.sref x id ver off len) = .box (.sref x id ver off len) := (rfl)
@[go_sem] theorem aWU (id : Nat) (ps : List PS) : boxO (.ptr id ps) = .box (.ptr id ps) := (rfl)
@[go_sem] theorem aWV (id : Nat) : boxO (.map id) = .box (.map id) := (rfl)
@[go_sem] theorem aUy : boxO .nilp = .box .nilp := (rfl)
@[go_sem] theorem aWW : boxO .top = .box .top := (rfl)
@[go_sem] theorem aYF (f : Fn) : boxO (.fn f vs ws) = .box (.fn f vs ws) := (rfl)
@[go_sem] theorem aRr : boxO .nilfn = .box .nilfn := (rfl)
@[go_sem] theorem aZI (d : TyD) (v : AV) : fitD d (pD S v) = pD (S ∧ fitP d v) v := (rfl)
@[go_sem] theorem aRs (fs : List TyD) : fitP (.strct fs) (.agg vs) = (AV.sizes vs = TyD.sizes fs) := (rfl)
@[go_sem] theorem aWX (n : Nat) (e : LK) : fitP (.arr n e) (.arr l) = (l.len = n ∧ l.kind = e) := (rfl)
@[go_sem] theorem aWY (k' : IntKind) : fitP (.int k') (.int k a) = True := (rfl)
@[go_sem] theorem aUz : fitP .bool (.bool p) = True := (rfl)
@[go_sem] theorem aWZ : fitP .str (.str x) = True := (rfl)
@[go_sem] theorem aYG (e : LK) (x : Bool) : fitP (.slice e) (.sl x l) = True := (rfl)
@[go_sem] theorem aUA (e : LK) (x : Bool) (id ver off len : Nat) : fitP (.slice e) (.sref x id ver off len) = True := (rfl)
@[go_sem] theorem aXa (id : Nat) (ps : List PS) : fitP .ptr (.ptr id ps) = True := (rfl)
@[go_sem] theorem aUB : fitP .ptr .nilp = True := (rfl)
@[go_sem] theorem aYH (i : Nat) (ps : List PS) : fitP .ptr (.ep l i ps) = True := (rfl)
@[go_sem] theorem aXb (m : MK) (id : Nat) : fitP (.map m) (.map id) = True := (rfl)
@[go_sem] theorem aYI (f : Fn) : fitP .func (.fn f vs ws) = True := (rfl)
@[go_sem] theorem aRt : fitP .func .nilfn = True := (rfl)
end ops

section slices
variable (h : List AObj) (x : Bool) (l : Lst) (s : aY) (a b c : Int) (k k' k'' : IntKind) (id ver off len : Nat) (lo hi mx : Option AV)
variable (d : TyD)
@[go_sem] theorem aXc : dX .str h (.str s) none (some (.int k b)) none = pD (0 ≤ b ∧ b ≤ s.length) (.str (s.take b.toNat)) := (rfl)
@[go_sem] theorem aXd : dX .str h (.str s) (some (.int k a)) none none = pD (0 ≤ a ∧ a ≤ s.length) (.str (s.drop a.toNat)) := (rfl)
@[go_sem] theorem aXe : dX .str h (.str s) (some (.int k a)) (some (.int k' b)) none = pD (0 ≤ a ∧ a ≤ b ∧ b ≤ s.length) (.str ((s.drop a.toNat).take (b.toNat - a.toNat))) := (rfl)
@[go_sem] theorem aXf : dX d h (.sl x l) none none none = fS (d.isSlice l.kind) (pD True (.sl x l)) := (rfl)
@[go_sem] theorem aXg : dX d h (.sl x l) none (some (.int k b)) none = fS (d.isSlice l.kind) (pD (0 ≤ b ∧ b ≤ l.len) (.sl false (l.cut 0 b.toNat))) := (rfl)
@[go_sem] theorem aXh : dX d h (.sl x l) (some (.int k a)) none none = fS (d.isSlice l.kind) (pD (0 ≤ a ∧ a ≤ l.len) (.sl x (l.cut a.toNat (l.len - a.toNat)))) := (rfl)
@[go_sem] theorem aXi : dX d h (.sl x l) (some (.int k a)) (some (.int k' b)) none = fS (d.isSlice l.kind) (pD (0 ≤ a ∧ a ≤ b ∧ b ≤ l.len) (.sl false (l.cut a.toNat (b.toNat - a.toNat)))) := (rfl)
@[go_sem] theorem aXj : dX d h (.sl x l) none (some (.int k' b)) (some (.int k'' c)) = fS (d.isSlice l.kind) (pD (0 ≤ b ∧ b ≤ l.len ∧ b = c) (.sl true (l.cut 0 b.toNat))) := (rfl)
@[go_sem] theorem aXk : dX d h (.sl x l) (some (.int k a)) (some (.int k' b)) (some (.int k'' c)) = fS (d.isSlice l.kind) (pD (0 ≤ a ∧ a ≤ b ∧ b ≤ l.len ∧ b = c) (.sl true (l.cut a.toNat (b.toNat - a.toNat)))) := (rfl)
@[go_sem] theorem aXl : dX d h (.sref x id ver off len) none (some (.int k b)) none = fS (d.fitsRow (jB (h[id]?))) (fS (verB (h[id]?) ver) (pD (0 ≤ b ∧ b ≤ len) (.sref false id ver off b.toNat))) := by
 simp [dX, oN]
@[go_sem] theorem aXm : dX d h (.sref x id ver off len) (some (.int k a)) none none = fS (d.fitsRow (jB (h[id]?))) (fS (verB (h[id]?) ver) (pD (0 ≤ a ∧ a ≤ len) (.sref x id ver (off + a.toNat) (len - a.toNat)))) := by
 simp [dX, oN]
@[go_sem] theorem aXn : dX d h (.sref x id ver off len) (some (.int k a)) (some (.int k' b)) none = fS (d.fitsRow (jB (h[id]?))) (fS (verB (h[id]?) ver) (pD (0 ≤ a ∧ a ≤ b ∧ b ≤ len) (.sref false id ver (off + a.toNat) (b.toNat - a.toNat)))) := by
 simp [dX, oN]
@[go_sem] theorem aXo : dX d h (.sref x id ver off len) none (some (.int k' b)) (some (.int k'' c)) = fS (d.fitsRow (jB (h[id]?))) (fS (verB (h[id]?) ver) (pD (0 ≤ b ∧ b ≤ len ∧ b = c) (.sref true id ver off b.toNat))) := by
 simp [dX, oN]
@[go_sem] theorem aXp : dX d h (.sref x id ver off len) (some (.int k a)) (some (.int k' b)) (some (.int k'' c)) = fS (d.fitsRow (jB (h[id]?))) (fS (verB (h[id]?) ver) (pD (0 ≤ a ∧ a ≤ b ∧ b ≤ len ∧ b = c) (.sref true id ver (off + a.toNat) (b.toNat - a.toNat)))) := by
 simp [dX, oN]
@[go_sem] theorem aYJ (lo hi mx : Option AV) : dX d h (.ptr id []) lo hi mx = kM (h[id]?) id d lo hi mx := (rfl)
@[go_sem] theorem aRu : kM (some (.row .arr ver l)) id d none none none = fS (d.isArr l.len l.kind) (pD True (.sref true id ver 0 l.len)) := by
 simp [kM]
@[go_sem] theorem aRv : kM (some (.row .arr ver l)) id d (some (.int k a)) none none = fS (d.isArr l.len l.kind) (pD (0 ≤ a ∧ a ≤ l.len) (.sref true id ver a.toNat (l.len - a.toNat))) := by
 simp [kM]
@[go_sem] theorem aRw : kM (some (.row .arr ver l)) id d none (some (.int k' b)) none = fS (d.isArr l.len l.kind) (pD (0 ≤ b ∧ b ≤ l.len) (.sref false id ver 0 b.toNat)) := by
 simp [kM]
@[go_sem] theorem aRx : kM (some (.row .arr ver l)) id d (some (.int k a)) (some (.int k' b)) none = fS (d.isArr l.len l.kind) (pD (0 ≤ a ∧ a ≤ b ∧ b ≤ l.len) (.sref false id ver a.toNat (b.toNat - a.toNat))) := by
 simp [kM]
end slices

section vals
variable (h : List AObj) (x : Bool) (l : Lst) (vs ws : List AV) (n : Nat)
@[go_sem] theorem aXq : AV.vals h [] = some [] := (rfl)
def aMC : Option AV → Option (List AV) → Option (List AV)
 | some a, some b => some (a :: b)
 | _, _ => none
@[go_sem] theorem aUC (v : AV) (r : List AV) : AV.vals h (v :: r) = aMC (v.val h) (AV.vals h r) := by
 show (match v.val h, AV.vals h r with | some a, some b => some (a :: b) | _, _ => none) = _
 cases v.val h <;> cases AV.vals h r <;> rfl
@[go_sem] theorem aRy (a : AV) (b : List AV) : aMC (some a) (some b) = some (a :: b) := (rfl)
@[go_sem] theorem aXr (id ver off len : Nat) : (AV.sref x id ver off len).val h = (mN (h[id]?) ver off len).map fun l => .sl false l := (rfl)
@[go_sem] theorem aZJ : (AV.sl x l).val h = some (.sl false l) := (rfl)
@[go_sem] theorem aYK : (AV.agg vs).val h = (AV.vals h vs).map .agg := (rfl)
@[go_sem] theorem aYL : (AV.tup vs).val h = (AV.vals h vs).map .tup := (rfl)
@[go_sem] theorem aYM (k : IntKind) (a : Int) : (AV.int k a).val h = some (.int k a) := (rfl)
@[go_sem] theorem aXs (b : Bool) : (AV.bool b).val h = some (.bool b) := (rfl)
@[go_sem] theorem aYN (s : aY) : (AV.str s).val h = some (.str s) := (rfl)
@[go_sem] theorem aYO (id : Nat) (p : List PS) : (AV.ptr id p).val h = some (.ptr id p) := (rfl)
@[go_sem] theorem aYP (id : Nat) : (AV.map id).val h = some (.map id) := (rfl)
@[go_sem] theorem aZK (f : Fn) : (AV.fn f vs ws).val h = some (.fn f vs ws) := (rfl)
@[go_sem] theorem aYQ : (AV.arr l).val h = some (.arr l) := (rfl)
@[go_sem] theorem aXt : AV.nilp.val h = some .nilp := (rfl)
@[go_sem] theorem aYR : AV.top.val h = some .top := (rfl)
@[go_sem] theorem aUD (k : IntKind) (a : Int) : (AV.int k a).shift n = .int k a := (rfl)
@[go_sem] theorem aRz (b : Bool) : (AV.bool b).shift n = .bool b := (rfl)
@[go_sem] theorem aUE (s : aY) : (AV.str s).shift n = .str s := (rfl)
@[go_sem] theorem aXu : (AV.sl x l).shift n = .sl x l := (rfl)
@[go_sem] theorem aUF : (AV.arr l).shift n = .arr l := (rfl)
@[go_sem] theorem aXv (f : Fn) : (AV.fn f vs ws).shift n = .fn f vs ws := (rfl)
@[go_sem] theorem aRA (id ver off len : Nat) : (AV.sref x id ver off len).shift n = .sref x (n + id) ver off len := (rfl)
@[go_sem] theorem aUG (id : Nat) : (AV.map id).shift n = .map (n + id) := (rfl)
@[go_sem] theorem aUH (id : Nat) (p : List PS) : (AV.ptr id p).shift n = .ptr (n + id) p := (rfl)
@[go_sem] theorem aUI : (AV.agg vs).shift n = .agg (AV.shifts n vs) := (rfl)
@[go_sem] theorem aUJ : (AV.tup vs).shift n = .tup (AV.shifts n vs) := (rfl)
@[go_sem] theorem aRB : AV.shifts n [] = [] := (rfl)
@[go_sem] theorem aPh (v : AV) (r : List AV) : AV.shifts n (v :: r) = v.shift n :: AV.shifts n r := (rfl)
@[go_sem] theorem aUK (id ver off len : Nat) : (AV.sref x id ver off len).rows = [id] := (rfl)
@[go_sem] theorem aYS : (AV.sl x l).rows = [] := (rfl)
@[go_sem] theorem aXw : (AV.agg vs).rows = AV.rowss vs := (rfl)
@[go_sem] theorem aXx : (AV.tup vs).rows = AV.rowss vs := (rfl)
@[go_sem] theorem aXy (k : IntKind) (a : Int) : (AV.int k a).rows = [] := (rfl)
@[go_sem] theorem aUL (b : Bool) : (AV.bool b).rows = [] := (rfl)
@[go_sem] theorem aXz (s : aY) : (AV.str s).rows = [] := (rfl)
@[go_sem] theorem aXA : (AV.arr l).rows = [] := (rfl)
@[go_sem] theorem aXB (id : Nat) (p : List PS) : (AV.ptr id p).rows = [] := (rfl)
@[go_sem] theorem aXC (id : Nat) : (AV.map id).rows = [] := (rfl)
@[go_sem] theorem aYT (f : Fn) : (AV.fn f vs ws).rows = [] := (rfl)
@[go_sem] theorem aRC : AV.nilfn.rows = [] := (rfl)
@[go_sem] theorem aUM : AV.nilp.rows = [] := (rfl)
@[go_sem] theorem aYU (i : Nat) (fs : List PS) : (AV.ep l i fs).rows = [] := (rfl)
@[go_sem] theorem aXD : AV.top.rows = [] := (rfl)
@[go_sem] theorem aRD (t : TypeId) (v : AV) : (AV.iface t v).rows = [] := (rfl)
@[go_sem] theorem aNv : AV.niliface.rows = [] := (rfl)
@[go_sem] theorem aUN : AV.rowss [] = [] := (rfl)
@[go_sem] theorem aRE (v : AV) (r : List AV) : AV.rowss (v :: r) = v.rows ++ AV.rowss r := (rfl)
@[go_sem] theorem aXE (k : IntKind) (a : Int) : (AV.int k a).noSl = true := (rfl)
@[go_sem] theorem aUO (b : Bool) : (AV.bool b).noSl = true := (rfl)
@[go_sem] theorem aXF (s : aY) : (AV.str s).noSl = true := (rfl)
@[go_sem] theorem aXG : (AV.arr l).noSl = true := (rfl)
@[go_sem] theorem aUP : AV.nilp.noSl = true := (rfl)
@[go_sem] theorem aRF : AV.nilfn.noSl = true := (rfl)
@[go_sem] theorem aYV : (AV.sl x l).noSl = false := (rfl)
@[go_sem] theorem aXH : (AV.agg vs).noSl = AV.noSls vs := (rfl)
@[go_sem] theorem aXI : (AV.tup vs).noSl = AV.noSls vs := (rfl)
@[go_sem] theorem aYW (f : Fn) : (AV.fn f vs ws).noSl = (AV.noSls vs && AV.noSls ws) := (rfl)
@[go_sem] theorem aUQ : AV.noSls [] = true := (rfl)
@[go_sem] theorem aRG (v : AV) (r : List AV) : AV.noSls (v :: r) = (v.noSl && AV.noSls r) := (rfl)
@[go_sem] theorem aXJ (p : Prop) [Decidable p] (v w : AV) : (if p then v else w).noSl = (if p then v.noSl else w.noSl) := by split <;> rfl
@[go_sem] theorem aPi (id ver off len : Nat) : (AV.sref x id ver off len).closed = false := (rfl)
@[go_sem] theorem aRH (id : Nat) (p : List PS) : (AV.ptr id p).closed = false := (rfl)
@[go_sem] theorem aRI (id : Nat) : (AV.map id).closed = false := (rfl)
@[go_sem] theorem aPj : AV.nilp.closed = true := (rfl)
@[go_sem] theorem aNP : AV.nilfn.closed = true := (rfl)
@[go_sem] theorem aUR (k : IntKind) (a : Int) : (AV.int k a).solid = true := (rfl)
@[go_sem] theorem aRJ (b : Bool) : (AV.bool b).solid = true := (rfl)
@[go_sem] theorem aUS (s : aY) : (AV.str s).solid = true := (rfl)
@[go_sem] theorem aXK : (AV.sl x l).solid = true := (rfl)
@[go_sem] theorem aRK (id ver off len : Nat) : (AV.sref x id ver off len).solid = true := (rfl)
@[go_sem] theorem aUT : (AV.agg vs).solid = true := (rfl)
@[go_sem] theorem aUU : (AV.arr l).solid = true := (rfl)
@[go_sem] theorem aUV (id : Nat) (p : List PS) : (AV.ptr id p).solid = true := (rfl)
@[go_sem] theorem aUW (id : Nat) : (AV.map id).solid = true := (rfl)
@[go_sem] theorem aRL : AV.nilp.solid = true := (rfl)
@[go_sem] theorem aPk : AV.nilfn.solid = true := (rfl)
@[go_sem] theorem aXL (f : Fn) : (AV.fn f vs ws).solid = true := (rfl)
@[go_sem] theorem aXM (id ver off len : Nat) : (AV.sref x id ver off len).ids = [id] := (rfl)
@[go_sem] theorem aZL : (AV.sl x l).ids = [] := (rfl)
@[go_sem] theorem aYX : (AV.agg vs).ids = AV.idss vs := (rfl)
@[go_sem] theorem aYY : (AV.tup vs).ids = AV.idss vs := (rfl)
@[go_sem] theorem aYZ (k : IntKind) (a : Int) : (AV.int k a).ids = [] := (rfl)
@[go_sem] theorem aXN (b : Bool) : (AV.bool b).ids = [] := (rfl)
@[go_sem] theorem aZa (s : aY) : (AV.str s).ids = [] := (rfl)
@[go_sem] theorem aZb : (AV.arr l).ids = [] := (rfl)
@[go_sem] theorem aZc (id : Nat) (p : List PS) : (AV.ptr id p).ids = [id] := (rfl)
@[go_sem] theorem aZd (id : Nat) : (AV.map id).ids = [id] := (rfl)
@[go_sem] theorem aZM (f : Fn) : (AV.fn f vs ws).ids = AV.idss vs ++ AV.idss ws := (rfl)
@[go_sem] theorem aXO : AV.nilp.ids = [] := (rfl)
@[go_sem] theorem aUX : AV.nilfn.ids = [] := (rfl)
@[go_sem] theorem aZN (i : Nat) (fs : List PS) : (AV.ep l i fs).ids = [] := (rfl)
@[go_sem] theorem aZe : AV.top.ids = [] := (rfl)
@[go_sem] theorem aXP : AV.idss [] = [] := (rfl)
@[go_sem] theorem aUY (v : AV) (r : List AV) : AV.idss (v :: r) = v.ids ++ AV.idss r := (rfl)
@[go_sem] theorem aRM : AV.nilfn.norm n h = .nilfn := (rfl)
@[go_sem] theorem aPl : AV.closeds [] = true := (rfl)
@[go_sem] theorem aNQ (v : AV) (r : List AV) : AV.closeds (v :: r) = (v.closed && AV.closeds r) := (rfl)
@[go_sem] theorem aRN (k : IntKind) (a : Int) : (AV.int k a).closed = true := (rfl)
@[go_sem] theorem aPm (b : Bool) : (AV.bool b).closed = true := (rfl)
@[go_sem] theorem aRO (s : aY) : (AV.str s).closed = true := (rfl)
@[go_sem] theorem aUZ : (AV.sl x l).closed = true := (rfl)
@[go_sem] theorem aRP : (AV.arr l).closed = true := (rfl)
@[go_sem] theorem aRQ : (AV.agg vs).closed = AV.closeds vs := (rfl)
@[go_sem] theorem aVa (f : Fn) : (AV.fn f vs ws).closed = (AV.closeds vs && AV.closeds ws) := (rfl)
@[go_sem] theorem aVb : AV.norms n h [] = [] := (rfl)
@[go_sem] theorem aRR (v : AV) (r : List AV) : AV.norms n h (v :: r) = v.norm n h :: AV.norms n h r := (rfl)
@[go_sem] theorem aXQ (k : IntKind) (a : Int) : (AV.int k a).norm n h = .int k a := (rfl)
@[go_sem] theorem aVc (b : Bool) : (AV.bool b).norm n h = .bool b := (rfl)
@[go_sem] theorem aXR (s : aY) : (AV.str s).norm n h = .str s := (rfl)
@[go_sem] theorem aZf : (AV.sl x l).norm n h = .sl false l := (rfl)
@[go_sem] theorem aXS : (AV.arr l).norm n h = .arr l := (rfl)
@[go_sem] theorem aVd : AV.nilp.norm n h = .nilp := (rfl)
@[go_sem] theorem aXT : AV.top.norm n h = .top := (rfl)
@[go_sem] theorem aXU : AV.und.norm n h = .und := (rfl)
@[go_sem] theorem aXV (id : Nat) (p : List PS) : (AV.ptr id p).norm n h = if id < n then .ptr id p else .top := (rfl)
@[go_sem] theorem aXW (id : Nat) : (AV.map id).norm n h = if id < n then .map id else .top := (rfl)
@[go_sem] theorem aXX : (AV.agg vs).norm n h = .agg (AV.norms n h vs) := (rfl)
@[go_sem] theorem aXY : (AV.tup vs).norm n h = .tup (AV.norms n h vs) := (rfl)
@[go_sem] theorem aZg (f : Fn) : (AV.fn f vs ws).norm n h = .fn f (AV.norms n h vs) (AV.norms n h ws) := (rfl)
@[go_sem] theorem aZh (i : Nat) (fs : List PS) : (AV.ep l i fs).norm n h = .ep l i fs := (rfl)
@[go_sem] theorem aVe (id ver off len : Nat) : (AV.sref x id ver off len).norm n h = qI n (h[id]?) id ver off len := (rfl)
@[go_sem] theorem aVf (rk : RK) (id ver ver' off len : Nat) : qI n (some (.row rk ver' l)) id ver off len = if ver = ver' then (if id < n then .sref false id ver off len else .sl false (l.cut off len)) else .top := (rfl)
@[go_sem] theorem aXZ : cJ n h = (h.take n).map (rJ n h) := (rfl)
@[go_sem] theorem aVg (v : AV) : rJ n h (.box v) = .box (v.norm n h) := (rfl)
@[go_sem] theorem aVh (rk : RK) (ver : Nat) : rJ n h (.row rk ver l) = .row rk ver l := (rfl)
@[go_sem] theorem aVi (m : MapC) : rJ n h (.map m) = .map m := (rfl)
@[go_sem] theorem aRS : rJ n h .dead = .dead := (rfl)
@[go_sem] theorem aVj (K : List AV → List AObj → Prop) : dC [] vs h K = K vs h := by cases vs <;> rfl
@[go_sem] theorem aRT (fs : List Bool) (K : List AV → List AObj → Prop) : dC fs [] h K = K [] h := by
 cases fs with
 | nil => rfl
 | cons f r => cases f <;> rfl
@[go_sem] theorem aPn (fs : List Bool) (v : AV) (K : List AV → List AObj → Prop) : dC (false :: fs) (v :: vs) h K = dC fs vs h fun us h' => K (v :: us) h' := (rfl)
@[go_sem] theorem aRU (fs : List Bool) (x : Bool) (id ver off len : Nat) (vs : List AV) (K : List AV → List AObj → Prop) : dC (true :: fs) (.sref x id ver off len :: vs) h K = dC fs vs h fun us h' => K (.sref x id ver off len :: us) h' := (rfl)
@[go_sem] theorem aRV (fs : List Bool) (l : Lst) (K : List AV → List AObj → Prop) : dC (true :: fs) (.sl true l :: vs) h K = (l.len = 0 ∧ dC fs vs (h ++ [.row .own 0 l]) fun us h' => K (.sref false h.length 0 0 0 :: us) h') := (rfl)
end vals

@[go_sem] theorem aYa (n : Nat) : ((no_index (OfNat.ofNat n) : Nat) : Int) = OfNat.ofNat n := (rfl)
attribute [go_sem] Bool.and_false Bool.false_and ite_self List.take_length false_imp_iff true_imp_iff not_true_eq_false decide_true decide_false List.length_replicate List.length_set Int.toNat_natCast Bool.and_self List.modify_zero_cons List.modify_succ_cons eq_self and_self implies_true List.getElem?_cons_zero List.getElem?_cons_succ List.set_cons_zero List.set_cons_succ List.cons_append List.nil_append List.append_nil List.length_cons List.length_nil List.take_succ_cons List.take_zero List.take_nil List.getD_cons_zero List.getD_cons_succ List.map_cons List.map_nil Option.bind_some Option.bind_none Option.map_some Option.map_none true_and and_true Nat.add_zero Nat.zero_add if_true if_false Bool.true_eq_false Bool.false_eq_true Bool.not_true Bool.not_false Bool.and_true Bool.true_and or_true true_or reduceCtorEq reduceIte List.drop_zero List.append_assoc decide_eq_true_eq decide_eq_false_iff_not Bool.not_eq_true' Bool.not_eq_false' ne_eq not_false_eq_true forall_const
end Lam
namespace Lam
open Go
@[go_sem] theorem aVk (f : FuncId) (vs : List AV) : mS [] f vs = none := (rfl)
@[go_sem] theorem aVl (f : FuncId) (Y : Con) (a : List AV) (h : List AObj) (K' : AOut → List AObj → Prop) : qL [] f Y a h K' = False := (rfl)
@[go_sem] theorem aRW (f g : FuncId) (C : Con → Con) (r : List (FuncId × (Con → Con))) : qL ((g, C) :: r) f = if f = g then C else qL r f := by
 by_cases h : f = g
 · subst h; simp [qL]
 · have : Nat.beq f g = false := by rw [Bool.eq_false_iff]; intro e; exact h (Nat.eq_of_beq_eq_true e)
   simp [qL, this, h]
@[go_sem] theorem aRX (g f : FuncId) (C : aE) (r : List (FuncId × aE)) : mS ((g, C) :: r) f = if f = g then C else mS r f := by
 by_cases h : f = g
 · subst h; simp [mS]
 · have : Nat.beq f g = false := by rw [Bool.eq_false_iff]; intro e; exact h (Nat.eq_of_beq_eq_true e)
   simp [mS, this, h]
@[go_sem] theorem aVm (f : FuncId) (vs : List AV) (h : List AObj) (K : AOut → List AObj → Prop) : oK [] f vs h K = False := (rfl)
@[go_sem] theorem aRY (g f : FuncId) (C : Con) (r : List (FuncId × Con)) : oK ((g, C) :: r) f = if f = g then C else oK r f := by
 by_cases h : f = g
 · subst h; simp [oK]
 · have : Nat.beq f g = false := by rw [Bool.eq_false_iff]; intro e; exact h (Nat.eq_of_beq_eq_true e)
   simp [oK, this, h]
theorem w64 {n : Int} (h1 : -9223372036854775808 ≤ n) (h2 : n < 9223372036854775808) : IntKind.i64.wrap n = n := by rw [IntKind.wrap_i64]; omega
theorem aGy (n : Int) : 0 ≤ IntKind.u8.wrap n ∧ IntKind.u8.wrap n < 256 := by simp [IntKind.wrap, IntKind.bits, IntKind.signed]; omega
theorem aKD (n : Int) : 0 ≤ IntKind.u64.wrap n ∧ IntKind.u64.wrap n < 18446744073709551616 := by simp [IntKind.wrap, IntKind.bits, IntKind.signed]; omega
theorem aAy {n : Int} (h1 : 0 ≤ n) (h2 : n < 18446744073709551616) : IntKind.u64.wrap n = n := by simp [IntKind.wrap, IntKind.bits, IntKind.signed]; omega
abbrev J2 := AV → AV → List AObj → Prop
@[congr] theorem aPo {α : Type} {A A' : α → Prop} {k : α} (e : ∀ J, A J = A' J) : aJ A k = aJ A' k := by unfold aJ; exact e k
theorem aA {α : Type} (A : α → Prop) (k : α) : aJ A k = A k := (rfl)
section
variable (p q : Bool) (S : Prop) (h : List AObj) (F : AV → List AObj → Prop)
@[go_sem] theorem aYb : aJ (fun J : J2 => aT (.bool p) true (J (.bool true) (.bool q) h) (J (.bool false) .und h)) (fun t v h' => runD (bK t v (.bool false)) h' F) = F (.bool (p && q)) h := by
 cases p <;> simp [aJ, aT, bK, pD, runD]
@[go_sem] theorem aRZ : aJ (fun J : J2 => aT (.bool p) true (S ∧ J (.bool true) (.bool q) h) (J (.bool false) .und h)) (fun t v h' => runD (bK t v (.bool false)) h' F) = ((p = true → S) ∧ F (.bool (p && q)) h) := by
 cases p <;> simp [aJ, aT, bK, pD, runD]
@[go_sem] theorem aZi : aJ (fun J : J2 => aT (.bool p) false (J (.bool false) (.bool q) h) (J (.bool true) .und h)) (fun t v h' => runD (bK t (.bool true) v) h' F) = F (.bool (p || q)) h := by
 cases p <;> simp [aJ, aT, bK, pD, runD]
@[go_sem] theorem aVn : aJ (fun J : J2 => aT (.bool p) false (S ∧ J (.bool false) (.bool q) h) (J (.bool true) .und h)) (fun t v h' => runD (bK t (.bool true) v) h' F) = ((p = false → S) ∧ F (.bool (p || q)) h) := by
 cases p <;> simp [aJ, aT, bK, pD, runD]
variable (S2 S3 S4 S5 : Prop)
@[go_sem] theorem aPp : aJ (fun J : J2 => aT (.bool p) true (S ∧ S2 ∧ J (.bool true) (.bool q) h) (J (.bool false) .und h)) (fun t v h' => runD (bK t v (.bool false)) h' F) = ((p = true → S ∧ S2) ∧ F (.bool (p && q)) h) := by
 cases p <;> simp [aJ, aT, bK, pD, runD, and_assoc]
@[go_sem] theorem aSa : aJ (fun J : J2 => aT (.bool p) false (S ∧ S2 ∧ J (.bool false) (.bool q) h) (J (.bool true) .und h)) (fun t v h' => runD (bK t (.bool true) v) h' F) = ((p = false → S ∧ S2) ∧ F (.bool (p || q)) h) := by
 cases p <;> simp [aJ, aT, bK, pD, runD, and_assoc]
@[go_sem] theorem aPq : aJ (fun J : J2 => aT (.bool p) true (S ∧ S2 ∧ S3 ∧ J (.bool true) (.bool q) h) (J (.bool false) .und h)) (fun t v h' => runD (bK t v (.bool false)) h' F) = ((p = true → S ∧ S2 ∧ S3) ∧ F (.bool (p && q)) h) := by
 cases p <;> simp [aJ, aT, bK, pD, runD, and_assoc]
@[go_sem] theorem aSb : aJ (fun J : J2 => aT (.bool p) false (S ∧ S2 ∧ S3 ∧ J (.bool false) (.bool q) h) (J (.bool true) .und h)) (fun t v h' => runD (bK t (.bool true) v) h' F) = ((p = false → S ∧ S2 ∧ S3) ∧ F (.bool (p || q)) h) := by
 cases p <;> simp [aJ, aT, bK, pD, runD, and_assoc]
@[go_sem] theorem aPr : aJ (fun J : J2 => aT (.bool p) true (S ∧ S2 ∧ S3 ∧ S4 ∧ J (.bool true) (.bool q) h) (J (.bool false) .und h)) (fun t v h' => runD (bK t v (.bool false)) h' F) = ((p = true → S ∧ S2 ∧ S3 ∧ S4) ∧ F (.bool (p && q)) h) := by
 cases p <;> simp [aJ, aT, bK, pD, runD, and_assoc]
@[go_sem] theorem aSc : aJ (fun J : J2 => aT (.bool p) false (S ∧ S2 ∧ S3 ∧ S4 ∧ J (.bool false) (.bool q) h) (J (.bool true) .und h)) (fun t v h' => runD (bK t (.bool true) v) h' F) = ((p = false → S ∧ S2 ∧ S3 ∧ S4) ∧ F (.bool (p || q)) h) := by
 cases p <;> simp [aJ, aT, bK, pD, runD, and_assoc]
@[go_sem] theorem aPs : aJ (fun J : J2 => aT (.bool p) true (S ∧ S2 ∧ S3 ∧ S4 ∧ S5 ∧ J (.bool true) (.bool q) h) (J (.bool false) .und h)) (fun t v h' => runD (bK t v (.bool false)) h' F) = ((p = true → S ∧ S2 ∧ S3 ∧ S4 ∧ S5) ∧ F (.bool (p && q)) h) := by
 cases p <;> simp [aJ, aT, bK, pD, runD, and_assoc]
@[go_sem] theorem aSd : aJ (fun J : J2 => aT (.bool p) false (S ∧ S2 ∧ S3 ∧ S4 ∧ S5 ∧ J (.bool false) (.bool q) h) (J (.bool true) .und h)) (fun t v h' => runD (bK t (.bool true) v) h' F) = ((p = false → S ∧ S2 ∧ S3 ∧ S4 ∧ S5) ∧ F (.bool (p || q)) h) := by
 cases p <;> simp [aJ, aT, bK, pD, runD, and_assoc]
end
theorem gQ {α : Type} (l : List α) (k : Nat) (d : α) (h : k < l.length) : l.take (k + 1) = l.take k ++ [l.getD k d] := by
 rw [List.take_add_one, List.getD_eq_getElem?_getD, List.getElem?_eq_getElem h]; rfl
theorem lK {α : Type} (l : List α) (k : Nat) (d : α) (h : k < l.length) : l.getD k d ∈ l := by
 rw [List.getD_eq_getElem?_getD, List.getElem?_eq_getElem h]; exact List.getElem_mem h
theorem aNR (n : Nat) : (n : Int).tdiv 16 = ((n / 16 : Nat) : Int) := rfl
theorem aMD (n : Nat) : (n : Int).tdiv 8 = ((n / 8 : Nat) : Int) := rfl
attribute [go_sem] Bool.true_or Bool.false_or Bool.or_false Bool.or_true Bool.and_false Bool.false_and beq_self_eq_true
theorem aSe {n : Int} (h : (Lit.int .u8 n).wf = true) : 0 ≤ n ∧ n < 256 := by
 simp [Lit.wf, IntKind.min, IntKind.max, IntKind.signed, IntKind.bits] at h; omega
theorem aSf {n : Int} (h : (Lit.int .i64 n).wf = true) : -9223372036854775808 ≤ n ∧ n < 9223372036854775808 := by
 simp [Lit.wf, IntKind.min, IntKind.max, IntKind.signed, IntKind.bits] at h; omega
end Lam
namespace Lam
open Go
section
variable {σ : Type}
abbrev LB := Nat → List AV → List AObj → Prop
theorem kV {B : LB → Nat → List AObj → AV → Prop} {lv : List AV} {h0 : List AObj} (V0 : σ → AV) (H : σ → List AObj) (M : σ → Nat) (Q : σ → Prop) (s0 : σ) (hv : lv = [V0 s0]) (hh : h0 = H s0) (q0 : Q s0)
   (step : ∀ (I : LB), (∀ {n : Nat} {lv : List AV} {h : List AObj} (s : σ), M s < n → lv = [V0 s] → h = H s → Q s → ∃ m, m < n ∧ I m lv h) → ∀ s, Q s → B I (M s) (H s) (V0 s)) : ∃ I : LB, (∃ n, I n lv h0) ∧ ∀ n h, ∀ t0, I n [t0] h → B I n h t0 := by
 refine ⟨fun m lv h => ∃ s, m = M s ∧ lv = [V0 s] ∧ h = H s ∧ Q s, ⟨_, s0, rfl, hv, hh, q0⟩, ?_⟩
 rintro n h t0 ⟨s, rfl, e, rfl, q⟩
 cases e
 exact step _ (fun s hm hv hh q => ⟨_, hm, s, rfl, hv, hh, q⟩) s q
theorem oL {B : LB → Nat → List AObj → AV → AV → Prop} {lv : List AV} {h0 : List AObj} (V0 V1 : σ → AV) (H : σ → List AObj) (M : σ → Nat) (Q : σ → Prop) (s0 : σ) (hv : lv = [V0 s0, V1 s0]) (hh : h0 = H s0) (q0 : Q s0)
   (step : ∀ (I : LB), (∀ {n : Nat} {lv : List AV} {h : List AObj} (s : σ), M s < n → lv = [V0 s, V1 s] → h = H s → Q s → ∃ m, m < n ∧ I m lv h) → ∀ s, Q s → B I (M s) (H s) (V0 s) (V1 s)) : ∃ I : LB, (∃ n, I n lv h0) ∧ ∀ n h, ∀ t0 t1, I n [t0, t1] h → B I n h t0 t1 := by
 refine ⟨fun m lv h => ∃ s, m = M s ∧ lv = [V0 s, V1 s] ∧ h = H s ∧ Q s, ⟨_, s0, rfl, hv, hh, q0⟩, ?_⟩
 rintro n h t0 t1 ⟨s, rfl, e, rfl, q⟩
 cases e
 exact step _ (fun s hm hv hh q => ⟨_, hm, s, rfl, hv, hh, q⟩) s q
theorem aSg {B : LB → Nat → List AObj → AV → AV → AV → AV → AV → Prop} {lv : List AV} {h0 : List AObj} (V0 V1 V2 V3 V4 : σ → AV) (H : σ → List AObj) (M : σ → Nat) (Q : σ → Prop) (s0 : σ) (hv : lv = [V0 s0, V1 s0, V2 s0, V3 s0, V4 s0]) (hh : h0 = H s0) (q0 : Q s0)
   (step : ∀ (I : LB), (∀ {n : Nat} {lv : List AV} {h : List AObj} (s : σ), M s < n → lv = [V0 s, V1 s, V2 s, V3 s, V4 s] → h = H s → Q s → ∃ m, m < n ∧ I m lv h) → ∀ s, Q s → B I (M s) (H s) (V0 s) (V1 s) (V2 s) (V3 s) (V4 s)) : ∃ I : LB, (∃ n, I n lv h0) ∧ ∀ n h, ∀ t0 t1 t2 t3 t4, I n [t0, t1, t2, t3, t4] h → B I n h t0 t1 t2 t3 t4 := by
 refine ⟨fun m lv h => ∃ s, m = M s ∧ lv = [V0 s, V1 s, V2 s, V3 s, V4 s] ∧ h = H s ∧ Q s, ⟨_, s0, rfl, hv, hh, q0⟩, ?_⟩
 rintro n h t0 t1 t2 t3 t4 ⟨s, rfl, e, rfl, q⟩
 cases e
 exact step _ (fun s hm hv hh q => ⟨_, hm, s, rfl, hv, hh, q⟩) s q
end
section
variable {A B : Prop}
theorem sR : aT (.bool true) true A B = A := by simp [oH]
theorem zA : aT (.bool true) false A B = B := by simp [oH]
theorem zB : aT (.bool false) true A B = B := by simp [oH]
theorem aCl : aT (.bool false) false A B = A := by simp [oH]
end
theorem eH {k : Nat} (h : k < 4611686018427387904) : IntKind.i64.wrap ((k : Int) + 1) = ((k + 1 : Nat) : Int) := by rw [w64 (by omega) (by omega)]; rfl
theorem wM {α : Type} (l : List α) (k : Nat) (d : α) (h : k < l.length) : l.drop k = l.getD k d :: l.drop (k + 1) := by
 rw [List.drop_eq_getElem_cons h, List.getD_eq_getElem?_getD, List.getElem?_eq_getElem h]; rfl
theorem aBt {α : Type} (a b : List α) (k : Nat) (d : α) (h : a.length ≤ k) : (a ++ b).getD k d = b.getD (k - a.length) d := by
 rw [List.getD_eq_getElem?_getD, List.getElem?_append_right h, List.getD_eq_getElem?_getD]
theorem qU {α : Type} (l : List α) {n : Nat} (h : l.length ≤ n) : l.take n = l := List.take_of_length_le h
theorem aSh {α : Type} (d : α) {a b : List α} (hl : a.length = b.length) (h : ∀ i, i < a.length → a.getD i d = b.getD i d) : a = b := by
 apply List.ext_getElem hl
 intro i h1 h2
 have := h i h1
 rw [List.getD_eq_getElem?_getD, List.getD_eq_getElem?_getD, List.getElem?_eq_getElem h1, List.getElem?_eq_getElem h2] at this
 exact this
theorem nM {α : Type} {A : α → Prop} {k : α} (h : ∀ k', k' = k → aJ A k') : aJ A k := h k rfl
theorem gq : (∀ A B : Prop, aT (.bool true) true A B = A) ∧ (∀ A B : Prop, aT (.bool true) false A B = B) ∧ (∀ A B : Prop, aT (.bool false) true A B = B) ∧ (∀ A B : Prop, aT (.bool false) false A B = A) ∧
   (∀ h : Decidable False, @decide False h = false) ∧ (∀ h : Decidable True, @decide True h = true) ∧ ((!false) = true) ∧ ((!true) = false) ∧ (∀ b : Bool, (!!b) = b) ∧ ((¬ True) = False) ∧ ((¬ False) = True) ∧ (∀ p : Prop, (True → p) = p) ∧ (∀ p : Prop, (False → p) = True) ∧
   (∀ p : Prop, (p ∧ True) = p) ∧ (∀ p : Prop, (True ∧ p) = p) ∧ (∀ b : Bool, (b && b) = b) ∧ (∀ b : Bool, (b || b) = b) ∧ (∀ b : Bool, (b && true) = b) ∧ (∀ b : Bool, (true && b) = b) ∧ ((false = true) = False) :=
 ⟨fun _ _ => sR, fun _ _ => zA, fun _ _ => zB, fun _ _ => aCl, decide_false, decide_true, Bool.not_false, Bool.not_true, Bool.not_not, not_true_eq_false, not_false_eq_true, fun _ => true_implies _, fun _ => false_implies _, and_true, true_and, Bool.and_self, Bool.or_self, Bool.and_true, Bool.true_and, Bool.false_eq_true⟩
end Lam
