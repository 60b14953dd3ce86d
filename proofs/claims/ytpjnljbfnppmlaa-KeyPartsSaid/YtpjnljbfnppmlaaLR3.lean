/- Steps between contexts: an object that is made, or changed; what an operation comes to. -/
import Derived.Test.YtpjnljbfnppmlaaLR2
import Derived.OrdersIn
import Derived.ScopeJumps
set_option linter.unusedVariables false
set_option linter.unnecessarySimpa false
set_option linter.unusedSectionVars false
set_option linter.unusedSimpArgs false
namespace Lam
open Go

abbrev FW (ro : Option Nat) : Fence := { Fence.wide with round := ro }

/-- an operation comes to a value, in a world -/
def OpTo (ro : Option Nat) (P : Program) (o : Oper) (a : Act) (w : World) (R : Value → World → Prop) : Prop :=
  ∀ (n : Nat) (next : Act → World → Prop) (Q : Exit → Act → World → Prop), (∀ c w', R c w' → next (a.put o.dst c) w') → o.wpIn (FW ro) n P a w next Q

section
variable {ro : Option Nat} {P : Program} {o : Oper} {a : Act} {w w' : World} {R R' : Value → World → Prop}

theorem OpTo.mono (h : OpTo ro P o a w R) (hr : ∀ c w', R c w' → R' c w') : OpTo ro P o a w R' := fun n next Q hn => h n next Q fun c w' hc => hn c w' (hr _ _ hc)

theorem OpTo.value {c : Value} (hd : ∀ c, o.op ≠ .defer c) (h : (execOp a.eval o).run P w = .ok (.value c) w') (hR : R c w') : OpTo ro P o a w R := by
  intro n next Q hn
  refine ⟨fun _ _ => trivial, ?_⟩
  rw [Oper.semAt_eq _ _ _ hd, h]
  exact hn _ _ hR

theorem OpTo.skip (hd : ∀ c, o.op ≠ .defer c) (h : (execOp a.eval o).run P w = .ok .skip w') (hR : R undef w') : OpTo ro P o a w R := by
  intro n next Q hn
  refine ⟨fun _ _ => trivial, ?_⟩
  rw [Oper.semAt_eq _ _ _ hd, h]
  exact hn _ _ hR

theorem calls_In {n : Nat} {f : FuncId} {args : Array Value} {R : Ending → World → Prop} (h : Calls P f args w R) : CallsIn (FW ro) n P f args w R :=
  callsIn_wide.2 h

theorem OpTo.enter {f : FuncId} {args : Array Value} (hd : ∀ c, o.op ≠ .defer c) (h : (execOp a.eval o).run P w = .ok (.enter f args) w')
    (hc : Calls P f args w' fun e w'' => match e with | .returned v => R v w'' | _ => False) : OpTo ro P o a w R := by
  intro n next Q hn
  refine ⟨fun _ _ => trivial, ?_⟩
  rw [Oper.semAt_eq _ _ _ hd, h]
  refine ⟨fun h => (by cases h), CallsIn.mono (calls_In hc) fun e w'' he => ?_⟩
  cases e with
  | returned v => exact hn _ _ he
  | panicked c => exact he.elim
  | outgrown => exact he.elim

theorem OpTo.get (h : OpTo ro P o a w R) : ∃ c w', R c w' := by
  have hw := h 0 (fun _ _ => ∃ c w', R c w') (fun _ _ _ => False) (fun c w' hc => ⟨c, w', hc⟩)
  have hw := hw.2
  generalize (o.semAt (FW ro).round a.eval).run P w = r at hw
  cases r with
  | halt x w' => cases x <;> exact hw.elim
  | ok x w' =>
    cases x <;> simp only [Oper.uponIn] at hw <;> try exact hw
    · obtain ⟨_, _, hw⟩ := hw
      obtain ⟨e, w'', fr, hR, _⟩ := hw [] (room_wide _)
      cases e with
      | returned v => exact hR
      | panicked c => exact hR.elim
      | outgrown => obtain ⟨_, _, h⟩ := hR; exact h.elim
    · obtain ⟨_, _, hw⟩ := hw
      obtain ⟨e, w'', hR, _⟩ := hw default [] (room_wide _)
      cases e with
      | returned v => exact hR
      | panicked c => exact hR.elim
      | outgrown => obtain ⟨_, _, h⟩ := hR; exact h.elim
    · obtain ⟨_, hw⟩ := hw
      obtain ⟨v, w'', hR, _⟩ := hw default [] (room_wide _)
      exact hR
end

/-! ### An object is made, or changed -/
structure Upd (X Y : Cx) (id : Nat) (o o' : AObj) (b b' : Option Nat) : Prop where
  S : Y.S = X.S
  hh : Y.h = X.h.set id o'
  mu : Y.μ = X.μ.set id b'
  ho : X.h[id]? = some o
  hb : X.μ[id]? = some b
  heap : ∀ k, k < X.w.heap.size → some k ≠ b → Y.w.heap[k]? = X.w.heap[k]?
  grow : X.w.heap.size ≤ Y.w.heap.size
  blk : (b' = b) ∨ ∃ k, b' = some k ∧ X.w.heap.size ≤ k ∧ k < Y.w.heap.size
  own : ∀ k, b = some k → ¬ X.S k
  row : ∀ k ver l, rowO (some o) = some (k, ver, l) → ∃ ver' l', rowO (some o') = some (k, ver', l') ∧ ver ≤ ver' ∧
    (ver = ver' → l'.len = l.len ∧ l'.kind = l.kind ∧ b' = b ∧ ∀ x, b = some x → blockSize X.w x ≤ blockSize Y.w x) ∧ (k ≠ .own → ver = ver')
  oth : rowO (some o) = none → b = none ∨ (rowO (some o') = none ∧ b' = b)
  env : SameEnv X.w Y.w

theorem OR.extV {X Y : Cx} (E : ExtV X Y) {b : Option Nat} {o : AObj} (hb : ∀ k, b = some k → Y.w.heap[k]? = X.w.heap[k]?) (h : OR X b o) : OR Y b o := by
  cases o with
  | box v =>
    obtain ⟨b', cs, elem, rfl, h1, h2⟩ := h
    exact ⟨b', cs, elem, rfl, by rw [hb _ rfl]; exact h1, VC.extV E h2⟩
  | row k ver l =>
    rcases h with h | ⟨b', cs, elem, rfl, h1, h2, h3⟩
    · exact .inl h
    · exact .inr ⟨b', cs, elem, rfl, by rw [hb _ rfl]; exact h1, h2, fun hk => E.S _ (h3 hk)⟩
  | map m =>
    obtain ⟨b', es, ck, rfl, h1, h2⟩ := h
    exact ⟨b', es, ck, rfl, by rw [hb _ rfl]; exact h1, h2⟩
  | lp st pd r =>
    obtain ⟨b', rfl, h1⟩ := h
    exact ⟨b', rfl, by rw [hb _ rfl]; exact h1⟩
  | dead => exact h

theorem OR.ext {X Y : Cx} (E : Ext X Y) {b : Option Nat} {o : AObj} (hb : ∀ k, b = some k → Y.w.heap[k]? = X.w.heap[k]?) (h : OR X b o) : OR Y b o := OR.extV E.v hb h

theorem Upd.ext {X Y : Cx} {id : Nat} {o o' : AObj} {b b' : Option Nat} (U : Upd X Y id o o' b b') (H : HR X) : Ext X Y where
  S k hk := by rw [U.S]; exact hk
  cells k hk := U.heap k (H.old k hk) fun e => U.own k e.symm hk
  new k hk := .inl (by rw [U.S] at hk; exact hk)
  env := U.env
  muinv i k hk := by
    rw [U.mu, List.getElem?_set] at hk
    by_cases e : id = i
    · subst e
      simp only [if_true] at hk
      split at hk
      · cases hk
        rcases U.blk with h | ⟨k', h, h1, _⟩
        · left; rw [U.hb, h]
        · cases h; exact .inr h1
      · cases hk
    · simp only [e, if_false] at hk; exact .inl hk
  keep k hk hn := U.heap k hk fun e => hn id (by rw [U.hb, e])
  grow := U.grow
  row i r ver l hl := by
    by_cases e : id = i
    · subst e
      rw [U.ho] at hl
      obtain ⟨ver', l', h1, h2, h3, h4⟩ := U.row r ver l hl
      have hlt : id < X.h.length := (List.getElem?_eq_some_iff.1 U.ho).1
      have hlm : id < X.μ.length := (List.getElem?_eq_some_iff.1 U.hb).1
      refine ⟨r, ver', l', ?_, h2, fun e => ?_, fun hr => ⟨hr, h4 hr⟩⟩
      · rw [U.hh, List.getElem?_set]; simp [hlt, h1]
      · obtain ⟨a1, a2, a3, a4⟩ := h3 e
        refine ⟨a1, a2, fun x hx => ?_⟩
        rw [U.hb] at hx; cases hx
        refine ⟨?_, a4 x rfl⟩
        rw [U.mu, List.getElem?_set]; simp [hlm, a3]
    · refine ⟨r, ver, l, ?_, Nat.le_refl _, fun _ => ⟨rfl, rfl, fun x hx => ⟨?_, ?_⟩⟩, fun hr => ⟨hr, rfl⟩⟩
      · rw [U.hh, List.getElem?_set]; simpa [e] using hl
      · rw [U.mu, List.getElem?_set]; simpa [e] using hx
      · have : Y.w.heap[x]? = X.w.heap[x]? := U.heap x (H.live _ _ hx).1 fun h => e (H.apart _ _ _ (by rw [U.hb, h]) hx)
        unfold blockSize; rw [this]; exact Nat.le_refl _
  oth i x hn hx := by
    by_cases e : id = i
    · subst e
      rw [U.ho] at hn
      have hlt : id < X.h.length := (List.getElem?_eq_some_iff.1 U.ho).1
      have hlm : id < X.μ.length := (List.getElem?_eq_some_iff.1 U.hb).1
      rw [U.hb] at hx; cases hx
      rcases U.oth hn with h | ⟨h1, h2⟩
      · cases h
      · refine ⟨?_, ?_⟩
        · rw [U.mu, List.getElem?_set]; simp [hlm, h2]
        · rw [U.hh, List.getElem?_set]; simp [hlt, h1]
    · refine ⟨?_, ?_⟩
      · rw [U.mu, List.getElem?_set]; simpa [e] using hx
      · rw [U.hh, List.getElem?_set]; simpa [e] using hn

theorem Upd.hr {X Y : Cx} {id : Nat} {o o' : AObj} {b b' : Option Nat} (U : Upd X Y id o o' b b') (H : HR X) (hO : Ext X Y → OR Y b' o') : HR Y := by
  have E := U.ext H
  have hlt : id < X.h.length := (List.getElem?_eq_some_iff.1 U.ho).1
  have hlm : id < X.μ.length := (List.getElem?_eq_some_iff.1 U.hb).1
  have hμ : ∀ i, Y.μ[i]? = if id = i then some b' else X.μ[i]? := fun i => by
    rw [U.mu, List.getElem?_set]; by_cases e : id = i <;> simp [e]
    subst e; exact hlm
  have hh : ∀ i, Y.h[i]? = if id = i then some o' else X.h[i]? := fun i => by
    rw [U.hh, List.getElem?_set]; by_cases e : id = i <;> simp [e]
    subst e; exact hlt
  have hnew : ∀ i k, X.μ[i]? = some (some k) → b' = some k → i ≠ id → False := fun i k h1 h2 h3 => by
    rcases U.blk with h | ⟨k', h, h4, _⟩
    · exact h3 (H.apart _ _ _ h1 (by rw [U.hb, ← h, h2]))
    · rw [h2] at h; cases h; have := (H.live _ _ h1).1; omega
  refine ⟨?_, ?_, ?_, ?_, ?_⟩
  · rw [U.mu, U.hh]; simp [H.len]
  · intro i q hq
    rw [hh] at hq; rw [hμ]
    by_cases e : id = i
    · simp only [e, if_true] at hq ⊢; cases hq; exact ⟨b', rfl, hO E⟩
    · simp only [e, if_false] at hq ⊢
      obtain ⟨x, hx, hor⟩ := H.obj i q hq
      refine ⟨x, hx, hor.ext E fun k hk => ?_⟩
      subst hk
      exact U.heap k (H.live _ _ hx).1 fun h => e (H.apart _ _ _ (by rw [U.hb, h]) hx)
  · intro i j k h1 h2
    rw [hμ] at h1 h2
    by_cases e1 : id = i
    · rw [if_pos e1] at h1
      by_cases e2 : id = j
      · rw [← e1, ← e2]
      · rw [if_neg e2] at h2; cases h1; exact (hnew j k h2 rfl (Ne.symm e2)).elim
    · rw [if_neg e1] at h1
      by_cases e2 : id = j
      · rw [if_pos e2] at h2; cases h2; exact (hnew i k h1 rfl (Ne.symm e1)).elim
      · rw [if_neg e2] at h2; exact H.apart _ _ _ h1 h2
  · intro i k hk
    rw [hμ] at hk
    by_cases e : id = i
    · subst e
      simp only [if_true] at hk; cases hk
      rcases U.blk with h | ⟨k', h, h4, h5⟩
      · refine ⟨Nat.lt_of_lt_of_le (H.live _ _ (by rw [U.hb, ← h])).1 U.grow, fun hs => ?_⟩
        rw [U.S] at hs
        exact (U.own k h.symm hs).elim
      · cases h
        refine ⟨h5, fun hs => ?_⟩
        rw [U.S] at hs
        have := H.old _ hs
        omega
    · simp only [e, if_false] at hk
      have := H.live _ _ hk
      refine ⟨Nat.lt_of_lt_of_le this.1 U.grow, fun hs => ?_⟩
      rw [U.S] at hs
      obtain ⟨ver, l, h1⟩ := this.2 hs
      exact ⟨ver, l, by rw [hh]; simp [e, h1]⟩
  · intro k hk
    rw [U.S] at hk
    exact Nat.lt_of_lt_of_le (H.old _ hk) U.grow

/-- what a step comes to -/
def Good (X : Cx) (h' : List AObj) (v : AV) (c : Value) (w' : World) : Prop := ∃ Y : Cx, Y.w = w' ∧ Y.h = h' ∧ HR Y ∧ Ext X Y ∧ VV Y v c

theorem Good.same {X : Cx} {v : AV} {c : Value} {w' : World} (H : HR X) (hw : w' = X.w) (h : VV X v c) : Good X X.h v c w' := ⟨X, hw.symm, rfl, H, Ext.refl X, h⟩

end Lam
