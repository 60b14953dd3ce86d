/- Rules of the model for scopes and loops; states at a loop's head. -/
import Derived.Test.YtpjnljbfnppmlaaLR26
set_option linter.unnecessarySimpa false
set_option linter.unusedSectionVars false
set_option linter.unusedSimpArgs false
set_option linter.unusedVariables false
namespace Lam
open Go

section
variable {P : Program} {b : Frame} {a : Act} {k : List Item} {cs : List Frame} {w : World}
theorem stepR_scope {c : Code} : step P (lone (b.atR a (.code (.scope c) :: k)) cs w) = .next (lone (b.atR a (.code c :: .inScope c :: k)) cs w) :=
  step_lone_go (by simp [stepG, stepG.exec, Frame.atR])
theorem stepR_inScope {c : Code} : step P (lone (b.atR a (.inScope c :: k)) cs w) = .next (lone (b.atR a k) cs w) :=
  step_lone_go (by simp [stepG, stepG.exec, Frame.atR])
end

/-- a goto to a label of c goes there; all else as Q -/
def jumpS (c : Code) (J : Nat → Act → World → Prop) (Q : Exit → Act → World → Prop) : Exit → Act → World → Prop
  | .goto l, a, w => if (findLabel c l).isSome = true then J l a w else Q (.goto l) a w
  | e, a, w => Q e a w

def noGoto (Q : Exit → Act → World → Prop) : Exit → Act → World → Prop
  | .goto _, _, _ => False
  | e, a, w => Q e a w

section
variable {F : Fence} {n : Nat} {P : Program} {a : Act} {w : World} {Q : Exit → Act → World → Prop}

theorem wpIn_scope {c : Code} (J : Nat → Act → World → Prop) (first : c.wpIn F n P (jumpS c J Q) a w)
    (pass : ∀ l rest a w, findLabel c l = some rest → J l a w → rest.wpIn F n P (noGoto Q) a w) : (Code.scope c).wpIn F n P Q a w := by
  intro b k cs hro hb hr
  have h0 : (lone (b.atR a (.code (.scope c) :: k)) cs w).fenced P F := fenced_calm hb hr rfl
  obtain ⟨e, a₁, w₁, hq, harr⟩ := first b (.inScope c :: k) cs hro hb hr
  cases e with
  | normal => exact ⟨.normal, a₁, w₁, hq, .head h0 stepR_scope (StepsIn.trans harr (.one (fenced_calm hb hr rfl) stepR_inScope))⟩
  | exit id =>
    have hx : exitTo id (.inScope c :: k) = exitTo id k := by simp [exitTo]
    exact ⟨_, a₁, w₁, hq, fun k' hk => .head h0 stepR_scope (harr.1 k' (by rw [hx]; exact hk)),
      fun hr' hk => let ⟨k₁, h1, h2⟩ := harr.2 hr' (by rw [hx]; exact hk); ⟨k₁, h1, .head h0 stepR_scope h2⟩⟩
  | goto l =>
    cases hf : findLabel c l with
    | some rest =>
      have hx : gotoIn l (.inScope c :: k) = some (.code rest :: .inScope c :: k) := by simp [gotoIn, hf]
      simp only [jumpS, hf, Option.isSome_some, if_true] at hq
      have h1 := StepsIn.trans (.one h0 stepR_scope) (harr.1 _ hx)
      obtain ⟨e₂, a₂, w₂, hq₂, harr₂⟩ := pass l rest a₁ w₁ hf hq b (.inScope c :: k) cs hro hb hr
      cases e₂ with
      | normal => exact ⟨.normal, a₂, w₂, hq₂, StepsIn.trans h1 (StepsIn.trans harr₂ (.one (fenced_calm hb hr rfl) stepR_inScope))⟩
      | exit id =>
        have hx : exitTo id (.inScope c :: k) = exitTo id k := by simp [exitTo]
        exact ⟨_, a₂, w₂, hq₂, fun k' hk => StepsIn.trans h1 (harr₂.1 k' (by rw [hx]; exact hk)),
          fun hr' hk => let ⟨k₁, g1, g2⟩ := harr₂.2 hr' (by rw [hx]; exact hk); ⟨k₁, g1, StepsIn.trans h1 g2⟩⟩
      | goto l => exact hq₂.elim
      | ret => exact ⟨_, a₂, w₂, hq₂, .of_steps h1 harr₂⟩
      | panic ch => exact ⟨_, a₂, w₂, hq₂, .of_steps h1 harr₂⟩
      | outgrown => exact ⟨_, a₂, w₂, hq₂, .of_steps h1 harr₂⟩
    | none =>
      have hx : gotoIn l (.inScope c :: k) = gotoIn l k := by simp [gotoIn, hf]
      simp only [jumpS, hf, Option.isSome_none, Bool.false_eq_true, if_false] at hq
      exact ⟨_, a₁, w₁, hq, fun k' hk => .head h0 stepR_scope (harr.1 k' (by rw [hx]; exact hk)),
        fun hr' hk => let ⟨k₁, h1, h2⟩ := harr.2 hr' (by rw [hx]; exact hk); ⟨k₁, h1, .head h0 stepR_scope h2⟩⟩
  | ret => exact ⟨_, a₁, w₁, hq, .of_steps (.one h0 stepR_scope) harr⟩
  | panic ch => exact ⟨_, a₁, w₁, hq, .of_steps (.one h0 stepR_scope) harr⟩
  | outgrown => exact ⟨_, a₁, w₁, hq, .of_steps (.one h0 stepR_scope) harr⟩

theorem wpIn_loop_n {c : Code} (J : Nat → Act → World → Prop) (m₀ : Nat) (h₀ : J m₀ a w)
    (round : ∀ m a w, J m a w → c.wpIn F n P (Exit.then (fun a' w' => ∃ m', m' < m ∧ J m' a' w') Q) a w) : (Code.loop c).wpIn F n P Q a w := by
  intro b k cs hro hb hr
  have key : ∀ m a w, J m a w →
      ∃ e a' w', Q e a' w' ∧ ArrivesIn (Machine.fenced P F) P (lone (b.atR a (.code c :: .inLoop c :: k)) cs w) b k cs e a' w' := by
    intro m
    induction m using Nat.strongRecOn with
    | _ m ih =>
      intro a w hI
      obtain ⟨e, a₁, w₁, hq, harr⟩ := round m a w hI b (.inLoop c :: k) cs hro hb hr
      cases e with
      | normal =>
        obtain ⟨m', hlt, hI₁⟩ := hq
        obtain ⟨e₂, a₂, w₂, hq₂, harr₂⟩ := ih m' hlt a₁ w₁ hI₁
        exact ⟨e₂, a₂, w₂, hq₂, .of_steps (StepsIn.trans harr (.one (fenced_calm hb hr rfl) stepR_inLoop)) harr₂⟩
      | exit id => exact ⟨_, a₁, w₁, hq, .pass (x := .inLoop c) rfl (fun _ _ => .inl (by simp)) harr⟩
      | goto l => exact ⟨_, a₁, w₁, hq, .pass (x := .inLoop c) rfl (fun _ _ => .inl (by simp)) harr⟩
      | ret => exact ⟨_, a₁, w₁, hq, .pass (x := .inLoop c) rfl (fun _ _ => .inl (by simp)) harr⟩
      | panic ch => exact ⟨_, a₁, w₁, hq, .pass (x := .inLoop c) rfl (fun _ _ => .inl (by simp)) harr⟩
      | outgrown => exact ⟨_, a₁, w₁, hq, .pass (x := .inLoop c) rfl (fun _ _ => .inl (by simp)) harr⟩
  obtain ⟨e, a', w', hq, harr⟩ := key _ a w h₀
  exact ⟨e, a', w', hq, .of_steps (.one (fenced_calm hb hr rfl) stepR_loop) harr⟩
end

theorem hasLabel_eq (l : Nat) : ∀ (c : Code), hasLabel c l = (findLabel c l).isSome
  | .seq a b => by
    simp only [hasLabel, findLabel, hasLabel_eq l a, hasLabel_eq l b]
    cases findLabel a l <;> simp
  | .label l' => by
    simp only [hasLabel, findLabel]
    by_cases h : l' = l
    · subst h; simp
    · have : Nat.beq l' l = false := by rw [Bool.eq_false_iff]; intro e; exact h (Nat.eq_of_beq_eq_true e)
      simp [this, h]
  | .skip => rfl
  | .region _ _ _ => rfl
  | .cond _ _ _ => rfl
  | .block _ _ => rfl
  | .loop _ => rfl
  | .rangeFunc _ _ _ _ => rfl
  | .scope _ => rfl
  | .exit _ => rfl
  | .ret => rfl
  | .goto _ => rfl
  | .refuse _ => rfl

/-! ### Values of some temporaries -/
def TV (X : Cx) (a : Act) : List Nat → List AV → Prop
  | [], vs => vs = []
  | i :: L, vs => match vs with
    | [] => False
    | v :: r => VV X v (a.tmps.getD i undef) ∧ TV X a L r

section
variable {X Y : Cx} {a : Act} {n : Nat} {ds : Nat} {t : List (Nat × AV)}

theorem TV.ext (E : Ext X Y) : ∀ {L : List Nat} {vs : List AV}, TV X a L vs → TV Y a L vs
  | [], _, h => h
  | i :: L, [], h => h.elim
  | i :: L, v :: r, h => ⟨h.1.ext E, TV.ext E h.2⟩

theorem TV.len : ∀ {L : List Nat} {vs : List AV}, TV X a L vs → vs.length = L.length
  | [], _, h => by rw [show _ = [] from h]; rfl
  | i :: L, [], h => h.elim
  | i :: L, v :: r, h => by simp [TV.len h.2]

theorem TV.of_gets (R : SR n ds X t a) : ∀ (L : List Nat), TV X a L (gets t L)
  | [] => rfl
  | i :: L => ⟨R.v i, TV.of_gets R L⟩

theorem TV.norm (H : HR X) {m : Nat} : ∀ {L : List Nat} {vs : List AV}, TV X a L vs → TV (X.drop m) a L (AV.norms m X.h vs)
  | [], _, h => by rw [show _ = [] from h]; rfl
  | i :: L, [], h => h.elim
  | i :: L, v :: r, h => ⟨normV H h.1, TV.norm H h.2⟩

theorem TV.get {t : List (Nat × AV)} (ht : ∀ i, VV X (get t i) (a.tmps.getD i undef)) : ∀ {L : List Nat} {vs : List AV}, TV X a L vs → ∀ i, VV X (get (zipT L vs ++ t) i) (a.tmps.getD i undef)
  | [], _, h => by rw [show _ = [] from h]; exact ht
  | j :: L, [], h => h.elim
  | j :: L, v :: r, h => fun i => by
    simp only [zipT, List.cons_append]
    have : Lam.get ((j, v) :: (zipT L r ++ t)) i = Lam.get (put j v (zipT L r ++ t)) i := rfl
    rw [this, get_put]
    by_cases e : j = i
    · subst e; rw [if_pos rfl]; exact h.1
    · rw [if_neg e]; exact TV.get ht h.2 i

theorem SR.of_TV {L M : List Nat} {vs us : List AV} (h1 : TV X a L vs) (h2 : TV X a M us) (hs : n ≤ a.tmps.size) (hd : DefOk ds X a.defers) : SR n ds X (zipT L vs ++ zipT M us) a := by
  refine ⟨TV.get (fun i => ?_) h1, hs, hd⟩
  have := TV.get (t := []) (fun i => trivial) h2 i
  simpa using this

theorem forallV_inst : ∀ {L : List Nat} {P : List (Nat × AV) → List AV → Prop}, forallV L P → ∀ vs : List AV, vs.length = L.length → P (zipT L vs) vs
  | [], P, h, vs, hl => by
    have : vs = [] := List.eq_nil_of_length_eq_zero hl
    subst this; exact h
  | i :: L, P, h, [], hl => by simp at hl
  | i :: L, P, h, v :: r, hl => by
    have := forallV_inst (h v) r (by simpa using hl)
    exact this

/-- a new empty row -/
theorem prom_one (H : HR X) {l : Lst} {c : Value} (hl : l.len = 0) (h : SlV X true l c) :
    ∃ Y : Cx, Y.w = X.w ∧ HR Y ∧ Ext X Y ∧ Y.h = X.h ++ [.row .own 0 l] ∧ VV Y (.sref false X.h.length 0 0 0) c := by
  obtain ⟨ad, cap, rfl, h1, h2, h3, _⟩ := h
  have hc : cap = 0 := by rw [h2 rfl, hl]
  subst hc
  obtain ⟨H', E'⟩ := pad_ok H 1
  obtain ⟨Y, hw, hh, HY, EY, hv⟩ := none_good H' (s := X.h.length) (a := ad) (by rw [pad_h, if_neg (by omega), if_pos (by omega)]) hl
  refine ⟨Y, hw, HY, E'.trans EY, ?_, by rw [hl]; exact hv⟩
  rw [hh]
  have := place_pad (h := X.h) [AObj.row .own 0 l]
  simpa [place, Cx.pad] using this

theorem promV_sound : ∀ (fs : List Bool) (vs : List AV) {K : List AV → List AObj → Prop} {X : Cx} {L : List Nat}, HR X → TV X a L vs → promV fs vs X.h K →
    ∃ (Y : Cx) (us : List AV), Y.w = X.w ∧ HR Y ∧ Ext X Y ∧ TV Y a L us ∧ K us Y.h
  | [], vs, K, X, L, H, ht, hp => by
    have hp : K vs X.h := by cases vs <;> simpa [promV] using hp
    exact ⟨X, vs, rfl, H, Ext.refl X, ht, hp⟩
  | f :: fs, [], K, X, L, H, ht, hp => by
    have hp : K [] X.h := by cases f <;> simpa [promV] using hp
    exact ⟨X, [], rfl, H, Ext.refl X, ht, hp⟩
  | f :: fs, v :: vs, K, X, [], H, ht, hp => by cases ht
  | f :: fs, v :: vs, K, X, i :: L, H, ht, hp => by
    have plain : (promV fs vs X.h fun us h' => K (v :: us) h') → ∃ (Y : Cx) (us : List AV), Y.w = X.w ∧ HR Y ∧ Ext X Y ∧ TV Y a (i :: L) us ∧ K us Y.h := by
      intro hp
      obtain ⟨Y, us, h1, h2, h3, h4, h5⟩ := promV_sound fs vs H ht.2 hp
      exact ⟨Y, v :: us, h1, h2, h3, ⟨ht.1.ext h3, h4⟩, h5⟩
    cases f with
    | false => exact plain (by simpa [promV] using hp)
    | true =>
      have hp' := hp
      simp only [promV] at hp
      split at hp
      · rename_i l
        obtain ⟨hl, hp⟩ := hp
        obtain ⟨Y, hw, HY, EY, hh, hv⟩ := prom_one H hl ht.1
        rw [← hh] at hp
        obtain ⟨Z, us, h1, h2, h3, h4, h5⟩ := promV_sound fs vs HY (ht.2.ext EY) hp
        exact ⟨Z, _ :: us, by rw [h1, hw], h2, EY.trans h3, ⟨hv.ext h3, h4⟩, h5⟩
      · exact plain hp
end

end Lam
