/- What functions of the program come to, each proved from its code. -/
import Derived.Test.YtmbmfnmjjelmkabGreatLm2
import Derived.OrdersIn
import Derived.RangeFuncRecord
import Derived.Below
import Derived.WalkKit
import Derived.ProofKit
import Derived.OpenShut
import Derived.ChangeArms
import Derived.DataReads
import Derived.Recover
set_option linter.unusedVariables false
set_option linter.unusedSimpArgs false
set_option linter.unnecessarySimpa false
set_option linter.unusedSectionVars false
open Nat (reduceEqDiff reduceAdd reduceSub reduceLeDiff)
open Int (reduceToNat reduceEq reduceLE reduceLT)
open List (reduceReplicate)
set_option maxRecDepth 20000
namespace Lam
open Go

section
variable {P : Program} {b : Frame} {a : Act} {k : List Item} {cs : List Frame} {w : World}
theorem jU {c : Code} : step P (lone (b.atR a (.code (.scope c) :: k)) cs w) = .next (lone (b.atR a (.code c :: .inScope c :: k)) cs w) :=
  step_lone_go (by simp [stepG, stepG.exec, Frame.atR])
theorem yD {c : Code} : step P (lone (b.atR a (.inScope c :: k)) cs w) = .next (lone (b.atR a k) cs w) :=
  step_lone_go (by simp [stepG, stepG.exec, Frame.atR])
end

def aEB (c : Code) (J : Nat → Act → World → Prop) (Q : Exit → Act → World → Prop) : Exit → Act → World → Prop
  | .goto l, a, w => if (findLabel c l).isSome = true then J l a w else Q (.goto l) a w
  | e, a, w => Q e a w

def aMz (Q : Exit → Act → World → Prop) : Exit → Act → World → Prop
  | .goto _, _, _ => False
  | e, a, w => Q e a w

section
variable {F : Fence} {n : Nat} {P : Program} {a : Act} {w : World} {Q : Exit → Act → World → Prop}

theorem aHW {c : Code} (J : Nat → Act → World → Prop) (first : c.wpIn F n P (aEB c J Q) a w)
    (pass : ∀ l rest a w, findLabel c l = some rest → J l a w → rest.wpIn F n P (aMz Q) a w) : (Code.scope c).wpIn F n P Q a w := by
  intro b k cs hro hb hr
  have h0 : (lone (b.atR a (.code (.scope c) :: k)) cs w).fenced P F := fenced_calm hb hr rfl
  obtain ⟨e, a₁, w₁, hq, harr⟩ := first b (.inScope c :: k) cs hro hb hr
  cases e with
  | normal => exact ⟨.normal, a₁, w₁, hq, .head h0 jU (StepsIn.trans harr (.one (fenced_calm hb hr rfl) yD))⟩
  | exit id =>
    have hx : exitTo id (.inScope c :: k) = exitTo id k := by simp [exitTo]
    exact ⟨_, a₁, w₁, hq, fun k' hk => .head h0 jU (harr.1 k' (by rw [hx]; exact hk)),
      fun hr' hk => let ⟨k₁, h1, h2⟩ := harr.2 hr' (by rw [hx]; exact hk); ⟨k₁, h1, .head h0 jU h2⟩⟩
  | goto l =>
    cases hf : findLabel c l with
    | some rest =>
      have hx : gotoIn l (.inScope c :: k) = some (.code rest :: .inScope c :: k) := by simp [gotoIn, hf]
      simp only [aEB, hf, Option.isSome_some, if_true] at hq
      have h1 := StepsIn.trans (.one h0 jU) (harr.1 _ hx)
      obtain ⟨e₂, a₂, w₂, hq₂, harr₂⟩ := pass l rest a₁ w₁ hf hq b (.inScope c :: k) cs hro hb hr
      cases e₂ with
      | normal => exact ⟨.normal, a₂, w₂, hq₂, StepsIn.trans h1 (StepsIn.trans harr₂ (.one (fenced_calm hb hr rfl) yD))⟩
      | exit id =>
        have hx : exitTo id (.inScope c :: k) = exitTo id k := by simp [exitTo]
        exact ⟨_, a₂, w₂, hq₂, fun k' hk => StepsIn.trans h1 (harr₂.1 k' (by rw [hx]; exact hk)),
          fun hr' hk => let ⟨k₁, g1, g2⟩ := harr₂.2 hr' (by rw [hx]; exact hk); ⟨k₁, g1, StepsIn.trans h1 g2⟩⟩
      | goto l => exact hq₂.elim
      | ret => exact ⟨_, a₂, w₂, hq₂, .of_steps h1 harr₂⟩
      | panic ch => exact ⟨_, a₂, w₂, hq₂, .of_steps h1 harr₂⟩
      | outgrown => exact ⟨_, a₂, w₂, hq₂, .of_steps h1 harr₂⟩
    | none =>
      have hx : gotoIn l (.inScope c :: k) = gotoIn l k := by simp [gotoIn, hf]
      simp only [aEB, hf, Option.isSome_none, Bool.false_eq_true, if_false] at hq
      exact ⟨_, a₁, w₁, hq, fun k' hk => .head h0 jU (harr.1 k' (by rw [hx]; exact hk)),
        fun hr' hk => let ⟨k₁, h1, h2⟩ := harr.2 hr' (by rw [hx]; exact hk); ⟨k₁, h1, .head h0 jU h2⟩⟩
  | ret => exact ⟨_, a₁, w₁, hq, .of_steps (.one h0 jU) harr⟩
  | panic ch => exact ⟨_, a₁, w₁, hq, .of_steps (.one h0 jU) harr⟩
  | outgrown => exact ⟨_, a₁, w₁, hq, .of_steps (.one h0 jU) harr⟩

theorem aAM {c : Code} (J : Nat → Act → World → Prop) (m₀ : Nat) (h₀ : J m₀ a w)
    (round : ∀ m a w, J m a w → c.wpIn F n P (Exit.then (fun a' w' => ∃ m', m' < m ∧ J m' a' w') Q) a w) : (Code.loop c).wpIn F n P Q a w := by
  intro b k cs hro hb hr
  have key : ∀ m a w, J m a w →
      ∃ e a' w', Q e a' w' ∧ ArrivesIn (Machine.fenced P F) P (lone (b.atR a (.code c :: .inLoop c :: k)) cs w) b k cs e a' w' := by
    intro m
    induction m using Nat.strongRecOn with
    | _ m ih =>
      intro a w hI
      obtain ⟨e, a₁, w₁, hq, harr⟩ := round m a w hI b (.inLoop c :: k) cs hro hb hr
      cases e with
      | normal =>
        obtain ⟨m', hlt, hI₁⟩ := hq
        obtain ⟨e₂, a₂, w₂, hq₂, harr₂⟩ := ih m' hlt a₁ w₁ hI₁
        exact ⟨e₂, a₂, w₂, hq₂, .of_steps (StepsIn.trans harr (.one (fenced_calm hb hr rfl) stepR_inLoop)) harr₂⟩
      | exit id => exact ⟨_, a₁, w₁, hq, .pass (x := .inLoop c) rfl (fun _ _ => .inl (by simp)) harr⟩
      | goto l => exact ⟨_, a₁, w₁, hq, .pass (x := .inLoop c) rfl (fun _ _ => .inl (by simp)) harr⟩
      | ret => exact ⟨_, a₁, w₁, hq, .pass (x := .inLoop c) rfl (fun _ _ => .inl (by simp)) harr⟩
      | panic ch => exact ⟨_, a₁, w₁, hq, .pass (x := .inLoop c) rfl (fun _ _ => .inl (by simp)) harr⟩
      | outgrown => exact ⟨_, a₁, w₁, hq, .pass (x := .inLoop c) rfl (fun _ _ => .inl (by simp)) harr⟩
  obtain ⟨e, a', w', hq, harr⟩ := key _ a w h₀
  exact ⟨e, a', w', hq, .of_steps (.one (fenced_calm hb hr rfl) stepR_loop) harr⟩
end

theorem rH (l : Nat) : ∀ (c : Code), pA c l = (findLabel c l).isSome
  | .seq a b => by
    simp only [pA, findLabel, rH l a, rH l b]
    cases findLabel a l <;> simp
  | .label l' => by
    simp only [pA, findLabel]
    by_cases h : l' = l
    · subst h; simp
    · have : Nat.beq l' l = false := by rw [Bool.eq_false_iff]; intro e; exact h (Nat.eq_of_beq_eq_true e)
      simp [this, h]
  | .skip => rfl
  | .region _ _ _ => rfl
  | .cond _ _ _ => rfl
  | .block _ _ => rfl
  | .loop _ => rfl
  | .rangeFunc _ _ _ _ => rfl
  | .scope _ => rfl
  | .exit _ => rfl
  | .ret => rfl
  | .goto _ => rfl
  | .refuse _ => rfl

/-! ### Values of some temporaries -/
def TV (X : Cx) (a : Act) : List Nat → List AV → Prop
  | [], vs => vs = []
  | i :: L, vs => match vs with
    | [] => False
    | v :: r => VV X v (a.tmps.getD i undef) ∧ TV X a L r

section
variable {X Y : Cx} {a : Act} {n : Nat} {ds : DB} {t : List (Nat × AV)}

theorem TV.ext (E : Ext X Y) : ∀ {L : List Nat} {vs : List AV}, TV X a L vs → TV Y a L vs
  | [], _, h => h
  | i :: L, [], h => h.elim
  | i :: L, v :: r, h => ⟨h.1.ext E, TV.ext E h.2⟩

theorem TV.len : ∀ {L : List Nat} {vs : List AV}, TV X a L vs → vs.length = L.length
  | [], _, h => by rw [show _ = [] from h]; rfl
  | i :: L, [], h => h.elim
  | i :: L, v :: r, h => by simp [TV.len h.2]

theorem TV.of_gets (R : SR n ds X t a) : ∀ (L : List Nat), TV X a L (gets t L)
  | [] => rfl
  | i :: L => ⟨R.v i, TV.of_gets R L⟩

theorem TV.norm (H : HR X) {m : Nat} : ∀ {L : List Nat} {vs : List AV}, TV X a L vs → TV (X.drop m) a L (AV.norms m X.h vs)
  | [], _, h => by rw [show _ = [] from h]; rfl
  | i :: L, [], h => h.elim
  | i :: L, v :: r, h => ⟨aCl H h.1, TV.norm H h.2⟩

theorem TV.get {t : List (Nat × AV)} (ht : ∀ i, VV X (get t i) (a.tmps.getD i undef)) : ∀ {L : List Nat} {vs : List AV}, TV X a L vs → ∀ i, VV X (get (zipT L vs ++ t) i) (a.tmps.getD i undef)
  | [], _, h => by rw [show _ = [] from h]; exact ht
  | j :: L, [], h => h.elim
  | j :: L, v :: r, h => fun i => by
    simp only [zipT, List.cons_append]
    have : Lam.get ((j, v) :: (zipT L r ++ t)) i = Lam.get (put j v (zipT L r ++ t)) i := rfl
    rw [this, jS]
    by_cases e : j = i
    · subst e; rw [if_pos rfl]; exact h.1
    · rw [if_neg e]; exact TV.get ht h.2 i

theorem SR.of_TV {L M : List Nat} {vs us : List AV} (h1 : TV X a L vs) (h2 : TV X a M us) (hs : n ≤ a.tmps.size) (hd : kO ds X a.defers) : SR n ds X (zipT L vs ++ zipT M us) a := by
  refine ⟨TV.get (fun i => ?_) h1, hs, hd⟩
  have := TV.get (t := []) (fun i => trivial) h2 i
  simpa using this

theorem SR.of_TV3 {L M N : List Nat} {vs us ws : List AV} (h1 : TV X a L vs) (h2 : TV X a M us) (h3 : TV X a N ws) (hs : n ≤ a.tmps.size) (hd : kO ds X a.defers) : SR n ds X (zipT L vs ++ (zipT M us ++ zipT N ws)) a := by
  refine ⟨TV.get (TV.get (fun i => ?_) h2) h1, hs, hd⟩
  have := TV.get (t := []) (fun i => trivial) h3 i
  rwa [List.append_nil] at this

theorem TV.closed (hS : ∀ b, X.S b → Y.S b) (hw : ∀ b, X.S b → Y.w.heap[b]? = X.w.heap[b]?) : ∀ {L : List Nat} {vs : List AV}, AV.closeds vs = true → TV X a L vs → TV Y a L vs
  | [], [], _, h => h
  | i :: L, v :: r, hc, h => by
    simp only [AV.closeds, Bool.and_eq_true] at hc
    exact ⟨iK hS hw hc.1 h.1, TV.closed hS hw hc.2 h.2⟩

theorem tU : ∀ {L : List Nat} {P : List (Nat × AV) → List AV → Prop}, aCQ L P → ∀ vs : List AV, vs.length = L.length → P (zipT L vs) vs
  | [], P, h, vs, hl => by
    have : vs = [] := List.eq_nil_of_length_eq_zero hl
    subst this; exact h
  | i :: L, P, h, [], hl => by simp at hl
  | i :: L, P, h, v :: r, hl => by
    have := tU (h v) r (by simpa using hl)
    exact this

theorem aBp (H : HR X) {l : Lst} {c : Value} (hl : l.len = 0) (h : SlV X true l c) :
    ∃ Y : Cx, Y.w = X.w ∧ HR Y ∧ Ext X Y ∧ Y.h = X.h ++ [.row .own 0 l] ∧ VV Y (.sref false X.h.length 0 0 0) c := by
  obtain ⟨ad, cap, rfl, h1, h2, h3, _⟩ := h
  have hc : cap = 0 := by rw [h2 rfl, hl]
  subst hc
  obtain ⟨H', E'⟩ := tT H 1
  obtain ⟨Y, hw, hh, HY, EY, hv⟩ := aDy H' (s := X.h.length) (a := ad) (by rw [rG, if_neg (by omega), if_pos (by omega)]) hl
  refine ⟨Y, hw, HY, E'.trans EY, ?_, by rw [hl]; exact hv⟩
  rw [hh]
  have := uL (h := X.h) [AObj.row .own 0 l]
  simpa [eA, Cx.pad] using this

theorem vG : ∀ (fs : List Bool) (vs : List AV) {K : List AV → List AObj → Prop} {X : Cx} {L : List Nat}, HR X → TV X a L vs → dE fs vs X.h K →
    ∃ (Y : Cx) (us : List AV), Y.w = X.w ∧ HR Y ∧ Ext X Y ∧ TV Y a L us ∧ K us Y.h
  | [], vs, K, X, L, H, ht, hp => by
    have hp : K vs X.h := by cases vs <;> simpa [dE] using hp
    exact ⟨X, vs, rfl, H, Ext.refl X, ht, hp⟩
  | f :: fs, [], K, X, L, H, ht, hp => by
    have hp : K [] X.h := by cases f <;> simpa [dE] using hp
    exact ⟨X, [], rfl, H, Ext.refl X, ht, hp⟩
  | f :: fs, v :: vs, K, X, [], H, ht, hp => by cases ht
  | f :: fs, v :: vs, K, X, i :: L, H, ht, hp => by
    have plain : (dE fs vs X.h fun us h' => K (v :: us) h') → ∃ (Y : Cx) (us : List AV), Y.w = X.w ∧ HR Y ∧ Ext X Y ∧ TV Y a (i :: L) us ∧ K us Y.h := by
      intro hp
      obtain ⟨Y, us, h1, h2, h3, h4, h5⟩ := vG fs vs H ht.2 hp
      exact ⟨Y, v :: us, h1, h2, h3, ⟨ht.1.ext h3, h4⟩, h5⟩
    cases f with
    | false => exact plain (by simpa [dE] using hp)
    | true =>
      have hp' := hp
      simp only [dE] at hp
      split at hp
      · rename_i l
        obtain ⟨hl, hp⟩ := hp
        obtain ⟨Y, hw, HY, EY, hh, hv⟩ := aBp H hl ht.1
        rw [← hh] at hp
        obtain ⟨Z, us, h1, h2, h3, h4, h5⟩ := vG fs vs HY (ht.2.ext EY) hp
        exact ⟨Z, _ :: us, by rw [h1, hw], h2, EY.trans h3, ⟨hv.ext h3, h4⟩, h5⟩
      · exact plain hp
end

end Lam
namespace Lam
open Go

/-! ### What an operation writes and reads -/
theorem rU {x : D} {S : Prop} {v : AV} {news : List AObj} {mm : Option (Nat × AObj)} (h : ofD x = some (S, v, news, mm)) : mm = none := (gZ h).2

theorem aJu {d : TyD} {h : List AObj} {a v : AV} {S : Prop} {id : Nat} {o : AObj} (e : aQ d h a v = some (S, id, o)) : id ∈ a.ids := by
  unfold aQ at e
  split at e
  · split at e
    · cases e; simp [AV.ids]
    · cases e
  · cases e

theorem aCm {d : TyD} {h : List AObj} {a k v : AV} {S : Prop} {id : Nat} {o : AObj} (e : iQ d h a k v = some (S, id, o)) : id ∈ a.ids := by
  unfold iQ at e
  split at e
  · split at e
    · cases e; simp [AV.ids]
    · cases e
  · cases e

theorem aCn {d : TyD} {h : List AObj} {s x : AV} {S : Prop} {v : AV} {id : Nat} {o : AObj} (e : gJ d h s x = some (S, v, id, o)) : id ∈ s.ids := by
  unfold gJ at e
  split at e
  · split at e
    · unfold tB at e
      split at e
      · split at e
        · split at e
          · cases e; simp [AV.ids]
          · cases e
        · cases e
      · cases e
    · cases e
  · cases e

theorem aKB {d : TyD} {h : List AObj} {s x : AV} {S : Prop} {v : AV} {id : Nat} {o : AObj} (e : lA d h s x = some (S, v, id, o)) : id ∈ s.ids := by
  unfold lA at e
  split at e
  · split at e
    · unfold wW at e
      split at e
      · split at e
        · split at e
          · cases e; simp [AV.ids]
          · cases e
        · cases e
      · cases e
    · cases e
  · cases e

theorem aJv {d : TyD} {h : List AObj} {s : AV} {S : Prop} {v : AV} {id : Nat} {o : AObj} (e : pP d h s = some (S, v, id, o)) : id ∈ s.ids := by
  unfold pP at e
  split at e
  · split at e
    · unfold aEO at e
      split at e
      · split at e
        · split at e
          · cases e; simp [AV.ids]
          · cases e
        · cases e
      · cases e
    · cases e
  · cases e

theorem aHi {x : D} {y : Option (Prop × AV × Nat × AObj)} {S : Prop} {v : AV} {news : List AObj} {id : Nat} {o : AObj} (h : ofDM x y = some (S, v, news, some (id, o))) : ∃ S v, y = some (S, v, id, o) := by
  unfold ofDM at h
  split at h
  · cases rU h
  · obtain ⟨id', o', e, _, e2⟩ := tH h
    cases e2; exact ⟨_, _, e⟩

theorem aJw {d e : TyD} {s x : AV} {h : List AObj} {n : Nat} {S : Prop} {v : AV} {news : List AObj} {id : Nat} {o : AObj} (hh : mL d e s x h n = some (S, v, news, some (id, o))) : id ∈ s.ids := by
  unfold mL at hh
  split at hh
  · obtain ⟨_, _, e⟩ := aHi hh; exact aCn e
  · split at hh
    · unfold aEA at hh
      split at hh
      · rename_i e1; cases hh
        obtain ⟨_, _, e⟩ := aHi e1; exact aCn e
      · cases hh
    · cases hh
  · cases hh

theorem aHX {b : Builtin} {ds : List TyD} {args : List AV} {h : List AObj} {n : Nat} {S : Prop} {v : AV} {news : List AObj} {id : Nat} {o : AObj}
    (hh : lO b ds args h n = some (S, v, news, some (id, o))) : (b = .append ∨ b = .copy ∨ b = .clear) ∧ ∃ x r, args = x :: r ∧ id ∈ x.ids := by
  unfold lO at hh
  split at hh
  · cases rU hh
  · cases rU hh
  · cases rU hh
  · exact ⟨.inl rfl, _, _, rfl, aJw hh⟩
  · obtain ⟨id', o', e, _, e2⟩ := tH hh; cases e2
    exact ⟨.inr (.inl rfl), _, _, rfl, aKB e⟩
  · obtain ⟨id', o', e, _, e2⟩ := tH hh; cases e2
    exact ⟨.inr (.inr rfl), _, _, rfl, aJv e⟩
  · cases hh

theorem aJx {mt : Bool} {c : Ctx} {s : Nat} {f : AV} {args : List AV} {h : List AObj} {S : Prop} {v : AV} {news : List AObj} {id : Nat} {o : AObj} (hh : oK mt c s f args h = some (S, v, news, some (id, o))) :
    mt = true ∧ ∃ x i ver off len, args.getLast? = some (.sref x i ver off len) ∧ i = id := by
  unfold oK at hh
  split at hh
  · unfold vZ at hh
    split at hh
    · cases hh
    · split at hh
      · cases hh
      · split at hh
        · cases hh
        · split at hh
          · rename_i hla
            replace hla := of_decide_eq_true hla
            simp only [Option.some.injEq, Prod.mk.injEq, Option.map_eq_some_iff] at hh
            obtain ⟨_, _, _, q, _, rfl, _⟩ := hh
            unfold mS at hla
            split at hla
            · rename_i q1 q2 q3 q4 q5 q6 q7 he
              exact ⟨rfl, _, _, _, _, _, he, by simpa using hla⟩
            · cases hla
          · cases hh
        · cases hh
    · cases hh
  · cases hh

theorem nL (t : List (Nat × AV)) (d : TyD) {x : Operand} {id : Nat} (h : id ∈ (ev t d x).ids) : id ∈ (ev t .other x).ids := by rw [aJl t .other d]; exact h

theorem aLW {c : Ctx} {apps : List Nat} {s : Nat} {t : List (Nat × AV)} {h : List AObj} {oo : Oper} {S : Prop} {v : AV} {news : List AObj} {id : Nat} {o : AObj}
    (hh : opD c apps s t h oo.op oo.type = some (S, v, news, some (id, o))) : ∃ x, lW apps oo = some x ∧ x ∈ oo.op.operands.toList ∧ id ∈ (ev t .other x).ids ∧ lM oo = true := by
  cases ho : oo.op with
  | store T a y =>
    rw [ho] at hh
    obtain ⟨id', o', e, _, _, e2⟩ := tG hh; cases e2
    exact ⟨a, by simp [lW, ho], by simp [Op.operands], nL t _ (aJu e), by simp [lM, ho]⟩
  | mapUpdate T m k y =>
    rw [ho] at hh
    obtain ⟨id', o', e, _, _, e2⟩ := tG hh; cases e2
    exact ⟨m, by simp [lW, ho], by simp [Op.operands], nL t _ (aCm e), by simp [lM, ho]⟩
  | insert T m k y =>
    rw [ho] at hh
    obtain ⟨id', o', e, _, _, e2⟩ := tG hh; cases e2
    exact ⟨m, by simp [lW, ho], by simp [Op.operands], nL t _ (aCm e), by simp [lM, ho]⟩
  | call cl =>
    rw [ho] at hh
    simp only [opD] at hh
    split at hh
    · cases hh
    rename_i hl
    have hl := Nat.eq_of_beq_eq_true hl
    split at hh
    · rename_i b hb
      obtain ⟨hb2, x, r, hx, hid⟩ := aHX hh
      cases hargs : cl.args.toList with
      | nil => rw [kE, hargs] at hx; cases hx
      | cons y ys =>
        cases htys : cl.argTypes.toList with
        | nil => rw [kE, hargs, htys] at hx; cases hx
        | cons T Ts =>
          rw [kE, hargs, htys] at hx
          simp only [List.zip_cons_cons, List.map_cons, List.cons.injEq] at hx
          rw [← hx.1] at hid
          have h0 : cl.args[0]? = some y := by rw [← Array.getElem?_toList, hargs]; rfl
          obtain ⟨callee, args, argTypes⟩ := cl
          simp only at hb h0
          refine ⟨y, ?_, (lH _).1 y (by rw [hargs]; simp), nL t _ hid, by simp [lM, ho]⟩
          subst hb
          rcases hb2 with rfl | rfl | rfl <;> simp [lW, ho, h0]
    · rename_i f hb
      obtain ⟨hmt, x, i, ver, off, len, hx, rfl⟩ := aJx hh
      have hmt' := hmt
      unfold vO at hmt
      split at hmt
      rotate_left
      · cases hmt
      rename_i j hj
      obtain ⟨ys, hys⟩ := List.getLast?_eq_some_iff.1 hj
      have hlx : (kE c t cl).getLast? = some (ev t (c.tab (cl.argTypes.toList.getLast?.getD 0)) (.tmp j)) := by
        obtain ⟨zs, z, hz⟩ : ∃ zs z, cl.argTypes.toList = zs ++ [z] := by
          rcases List.eq_nil_or_concat cl.argTypes.toList with h0 | ⟨zs, z, h0⟩
          · rw [hys, h0] at hl; simp at hl
          · exact ⟨zs, z, by rw [h0]; simp⟩
        rw [kE, hys, hz, List.zip_append (by rw [hys, hz] at hl; simpa using hl)]
        simp
      rw [hlx] at hx
      obtain ⟨callee, args, argTypes⟩ := cl
      simp only at hb hj hmt'
      subst hb
      refine ⟨.tmp j, ?_, (lH _).1 _ (by simp only; exact List.mem_of_getLast? hj), ?_, by simp [lM, ho]⟩
      · simp only [lW, ho, hmt', hj]
      · have hx := Option.some.inj hx
        have : i ∈ (ev t (c.tab (argTypes.toList.getLast?.getD 0)) (.tmp j)).ids := by rw [hx]; simp [AV.ids]
        exact nL t _ this
    · cases hh
  | lookup T x k b => rw [ho] at hh; cases b <;> first | (cases hh; done) | cases rU hh
  | makeMap T r => rw [ho] at hh; cases r <;> first | (cases hh; done) | cases rU hh
  | binOp op xt x y b =>
    rw [ho] at hh
    simp only [opD] at hh
    split at hh
    · cases hh
    · cases rU hh
  | makeInterface T x =>
    rw [ho] at hh
    simp only [opD, aCf] at hh
    split at hh <;> cases hh
  | _ => rw [ho] at hh; first | (cases hh; done) | cases rU hh

theorem aHY {c : Ctx} {apps : List Nat} {s : Nat} {t : List (Nat × AV)} {h h' : List AObj} {oo : Oper} (hl : lM oo = false) : opD c apps s t h oo.op oo.type = opD c apps s t h' oo.op oo.type := by
  cases ho : oo.op <;> first | rfl | (simp [lM, ho] at hl; done) | skip
  rename_i T r
  cases r <;> rfl

/-! ### The order that binds -/
def zB (acc : List Nat) (o : Oper) : Nat := o.after.foldl (fun s e => match Region.binds .any e with
      | true => s ||| ((1 <<< e.on) ||| acc.getD e.on 0)
      | false => s) 0

theorem nM (o : Oper) (r : List Oper) (acc : List Nat) : gA (o :: r) acc = gA r (acc ++ [zB acc o]) := rfl

theorem sU : ∀ (r : List Oper) (acc : List Nat) (k : Nat), k < acc.length → (gA r acc).getD k 0 = acc.getD k 0
  | [], _, _, _ => rfl
  | o :: r, acc, k, h => by
    rw [nM, sU r _ k (by simp; omega)]
    simp only [List.getD_eq_getElem?_getD, List.getElem?_append_left h]

theorem aEu (i j : Nat) : (1 <<< i).testBit j = true → j = i := by
  intro h
  rw [Nat.one_shiftLeft, Nat.testBit_two_pow] at h
  have : i = j := by simpa using h
  exact this.symm

theorem aHZ (acc : List Nat) (o : Oper) (j : Nat) (h : (zB acc o).testBit j = true) :
    ∃ e ∈ o.after.toList, Region.binds .any e = true ∧ (e.on = j ∨ (acc.getD e.on 0).testBit j = true) := by
  unfold zB at h
  rw [← Array.foldl_toList] at h
  have key : ∀ (l : List Edge) (s : Nat), (l.foldl (fun s e => match Region.binds .any e with
      | true => s ||| ((1 <<< e.on) ||| acc.getD e.on 0)
      | false => s) s).testBit j = true → s.testBit j = true ∨ ∃ e ∈ l, Region.binds .any e = true ∧ (e.on = j ∨ (acc.getD e.on 0).testBit j = true) := by
    intro l
    induction l with
    | nil => intro s h; exact .inl h
    | cons e l ih =>
      intro s h
      simp only [List.foldl_cons] at h
      rcases ih _ h with h1 | ⟨e', he', h1⟩
      · cases hb : Region.binds .any e with
        | false => rw [hb] at h1; exact .inl h1
        | true =>
          rw [hb] at h1
          simp only [Nat.testBit_or, Bool.or_eq_true] at h1
          rcases h1 with h1 | h1 | h1
          · exact .inl h1
          · exact .inr ⟨e, by simp, hb, .inl (aEu _ _ h1).symm⟩
          · exact .inr ⟨e, by simp, hb, .inr h1⟩
      · exact .inr ⟨e', by simp [he'], h1⟩
  rcases key _ 0 h with h | h
  · simp at h
  · exact h

theorem aDh : ∀ (r : List Oper) (acc : List Nat) (k j : Nat), acc.length ≤ k → ((gA r acc).getD k 0).testBit j = true →
    ∃ o, r[k - acc.length]? = some o ∧ ∃ e ∈ o.after.toList, Region.binds .any e = true ∧ (e.on = j ∨ ((gA r acc).getD e.on 0).testBit j = true)
  | [], acc, k, j, hk, h => by
    simp only [gA, List.getD_eq_getElem?_getD, List.getElem?_eq_none hk, Option.getD_none] at h
    simp at h
  | o :: r, acc, k, j, hk, h => by
    rw [nM] at h
    by_cases e : k = acc.length
    · subst e
      rw [sU r _ _ (by simp)] at h
      have hx : (acc ++ [zB acc o]).getD acc.length 0 = zB acc o := by simp [List.getD_eq_getElem?_getD]
      rw [hx] at h
      obtain ⟨e, he, hb, h1⟩ := aHZ acc o j h
      refine ⟨o, by simp, e, he, hb, h1.imp id fun h1 => ?_⟩
      have hlt : e.on < acc.length := by
        rcases Nat.lt_or_ge e.on acc.length with h2 | h2
        · exact h2
        · simp only [List.getD_eq_getElem?_getD, List.getElem?_eq_none h2, Option.getD_none] at h1
          simp at h1
      rw [sU (o :: r) acc _ hlt]; exact h1
    · obtain ⟨o', ho', e', he', hb, h1⟩ := aDh r _ k j (by simp; omega) h
      simp only [List.length_append, List.length_singleton] at ho'
      have : k - acc.length = (k - (acc.length + 1)) + 1 := by omega
      exact ⟨o', by rw [this, List.getElem?_cons_succ]; exact ho', e', he', hb, h1⟩

/-! ### What the checks say -/
structure hG (L : List Oper) (b : Nat → Nat → Bool) : Prop where
  bit : ∀ (k j : Nat), b k j = true → ∃ o, L[k]? = some o ∧ ∃ e ∈ o.after.toList, Region.binds .any e = true ∧ (e.on = j ∨ b e.on j = true)
  edge : ∀ (k : Nat) (o : Oper), L[k]? = some o → ∀ e ∈ o.after.toList, Region.binds .any e = true → e.on < k
  guard : ∀ (k : Nat) (o : Oper), L[k]? = some o → ∀ (j : Nat) (want : Bool), o.guard = some (j, want) → b k j = true ∧ j < k
  noNil : ∀ (k : Nat) (o : Oper), L[k]? = some o → yK o.op = false
  once : ∀ (i j : Nat) (o o' : Oper) (d : Nat), L[i]? = some o → L[j]? = some o' → o.dst = some d → o'.dst = some d → i = j
  reads : ∀ (i j : Nat) (o o' : Oper) (d : Nat), L[i]? = some o → L[j]? = some o' → o'.dst = some d → d ∈ nE o → b i j = true ∨ (i ≠ j ∧ b j i = true) ∨ i = j
  behind : ∀ (i j : Nat) (oi oj : Oper), L[i]? = some oi → L[j]? = some oj → i ≠ j → b i j = false → b j i = false → (lW (iB L) oi).isSome = true → lM oj = true →
    ∀ (k : Nat) (ok : Oper) (d : Nat), L[k]? = some ok → ok.dst = some d → (d ∈ nE oi → b i k = true) ∧ (d ∈ nE oj → b j k = true)

theorem zC {L : List Oper} {b : List Nat} {i j : Nat} {oi oj : Oper} (hi : L[i]? = some oi) (hj : L[j]? = some oj) (hne : i ≠ j) (h1 : (b.getD i 0).testBit j = false) (h2 : (b.getD j 0).testBit i = false)
    (hm : (lW (iB L) oi).isSome = true) (hl : lM oj = true) : (i, j) ∈ aAh L b := by
  have hil : i < L.length := (List.getElem?_eq_some_iff.1 hi).1
  have hjl : j < L.length := (List.getElem?_eq_some_iff.1 hj).1
  unfold aAh
  rcases Nat.lt_or_gt_of_ne hne with h | h
  · refine List.mem_flatMap.2 ⟨j, List.mem_range.2 hjl, List.mem_flatMap.2 ⟨i, List.mem_range.2 h, ?_⟩⟩
    simp only [h2, hi, hj, hm, hl, Bool.and_self, if_true]
    exact List.mem_append_left _ (by simp)
  · refine List.mem_flatMap.2 ⟨i, List.mem_range.2 hil, List.mem_flatMap.2 ⟨j, List.mem_range.2 h, ?_⟩⟩
    simp only [h1, hi, hj, hm, hl, Bool.and_self, if_true]
    exact List.mem_append_right _ (by simp)

theorem aBq {t : List (Nat × AV)} {A : Prop} : ∀ {l : List (Option Operand × List Operand)}, sepW t l A → A ∧ ∀ p ∈ l, ∃ x, p.1 = some x ∧ sepB (ev t .other x) (p.2.map (ev t .other)) = true
  | [], h => ⟨h, fun p hp => by cases hp⟩
  | (some x, ys) :: r, h => by
    simp only [sepW] at h
    obtain ⟨h1, h2⟩ := aBq h.2
    exact ⟨h1, fun p hp => by
      rcases List.mem_cons.1 hp with rfl | hp
      · exact ⟨x, rfl, h.1⟩
      · exact h2 p hp⟩
  | (none, ys) :: r, h => by simp only [sepW] at h

theorem aKC {v : AV} {vs : List AV} (h : sepB v vs = true) {i : Nat} (h1 : i ∈ v.ids) (h2 : i ∈ AV.idss vs) : False := by
  unfold sepB at h
  rw [List.all_eq_true] at h
  have := h i h1
  rw [List.all_eq_true] at this
  have := this i h2
  simp at this

theorem aDH {L : List Oper} (h : vP L (gA L []) = true) : hG L (fun k j => ((gA L []).getD k 0).testBit j) := by
  unfold vP at h
  simp only [Bool.and_eq_true, List.all_eq_true, List.mem_range] at h
  obtain ⟨h1, h2⟩ := h
  have per : ∀ (k : Nat) (o : Oper), L[k]? = some o → _ := fun k o ho => by
    have := h1 k (List.getElem?_eq_some_iff.1 ho).1
    rw [ho] at this
    simp only [Bool.and_eq_true, List.all_eq_true, List.mem_range] at this
    exact this
  have two : ∀ (i j : Nat) (o o' : Oper) (d : Nat), L[i]? = some o → L[j]? = some o' → o'.dst = some d → (i = j ∨ o.dst ≠ some d) ∧
      (d ∈ nE o → ((gA L []).getD i 0).testBit j = true ∨ (i ≠ j ∧ ((gA L []).getD j 0).testBit i = true) ∨ i = j) := by
    intro i j o o' d hi hj hd
    have := (per i o hi).2 j (List.getElem?_eq_some_iff.1 hj).1
    rw [hj] at this
    simp only [hd] at this
    simp only [Bool.and_eq_true, Bool.or_eq_true, Bool.not_eq_true', List.contains_eq_mem, decide_eq_false_iff_not] at this
    obtain ⟨p1, p2⟩ := this
    refine ⟨?_, fun hm => ?_⟩
    · rcases p1 with h | h
      · exact .inl (Nat.eq_of_beq_eq_true h)
      · exact .inr (by simpa using h)
    · rcases p2 with ((h | h) | h) | h
      · exact absurd hm h
      · exact .inl h
      · refine .inr (.inl ⟨fun e => ?_, h.2⟩)
        have := h.1; subst e; simp at this
      · exact .inr (.inr (Nat.eq_of_beq_eq_true h.1))
  refine ⟨fun k j hb => ?_, fun k o ho e he hb => ?_, fun k o ho j want hg => ?_, fun k o ho => ?_, fun i j o o' d hi hj h1 h2 => ?_, fun i j o o' d hi hj hd hm => (two i j o o' d hi hj hd).2 hm, fun i j oi oj hi hj hne b1 b2 hm hl k ok d hk hd => ?_⟩
  · have := aDh L [] k j (Nat.zero_le _) hb
    simpa using this
  · have := (per k o ho).1.1.2
    rw [Array.all_eq_true'] at this
    have := this e (by simpa using he)
    rw [hb] at this
    simpa using this
  · have := (per k o ho).1.2
    rw [hg] at this
    simp only [Bool.and_eq_true] at this
    exact ⟨this.1, by simpa using this.2⟩
  · have := (per k o ho).1.1.1
    simpa using this
  · rcases (two i j o o' d hi hj h2).1 with h | h
    · exact h
    · exact absurd h1 h
  · have := h2 _ (zC hi hj hne b1 b2 hm hl)
    rw [hi, hj] at this
    simp only [List.all_eq_true, List.mem_range] at this
    have := this k (List.getElem?_eq_some_iff.1 hk).1
    rw [hk] at this
    simp only [Option.bind_some, hd, Bool.and_eq_true, Bool.or_eq_true, Bool.not_eq_true', List.contains_eq_mem, decide_eq_false_iff_not] at this
    obtain ⟨p1, p2⟩ := this
    exact ⟨fun h => p1.resolve_left fun x => x h, fun h => p2.resolve_left fun x => x h⟩

end Lam
namespace Lam
open Go

structure Rec where
  ran : Bool
  v : AV
  news : List AObj
  mm : Option (Nat × AObj)

instance : Inhabited Rec := ⟨⟨false, .und, [], none⟩⟩

structure TS (c : Ctx) (A L : List Oper) (t0 : List (Nat × AV)) (h0 : List AObj) (rs : Nat → Rec) (tk : Nat → List (Nat × AV)) (η : Nat → List AObj) : Prop where
  t0 : ∀ i, get (tk 0) i = get t0 i
  ts : ∀ (k : Nat) (o : Oper), L[k]? = some o → ∀ i, get (tk (k + 1)) i = if o.dst = some i then (rs k).v else get (tk k) i
  h0 : η 0 = h0
  hs : ∀ k, k < L.length → η (k + 1) = dI (η k ++ (rs k).news) (rs k).mm
  guard : ∀ (k : Nat) (o : Oper), L[k]? = some o → match o.guard with
    | none => (rs k).ran = true
    | some (j, want) => ∃ g, iX A j = some g ∧ ((∃ b, get (tk k) g = .bool b ∧ (rs k).ran = (b == want)) ∨ (get (tk k) g = .und ∧ (rs k).ran = false))
  ran : ∀ (k : Nat) (o : Oper), L[k]? = some o → (rs k).ran = true → (∃ S, S ∧ opD c (iB A) (η k).length (tk k) (η k) o.op o.type = some (S, (rs k).v, (rs k).news, (rs k).mm)) ∧
    ∀ x ∈ o.op.operands.toList, ∀ id ∈ (ev (tk k) .other x).ids, id < (η k).length
  pass : ∀ (k : Nat) (o : Oper), L[k]? = some o → (rs k).ran = false → (rs k).v = .und ∧ (rs k).news = [] ∧ (rs k).mm = none

def sV {α : Type} (x : α) (f : Nat → α) : Nat → α
  | 0 => x
  | k + 1 => f k

theorem aFu (d : Option Nat) (v : AV) (t : List (Nat × AV)) (i : Nat) : get (putO d v t) i = if d = some i then v else get t i := by
  cases d with
  | none => simp [putO]
  | some j => simp only [putO, jS, Option.some.injEq]

section
variable {c : Ctx} {A L : List Oper} {t0 t1 t2 : List (Nat × AV)} {h0 h1 : List AObj} {rs : Nat → Rec} {tk : Nat → List (Nat × AV)} {η : Nat → List AObj} {o : Oper} {r : Rec}

theorem TS.cons (T : TS c A L t1 h1 rs tk η) (e0 : ∀ i, get t2 i = get t0 i) (e1 : ∀ i, get t1 i = if o.dst = some i then r.v else get t2 i) (e2 : h1 = dI (h0 ++ r.news) r.mm)
    (hg : match o.guard with
      | none => r.ran = true
      | some (j, want) => ∃ g, iX A j = some g ∧ ((∃ b, get t2 g = .bool b ∧ r.ran = (b == want)) ∨ (get t2 g = .und ∧ r.ran = false)))
    (hr : r.ran = true → (∃ S, S ∧ opD c (iB A) h0.length t2 h0 o.op o.type = some (S, r.v, r.news, r.mm)) ∧ ∀ x ∈ o.op.operands.toList, ∀ id ∈ (ev t2 .other x).ids, id < h0.length)
    (hp : r.ran = false → r.v = .und ∧ r.news = [] ∧ r.mm = none) :
    TS c A (o :: L) t0 h0 (sV r rs) (sV t2 tk) (sV h0 η) := by
  refine ⟨e0, fun k q hq i => ?_, rfl, fun k hk => ?_, fun k q hq => ?_, fun k q hq => ?_, fun k q hq => ?_⟩
  · cases k with
    | zero =>
      simp only [List.getElem?_cons_zero, Option.some.injEq] at hq; subst hq
      show get (tk 0) i = _
      rw [T.t0, e1]; rfl
    | succ k => exact T.ts k q (by simpa using hq) i
  · cases k with
    | zero => show η 0 = _; rw [T.h0, e2]; rfl
    | succ k => exact T.hs k (by simpa using hk)
  · cases k with
    | zero => simp only [List.getElem?_cons_zero, Option.some.injEq] at hq; subst hq; exact hg
    | succ k => exact T.guard k q (by simpa using hq)
  · cases k with
    | zero => simp only [List.getElem?_cons_zero, Option.some.injEq] at hq; subst hq; exact hr
    | succ k => exact T.ran k q (by simpa using hq)
  · cases k with
    | zero => simp only [List.getElem?_cons_zero, Option.some.injEq] at hq; subst hq; exact hp
    | succ k => exact T.pass k q (by simpa using hq)
end

section
variable {P : Program} {n : Nat} {ds : DB} {c : Ctx}

theorem aKD {apps : List Nat} (C : lP P c) {X : Cx} (H : HR X) {t : List (Nat × AV)} {a : Act} (R : SR n ds X t a) {o : Oper} (hd : ∀ i, o.dst = some i → i < n) {S : Prop} {v : AV} {news : List AObj} {mm : Option (Nat × AObj)}
    (e : opD c apps X.h.length t X.h o.op o.type = some (S, v, news, mm)) (hS : S) : ∃ Y a', HR Y ∧ Y.h = dI (X.h ++ news) mm ∧ SR n ds Y (putO o.dst v t) a' := by
  obtain ⟨H', E'⟩ := tT H news.length
  have R' := R.ext E'
  have hag : fU X.h (X.pad news.length).h (AV.idss (opVs t o.op)) := by
    intro id hid
    obtain ⟨v, hv, hj⟩ := xF hid
    obtain ⟨x, _, rfl⟩ := List.mem_map.1 hv
    have := aFm H.len (R.ev x .other) id hj
    rw [rG, if_pos this]
  rw [yX hag] at e
  have hto := uK (ro := none) (a := a) H' C (fun x _ d => R'.ev x d) (fun j hj => by rw [rG, if_neg (by omega), if_pos (by omega)]) e hS
  obtain ⟨q, w', Y, rfl, hYh, HY, EY, hv⟩ := hto.get
  refine ⟨Y, a.put o.dst q, HY, ?_, (R'.ext EY).putO hd hv⟩
  rw [hYh, show (X.pad news.length).h = X.h ++ List.replicate news.length .dead from rfl, uL]

theorem sW (C : lP P c) (hdr : c.drawn = true) (hN : ∀ f args h K, ¬ c.envS f args h K) (hYn : ∀ l args h K, ¬ c.envY l args h K) (A : List Oper) {κ : List (Nat × AV) → List AObj → Prop} :
    ∀ (r : List Oper) (kn : List (Nat × Option Bool)) (t : List (Nat × AV)) (X : Cx) (a : Act), (∀ o ∈ r, ∀ i, o.dst = some i → i < n) → (∀ o ∈ r, yK o.op = false) → Kn t kn → HR X → SR n ds X t a →
      opsW c (iB A) A (fun _ _ _ => False) κ r kn t X.h → ∃ rs tk η, TS c A r t X.h rs tk η ∧ κ (tk r.length) (η r.length)
  | [], kn, t, X, a, _, _, _, H, R, hw => ⟨fun _ => default, fun _ => t, fun _ => X.h, ⟨fun _ => rfl, fun k o h => by simp at h, rfl, fun k h => by simp at h, fun k o h => by simp at h, fun k o h => by simp at h, fun k o h => by simp at h⟩, hw⟩
  | o :: r, kn, t, X, a, hd, hnil, hkn, H, R, hw => by
    have hdo := hd o (by simp)
    have hdr' : ∀ o ∈ r, ∀ i, o.dst = some i → i < n := fun o' h => hd o' (by simp [h])
    have hnil' : ∀ o ∈ r, yK o.op = false := fun o' h => hnil o' (by simp [h])
    have step : ∀ (t2 : List (Nat × AV)) (kn : List (Nat × Option Bool)), Kn t2 kn → SR n ds X t2 a → (∀ i, get t2 i = get t i) →
        (match o.guard with
          | none => True
          | some (j, want) => ∃ g, iX A j = some g ∧ get t2 g = .bool want) →
        opW c (iB A) t2 X.h o.op o.type (fun v h' => opsW c (iB A) A (fun _ _ _ => False) κ r (unknow o.dst kn) (putO o.dst v t2) h') (fun _ _ => False) →
        ∃ rs tk η, TS c A (o :: r) t X.h rs tk η ∧ κ (tk (o :: r).length) (η (o :: r).length) := by
      intro t2 kn hkn R ht hgd hw
      have hok : OkD (opD c (iB A) X.h.length t2 X.h o.op o.type) X.h (fun v h' => opsW c (iB A) A (fun _ _ _ => False) κ r (unknow o.dst kn) (putO o.dst v t2) h') := by
        rcases aLs hw with h | h
        · exact h
        · cases h with
          | nilEq xt x y b hop hn hs hk =>
            have := hnil o (by simp)
            simp [hop, yK, hn] at this
          | panic x hop hk =>
            unfold panW at hk; split at hk <;> exact hk.elim
          | call cl f hop hcal hl hk =>
            have h1 := aLR hdr hN hYn hk
            have hb : Nat.beq cl.args.toList.length cl.argTypes.toList.length = true := by rw [hl]; exact Nat.beq_refl _
            simp only [hop, opD, hcal, hb]
            exact h1
      obtain ⟨S, v, news, mm, e, hS, hk⟩ := hok
      obtain ⟨Y, a', HY, hYh, RY⟩ := aKD C H R hdo e hS
      rw [← hYh] at hk
      obtain ⟨rs, tk, η, T, hκ⟩ := sW C hdr hN hYn A r _ _ Y a' hdr' hnil' (hkn.unknow o.dst v) HY RY hk
      refine ⟨sV ⟨true, v, news, mm⟩ rs, sV t2 tk, sV X.h η, T.cons ht (fun i => aFu _ _ _ _) hYh ?_ (fun _ => ⟨⟨S, hS, e⟩, fun x hx id hid => aFm H.len (R.ev x .other) id hid⟩) (fun h => by cases h), hκ⟩
      revert hgd
      cases o.guard with
      | none => intro _; rfl
      | some p => intro ⟨g, h1, h2⟩; exact ⟨g, h1, .inl ⟨p.2, h2, by simp⟩⟩
    have pass : ∀ (t2 : List (Nat × AV)) (kn : List (Nat × Option Bool)), Kn t2 kn → SR n ds X t2 a → (∀ i, get t2 i = get t i) →
        (match o.guard with
          | none => False
          | some (j, want) => ∃ g, iX A j = some g ∧ (get t2 g = .bool (!want) ∨ get t2 g = .und)) →
        opsW c (iB A) A (fun _ _ _ => False) κ r (passed o.dst kn) (putO o.dst .und t2) X.h →
        ∃ rs tk η, TS c A (o :: r) t X.h rs tk η ∧ κ (tk (o :: r).length) (η (o :: r).length) := by
      intro t2 kn hkn R ht hgd hw
      obtain ⟨rs, tk, η, T, hκ⟩ := sW C hdr hN hYn A r _ _ X (a.put o.dst undef) hdr' hnil' (hkn.passed o.dst) H (R.putO hdo rfl) hw
      refine ⟨sV ⟨false, .und, [], none⟩ rs, sV t2 tk, sV X.h η, T.cons ht (fun i => aFu _ _ _ _) (by simp [dI]) ?_ (fun h => by cases h) (fun _ => ⟨rfl, rfl, rfl⟩), hκ⟩
      revert hgd
      cases o.guard with
      | none => intro h; exact h.elim
      | some p => intro ⟨g, h1, h2⟩; exact ⟨g, h1, h2.imp (fun h => ⟨!p.2, h, by simp⟩) (fun h => ⟨h, rfl⟩)⟩
    simp only [opsW] at hw
    split at hw
    · rename_i hg
      exact step t kn hkn R (fun _ => rfl) (by rw [hg]; trivial) hw
    · rename_i j want hg
      split at hw
      · exact hw.elim
      · rename_i g hgt
        split at hw
        · rename_i b hb
          have hv := hkn g _ hb
          split at hw
          · rename_i e
            have e : b = want := by simpa using e
            exact step t kn hkn R (fun _ => rfl) (by rw [hg]; exact ⟨g, hgt, by rw [← e]; exact hv⟩) hw
          · rename_i e
            have e : b = !want := by cases b <;> cases want <;> simp_all
            exact pass t kn hkn R (fun _ => rfl) (by rw [hg]; exact ⟨g, hgt, .inl (by rw [← e]; exact hv)⟩) hw
        · rename_i hb
          have hv := hkn g _ hb
          exact pass t kn hkn R (fun _ => rfl) (by rw [hg]; exact ⟨g, hgt, .inr hv⟩) hw
        · unfold aX at hw
          split at hw
          rotate_left
          · exact hw.elim
          rename_i b hb
          have hv := R.v g
          rw [hb] at hv
          have same : ∀ i, get (put g (.bool b) t) i = get t i := by
            intro i
            rw [jS]
            by_cases e : g = i
            · subst e; rw [if_pos rfl, hb]
            · rw [if_neg e]
          by_cases e : b = want
          · subst e
            exact step _ _ (hkn.learn g b) (R.learn hv) same (by rw [hg]; exact ⟨g, hgt, by rw [jS, if_pos rfl]⟩) (hw.1 rfl)
          · have e' : b = !want := by cases b <;> cases want <;> simp_all
            rw [e'] at same hv
            exact pass _ _ (hkn.learn g (!want)) (R.learn hv) same (by rw [hg]; exact ⟨g, hgt, .inl (by rw [jS, if_pos rfl])⟩) (hw.2 e')
end

end Lam
namespace Lam
open Go

theorem yE (h : List AObj) (mm : Option (Nat × AObj)) : (dI h mm).length = h.length := by
  cases mm <;> simp [dI]

theorem aCo (h : List AObj) (mm : Option (Nat × AObj)) (id : Nat) (hm : ∀ o, mm ≠ some (id, o)) : (dI h mm)[id]? = h[id]? := by
  cases mm with
  | none => rfl
  | some p =>
    obtain ⟨i, o⟩ := p
    have : i ≠ id := by rintro rfl; exact hm o rfl
    simp [dI, List.getElem?_set, this]

theorem aFv {h h' : List AObj} (mm : Option (Nat × AObj)) (id : Nat) (he : h[id]? = h'[id]?) : (dI h mm)[id]? = (dI h' mm)[id]? := by
  cases mm with
  | none => exact he
  | some p =>
    obtain ⟨i, o⟩ := p
    simp only [dI, List.getElem?_set]
    by_cases e : i = id
    · subst e
      simp only [if_true]
      have : (i < h.length) ↔ (i < h'.length) := by
        rw [← Nat.not_le, ← Nat.not_le, ← List.getElem?_eq_none_iff, ← List.getElem?_eq_none_iff, he]
      by_cases hl : i < h.length
      · rw [if_pos hl, if_pos (this.1 hl)]
      · rw [if_neg hl, if_neg (fun x => hl (this.2 x))]
    · simp only [if_neg e, he]

section
variable {c : Ctx} {L : List Oper} {t0 : List (Nat × AV)} {h0 : List AObj} {rs : Nat → Rec} {tk : Nat → List (Nat × AV)} {η : Nat → List AObj} {b : Nat → Nat → Bool}

def tJ (rs : Nat → Rec) (η : Nat → List AObj) (m id : Nat) : Prop := ((η m).length ≤ id ∧ id < (η (m + 1)).length) ∨ ∃ o, (rs m).mm = some (id, o)

def hx (η : Nat → List AObj) (k id : Nat) : Option AObj := if id < (η k).length then (η k)[id]? else some .dead

theorem TS.lenS (T : TS c L L t0 h0 rs tk η) {k : Nat} (hk : k < L.length) : (η (k + 1)).length = (η k).length + (rs k).news.length := by
  rw [T.hs k hk, yE, List.length_append]

theorem TS.mono (T : TS c L L t0 h0 rs tk η) : ∀ {k k' : Nat}, k ≤ k' → k' ≤ L.length → (η k).length ≤ (η k').length := by
  intro k k' h
  induction h with
  | refl => intro _; exact Nat.le_refl _
  | @step m hm ih => intro hl; have := ih (by omega); have e := T.lenS (k := m) (by omega); show _ ≤ (η (m + 1)).length; omega

theorem TS.tk_same (T : TS c L L t0 h0 rs tk η) {i k k' : Nat} (h : k ≤ k') (hl : k' ≤ L.length) (hno : ∀ (m : Nat) (o : Oper), k ≤ m → m < k' → L[m]? = some o → o.dst ≠ some i) : get (tk k') i = get (tk k) i := by
  induction h with
  | refl => rfl
  | @step m hm ih =>
    have hm : k ≤ m := hm
    show get (tk (m + 1)) i = _
    have ho : L[m]? = some L[m] := List.getElem?_eq_getElem (by omega)
    rw [T.ts m _ ho, if_neg (hno m _ hm (by omega) ho)]
    exact ih (by omega) fun m' o h1 h2 => hno m' o h1 (by omega)

theorem TS.hx_same (T : TS c L L t0 h0 rs tk η) {id k k' : Nat} (h : k ≤ k') (hl : k' ≤ L.length) (hno : ∀ m, k ≤ m → m < k' → ¬ tJ rs η m id) : hx η k' id = hx η k id := by
  induction h with
  | refl => rfl
  | @step m hm ih =>
    have hm : k ≤ m := hm
    show hx η (m + 1) id = _
    rw [← ih (by omega) fun m' h1 h2 => hno m' h1 (by omega)]
    have hnt := hno m hm (by omega)
    have hs := T.lenS (k := m) (by omega)
    unfold hx
    by_cases h1 : id < (η m).length
    · rw [if_pos h1, if_pos (by omega), T.hs m (by omega), aCo _ _ _ (fun o e => hnt (.inr ⟨o, e⟩)), List.getElem?_append_left h1]
    · rw [if_neg h1, if_neg fun h2 => hnt (.inl ⟨by omega, h2⟩)]

theorem TS.mut_lt (T : TS c L L t0 h0 rs tk η) {m id : Nat} {o : AObj} {om : Oper} (hm : L[m]? = some om) (e : (rs m).mm = some (id, o)) :
    id < (η m).length ∧ ∃ x, lW (iB L) om = some x ∧ x ∈ om.op.operands.toList ∧ id ∈ (ev (tk m) .other x).ids ∧ lM om = true := by
  cases hr : (rs m).ran with
  | false => have := (T.pass m om hm hr).2.2; rw [this] at e; cases e
  | true =>
    obtain ⟨⟨S, hS, h1⟩, h2⟩ := T.ran m om hm hr
    rw [e] at h1
    obtain ⟨x, q1, q2, q3, q4⟩ := aLW h1
    exact ⟨h2 x q2 id q3, x, q1, q2, q3, q4⟩

theorem hG.lt (DF : hG L b) : ∀ {k i : Nat}, b k i = true → i < k := by
  intro k
  induction k using Nat.strongRecOn with
  | _ k ih =>
    intro i h
    obtain ⟨o, ho, e, he, hb, h1⟩ := DF.bit k i h
    have hlt := DF.edge k o ho e he hb
    rcases h1 with rfl | h1
    · exact hlt
    · have := ih e.on hlt h1; omega

theorem aCp {o : Oper} {i : Nat} (h : Operand.tmp i ∈ o.op.operands.toList) : i ∈ nE o := by
  unfold nE
  exact List.mem_filterMap.2 ⟨_, h, rfl⟩

theorem aKE {t t' : List (Nat × AV)} {x : Operand} (h : ∀ i, x = .tmp i → get t i = get t' i) (d : TyD) : ev t d x = ev t' d x := by
  cases x with
  | tmp i => exact h i rfl
  | _ => rfl

structure Sep (L : List Oper) (b : Nat → Nat → Bool) (t : List (Nat × AV)) : Prop where
  sep : ∀ (i j : Nat) (oi oj : Oper), L[i]? = some oi → L[j]? = some oj → i ≠ j → b i j = false → b j i = false → (lW (iB L) oi).isSome = true → lM oj = true →
    ∃ x, lW (iB L) oi = some x ∧ sepB (ev t .other x) (oj.op.operands.toList.map (ev t .other)) = true

structure DI (n : Nat) (ds : DB) (L : List Oper) (b : Nat → Nat → Bool) (rs : Nat → Rec) (tk : Nat → List (Nat × AV)) (η : Nat → List AObj) (D : Nat → Prop) (X : Cx) (a : Act) : Prop where
  hr : HR X
  len : X.h.length = (η L.length).length
  heap : ∀ id k, k ≤ L.length → id < (η L.length).length → (∀ m, m < L.length → tJ rs η m id → (m < k ↔ D m)) → X.h[id]? = hx η k id
  made : ∀ m id o, m < L.length → D m → (rs m).mm = some (id, o) → ∀ j, j < L.length → (η j).length ≤ id → id < (η (j + 1)).length → D j
  closed : ∀ k, D k → ∀ i, b k i = true → D i
  tmp : ∀ i k, k ≤ L.length → (∀ (m : Nat) (o : Oper), L[m]? = some o → o.dst = some i → (m < k ↔ D m)) → VV X (get (tk k) i) (a.tmps.getD i undef)
  size : n ≤ a.tmps.size
  defers : kO ds X a.defers

variable {n : Nat} {ds : DB} {D : Nat → Prop} {X : Cx} {a : Act} {k : Nat} {o : Oper}

theorem TS.final (T : TS c L L t0 h0 rs tk η) (DF : hG L b) {i : Nat} {oi : Oper} (hi : L[i]? = some oi) (hb : ∀ (w : Nat) (ow : Oper) (d : Nat), L[w]? = some ow → ow.dst = some d → d ∈ nE oi → b i w = true)
    {x : Operand} (hx : x ∈ oi.op.operands.toList) (d : TyD) : ev (tk L.length) d x = ev (tk i) d x := by
  have hil : i < L.length := (List.getElem?_eq_some_iff.1 hi).1
  refine aKE (fun j hj => ?_) d
  subst hj
  refine T.tk_same (Nat.le_of_lt hil) (Nat.le_refl _) fun m o h1 h2 hm hd => ?_
  have := DF.lt (hb m o j hm hd (aCp hx))
  omega

section ready

theorem sX (T : TS c L L t0 h0 rs tk η) (DF : hG L b) (I : DI n ds L b rs tk η D X a) (ho : L[k]? = some o) (hk : ¬ D k) (hready : ∀ e ∈ o.after.toList, Region.binds .any e = true → D e.on) : ∀ i, b k i = true → D i := by
  intro i h
  obtain ⟨o', ho', e, he, hb, h1⟩ := DF.bit k i h
  rw [ho] at ho'; cases ho'
  rcases h1 with rfl | h1
  · exact hready e he hb
  · exact I.closed _ (hready e he hb) _ h1

theorem aJy (T : TS c L L t0 h0 rs tk η) (DF : hG L b) (I : DI n ds L b rs tk η D X a) (ho : L[k]? = some o) (hk : ¬ D k) (hready : ∀ e ∈ o.after.toList, Region.binds .any e = true → D e.on) {i : Nat} (hi : i ∈ nE o) (m : Nat) (o' : Oper) (hm : L[m]? = some o') (hd : o'.dst = some i) : m < k ↔ D m := by
  rcases DF.reads k m o o' i ho hm hd hi with h | ⟨h1, h2⟩ | h
  · exact ⟨fun _ => sX T DF I ho hk hready m h, fun _ => DF.lt h⟩
  · have := DF.lt h2
    exact ⟨fun h => by omega, fun h => absurd (I.closed m h k h2) hk⟩
  · subst h
    exact ⟨fun h => by omega, fun h => absurd h hk⟩

theorem zD (T : TS c L L t0 h0 rs tk η) (DF : hG L b) (I : DI n ds L b rs tk η D X a) (ho : L[k]? = some o) (hk : ¬ D k) (hready : ∀ e ∈ o.after.toList, Region.binds .any e = true → D e.on) {x : Operand} (hx : x ∈ o.op.operands.toList) (d : TyD) : VV X (ev (tk k) d x) (a.eval x) := by
  have hkl : k < L.length := (List.getElem?_eq_some_iff.1 ho).1
  cases x with
  | tmp i => exact I.tmp i k (Nat.le_of_lt hkl) fun m o' hm hd => aJy T DF I ho hk hready (aCp hx) m o' hm hd
  | const v => exact aFn d v
  | global g => trivial
  | func f => exact ⟨#[], #[], rfl, by simp [VVs], by simp [VVs]⟩

theorem aAN (T : TS c L L t0 h0 rs tk η) (DF : hG L b) (I : DI n ds L b rs tk η D X a) (ho : L[k]? = some o) (hk : ¬ D k) (hready : ∀ e ∈ o.after.toList, Region.binds .any e = true → D e.on) {j : Nat} {want : Bool} (hg : o.guard = some (j, want)) {g : Nat} (hgt : iX L j = some g) : VV X (get (tk k) g) (a.tmps.getD g undef) := by
  have hkl : k < L.length := (List.getElem?_eq_some_iff.1 ho).1
  obtain ⟨hb, hjk⟩ := DF.guard k o ho j want hg
  refine I.tmp g k (Nat.le_of_lt hkl) fun m o' hm hd => ?_
  obtain ⟨oj, hoj, hdj⟩ : ∃ oj, L[j]? = some oj ∧ oj.dst = some g := by
    unfold iX at hgt
    cases h : L[j]? with
    | none => rw [h] at hgt; cases hgt
    | some oj => rw [h] at hgt; exact ⟨oj, rfl, hgt⟩
  obtain rfl := DF.once m j o' oj g hm hoj hd hdj
  exact ⟨fun _ => sX T DF I ho hk hready m hb, fun _ => hjk⟩

theorem aDI (T : TS c L L t0 h0 rs tk η) (DF : hG L b) (I : DI n ds L b rs tk η D X a) (ho : L[k]? = some o) (hk : ¬ D k) (hready : ∀ e ∈ o.after.toList, Region.binds .any e = true → D e.on) (hr : (rs k).ran = true) {x : Operand} (hx' : x ∈ o.op.operands.toList) {id : Nat} (hid : id ∈ (ev (tk k) .other x).ids) {j : Nat} (hj : j < L.length) (h1 : (η j).length ≤ id) (h2 : id < (η (j + 1)).length) : j < k ∧ D j := by
  have hkl : k < L.length := (List.getElem?_eq_some_iff.1 ho).1
  have hlt := (T.ran k o ho hr).2 x hx' id hid
  have hjk : j < k := by
    rcases Nat.lt_or_ge j k with h | h
    · exact h
    · have := T.mono h (Nat.le_of_lt hj); omega
  refine ⟨hjk, ?_⟩
  apply Classical.byContradiction
  intro hD
  have hN : id < (η L.length).length := Nat.lt_of_lt_of_le h2 (T.mono (by omega) (Nat.le_refl _))
  have hdead := I.heap id j (Nat.le_of_lt hj) hN fun m hm ht => by
    rcases ht with ⟨h3, h4⟩ | ⟨q, h3⟩
    · have : m = j := by
        rcases Nat.lt_trichotomy m j with h | h | h
        · have := T.mono (k := m + 1) (k' := j) (by omega) (by omega); omega
        · exact h
        · have := T.mono (k := j + 1) (k' := m) (by omega) (by omega); omega
      subst this
      exact ⟨fun h => by omega, fun h => absurd h hD⟩
    · obtain ⟨om, hom⟩ : ∃ om, L[m]? = some om := ⟨_, List.getElem?_eq_getElem hm⟩
      have := (T.mut_lt hom h3).1
      constructor
      · intro h
        have := T.mono (k := m) (k' := j) (by omega) (by omega); omega
      · intro h
        exact absurd (I.made m id q hm h h3 j hj h1 h2) hD
  unfold hx at hdead
  rw [if_neg (by omega)] at hdead
  exact (wC (zD T DF I ho hk hready hx' .other) id hid).alive I.hr hdead

theorem aDJ (T : TS c L L t0 h0 rs tk η) (DF : hG L b) (SP : Sep L b (tk L.length)) (I : DI n ds L b rs tk η D X a) (ho : L[k]? = some o) (hk : ¬ D k) (hready : ∀ e ∈ o.after.toList, Region.binds .any e = true → D e.on) (hr : (rs k).ran = true) (hl : lM o = true) {x : Operand} (hx' : x ∈ o.op.operands.toList) {id : Nat} (hid : id ∈ (ev (tk k) .other x).ids) :
    ∀ m, m < L.length → tJ rs η m id → (m < k ↔ D m) := by
  intro m hm ht
  by_cases hmk : m = k
  · subst hmk; exact ⟨fun h => by omega, fun h => absurd h hk⟩
  obtain ⟨om, hom⟩ : ∃ om, L[m]? = some om := ⟨_, List.getElem?_eq_getElem hm⟩
  rcases ht with ⟨h1, h2⟩ | ⟨q, h1⟩
  · obtain ⟨p1, p2⟩ := aDI T DF I ho hk hready hr hx' hid hm h1 h2
    exact ⟨fun _ => p2, fun _ => p1⟩
  · cases hb1 : b k m with
    | true => exact ⟨fun _ => sX T DF I ho hk hready m hb1, fun _ => DF.lt hb1⟩
    | false =>
      cases hb2 : b m k with
      | true =>
        have := DF.lt hb2
        exact ⟨fun h => by omega, fun h => absurd (I.closed m h k hb2) hk⟩
      | false =>
        exfalso
        obtain ⟨_, y, q1, q2, q3, q4⟩ := T.mut_lt hom h1
        have hbh := DF.behind m k om o hom ho hmk hb2 hb1 (by rw [q1]; rfl) hl
        obtain ⟨y', e1, e2⟩ := SP.sep m k om o hom ho hmk hb2 hb1 (by rw [q1]; rfl) hl
        rw [q1] at e1; cases e1
        refine aKC e2 (i := id) ?_ ?_
        · rw [T.final DF hom (fun w ow d hw hd hm' => (hbh w ow d hw hd).1 hm') q2]; exact q3
        · refine aBl (List.mem_map_of_mem hx') id ?_
          rw [T.final DF ho (fun w ow d hw hd hm' => (hbh w ow d hw hd).2 hm') hx']; exact hid

theorem aCq (T : TS c L L t0 h0 rs tk η) (DF : hG L b) (SP : Sep L b (tk L.length)) (I : DI n ds L b rs tk η D X a) (ho : L[k]? = some o) (hk : ¬ D k) (hready : ∀ e ∈ o.after.toList, Region.binds .any e = true → D e.on) {id : Nat} (ht : tJ rs η k id) : ∀ m, m < L.length → tJ rs η m id → (m < k ↔ D m) := by
  have hkl : k < L.length := (List.getElem?_eq_some_iff.1 ho).1
  rcases ht with ⟨h1, h2⟩ | ⟨q, h1⟩
  · intro m hm htm
    by_cases hmk : m = k
    · subst hmk; exact ⟨fun h => by omega, fun h => absurd h hk⟩
    rcases htm with ⟨h3, h4⟩ | ⟨q, h3⟩
    · exfalso
      rcases Nat.lt_or_gt_of_ne hmk with h | h
      · have := T.mono (k := m + 1) (k' := k) (by omega) (by omega); omega
      · have := T.mono (k := k + 1) (k' := m) (by omega) (by omega); omega
    · obtain ⟨om, hom⟩ : ∃ om, L[m]? = some om := ⟨_, List.getElem?_eq_getElem hm⟩
      have := (T.mut_lt hom h3).1
      constructor
      · intro h
        have := T.mono (k := m) (k' := k) (by omega) (by omega); omega
      · intro h
        exact absurd (I.made m id q hm h h3 k hkl h1 h2) hk
  · have hr : (rs k).ran = true := by
      cases h : (rs k).ran with
      | true => rfl
      | false => rw [(T.pass k o ho h).2.2] at h1; cases h1
    obtain ⟨_, y, q1, q2, q3, q4⟩ := T.mut_lt ho h1
    exact aDJ T DF SP I ho hk hready hr q4 q2 q3

theorem aCr (T : TS c L L t0 h0 rs tk η) (DF : hG L b) (SP : Sep L b (tk L.length)) (I : DI n ds L b rs tk η D X a) (ho : L[k]? = some o) (hk : ¬ D k) (hready : ∀ e ∈ o.after.toList, Region.binds .any e = true → D e.on) {Y : Cx} {q : Value} (hd : ∀ i, o.dst = some i → i < n) (HY : HR Y) (E : Ext X Y) (hh : Y.h = dI (eA X.h (η k).length (rs k).news) (rs k).mm) (hv : VV Y (rs k).v q) :
    DI n ds L b rs tk η (fun i => D i ∨ i = k) Y (a.put o.dst q) := by
  have hkl : k < L.length := (List.getElem?_eq_some_iff.1 ho).1
  have hsk := T.lenS hkl
  have hmono := T.mono (k := k + 1) (k' := L.length) (by omega) (Nat.le_refl _)
  have hroom : (rs k).news ≠ [] → (η k).length + (rs k).news.length ≤ X.h.length := fun _ => by rw [I.len]; omega
  refine ⟨HY, by rw [hh, yE, tS, I.len], fun id k' hk' hid hyp => ?_, fun m id q hm hD hmm j hj h1 h2 => ?_, fun m hD i hb => ?_, fun i k' hk' hyp => ?_, by
    cases o.dst <;> simp [Act.put, I.size], by have := I.defers.ext E; cases o.dst <;> exact this⟩
  · by_cases ht : tJ rs η k id
    · have hkk' : k < k' := (hyp k hkl ht).2 (.inr rfl)
      have star := aCq T DF SP I ho hk hready ht
      have e1 : hx η k' id = hx η (k + 1) id := T.hx_same hkk' hk' fun m h1 h2 htm => by
        have := (hyp m (by omega) htm).1 h2
        rcases this with h | h
        · have := (star m (by omega) htm).2 h; omega
        · omega
      rw [e1]
      have e2 := I.heap id k (Nat.le_of_lt hkl) hid star
      have hid1 : id < (η (k + 1)).length := by
        rcases ht with ⟨_, h⟩ | ⟨q, h⟩
        · exact h
        · have := (T.mut_lt ho h).1; omega
      unfold hx
      rw [if_pos hid1, hh, T.hs k hkl]
      apply aFv
      rw [pJ _ _ _ hroom]
      by_cases h1 : (η k).length ≤ id ∧ id < (η k).length + (rs k).news.length
      · rw [if_pos h1, List.getElem?_append_right h1.1]
      · have h2 : id < (η k).length := by omega
        rw [if_neg h1, List.getElem?_append_left h2, e2]
        unfold hx
        rw [if_pos h2]
    · rw [hh, aCo _ _ _ (fun q e => ht (.inr ⟨q, e⟩)), pJ _ _ _ hroom, if_neg fun h => ht (.inl ⟨h.1, by omega⟩)]
      refine I.heap id k' hk' hid fun m hm htm => ?_
      have hmk : m ≠ k := by rintro rfl; exact ht htm
      rw [hyp m hm htm]
      exact ⟨fun h => h.resolve_right hmk, .inl⟩
  · rcases hD with hD | rfl
    · exact .inl (I.made m id q hm hD hmm j hj h1 h2)
    · have hr : (rs m).ran = true := by
        cases h : (rs m).ran with
        | true => rfl
        | false => rw [(T.pass m o ho h).2.2] at hmm; cases hmm
      obtain ⟨_, y, q1, q2, q3, q4⟩ := T.mut_lt ho hmm
      exact .inl (aDI T DF I ho hk hready hr q2 q3 hj h1 h2).2
  · rcases hD with hD | rfl
    · exact .inl (I.closed m hD i hb)
    · exact .inl (sX T DF I ho hk hready i hb)
  · by_cases hi : o.dst = some i
    · have hkk' : k < k' := (hyp k o ho hi).2 (.inr rfl)
      have hval : get (tk k') i = (rs k).v := by
        rw [T.tk_same (k := k + 1) (k' := k') hkk' hk' fun m o' h1 h2 hm hdm => by
          have := DF.once m k o' o i hm ho hdm hi; omega]
        rw [T.ts k o ho, if_pos hi]
      rw [hval, hi]
      have hs : i < a.tmps.size := Nat.lt_of_lt_of_le (hd i hi) I.size
      simp [Act.put, Array.getD_eq_getD_getElem?, Array.getElem?_setIfInBounds, hs, hv]
    · have h1 : VV X (get (tk k') i) (a.tmps.getD i undef) := I.tmp i k' hk' fun m o' hm hdm => by
        have hmk : m ≠ k := by rintro rfl; rw [ho] at hm; cases hm; exact hi hdm
        rw [hyp m o' hm hdm]
        exact ⟨fun h => h.resolve_right hmk, .inl⟩
      have h2 : (a.put o.dst q).tmps.getD i undef = a.tmps.getD i undef := by
        cases hdst : o.dst with
        | none => rfl
        | some j =>
          have hji : j ≠ i := by rintro rfl; exact hi hdst
          simp [Act.put, Array.getD_eq_getD_getElem?, Array.getElem?_setIfInBounds, hji]
      rw [h2]; exact h1.ext E

theorem aDK (T : TS c L L t0 h0 rs tk η) (DF : hG L b) (SP : Sep L b (tk L.length)) (I : DI n ds L b rs tk η D X a) (ho : L[k]? = some o) (hk : ¬ D k) (hready : ∀ e ∈ o.after.toList, Region.binds .any e = true → D e.on) (hr : (rs k).ran = true) : ∃ S, S ∧ opD c (iB L) (η k).length (tk k) X.h o.op o.type = some (S, (rs k).v, (rs k).news, (rs k).mm) := by
  have hkl : k < L.length := (List.getElem?_eq_some_iff.1 ho).1
  obtain ⟨⟨S, hS, e⟩, hb⟩ := T.ran k o ho hr
  refine ⟨S, hS, ?_⟩
  cases hl : lM o with
  | false => rw [aHY hl (h' := η k)]; exact e
  | true =>
    rw [yX (h' := η k)]
    · exact e
    · intro id hid
      obtain ⟨v, hv, hj⟩ := xF hid
      obtain ⟨x, hx', rfl⟩ := List.mem_map.1 hv
      have hlt := hb x hx' id hj
      have := I.heap id k (Nat.le_of_lt hkl) (Nat.lt_of_lt_of_le hlt (T.mono (Nat.le_of_lt hkl) (Nat.le_refl _))) (aDJ T DF SP I ho hk hready hr hl hx' hj)
      rw [this]; unfold hx; rw [if_pos hlt]

theorem aCs (T : TS c L L t0 h0 rs tk η) (DF : hG L b) (SP : Sep L b (tk L.length)) (I : DI n ds L b rs tk η D X a) (ho : L[k]? = some o) (hk : ¬ D k) (hready : ∀ e ∈ o.after.toList, Region.binds .any e = true → D e.on) : ∀ j, j < (rs k).news.length → X.h[(η k).length + j]? = some .dead := by
  have hkl : k < L.length := (List.getElem?_eq_some_iff.1 ho).1
  intro j hj
  have hsk := T.lenS hkl
  have hmono := T.mono (k := k + 1) (k' := L.length) (by omega) (Nat.le_refl _)
  have := I.heap ((η k).length + j) k (Nat.le_of_lt hkl) (by omega) (aCq T DF SP I ho hk hready (.inl ⟨by omega, by omega⟩))
  rw [this]; unfold hx; rw [if_neg (by omega)]
end ready
end

end Lam
namespace Lam
open Go

theorem aDL {listed : Array Bool} {i j : Nat} (h : listed.getD j true = false) : (listed.setIfInBounds j true).getD i false = true ↔ (listed.getD i false = true ∨ i = j) := by
  have hj : j < listed.size := by
    rcases Nat.lt_or_ge j listed.size with h1 | h1
    · exact h1
    · rw [Array.getD_eq_getD_getElem?, Array.getElem?_eq_none h1] at h; cases h
  simp only [Array.getD_eq_getD_getElem?, Array.getElem?_setIfInBounds]
  by_cases e : j = i
  · subst e; simp [hj]
  · simp [e, Ne.symm e]

section
variable {ro : Option Nat} {P : Program} {n : Nat} {ds : DB} {c : Ctx} {ops : Array Oper} {t0 : List (Nat × AV)} {h0 : List AObj} {rs : Nat → Rec} {tk : Nat → List (Nat × AV)} {η : Nat → List AObj} {b : Nat → Nat → Bool}

theorem aJz (C : lP P c) (T : TS c ops.toList ops.toList t0 h0 rs tk η) (DF : hG ops.toList b) (SP : Sep ops.toList b (tk ops.toList.length)) (hd : ∀ o ∈ ops.toList, ∀ i, o.dst = some i → i < n) (nf : Nat) {Q : Exit → Act → World → Prop} {X00 : Cx}
    (hQ : ∀ Y a', HR Y → Ext X00 Y → SR n ds Y (tk ops.toList.length) a' → Y.h = η ops.toList.length → Q .normal a' Y.w) :
    ∀ (fuel : Nat) (listed : Array Bool) (X : Cx) (a : Act), listed.size = ops.size → listed.toList.count false ≤ fuel → Ext X00 X → DI n ds ops.toList b rs tk η (fun i => listed.getD i false = true) X a →
      wpAnyIn (FW ro) nf P .any ops Q fuel listed a X.w := by
  have fin : ∀ (listed : Array Bool) (X : Cx) (a : Act), Ext X00 X → DI n ds ops.toList b rs tk η (fun i => listed.getD i false = true) X a → (∀ i, i < ops.toList.length → listed.getD i false = true) → Q .normal a X.w := by
    intro listed X a E I hall
    refine hQ X a I.hr E ⟨fun i => I.tmp i _ (Nat.le_refl _) fun m o hm _ => ?_, I.size, I.defers⟩ ?_
    · have := (List.getElem?_eq_some_iff.1 hm).1
      exact ⟨fun _ => hall m this, fun _ => this⟩
    · apply List.ext_getElem?
      intro id
      rcases Nat.lt_or_ge id (η ops.toList.length).length with h | h
      · rw [I.heap id _ (Nat.le_refl _) h fun m hm _ => ⟨fun _ => hall m hm, fun _ => hm⟩]
        unfold hx; rw [if_pos h]
      · rw [List.getElem?_eq_none h, List.getElem?_eq_none (by rw [I.len]; exact h)]
  have noready : ∀ (listed : Array Bool), listed.size = ops.size → Region.ready .any ops listed = [] → ∀ i, i < ops.toList.length → listed.getD i false = true := by
    intro listed hsz hr i
    induction i using Nat.strongRecOn with
    | _ i ih =>
      intro hi
      have hi' : i < ops.size := by simpa using hi
      apply Classical.byContradiction
      intro hc
      have : i ∈ Region.ready .any ops listed := by
        rw [mem_ready]
        refine ⟨?_, ops[i], by simp [hi'], fun e he hb => ?_⟩
        · rw [Array.getD_eq_getD_getElem?, Array.getElem?_eq_getElem (by omega)] at hc ⊢
          simpa using hc
        · have hlt := DF.edge i ops[i] (by simp [hi']) e (by simpa using he) hb
          exact ih e.on hlt (by omega)
      rw [hr] at this; cases this
  intro fuel
  induction fuel with
  | zero =>
    intro listed X a hsz hc E I
    have hall : ∀ i, i < ops.toList.length → listed.getD i false = true := by
      intro i hi
      have hi' : i < listed.size := by rw [hsz]; simpa using hi
      have h0 : listed.toList.count false = 0 := by omega
      rw [List.count_eq_zero] at h0
      rw [Array.getD_eq_getD_getElem?, Array.getElem?_eq_getElem hi']
      simp only [Option.getD_some]
      cases hx : listed[i] with
      | true => rfl
      | false => exact absurd (by rw [← hx]; simp) h0
    refine ⟨?_, fin listed X a E I hall⟩
    apply List.eq_nil_iff_forall_not_mem.2
    intro j hj
    rw [mem_ready] at hj
    obtain ⟨h1, o, ho, _⟩ := hj
    have hjl : j < ops.toList.length := by simpa using (Array.getElem?_eq_some_iff.1 ho).1
    have := hall j hjl
    have hjs : j < listed.size := by rw [hsz]; simpa using hjl
    rw [Array.getD_eq_getD_getElem?, Array.getElem?_eq_getElem hjs] at this h1
    simp only [Option.getD_some] at this h1
    rw [this] at h1; cases h1
  | succ fuel ih =>
    intro listed X a hsz hc E I
    refine ⟨fun hr => fin listed X a E I (noready listed hsz hr), fun k hk => ?_⟩
    rw [mem_ready] at hk
    obtain ⟨hkf, o, ho, hedges⟩ := hk
    have hoL : ops.toList[k]? = some o := by simpa using ho
    have hks : k < listed.size := by rw [hsz]; exact (Array.getElem?_eq_some_iff.1 ho).1
    have hkD : ¬ listed.getD k false = true := by
      rw [Array.getD_eq_getD_getElem?, Array.getElem?_eq_getElem hks] at hkf ⊢
      simp only [Option.getD_some] at hkf ⊢
      rw [hkf]; simp
    have hready : ∀ e ∈ o.after.toList, Region.binds .any e = true → listed.getD e.on false = true := fun e he hb => hedges e (by simpa using he) hb
    have hdo : ∀ i, o.dst = some i → i < n := hd o (List.mem_of_getElem? hoL)
    have hset : (fun i => (listed.setIfInBounds k true).getD i false = true) = fun i => listed.getD i false = true ∨ i = k := by
      funext i; exact propext (aDL hkf)
    have hcnt : (listed.setIfInBounds k true).toList.count false ≤ fuel := by
      have hlf : listed.toList[k]'(by simpa using hks) = false := by
        rw [Array.getD_eq_getD_getElem?, Array.getElem?_eq_getElem hks] at hkf
        simpa using hkf
      rw [Array.toList_setIfInBounds, List.count_set (by simpa using hks), hlf]
      have e1 : (false == false) = true := rfl
      have e2 : ¬ (true == false) = true := by decide
      rw [if_pos e1, if_neg e2]; omega
    have next : ∀ (Y : Cx) (q : Value), HR Y → Ext X Y → Y.h = dI (eA X.h (η k).length (rs k).news) (rs k).mm → VV Y (rs k).v q →
        wpAnyIn (FW ro) nf P .any ops Q fuel (listed.setIfInBounds k true) (a.put o.dst q) Y.w := by
      intro Y q HY EY hh hv
      refine ih _ Y _ (by simpa using hsz) hcnt (E.trans EY) ?_
      rw [hset]
      exact aCr T DF SP I hoL hkD hready hdo HY EY hh hv
    unfold wpOpIn
    rw [ho]
    have pass : (rs k).ran = false → Region.wanted o (yielded ops a.tmps) = false →
        (if Region.wanted o (yielded ops a.tmps) = true then o.wpIn (FW ro) nf P a X.w (wpAnyIn (FW ro) nf P .any ops Q fuel (listed.setIfInBounds k true)) Q
          else (∀ f, o.about P X.w a.eval = some f → (FW ro).fn f) ∧ wpAnyIn (FW ro) nf P .any ops Q fuel (listed.setIfInBounds k true) (a.put o.dst undef) X.w) := by
      intro hr hw
      rw [if_neg (by rw [hw]; simp)]
      obtain ⟨p1, p2, p3⟩ := T.pass k o hoL hr
      exact ⟨fun _ _ => trivial, next X undef I.hr (Ext.refl X) (by rw [p2, p3]; rfl) (by rw [p1]; rfl)⟩
    have run : (rs k).ran = true → Region.wanted o (yielded ops a.tmps) = true →
        (if Region.wanted o (yielded ops a.tmps) = true then o.wpIn (FW ro) nf P a X.w (wpAnyIn (FW ro) nf P .any ops Q fuel (listed.setIfInBounds k true)) Q
          else (∀ f, o.about P X.w a.eval = some f → (FW ro).fn f) ∧ wpAnyIn (FW ro) nf P .any ops Q fuel (listed.setIfInBounds k true) (a.put o.dst undef) X.w) := by
      intro hr hw
      rw [if_pos hw]
      obtain ⟨S, hS, e⟩ := aDK T DF SP I hoL hkD hready hr
      have hto := uK (ro := ro) (a := a) I.hr C (fun x hx d => zD T DF I hoL hkD hready hx d) (aCs T DF SP I hoL hkD hready) e hS
      refine hto nf _ Q fun q w' hg => ?_
      obtain ⟨Y, rfl, hYh, HY, EY, hv⟩ := hg
      exact next Y q HY EY hYh hv
    have hg := T.guard k o hoL
    show (if Region.wanted o (yielded ops a.tmps) = true then _ else _)
    split at hg
    · rename_i hgn
      exact run hg (by simp [Region.wanted, hgn])
    · rename_i j want hgs
      obtain ⟨g, hgt, hcase⟩ := hg
      have hv := aAN T DF I hoL hkD hready hgs hgt
      rcases hcase with ⟨bb, hb, hran⟩ | ⟨hb, hran⟩
      · rw [hb] at hv
        have hy := sT hgt hv
        have hw : Region.wanted o (yielded ops a.tmps) = (bb == want) := by simp [Region.wanted, hgs, hy]
        cases hbw : (bb == want) with
        | true => exact run (by rw [hran, hbw]) (by rw [hw, hbw])
        | false => exact pass (by rw [hran, hbw]) (by rw [hw, hbw])
      · rw [hb] at hv
        have hy := zA hgt hv
        exact pass hran (by simp [Region.wanted, hgs, hy])

theorem aCt {L : List Oper} {o : Oper} {j g : Nat} (h : iX L j = some g) : iX (L ++ [o]) j = some g := by
  unfold iX at h ⊢
  cases e : L[j]? with
  | none => rw [e] at h; cases h
  | some q =>
    rw [e] at h
    rw [List.getElem?_append_left (List.getElem?_eq_some_iff.1 e).1, e]; exact h

theorem aIa (C : lP P c) {L : List Oper} {o1 : Oper} (hops : ops.toList = L ++ [o1]) (hg1 : o1.guard = none)
    (hedge : ∀ e ∈ o1.after.toList, Region.binds .any e = true → e.on < L.length) (hbef : ∀ i, i < L.length → ∃ e ∈ o1.after.toList, Region.binds .any e = true ∧ (e.on = i ∨ b e.on i = true))
    (T : TS c L L t0 h0 rs tk η) (DF : hG L b) (SP : Sep L b (tk L.length)) (hd : ∀ o ∈ L, ∀ i, o.dst = some i → i < n) (nf : Nat) {Q : Exit → Act → World → Prop} {X00 : Cx}
    (hl : ∀ (Y : Cx) (a' : Act) (next : Act → World → Prop), HR Y → Ext X00 Y → SR n ds Y (tk L.length) a' → Y.h = η L.length → (∀ a2 w2, Q .normal a2 w2 → next a2 w2) → o1.wpIn (FW ro) nf P a' Y.w next Q) :
    ∀ (fuel : Nat) (listed : Array Bool) (X : Cx) (a : Act), listed.size = ops.size → listed.getD L.length true = false → listed.toList.count false ≤ fuel → Ext X00 X → DI n ds L b rs tk η (fun i => listed.getD i false = true) X a →
      wpAnyIn (FW ro) nf P .any ops Q fuel listed a X.w := by
  have hsize : ops.size = L.length + 1 := by rw [← Array.length_toList, hops]; simp
  have hlast : ops[L.length]? = some o1 := by rw [← Array.getElem?_toList, hops]; simp
  have hget : ∀ k, k < L.length → ops[k]? = L[k]? := fun k hk => by rw [← Array.getElem?_toList, hops, List.getElem?_append_left hk]
  have fin : ∀ (listed : Array Bool) (X : Cx) (a : Act), Ext X00 X → DI n ds L b rs tk η (fun i => listed.getD i false = true) X a → (∀ i, i < L.length → listed.getD i false = true) → SR n ds X (tk L.length) a ∧ X.h = η L.length := by
    intro listed X a E I hall
    refine ⟨⟨fun i => I.tmp i _ (Nat.le_refl _) fun m o hm _ => ?_, I.size, I.defers⟩, ?_⟩
    · have := (List.getElem?_eq_some_iff.1 hm).1
      exact ⟨fun _ => hall m this, fun _ => this⟩
    · apply List.ext_getElem?
      intro id
      rcases Nat.lt_or_ge id (η L.length).length with h | h
      · rw [I.heap id _ (Nat.le_refl _) h fun m hm _ => ⟨fun _ => hall m hm, fun _ => hm⟩]
        unfold hx; rw [if_pos h]
      · rw [List.getElem?_eq_none h, List.getElem?_eq_none (by rw [I.len]; exact h)]
  have noready : ∀ (listed : Array Bool), listed.size = ops.size → Region.ready .any ops listed = [] → ∀ i, i < L.length → listed.getD i false = true := by
    intro listed hsz hr i
    induction i using Nat.strongRecOn with
    | _ i ih =>
      intro hi
      apply Classical.byContradiction
      intro hc
      have : i ∈ Region.ready .any ops listed := by
        rw [mem_ready]
        have hoi : ops[i]? = some L[i] := by rw [hget i hi]; exact List.getElem?_eq_getElem hi
        refine ⟨?_, L[i], hoi, fun e he hb => ?_⟩
        · rw [Array.getD_eq_getD_getElem?, Array.getElem?_eq_getElem (by omega)] at hc ⊢
          simpa using hc
        · have hlt := DF.edge i L[i] (List.getElem?_eq_getElem hi) e (by simpa using he) hb
          exact ih e.on hlt (by omega)
      rw [hr] at this; cases this
  intro fuel
  induction fuel with
  | zero =>
    intro listed X a hsz hlf hc E I
    exfalso
    have hm : L.length < listed.size := by omega
    have h0 : listed.toList.count false = 0 := by omega
    rw [List.count_eq_zero] at h0
    rw [Array.getD_eq_getD_getElem?, Array.getElem?_eq_getElem hm] at hlf
    simp only [Option.getD_some] at hlf
    exact h0 (by rw [← hlf]; simp)
  | succ fuel ih =>
    intro listed X a hsz hlf hc E I
    have hm : L.length < listed.size := by omega
    by_cases hall : ∀ i, i < L.length → listed.getD i false = true
    · obtain ⟨hS, hh⟩ := fin listed X a E I hall
      have hmr : L.length ∈ Region.ready .any ops listed := by
        rw [mem_ready]
        exact ⟨hlf, o1, hlast, fun e he hb => hall e.on (hedge e (by simpa using he) hb)⟩
      refine ⟨fun hr => (by rw [hr] at hmr; cases hmr), fun k hk => ?_⟩
      rw [mem_ready] at hk
      obtain ⟨hkf, o, ho, _⟩ := hk
      have hkm : k = L.length := by
        have h1 : k < ops.size := (Array.getElem?_eq_some_iff.1 ho).1
        apply Classical.byContradiction
        intro hne
        have h2 := hall k (by omega)
        rw [Array.getD_eq_getD_getElem?, Array.getElem?_eq_getElem (by omega)] at hkf h2
        simp only [Option.getD_some] at hkf h2
        rw [h2] at hkf; cases hkf
      subst hkm
      rw [hlast] at ho; cases ho
      unfold wpOpIn
      rw [hlast]
      show (if Region.wanted o1 (yielded ops a.tmps) = true then _ else _)
      rw [if_pos (by simp [Region.wanted, hg1])]
      refine hl X a _ I.hr E hS hh fun a2 w2 hq => ?_
      refine wpAnyIn_done ?_ hq _
      apply List.eq_nil_iff_forall_not_mem.2
      intro j hj
      rw [mem_ready] at hj
      obtain ⟨h1, o, ho, _⟩ := hj
      have hjl : j < ops.size := (Array.getElem?_eq_some_iff.1 ho).1
      rw [Array.getD_eq_getD_getElem?, Array.getElem?_setIfInBounds] at h1
      by_cases e : L.length = j
      · subst e
        rw [if_pos rfl, if_pos hm] at h1; cases h1
      · rw [if_neg e] at h1
        have h2 := hall j (by omega)
        rw [Array.getD_eq_getD_getElem?, Array.getElem?_eq_getElem (by omega)] at h2
        rw [Array.getElem?_eq_getElem (by omega)] at h1
        simp only [Option.getD_some] at h1 h2
        rw [h2] at h1; cases h1
    refine ⟨fun hr => absurd (noready listed hsz hr) hall, fun k hk => ?_⟩
    rw [mem_ready] at hk
    obtain ⟨hkf, o, ho, hedges⟩ := hk
    have hks : k < listed.size := by rw [hsz]; exact (Array.getElem?_eq_some_iff.1 ho).1
    have hkL : k < L.length := by
      apply Classical.byContradiction
      intro hge
      have hkm : k = L.length := by omega
      subst hkm
      rw [hlast] at ho; cases ho
      refine hall fun i hi => ?_
      obtain ⟨e, he, hb, h1⟩ := hbef i hi
      have h2 := hedges e (by simpa using he) hb
      rcases h1 with rfl | h1
      · exact h2
      · exact I.closed _ h2 _ h1
    have hoL : L[k]? = some o := by rw [← hget k hkL]; exact ho
    have hkD : ¬ listed.getD k false = true := by
      rw [Array.getD_eq_getD_getElem?, Array.getElem?_eq_getElem hks] at hkf ⊢
      simp only [Option.getD_some] at hkf ⊢
      rw [hkf]; simp
    have hready : ∀ e ∈ o.after.toList, Region.binds .any e = true → listed.getD e.on false = true := fun e he hb => hedges e (by simpa using he) hb
    have hdo : ∀ i, o.dst = some i → i < n := hd o (List.mem_of_getElem? hoL)
    have hset : (fun i => (listed.setIfInBounds k true).getD i false = true) = fun i => listed.getD i false = true ∨ i = k := by
      funext i; exact propext (aDL hkf)
    have hcnt : (listed.setIfInBounds k true).toList.count false ≤ fuel := by
      have hlf : listed.toList[k]'(by simpa using hks) = false := by
        rw [Array.getD_eq_getD_getElem?, Array.getElem?_eq_getElem hks] at hkf
        simpa using hkf
      rw [Array.toList_setIfInBounds, List.count_set (by simpa using hks), hlf]
      have e1 : (false == false) = true := rfl
      have e2 : ¬ (true == false) = true := by decide
      rw [if_pos e1, if_neg e2]; omega
    have hlf2 : (listed.setIfInBounds k true).getD L.length true = false := by
      rw [Array.getD_eq_getD_getElem?, Array.getElem?_setIfInBounds, if_neg (by omega), ← Array.getD_eq_getD_getElem?]; exact hlf
    have next : ∀ (Y : Cx) (q : Value), HR Y → Ext X Y → Y.h = dI (eA X.h (η k).length (rs k).news) (rs k).mm → VV Y (rs k).v q →
        wpAnyIn (FW ro) nf P .any ops Q fuel (listed.setIfInBounds k true) (a.put o.dst q) Y.w := by
      intro Y q HY EY hh hv
      refine ih _ Y _ (by simpa using hsz) hlf2 hcnt (E.trans EY) ?_
      rw [hset]
      exact aCr T DF SP I hoL hkD hready hdo HY EY hh hv
    unfold wpOpIn
    rw [ho]
    have pass : (rs k).ran = false → Region.wanted o (yielded ops a.tmps) = false →
        (if Region.wanted o (yielded ops a.tmps) = true then o.wpIn (FW ro) nf P a X.w (wpAnyIn (FW ro) nf P .any ops Q fuel (listed.setIfInBounds k true)) Q
          else (∀ f, o.about P X.w a.eval = some f → (FW ro).fn f) ∧ wpAnyIn (FW ro) nf P .any ops Q fuel (listed.setIfInBounds k true) (a.put o.dst undef) X.w) := by
      intro hr hw
      rw [if_neg (by rw [hw]; simp)]
      obtain ⟨p1, p2, p3⟩ := T.pass k o hoL hr
      exact ⟨fun _ _ => trivial, next X undef I.hr (Ext.refl X) (by rw [p2, p3]; rfl) (by rw [p1]; rfl)⟩
    have run : (rs k).ran = true → Region.wanted o (yielded ops a.tmps) = true →
        (if Region.wanted o (yielded ops a.tmps) = true then o.wpIn (FW ro) nf P a X.w (wpAnyIn (FW ro) nf P .any ops Q fuel (listed.setIfInBounds k true)) Q
          else (∀ f, o.about P X.w a.eval = some f → (FW ro).fn f) ∧ wpAnyIn (FW ro) nf P .any ops Q fuel (listed.setIfInBounds k true) (a.put o.dst undef) X.w) := by
      intro hr hw
      rw [if_pos hw]
      obtain ⟨S, hS, e⟩ := aDK T DF SP I hoL hkD hready hr
      have hto := uK (ro := ro) (a := a) I.hr C (fun x hx d => zD T DF I hoL hkD hready hx d) (aCs T DF SP I hoL hkD hready) e hS
      refine hto nf _ Q fun q w' hg => ?_
      obtain ⟨Y, rfl, hYh, HY, EY, hv⟩ := hg
      exact next Y q HY EY hYh hv
    have hg := T.guard k o hoL
    show (if Region.wanted o (yielded ops a.tmps) = true then _ else _)
    split at hg
    · rename_i hgn
      exact run hg (by simp [Region.wanted, hgn])
    · rename_i j want hgs
      obtain ⟨g, hgt, hcase⟩ := hg
      have hv := aAN T DF I hoL hkD hready hgs hgt
      have hgt' : iX ops.toList j = some g := by rw [hops]; exact aCt hgt
      rcases hcase with ⟨bb, hb, hran⟩ | ⟨hb, hran⟩
      · rw [hb] at hv
        have hy := sT hgt' hv
        have hw : Region.wanted o (yielded ops a.tmps) = (bb == want) := by simp [Region.wanted, hgs, hy]
        cases hbw : (bb == want) with
        | true => exact run (by rw [hran, hbw]) (by rw [hw, hbw])
        | false => exact pass (by rw [hran, hbw]) (by rw [hw, hbw])
      · rw [hb] at hv
        have hy := zA hgt' hv
        exact pass hran (by simp [Region.wanted, hgs, hy])

theorem aDM {X : Cx} (H : HR X) {w' : World} (hw : w'.heap = X.w.heap) (hv : jI X.w w') : HR ⟨X.S, X.μ, X.h, w'⟩ ∧ Ext X ⟨X.S, X.μ, X.h, w'⟩ := by
  have E : Ext X ⟨X.S, X.μ, X.h, w'⟩ := by
    refine ⟨fun _ h => h, fun b _ => by rw [hw], fun b hb => .inl hb, fun i b hb => .inl hb, fun b _ _ => by rw [hw], by rw [hw]; exact Nat.le_refl _, fun i k ver l hl => ?_, fun i b h1 h2 => ⟨h2, h1⟩, hv⟩
    exact ⟨k, ver, l, hl, Nat.le_refl _, fun _ => ⟨rfl, rfl, fun b hb => ⟨hb, by simp only [dZ, hw]; exact Nat.le_refl _⟩⟩, fun h => ⟨h, rfl⟩⟩
  refine ⟨⟨H.len, fun i o ho => ?_, H.apart, fun i b hb => ?_, fun b hb => ?_⟩, E⟩
  · obtain ⟨b, hb, hor⟩ := H.obj i o ho
    exact ⟨b, hb, hor.ext E fun k _ => by rw [hw]⟩
  · have := H.live i b hb
    rw [hw]; exact this
  · rw [hw]; exact H.old b hb

theorem aCu (C : lP P c) : lP P c.noS := ⟨C.tab, C.sh, C.fok⟩

theorem aGt (C : lP P c) (hm : P.follows .mixedOrders = true) (nf : Nat) {X : Cx} {a : Act} {t : List (Nat × AV)} (H : HR X) (R : SR n ds X t a) {id : Nat} (hd : ∀ o ∈ ops.toList, ∀ i, o.dst = some i → i < n)
    {κ : List (Nat × AV) → List AObj → Prop} {Q : Exit → Act → World → Prop} (hok : vP ops.toList (gA ops.toList []) = true)
    (hw : opsW c.noS (iB ops.toList) ops.toList (fun _ _ _ => False) (fun t h => sepW t (rN ops.toList (gA ops.toList [])) (κ t h)) ops.toList [] t X.h)
    (hQ : ∀ Y t' a', HR Y → Ext X Y → SR n ds Y t' a' → κ t' Y.h → Q .normal a' Y.w) : (Code.region id ops true).wpIn (FW ro) nf P Q a X.w := by
  have DF := aDH hok
  obtain ⟨rs, tk, η, T, hκ⟩ := sW (aCu C) rfl (fun _ _ _ _ h => h) (fun _ _ _ _ h => h) ops.toList ops.toList [] t X a hd (fun o ho => by
    obtain ⟨k, hk⟩ := List.getElem?_of_mem ho
    exact DF.noNil k o hk) (Kn.nil t) H R hw
  obtain ⟨hκ, hsep⟩ := aBq hκ
  have SP : Sep ops.toList (fun k j => ((gA ops.toList []).getD k 0).testBit j) (tk ops.toList.length) := by
    refine ⟨fun i j oi oj hi hj hne h1 h2 hmu hl => ?_⟩
    have hp := zC hi hj hne h1 h2 hmu hl
    have hq : (lW (iB ops.toList) oi, oj.op.operands.toList) ∈ rN ops.toList (gA ops.toList []) := by
      unfold rN
      refine List.mem_map.2 ⟨_, hp, ?_⟩
      simp only [hi, hj]
    obtain ⟨x, hx, hb⟩ := hsep _ hq
    exact ⟨x, hx, hb⟩
  refine wpIn_region_any hm ?_
  obtain ⟨H1, E1⟩ := aDM H (w' := { X.w with drawn := X.w.drawn + 1 }) rfl ⟨rfl, rfl, rfl⟩
  obtain ⟨H2, E2⟩ := tT H1 ((η ops.toList.length).length - X.h.length)
  have E3 := E1.trans E2
  have R3 := R.ext E3
  have hs0 : (η 0).length ≤ (η ops.toList.length).length := T.mono (Nat.zero_le _) (Nat.le_refl _)
  have hη0 : η 0 = X.h := T.h0
  rw [hη0] at hs0
  refine aJz (aCu C) T DF SP hd nf (X00 := X) (fun Y a' HY EY RY hh => hQ Y _ a' HY EY RY (by rw [hh]; exact hκ)) ops.size (Array.replicate ops.size false) _ a (by simp) ?_ E3 ?_
  · simp
  · have hF : ∀ i, ¬ (Array.replicate ops.size false).getD i false = true := by
      intro i
      simp only [Array.getD_eq_getD_getElem?, Array.getElem?_replicate]
      split <;> simp
    refine ⟨H2, ?_, fun id k hk hid hyp => ?_, fun m id o hm hD => absurd hD (hF m), fun k hD => absurd hD (hF k), fun i k hk hyp => ?_, R.size, R3.defers⟩
    · simp only [Cx.pad, List.length_append, List.length_replicate]; omega
    · rw [rG, T.hx_same (k := 0) (k' := k) (Nat.zero_le _) hk fun m _ h2 ht => hF m ((hyp m (by omega) ht).1 h2)]
      unfold hx
      rw [hη0]
      by_cases h1 : id < X.h.length
      · simp only [h1, if_true]
      · simp only [h1, if_false]
        rw [if_pos (by show id < X.h.length + _; omega)]
    · rw [T.tk_same (k := 0) (k' := k) (Nat.zero_le _) hk fun m o _ h2 hm' hdm => hF m ((hyp m o hm' hdm).1 h2), T.t0]
      exact R3.v i
theorem aFw (o : Oper) : ∀ (L : List Oper) (acc : List Nat) (k : Nat), k < acc.length + L.length → (gA (L ++ [o]) acc).getD k 0 = (gA L acc).getD k 0
  | [], acc, k, hk => by
    rw [List.nil_append, nM, sU [] _ k (by simp at hk ⊢; omega)]
    simp only [List.length_nil, Nat.add_zero] at hk
    simp only [gA, List.getD_eq_getElem?_getD, List.getElem?_append_left hk]
  | q :: L, acc, k, hk => by
    rw [List.cons_append, nM, nM]
    exact aFw o L _ k (by simp at hk ⊢; omega)

theorem aGu (C : lP P c) (CS : SOk P c.envS) (hdr : c.drawn = false) {B : Cx} (YY : ∀ l, YOk P B l (c.envY l)) (hm : P.follows .mixedOrders = true) (nf : Nat) {X : Cx} {a : Act} {t : List (Nat × AV)} (EB : Ext B X) (H : HR X) (R : SR n ds X t a) {id : Nat} (hd : ∀ o ∈ ops.toList, ∀ i, o.dst = some i → i < n)
    {L : List Oper} {o1 : Oper} (hlast : aCR ops.toList = some (L, o1))
    {κ : AV → List (Nat × AV) → List AObj → Prop} {KP : List (Nat × AV) → AV → List AObj → Prop} {Q : Exit → Act → World → Prop} (hok : vP L (gA L []) = true)
    (hw : opsW c.noS (iB L) L (fun _ _ _ => False) (fun t h => sepW t (rN L (gA L [])) (opW c [] t h o1.op o1.type (fun v h' => κ v t h') (KP t))) L [] t X.h)
    (hQ : ∀ Y v t' a', HR Y → Ext X Y → SR n ds Y (putO o1.dst v t') a' → κ v t' Y.h → Q .normal a' Y.w)
    (hP : ∀ Y t' v q a', HR Y → Ext X Y → SR n ds Y t' a' → KP t' v Y.h → VV Y v q → Q (.panic [{ v := q, recovered := false }]) a' Y.w) : (Code.region id ops true).wpIn (FW ro) nf P Q a X.w := by
  obtain ⟨hops, hg1, hedge, hbef⟩ : ops.toList = L ++ [o1] ∧ o1.guard = none ∧ (∀ e ∈ o1.after.toList, Region.binds .any e = true → e.on < L.length) ∧ ∀ i, i < L.length → ∃ e ∈ o1.after.toList, Region.binds .any e = true ∧ (e.on = i ∨ ((gA L []).getD e.on 0).testBit i = true) := by
    unfold aCR at hlast
    split at hlast
    · cases hlast
    rename_i q r hrev
    split at hlast
    rotate_left
    · cases hlast
    rename_i hop hgd
    split at hlast
    rotate_left
    · cases hlast
    rename_i hcond
    cases hlast
    have hops : ops.toList = r.reverse ++ [o1] := by
      have := congrArg List.reverse hrev
      rwa [List.reverse_reverse, List.reverse_cons] at this
    rw [Bool.and_eq_true] at hcond
    obtain ⟨h1, h2⟩ := hcond
    have hed : ∀ e ∈ o1.after.toList, Region.binds .any e = true → e.on < r.reverse.length := fun e he hb => by
      rw [List.all_eq_true] at h2
      have := h2 e he
      rw [hb] at this
      simpa using this
    refine ⟨hops, hgd, hed, fun i hi => ?_⟩
    rw [List.all_eq_true] at h1
    have hbit := h1 i (List.mem_range.2 (by simpa using hi))
    rw [hops] at hbit
    have hlen : r.length = r.reverse.length := by simp
    rw [hlen] at hbit
    obtain ⟨o', ho', e, he, hb, h3⟩ := aDh (r.reverse ++ [o1]) [] r.reverse.length i (Nat.zero_le _) hbit
    have e1 : o' = o1 := by
      simp only [List.length_nil, Nat.sub_zero] at ho'
      rw [List.getElem?_append_right (Nat.le_refl _), Nat.sub_self] at ho'
      simpa using ho'.symm
    subst e1
    refine ⟨e, he, hb, h3.imp (fun h => h) fun h3 => ?_⟩
    rwa [aFw _ _ _ _ (by simpa using hed e he hb)] at h3
  have DF := aDH hok
  have hdL : ∀ o ∈ L, ∀ i, o.dst = some i → i < n := fun o ho => hd o (by rw [hops]; exact List.mem_append_left _ ho)
  have hd1 : ∀ i, o1.dst = some i → i < n := hd o1 (by rw [hops]; simp)
  obtain ⟨rs, tk, η, T, hκ⟩ := sW (aCu C) rfl (fun _ _ _ _ h => h) (fun _ _ _ _ h => h) L L [] t X a hdL (fun o ho => by
    obtain ⟨k, hk⟩ := List.getElem?_of_mem ho
    exact DF.noNil k o hk) (Kn.nil t) H R hw
  obtain ⟨hκ, hsep⟩ := aBq hκ
  have SP : Sep L (fun k j => ((gA L []).getD k 0).testBit j) (tk L.length) := by
    refine ⟨fun i j oi oj hi hj hne h1 h2 hmu hl => ?_⟩
    have hp := zC hi hj hne h1 h2 hmu hl
    have hq : (lW (iB L) oi, oj.op.operands.toList) ∈ rN L (gA L []) := by
      unfold rN
      refine List.mem_map.2 ⟨_, hp, ?_⟩
      simp only [hi, hj]
    obtain ⟨x, hx, hb⟩ := hsep _ hq
    exact ⟨x, hx, hb⟩
  refine wpIn_region_any hm ?_
  obtain ⟨H1, E1⟩ := aDM H (w' := { X.w with drawn := X.w.drawn + 1 }) rfl ⟨rfl, rfl, rfl⟩
  obtain ⟨H2, E2⟩ := tT H1 ((η L.length).length - X.h.length)
  have E3 := E1.trans E2
  have R3 := R.ext E3
  have hs0 : (η 0).length ≤ (η L.length).length := T.mono (Nat.zero_le _) (Nat.le_refl _)
  have hη0 : η 0 = X.h := T.h0
  rw [hη0] at hs0
  have hsize : ops.size = L.length + 1 := by rw [← Array.length_toList, hops]; simp
  refine aIa (ds := ds) (aCu C) hops hg1 hedge hbef T DF SP hdL nf (X00 := X) (fun Y a' next HY EY RY hh hn => ?_) ops.size (Array.replicate ops.size false) _ a (by simp) ?_ ?_ E3 ?_
  · have hk2 : opW c [] (tk L.length) Y.h o1.op o1.type (fun v h' => κ v (tk L.length) h') (KP (tk L.length)) := by rw [hh]; exact hκ
    refine aDD C CS hdr YY (EB.trans EY) HY RY hk2 nf (fun Z v q HZ EZ hk hv => hn _ _ ?_) (fun Z v q HZ EZ hk hv => hP Z _ v q a' HZ (EY.trans EZ) (RY.ext EZ) hk hv)
    exact hQ Z v _ _ HZ (EY.trans EZ) ((RY.ext EZ).putO hd1 hv) hk
  · rw [Array.getD_eq_getD_getElem?, Array.getElem?_replicate, if_pos (by omega)]; rfl
  · simp
  · have hF : ∀ i, ¬ (Array.replicate ops.size false).getD i false = true := by
      intro i
      simp only [Array.getD_eq_getD_getElem?, Array.getElem?_replicate]
      split <;> simp
    refine ⟨H2, ?_, fun id k hk hid hyp => ?_, fun m id o hm hD => absurd hD (hF m), fun k hD => absurd hD (hF k), fun i k hk hyp => ?_, R.size, R3.defers⟩
    · simp only [Cx.pad, List.length_append, List.length_replicate]; omega
    · rw [rG, T.hx_same (k := 0) (k' := k) (Nat.zero_le _) hk fun m _ h2 ht => hF m ((hyp m (by omega) ht).1 h2)]
      unfold hx
      rw [hη0]
      by_cases h1 : id < X.h.length
      · simp only [h1, if_true]
      · simp only [h1, if_false]
        rw [if_pos (by show id < X.h.length + _; omega)]
    · rw [T.tk_same (k := 0) (k' := k) (Nat.zero_le _) hk fun m o _ h2 hm' hdm => hF m ((hyp m o hm' hdm).1 h2), T.t0]
      exact R3.v i
end

end Lam
namespace Lam
open Go

def ExR (n : Nat) (ds : DB) (Y : Cx) : rD → List (Nat × AV) → Exit → Act → Prop
  | .normal, t, e, a => e = .normal ∧ SR n ds Y t a
  | .exit i, t, e, a => e = .exit i ∧ SR n ds Y t a
  | .goto l, t, e, a => e = .goto l ∧ SR n ds Y t a
  | .ret, t, e, a => e = .ret ∧ SR n ds Y t a
  | .pan v, t, e, a => (∃ q, e = .panic [{ v := q, recovered := false }] ∧ VV Y v q) ∧ SR n ds Y t a

def QOk (n : Nat) (ds : DB) (X : Cx) (κ : rD → St → Prop) (Q : Exit → Act → World → Prop) : Prop :=
  ∀ Y ae t' e a', HR Y → Ext X Y → ExR n ds Y ae t' e a' → κ ae ⟨t', Y.h⟩ → Q e a' Y.w

theorem QOk.ext {n : Nat} {ds : DB} {X Y : Cx} {κ : rD → St → Prop} {Q : Exit → Act → World → Prop} (h : QOk n ds X κ Q) (E : Ext X Y) : QOk n ds Y κ Q :=
  fun Z ae t' e a' HZ EZ hx hk => h Z ae t' e a' HZ (E.trans EZ) hx hk

def From (g : Option Nat) (code rest : Code) : Prop :=
  match g with
  | none => rest = code
  | some l => findLabel code l = some rest

section
variable {ro : Option Nat} {P : Program} {n : Nat} {ds : DB} {c : Ctx}

theorem aLt {X : Cx} {κ : rD → St → Prop} {Q : Exit → Act → World → Prop} {b : Code} {nf : Nat}
    (hQ : QOk n ds X κ Q)
    (hb : ∀ Y t a, HR Y → Ext X Y → SR n ds Y t a → W c none b ⟨t, Y.h⟩ κ → b.wpIn (FW ro) nf P Q a Y.w) :
    QOk n ds X (fun e st' => match e with
      | .normal => W c none b st' κ
      | e => κ e st') (Exit.then (b.wpIn (FW ro) nf P Q) Q) := by
  intro Y ae t' e a' HY EY hx hk
  cases ae with
  | normal => obtain ⟨rfl, R⟩ := hx; exact hb Y t' a' HY EY R hk
  | exit i => obtain ⟨rfl, R⟩ := hx; exact hQ Y (.exit i) t' _ a' HY EY ⟨rfl, R⟩ hk
  | goto i => obtain ⟨rfl, R⟩ := hx; exact hQ Y (.goto i) t' _ a' HY EY ⟨rfl, R⟩ hk
  | ret => obtain ⟨rfl, R⟩ := hx; exact hQ Y .ret t' _ a' HY EY ⟨rfl, R⟩ hk
  | pan v => obtain ⟨⟨q, rfl, hv⟩, h1⟩ := hx; exact hQ Y (.pan v) t' _ a' HY EY ⟨⟨q, rfl, hv⟩, h1⟩ hk


/-! ### Ranges over functions -/
theorem aDN {X : Cx} {n : Nat} : ∀ (L : List Nat) (vs : List AV) (cs : List Value) (t : List (Nat × AV)) (tmps : Array Value), VVs X vs cs → vs.length = L.length → (∀ i ∈ L, i < n) → SR n ds X t { tmps := tmps, defers := [] } →
    SR n ds X (yL L vs t) { tmps := (L.zip cs).foldl (fun tmps p => tmps.setIfInBounds p.1 p.2) tmps, defers := [] }
  | [], vs, cs, t, tmps, _, _, _, R => by cases vs <;> simpa [yL] using R
  | i :: L, [], cs, t, tmps, _, hl, _, R => by simp at hl
  | i :: L, v :: vs, cs, t, tmps, hv, hl, hn, R => by
    simp only [VVs] at hv
    obtain ⟨c, d, rfl, h1, h2⟩ := hv
    have := aDN L vs d (put i v t) (tmps.setIfInBounds i c) h2 (by simpa using hl) (fun j hj => hn j (by simp [hj])) (R.put (hn i (by simp)) h1)
    simpa [yL] using this

theorem aDO : ∀ {L : List Nat} {vs : List AV} {t : List (Nat × AV)} {A : List (Nat × AV) → Prop}, aHy L vs t A → vs.length = L.length ∧ A (yL L vs t)
  | [], [], t, A, h => ⟨rfl, h⟩
  | [], _ :: _, t, A, h => h.elim
  | i :: L, [], t, A, h => h.elim
  | i :: L, v :: vs, t, A, h => by
    obtain ⟨h1, h2⟩ := aDO (L := L) (vs := vs) (t := put i v t) (A := A) h
    exact ⟨by simp [h1], h2⟩

theorem aGv {X : Cx} (H : HR X) {l : Lst} {cs : List Value} (h : VC X (.sl true l) cs) :
    ∃ Y : Cx, Y.w = X.w ∧ HR Y ∧ Ext X Y ∧ Y.h = X.h ++ lN (mK l X.h.length).2 ∧ VC Y (mK l X.h.length).1 cs := by
  unfold mK
  split
  · rename_i hl
    simp only [VC] at h
    obtain ⟨c, hcs, hsl⟩ := h
    obtain ⟨Y, hw, HY, EY, hh, hv⟩ := aBp H hl hsl
    exact ⟨Y, hw, HY, EY, hh, by simp only [VC]; exact ⟨c, hcs, hv⟩⟩
  · exact ⟨X, rfl, H, Ext.refl X, by simp [lN], h⟩

mutual
theorem aAO : ∀ (v : AV) {X : Cx} {cs : List Value}, HR X → VC X v cs → ∃ Y : Cx, Y.w = X.w ∧ HR Y ∧ Ext X Y ∧ Y.h = X.h ++ lN (gK v X.h.length).2 ∧ VC Y (gK v X.h.length).1 cs
  | .sl true l, X, cs, H, h => by simp only [gK]; exact aGv H h
  | .sl false l, X, cs, H, h => ⟨X, rfl, H, Ext.refl X, by simp [gK, lN], by simpa only [gK] using h⟩
  | .agg vs, X, cs, H, h => by
    simp only [VC] at h
    obtain ⟨Y, h1, h2, h3, h4, h5⟩ := zE vs H h
    simp only [gK, VC]
    exact ⟨Y, h1, h2, h3, h4, h5⟩
  | .top, X, cs, H, h | .und, X, cs, H, h | .int _ _, X, cs, H, h | .bool _, X, cs, H, h | .str _, X, cs, H, h | .arr _, X, cs, H, h | .tup _, X, cs, H, h | .sref _ _ _ _ _, X, cs, H, h
  | .ep _ _ _, X, cs, H, h | .nilp, X, cs, H, h | .ptr _ _, X, cs, H, h | .map _, X, cs, H, h | .fn _ _ _, X, cs, H, h | .nilfn, X, cs, H, h | .iface _ _, X, cs, H, h | .niliface, X, cs, H, h =>
    ⟨X, rfl, H, Ext.refl X, by simp [gK, lN], by simpa only [gK] using h⟩
theorem zE : ∀ (vs : List AV) {X : Cx} {cs : List Value}, HR X → VCs X vs cs → ∃ Y : Cx, Y.w = X.w ∧ HR Y ∧ Ext X Y ∧ Y.h = X.h ++ lN (kW vs X.h.length).2 ∧ VCs Y (kW vs X.h.length).1 cs
  | [], X, cs, H, h => ⟨X, rfl, H, Ext.refl X, by simp [kW, lN], by simpa only [kW] using h⟩
  | v :: r, X, cs, H, h => by
    simp only [VCs] at h
    obtain ⟨a, b, rfl, h1, h2⟩ := h
    obtain ⟨Y, q1, q2, q3, q4, q5⟩ := aAO v H h1
    obtain ⟨Z, r1, r2, r3, r4, r5⟩ := zE r q2 (VCs.ext q3 h2)
    have hl : Y.h.length = X.h.length + (gK v X.h.length).2.length := by rw [q4]; simp [lN]
    rw [hl] at r4 r5
    simp only [kW, VCs]
    refine ⟨Z, by rw [r1, q1], r2, q3.trans r3, ?_, a, b, rfl, VC.ext r3 q5, r5⟩
    rw [r4, q4]
    simp [lN]
end

theorem aGw {X : Cx} {i : Nat} {o : AObj} (H : HR X) (h0 : X.h[i]? = some o) :
    ∃ Z : Cx, Z.w = X.w ∧ HR Z ∧ Ext X Z ∧ Z.h = pR i o X.h ∧ X.h.length ≤ Z.h.length ∧ ∀ j, j ≠ i → j < X.h.length → Z.h[j]? = X.h[j]? := by
  have triv : ∃ Z : Cx, Z.w = X.w ∧ HR Z ∧ Ext X Z ∧ Z.h = X.h ∧ X.h.length ≤ Z.h.length ∧ ∀ j, j ≠ i → j < X.h.length → Z.h[j]? = X.h[j]? :=
    ⟨X, rfl, H, Ext.refl X, rfl, Nat.le_refl _, fun _ _ _ => rfl⟩
  unfold pR
  split
  rotate_left
  · exact triv
  rename_i v
  unfold aBJ
  split
  · exact triv
  have hi : i < X.h.length := (List.getElem?_eq_some_iff.1 h0).1
  obtain ⟨b, hb, b', cs, elem, rfl, hc, hvc⟩ := H.obj _ _ h0
  obtain ⟨Y, hw, HY, EY, hh, hv⟩ := aAO v H hvc
  have hiY : Y.h[i]? = some (.box v) := by rw [hh, List.getElem?_append_left hi]; exact h0
  have hmY : Y.μ[i]? = some (some b') := (EY.oth i b' (by rw [h0]; rfl) hb).1
  let Z : Cx := ⟨Y.S, Y.μ.set i (some b'), Y.h.set i (.box (gK v X.h.length).1), Y.w⟩
  have U : Upd Y Z i (.box v) (.box (gK v X.h.length).1) (some b') (some b') := by
    refine ⟨rfl, rfl, rfl, hiY, hmY, fun k _ _ => rfl, Nat.le_refl _, .inl rfl, fun k hk hs => ?_, fun k ver l h => (by cases h), fun _ => .inr ⟨rfl, rfl⟩, jI.refl _⟩
    cases hk
    obtain ⟨ver', l', e⟩ := (HY.live i b' hmY).2 hs
    rw [hiY] at e; cases e
  have EZ := U.ext HY
  have HZ : HR Z := U.hr HY fun E => ⟨b', cs, elem, rfl, by show Y.w.heap[b']? = _; rw [hw]; exact hc, VC.ext E hv⟩
  refine ⟨Z, hw, HZ, EY.trans EZ, ?_, ?_, fun j hj hjl => ?_⟩
  · show Y.h.set i _ = _
    rw [hh]
  · show _ ≤ (Y.h.set i _).length
    rw [List.length_set, hh, List.length_append]; omega
  · show (Y.h.set i _)[j]? = _
    rw [List.getElem?_set, if_neg (Ne.symm hj), hh, List.getElem?_append_left hjl]

theorem aGx (a : AV) {X : Cx} (H : HR X) : ∃ Y : Cx, Y.w = X.w ∧ HR Y ∧ Ext X Y ∧ Y.h = aBK a X.h := by
  unfold aBK
  split
  · rename_i id
    cases ho : X.h[id]? with
    | none =>
      rw [List.getD_eq_getElem?_getD, ho]
      exact ⟨X, rfl, H, Ext.refl X, rfl⟩
    | some o =>
      obtain ⟨Z, h1, h2, h3, h4, _⟩ := aGw H ho
      rw [List.getD_eq_getElem?_getD, ho]
      exact ⟨Z, h1, h2, h3, h4⟩
  · exact ⟨X, rfl, H, Ext.refl X, rfl⟩

theorem xI : ∀ (l : List AV) {X : Cx}, HR X → ∃ Y : Cx, Y.w = X.w ∧ HR Y ∧ Ext X Y ∧ Y.h = boxH l X.h
  | [], X, H => ⟨X, rfl, H, Ext.refl X, rfl⟩
  | a :: r, X, H => by
    obtain ⟨Y, h1, h2, h3, h4⟩ := aGx a H
    obtain ⟨Z, q1, q2, q3, q4⟩ := xI r h2
    exact ⟨Z, by rw [q1, h1], q2, h3.trans q3, by rw [q4, h4]; rfl⟩

theorem aMA {X : Cx} (H : HR X) {r : Loop} (hr : r = { r with state := .ready, pending := none }) :
    ∃ Y : Cx, Y.w = (X.w.alloc (.deferred (some []))).alloc (.loop r) ∧ HR Y ∧ Ext X Y ∧ Y.h = X.h ++ [.lp .ready none r] ∧ Y.μ[X.h.length]? = some (some (X.w.heap.size + 1)) ∧
      (∀ i : Nat, Y.μ[i]? ≠ some (some X.w.heap.size)) ∧ ¬ Y.S X.w.heap.size := by
  obtain ⟨H1, E1⟩ := tT H 1
  have hsz : ((X.w.alloc (.deferred (some []))).alloc (.loop r)).heap = (X.w.heap.push (.deferred (some []))).push (.loop r) := rfl
  have hml : (X.pad 1).μ.length = X.h.length + 1 := by simp [Cx.pad, H.len]
  let Y : Cx := ⟨X.S, (X.pad 1).μ.set X.h.length (some (X.w.heap.size + 1)), (X.pad 1).h.set X.h.length (.lp .ready none r), (X.w.alloc (.deferred (some []))).alloc (.loop r)⟩
  have old : ∀ k, k < X.w.heap.size → Y.w.heap[k]? = X.w.heap[k]? := fun k hk => by
    show ((X.w.heap.push (.deferred (some []))).push (.loop r))[k]? = _
    rw [Array.getElem?_push, Array.getElem?_push, if_neg (by simp; omega), if_neg (by omega)]
  have U : Upd (X.pad 1) Y X.h.length .dead (.lp .ready none r) none (some (X.w.heap.size + 1)) := by
    refine ⟨rfl, rfl, rfl, ?_, ?_, fun k hk _ => old k hk, ?_, .inr ⟨_, rfl, ?_, ?_⟩, fun k h => (by cases h), fun k ver l h => (by cases h), fun _ => .inl rfl, ⟨rfl, rfl, rfl⟩⟩
    · rw [rG, if_neg (by omega), if_pos (by omega)]
    · rw [aJq H.len, if_neg (by omega), if_pos (by omega)]
    · show X.w.heap.size ≤ ((X.w.heap.push (.deferred (some []))).push (.loop r)).size
      simp; omega
    · show X.w.heap.size ≤ X.w.heap.size + 1; omega
    · show X.w.heap.size + 1 < ((X.w.heap.push (.deferred (some []))).push (.loop r)).size
      simp
  have hnew : Y.w.heap[X.w.heap.size + 1]? = some (.loop r) := by
    show ((X.w.heap.push (.deferred (some []))).push (.loop r))[X.w.heap.size + 1]? = _
    rw [Array.getElem?_push, if_pos (by simp)]
  have HY : HR Y := U.hr H1 fun _ => ⟨_, rfl, by rw [hnew, ← hr]⟩
  have hμ : Y.μ[X.h.length]? = some (some (X.w.heap.size + 1)) := by
    show ((X.pad 1).μ.set X.h.length (some (X.w.heap.size + 1)))[X.h.length]? = _
    rw [List.getElem?_set, if_pos rfl, if_pos (by omega)]
  refine ⟨Y, rfl, HY, E1.trans (U.ext H1), ?_, hμ, fun i hi => ?_, fun hs => ?_⟩
  · show (X.h ++ List.replicate 1 AObj.dead).set X.h.length (.lp .ready none r) = _
    simp
  · by_cases e : X.h.length = i
    · subst e; rw [hμ] at hi; simp at hi
    · have : (X.pad 1).μ[i]? = some (some X.w.heap.size) := by
        have h2 : ((X.pad 1).μ.set X.h.length (some (X.w.heap.size + 1)))[i]? = some (some X.w.heap.size) := hi
        rwa [List.getElem?_set, if_neg e] at h2
      have := (H1.live _ _ this).1
      exact absurd this (Nat.lt_irrefl _)
  · exact absurd (H.old _ hs) (Nat.lt_irrefl _)

theorem aCv {Y : Cx} (H : HR Y) {id l : Nat} {st : LoopState} {pd : Option Code} {r : Loop} (hh : Y.h[id]? = some (.lp st pd r)) (hm : Y.μ[id]? = some (some l)) (st' : LoopState) (pd' : Option Code) :
    Y.w.heap[l]? = some (.loop { r with state := st, pending := pd }) ∧ ∃ Z : Cx, Z.w = Y.w.putObj l (.loop { r with state := st', pending := pd' }) ∧ Z.h = Y.h.set id (.lp st' pd' r) ∧ HR Z ∧ Ext Y Z := by
  obtain ⟨b, hb, b', rfl, hl⟩ := H.obj _ _ hh
  rw [hm] at hb
  obtain rfl : l = b' := by simpa using hb
  have hlt : l < Y.w.heap.size := (Array.getElem?_eq_some_iff.1 hl).1
  let Z : Cx := ⟨Y.S, Y.μ.set id (some l), Y.h.set id (.lp st' pd' r), Y.w.putObj l (.loop { r with state := st', pending := pd' })⟩
  have U : Upd Y Z id (.lp st pd r) (.lp st' pd' r) (some l) (some l) := by
    refine ⟨rfl, rfl, rfl, hh, hm, fun k _ hk => ?_, ?_, .inl rfl, fun k hk hs => ?_, fun k ver l h => (by cases h), fun _ => .inr ⟨rfl, rfl⟩, ⟨rfl, rfl, rfl⟩⟩
    · exact World.putObj_heap_other fun e => hk (by rw [e])
    · show _ ≤ (Y.w.putObj l _).heap.size
      simp
    · cases hk
      obtain ⟨ver, l', e⟩ := (H.live _ _ hm).2 hs
      rw [hh] at e; cases e
  exact ⟨hl, Z, rfl, rfl, U.hr H fun _ => ⟨_, rfl, World.putObj_heap_same hlt⟩, U.ext H⟩

theorem aEC {X Y : Cx} (E : Ext X Y) {id l : Nat} {o : AObj} (hh : X.h[id]? = some o) (ho : rowO (some o) = none) (hm : X.μ[id]? = some (some l)) : Y.μ[id]? = some (some l) :=
  (E.oth id l (by rw [hh]; exact ho) hm).1

theorem aKF {X1 : Cx} {t : List (Nat × AV)} {r : Loop} {id l : Nat} {o : AObj} (hps : ∀ i ∈ r.params.toList, i < n) (ho : X1.h[id]? = some o) (hro : rowO (some o) = none) (hmu : X1.μ[id]? = some (some l))
    (R1 : SR n ds X1 t { tmps := r.tmps, defers := [] })
    (ihA : ∀ nf κ t X a Q, Ext X1 X → HR X → SR n ds X t a → W c none r.assign ⟨t, X.h⟩ κ → QOk n ds X κ Q → r.assign.wpIn (FW (some l)) nf P Q a X.w)
    (ihB : ∀ nf κ t X a Q, Ext X1 X → HR X → SR n ds X t a → W c none r.body ⟨t, X.h⟩ κ → QOk n ds X κ Q → r.body.wpIn (FW (some l)) nf P Q a X.w) :
    YOk P X1 l (fun args h' K => aIR r.params.toList (fun t h k => W c none r.assign ⟨t, h⟩ fun e s => k e s.t s.h) (fun t h k => W c none r.body ⟨t, h⟩ fun e s => k e s.t s.h) t id r args h' K) := by
  intro args h K hw X cs EX H hXh hv
  subst hXh
  obtain ⟨hlp, hw⟩ := hw
  obtain ⟨hlen, hw⟩ := aDO hw
  have hm := aEC EX ho hro hmu
  obtain ⟨hl, _⟩ := aCv H hlp hm .busy none
  have hsz : cs.size = r.params.size := by
    have := sO hv
    rw [Array.length_toList, hlen, Array.length_toList] at this
    exact this
  refine ⟨_, _, _, _, run_yield hl hsz, fun nf => roundIn_of_wpIn trivial ?_⟩
  have R0 := aDN (ds := ds) r.params.toList args cs.toList t r.tmps hv hlen hps (R1.ext EX)
  have hz : ((r.params.zip cs).foldl (fun tmps (t, a) => tmps.setIfInBounds t a) r.tmps) = (r.params.toList.zip cs.toList).foldl (fun tmps p => tmps.setIfInBounds p.1 p.2) r.tmps := by
    rw [← Array.foldl_toList, Array.toList_zip]
  rw [← hz] at R0
  refine ihA nf _ _ X _ _ EX H R0 hw fun Y ae t' e a' HY EY hx hk => ?_
  cases ae with
  | exit i => exact hk.elim
  | goto i => exact hk.elim
  | ret => exact hk.elim
  | pan v => exact hk.elim
  | normal =>
    obtain ⟨rfl, RY⟩ := hx
    obtain ⟨hlpY, hk⟩ := hk
    have hmY := aEC (EX.trans EY) ho hro hmu
    obtain ⟨hlY, Z, hZw, hZh, HZ, EZ⟩ := aCv HY hlpY hmY .busy none
    refine ⟨_, run_beginRound hlY rfl, ?_⟩
    have e1 : Y.w.putObj l (.loop { { r with state := .ready, pending := none } with state := .busy }) = Z.w := hZw.symm
    rw [e1]
    rw [← hZh] at hk
    refine ihB nf _ t' Z a' _ ((EX.trans EY).trans EZ) HZ (RY.ext EZ) hk fun V ae t'' e a'' HV EV hx hk => ?_
    have EXV : Ext X V := (EY.trans EZ).trans EV
    have hmV := aEC (EX.trans EXV) ho hro hmu
    have fin : ∀ (jump : Option Code) (st : LoopState), (if jump.isNone then LoopState.ready else LoopState.done) = st → lpIs V.h id .busy r ∧ K (.ret (.bool jump.isNone)) (V.h.set id (.lp st jump r)) →
        ∃ v w', (Instr.endRound l jump).run P V.w = .ok v w' ∧ ∃ Y ao, Y.w = w' ∧ HR Y ∧ Ext X Y ∧ OutR Y ao (.returned v) ∧ K ao Y.h := by
      rintro jump st hst ⟨hlpV, hk⟩
      obtain ⟨hlV, U, hUw, hUh, HU, EU⟩ := aCv HV hlpV hmV st jump
      refine ⟨_, _, run_endRound jump hlV, U, .ret (.bool jump.isNone), ?_, HU, EXV.trans EU, ⟨_, rfl, rfl⟩, ?_⟩
      · rw [hUw, ← hst]
      · rw [hUh]; exact hk
    cases ae with
    | normal => obtain ⟨rfl, _⟩ := hx; exact fin none .ready rfl hk
    | ret => obtain ⟨rfl, _⟩ := hx; exact fin (some .ret) .done rfl hk
    | exit i => obtain ⟨rfl, _⟩ := hx; exact fin (some (.exit i)) .done rfl hk
    | goto i => obtain ⟨rfl, _⟩ := hx; exact fin (some (.goto i)) .done rfl hk
    | pan v => exact hk.elim

theorem aJA : ISOk P c.noI.iterS := ⟨fun _ _ _ _ _ _ h => h.elim⟩

theorem aDi (hm : P.follows .mixedOrders = true) {B : Cx} :
    ∀ (code : Code) (ds : DB) (_ : ds.sz ≤ B.w.heap.size) (ro : Option Nat) (c : Ctx) (_ : lP P c) (_ : SOk P c.envS) (_ : c.drawn = false) (_ : ∀ l, YOk P B l (c.envY l)) (_ : ISOk P c.iterS) (_ : ro = none ∨ ∀ f Y a h K, ¬ c.iterS f Y a h K) (nf : Nat) (g : Option Nat) (κ : rD → St → Prop) (t : List (Nat × AV)) (X : Cx) (a : Act) (Q : Exit → Act → World → Prop) (rest : Code),
      kB n code = true → Ext B X → HR X → SR n ds X t a → W c g code ⟨t, X.h⟩ κ → QOk n ds X κ Q → From g code rest → rest.wpIn (FW ro) nf P Q a X.w := by
  intro code
  induction code with
  | skip =>
    intro ds hbase ro c C CS hdr YY CI hI nf g κ t X a Q rest hd EB H R hw hQ hf
    cases g with
    | none => obtain rfl := hf; exact wpIn_skip (hQ X .normal t _ a H (Ext.refl X) ⟨rfl, R⟩ (by simpa only [W] using hw))
    | some l => simp only [W] at hw
  | ret =>
    intro ds hbase ro c C CS hdr YY CI hI nf g κ t X a Q rest hd EB H R hw hQ hf
    cases g with
    | none => obtain rfl := hf; exact wpIn_ret (hQ X .ret t _ a H (Ext.refl X) ⟨rfl, R⟩ (by simpa only [W] using hw))
    | some l => simp only [W] at hw
  | exit id =>
    intro ds hbase ro c C CS hdr YY CI hI nf g κ t X a Q rest hd EB H R hw hQ hf
    cases g with
    | none => obtain rfl := hf; exact wpIn_exit (hQ X (.exit id) t _ a H (Ext.refl X) ⟨rfl, R⟩ (by simpa only [W] using hw))
    | some l => simp only [W] at hw
  | goto l =>
    intro ds hbase ro c C CS hdr YY CI hI nf g κ t X a Q rest hd EB H R hw hQ hf
    cases g with
    | none => obtain rfl := hf; exact wpIn_goto (hQ X (.goto l) t _ a H (Ext.refl X) ⟨rfl, R⟩ (by simpa only [W] using hw))
    | some l => simp only [W] at hw
  | label l =>
    intro ds hbase ro c C CS hdr YY CI hI nf g κ t X a Q rest hd EB H R hw hQ hf
    cases g with
    | none => obtain rfl := hf; exact wpIn_label (hQ X .normal t _ a H (Ext.refl X) ⟨rfl, R⟩ (by simpa only [W] using hw))
    | some l' =>
      simp only [From, findLabel] at hf
      split at hf
      · cases hf
        exact wpIn_skip (hQ X .normal t _ a H (Ext.refl X) ⟨rfl, R⟩ (by simpa only [W] using hw))
      · cases hf
  | refuse w => intro ds hbase ro c C CS hdr YY CI hI nf g κ t X a Q rest hd EB H R hw hQ hf; cases g <;> simp only [W] at hw
  | rangeFunc f ps x y ihx ihy =>
    intro ds hbase ro c C CS hdr YY CI hI nf g κ t X a Q rest hd EB H R hw hQ hf
    cases g with
    | some l => simp only [W] at hw
    | none =>
      obtain rfl := hf
      simp only [W] at hw
      simp only [kB, Bool.and_eq_true] at hd
      obtain ⟨⟨hps, hdx⟩, hdy⟩ := hd
      have hps : ∀ i ∈ ps.toList, i < n := by
        intro i hi
        have := List.all_eq_true.1 hps i hi
        simpa using this
      unfold aIS vQ aBL at hw
      split at hw
      rotate_left
      · exact hw.elim
      rename_i q gf cap hg
      obtain ⟨X', hXw, H', E', hXh⟩ := xI (gets t (c.loop (dJ x)).box) H
      rw [← hXh] at hw
      rw [← hXw]
      replace EB := EB.trans E'
      replace R := R.ext E'
      replace hQ := hQ.ext E'
      replace H := H'
      have hro : ro = none := by
        rcases hI with h | h
        · exact h
        · exact (h _ _ _ _ _ (hw 0 default)).elim
      subst hro
      have hv := R.ev f .func
      rw [hg] at hv
      simp only [VV] at hv
      obtain ⟨ca, cd, hfe, hf1, hf2⟩ := hv
      simp only [VVs, Array.toList_eq_nil_iff] at hf1
      subst hf1
      refine wpIn_rangeFunc fun fn _ => ?_
      obtain ⟨X1, hX1w, H1, E1, hX1h, hX1m, hnm, hnS⟩ := aMA H (r := { state := .ready, pending := none, fn, tmps := a.tmps, params := ps, assign := x, body := y, defers := X'.w.heap.size }) rfl
      have hlp : X1.h[X'.h.length]? = some (.lp .ready none { state := .ready, pending := none, fn, tmps := a.tmps, params := ps, assign := x, body := y, defers := X'.w.heap.size }) := by
        rw [hX1h]; simp
      have R1 := R.ext E1
      have EB1 := EB.trans E1
      have hyok : YOk P X1 (X'.w.heap.size + 1) _ := aKF (c := c.noI) (n := n) (ds := ⟨ds.sz, []⟩) (t := t) (r := { state := .ready, pending := none, fn, tmps := a.tmps, params := ps, assign := x, body := y, defers := X'.w.heap.size }) hps hlp rfl hX1m
        ⟨R1.v, R1.size, kO.nil⟩
        (fun nf κ t X a Q E H R hw hQ => ihx ⟨ds.sz, []⟩ hbase (some (_ + 1)) c.noI ⟨C.tab, C.sh, C.fok⟩ CS hdr YY aJA (.inr fun _ _ _ _ _ h => h) nf none κ t X a Q x hdx (EB1.trans E) H R hw hQ rfl)
        (fun nf κ t X a Q E H R hw hQ => ihy ⟨ds.sz, []⟩ hbase (some (_ + 1)) c.noI ⟨C.tab, C.sh, C.fok⟩ CS hdr YY aJA (.inr fun _ _ _ _ _ h => h) nf none κ t X a Q y hdy (EB1.trans E) H R hw hQ rfl)
      have hw := hw (X'.w.heap.size + 1) { state := .ready, pending := none, fn, tmps := a.tmps, params := ps, assign := x, body := y, defers := X'.w.heap.size }
      rw [← hX1h] at hw
      have hargs : VVs X1 (.fn (.yield (X'.w.heap.size + 1)) [] [] :: cap) ((#[] ++ #[Value.func (.yield (X'.w.heap.size + 1)) #[] #[]]) ++ cd).toList := by
        have h1 : VVs X1 [AV.fn (.yield (X'.w.heap.size + 1)) [] []] [Value.func (.yield (X'.w.heap.size + 1)) #[] #[]] := ⟨_, _, rfl, ⟨#[], #[], rfl, rfl, rfl⟩, rfl⟩
        have := nX h1 ((VVs.ext E1) hf2)
        simpa using this
      obtain ⟨hent, hcall⟩ := CI.spec _ _ _ _ _ _ hw X1 _ hyok H1 rfl hargs
      have hres : (resolve a.eval (rangeCall f (X'.w.heap.size + 1)) 0).run P X1.w = .ok { target := .fn (.func gf) cd, args := #[] ++ #[Value.func (.yield (X'.w.heap.size + 1)) #[] #[]] } X1.w := by
        simp only [resolve, rangeCall, hfe, Deferred.ofValue, Sem.run_pure, List.map_toArray, List.map_cons, List.map_nil]
        rfl
      refine ⟨X'.w.heap.size + 1, [{ target := .collected X'.w.heap.size, args := #[] }], X1.w, _, _, gf, _, _, by rw [run_enterLoop_outer, hX1w], hres, fun _ _ => trivial, hent _, fun h => (by cases h), CallsIn.mono (aBe hcall) fun e w'' he => ?_⟩
      obtain ⟨Y, ao, rfl, HY, EY, hor, hk⟩ := he
      have hdef : kO ds Y ({ target := .collected X'.w.heap.size, args := #[] } :: a.defers) := by
        obtain ⟨mk, hmk, hmks⟩ := R.defers
        refine kO.ext EY ⟨_ :: mk, by rw [hmk]; rfl, ⟨_, rfl, Nat.le_trans hbase EB.grow, ?_, hnm, hnS, fun d' hd' e => ?_⟩, hmks.ext E1⟩
        · rw [hX1w]
          show ((X'.w.heap.push (.deferred (some []))).push _)[X'.w.heap.size]? = _
          rw [Array.getElem?_push, Array.getElem?_push, if_neg (by simp), if_pos rfl]
        · have := hmks.lt d' hd' e
          exact absurd this (Nat.lt_irrefl _)
      have R2 : SR n ds Y t { a with defers := { target := .collected X'.w.heap.size, args := #[] } :: a.defers } := ⟨(R1.ext EY).v, R.size, hdef⟩
      cases ao with
      | pan v =>
        obtain ⟨q, rfl, hvq⟩ := hor
        exact hQ Y (.pan v) t _ _ HY (E1.trans EY) ⟨⟨q, rfl, hvq⟩, R2⟩ hk
      | ret v =>
        obtain ⟨q, rfl, hvq⟩ := hor
        have hmY := aEC EY hlp rfl hX1m
        have fin : ∀ (st : LoopState) (pd : Option Code) (r' : Loop), Y.h[X'.h.length]? = some (.lp st pd r') → r' = { state := .ready, pending := none, fn, tmps := a.tmps, params := ps, assign := x, body := y, defers := X'.w.heap.size } → st ≠ .busy →
            ∃ Z : Cx, (Instr.endLoop (X'.w.heap.size + 1)).run P Y.w = .ok pd Z.w ∧ HR Z ∧ Ext X' Z ∧ Z.h = Y.h.set X'.h.length (.lp .exhausted pd r') ∧ SR n ds Z t { a with defers := { target := .collected X'.w.heap.size, args := #[] } :: a.defers } := by
          rintro st pd r' hh rfl hst
          obtain ⟨hl, Z, hZw, hZh, HZ, EZ⟩ := aCv HY hh hmY .exhausted pd
          exact ⟨Z, by rw [run_endLoop hl hst, hZw], HZ, (E1.trans EY).trans EZ, hZh, R2.ext EZ⟩
        unfold aEP endX endO at hk
        simp only at hk
        split at hk
        · rename_i r' hh
          obtain ⟨Z, hend, HZ, EZ, hZh, RZ⟩ := fin _ _ _ hh hk.1 (by simp)
          rw [hk.1] at hZh
          rw [← hZh] at hk
          exact ⟨none, _, hend, hQ Z .normal t _ _ HZ EZ ⟨rfl, RZ⟩ hk.2⟩
        · rename_i r' hh
          obtain ⟨Z, hend, HZ, EZ, hZh, RZ⟩ := fin _ _ _ hh hk.1 (by simp)
          rw [hk.1] at hZh
          rw [← hZh] at hk
          exact ⟨some .ret, _, hend, wpIn_ret (hQ Z .ret t _ _ HZ EZ ⟨rfl, RZ⟩ hk.2)⟩
        · rename_i i r' hh
          obtain ⟨Z, hend, HZ, EZ, hZh, RZ⟩ := fin _ _ _ hh hk.1 (by simp)
          rw [hk.1] at hZh
          rw [← hZh] at hk
          exact ⟨some (.exit i), _, hend, wpIn_exit (hQ Z (.exit i) t _ _ HZ EZ ⟨rfl, RZ⟩ hk.2)⟩
        · rename_i i r' hh
          obtain ⟨Z, hend, HZ, EZ, hZh, RZ⟩ := fin _ _ _ hh hk.1 (by simp)
          rw [hk.1] at hZh
          rw [← hZh] at hk
          exact ⟨some (.goto i), _, hend, wpIn_goto (hQ Z (.goto i) t _ _ HZ EZ ⟨rfl, RZ⟩ hk.2)⟩
        · exact hk.elim
  | seq x y ihx ihy =>
    intro ds hbase ro c C CS hdr YY CI hI nf g κ t X a Q rest hd EB H R hw hQ hf
    simp only [kB, Bool.and_eq_true] at hd
    have hy : ∀ Y t a, HR Y → Ext X Y → SR n ds Y t a → W c none y ⟨t, Y.h⟩ κ → y.wpIn (FW ro) nf P Q a Y.w :=
      fun Y t a HY EY RY hwy => ihy ds hbase ro c C CS hdr YY CI hI nf none κ t Y a Q y hd.2 (EB.trans EY) HY RY hwy (hQ.ext EY) rfl
    cases g with
    | none =>
      obtain rfl := hf
      simp only [W] at hw
      exact wpIn_seq (ihx ds hbase ro c C CS hdr YY CI hI nf none _ t X a _ x hd.1 EB H R hw (aLt hQ hy) rfl)
    | some l =>
      simp only [W, rH] at hw
      simp only [From, findLabel] at hf
      cases hfx : findLabel x l with
      | some rx =>
        rw [hfx] at hf hw
        cases hf
        simp only [Option.isSome_some] at hw
        exact wpIn_seq (ihx ds hbase ro c C CS hdr YY CI hI nf (some l) _ t X a _ rx hd.1 EB H R hw (aLt hQ hy) hfx)
      | none =>
        rw [hfx] at hf hw
        simp only [Option.isSome_none] at hw
        exact ihy ds hbase ro c C CS hdr YY CI hI nf (some l) κ t X a Q rest hd.2 EB H R hw hQ hf
  | cond x p q ihp ihq =>
    intro ds hbase ro c C CS hdr YY CI hI nf g κ t X a Q rest hd EB H R hw hQ hf
    simp only [kB, Bool.and_eq_true] at hd
    cases g with
    | some l => simp only [W] at hw
    | none =>
      obtain rfl := hf
      simp only [W] at hw
      unfold aZ at hw
      split at hw
      rotate_left
      · exact hw.elim
      rename_i b hb
      have hv : a.eval x = .bool b := by have := R.ev x .bool; rw [hb] at this; exact this
      exact wpIn_cond_split hv (fun h => ihp ds hbase ro c C CS hdr YY CI hI nf none κ t X a Q p hd.1 EB H R (hw.1 h) hQ rfl) (fun h => ihq ds hbase ro c C CS hdr YY CI hI nf none κ t X a Q q hd.2 EB H R (hw.2 h) hQ rfl)
  | block id p ih =>
    intro ds hbase ro c C CS hdr YY CI hI nf g κ t X a Q rest hd EB H R hw hQ hf
    simp only [kB] at hd
    cases g with
    | some l => simp only [W] at hw
    | none =>
      obtain rfl := hf
      simp only [W] at hw
      refine wpIn_block (ih ds hbase ro c C CS hdr YY CI hI nf none _ t X a _ p hd EB H R hw (fun Y ae t' e a' HY EY hx hk => ?_) rfl)
      cases ae with
      | normal => obtain ⟨rfl, R⟩ := hx; exact hQ Y .normal t' _ a' HY EY ⟨rfl, R⟩ hk
      | exit i =>
        obtain ⟨rfl, R⟩ := hx
        simp only [Exit.inBlock]
        simp only at hk
        by_cases e : i = id
        · subst e
          simp only [Nat.beq_refl] at hk
          rw [if_pos rfl]
          exact hQ Y .normal t' _ a' HY EY ⟨rfl, R⟩ hk
        · have : Nat.beq i id = false := by rw [Bool.eq_false_iff]; intro h; exact e (Nat.eq_of_beq_eq_true h)
          simp only [this] at hk
          rw [if_neg e]
          exact hQ Y (.exit i) t' _ a' HY EY ⟨rfl, R⟩ hk
      | goto i => obtain ⟨rfl, R⟩ := hx; exact hQ Y (.goto i) t' _ a' HY EY ⟨rfl, R⟩ hk
      | ret => obtain ⟨rfl, R⟩ := hx; exact hQ Y .ret t' _ a' HY EY ⟨rfl, R⟩ hk
      | pan v => obtain ⟨⟨q, rfl, hv⟩, h1⟩ := hx; exact hQ Y (.pan v) t' _ a' HY EY ⟨⟨q, rfl, hv⟩, h1⟩ hk
  | scope p ih =>
    intro ds hbase ro c C CS hdr YY CI hI nf g κ t X a Q rest hd EB H R hw hQ hf
    simp only [kB] at hd
    cases g with
    | some l => simp only [W] at hw
    | none =>
      obtain rfl := hf
      simp only [W] at hw
      refine aHW (fun l a w => ∃ Y t', Y.w = w ∧ HR Y ∧ Ext X Y ∧ SR n ds Y t' a ∧ W c (some l) p ⟨t', Y.h⟩ fun e st' => match e with
          | .goto _ => False
          | e => κ e st') (ih ds hbase ro c C CS hdr YY CI hI nf none _ t X a _ p hd EB H R hw (fun Y ae t' e a' HY EY hx hk => ?_) rfl) ?_
      · cases ae with
        | normal => obtain ⟨rfl, R⟩ := hx; exact hQ Y .normal t' _ a' HY EY ⟨rfl, R⟩ hk
        | exit i => obtain ⟨rfl, R⟩ := hx; exact hQ Y (.exit i) t' _ a' HY EY ⟨rfl, R⟩ hk
        | goto l =>
          obtain ⟨rfl, R⟩ := hx
          simp only [rH] at hk
          simp only [aEB]
          cases hl : (findLabel p l).isSome with
          | true => rw [hl] at hk; rw [if_pos rfl]; exact ⟨Y, t', rfl, HY, EY, R, hk⟩
          | false => rw [hl] at hk; rw [if_neg (by simp)]; exact hQ Y (.goto l) t' _ a' HY EY ⟨rfl, R⟩ hk
        | ret => obtain ⟨rfl, R⟩ := hx; exact hQ Y .ret t' _ a' HY EY ⟨rfl, R⟩ hk
        | pan v => obtain ⟨⟨q, rfl, hv⟩, h1⟩ := hx; exact hQ Y (.pan v) t' _ a' HY EY ⟨⟨q, rfl, hv⟩, h1⟩ hk
      · rintro l rest a w hl ⟨Y, t', rfl, HY, EY, RY, hwy⟩
        refine ih ds hbase ro c C CS hdr YY CI hI nf (some l) _ t' Y a _ rest hd (EB.trans EY) HY RY hwy (fun Z ae t'' e a' HZ EZ hx hk => ?_) hl
        cases ae with
        | normal => obtain ⟨rfl, R⟩ := hx; exact hQ Z .normal t'' _ a' HZ (EY.trans EZ) ⟨rfl, R⟩ hk
        | exit i => obtain ⟨rfl, R⟩ := hx; exact hQ Z (.exit i) t'' _ a' HZ (EY.trans EZ) ⟨rfl, R⟩ hk
        | goto l => exact hk.elim
        | ret => obtain ⟨rfl, R⟩ := hx; exact hQ Z .ret t'' _ a' HZ (EY.trans EZ) ⟨rfl, R⟩ hk
        | pan v => obtain ⟨⟨q, rfl, hv⟩, h1⟩ := hx; exact hQ Z (.pan v) t'' _ a' HZ (EY.trans EZ) ⟨⟨q, rfl, hv⟩, h1⟩ hk
  | loop p ih =>
    intro ds hbase ro c C CS hdr YY CI hI nf g κ t X a Q rest hd EB H R hw hQ hf
    simp only [kB] at hd
    cases g with
    | some l => simp only [W] at hw
    | none =>
      obtain rfl := hf
      simp only [W] at hw
      obtain ⟨X', hXw, H', E', hXh⟩ := xI (gets t (c.loop (dJ p)).box) H
      rw [← hXh] at hw
      rw [← hXw]
      replace EB := EB.trans E'
      replace R := R.ext E'
      replace hQ := hQ.ext E'
      clear H
      have H := H'
      obtain ⟨Y, us, hYw, HY, EY, TY, hw⟩ := vG _ _ H (TV.of_gets R (c.loop (dJ p)).live) hw
      rw [← hYw]
      cases hkp : (c.loop (dJ p)).keep with
      | nil =>
        simp only [hkp] at hw
        obtain ⟨I, ⟨m0, hI0⟩, hround⟩ := hw
        -- the constants
        have TC0 : TV Y a (c.loop (dJ p)).const (gets t (c.loop (dJ p)).const) := (TV.of_gets R _).ext EY
        have TC : TV (Y.drop Y.h.length) a (c.loop (dJ p)).const (AV.norms Y.h.length Y.h (gets t (c.loop (dJ p)).const)) := TC0.norm HY
        refine aAM (fun m a w => ∃ Z vs, Z.w = w ∧ HR Z ∧ Ext Y Z ∧ TV Z a (c.loop (dJ p)).live vs ∧
            TV Z a (c.loop (dJ p)).const (AV.norms Y.h.length Y.h (gets t (c.loop (dJ p)).const)) ∧ n ≤ a.tmps.size ∧ kO ds Z a.defers ∧ I m vs Z.h) m0
          ⟨Y.drop Y.h.length, _, rfl, aAp HY, xH HY (Ext.refl Y) (Nat.le_refl _), TY.norm HY, TC, R.size, (R.defers.ext EY).drop, hI0⟩ ?_
        rintro m a1 w1 ⟨Z, vs, rfl, HZ, EZ, T1, T2, hs, hdf, hIm⟩
        have hb := tU (hround m Z.h) vs T1.len hIm
        refine ih ds hbase ro c C CS hdr YY CI hI nf none _ _ Z a1 _ p hd (EB.trans (EY.trans EZ)) HZ (SR.of_TV T1 T2 hs hdf) hb (fun V ae t' e a' HV EV hx hk => ?_) rfl
        cases ae with
        | normal =>
          obtain ⟨rfl, R'⟩ := hx
          obtain ⟨⟨m', hlt, hI'⟩, hconst⟩ := hk
          refine ⟨m', hlt, V.drop Y.h.length, _, rfl, aAp HV, xH HY (EZ.trans EV) (Nat.le_refl _), (TV.of_gets R' _).norm HV, ?_, R'.size, R'.defers.drop, hI'⟩
          have := (TV.of_gets R' (c.loop (dJ p)).const).norm HV (m := Y.h.length)
          rw [hconst] at this
          exact this
        | exit i => obtain ⟨rfl, R'⟩ := hx; exact hQ V (.exit i) t' _ a' HV (EY.trans (EZ.trans EV)) ⟨rfl, R'⟩ hk
        | goto l => obtain ⟨rfl, R'⟩ := hx; exact hQ V (.goto l) t' _ a' HV (EY.trans (EZ.trans EV)) ⟨rfl, R'⟩ hk
        | ret => obtain ⟨rfl, R'⟩ := hx; exact hQ V .ret t' _ a' HV (EY.trans (EZ.trans EV)) ⟨rfl, R'⟩ hk
        | pan v => obtain ⟨⟨q, rfl, hv⟩, h1⟩ := hx; exact hQ V (.pan v) t' _ a' HV (EY.trans (EZ.trans EV)) ⟨⟨q, rfl, hv⟩, h1⟩ hk
      | cons kk ks =>
        simp only [hkp] at hw
        obtain ⟨hcl, hw⟩ := hw
        obtain ⟨I, ⟨m0, hI0⟩, hround⟩ := hw
        -- the constants
        have TC0 : TV Y a (c.loop (dJ p)).const (gets t (c.loop (dJ p)).const) := (TV.of_gets R _).ext EY
        have TC : TV (Y.drop Y.h.length) a (c.loop (dJ p)).const (AV.norms Y.h.length Y.h (gets t (c.loop (dJ p)).const)) := TC0.norm HY
        refine aAM (fun m a w => ∃ Z vs, Z.w = w ∧ HR Z ∧ Ext Y Z ∧ TV Z a (kk :: ks) (gets t (kk :: ks)) ∧ TV Z a (c.loop (dJ p)).live vs ∧
            TV Z a (c.loop (dJ p)).const (AV.norms Y.h.length Y.h (gets t (c.loop (dJ p)).const)) ∧ n ≤ a.tmps.size ∧ kO ds Z a.defers ∧ I m vs Z.h) m0
          ⟨Y.drop Y.h.length, _, rfl, aAp HY, xH HY (Ext.refl Y) (Nat.le_refl _), ((TV.of_gets R _).ext EY).closed (fun _ h => nK h) (fun _ _ => rfl) hcl, TY.norm HY, TC, R.size, (R.defers.ext EY).drop, hI0⟩ ?_
        rintro m a1 w1 ⟨Z, vs, rfl, HZ, EZ, T0, T1, T2, hs, hdf, hIm⟩
        have hb := tU (hround m Z.h) vs T1.len hIm
        refine ih ds hbase ro c C CS hdr YY CI hI nf none _ _ Z a1 _ p hd (EB.trans (EY.trans EZ)) HZ (SR.of_TV3 T1 T2 T0 hs hdf) hb (fun V ae t' e a' HV EV hx hk => ?_) rfl
        cases ae with
        | normal =>
          obtain ⟨rfl, R'⟩ := hx
          obtain ⟨⟨⟨m', hlt, hI'⟩, hconst⟩, hkeep⟩ := hk
          refine ⟨m', hlt, V.drop Y.h.length, _, rfl, aAp HV, xH HY (EZ.trans EV) (Nat.le_refl _), ?_, (TV.of_gets R' _).norm HV, ?_, R'.size, R'.defers.drop, hI'⟩
          · rw [← hkeep]
            exact (TV.of_gets R' _).closed (fun _ h => nK h) (fun _ _ => rfl) (by rw [hkeep]; exact hcl)
          have := (TV.of_gets R' (c.loop (dJ p)).const).norm HV (m := Y.h.length)
          rw [hconst] at this
          exact this
        | exit i => obtain ⟨rfl, R'⟩ := hx; exact hQ V (.exit i) t' _ a' HV (EY.trans (EZ.trans EV)) ⟨rfl, R'⟩ hk
        | goto l => obtain ⟨rfl, R'⟩ := hx; exact hQ V (.goto l) t' _ a' HV (EY.trans (EZ.trans EV)) ⟨rfl, R'⟩ hk
        | ret => obtain ⟨rfl, R'⟩ := hx; exact hQ V .ret t' _ a' HV (EY.trans (EZ.trans EV)) ⟨rfl, R'⟩ hk
        | pan v => obtain ⟨⟨q, rfl, hv⟩, h1⟩ := hx; exact hQ V (.pan v) t' _ a' HV (EY.trans (EZ.trans EV)) ⟨⟨q, rfl, hv⟩, h1⟩ hk
  | region id ops draw =>
    intro ds hbase ro c C CS hdr YY CI hI nf g κ t X a Q rest hd EB H R hw hQ hf
    cases g with
    | some l => simp only [W] at hw
    | none =>
      obtain rfl := hf
      have hds : ∀ o ∈ ops.toList, ∀ i, o.dst = some i → i < n := by
        intro o ho i hi
        simp only [kB, List.all_eq_true] at hd
        have := hd o ho
        rw [hi] at this
        simpa using this
      simp only [W] at hw
      cases draw with
      | false =>
        refine wpIn_region_list (vF C CS hdr YY nf ops _ ops.toList t X a hds EB H R hw (fun Y t' a' HY EY RY hk => hQ Y .normal t' _ a' HY EY ⟨rfl, RY⟩ hk)
          (fun Y t' v q a' HY EY h1 hk hv => hQ Y (.pan v) t' _ a' HY EY ⟨⟨q, rfl, hv⟩, h1⟩ hk))
      | true =>
        simp only at hw
        split at hw
        · split at hw
          · exact hw.elim
          · rename_i hok
            exact aGt C hm nf H R hds hok hw fun Y t' a' HY EY RY hk => hQ Y .normal t' _ a' HY EY ⟨rfl, RY⟩ hk
        · rename_i L o1 hlast
          split at hw
          · exact hw.elim
          · rename_i hok
            exact aGu C CS hdr YY hm nf EB H R hds hlast hok hw (fun Y v t' a' HY EY RY hk => hQ Y .normal _ _ a' HY EY ⟨rfl, RY⟩ hk)
              (fun Y t' v q a' HY EY h1 hk hv => hQ Y (.pan v) t' _ a' HY EY ⟨⟨q, rfl, hv⟩, h1⟩ hk)
end

end Lam
namespace Lam
open Go

structure OkI (P : Program) (c : Ctx) : Prop where
  ok : lP P c
  s : SOk P c.envS
  plain : c.drawn = false
  mixed : P.follows .mixedOrders = true
  i : ISOk P c.iterS

structure Ok (P : Program) (c : Ctx) : Prop extends OkI P c where
  y : ∀ l args h K, ¬ c.envY l args h K

theorem xJ {P : Program} {X : Cx} {l : Nat} {Y : Con} (h : ∀ args h K, ¬ Y args h K) : YOk P X l Y := fun _ _ _ hw => (h _ _ _ hw).elim

section
variable {P : Program} {c : Ctx}

theorem aFx {X : Cx} : ∀ {i : Nat} {vs : List AV} {cs : List Value} (j : Nat), VVs X vs cs → i ≤ j → VV X (get (init i vs) j) ((cs[j - i]?).getD undef)
  | _, [], _, _, _, _ => trivial
  | i, v :: r, cs, j, h, hj => by
    simp only [VVs] at h
    obtain ⟨c, d, rfl, h1, h2⟩ := h
    have e : get (init i (v :: r)) j = if i = j then v else get (init (i + 1) r) j := jS (init (i + 1) r) i j v
    rw [e]
    by_cases hij : i = j
    · subst hij; simp [h1]
    · rw [if_neg hij]
      have := aFx (i := i + 1) j h2 (by omega)
      have e2 : j - i = (j - (i + 1)) + 1 := by omega
      rw [e2, List.getElem?_cons_succ]
      exact this

theorem aHj {X : Cx} {vs : List AV} {cs : Array Value} {n : Nat} {ds : DB} (h : VVs X vs cs.toList) (hn : vs.length ≤ n) (hds : ds.base = []) : SR n ds X (init 0 vs) { tmps := cs ++ Array.replicate (n - cs.size) undef, defers := [] } := by
  have hl : cs.size = vs.length := by rw [← Array.length_toList]; exact sO h
  refine ⟨fun i => ?_, by simp; omega, ⟨[], by rw [hds]; rfl, trivial⟩⟩
  have := aFx (i := 0) i h (Nat.zero_le _)
  simp only [Nat.sub_zero] at this
  have e : (cs ++ Array.replicate (n - cs.size) undef).getD i undef = (cs.toList[i]?).getD undef := by
    rw [Array.getD_eq_getD_getElem?, Array.getElem?_append, Array.getElem?_toList]
    by_cases hi : i < cs.size
    · rw [if_pos hi]
    · have h2 : cs[i]? = none := Array.getElem?_eq_none (by omega)
      rw [if_neg hi, h2, Array.getElem?_replicate]
      split <;> rfl
  rw [e]; exact this

theorem aGy {x : D} {K : AV → Prop} (h : cL x K) : ∃ S v news, x = some (S, v, news) ∧ S ∧ K v := by
  unfold cL at h
  split at h
  · exact ⟨_, _, _, rfl, h.1, h.2⟩
  · exact h.elim

def resV (tmps : Array Value) : ResultVar → Sem Value
  | .tmp t => pure (tmps.getD t undef)
  | .cell a t => do loadVar t (← asAddr (tmps.getD a undef))

theorem sY (fn : Func) (tmps : Array Value) : results fn tmps = (do
    let vs ← fn.results.mapM (resV tmps)
    pure (if h : vs.size = 1 then vs[0] else .tuple vs)) := rfl

theorem uM (tab : aHF P c.tab) {X : Cx} (H : HR X) {n : Nat} {ds : DB} {t : List (Nat × AV)} {a : Act} (R : SR n ds X t a) : ∀ (l : List ResultVar) {K : List AV → Prop}, resW c X.h t l K →
    ∃ vs cs, K vs ∧ VVs X vs cs ∧ (l.mapM (resV a.tmps)).run P X.w = .ok cs X.w
  | [], K, h => ⟨[], [], h, rfl, rfl⟩
  | .tmp i :: r, K, h => by
    simp only [resW] at h
    obtain ⟨vs, cs, hK, hv, hr⟩ := uM tab H R r h
    refine ⟨_, a.tmps.getD i undef :: cs, hK, ⟨_, _, rfl, R.v i, hv⟩, ?_⟩
    have h1 : (resV a.tmps (.tmp i)).run P X.w = .ok (a.tmps.getD i undef) X.w := rfl
    simp only [List.mapM_cons, Sem.run_bind, h1, Sem.run_pure, Result.andThen_ok, hr]
  | .cell b T :: r, K, h => by
    simp only [resW] at h
    obtain ⟨S, v, news, e, hS, h⟩ := aGy h
    obtain ⟨S', e', rfl⟩ := aFl e
    obtain ⟨vs, cs, hK, hv, hr⟩ := uM tab H R r h
    obtain ⟨_, hl⟩ := aAH H e' hS.1 (R.v b)
    obtain ⟨q, hq, hqv⟩ := aBP (P := P) (tab T) hS.2 hl
    obtain ⟨ad, cs', hp, _⟩ := hl
    refine ⟨_, q :: cs, hK, ⟨_, _, rfl, hqv, hv⟩, ?_⟩
    have hq' : (loadVar T ad).run P X.w = .ok q X.w := by
      rw [hp] at hq
      simpa [Instr.loadAt, Instr.sureAddr] using hq
    have h1 : (resV a.tmps (.cell b T)).run P X.w = .ok q X.w := by
      simp only [resV, hp, asAddr, Sem.run_bind, Sem.run_pure, Result.andThen_ok, hq']
    simp only [List.mapM_cons, Sem.run_bind, h1, Sem.run_pure, Result.andThen_ok, hr]

theorem aDP {X : Cx} {vs : List AV} {cs : List Value} (h : VVs X vs cs) : VV X (rO vs) (if h : cs.toArray.size = 1 then cs.toArray[0] else .tuple cs.toArray) := by
  have hl := sO h
  cases vs with
  | nil => simp only [VVs] at h; subst h; exact ⟨#[], by simp, by simp [VVs]⟩
  | cons v r =>
    cases r with
    | nil =>
      obtain ⟨q, rfl, hv⟩ := VVs1 h
      simpa [rO] using hv
    | cons u r' =>
      have : ¬ cs.toArray.size = 1 := by simp only [List.size_toArray]; rw [hl]; simp
      rw [dif_neg this]
      show VV X (.tup (v :: u :: r')) _
      exact ⟨cs.toArray, rfl, by simpa using h⟩

theorem mW {bs : List Deferred} {F : Fence} {nf : Nat} {fn : Func} {tmps : Array Value} {R : Ending → World → Prop} {u : FrameMode} (hu : u ≠ .run) {X0 : Cx} : ∀ (ds : List Deferred) (Y : Cx), lY X0.w.heap.size Y ds → HR Y → Ext X0 Y →
    (∀ Z : Cx, HR Z → Ext X0 Z → ExtV Y Z → Z.h = Y.h → LeavesInM F nf P fn tmps R bs u Z.w) → LeavesInM F nf P fn tmps R (ds ++ bs) u Y.w
  | [], Y, _, H, E, h => h Y H E (Ext.refl Y).v rfl
  | d :: ds, Y, ⟨⟨r, e, h1, h2, h3, h4, h5⟩, hd⟩, H, E, h => by
    refine ⟨hu, .inl ⟨r, _, by rw [e], run_takeDeferred h2, ?_⟩⟩
    let Z : Cx := ⟨Y.S, Y.μ, Y.h, Y.w.putObj r (.deferred none)⟩
    have hz : ∀ b, b ≠ r → Z.w.heap[b]? = Y.w.heap[b]? := fun b hb => World.putObj_heap_other hb
    have hsz : Z.w.heap.size = Y.w.heap.size := World.putObj_size
    have EV : ExtV Y Z := by
      refine ⟨fun _ h => h, fun b hb => hz b (by rintro rfl; exact h4 hb), fun i k ver l hl => ⟨k, ver, l, hl, Nat.le_refl _, fun _ => ⟨rfl, rfl, fun b hb => ⟨hb, ?_⟩⟩, fun h => ⟨h, rfl⟩⟩, fun i b q1 q2 => ⟨q2, q1⟩⟩
      have : b ≠ r := by rintro rfl; exact h3 i hb
      unfold dZ; rw [hz b this]; exact Nat.le_refl _
    have HZ : HR Z := by
      refine ⟨H.len, fun i o ho => ?_, H.apart, fun i b hb => ?_, fun b hb => by rw [hsz]; exact H.old b hb⟩
      · obtain ⟨b, hb, hor⟩ := H.obj i o ho
        exact ⟨b, hb, hor.extV EV fun k hk => hz k (by rintro rfl; subst hk; exact h3 i hb)⟩
      · rw [hsz]; exact H.live i b hb
    have EZ : Ext X0 Z := by
      refine ⟨E.S, fun b hb => ?_, E.new, E.muinv, fun b hb hn => ?_, by rw [hsz]; exact E.grow, fun i k ver l hl => ?_, E.oth, E.env⟩
      · rw [hz b (by rintro rfl; exact h4 (E.S _ hb))]; exact E.cells b hb
      · rw [hz b (by omega)]; exact E.keep b hb hn
      · obtain ⟨k', ver', l', q1, q2, q3, q4⟩ := E.row i k ver l hl
        refine ⟨k', ver', l', q1, q2, fun e => ?_, q4⟩
        obtain ⟨p1, p2, p3⟩ := q3 e
        refine ⟨p1, p2, fun b hb => ?_⟩
        obtain ⟨p4, p5⟩ := p3 b hb
        refine ⟨p4, ?_⟩
        have : b ≠ r := by rintro rfl; exact h3 i p4
        have e2 : dZ Z.w b = dZ Y.w b := by unfold dZ; rw [hz b this]
        rw [e2]; exact p5
    have hd' : lY X0.w.heap.size Z ds := by
      clear h
      induction ds with
      | nil => trivial
      | cons d' ds ih =>
        obtain ⟨⟨r', e', q1, q2, q3, q4, q5⟩, hd2⟩ := hd
        have hne : r' ≠ r := by
          rintro rfl
          exact h5 d' (by simp) (by rw [e'])
        exact ⟨⟨r', e', q1, by rw [hz r' hne]; exact q2, q3, q4, q5⟩, ih (fun d hd => h5 d (by simp [hd])) hd2⟩
    exact mW hu ds Z hd' HZ EZ fun V HV EV1 EV2 hh => h V HV EV1 (EV.trans EV2) (by rw [hh])

theorem aCw (O : OkI P c) {f : FuncId} {fn : Func} (hf : P.funcs[f]? = some fn) {vs : List AV} {cs : Array Value} {X : Cx} (YY : ∀ l, YOk P X l (c.envY l)) (H : HR X) (hv : VVs X vs cs.toList) {K : AOut → List AObj → Prop} (hw : funW c fn vs X.h K) :
    Calls P f cs X.w fun e w' => ∃ Y ao, Y.w = w' ∧ HR Y ∧ Ext X Y ∧ OutR Y ao e ∧ K ao Y.h := by
  unfold funW at hw
  split at hw
  · exact hw.elim
  rename_i body hb
  split at hw
  rotate_left
  · exact hw.elim
  rename_i hok
  simp only [Bool.and_eq_true] at hok
  have hlen : vs.length ≤ fn.ntmps := Nat.le_of_ble_eq_true hok.2
  have fin : ∀ (Y : Cx) (t : List (Nat × AV)) (a : Act), HR Y → Ext X Y → SR fn.ntmps ⟨X.w.heap.size, []⟩ Y t a → resW c Y.h t fn.results.toList (fun vs => K (.ret (rO vs)) Y.h) →
      LeavesInM (FW none) 0 P fn a.tmps (fun e w' => ∃ Y ao, Y.w = w' ∧ HR Y ∧ Ext X Y ∧ OutR Y ao e ∧ K ao Y.h) a.defers .returning Y.w := by
    intro Y t a HY EY R hr
    obtain ⟨mk, hmk, hmks⟩ := R.defers
    rw [hmk]
    refine mW (by simp) mk Y hmks HY EY fun Z HZ EZ EV hZh => ?_
    have RZ : SR fn.ntmps ⟨X.w.heap.size, []⟩ Z t { tmps := a.tmps, defers := [] } := ⟨fun i => (R.v i).extV EV, R.size, kO.nil⟩
    rw [← hZh] at hr
    obtain ⟨us, ds, hK, hus, hrun⟩ := uM O.ok.tab HZ RZ _ hr
    refine ⟨(if h : ds.toArray.size = 1 then ds.toArray[0] else .tuple ds.toArray), ?_, Z, .ret (rO us), rfl, HZ, EZ, ⟨_, rfl, aDP hus⟩, hK⟩
    rw [sY, Array.mapM_eq_mapM_toList]
    simp only [Sem.run_bind, Sem.run_map, hrun, Result.andThen_ok, Sem.run_pure]
  have hwp := aDi (n := fn.ntmps) O.mixed (B := X) body ⟨X.w.heap.size, []⟩ (Nat.le_refl _) none c O.ok O.s O.plain YY O.i (.inl rfl) 0 none _ (init 0 vs) X _ (bodyPostM (FW none) 0 P fn fun e w' => ∃ Y ao, Y.w = w' ∧ HR Y ∧ Ext X Y ∧ OutR Y ao e ∧ K ao Y.h) body hok.1 (Ext.refl X) H (aHj hv hlen rfl) hw
    (fun Y ae t' e a' HY EY hx hk => by
      cases ae with
      | normal => obtain ⟨rfl, R⟩ := hx; exact fin Y t' a' HY EY R hk
      | ret => obtain ⟨rfl, R⟩ := hx; exact fin Y t' a' HY EY R hk
      | exit i => exact hk.elim
      | goto i => exact hk.elim
      | pan v =>
        obtain ⟨⟨q, rfl, hvq⟩, h1⟩ := hx
        obtain ⟨mk, hmk, hmks⟩ := h1.defers
        show LeavesInM _ _ _ _ _ _ a'.defers _ _
        rw [hmk]
        exact mW (by simp) mk Y hmks HY EY fun Z HZ EZ EV hZh => ⟨Z, .pan v, rfl, HZ, EZ, ⟨q, rfl, hvq.extV EV⟩, by rw [hZh]; exact hk⟩) rfl
  exact (callsIn_wide (n := 0)).1 (callsIn_of_wp_marks (F := FW none) hf hb trivial hwp)

theorem uN (O : Ok P c) {f : FuncId} {fn : Func} (hf : P.funcs[f]? = some fn) {vs : List AV} {cs : Array Value} {X : Cx} (H : HR X) (hv : VVs X vs cs.toList) {K : AOut → List AObj → Prop} (hw : funW c fn vs X.h K) :
    Calls P f cs X.w fun e w' => ∃ Y ao, Y.w = w' ∧ HR Y ∧ Ext X Y ∧ OutR Y ao e ∧ K ao Y.h :=
  aCw O.toOkI hf (fun l => xJ (O.y l)) H hv hw

end

end Lam
namespace Lam
open Go

def Told (ao : AOut) (h : List AObj) : Prop := ao = .ret (.bool true)

abbrev aF := List AV → Option (Bool × D)

structure bJ (P : Program) (f : FuncId) (C : aF) : Prop where
  enter : ∀ (args : Array Value) (w : World), (callFunc f args).run P w = .ok (.enter f args) w
  spec : ∀ vs b S v news, C vs = some (b, some (S, v, news)) → S → ∀ (X0 : Cx) (cs : Array Value), X0.h = [] → X0.μ = [] → HR X0 → VVs X0 vs cs.toList →
    Calls P f cs X0.w (Ends X0 b v news)

structure dB (P : Program) (f : FuncId) (C : Con) : Prop where
  spec : ∀ args h K, C args h K → ∀ (X : Cx) (cs : Array Value), HR X → X.h = h → VVs X args cs.toList →
    (∀ w, (callFunc f cs).run P w = .ok (.enter f cs) w) ∧
      Calls P f cs X.w fun e w' => ∃ Y ao, Y.w = w' ∧ HR Y ∧ Ext X Y ∧ OutR Y ao e ∧ K ao Y.h

structure rI (P : Program) (f : FuncId) (C : Con → Con) : Prop where
  spec : ∀ Yc l cap h K, C Yc (.fn (.yield l) [] [] :: cap) h K → ∀ (X : Cx) (cs : Array Value), YOk P X l Yc → HR X → X.h = h → VVs X (.fn (.yield l) [] [] :: cap) cs.toList →
    (∀ w, (callFunc f cs).run P w = .ok (.enter f cs) w) ∧
      Calls P f cs X.w fun e w' => ∃ Y ao, Y.w = w' ∧ HR Y ∧ Ext X Y ∧ OutR Y ao e ∧ K ao Y.h

def oV : List (FuncId × (Con → Con)) → FuncId → Con → Con
  | [], _ => fun _ _ _ _ => False
  | (g, C) :: r, f => match Nat.beq f g with
    | true => C
    | false => oV r f

def lQ : List (FuncId × aF) → FuncId → aF
  | [], _ => fun _ => none
  | (g, C) :: r, f => match Nat.beq f g with
    | true => C
    | false => lQ r f

def nA : List (FuncId × Con) → FuncId → Con
  | [], _ => fun _ _ _ => False
  | (g, C) :: r, f => match Nat.beq f g with
    | true => C
    | false => nA r f

theorem aBr {P : Program} : ∀ {l : List (FuncId × aF)}, (∀ p ∈ l, bJ P p.1 p.2) → FOk P (lQ l)
  | [], _ => ⟨fun f vs r h => by simp [lQ] at h, fun f vs b S v news h => by simp [lQ] at h⟩
  | (g, C) :: r, h => by
    have ih := aBr (P := P) (l := r) fun p hp => h p (by simp [hp])
    have h0 := h (g, C) (by simp)
    refine ⟨fun f vs q e => ?_, fun f vs b S v news e => ?_⟩
    · cases hb : Nat.beq f g with
      | true =>
        simp only [lQ, hb] at e
        obtain rfl := Nat.eq_of_beq_eq_true hb
        exact h0.enter
      | false =>
        simp only [lQ, hb] at e
        exact ih.enter f vs q e
    · cases hb : Nat.beq f g with
      | true =>
        simp only [lQ, hb] at e
        obtain rfl := Nat.eq_of_beq_eq_true hb
        exact h0.spec vs b S v news e
      | false =>
        simp only [lQ, hb] at e
        exact ih.spec f vs b S v news e

theorem aBs {P : Program} : ∀ {l : List (FuncId × Con)}, (∀ p ∈ l, dB P p.1 p.2) → SOk P (nA l)
  | [], _ => ⟨fun f args h K e => by simp [nA] at e⟩
  | (g, C) :: r, h => by
    have ih := aBs (P := P) (l := r) fun p hp => h p (by simp [hp])
    have h0 := h (g, C) (by simp)
    refine ⟨fun f args hh K e => ?_⟩
    cases hb : Nat.beq f g with
    | true =>
      simp only [nA, hb] at e
      obtain rfl := Nat.eq_of_beq_eq_true hb
      exact h0.spec args hh K e
    | false =>
      simp only [nA, hb] at e
      exact ih.spec f args hh K e

theorem aDQ {P : Program} : ∀ {l : List (FuncId × (Con → Con))}, (∀ p ∈ l, rI P p.1 p.2) → ISOk P (oV l)
  | [], _ => ⟨fun f Yc l cap h K e => by simp [oV] at e⟩
  | (g, C) :: r, h => by
    have ih := aDQ (P := P) (l := r) fun p hp => h p (by simp [hp])
    have h0 := h (g, C) (by simp)
    refine ⟨fun f Yc l cap hh K e => ?_⟩
    cases hb : Nat.beq f g with
    | true =>
      simp only [oV, hb] at e
      obtain rfl := Nat.eq_of_beq_eq_true hb
      exact h0.spec Yc l cap hh K e
    | false =>
      simp only [oV, hb] at e
      exact ih.spec f Yc l cap hh K e

theorem aLX {P : Program} : ISOk P fun _ _ _ _ _ => False := ⟨fun _ _ _ _ _ _ h => h.elim⟩

def Post (b : Bool) (v : AV) (news : List AObj) (ao : AOut) (h : List AObj) : Prop :=
  ∃ v', ao = .ret v' ∧ match b with
    | false => (v'.val h = some v ∨ v' = v) ∧ v.closed = true
    | true => (∃ x x' id ver len k l, v' = .sref x id ver 0 len ∧ h[id]? = some (.row k ver l) ∧ k ≠ .fro ∧ v = .sref x' 0 0 0 len ∧ (x' = true → x = true) ∧ news = [.row .own 0 l] ∧ l.plain = true) ∨
      ∃ l, v' = .sl true l ∧ l.len = 0 ∧ v = .sref false 0 0 0 0 ∧ news = [.row .own 0 l]

theorem aJ {v v' : AV} {h : List AObj} (e : v'.val h = some v) (hc : v.closed = true) : Post false v [] (.ret v') h := ⟨v', rfl, .inl e, hc⟩
theorem aJB {v : AV} {h : List AObj} (hc : v.closed = true) : Post false v [] (.ret v) h := ⟨v, rfl, .inr rfl, hc⟩
theorem aBt {x : Bool} {id ver len : Nat} {k : RK} {l : Lst} {h : List AObj} (hh : h[id]? = some (.row k ver l)) (hk : k ≠ .fro) (hp : l.plain = true := by rfl) : Post true (.sref false 0 0 0 len) [.row .own 0 l] (.ret (.sref x id ver 0 len)) h :=
  ⟨_, rfl, .inl ⟨x, false, id, ver, len, k, l, rfl, hh, hk, rfl, fun h => (by cases h), rfl, hp⟩⟩
theorem aBu {l : Lst} {h : List AObj} (hl : l.len = 0) : Post true (.sref false 0 0 0 0) [.row .own 0 l] (.ret (.sl true l)) h := ⟨_, rfl, .inr ⟨l, rfl, hl, rfl, rfl⟩⟩

section
variable {P : Program}

theorem Post.ends {X0 Y : Cx} (HX : HR X0) (Hh : X0.h = []) (H0 : X0.μ = []) (HY : HR Y) (E : Ext X0 Y) {b : Bool} {v : AV} {news : List AObj} {ao : AOut} {e : Ending} (ho : OutR Y ao e) (hp : Post b v news ao Y.h) : Ends X0 b v news e Y.w := by
  obtain ⟨v', rfl, hp⟩ := hp
  obtain ⟨c, rfl, hv⟩ := ho
  refine ⟨c, rfl, ?_⟩
  cases b with
  | false =>
    obtain ⟨he, hc⟩ := hp
    rcases he with he | rfl
    rotate_left
    · exact ⟨Y, rfl, HY, E, hc, hv⟩
    obtain ⟨H1, E1⟩ := yY HY (ids := v'.rows) (fun id hid => aHh hv id hid)
    exact ⟨Y.fro v'.rows, rfl, H1, E.trans E1, hc, valV HY (Y := Y.fro v'.rows) (fun b h => .inl h) (fun _ _ => rfl) (fun id hid b hb => ⟨.inr ⟨id, hid, hb⟩, rfl⟩) he hc hv⟩
  | true =>
    obtain ⟨Y, hYw, HY, E, x, x', id, ver, len, k, l, hv, hh, hk, rfl, hx, rfl, hpl⟩ : ∃ Y' : Cx, Y'.w = Y.w ∧ HR Y' ∧ Ext X0 Y' ∧ ∃ x x' id ver len k l, VV Y' (.sref x id ver 0 len) c ∧ Y'.h[id]? = some (.row k ver l) ∧ k ≠ .fro ∧ v = .sref x' 0 0 0 len ∧ (x' = true → x = true) ∧ news = [.row .own 0 l] ∧ (l.plain = true ∨ l.len = 0) := by
      rcases hp with ⟨x, x', id, ver, len, k, l, rfl, hh, hk, hv', hx, hn, hp⟩ | ⟨l, rfl, hl, hv', hn⟩
      · exact ⟨Y, rfl, HY, E, x, x', id, ver, len, k, l, hv, hh, hk, hv', hx, hn, .inl hp⟩
      · obtain ⟨Z, hw, HZ, EZ, hh, hz⟩ := aBp HY hl hv
        exact ⟨Z, hw, HZ, E.trans EZ, false, false, _, 0, 0, .own, l, hz, by rw [hh]; simp, by simp, hv', id, hn, .inr hl⟩
    rw [← hYw]
    obtain ⟨b, hb, hor⟩ := HY.obj _ _ hh
    have hbS : ∀ q, b = some q → ¬ Y.S q := by
      rintro q rfl hs
      obtain ⟨ver', l', e⟩ := (HY.live _ _ hb).2 hs
      rw [hh] at e; cases e; exact hk rfl
    have hLR : ∀ (Z : Cx) (a : List Value), LR Y l a → LR Z l a := fun Z a h4 => by
      rcases hpl with hp | hl
      · exact (iY hp).2 ((iY hp).1 h4)
      · rw [tD h4 hl]; exact rP Z hl
    have hOR : ∀ Z : Cx, Z.w = Y.w → OR Z b (.row .own 0 l) := by
      intro Z hZ
      rcases hor with ⟨h1, h2, _⟩ | ⟨b', cs, elem, h1, h2, ⟨a, r, h3, h4⟩, _⟩
      · exact .inl ⟨h1, h2, by simp⟩
      · exact .inr ⟨b', cs, elem, h1, by rw [hZ]; exact h2, ⟨a, r, h3, hLR Z a h4⟩, fun h => by cases h⟩
    have hHR : ∀ S : Nat → Prop, (∀ q, S q → X0.S q) → HR ⟨S, [b], [.row .own 0 l], Y.w⟩ := by
      intro S hS
      refine ⟨rfl, fun i o ho => ?_, fun i j q h1 h2 => ?_, fun i q hq => ?_, fun q hq => Nat.lt_of_lt_of_le (HX.old q (hS q hq)) E.grow⟩
      · cases i with
        | zero => simp only [List.getElem?_cons_zero, Option.some.injEq] at ho; subst ho; exact ⟨b, rfl, hOR _ rfl⟩
        | succ i => simp at ho
      · cases i <;> cases j <;> simp at h1 h2 ⊢
      · cases i with
        | zero =>
          simp only [List.getElem?_cons_zero, Option.some.injEq] at hq
          exact ⟨(HY.live id q (by rw [hb, hq])).1, fun hs => (hbS q hq (E.S q (hS q hs))).elim⟩
        | succ i => simp at hq
    have EZ : Ext X0 ⟨X0.S, [b], [.row .own 0 l], Y.w⟩ := by
      refine ⟨fun _ h => h, E.cells, fun b h => .inl h, fun i q hq => ?_, E.keep, E.grow, fun i k ver l hl => ?_, fun i q h1 h2 => ?_, E.env⟩
      · cases i with
        | zero =>
          simp only [List.getElem?_cons_zero, Option.some.injEq] at hq
          rcases E.muinv id q (by rw [hb, hq]) with h | h
          · rw [H0] at h; simp at h
          · exact .inr h
        | succ i => simp at hq
      · rw [Hh] at hl; cases hl
      · rw [H0] at h2; simp at h2
    refine ⟨⟨X0.S, [b], [.row .own 0 l], Y.w⟩, rfl, hHR _ (fun _ h => h), EZ, rfl, fun o ho => ?_, rfl, hHR _ (fun _ h => h.elim), ?_⟩
    · simp only [List.mem_singleton] at ho; subst ho; rfl
    · obtain ⟨a, n, cap, rfl, k', ver', l', hl', hle, g⟩ := hv
      rw [hh] at hl'; cases hl'
      obtain ⟨rfl, g2, g3, g4, g5, g6⟩ := g rfl
      refine ⟨a, n, cap, rfl, .own, 0, l, rfl, Nat.le_refl _, fun _ => ⟨rfl, g2, g3, fun h => g4 (hx h), g5, fun hn => ?_⟩⟩
      obtain ⟨q, q1, q2, q3⟩ := g6 hn
      refine ⟨q, ?_, q2, q3⟩
      rw [hb] at q1
      simpa using q1

theorem rC {f : FuncId} {fn : Func} (hf : P.funcs[f]? = some fn) (hn : (fn.name == "runtime.NumGoroutine") = false) (hb : fn.body.isNone = false) (args : Array Value) (w : World) :
    (callFunc f args).run P w = .ok (.enter f args) w := by
  simp only [callFunc, Sem.run_bind, run_program, Result.andThen_ok, hf, hn, hb, Bool.false_eq_true, if_false, Sem.run_pure]

theorem bJ.of {c : Ctx} (O : Ok P c) {f : FuncId} {fn : Func} {C : aF} (hf : P.funcs[f]? = some fn) (hn : (fn.name == "runtime.NumGoroutine") = false) (hb : fn.body.isNone = false)
    (h : ∀ vs b S v news, C vs = some (b, some (S, v, news)) → S → funW c fn vs [] (Post b v news)) : bJ P f C := by
  refine ⟨rC hf hn hb, fun vs b S v news e hS X0 cs Hh Hm HX hv => ?_⟩
  have hw := h vs b S v news e hS
  rw [← Hh] at hw
  refine (uN O hf HX hv hw).mono fun en w' he => ?_
  obtain ⟨Y, ao, rfl, HY, EY, ho, hp⟩ := he
  exact hp.ends HX Hh Hm HY EY ho

theorem dB.of {c : Ctx} (O : Ok P c) {f : FuncId} {fn : Func} {C : Con} (hf : P.funcs[f]? = some fn) (hn : (fn.name == "runtime.NumGoroutine") = false) (hb : fn.body.isNone = false)
    (h : ∀ args h K, C args h K → funW c fn args h K) : dB P f C := by
  refine ⟨fun args hh K hC X cs H hXh hv => ⟨fun w => rC hf hn hb cs w, ?_⟩⟩
  have hw := h args hh K hC
  rw [← hXh] at hw
  exact uN O hf H hv hw

theorem rI.of {c : Ctx} (O : OkI P c) {f : FuncId} {fn : Func} {C : Con → Con} (hf : P.funcs[f]? = some fn) (hn : (fn.name == "runtime.NumGoroutine") = false) (hb : fn.body.isNone = false)
    (h : ∀ Yc l cap hh K, C Yc (.fn (.yield l) [] [] :: cap) hh K → funW (c.withY l Yc) fn (.fn (.yield l) [] [] :: cap) hh K) : rI P f C := by
  refine ⟨fun Yc l cap hh K hC X cs hY H hXh hv => ⟨fun w => rC hf hn hb cs w, ?_⟩⟩
  have hw := h Yc l cap hh K hC
  rw [← hXh] at hw
  have O' : OkI P (c.withY l Yc) := ⟨⟨O.ok.tab, O.ok.sh, O.ok.fok⟩, O.s, O.plain, O.mixed, O.i⟩
  refine aCw O' hf (fun l' args h K hq => ?_) H hv hw
  obtain ⟨e, hq⟩ := hq
  rw [e]
  exact hY args h K hq
end

/-! ### Arguments as they may be -/
def w64L (n : Int) : Prop := (Lit.int .i64 n).wf = true
def wfL0 : Lst → Prop
  | .ints k xs => ∀ x ∈ xs, (Lit.int k x).wf = true
  | .bools _ => True
  | .strs xs => ∀ s ∈ xs, s.length ≤ maxLen
  | .pends xs => ∀ p ∈ xs, w64L p.at_ ∧ w64L p.val
  | .mics xs => ∀ p ∈ xs, w64L p.kind ∧ w64L p.at_ ∧ w64L p.val
  | .recs xs => ∀ p ∈ xs, w64L p.kind ∧ p.key.length ≤ maxLen ∧ p.val.length ≤ maxLen ∧ w64L p.child
  | .pairs xs => ∀ p ∈ xs, p.key.length ≤ maxLen ∧ p.val.length ≤ maxLen
  | .slots xs => ∀ p ∈ xs, w64L p.at_ ∧ w64L p.val
  | .fns _ => True
  | .vals _ _ => False

mutual
def lR (W : Lst → Prop) : TyD → AV → Prop
  | .int k, v => ∃ n, v = .int k n ∧ (Lit.int k n).wf = true
  | .bool, v => ∃ b, v = .bool b
  | .str, v => ∃ s : bF, v = .str s ∧ s.length ≤ maxLen
  | .slice e, v => ∃ l, v = .sl false l ∧ l.kind = e ∧ W l ∧ l.len ≤ maxLen
  | .strct fs, v => ∃ vs, v = .agg vs ∧ nN W fs vs
  | _, _ => False
def nN (W : Lst → Prop) : List TyD → List AV → Prop
  | [], vs => vs = []
  | d :: ds, vs => ∃ v r, vs = v :: r ∧ lR W d v ∧ nN W ds r
end
def wfL : Lst → Prop
  | .ints k xs => ∀ x ∈ xs, (Lit.int k x).wf = true
  | .bools _ => True
  | .strs xs => ∀ s ∈ xs, s.length ≤ maxLen
  | .pends xs => ∀ p ∈ xs, w64L p.at_ ∧ w64L p.val
  | .mics xs => ∀ p ∈ xs, w64L p.kind ∧ w64L p.at_ ∧ w64L p.val
  | .recs xs => ∀ p ∈ xs, w64L p.kind ∧ p.key.length ≤ maxLen ∧ p.val.length ≤ maxLen ∧ w64L p.child
  | .pairs xs => ∀ p ∈ xs, p.key.length ≤ maxLen ∧ p.val.length ≤ maxLen
  | .slots xs => ∀ p ∈ xs, w64L p.at_ ∧ w64L p.val
  | .fns _ => True
  | .vals k xs => ∀ v ∈ xs, lR wfL0 k.ty v
abbrev aOC := lR wfL
theorem aMB {l : Lst} (h : wfL0 l) : wfL l := by cases l <;> first | exact h | exact h.elim

theorem xK {k : IntKind} {l : Lst} (h : l.kind = .int k) : ∃ xs, l = .ints k xs := by cases l <;> first | (simp only [Lst.kind, LK.int.injEq] at h; subst h; exact ⟨_, rfl⟩) | cases h
theorem aGz {l : Lst} (h : l.kind = .pend) : ∃ xs, l = .pends xs := by cases l <;> first | exact ⟨_, rfl⟩ | cases h
theorem aIb {k : VK} {l : Lst} (h : l.kind = .val k) : ∃ xs, l = .vals k xs := by cases l <;> first | (simp only [Lst.kind, LK.val.injEq] at h; subst h; exact ⟨_, rfl⟩) | cases h
end Lam
namespace Lam
open Go

def kF (w : World) : Cx := ⟨fun b => b < w.heap.size, [], [], w⟩

theorem aKG (w : World) : HR (kF w) := hr0 fun _ h => h

open Go.RowKit in
theorem law_calls {P : Program} {c : Ctx} (O : Ok P c) {f : FuncId} {fn : Func} (hf : P.funcs[f]? = some fn) {vs : List AV} {cs : Array Value} {w : World} (hw : funW c fn vs [] Told) (hv : VVs (kF w) vs cs.toList) :
    Calls P f cs w fun e w' => e = .returned (.bool true) ∧ Below w.heap.size w w' := by
  refine (uN (X := kF w) O hf (aKG w) hv hw).mono fun e w' he => ?_
  obtain ⟨Y, ao, rfl, HY, EY, ho, hk⟩ := he
  obtain rfl : ao = .ret (.bool true) := hk
  obtain ⟨c', rfl, hc⟩ := ho
  obtain rfl : c' = .bool true := hc
  exact ⟨rfl, EY.env.1, EY.env.2.1, EY.env.2.2, EY.grow, fun k hk => mM (w := w) EY hk⟩
end Lam
namespace Lam
open Go

mutual
def lC (sl : LK → TypeId → Bool) (P : Program) : TyD → TypeId → Bool
  | .int k, T => match P.underlying T with | some (.int k') => k == k' | _ => false
  | .bool, T => match P.underlying T with | some .bool => true | _ => false
  | .str, T => match P.underlying T with | some .string => true | _ => false
  | .slice e, T => match P.underlying T with | some (.slice E) => sl e E | _ => false
  | .strct fs, T => match P.underlying T with | some (.struct fields) => Nat.beq (P.cellsOf T) (TyD.sizes fs) && zF sl P fs 0 fields.toList | _ => false
  | _, _ => false
def zF (sl : LK → TypeId → Bool) (P : Program) : List TyD → Nat → List Field → Bool
  | [], _, fs => fs.isEmpty
  | d :: ds, off, fs => match fs with
    | [] => false
    | f :: fs' => Nat.beq f.offset off && Nat.beq (P.cellsOf f.type) d.size && lC sl P d f.type && zF sl P ds (off + d.size) fs'
end

def aAq (P : Program) (d : TyD) (T : TypeId) : Bool := lC (fun _ _ => false) P d T
def LK.plain : LK → Bool
  | .val _ => false
  | _ => true
def aFy (P : Program) (d : TyD) (T : TypeId) : Bool := lC (fun e E => Nat.beq (P.cellsOf E) e.size && (e.plain && aAq P e.ty E)) P d T
def aIc (P : Program) (e : LK) (E : TypeId) : Bool :=
  match e with
  | .val k => aFy P k.ty E
  | e => aAq P e.ty E
def aId (P : Program) (d : TyD) (T : TypeId) : Bool := lC (fun e E => Nat.beq (P.cellsOf E) e.size && aIc P e E) P d T

section
variable {H : Type} {enc : TypeId × Value → H} {P : Program} {w : World} {spare : Nat → Bool} {held : Bool}

theorem mX {α : Type} (d : α) (Q : Nat → α → Prop) : ∀ (n : Nat), (∀ i, i < n → ∃ x, Q i x) → ∃ xs : List α, xs.length = n ∧ ∀ i, i < n → Q i (xs.getD i d)
  | 0, _ => ⟨[], rfl, fun i hi => by omega⟩
  | n + 1, h => by
    obtain ⟨xs, hl, hx⟩ := mX d Q n fun i hi => h i (by omega)
    obtain ⟨x, hq⟩ := h n (by omega)
    refine ⟨xs ++ [x], by simp [hl], fun i hi => ?_⟩
    rw [List.getD_eq_getElem?_getD]
    by_cases e : i = n
    · subst e
      rw [List.getElem?_append_right (by omega), hl]
      simpa using hq
    · rw [List.getElem?_append_left (by omega), ← List.getD_eq_getElem?_getD]
      exact hx i (by omega)

mutual
theorem xL {sl : LK → TypeId → Bool} {Q : Lst → Prop} (HS : ∀ e T E fuel cs x, P.underlying T = some (.slice E) → sl e E = true → DataW.trod enc P w 0 spare held fuel T cs = some x → ∃ l, l.kind = e ∧ Q l ∧ l.len ≤ maxLen ∧ VC (kF w) (.sl false l) cs) :
    ∀ (d : TyD) (T : TypeId) (fuel : Nat) (cs : List Value) (x : DataW H × List MemPlace), lC sl P d T = true → DataW.trod enc P w 0 spare held fuel T cs = some x → ∃ v, lR Q d v ∧ VC (kF w) v cs
  | .int k, T, fuel, cs, x, h, ht => by
    simp only [lC] at h
    split at h
    · rename_i k' hu
      obtain rfl : k = k' := by simpa using h
      obtain ⟨n, rfl, _, hw⟩ := DataW.trod_int hu ht
      exact ⟨.int k n, ⟨n, rfl, hw⟩, ⟨_, rfl, rfl⟩⟩
    · cases h
  | .bool, T, fuel, cs, x, h, ht => by
    simp only [lC] at h
    split at h
    · rename_i hu
      obtain ⟨b, rfl, _⟩ := DataW.trod_bool hu ht
      exact ⟨.bool b, ⟨b, rfl⟩, ⟨_, rfl, rfl⟩⟩
    · cases h
  | .str, T, fuel, cs, x, h, ht => by
    simp only [lC] at h
    split at h
    · rename_i hu
      obtain ⟨s, rfl, _, hs⟩ := DataW.trod_string hu ht
      have hl : s.data.toList.length ≤ maxLen := by rw [Array.length_toList]; exact hs
      exact ⟨.str s.data.toList, ⟨_, rfl, hl⟩, ⟨_, rfl, by show Value.string s = _; rw [bstr_data]⟩⟩
    · cases h
  | .slice e, T, fuel, cs, x, h, ht => by
    simp only [lC] at h
    split at h
    · rename_i E hu
      obtain ⟨l, h1, h2, h3, h4⟩ := HS e T E fuel cs x hu h ht
      exact ⟨.sl false l, ⟨l, rfl, h1, h2, h3⟩, h4⟩
    · cases h
  | .strct ds, T, fuel, cs, x, h, ht => by
    simp only [lC] at h
    split at h
    · rename_i fields hu
      simp only [Bool.and_eq_true] at h
      obtain ⟨hc, hg⟩ := h
      have hc := Nat.eq_of_beq_eq_true hc
      obtain ⟨xs, n, rfl, _, hl, hxl, hf⟩ := DataW.trod_struct hu ht
      obtain ⟨vs, g1, g2⟩ := aDR HS ds 0 fields.toList n cs hg (by rw [hl, hc]; omega) (fun i f hi => by
        have := hf i f (by simpa using hi)
        rw [this]
        have hlt : i < xs.length := by rw [hxl]; simpa using (List.getElem?_eq_some_iff.1 hi).1
        exact ⟨_, List.getElem?_eq_getElem hlt⟩)
      refine ⟨.agg vs, ⟨vs, rfl, g1⟩, ?_⟩
      simp only [VC]
      rw [List.drop_zero] at g2
      exact g2
    · cases h
  | .arr _ _, T, fuel, cs, x, h, ht => by simp only [lC] at h; cases h
  | .ptr, T, fuel, cs, x, h, ht => by simp only [lC] at h; cases h
  | .map _, T, fuel, cs, x, h, ht => by simp only [lC] at h; cases h
  | .func, T, fuel, cs, x, h, ht => by simp only [lC] at h; cases h
  | .iface, T, fuel, cs, x, h, ht => by simp only [lC] at h; cases h
  | .tup _, T, fuel, cs, x, h, ht => by simp only [lC] at h; cases h
  | .other, T, fuel, cs, x, h, ht => by simp only [lC] at h; cases h
theorem aDR {sl : LK → TypeId → Bool} {Q : Lst → Prop} (HS : ∀ e T E fuel cs x, P.underlying T = some (.slice E) → sl e E = true → DataW.trod enc P w 0 spare held fuel T cs = some x → ∃ l, l.kind = e ∧ Q l ∧ l.len ≤ maxLen ∧ VC (kF w) (.sl false l) cs) :
    ∀ (ds : List TyD) (off : Nat) (fs : List Field) (fuel : Nat) (cs : List Value), zF sl P ds off fs = true → cs.length = off + TyD.sizes ds →
      (∀ (i : Nat) (f : Field), fs[i]? = some f → ∃ x, DataW.trod enc P w 0 spare held fuel f.type ((cs.drop f.offset).take (P.cellsOf f.type)) = some x) → ∃ vs, nN Q ds vs ∧ VCs (kF w) vs (cs.drop off)
  | [], off, fs, fuel, cs, h, hl, hf => by
    refine ⟨[], rfl, ?_⟩
    simp only [TyD.sizes, Nat.add_zero] at hl
    simp only [VCs]
    exact List.drop_eq_nil_of_le (by omega)
  | d :: ds, off, [], fuel, cs, h, hl, hf => by simp [zF] at h
  | d :: ds, off, f :: fs, fuel, cs, h, hl, hf => by
    simp only [zF, Bool.and_eq_true] at h
    obtain ⟨⟨⟨h1, h2⟩, h3⟩, h4⟩ := h
    have h1 := Nat.eq_of_beq_eq_true h1
    have h2 := Nat.eq_of_beq_eq_true h2
    simp only [TyD.sizes] at hl
    obtain ⟨x, hx⟩ := hf 0 f rfl
    rw [h1, h2] at hx
    obtain ⟨v, g1, g2⟩ := xL HS d f.type fuel _ x h3 hx
    obtain ⟨vs, g3, g4⟩ := aDR HS ds (off + d.size) fs fuel cs h4 (by omega) fun i f' hi => hf (i + 1) f' (by simpa using hi)
    refine ⟨v :: vs, ⟨v, vs, rfl, g1, g3⟩, ?_⟩
    simp only [VCs]
    refine ⟨_, _, ?_, g2, g4⟩
    rw [← List.drop_drop, List.take_append_drop]
end

theorem aJC {Q : Lst → Prop} {d : TyD} {T : TypeId} {fuel : Nat} {cs : List Value} {x : DataW H × List MemPlace} (h : aAq P d T = true) (ht : DataW.trod enc P w 0 spare held fuel T cs = some x) : ∃ v, lR Q d v ∧ VC (kF w) v cs :=
  xL (fun _ _ _ _ _ _ _ h _ => by cases h) d T fuel cs x h ht

theorem wE {X : Cx} {cs : List Value} (h : VCs X [] cs) : cs = [] := by simpa only [VCs] using h
theorem nZ {X : Cx} {k : IntKind} {n : Int} {r : List AV} {cs : List Value} (h : VCs X (.int k n :: r) cs) : ∃ b, cs = .int k n :: b ∧ VCs X r b := by
  simp only [VCs, VC] at h
  obtain ⟨a, b, rfl, ⟨c, rfl, hc⟩, hr⟩ := h
  exact ⟨b, by rw [show c = _ from hc]; rfl, hr⟩
theorem aKH {X : Cx} {n : Bool} {r : List AV} {cs : List Value} (h : VCs X (.bool n :: r) cs) : ∃ b, cs = .bool n :: b ∧ VCs X r b := by
  simp only [VCs, VC] at h
  obtain ⟨a, b, rfl, ⟨c, rfl, hc⟩, hr⟩ := h
  exact ⟨b, by rw [show c = _ from hc]; rfl, hr⟩
theorem aAr {X : Cx} {n : bF} {r : List AV} {cs : List Value} (h : VCs X (.str n :: r) cs) : ∃ b, cs = .string (bstr n) :: b ∧ VCs X r b := by
  simp only [VCs, VC] at h
  obtain ⟨a, b, rfl, ⟨c, rfl, hc⟩, hr⟩ := h
  exact ⟨b, by rw [show c = _ from hc]; rfl, hr⟩

theorem aJD (e : LK) (hp : e.plain = true) {E : TypeId} (hE : aAq P e.ty E = true) {fuel : Nat} {cs : Nat → List Value} {n : Nat} (h : ∀ i, i < n → ∃ x, DataW.trod enc P w 0 spare held fuel E (cs i) = some x) :
    ∃ l : Lst, l.kind = e ∧ wfL0 l ∧ l.len = n ∧ ∀ i, i < n → cs i = l.cell i := by
  have hh : ∀ i, i < n → ∃ v, lR wfL0 e.ty v ∧ VC (kF w) v (cs i) := fun i hi => by
    obtain ⟨x, hx⟩ := h i hi
    exact aJC hE hx
  have mem : ∀ {α : Type} (d : α) (xs : List α) (Q : α → Prop), xs.length = n → (∀ i, i < n → Q (xs.getD i d)) → ∀ x ∈ xs, Q x := by
    intro α d xs Q hl hq x hx
    obtain ⟨i, hi, rfl⟩ := List.getElem_of_mem hx
    have := hq i (by omega)
    rwa [List.getD_eq_getElem?_getD, List.getElem?_eq_getElem hi] at this
  cases e with
  | int k =>
    obtain ⟨xs, hl, hx⟩ := mX (0 : Int) (fun i x => cs i = [.int k x] ∧ (Lit.int k x).wf = true) n fun i hi => by
      obtain ⟨v, hg, hv⟩ := hh i hi
      obtain ⟨m, rfl, hw⟩ := hg
      simp only [VC] at hv
      obtain ⟨c, hc, hc2⟩ := hv
      exact ⟨m, by rw [hc, show c = _ from hc2], hw⟩
    exact ⟨.ints k xs, rfl, mem 0 xs (fun x => (Lit.int k x).wf = true) hl (fun i hi => (hx i hi).2), hl, fun i hi => (hx i hi).1⟩
  | bool =>
    obtain ⟨xs, hl, hx⟩ := mX false (fun i x => cs i = [.bool x]) n fun i hi => by
      obtain ⟨v, hg, hv⟩ := hh i hi
      obtain ⟨m, rfl⟩ := hg
      simp only [VC] at hv
      obtain ⟨c, hc, hc2⟩ := hv
      exact ⟨m, by rw [hc, show c = _ from hc2]⟩
    exact ⟨.bools xs, rfl, trivial, hl, hx⟩
  | str =>
    obtain ⟨xs, hl, hx⟩ := mX ([] : bF) (fun i x => cs i = [.string (bstr x)] ∧ x.length ≤ maxLen) n fun i hi => by
      obtain ⟨v, hg, hv⟩ := hh i hi
      obtain ⟨m, rfl, hw⟩ := hg
      simp only [VC] at hv
      obtain ⟨c, hc, hc2⟩ := hv
      exact ⟨m, by rw [hc, show c = _ from hc2], hw⟩
    exact ⟨.strs xs, rfl, mem [] xs (fun x => x.length ≤ maxLen) hl (fun i hi => (hx i hi).2), hl, fun i hi => (hx i hi).1⟩
  | pend =>
    obtain ⟨xs, hl, hx⟩ := mX (⟨0, 0, false⟩ : Pend) (fun i x => cs i = [.int .i64 x.at_, .int .i64 x.val, .bool x.fl] ∧ w64L x.at_ ∧ w64L x.val) n fun i hi => by
      obtain ⟨v, hg, hv⟩ := hh i hi
      simp only [LK.ty, lR, nN] at hg
      obtain ⟨_, rfl, _, _, rfl, ⟨a, rfl, ha⟩, _, _, rfl, ⟨b, rfl, hb⟩, _, _, rfl, ⟨c, rfl⟩, rfl⟩ := hg
      simp only [VC] at hv
      obtain ⟨_, e1, hv⟩ := nZ hv
      obtain ⟨_, e2, hv⟩ := nZ hv
      rw [e2] at e1
      obtain ⟨_, e2, hv⟩ := aKH hv
      rw [e2] at e1
      rw [wE hv] at e1
      exact ⟨⟨a, b, c⟩, e1, ha, hb⟩
    exact ⟨.pends xs, rfl, mem ⟨0, 0, false⟩ xs (fun x => w64L x.at_ ∧ w64L x.val) hl (fun i hi => (hx i hi).2), hl, fun i hi => (hx i hi).1⟩
  | mic =>
    obtain ⟨xs, hl, hx⟩ := mX (⟨0, 0, 0⟩ : Mic) (fun i x => cs i = [.int .i64 x.kind, .int .i64 x.at_, .int .i64 x.val] ∧ w64L x.kind ∧ w64L x.at_ ∧ w64L x.val) n fun i hi => by
      obtain ⟨v, hg, hv⟩ := hh i hi
      simp only [LK.ty, lR, nN] at hg
      obtain ⟨_, rfl, _, _, rfl, ⟨a, rfl, ha⟩, _, _, rfl, ⟨b, rfl, hb⟩, _, _, rfl, ⟨c, rfl, hc⟩, rfl⟩ := hg
      simp only [VC] at hv
      obtain ⟨_, e1, hv⟩ := nZ hv
      obtain ⟨_, e2, hv⟩ := nZ hv
      rw [e2] at e1
      obtain ⟨_, e2, hv⟩ := nZ hv
      rw [e2] at e1
      rw [wE hv] at e1
      exact ⟨⟨a, b, c⟩, e1, ha, hb, hc⟩
    exact ⟨.mics xs, rfl, mem ⟨0, 0, 0⟩ xs (fun x => w64L x.kind ∧ w64L x.at_ ∧ w64L x.val) hl (fun i hi => (hx i hi).2), hl, fun i hi => (hx i hi).1⟩
  | rcd =>
    obtain ⟨xs, hl, hx⟩ := mX (⟨0, [], [], 0⟩ : RecT) (fun i x => cs i = [.int .i64 x.kind, .string (bstr x.key), .string (bstr x.val), .int .i64 x.child] ∧ w64L x.kind ∧ x.key.length ≤ maxLen ∧ x.val.length ≤ maxLen ∧ w64L x.child) n fun i hi => by
      obtain ⟨v, hg, hv⟩ := hh i hi
      simp only [LK.ty, lR, nN] at hg
      obtain ⟨_, rfl, _, _, rfl, ⟨a, rfl, ha⟩, _, _, rfl, ⟨b, rfl, hb⟩, _, _, rfl, ⟨c, rfl, hc⟩, _, _, rfl, ⟨d, rfl, hd⟩, rfl⟩ := hg
      simp only [VC] at hv
      obtain ⟨_, e1, hv⟩ := nZ hv
      obtain ⟨_, e2, hv⟩ := aAr hv
      rw [e2] at e1
      obtain ⟨_, e2, hv⟩ := aAr hv
      rw [e2] at e1
      obtain ⟨_, e2, hv⟩ := nZ hv
      rw [e2] at e1
      rw [wE hv] at e1
      exact ⟨⟨a, b, c, d⟩, e1, ha, hb, hc, hd⟩
    exact ⟨.recs xs, rfl, mem ⟨0, [], [], 0⟩ xs (fun x => w64L x.kind ∧ x.key.length ≤ maxLen ∧ x.val.length ≤ maxLen ∧ w64L x.child) hl (fun i hi => (hx i hi).2), hl, fun i hi => (hx i hi).1⟩
  | pair =>
    obtain ⟨xs, hl, hx⟩ := mX (⟨[], []⟩ : kZ) (fun i x => cs i = [.string (bstr x.key), .string (bstr x.val)] ∧ x.key.length ≤ maxLen ∧ x.val.length ≤ maxLen) n fun i hi => by
      obtain ⟨v, hg, hv⟩ := hh i hi
      simp only [LK.ty, lR, nN] at hg
      obtain ⟨_, rfl, _, _, rfl, ⟨b, rfl, hb⟩, _, _, rfl, ⟨c, rfl, hc⟩, rfl⟩ := hg
      simp only [VC] at hv
      obtain ⟨_, e1, hv⟩ := aAr hv
      obtain ⟨_, e2, hv⟩ := aAr hv
      rw [e2] at e1
      rw [wE hv] at e1
      exact ⟨⟨b, c⟩, e1, hb, hc⟩
    exact ⟨.pairs xs, rfl, mem ⟨[], []⟩ xs (fun x => x.key.length ≤ maxLen ∧ x.val.length ≤ maxLen) hl (fun i hi => (hx i hi).2), hl, fun i hi => (hx i hi).1⟩
  | slot =>
    obtain ⟨xs, hl, hx⟩ := mX (⟨0, 0⟩ : aAf) (fun i x => cs i = [.int .i64 x.at_, .int .i64 x.val] ∧ w64L x.at_ ∧ w64L x.val) n fun i hi => by
      obtain ⟨v, hg, hv⟩ := hh i hi
      simp only [LK.ty, lR, nN] at hg
      obtain ⟨_, rfl, _, _, rfl, ⟨a, rfl, ha⟩, _, _, rfl, ⟨b, rfl, hb⟩, rfl⟩ := hg
      simp only [VC] at hv
      obtain ⟨_, e1, hv⟩ := nZ hv
      obtain ⟨_, e2, hv⟩ := nZ hv
      rw [e2] at e1
      rw [wE hv] at e1
      exact ⟨⟨a, b⟩, e1, ha, hb⟩
    exact ⟨.slots xs, rfl, mem ⟨0, 0⟩ xs (fun x => w64L x.at_ ∧ w64L x.val) hl (fun i hi => (hx i hi).2), hl, fun i hi => (hx i hi).1⟩
  | fnk =>
    cases n with
    | zero => exact ⟨.fns [], rfl, trivial, rfl, fun i hi => absurd hi (Nat.not_lt_zero _)⟩
    | succ n =>
      obtain ⟨v, hg, hv⟩ := hh 0 (Nat.succ_pos _)
      exact hg.elim
  | val k => cases hp

theorem aIe {l : Lst} {e : LK} (h : l.kind = e) (hp : e.plain = true) : l.plain = true := by subst h; cases l <;> first | rfl | cases hp

theorem aCx (e : LK) (hp : e.plain = true) {E : TypeId} (hE : aAq P e.ty E = true) {fuel : Nat} {cs : Nat → List Value} {n : Nat} (h : ∀ i, i < n → ∃ x, DataW.trod enc P w 0 spare held fuel E (cs i) = some x) :
    ∃ l : Lst, l.kind = e ∧ wfL0 l ∧ l.len = n ∧ LR (kF w) l ((List.range n).flatMap cs) := by
  obtain ⟨l, h1, h2, h3, h4⟩ := aJD e hp hE h
  refine ⟨l, h1, h2, h3, uD (aIe h1 hp) ?_⟩
  unfold Lst.flat
  rw [h3, List.flatMap_def, List.flatMap_def, List.map_congr_left fun i hi => h4 i (List.mem_range.1 hi)]

theorem aLY {a : Addr} (h : a.spot = none) (m r : Nat) : (a.add m).add r = ⟨a.block, a.off + m + r, none⟩ := by
  unfold Addr.add
  cases a with
  | mk b o s =>
    simp only at h; subst h
    by_cases h1 : m = 0 <;> by_cases h2 : r = 0 <;> simp [h1, h2]

theorem aDS {Q : Lst → Prop} {e : LK} {T E : TypeId} {fuel : Nat} {cs : List Value} {x : DataW H × List MemPlace} (hu : P.underlying T = some (.slice E)) (hsz : P.cellsOf E = e.size)
    (HE : ∀ (fuel : Nat) (cs : Nat → List Value) (n : Nat), (∀ i, i < n → ∃ x, DataW.trod enc P w 0 spare held fuel E (cs i) = some x) → ∃ l : Lst, l.kind = e ∧ Q l ∧ l.len = n ∧ LR (kF w) l ((List.range n).flatMap cs))
    (ht : DataW.trod enc P w 0 spare held fuel T cs = some x) : ∃ l, l.kind = e ∧ Q l ∧ l.len ≤ maxLen ∧ VC (kF w) (.sl false l) cs := by
  rcases DataW.trod_slice hu ht with ⟨rfl, _⟩ | ⟨a, len, cap, elems, rest, n, rfl, rfl, _, _, hle, hmx, hel, hlook, _⟩
  · obtain ⟨l, h1, h2, h3, _⟩ := HE 0 (fun _ => []) 0 fun i hi => by omega
    refine ⟨l, h1, h2, by omega, _, rfl, none, 0, by rw [h3], by omega, fun h => (by cases h), fun _ => rfl, fun h => absurd h3 h⟩
  · have hcells : ∀ i, i < len → ∃ c, w.cells? 0 (a.add (i * e.size)) e.size = some c ∧ ∃ y, DataW.trod enc P w 0 spare held n E c = some y := by
      intro i hi
      have := hlook i hi
      rw [hsz, List.getElem?_eq_getElem (by omega), Option.bind_eq_some_iff] at this
      obtain ⟨c, h1, h2⟩ := this
      exact ⟨c, h1, _, h2⟩
    obtain ⟨l, h1, h2, h3, h4⟩ := HE n (fun i => (w.cells? 0 (a.add (i * e.size)) e.size).getD (List.replicate e.size undef)) len fun i hi => by
      obtain ⟨c, q1, q2⟩ := hcells i hi
      rw [q1]; exact q2
    refine ⟨l, h1, h2, by omega, _, rfl, some a, cap, by rw [h3], by omega, fun h => (by cases h), fun h => (by cases h), fun hn => ?_⟩
    have hkp := LK.size_pos e
    have hpos : 0 < len := by omega
    obtain ⟨c0, q0, _⟩ := hcells 0 hpos
    obtain ⟨_, c0l, q1⟩ := World.cells?_some q0
    have q2 := q1 0 hkp
    have hc0 : ∃ u, w.cell? a = some u := by
      rw [Nat.zero_mul, show (a.add 0).add 0 = a from rfl, List.getElem?_eq_getElem (by omega)] at q2
      exact ⟨_, q2⟩
    obtain ⟨u, hu⟩ := hc0
    have hsp : a.spot = none := by
      unfold World.cell? at hu
      split at hu
      · split at hu
        · cases hu
        · rename_i hs; simpa using hs
      · cases hu
    have hb : a.block < w.heap.size := by
      unfold World.cell? at hu
      split at hu
      · rename_i hx; exact (Array.getElem?_eq_some_iff.1 hx).1
      · cases hu
    have hcl : ∀ i, ((w.cells? 0 (a.add (i * e.size)) e.size).getD (List.replicate e.size undef)).length = e.size := by
      intro i
      cases hq : w.cells? 0 (a.add (i * e.size)) e.size with
      | none => simp
      | some c => obtain ⟨_, q, _⟩ := World.cells?_some hq; simpa using q
    refine ⟨a, rfl, hsp, hb, _, h4, fun j v hj => ?_⟩
    have hjl := (List.getElem?_eq_some_iff.1 hj).1
    rw [iJ _ e.size hcl] at hjl
    have hi : j / e.size < len := Nat.div_lt_of_lt_mul (by rw [Nat.mul_comm]; exact hjl)
    have hr : j % e.size < e.size := Nat.mod_lt _ hkp
    have hjd : j = j / e.size * e.size + j % e.size := by rw [Nat.mul_comm]; exact (Nat.div_add_mod _ _).symm
    obtain ⟨c, q3, _⟩ := hcells _ hi
    obtain ⟨_, _, q5⟩ := World.cells?_some q3
    have q6 := q5 _ hr
    rw [aLY hsp, Nat.add_assoc, ← hjd] at q6
    have h6 := lX _ e.size hcl len (j / e.size) (j % e.size) hi hr
    rw [← hjd] at h6
    simp only [q3, Option.getD_some] at h6
    show w.cell? ⟨a.block, a.off + j, none⟩ = some v
    rw [q6, ← h6, hj]

theorem aGA {e : LK} {T E : TypeId} {fuel : Nat} {cs : List Value} {x : DataW H × List MemPlace} (hu : P.underlying T = some (.slice E)) (hE : (Nat.beq (P.cellsOf E) e.size && (e.plain && aAq P e.ty E)) = true)
    (ht : DataW.trod enc P w 0 spare held fuel T cs = some x) : ∃ l, l.kind = e ∧ wfL0 l ∧ l.len ≤ maxLen ∧ VC (kF w) (.sl false l) cs := by
  simp only [Bool.and_eq_true] at hE
  exact aDS hu (Nat.eq_of_beq_eq_true hE.1) (fun _ _ _ h => aCx e hE.2.1 hE.2.2 h) ht

mutual
theorem zG {Q : Lst → Prop} : ∀ {d : TyD} {v : AV}, lR Q d v → v.elem = true ∧ v.size = d.size ∧ v.scalar = !d.isAgg
  | .int _, v, h => by obtain ⟨_, rfl, _⟩ := h; exact ⟨rfl, rfl, rfl⟩
  | .bool, v, h => by obtain ⟨_, rfl⟩ := h; exact ⟨rfl, rfl, rfl⟩
  | .str, v, h => by obtain ⟨_, rfl, _⟩ := h; exact ⟨rfl, rfl, rfl⟩
  | .slice _, v, h => by obtain ⟨_, rfl, _⟩ := h; exact ⟨rfl, rfl, rfl⟩
  | .strct fs, v, h => by
    simp only [lR] at h
    obtain ⟨vs, rfl, h⟩ := h
    have := aCy h
    exact ⟨this.1, this.2, rfl⟩
  | .arr _ _, v, h | .ptr, v, h | .map _, v, h | .func, v, h | .iface, v, h | .tup _, v, h | .other, v, h => by simp only [lR] at h
theorem aCy {Q : Lst → Prop} : ∀ {ds : List TyD} {vs : List AV}, nN Q ds vs → AV.elems vs = true ∧ AV.sizes vs = TyD.sizes ds
  | [], vs, h => by simp only [nN] at h; subst h; exact ⟨rfl, rfl⟩
  | d :: ds, vs, h => by
    simp only [nN] at h
    obtain ⟨v, r, rfl, h1, h2⟩ := h
    have a := zG h1
    have b := aCy h2
    exact ⟨by simp only [AV.elems, a.1, b.1, Bool.and_self], by simp only [AV.sizes, TyD.sizes, a.2.1, b.2]⟩
end

theorem aDT {X : Cx} {d : AV} {cs : Nat → List Value} : ∀ (n : Nat) (xs : List AV), xs.length = n → (∀ i, i < n → EC X (xs.getD i d) (cs i)) → ECs X xs ((List.range n).flatMap cs)
  | 0, xs, hl, _ => by rw [List.length_eq_zero_iff.1 hl]; simp only [ECs, List.range_zero, List.flatMap_nil]
  | n + 1, xs, hl, h => by
    rw [List.range_succ, List.flatMap_append]
    have e : xs = xs.take n ++ [xs.getD n d] := by
      have hn : n < xs.length := by omega
      apply List.ext_getElem (by simp; omega)
      intro i h1 h2
      by_cases hi : i < n
      · rw [List.getElem_append_left (by simp; omega)]; simp
      · have : i = n := by omega
        subst this
        rw [List.getElem_append_right (by simp; omega)]; simp [List.getD, hn]
    rw [e]
    refine sM (aDT (d := d) n _ (by simp; omega) fun i hi => ?_) ?_
    · have := h i (by omega)
      rwa [show (xs.take n).getD i d = xs.getD i d by simp [List.getD, hi]]
    · simp only [ECs, List.flatMap_cons, List.flatMap_nil, List.append_nil]
      exact ⟨_, [], (List.append_nil _).symm, h n (by omega), rfl⟩

theorem aGB {d : TyD} {T : TypeId} {fuel : Nat} {cs : List Value} {x : DataW H × List MemPlace} (h : aFy P d T = true) (ht : DataW.trod enc P w 0 spare held fuel T cs = some x) : ∃ v, lR wfL0 d v ∧ VC (kF w) v cs :=
  xL (fun e T E fuel cs x hu h ht => aGA hu h ht) d T fuel cs x h ht

theorem aKI (e : LK) {E : TypeId} (hE : aIc P e E = true) {fuel : Nat} {cs : Nat → List Value} {n : Nat} (h : ∀ i, i < n → ∃ x, DataW.trod enc P w 0 spare held fuel E (cs i) = some x) :
    ∃ l : Lst, l.kind = e ∧ wfL l ∧ l.len = n ∧ LR (kF w) l ((List.range n).flatMap cs) := by
  cases hp : e.plain with
  | true =>
    obtain ⟨l, h1, h2, h3⟩ := aCx e hp (by cases e <;> first | exact hE | cases hp) h
    exact ⟨l, h1, aMB h2, h3⟩
  | false =>
    cases e <;> simp only [LK.plain, Bool.true_eq_false] at hp
    rename_i k
    have hE : aFy P k.ty E = true := hE
    obtain ⟨xs, hl, hx⟩ := mX k.zero (fun i v => lR wfL0 k.ty v ∧ VC (kF w) v (cs i)) n fun i hi => by
      obtain ⟨x, hx⟩ := h i hi
      exact aGB hE hx
    have hm : ∀ v ∈ xs, lR wfL0 k.ty v := fun v hv => by
      obtain ⟨i, hi, rfl⟩ := List.getElem_of_mem hv
      have := (hx i (by omega)).1
      rwa [List.getD_eq_getElem?_getD, List.getElem?_eq_getElem hi] at this
    refine ⟨.vals k xs, rfl, hm, hl, jQ.2 ⟨fun v hv => ?_, aDT (d := k.zero) n xs hl fun i hi => aHB (zG (hx i hi).1).1 (hx i hi).2⟩⟩
    have := zG (hm v hv)
    exact ⟨this.2.1.trans (by cases k <;> rfl), this.2.2.trans (by cases k <;> rfl)⟩

theorem aIf {e : LK} {T E : TypeId} {fuel : Nat} {cs : List Value} {x : DataW H × List MemPlace} (hu : P.underlying T = some (.slice E)) (hE : (Nat.beq (P.cellsOf E) e.size && aIc P e E) = true)
    (ht : DataW.trod enc P w 0 spare held fuel T cs = some x) : ∃ l, l.kind = e ∧ wfL l ∧ l.len ≤ maxLen ∧ VC (kF w) (.sl false l) cs := by
  simp only [Bool.and_eq_true] at hE
  exact aDS hu (Nat.eq_of_beq_eq_true hE.1) (fun _ _ _ h => aKI e hE.2 h) ht

theorem aIg {d : TyD} {T : TypeId} {fuel : Nat} {cs : List Value} {x : DataW H × List MemPlace} (h : aId P d T = true) (ht : DataW.trod enc P w 0 spare held fuel T cs = some x) : ∃ v, aOC d v ∧ VC (kF w) v cs :=
  xL (fun e T E fuel cs x hu h ht => aIf hu h ht) d T fuel cs x h ht

theorem open_sl {r : Reach} {base : Nat} {e : LK} {T : TypeId} {v : Value} {dd : DataW H} {ps : List MemPlace} (h : aId P (.slice e) T = true) (hok : Value.okWide P w r base T v) (ht : DataW.Trod enc P w 0 spare held T v dd ps) :
    ∃ l, l.kind = e ∧ wfL l ∧ l.len ≤ maxLen ∧ VV (kF w) (.sl false l) v := by
  obtain ⟨fuel, ht⟩ := ht
  obtain ⟨av, ⟨l, rfl, g1, g2, g3⟩, hv⟩ := aIg h ht
  refine ⟨l, g1, g2, g3, ?_⟩
  unfold aId lC at h
  split at h
  · rename_i E hu
    simp only [Value.okWide, hu, Cell.okWide] at hok
    have hv : ∃ c, v.cells.toList = [c] ∧ VV (kF w) (.sl false l) c := hv
    obtain ⟨c, hc, hv⟩ := hv
    have : v = c := by
      cases v <;> simp_all [Cell.ok, Value.cells]
    rw [this]; exact hv
  · cases h
end

end Lam
namespace Lam
open Go

abbrev JR := Option (Prop × Bool × AV × Bool × AV × List AObj)
abbrev JCon := List AV → JR

def aIh : AV → Bool
  | .iface _ u => u.noSl
  | _ => false

theorem panV {X Y : Cx} {v : AV} {c : Value} (h : aIh v = true) (hv : VV X v c) : VV Y v c := by
  cases v with
  | iface t u =>
    simp only [VV] at hv ⊢
    obtain ⟨z, rfl, hz⟩ := hv
    exact ⟨z, rfl, aCh h hz⟩
  | _ => cases h

structure oW (P : Program) (f : FuncId) (J : JCon) : Prop where
  enter : ∀ (args : Array Value) (w : World), (callFunc f args).run P w = .ok (.enter f args) w
  spec : ∀ vs S pb pv b v news, J vs = some (S, pb, pv, b, v, news) → S → ∀ (X0 : Cx) (cs : Array Value), X0.h = [] → X0.μ = [] → HR X0 → VVs X0 vs cs.toList →
    Calls P f cs X0.w fun e w' => (pb = true ∧ aIh pv = true ∧ ∃ c Y, e = .panicked [{ v := c, recovered := false }] ∧ Y.w = w' ∧ HR Y ∧ Ext X0 Y ∧ VV Y pv c) ∨ (pb = false ∧ Ends X0 b v news e w')

def aAs (J : JCon) (vs : Option (List AV)) : JR :=
  match vs with
  | some vs => match AV.closeds vs with
    | true => J vs
    | false => none
  | none => none

def jrun (x : JR) (rows : List Nat) (h : List AObj) (K : AOut → List AObj → Prop) : Prop :=
  match x with
  | some (S, pb, pv, b, v, news) => S ∧ (pb = true → K (.pan pv) h) ∧ (pb = false → match b with
    | true => K (.ret (v.shift h.length)) (h ++ news)
    | false => match v.noSl with
      | true => K (.ret v) h
      | false => K (.ret v) (fZ rows h))
  | none => False

def Jcon (J : JCon) : Con := fun args h K => jrun (aAs J (AV.vals h args)) (AV.rowss args) h K

theorem aJE {J : JCon} {vs : Option (List AV)} {r} (h : aAs J vs = some r) : ∃ us, vs = some us ∧ AV.closeds us = true ∧ J us = some r := by
  unfold aAs at h
  split at h
  · rename_i us
    split at h
    · rename_i hc; exact ⟨us, rfl, hc, h⟩
    · cases h
  · cases h

section
variable {P : Program}

theorem oW.con {f : FuncId} {J : JCon} (h : oW P f J) : dB P f (Jcon J) := by
  refine ⟨fun args hh K hC X cs H hXh hv => ⟨fun w => h.enter cs w, ?_⟩⟩
  subst hXh
  unfold Jcon jrun at hC
  split at hC
  rotate_left
  · exact hC.elim
  rename_i S pb pv b v news e
  obtain ⟨hS, hp, hr⟩ := hC
  obtain ⟨us, e1, e2, e3⟩ := aJE e
  have base := fun (S' : Nat → Prop) (hS' : ∀ b, X.S b → S' b) (hr' : ∀ id ∈ AV.rowss args, ∀ b, X.μ[id]? = some (some b) → S' b) (hlt : ∀ b, S' b → b < X.w.heap.size) =>
    h.spec _ _ _ _ _ _ _ e3 hS ⟨S', [], [], X.w⟩ cs rfl rfl (hr0 hlt) (xG H hS' hr' e1 e2 hv)
  cases pb with
  | true =>
    refine (base (fun b => b < X.w.heap.size) H.old (fun id _ b hb => (H.live id b hb).1) (fun _ h => h)).mono fun e w' he => ?_
    rcases he with ⟨_, hpo, c, Y, rfl, rfl, HY, E, hvv⟩ | ⟨h, _⟩
    · obtain ⟨Z1, Z2⟩ := vE H E
      exact ⟨⟨X.S, X.μ, X.h, Y.w⟩, .pan pv, rfl, Z1, Z2, ⟨c, rfl, panV hpo hvv⟩, hp rfl⟩
    · cases h
  | false =>
    have hr := hr rfl
    cases b with
    | true =>
      obtain ⟨H', E'⟩ := tT H news.length
      refine (base (fun b => b < X.w.heap.size) H.old (fun id _ b hb => (H.live id b hb).1) (fun _ h => h)).mono fun e w' he => ?_
      rcases he with ⟨h, _⟩ | ⟨_, he⟩
      · cases h
      obtain ⟨r, rfl, Y, rfl, HY, E, rfl, hnew, hsh, HY0, hvv⟩ := he
      obtain ⟨Z1, Z2, Z3⟩ := aDC (X := X.pad Y.h.length) (s := X.h.length) H' E HY0 (fun j hj => by rw [rG, if_neg (by omega), if_pos (by omega)]) hnew
      refine ⟨⟨(X.pad Y.h.length).S, eA (X.pad Y.h.length).μ X.h.length Y.μ, eA (X.pad Y.h.length).h X.h.length Y.h, Y.w⟩, .ret (v.shift X.h.length), rfl, Z1, E'.trans Z2, ⟨r, rfl, shV Z3 hsh hvv⟩, ?_⟩
      show K _ (eA (X.pad Y.h.length).h X.h.length Y.h)
      rw [show (X.pad Y.h.length).h = X.h ++ List.replicate Y.h.length .dead from rfl, uL]
      exact hr
    | false =>
      simp only at hr
      cases hns : v.noSl with
      | true =>
        rw [hns] at hr
        refine (base (fun b => b < X.w.heap.size) H.old (fun id _ b hb => (H.live id b hb).1) (fun _ h => h)).mono fun e w' he => ?_
        rcases he with ⟨h, _⟩ | ⟨_, he⟩
        · cases h
        obtain ⟨r, rfl, Y, rfl, HY, E, hcl, hvv⟩ := he
        obtain ⟨Z1, Z2⟩ := vE H E
        exact ⟨⟨X.S, X.μ, X.h, Y.w⟩, .ret v, rfl, Z1, Z2, ⟨r, rfl, aCh hns hvv⟩, hr⟩
      | false =>
        rw [hns] at hr
        obtain ⟨H1, E1⟩ := yY H (ids := AV.rowss args) (fun id hid => qZ hv id hid)
        refine (base (X.fro (AV.rowss args)).S (fun _ h => .inl h) (fun id hid b hb => .inr ⟨id, hid, hb⟩) H1.old).mono fun e w' he => ?_
        rcases he with ⟨h, _⟩ | ⟨_, he⟩
        · cases h
        obtain ⟨r, rfl, Y, rfl, HY, E, hcl, hvv⟩ := he
        obtain ⟨Z1, Z2⟩ := rT (X := X.fro (AV.rowss args)) H1 E HY
        exact ⟨⟨Y.S, X.μ, fZ (AV.rowss args) X.h, Y.w⟩, .ret v, rfl, Z1, E1.trans Z2,
          ⟨r, rfl, iK (X := Y) (Y := ⟨Y.S, X.μ, fZ (AV.rowss args) X.h, Y.w⟩) (fun _ h => h) (fun _ _ => rfl) hcl hvv⟩, hr⟩

def aIi (pb : Bool) (pv : AV) (b : Bool) (v : AV) (news : List AObj) : AOut → List AObj → Prop := fun ao h =>
  match pb with
  | true => ao = .pan pv
  | false => Post b v news ao h

theorem oW.of {c : Ctx} (O : Ok P c) {f : FuncId} {fn : Func} {J : JCon} (hf : P.funcs[f]? = some fn) (hn : (fn.name == "runtime.NumGoroutine") = false) (hb : fn.body.isNone = false)
    (hp : ∀ vs S pb pv b v news, J vs = some (S, pb, pv, b, v, news) → aIh pv = true)
    (h : ∀ vs S pb pv b v news, J vs = some (S, pb, pv, b, v, news) → S → funW c fn vs [] (aIi pb pv b v news)) : oW P f J := by
  refine ⟨rC hf hn hb, fun vs S pb pv b v news e hS X0 cs Hh Hm HX hv => ?_⟩
  have hw := h vs S pb pv b v news e hS
  rw [← Hh] at hw
  refine (uN O hf HX hv hw).mono fun en w' he => ?_
  obtain ⟨Y, ao, rfl, HY, EY, ho, hq⟩ := he
  cases pb with
  | true =>
    obtain rfl : ao = .pan pv := hq
    obtain ⟨c, rfl, hv⟩ := ho
    exact .inl ⟨rfl, hp _ _ _ _ _ _ _ e, c, Y, rfl, rfl, HY, EY, hv⟩
  | false => exact .inr ⟨rfl, Post.ends HX Hh Hm HY EY ho hq⟩
end

section
variable {h : List AObj} {K : AOut → List AObj → Prop} {S : Prop} {pb : Bool} {pv v : AV} {news : List AObj} {rows : List Nat}
@[go_sem] theorem aXA (J : JCon) (args : List AV) : Jcon J args h K = jrun (aAs J (AV.vals h args)) (AV.rowss args) h K := (rfl)
@[go_sem] theorem aOD (J : JCon) (vs : List AV) : aAs J (some vs) = if AV.closeds vs = true then J vs else none := by
  cases h : AV.closeds vs <;> simp [aAs, h]
@[go_sem] theorem aOE : jrun (some (S, pb, pv, true, v, news)) rows h K = (S ∧ (pb = true → K (.pan pv) h) ∧ (pb = false → K (.ret (v.shift h.length)) (h ++ news))) := (rfl)
@[go_sem] theorem aOF (hv : v.noSl = true) : jrun (some (S, pb, pv, false, v, news)) rows h K = (S ∧ (pb = true → K (.pan pv) h) ∧ (pb = false → K (.ret v) h)) := by simp [jrun, hv]
@[go_sem] theorem aUI (hv : v.noSl = false) : jrun (some (S, pb, pv, false, v, news)) rows h K = (S ∧ (pb = true → K (.pan pv) h) ∧ (pb = false → K (.ret v) (fZ rows h))) := by simp [jrun, hv]
end
end Lam
namespace Lam
open Go

def aLu (o : Oper) : Option (Operand × FuncId) :=
  match o.op, o.guard, o.dst with
  | .defer cl, none, none => match cl.callee, cl.args.toList with
    | .value (.func f), [x] => some (x, f)
    | _, _ => none
  | _, _, _ => none

def aLv : Code → Option (Code × (Operand × FuncId) × Code)
  | .seq a (.seq (.region _ ops draw) b) => match draw with
    | true => none
    | false => match ops.toList with
      | [o] => match aLu o with
        | some p => some (a, p, b)
        | none => none
      | _ => none
  | _ => none

def defX (v : AV) (K : Nat → Prop) : Prop :=
  match v with
  | .ptr id [] => K id
  | _ => False

def aED (o : Option AObj) (A : Prop) : Prop :=
  match o with
  | some (.box (.int .i64 _)) => A
  | _ => False

def aCz (corT : TypeId) (code : Int) (v : AV) (id : Nat) (h : List AObj) (k : List AObj → Prop) : Prop :=
  v = .iface corT (.agg []) ∧ aED (h[id]?) (k ((h ++ [AObj.box (.agg [])]).set id (AObj.box (.int .i64 code))))

def endT (c : Ctx) (fn : Func) (K : AOut → List AObj → Prop) (t : List (Nat × AV)) (h : List AObj) : Prop := resW c h t fn.results.toList fun vs => K (.ret (rO vs)) h

def aJF (c : Ctx) (fn : Func) (tf : FuncId) (corT : TypeId) (code : Int) (d : Option (Code × (Operand × FuncId) × Code)) (args : List AV) (h : List AObj) (K : AOut → List AObj → Prop) : Prop :=
  match d with
  | none => False
  | some (a, (x, f), b) => match Nat.beq f tf with
    | false => False
    | true => W c none a ⟨init 0 args, h⟩ fun e st => match e with
      | .normal => defX (ev st.t .ptr x) fun id => W c none b st fun e st' => match e with
        | .ret => endT c fn K st'.t st'.h
        | .normal => endT c fn K st'.t st'.h
        | .pan v => aCz corT code v id st'.h fun h' => endT c fn K st'.t h'
        | _ => False
      | _ => False

def aEE (c : Ctx) (fn : Func) (tf : FuncId) (corT : TypeId) (code : Int) (args : List AV) (h : List AObj) (K : AOut → List AObj → Prop) : Prop :=
  match fn.body with
  | none => False
  | some body => match kB fn.ntmps body && Nat.ble args.length fn.ntmps with
    | true => aJF c fn tf corT code (aLv body) args h K
    | false => False

structure aIj (P : Program) (tf : FuncId) (corT : TypeId) (code : Int) : Prop where
  enter : ∀ (args : Array Value) (w : World), (callFunc tf args).run P w = .ok (.enter tf args) w
  ret : ∀ (q : Value) (w : World), CallsDIn (FW none) 0 P tf #[q] .returning w fun e u' w' => (∃ v, e = .returned v) ∧ u' = .returning ∧ w' = w
  pan : ∀ (X : Cx) (id : Nat) (q z : Value) (n : Int), HR X → VV X (.ptr id []) q → VV X (.iface corT (.agg [])) z → X.h[id]? = some (.box (.int .i64 n)) →
    CallsDIn (FW none) 0 P tf #[q] (.panicking [{ v := z, recovered := false }]) X.w fun e u' w' => (∃ v, e = .returned v) ∧ u' = .panicking [{ v := z, recovered := true }] ∧
      ∃ Y : Cx, Y.w = w' ∧ HR Y ∧ Ext X Y ∧ Y.h = (X.h ++ [AObj.box (.agg [])]).set id (AObj.box (.int .i64 code))

theorem uO {P : Program} {f : FuncId} {fn : Func} {c : Code} {args : Array Value} {u : FrameMode} {w : World} {R : Ending → FrameMode → World → Prop}
    (hf : P.funcs[f]? = some fn) (hb : fn.body = some c)
    (h : ∀ (c₀ : Frame) (cs : List Frame), c₀.mode = u →
      c.wpS P (bodyPostS P fn c₀ cs R) { tmps := args ++ Array.replicate (fn.ntmps - args.size) undef, defers := [] } (c₀ :: cs) w) :
    CallsDIn (FW none) 0 P f args u w R := by
  refine ⟨trivial, fun c₀ cs hu _ => ?_⟩
  let b : Frame := { (default : Frame) with fn := f, kind := .deferred }
  have henter : Frame.enter P f args .deferred =
      b.at { tmps := args ++ Array.replicate (fn.ntmps - args.size) undef, defers := [] } [.code c] := by
    simp [Frame.enter, Frame.at, hf, hb, b]
  obtain ⟨e, a', cs', w', hq, harr⟩ := h c₀ cs hu b [] rfl rfl
  rw [← henter] at harr
  cases e with
  | normal =>
    obtain ⟨hd, u', rfl, v, hr, hR⟩ := hq
    exact ⟨.returned v, u', w', _, hR, comesIn_wide.2 (Steps.trans harr (.one step_end)), rfl, rfl, rfl, hd, fn, hf, hr⟩
  | ret =>
    obtain ⟨hd, u', rfl, v, hr, hR⟩ := hq
    obtain ⟨todo, hs⟩ := harr
    exact ⟨.returned v, u', w', _, hR, comesIn_wide.2 hs, rfl, rfl, rfl, hd, fn, hf, hr⟩
  | panic chain =>
    obtain ⟨hd, u', rfl, hR⟩ := hq
    obtain ⟨todo, hs⟩ := harr
    exact ⟨.panicked chain, u', w', _, hR, comesIn_wide.2 hs, rfl, rfl, rfl, hd, fn, hf⟩
  | exit id => exact hq.elim
  | goto l => exact hq.elim
  | outgrown =>
    obtain ⟨u', hR⟩ := hq
    exact ⟨.outgrown, u', w', b, hR, comesIn_wide.2 (harr.resolve_left (by simp [b])), rfl, rfl, trivial⟩

section
variable {P : Program} {c : Ctx}

theorem aJG {corT : TypeId} {code : Int} {v : AV} {id : Nat} {h : List AObj} {k : List AObj → Prop} (hw : aCz corT code v id h k) :
    v = .iface corT (.agg []) ∧ (∃ n, h[id]? = some (.box (.int .i64 n))) ∧ k ((h ++ [AObj.box (.agg [])]).set id (AObj.box (.int .i64 code))) := by
  obtain ⟨h1, h2⟩ := hw
  unfold aED at h2
  split at h2
  · rename_i n e; exact ⟨h1, ⟨n, e⟩, h2⟩
  · exact h2.elim

theorem aKJ (O : Ok P c) {tf : FuncId} {corT : TypeId} {code : Int} (TT : aIj P tf corT code) {f : FuncId} {fn : Func} (hf : P.funcs[f]? = some fn) {vs : List AV} {cs : Array Value} {X : Cx} (H : HR X) (hv : VVs X vs cs.toList) {K : AOut → List AObj → Prop}
    (hw : aEE c fn tf corT code vs X.h K) : Calls P f cs X.w fun e w' => ∃ Y ao, Y.w = w' ∧ HR Y ∧ Ext X Y ∧ OutR Y ao e ∧ K ao Y.h := by
  have YY : ∀ (B : Cx) l, YOk P B l (c.envY l) := fun B l => xJ (O.y l)
  unfold aEE at hw
  split at hw
  · exact hw.elim
  rename_i body hb
  split at hw
  rotate_left
  · exact hw.elim
  rename_i hok
  simp only [Bool.and_eq_true] at hok
  have hlen : vs.length ≤ fn.ntmps := Nat.le_of_ble_eq_true hok.2
  unfold aJF at hw
  split at hw
  · exact hw.elim
  rename_i a0 x f0 b hdef
  split at hw
  · exact hw.elim
  rename_i hff
  obtain rfl := Nat.eq_of_beq_eq_true hff
  unfold aLv at hdef
  split at hdef
  rotate_left
  · cases hdef
  rename_i a1 id ops draw b1
  split at hdef
  · cases hdef
  split at hdef
  rotate_left
  · cases hdef
  rename_i o hops
  split at hdef
  rotate_left
  · cases hdef
  rename_i p hdc
  simp only [Option.some.injEq, Prod.mk.injEq] at hdef
  obtain ⟨rfl, rfl, rfl⟩ := hdef
  simp only [kB, Bool.and_eq_true] at hok
  obtain ⟨⟨hda, _, hdb⟩, _⟩ := hok
  unfold aLu at hdc
  split at hdc
  rotate_left
  · cases hdc
  rename_i cl hop hgd hds
  split at hdc
  rotate_left
  · cases hdc
  rename_i f1 x1 hcal hargs
  simp only [Option.some.injEq, Prod.mk.injEq] at hdc
  obtain ⟨rfl, rfl⟩ := hdc
  -- the ends
  have fin : ∀ (Y : Cx) (t : List (Nat × AV)) (tmps : Array Value) (l : List Deferred), HR Y → Ext X Y → (∀ i, VV Y (get t i) (tmps.getD i undef)) → fn.ntmps ≤ tmps.size → lY X.w.heap.size Y l → endT c fn K t Y.h →
      LeavesInM (FW none) 0 P fn tmps (fun e w' => ∃ Y ao, Y.w = w' ∧ HR Y ∧ Ext X Y ∧ OutR Y ao e ∧ K ao Y.h) l .returning Y.w := by
    intro Y t tmps l HY EY RV RS hm hr
    rw [← List.append_nil l]
    refine mW (by simp) l Y hm HY EY fun Z HZ EZ EV hZh => ?_
    have RZ : SR fn.ntmps ⟨X.w.heap.size, []⟩ Z t { tmps := tmps, defers := [] } := ⟨fun i => (RV i).extV EV, RS, kO.nil⟩
    unfold endT at hr
    rw [← hZh] at hr
    obtain ⟨us, ds, hK, hus, hrun⟩ := uM O.ok.tab HZ RZ _ hr
    refine ⟨(if h : ds.toArray.size = 1 then ds.toArray[0] else .tuple ds.toArray), ?_, Z, .ret (rO us), rfl, HZ, EZ, ⟨_, rfl, aDP hus⟩, hK⟩
    rw [sY, Array.mapM_eq_mapM_toList]
    simp only [Sem.run_bind, Sem.run_map, hrun, Result.andThen_ok, Sem.run_pure]
  refine (callsIn_wide (n := 0)).1 (callsIn_of_wp_marks (F := FW none) hf hb trivial (wpIn_seq ?_))
  refine aDi (n := fn.ntmps) O.mixed (B := X) a1 ⟨X.w.heap.size, []⟩ (Nat.le_refl _) none c O.ok O.s O.plain (YY _) O.i (.inl rfl) 0 none _ (init 0 vs) X _ _ a1 hda (Ext.refl X) H (aHj hv hlen rfl) hw
    (fun Y ae t' e a' HY EY hx hk => ?_) rfl
  cases ae with
  | ret => exact hk.elim
  | exit i => exact hk.elim
  | goto i => exact hk.elim
  | pan v => exact hk.elim
  | normal =>
    obtain ⟨rfl, R⟩ := hx
    simp only at hk
    unfold defX at hk
    split at hk
    rotate_left
    · exact hk.elim
    rename_i pid hpid
    have hq := R.ev x1 .ptr
    rw [hpid] at hq
    obtain ⟨m0, hm0, hmk0⟩ := R.defers
    simp only [List.append_nil] at hm0
    let d : Deferred := { target := .fn (.func f1) #[], args := #[a'.eval x1] }
    have hexec : (execOp a'.eval o).run P Y.w = .ok (.defer d) Y.w := by
      have : cl.args = #[x1] := by apply Array.toList_inj.1; rw [hargs]
      simp [execOp, hop, resolve, hcal, this, Act.eval, Deferred.ofValue, d]
    show (Code.seq (.region id ops false) b1).wpIn (FW none) 0 P _ a' Y.w
    refine wpIn_seq (wpIn_region_list ?_)
    rw [hops]
    have hw0 : Region.wanted o (yielded ops a'.tmps) = true := by simp [Region.wanted, hgd]
    simp only [wpListIn]
    rw [if_pos hw0]
    refine ⟨fun _ _ => trivial, ?_⟩
    show Oper.uponIn _ _ _ _ _ _ _ ((o.semAt none a'.eval).run P Y.w)
    rw [Oper.semAt_none, hexec, Oper.uponIn_defer]
    have hput : ({ a' with defers := d :: a'.defers } : Act).put o.dst undef = { a' with defers := d :: a'.defers } := by rw [hds]; rfl
    rw [hput]
    show b1.wpIn (FW none) 0 P _ { a' with defers := d :: a'.defers } Y.w
    have R1 : SR fn.ntmps ⟨Y.w.heap.size, d :: m0⟩ Y t' { a' with defers := d :: a'.defers } := ⟨R.v, R.size, [], by rw [hm0]; rfl, trivial⟩
    refine aDi (n := fn.ntmps) O.mixed (B := Y) b1 ⟨Y.w.heap.size, d :: m0⟩ (Nat.le_refl _) none c O.ok O.s O.plain (YY _) O.i (.inl rfl) 0 none _ t' Y _ _ b1 hdb (Ext.refl Y) HY R1 hk
      (fun Z ae t'' e a'' HZ EZ hx hk => ?_) rfl
    have inv : ∀ w, (invoke d.target d.args).run P w = .ok (.enter f1 #[a'.eval x1]) w := by
      intro w
      have : (invoke d.target d.args).run P w = (callFunc f1 #[a'.eval x1]).run P w := by simp [invoke, d]
      rw [this, TT.enter]
    have ok : SR fn.ntmps ⟨Y.w.heap.size, d :: m0⟩ Z t'' a'' → endT c fn K t'' Z.h → LeavesInM (FW none) 0 P fn a''.tmps (fun e w' => ∃ Y ao, Y.w = w' ∧ HR Y ∧ Ext X Y ∧ OutR Y ao e ∧ K ao Y.h) a''.defers .returning Z.w := by
      intro R2 hk
      obtain ⟨m2, hm2, hmk2⟩ := R2.defers
      rw [hm2]
      refine mW (by simp) (X0 := Y) m2 Z hmk2 HZ EZ fun V HV EV1 EV2 hh => ?_
      refine ⟨by simp, .inr ⟨fun h => (by cases h), _, _, _, _, rfl, inv _, fun _ _ => trivial, CallsDIn.mono (TT.ret _ V.w) ?_⟩⟩
      rintro e u' w' ⟨⟨v, rfl⟩, rfl, rfl⟩
      exact fin V t'' a''.tmps m0 HV (EY.trans EV1) (fun i => (R2.v i).extV EV2) R2.size (hmk0.ext EV1) (by rw [hh]; exact hk)
    cases ae with
    | exit i => exact hk.elim
    | goto i => exact hk.elim
    | ret => obtain ⟨rfl, R2⟩ := hx; exact ok R2 hk
    | normal => obtain ⟨rfl, R2⟩ := hx; exact ok R2 hk
    | pan v =>
      obtain ⟨⟨q, rfl, hvq⟩, R2⟩ := hx
      obtain ⟨rfl, ⟨n, hbox⟩, hk⟩ := aJG hk
      obtain ⟨m2, hm2, hmk2⟩ := R2.defers
      show LeavesInM _ _ _ _ _ _ a''.defers _ _
      rw [hm2]
      refine mW (by simp) (X0 := Y) m2 Z hmk2 HZ EZ fun V HV EV1 EV2 hh => ?_
      refine ⟨by simp, .inr ⟨fun h => (by cases h), _, _, _, _, rfl, inv _, fun _ _ => trivial, CallsDIn.mono (TT.pan V pid _ q n HV ((hq.ext EZ).extV EV2) (hvq.extV EV2) (by rw [hh]; exact hbox)) ?_⟩⟩
      rintro e u' w' ⟨⟨v, rfl⟩, rfl, U, rfl, HU, EU, hUh⟩
      exact fin U t'' a''.tmps m0 HU (EY.trans (EV1.trans EU)) (fun i => ((R2.v i).extV EV2).ext EU) R2.size (hmk0.ext (EV1.trans EU)) (by rw [hUh, hh]; exact hk)

theorem bJ.ofD (O : Ok P c) {tf : FuncId} {corT : TypeId} {code : Int} (TT : aIj P tf corT code) {f : FuncId} {fn : Func} {C : aF} (hf : P.funcs[f]? = some fn) (hn : (fn.name == "runtime.NumGoroutine") = false) (hb : fn.body.isNone = false)
    (h : ∀ vs b S v news, C vs = some (b, some (S, v, news)) → S → aEE c fn tf corT code vs [] (Post b v news)) : bJ P f C := by
  refine ⟨rC hf hn hb, fun vs b S v news e hS X0 cs Hh Hm HX hv => ?_⟩
  have hw := h vs b S v news e hS
  rw [← Hh] at hw
  refine (aKJ O TT hf HX hv hw).mono fun en w' he => ?_
  obtain ⟨Y, ao, rfl, HY, EY, ho, hp⟩ := he
  exact hp.ends HX Hh Hm HY EY ho
end

section
variable {K : Nat → Prop} {k : List AObj → Prop} {h : List AObj}
@[go_sem] theorem aUJ (id : Nat) : defX (.ptr id []) K = K id := (rfl)
@[go_sem] theorem aUK (corT : TypeId) (code : Int) (v : AV) (id : Nat) : aCz corT code v id h k = (v = .iface corT (.agg []) ∧ aED (h[id]?) (k ((h ++ [AObj.box (.agg [])]).set id (AObj.box (.int .i64 code))))) := (rfl)
@[go_sem] theorem aRB (n : Int) (A : Prop) : aED (some (.box (.int .i64 n))) A = A := (rfl)
end

end Lam
namespace Lam
open Go

structure SubC (X X0 : Cx) (σ : List Nat) : Prop where
  S : X0.S = X.S
  w : X0.w = X.w
  len : X0.μ.length = σ.length
  mu : ∀ k i : Nat, σ[k]? = some i → X0.μ[k]? = X.μ[i]?
  nr : ∀ i ∈ σ, rowO (X.h[i]?) = none
  nd : σ.Nodup

theorem SubC.inv {X X0 : Cx} {σ : List Nat} (s : SubC X X0 σ) {k b : Nat} (h : X0.μ[k]? = some (some b)) : ∃ i, σ[k]? = some i ∧ X.μ[i]? = some (some b) := by
  have hk : k < σ.length := by rw [← s.len]; exact (List.getElem?_eq_some_iff.1 h).1
  refine ⟨σ[k], List.getElem?_eq_getElem hk, ?_⟩
  rw [← s.mu k _ (List.getElem?_eq_getElem hk)]; exact h

theorem SubC.hr {X X0 : Cx} {σ : List Nat} (H : HR X) (s : SubC X X0 σ) (hl : X0.h.length = σ.length) (ho : ∀ (k : Nat) (o : AObj), X0.h[k]? = some o → ∃ b, X0.μ[k]? = some b ∧ OR X0 b o) : HR X0 := by
  refine ⟨by rw [s.len, hl], ho, fun k k' b h1 h2 => ?_, fun k b h1 => ?_, fun b hb => by rw [s.w]; exact H.old b (by rw [← s.S]; exact hb)⟩
  · obtain ⟨i, e1, q1⟩ := s.inv h1
    obtain ⟨i', e2, q2⟩ := s.inv h2
    have := H.apart _ _ _ q1 q2
    subst this
    obtain ⟨g1, g1'⟩ := List.getElem?_eq_some_iff.1 e1
    obtain ⟨g2, g2'⟩ := List.getElem?_eq_some_iff.1 e2
    have hp := List.pairwise_iff_getElem.1 s.nd
    rcases Nat.lt_trichotomy k k' with h | h | h
    · exact absurd (by rw [g1', g2']) (hp k k' g1 g2 h)
    · exact h
    · exact absurd (by rw [g1', g2']) (hp k' k g2 g1 h)
  · obtain ⟨i, e1, q1⟩ := s.inv h1
    obtain ⟨l1, l2⟩ := H.live _ _ q1
    refine ⟨by rw [s.w]; exact l1, fun hs => ?_⟩
    rw [s.S] at hs
    obtain ⟨ver, l, e⟩ := l2 hs
    have := s.nr i (List.mem_of_getElem? e1)
    rw [e] at this; cases this

/-! ### A struct of a list and of two maps, and boxes of closed values -/
section
variable {X : Cx} {w : List Int} {id i j : Nat} {m1 m2 : Int → Bool} {ex : List AV} {σe : List Nat}

end

end Lam
namespace Lam
open Go

abbrev QR := Option (Prop × (AV → Prop))
abbrev QCon := List AV → QR

structure aLw (P : Program) (f : FuncId) (Q : QCon) : Prop where
  enter : ∀ (args : Array Value) (w : World), (callFunc f args).run P w = .ok (.enter f args) w
  spec : ∀ vs S q, Q vs = some (S, q) → S → ∀ (X0 : Cx) (cs : Array Value), X0.h = [] → X0.μ = [] → HR X0 → VVs X0 vs cs.toList →
    Calls P f cs X0.w fun e w' => ∃ v, q v ∧ Ends X0 false v [] e w'

def aAt (Q : QCon) (vs : Option (List AV)) : QR :=
  match vs with
  | some vs => match AV.closeds vs with
    | true => Q vs
    | false => none
  | none => none

def qrun (x : QR) (rows : List Nat) (h : List AObj) (K : AOut → List AObj → Prop) : Prop :=
  match x with
  | some (S, q) => S ∧ ∀ v, q v → K (.ret v) (fZ rows h)
  | none => False

def Qcon (Q : QCon) : Con := fun args h K => qrun (aAt Q (AV.vals h args)) (AV.rowss args) h K

theorem aJH {Q : QCon} {vs : Option (List AV)} {r} (h : aAt Q vs = some r) : ∃ us, vs = some us ∧ AV.closeds us = true ∧ Q us = some r := by
  unfold aAt at h
  split at h
  · rename_i us
    split at h
    · rename_i hc; exact ⟨us, rfl, hc, h⟩
    · cases h
  · cases h

section
variable {P : Program}

theorem aLw.con {f : FuncId} {Q : QCon} (h : aLw P f Q) : dB P f (Qcon Q) := by
  refine ⟨fun args hh K hC X cs H hXh hv => ⟨fun w => h.enter cs w, ?_⟩⟩
  subst hXh
  unfold Qcon qrun at hC
  split at hC
  rotate_left
  · exact hC.elim
  rename_i S q e
  obtain ⟨hS, hr⟩ := hC
  obtain ⟨us, e1, e2, e3⟩ := aJH e
  obtain ⟨H1, E1⟩ := yY H (ids := AV.rowss args) (fun id hid => qZ hv id hid)
  refine (h.spec _ _ _ e3 hS ⟨(X.fro (AV.rowss args)).S, [], [], X.w⟩ cs rfl rfl (hr0 H1.old) (xG H (fun _ h => .inl h) (fun id hid b hb => .inr ⟨id, hid, hb⟩) e1 e2 hv)).mono fun e w' he => ?_
  obtain ⟨v, hq, r, rfl, Y, rfl, HY, E, hcl, hvv⟩ := he
  obtain ⟨Z1, Z2⟩ := rT (X := X.fro (AV.rowss args)) H1 E HY
  exact ⟨⟨Y.S, X.μ, fZ (AV.rowss args) X.h, Y.w⟩, .ret v, rfl, Z1, E1.trans Z2,
    ⟨r, rfl, iK (X := Y) (Y := ⟨Y.S, X.μ, fZ (AV.rowss args) X.h, Y.w⟩) (fun _ h => h) (fun _ _ => rfl) hcl hvv⟩, hr v hq⟩

end

section
variable {h : List AObj} {K : AOut → List AObj → Prop} {S : Prop} {q : AV → Prop} {rows : List Nat}
@[go_sem] theorem aXB (Q : QCon) (args : List AV) : Qcon Q args h K = qrun (aAt Q (AV.vals h args)) (AV.rowss args) h K := (rfl)
@[go_sem] theorem aOG (Q : QCon) (vs : List AV) : aAt Q (some vs) = if AV.closeds vs = true then Q vs else none := by
  cases h : AV.closeds vs <;> simp [aAt, h]
@[go_sem] theorem aRC : qrun (some (S, q)) rows h K = (S ∧ ∀ v, q v → K (.ret v) (fZ rows h)) := (rfl)
end
end Lam
