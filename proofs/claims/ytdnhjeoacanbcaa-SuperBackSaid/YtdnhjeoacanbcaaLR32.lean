/- The condition of a piece of code holds of the model. -/
import Derived.Test.YtdnhjeoacanbcaaLR31
set_option linter.unnecessarySimpa false
set_option linter.unusedSectionVars false
set_option linter.unusedSimpArgs false
set_option linter.unusedVariables false
namespace Lam
open Go

/-- ways out, as they are told -/
def ExR (n : Nat) (ds : List Deferred) (Y : Cx) : AExit → List (Nat × AV) → Exit → Act → Prop
  | .normal, t, e, a => e = .normal ∧ SR n ds Y t a
  | .exit i, t, e, a => e = .exit i ∧ SR n ds Y t a
  | .goto l, t, e, a => e = .goto l ∧ SR n ds Y t a
  | .ret, t, e, a => e = .ret ∧ SR n ds Y t a
  | .pan v, _, e, a => (∃ q, e = .panic [{ v := q, recovered := false }] ∧ VV Y v q) ∧ n ≤ a.tmps.size ∧ a.defers = ds

def QOk (n : Nat) (ds : List Deferred) (X : Cx) (κ : AExit → St → Prop) (Q : Exit → Act → World → Prop) : Prop :=
  ∀ Y ae t' e a', HR Y → Ext X Y → ExR n ds Y ae t' e a' → κ ae ⟨t', Y.h⟩ → Q e a' Y.w

theorem QOk.ext {n : Nat} {ds : List Deferred} {X Y : Cx} {κ : AExit → St → Prop} {Q : Exit → Act → World → Prop} (h : QOk n ds X κ Q) (E : Ext X Y) : QOk n ds Y κ Q :=
  fun Z ae t' e a' HZ EZ hx hk => h Z ae t' e a' HZ (E.trans EZ) hx hk

/-- where the run goes on -/
def From (g : Option Nat) (code rest : Code) : Prop :=
  match g with
  | none => rest = code
  | some l => findLabel code l = some rest

section
variable {ro : Option Nat} {P : Program} {n : Nat} {ds : List Deferred} {c : Ctx}

theorem seq_Q {X : Cx} {κ : AExit → St → Prop} {Q : Exit → Act → World → Prop} {b : Code} {nf : Nat}
    (hQ : QOk n ds X κ Q)
    (hb : ∀ Y t a, HR Y → Ext X Y → SR n ds Y t a → W c none b ⟨t, Y.h⟩ κ → b.wpIn (FW ro) nf P Q a Y.w) :
    QOk n ds X (fun e st' => match e with
      | .normal => W c none b st' κ
      | e => κ e st') (Exit.then (b.wpIn (FW ro) nf P Q) Q) := by
  intro Y ae t' e a' HY EY hx hk
  cases ae with
  | normal => obtain ⟨rfl, R⟩ := hx; exact hb Y t' a' HY EY R hk
  | exit i => obtain ⟨rfl, R⟩ := hx; exact hQ Y (.exit i) t' _ a' HY EY ⟨rfl, R⟩ hk
  | goto i => obtain ⟨rfl, R⟩ := hx; exact hQ Y (.goto i) t' _ a' HY EY ⟨rfl, R⟩ hk
  | ret => obtain ⟨rfl, R⟩ := hx; exact hQ Y .ret t' _ a' HY EY ⟨rfl, R⟩ hk
  | pan v => obtain ⟨⟨q, rfl, hv⟩, h1, h2⟩ := hx; exact hQ Y (.pan v) t' _ a' HY EY ⟨⟨q, rfl, hv⟩, h1, h2⟩ hk

theorem W_sound (C : CtxOk P c) (CS : SOk P c.envS) (hdr : c.drawn = false) (hm : P.follows .mixedOrders = true) (nf : Nat) :
    ∀ (code : Code) (g : Option Nat) (κ : AExit → St → Prop) (t : List (Nat × AV)) (X : Cx) (a : Act) (Q : Exit → Act → World → Prop) (rest : Code),
      dstOk n code = true → HR X → SR n ds X t a → W c g code ⟨t, X.h⟩ κ → QOk n ds X κ Q → From g code rest → rest.wpIn (FW ro) nf P Q a X.w := by
  intro code
  induction code with
  | skip =>
    intro g κ t X a Q rest hd H R hw hQ hf
    cases g with
    | none => obtain rfl := hf; exact wpIn_skip (hQ X .normal t _ a H (Ext.refl X) ⟨rfl, R⟩ (by simpa only [W] using hw))
    | some l => simp only [W] at hw
  | ret =>
    intro g κ t X a Q rest hd H R hw hQ hf
    cases g with
    | none => obtain rfl := hf; exact wpIn_ret (hQ X .ret t _ a H (Ext.refl X) ⟨rfl, R⟩ (by simpa only [W] using hw))
    | some l => simp only [W] at hw
  | exit id =>
    intro g κ t X a Q rest hd H R hw hQ hf
    cases g with
    | none => obtain rfl := hf; exact wpIn_exit (hQ X (.exit id) t _ a H (Ext.refl X) ⟨rfl, R⟩ (by simpa only [W] using hw))
    | some l => simp only [W] at hw
  | goto l =>
    intro g κ t X a Q rest hd H R hw hQ hf
    cases g with
    | none => obtain rfl := hf; exact wpIn_goto (hQ X (.goto l) t _ a H (Ext.refl X) ⟨rfl, R⟩ (by simpa only [W] using hw))
    | some l => simp only [W] at hw
  | label l =>
    intro g κ t X a Q rest hd H R hw hQ hf
    cases g with
    | none => obtain rfl := hf; exact wpIn_label (hQ X .normal t _ a H (Ext.refl X) ⟨rfl, R⟩ (by simpa only [W] using hw))
    | some l' =>
      simp only [From, findLabel] at hf
      split at hf
      · cases hf
        exact wpIn_skip (hQ X .normal t _ a H (Ext.refl X) ⟨rfl, R⟩ (by simpa only [W] using hw))
      · cases hf
  | refuse w => intro g κ t X a Q rest hd H R hw hQ hf; cases g <;> simp only [W] at hw
  | rangeFunc f ps x y => intro g κ t X a Q rest hd H R hw hQ hf; cases g <;> simp only [W] at hw
  | seq x y ihx ihy =>
    intro g κ t X a Q rest hd H R hw hQ hf
    simp only [dstOk, Bool.and_eq_true] at hd
    have hy : ∀ Y t a, HR Y → Ext X Y → SR n ds Y t a → W c none y ⟨t, Y.h⟩ κ → y.wpIn (FW ro) nf P Q a Y.w :=
      fun Y t a HY EY RY hwy => ihy none κ t Y a Q y hd.2 HY RY hwy (hQ.ext EY) rfl
    cases g with
    | none =>
      obtain rfl := hf
      simp only [W] at hw
      exact wpIn_seq (ihx none _ t X a _ x hd.1 H R hw (seq_Q hQ hy) rfl)
    | some l =>
      simp only [W, hasLabel_eq] at hw
      simp only [From, findLabel] at hf
      cases hfx : findLabel x l with
      | some rx =>
        rw [hfx] at hf hw
        cases hf
        simp only [Option.isSome_some] at hw
        exact wpIn_seq (ihx (some l) _ t X a _ rx hd.1 H R hw (seq_Q hQ hy) hfx)
      | none =>
        rw [hfx] at hf hw
        simp only [Option.isSome_none] at hw
        exact ihy (some l) κ t X a Q rest hd.2 H R hw hQ hf
  | cond x p q ihp ihq =>
    intro g κ t X a Q rest hd H R hw hQ hf
    simp only [dstOk, Bool.and_eq_true] at hd
    cases g with
    | some l => simp only [W] at hw
    | none =>
      obtain rfl := hf
      simp only [W] at hw
      unfold condW at hw
      split at hw
      rotate_left
      · exact hw.elim
      rename_i b hb
      have hv : a.eval x = .bool b := by have := R.ev x .bool; rw [hb] at this; exact this
      exact wpIn_cond_split hv (fun h => ihp none κ t X a Q p hd.1 H R (hw.1 h) hQ rfl) (fun h => ihq none κ t X a Q q hd.2 H R (hw.2 h) hQ rfl)
  | block id p ih =>
    intro g κ t X a Q rest hd H R hw hQ hf
    simp only [dstOk] at hd
    cases g with
    | some l => simp only [W] at hw
    | none =>
      obtain rfl := hf
      simp only [W] at hw
      refine wpIn_block (ih none _ t X a _ p hd H R hw (fun Y ae t' e a' HY EY hx hk => ?_) rfl)
      cases ae with
      | normal => obtain ⟨rfl, R⟩ := hx; exact hQ Y .normal t' _ a' HY EY ⟨rfl, R⟩ hk
      | exit i =>
        obtain ⟨rfl, R⟩ := hx
        simp only [Exit.inBlock]
        simp only at hk
        by_cases e : i = id
        · subst e
          simp only [Nat.beq_refl] at hk
          rw [if_pos rfl]
          exact hQ Y .normal t' _ a' HY EY ⟨rfl, R⟩ hk
        · have : Nat.beq i id = false := by rw [Bool.eq_false_iff]; intro h; exact e (Nat.eq_of_beq_eq_true h)
          simp only [this] at hk
          rw [if_neg e]
          exact hQ Y (.exit i) t' _ a' HY EY ⟨rfl, R⟩ hk
      | goto i => obtain ⟨rfl, R⟩ := hx; exact hQ Y (.goto i) t' _ a' HY EY ⟨rfl, R⟩ hk
      | ret => obtain ⟨rfl, R⟩ := hx; exact hQ Y .ret t' _ a' HY EY ⟨rfl, R⟩ hk
      | pan v => obtain ⟨⟨q, rfl, hv⟩, h1, h2⟩ := hx; exact hQ Y (.pan v) t' _ a' HY EY ⟨⟨q, rfl, hv⟩, h1, h2⟩ hk
  | scope p ih =>
    intro g κ t X a Q rest hd H R hw hQ hf
    simp only [dstOk] at hd
    cases g with
    | some l => simp only [W] at hw
    | none =>
      obtain rfl := hf
      simp only [W] at hw
      refine wpIn_scope (fun l a w => ∃ Y t', Y.w = w ∧ HR Y ∧ Ext X Y ∧ SR n ds Y t' a ∧ W c (some l) p ⟨t', Y.h⟩ fun e st' => match e with
          | .goto _ => False
          | e => κ e st') (ih none _ t X a _ p hd H R hw (fun Y ae t' e a' HY EY hx hk => ?_) rfl) ?_
      · cases ae with
        | normal => obtain ⟨rfl, R⟩ := hx; exact hQ Y .normal t' _ a' HY EY ⟨rfl, R⟩ hk
        | exit i => obtain ⟨rfl, R⟩ := hx; exact hQ Y (.exit i) t' _ a' HY EY ⟨rfl, R⟩ hk
        | goto l =>
          obtain ⟨rfl, R⟩ := hx
          simp only [hasLabel_eq] at hk
          simp only [jumpS]
          cases hl : (findLabel p l).isSome with
          | true => rw [hl] at hk; rw [if_pos rfl]; exact ⟨Y, t', rfl, HY, EY, R, hk⟩
          | false => rw [hl] at hk; rw [if_neg (by simp)]; exact hQ Y (.goto l) t' _ a' HY EY ⟨rfl, R⟩ hk
        | ret => obtain ⟨rfl, R⟩ := hx; exact hQ Y .ret t' _ a' HY EY ⟨rfl, R⟩ hk
        | pan v => obtain ⟨⟨q, rfl, hv⟩, h1, h2⟩ := hx; exact hQ Y (.pan v) t' _ a' HY EY ⟨⟨q, rfl, hv⟩, h1, h2⟩ hk
      · rintro l rest a w hl ⟨Y, t', rfl, HY, EY, RY, hwy⟩
        refine ih (some l) _ t' Y a _ rest hd HY RY hwy (fun Z ae t'' e a' HZ EZ hx hk => ?_) hl
        cases ae with
        | normal => obtain ⟨rfl, R⟩ := hx; exact hQ Z .normal t'' _ a' HZ (EY.trans EZ) ⟨rfl, R⟩ hk
        | exit i => obtain ⟨rfl, R⟩ := hx; exact hQ Z (.exit i) t'' _ a' HZ (EY.trans EZ) ⟨rfl, R⟩ hk
        | goto l => exact hk.elim
        | ret => obtain ⟨rfl, R⟩ := hx; exact hQ Z .ret t'' _ a' HZ (EY.trans EZ) ⟨rfl, R⟩ hk
        | pan v => obtain ⟨⟨q, rfl, hv⟩, h1, h2⟩ := hx; exact hQ Z (.pan v) t'' _ a' HZ (EY.trans EZ) ⟨⟨q, rfl, hv⟩, h1, h2⟩ hk
  | loop p ih =>
    intro g κ t X a Q rest hd H R hw hQ hf
    simp only [dstOk] at hd
    cases g with
    | some l => simp only [W] at hw
    | none =>
      obtain rfl := hf
      simp only [W] at hw
      obtain ⟨Y, us, hYw, HY, EY, TY, hw⟩ := promV_sound _ _ H (TV.of_gets R (c.loop (firstRegion p)).live) hw
      rw [← hYw]
      obtain ⟨I, ⟨m0, hI0⟩, hround⟩ := hw
      -- the constants
      have TC0 : TV Y a (c.loop (firstRegion p)).const (gets t (c.loop (firstRegion p)).const) := (TV.of_gets R _).ext EY
      have TC : TV (Y.drop Y.h.length) a (c.loop (firstRegion p)).const (AV.norms Y.h.length Y.h (gets t (c.loop (firstRegion p)).const)) := TC0.norm HY
      refine wpIn_loop_n (fun m a w => ∃ Z vs, Z.w = w ∧ HR Z ∧ Ext Y Z ∧ TV Z a (c.loop (firstRegion p)).live vs ∧
          TV Z a (c.loop (firstRegion p)).const (AV.norms Y.h.length Y.h (gets t (c.loop (firstRegion p)).const)) ∧ n ≤ a.tmps.size ∧ a.defers = ds ∧ I m vs Z.h) m0
        ⟨Y.drop Y.h.length, _, rfl, drop_hr HY, drop_ext HY (Ext.refl Y) (Nat.le_refl _), TY.norm HY, TC, R.size, R.defers, hI0⟩ ?_
      rintro m a1 w1 ⟨Z, vs, rfl, HZ, EZ, T1, T2, hs, hdf, hI⟩
      have hb := forallV_inst (hround m Z.h) vs T1.len hI
      refine ih none _ _ Z a1 _ p hd HZ (SR.of_TV T1 T2 hs hdf) hb (fun V ae t' e a' HV EV hx hk => ?_) rfl
      cases ae with
      | normal =>
        obtain ⟨rfl, R'⟩ := hx
        obtain ⟨⟨m', hlt, hI'⟩, hconst⟩ := hk
        refine ⟨m', hlt, V.drop Y.h.length, _, rfl, drop_hr HV, drop_ext HY (EZ.trans EV) (Nat.le_refl _), (TV.of_gets R' _).norm HV, ?_, R'.size, R'.defers, hI'⟩
        have := (TV.of_gets R' (c.loop (firstRegion p)).const).norm HV (m := Y.h.length)
        rw [hconst] at this
        exact this
      | exit i => obtain ⟨rfl, R'⟩ := hx; exact hQ V (.exit i) t' _ a' HV (EY.trans (EZ.trans EV)) ⟨rfl, R'⟩ hk
      | goto l => obtain ⟨rfl, R'⟩ := hx; exact hQ V (.goto l) t' _ a' HV (EY.trans (EZ.trans EV)) ⟨rfl, R'⟩ hk
      | ret => obtain ⟨rfl, R'⟩ := hx; exact hQ V .ret t' _ a' HV (EY.trans (EZ.trans EV)) ⟨rfl, R'⟩ hk
      | pan v => obtain ⟨⟨q, rfl, hv⟩, h1, h2⟩ := hx; exact hQ V (.pan v) t' _ a' HV (EY.trans (EZ.trans EV)) ⟨⟨q, rfl, hv⟩, h1, h2⟩ hk
  | region id ops draw =>
    intro g κ t X a Q rest hd H R hw hQ hf
    cases g with
    | some l => simp only [W] at hw
    | none =>
      obtain rfl := hf
      have hds : ∀ o ∈ ops.toList, ∀ i, o.dst = some i → i < n := by
        intro o ho i hi
        simp only [dstOk, List.all_eq_true] at hd
        have := hd o ho
        rw [hi] at this
        simpa using this
      simp only [W] at hw
      cases draw with
      | false =>
        refine wpIn_region_list (opsW_sound C CS hdr nf ops ops.toList [] t X a hds (Kn.nil t) H R hw (fun Y t' a' HY EY RY hk => hQ Y .normal t' _ a' HY EY ⟨rfl, RY⟩ hk)
          (fun Y v q a' HY EY h1 h2 hk hv => hQ Y (.pan v) t _ a' HY EY ⟨⟨q, rfl, hv⟩, h1, h2⟩ hk))
      | true =>
        simp only at hw
        split at hw
        · exact hw.elim
        · rename_i hok
          exact region_draw C hm nf H R hds hok hw fun Y t' a' HY EY RY hk => hQ Y .normal t' _ a' HY EY ⟨rfl, RY⟩ hk
end

end Lam
