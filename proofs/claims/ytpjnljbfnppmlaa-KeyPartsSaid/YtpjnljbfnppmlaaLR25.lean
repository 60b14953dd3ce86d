/- Regions in the text's order. -/
import Derived.Test.YtpjnljbfnppmlaaLR24
set_option linter.unusedVariables false
set_option linter.unnecessarySimpa false
set_option linter.unusedSectionVars false
set_option linter.unusedSimpArgs false
namespace Lam
open Go

/-- what is known of guards holds -/
def Kn (t : List (Nat × AV)) (kn : List (Nat × Option Bool)) : Prop :=
  ∀ g v, known g kn = some v → match v with
    | some b => get t g = .bool b
    | none => get t g = .und

theorem Kn.nil (t : List (Nat × AV)) : Kn t [] := fun g v h => by cases h

theorem known_cons (g i : Nat) (b : Option Bool) (kn : List (Nat × Option Bool)) : known g ((i, b) :: kn) = if g = i then some b else known g kn := by
  simp only [known]
  by_cases h : g = i
  · subst h; simp
  · have : Nat.beq g i = false := by rw [Bool.eq_false_iff]; intro e; exact h (Nat.eq_of_beq_eq_true e)
    rw [this, if_neg h]

theorem Kn.unknow {t : List (Nat × AV)} {kn : List (Nat × Option Bool)} (h : Kn t kn) (d : Option Nat) (v : AV) : Kn (putO d v t) (unknow d kn) := by
  cases d with
  | none => exact h
  | some i =>
    simp only [Lam.unknow, putO]
    split
    · rename_i e
      intro g u hg
      have := h g u hg
      have hne : ¬ i = g := by rintro rfl; rw [e] at hg; cases hg
      simpa only [get_put, if_neg hne] using this
    · exact Kn.nil _

theorem Kn.passed {t : List (Nat × AV)} {kn : List (Nat × Option Bool)} (h : Kn t kn) (d : Option Nat) : Kn (putO d .und t) (passed d kn) := by
  cases d with
  | none => exact h
  | some i =>
    simp only [Lam.passed, putO]
    split
    · rename_i e
      intro g u hg
      rw [known_cons] at hg
      by_cases hgi : g = i
      · rw [if_pos hgi] at hg; cases hg
        simp only [get_put, hgi, if_true]
      · rw [if_neg hgi] at hg
        have := h g u hg
        simpa only [get_put, if_neg (Ne.symm hgi)] using this
    · exact Kn.nil _

theorem Kn.learn {t : List (Nat × AV)} {kn : List (Nat × Option Bool)} (h : Kn t kn) (g : Nat) (b : Bool) : Kn (put g (.bool b) t) ((g, some b) :: kn) := by
  intro i u hi
  rw [known_cons] at hi
  by_cases e : i = g
  · rw [if_pos e] at hi; cases hi
    simp only [get_put, e, if_true]
  · rw [if_neg e] at hi
    have := h i u hi
    simpa only [get_put, if_neg (Ne.symm e)] using this

section
variable {n : Nat} {ds : Nat} {X : Cx} {t : List (Nat × AV)} {a : Act} {ops : Array Oper}

theorem guardTmp_some {j g : Nat} (h : guardTmp ops.toList j = some g) : (ops[j]?).bind (·.dst) = some g := by
  simpa [guardTmp] using h

theorem yield_bool {j g : Nat} {b : Bool} (h : guardTmp ops.toList j = some g) (hv : a.tmps.getD g undef = .bool b) : yielded ops a.tmps j = some b := by
  unfold yielded
  rw [guardTmp_some h]
  simp only [Option.bind_some]
  rw [Array.getD_eq_getD_getElem?] at hv
  cases hx : a.tmps[g]? with
  | none => rw [hx] at hv; simp [undef] at hv
  | some v => rw [hx] at hv; simp at hv; simp [hv]

theorem yield_und {j g : Nat} (h : guardTmp ops.toList j = some g) (hv : a.tmps.getD g undef = undef) : yielded ops a.tmps j = none := by
  unfold yielded
  rw [guardTmp_some h]
  simp only [Option.bind_some]
  rw [Array.getD_eq_getD_getElem?] at hv
  cases hx : a.tmps[g]? with
  | none => rfl
  | some v => rw [hx] at hv; simp at hv; subst hv; rfl
end

section
variable {ro : Option Nat} {P : Program} {n : Nat} {ds : Nat} {c : Ctx}

theorem opsW_sound (C : CtxOk P c) (CS : SOk P c.envS) (hdr : c.drawn = false) {B : Cx} (YY : ∀ l, YOk P B l (c.envY l)) (nf : Nat) (ops : Array Oper) {KP : AV → List AObj → Prop} {κ : List (Nat × AV) → List AObj → Prop} {Q : Exit → Act → World → Prop} :
    ∀ (r : List Oper) (kn : List (Nat × Option Bool)) (t : List (Nat × AV)) (X : Cx) (a : Act), (∀ o ∈ r, ∀ i, o.dst = some i → i < n) → Kn t kn → Ext B X → HR X → SR n ds X t a → opsW c ops.toList KP κ r kn t X.h →
      (∀ Y t' a', HR Y → Ext X Y → SR n ds Y t' a' → κ t' Y.h → Q .normal a' Y.w) →
      (∀ Y v q a', HR Y → Ext X Y → n ≤ a'.tmps.size → DefOk ds Y a'.defers → KP v Y.h → VV Y v q → Q (.panic [{ v := q, recovered := false }]) a' Y.w) →
      wpListIn (FW ro) nf P ops Q r a X.w
  | [], kn, t, X, a, _, _, EB, H, R, hw, hk, _ => hk X t a H (Ext.refl X) R hw
  | o :: r, kn, t, X, a, hd, hkn, EB, H, R, hw, hk, hkp => by
    have hdo := hd o (by simp)
    have hdr' : ∀ o ∈ r, ∀ i, o.dst = some i → i < n := fun o' h => hd o' (by simp [h])
    have step : ∀ (t : List (Nat × AV)) (kn : List (Nat × Option Bool)), Kn t kn → SR n ds X t a → opW c t X.h o.op o.type (fun v h' => opsW c ops.toList KP κ r (unknow o.dst kn) (putO o.dst v t) h') KP →
        o.wpIn (FW ro) nf P a X.w (wpListIn (FW ro) nf P ops Q r) Q := by
      intro t kn hkn R hw
      refine opW_sound C CS hdr YY EB H R hw nf (fun Y v q HY EY hk1 hv => ?_) (fun Y v q HY EY hk1 hv => hkp Y v q a HY EY R.size (R.defers.ext EY) hk1 hv)
      refine opsW_sound C CS hdr YY nf ops r _ _ Y (a.put o.dst q) hdr' (hkn.unknow o.dst v) (EB.trans EY) HY ((R.ext EY).putO hdo hv) hk1 (fun Z t' a' HZ EZ RZ h => hk Z t' a' HZ (EY.trans EZ) RZ h)
        (fun Z v q a' HZ EZ h1 h2 h3 h4 => hkp Z v q a' HZ (EY.trans EZ) h1 h2 h3 h4)
    have pass : ∀ (t : List (Nat × AV)) (kn : List (Nat × Option Bool)), Kn t kn → SR n ds X t a → opsW c ops.toList KP κ r (passed o.dst kn) (putO o.dst .und t) X.h →
        (∀ f, o.about P X.w a.eval = some f → (FW ro).fn f) ∧ wpListIn (FW ro) nf P ops Q r (a.put o.dst undef) X.w := by
      intro t kn hkn R hw
      refine ⟨fun _ _ => trivial, ?_⟩
      exact opsW_sound C CS hdr YY nf ops r _ _ X (a.put o.dst undef) hdr' (hkn.passed o.dst) EB H (R.putO hdo rfl) hw hk hkp
    simp only [wpListIn]
    simp only [opsW] at hw
    split at hw
    · rename_i hg
      have : Region.wanted o (yielded ops a.tmps) = true := by simp [Region.wanted, hg]
      rw [if_pos this]
      exact step t kn hkn R hw
    · rename_i j want hg
      have wt : ∀ b, yielded ops a.tmps j = some b → Region.wanted o (yielded ops a.tmps) = (b == want) := by
        intro b hb; simp [Region.wanted, hg, hb]
      have wn : yielded ops a.tmps j = none → Region.wanted o (yielded ops a.tmps) = false := by
        intro hb; simp [Region.wanted, hg, hb]
      split at hw
      · exact hw.elim
      · rename_i g hgt
        split at hw
        · rename_i b hb
          have hv := R.v g
          rw [hkn g _ hb] at hv
          have hy := yield_bool hgt hv
          split at hw
          · rename_i e
            rw [if_pos (by rw [wt b hy]; exact e)]
            exact step t kn hkn R hw
          · rename_i e
            rw [if_neg (by rw [wt b hy, e]; simp)]
            exact pass t kn hkn R hw
        · rename_i hb
          have hv := R.v g
          rw [hkn g _ hb] at hv
          have hy := yield_und hgt hv
          rw [if_neg (by rw [wn hy]; simp)]
          exact pass t kn hkn R hw
        · unfold guardW at hw
          split at hw
          rotate_left
          · exact hw.elim
          rename_i b hb
          have hv := R.v g
          rw [hb] at hv
          have hy := yield_bool hgt hv
          by_cases e : b = want
          · subst e
            rw [if_pos (by rw [wt b hy]; simp)]
            exact step _ _ (hkn.learn g b) (R.learn hv) (hw.1 rfl)
          · have e' : b = !want := by cases b <;> cases want <;> simp_all
            rw [if_neg (by rw [wt b hy]; simpa using e)]
            refine pass _ _ (hkn.learn g (!want)) (R.learn (by rw [← e']; exact hv)) (hw.2 e')
end

end Lam
