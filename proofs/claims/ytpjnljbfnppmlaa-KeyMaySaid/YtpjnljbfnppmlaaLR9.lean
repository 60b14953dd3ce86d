/- Operations that change nothing: comparisons whole, conversions, what is built. -/
import Derived.Test.YtpjnljbfnppmlaaLR8
set_option linter.unusedVariables false
set_option linter.unnecessarySimpa false
set_option linter.unusedSectionVars false
set_option linter.unusedSimpArgs false
namespace Lam
open Go

section
variable {P : Program} {X : Cx}

theorem eqOpD_inv {op : BinOp} {b : Option Bool} {S : Prop} {v : AV} {news : List AObj} (h : eqOpD op b = some (S, v, news)) :
    ∃ q, b = some q ∧ news = [] ∧ ((op = .eql ∧ v = .bool q) ∨ (op = .neq ∧ v = .bool (!q))) := by
  unfold eqOpD at h
  split at h
  · obtain ⟨rfl, rfl, rfl⟩ := pD_inv h; exact ⟨_, rfl, rfl, .inl ⟨rfl, rfl⟩⟩
  · obtain ⟨rfl, rfl, rfl⟩ := pD_inv h; exact ⟨_, rfl, rfl, .inr ⟨rfl, rfl⟩⟩
  · cases h

theorem eqGuard_fits {d : TyD} {op : BinOp} {T : TypeId} {ox oy : Operand} {x y : AV} {c c' : Value} {q : Bool} (hT : tyB P d T = true) (h : AV.eqD d x y = some q) (hx : VV X x c) (hy : VV X y c') :
    (eqGuard op T ox oy c c').run P X.w = .ok () X.w := by
  have key : ∀ c, (∀ cs, c ≠ .agg cs) → c ≠ .nilIface → (eqGuard op T ox oy c c').run P X.w = .ok () X.w := by
    intro c h1 h2
    unfold eqGuard
    cases op <;> simp
    all_goals cases c <;> first | rfl | exact absurd rfl h2 | exact absurd rfl (h1 _)
  have sc : ScalEq X d x y q → (eqGuard op T ox oy c c').run P X.w = .ok () X.w := by
    intro hs
    cases hs with
    | int k0 k a b => obtain rfl : c = .int k a := hx; exact key _ (by simp) (by simp)
    | str a b => obtain rfl : c = .string (bstr a) := hx; exact key _ (by simp) (by simp)
    | bool a b => obtain rfl : c = .bool a := hx; exact key _ (by simp) (by simp)
    | fn => obtain rfl : c = .nilFunc := hx; exact key _ (by simp) (by simp)
    | arr n k xs ys h3 h4 =>
      simp only [VV] at hx hy
      obtain ⟨cx, rfl, _⟩ := hx
      obtain ⟨cy, rfl, _⟩ := hy
      exact run_eqGuard_agg X.w op T ox oy cx cy (ty_arr_guard hT)
  cases d with
  | strct fs =>
    simp only [AV.eqD] at h
    split at h
    · simp only [VV] at hx hy
      obtain ⟨cx, rfl, _⟩ := hx
      obtain ⟨cy, rfl, _⟩ := hy
      exact run_eqGuard_agg X.w op T ox oy cx cy (ty_strct hT).2.1
    · cases h
  | _ => exact sc (scalEq_inv (by simpa only [AV.eqD] using h))

/-- comparisons nest less than the model's bound -/
def TyD.shallow (d : TyD) : Prop := d.deep ≤ 9999

theorem bin_sound {d : TyD} {op : BinOp} {T : TypeId} {ox oy : Operand} {x y : AV} {c c' : Value} {S : Prop} {v : AV} {news : List AObj} (hT : tyB P d T = true) (hd : d.shallow) (hx : VV X x c) (hy : VV X y c')
    (h : binD d op x y = some (S, v, news)) (hS : S) : news = [] ∧ Pure P (do eqGuard op T ox oy c c'; binOp op T c c') X v := by
  have lift : ∀ {r}, (eqGuard op T ox oy c c').run P X.w = .ok () X.w → Pure P (binOp op T c c') X r → Pure P (do eqGuard op T ox oy c c'; binOp op T c c') X r := by
    rintro r hg ⟨z, hz, hv⟩
    exact ⟨z, by simp only [Sem.run_bind, hg, Result.andThen_ok, hz], hv⟩
  unfold binD at h
  split at h
  · rename_i k a k' b
    obtain rfl : c = .int k a := hx
    obtain rfl : c' = .int k' b := hy
    split at h
    · rename_i hk
      obtain ⟨h1, h2⟩ := intBin_sound (P := P) (X := X) T hk h hS
      exact ⟨h1, lift (by cases op <;> rfl) h2⟩
    · cases h
  · rename_i a b
    obtain rfl : c = .string (bstr a) := hx
    obtain rfl : c' = .string (bstr b) := hy
    obtain ⟨h1, h2⟩ := strBin_sound (P := P) (X := X) T h hS
    exact ⟨h1, lift (by cases op <;> rfl) h2⟩
  · rename_i hni hns
    obtain ⟨q, hq, rfl, hop⟩ := eqOpD_inv h
    refine ⟨rfl, lift (eqGuard_fits hT hq hx hy) ?_⟩
    have hr := eqD_run (n := 9999) hq hT hx hy hd
    have hr : (Op.equal T c c').run P X.w = .ok q X.w := hr
    have shape : (∃ p r, c = .bool p ∧ c' = .bool r) ∨ (c = .nilFunc ∧ c' = .nilFunc) ∨ ∃ p r, c = .agg p ∧ c' = .agg r := by
      cases d with
      | strct fs =>
        simp only [AV.eqD] at hq
        split at hq
        · simp only [VV] at hx hy
          obtain ⟨_, rfl, _⟩ := hx
          obtain ⟨_, rfl, _⟩ := hy
          exact .inr (.inr ⟨_, _, rfl, rfl⟩)
        · cases hq
      | _ =>
        have hs := scalEq_inv (X := X) (by simpa only [AV.eqD] using hq)
        cases hs <;> first
          | exact absurd rfl (hni _ _ _ _ rfl)
          | exact absurd rfl (hns _ _ rfl)
          | exact .inl ⟨_, _, hx, hy⟩
          | exact .inr (.inl ⟨hx, hy⟩)
          | (simp only [VV] at hx hy
             obtain ⟨_, rfl, _⟩ := hx
             obtain ⟨_, rfl, _⟩ := hy
             exact .inr (.inr ⟨_, _, rfl, rfl⟩))
    rcases hop with ⟨rfl, rfl⟩ | ⟨rfl, rfl⟩
    · refine ⟨.bool q, ?_, rfl⟩
      rcases shape with ⟨p, r, rfl, rfl⟩ | ⟨rfl, rfl⟩ | ⟨p, r, rfl, rfl⟩ <;> simp [binOp, hr]
    · refine ⟨.bool (!q), ?_, rfl⟩
      rcases shape with ⟨p, r, rfl, rfl⟩ | ⟨rfl, rfl⟩ | ⟨p, r, rfl, rfl⟩ <;> simp [binOp, hr]
end
end Lam
