/- Operations that change nothing: reckoning. -/
import Derived.Test.YtpjnljbfnppmlaaLR4
set_option linter.unusedVariables false
set_option linter.unnecessarySimpa false
set_option linter.unusedSectionVars false
set_option linter.unusedSimpArgs false
namespace Lam
open Go

/-- an operation on values that changes nothing and looks at nothing -/
def Pure (P : Program) (s : Sem Value) (X : Cx) (v : AV) : Prop := ∃ c, (s.run P X.w = .ok c X.w) ∧ VV X v c

section
variable {P : Program} {X : Cx}

theorem pD_inv {S : Prop} {v : AV} {S' : Prop} {v' : AV} {news : List AObj} (h : pD S v = some (S', v', news)) : S' = S ∧ v' = v ∧ news = [] := by
  simp only [pD, Option.some.injEq, Prod.mk.injEq] at h
  exact ⟨h.1.symm, h.2.1.symm, h.2.2.symm⟩

theorem intBin_sound {op : BinOp} {k k' : IntKind} {a b : Int} {S : Prop} {v : AV} {news : List AObj} (T : TypeId) (hk : k = k' ∨ isShift op = true)
    (h : intBinD op k a b = some (S, v, news)) (hS : S) : news = [] ∧ Pure P (binOp op T (.int k a) (.int k' b)) X v := by
  have he : (a == b) = decide (a = b) := by rw [Bool.eq_iff_iff]; simp
  cases op <;> simp only [intBinD] at h <;> obtain ⟨rfl, rfl, rfl⟩ := pD_inv h <;> refine ⟨rfl, ?_⟩
  case shl => exact ⟨_, by simp [binOp, Op.shift, Int.not_lt.2 hS], rfl⟩
  case shr => exact ⟨_, by simp [binOp, Op.shift, Int.not_lt.2 hS], rfl⟩
  all_goals
    have hk : k = k' := by simpa [isShift] using hk
    subst hk
  case quo => exact ⟨_, by simp [binOp, Op.intDiv, hS], rfl⟩
  case rem => exact ⟨_, by simp [binOp, Op.intDiv, hS], rfl⟩
  case eql => exact ⟨.bool (decide (a = b)), by simp only [binOp, Op.intCmp, ne_eq, not_true, if_false, he]; rfl, rfl⟩
  case neq => exact ⟨.bool (!decide (a = b)), by simp only [binOp, Op.intCmp, ne_eq, not_true, if_false, bne, he]; rfl, rfl⟩
  case lss => exact ⟨_, by simp [binOp, Op.intCmp], rfl⟩
  case leq => exact ⟨_, by simp [binOp, Op.intCmp], rfl⟩
  case gtr => exact ⟨_, by simp [binOp, Op.intCmp], rfl⟩
  case geq => exact ⟨_, by simp [binOp, Op.intCmp], rfl⟩
  case add => exact ⟨_, by simp [binOp, Op.intArith], rfl⟩
  case sub => exact ⟨_, by simp [binOp, Op.intArith], rfl⟩
  case mul => exact ⟨_, by simp [binOp, Op.intArith], rfl⟩
  case and => exact ⟨_, by simp [binOp, Op.intBits], rfl⟩
  case or => exact ⟨_, by simp [binOp, Op.intBits], rfl⟩
  case xor => exact ⟨_, by simp [binOp, Op.intBits], rfl⟩
  case andNot => exact ⟨_, by simp [binOp, Op.intBits], rfl⟩

theorem ltB_eq : ∀ a b, ltB a b = Op.bytesLess a b
  | _, [] => by cases ‹List UInt8› <;> rfl
  | [], _ :: _ => rfl
  | a :: x, b :: y => by simp only [ltB, Op.bytesLess, ltB_eq x y]

theorem ltB_irrefl : ∀ a, ltB a a = false
  | [] => rfl
  | a :: x => by simp [ltB, ltB_irrefl x]

theorem ltB_not : ∀ a b, (ltB a b || decide (a = b)) = !ltB b a
  | [], [] => rfl
  | [], _ :: _ => rfl
  | _ :: _, [] => rfl
  | a :: x, b :: y => by
    have ih := ltB_not x y
    simp only [ltB, List.cons.injEq]
    by_cases h : a = b
    · subst h
      simp only [UInt8.lt_irrefl, decide_false, Bool.false_or, beq_self_eq_true, Bool.true_and, true_and]
      exact ih
    · have h1 : (a == b) = false := by simpa using h
      have h2 : (b == a) = false := by simpa using Ne.symm h
      simp only [h1, h2, Bool.false_and, Bool.or_false, h, false_and, decide_false]
      rw [Bool.eq_iff_iff]
      simp only [decide_eq_true_eq, Bool.not_eq_true', decide_eq_false_iff_not, UInt8.not_lt]
      rw [UInt8.lt_iff_toNat_lt, UInt8.le_iff_toNat_le]
      have : a.toNat ≠ b.toNat := fun e => h (UInt8.toNat_inj.1 e)
      omega

theorem bstr_append (a b : Bytes) : bstr a ++ bstr b = bstr (a ++ b) := by
  apply ByteArray.ext
  simp [bstr]

theorem strBin_sound {op : BinOp} {a b : Bytes} {S : Prop} {v : AV} {news : List AObj} (T : TypeId)
    (h : strBinD op a b = some (S, v, news)) (hS : S) : news = [] ∧ Pure P (binOp op T (.string (bstr a)) (.string (bstr b))) X v := by
  have e1 : (a == b) = decide (a = b) := by rw [Bool.eq_iff_iff]; simp
  have hl := ltB_not a b
  have hl2 := ltB_not b a
  have e2 : decide (b = a) = decide (a = b) := by rw [Bool.eq_iff_iff]; simp [eq_comm]
  have run : ∀ (op : BinOp) (c : Value), (Op.stringOp op (bstr a) (bstr b)).run P X.w = .ok c X.w → (binOp op T (.string (bstr a)) (.string (bstr b))).run P X.w = .ok c X.w := fun op c h => by
    cases op <;> simpa [binOp] using h
  cases op <;> simp only [strBinD, reduceCtorEq] at h <;> obtain ⟨rfl, rfl, rfl⟩ := pD_inv h <;> refine ⟨rfl, ?_⟩
  case add =>
    refine ⟨.string (bstr a ++ bstr b), run _ _ ?_, by rw [bstr_append]; rfl⟩
    have : ¬ (((bstr a).size + (bstr b).size : Nat) : Int) > IntKind.i64.max := by
      rw [IntKind.max_i64]; simp only [bstr_size]; omega
    simp only [Op.stringOp, this, if_false]; rfl
  case eql => exact ⟨_, run _ _ (by simp only [Op.stringOp, bstr_toList, e1]; rfl), rfl⟩
  case neq => exact ⟨_, run _ _ (by simp only [Op.stringOp, bstr_toList, e1]; rfl), rfl⟩
  case lss => exact ⟨_, run _ _ (by simp only [Op.stringOp, bstr_toList, ← ltB_eq]; rfl), rfl⟩
  case leq => exact ⟨_, run _ _ (by simp only [Op.stringOp, bstr_toList, ← ltB_eq, e1, hl]; rfl), rfl⟩
  case gtr => exact ⟨_, run _ _ (by simp only [Op.stringOp, bstr_toList, ← ltB_eq, e1, hl, Bool.not_not]; rfl), rfl⟩
  case geq => exact ⟨_, run _ _ (by simp only [Op.stringOp, bstr_toList, ← ltB_eq]; rfl), rfl⟩

theorem un_sound {op : UnOp} {x : AV} {c : Value} {S : Prop} {v : AV} {news : List AObj} (hx : VV X x c)
    (h : unD op x = some (S, v, news)) (hS : S) : news = [] ∧ Pure P (Op.unary op c) X v := by
  unfold unD at h
  split at h
  · obtain ⟨rfl, rfl, rfl⟩ := pD_inv h; cases hx; exact ⟨rfl, _, rfl, rfl⟩
  · obtain ⟨rfl, rfl, rfl⟩ := pD_inv h; cases hx; exact ⟨rfl, _, rfl, rfl⟩
  · obtain ⟨rfl, rfl, rfl⟩ := pD_inv h; cases hx; exact ⟨rfl, _, rfl, rfl⟩
  · cases h

theorem min_sound {x y : AV} {c c' : Value} {S : Prop} {v : AV} {news : List AObj} (hx : VV X x c) (hy : VV X y c') (ts : Array TypeId) (t : TypeId)
    (h : minD x y = some (S, v, news)) (hS : S) : news = [] ∧ Pure P (Builtin.min_ ts t #[c, c']) X v := by
  unfold minD at h
  split at h
  · split at h
    · obtain ⟨rfl, rfl, rfl⟩ := pD_inv h; cases hx; cases hy; exact ⟨rfl, _, rfl, rfl⟩
    · cases h
  · cases h

theorem max_sound {x y : AV} {c c' : Value} {S : Prop} {v : AV} {news : List AObj} (hx : VV X x c) (hy : VV X y c') (ts : Array TypeId) (t : TypeId)
    (h : maxD x y = some (S, v, news)) (hS : S) : news = [] ∧ Pure P (Builtin.max_ ts t #[c, c']) X v := by
  unfold maxD at h
  split at h
  · split at h
    · obtain ⟨rfl, rfl, rfl⟩ := pD_inv h; cases hx; cases hy; exact ⟨rfl, _, rfl, rfl⟩
    · cases h
  · obtain ⟨rfl, rfl, rfl⟩ := pD_inv h; cases hx; cases hy
    rename_i a b
    refine ⟨rfl, .string (bstr (if ltB a b = true then b else a)), ?_, rfl⟩
    have : (Op.stringOp .geq (bstr a) (bstr b)).run P X.w = .ok (.bool (!ltB a b)) X.w := by simp only [Op.stringOp, bstr_toList, ← ltB_eq]; rfl
    simp only [Builtin.max_, Builtin.max2, List.foldlM_cons, List.foldlM_nil, Sem.run_bind, this, Result.andThen_ok, asBool, Sem.run_pure]
    cases ltB a b <;> rfl
  · cases h

theorem VVs_get : ∀ {vs : List AV} {cs : List Value} {i : Nat} {v : AV}, VVs X vs cs → vs[i]? = some v → ∃ c, cs[i]? = some c ∧ VV X v c
  | [], _, _, _, _, h => by simp at h
  | u :: r, cs, i, v, hv, h => by
    simp only [VVs] at hv
    obtain ⟨c, d, rfl, h1, h2⟩ := hv
    cases i with
    | zero => simp only [List.getElem?_cons_zero, Option.some.injEq] at h; subst h; exact ⟨c, rfl, h1⟩
    | succ i => simp only [List.getElem?_cons_succ] at h ⊢; exact VVs_get h2 h

theorem VVs_length : ∀ {vs : List AV} {cs : List Value}, VVs X vs cs → cs.length = vs.length
  | [], _, h => by simp only [VVs] at h; subst h; rfl
  | u :: r, cs, hv => by
    simp only [VVs] at hv
    obtain ⟨c, d, rfl, h1, h2⟩ := hv
    simp [VVs_length h2]

theorem VVs_append : ∀ {vs us : List AV} {cs ds : List Value}, VVs X vs cs → VVs X us ds → VVs X (vs ++ us) (cs ++ ds)
  | [], _, _, _, h, h2 => by simp only [VVs] at h; subst h; simpa using h2
  | u :: r, us, cs, ds, hv, h2 => by
    simp only [VVs] at hv
    obtain ⟨c, d, rfl, h1, h3⟩ := hv
    simp only [List.cons_append, VVs]
    exact ⟨c, d ++ ds, rfl, h1, VVs_append h3 h2⟩

theorem extract_sound {x : AV} {c : Value} {i : Nat} {S : Prop} {v : AV} {news : List AObj} (hx : VV X x c)
    (h : extractD x i = some (S, v, news)) (hS : S) : news = [] ∧ Pure P (Instr.extract c i) X v := by
  unfold extractD at h
  split at h
  · rename_i vs
    split at h
    · rename_i hi
      obtain ⟨rfl, rfl, rfl⟩ := pD_inv h
      simp only [VV] at hx
      obtain ⟨cs, rfl, hv⟩ := hx
      have hg : vs[i]? = some (vs.getD i .top) := by simp [List.getD, hi]
      obtain ⟨u, hu, hvu⟩ := VVs_get hv hg
      refine ⟨rfl, u, ?_, hvu⟩
      have : cs[i]? = some u := by simpa using hu
      simp [Instr.extract, this]
    · cases h
  · cases h

theorem pick_sound {x a b : AV} {c ca cb : Value} {S : Prop} {v : AV} {news : List AObj} (hx : VV X x c) (ha : VV X a ca) (hb : VV X b cb)
    (h : pickD x a b = some (S, v, news)) (hS : S) : news = [] ∧ Pure P (do pure (if ← asBool c then ca else cb)) X v := by
  unfold pickD at h
  split at h
  · obtain ⟨rfl, rfl, rfl⟩ := pD_inv h; cases hx
    rename_i q
    refine ⟨rfl, _, rfl, ?_⟩
    cases q
    · exact hb
    · exact ha
  · cases h

theorem makeIface_sound {x : AV} {c : Value} {T : TypeId} {d : TyD} (hT : tyB P d T = true) (hd : d.known = true) (hx : VV X x c) (hnt : ∀ ts, d ≠ .tup ts) :
    Pure P (Instr.makeInterface T c) X (.iface T x) := by
  refine ⟨.iface T c, ?_, c, rfl, hx⟩
  unfold Instr.makeInterface
  cases d with
  | int k => simp [run_underlying (ty_int hT)]
  | bool => simp [run_underlying (ty_bool hT)]
  | str => simp [run_underlying (ty_str hT)]
  | slice e => obtain ⟨E, hu, _⟩ := ty_slice hT; simp [run_underlying hu]
  | strct fs => obtain ⟨_, _, f, hu, _⟩ := ty_strct hT; simp [run_underlying hu]
  | arr n e => obtain ⟨E, hu, _⟩ := ty_arr hT; simp [run_underlying hu]
  | ptr => obtain ⟨E, hu⟩ := ty_ptr hT; simp [run_underlying hu]
  | map m => obtain ⟨K, E, hu, _⟩ := ty_map hT; simp [run_underlying hu]
  | func => obtain ⟨_, _, _, hu⟩ := ty_func hT; simp [run_underlying hu]
  | iface => cases hd
  | tup ts => exact absurd rfl (hnt ts)
  | other => cases hd

/-- a slice that is told of in a value -/
theorem slice_of {x : AV} {c : Value} {n : Nat} {d : TyD} (hx : VV X x c) (h : AV.len d X.h x = some n) (hd : d.slc = true) : ∃ a cap, c = .slice a n cap ∧ n ≤ cap := by
  unfold AV.len at h
  split at h
  · obtain ⟨a, cap, rfl, h1, _⟩ := hx; cases h; exact ⟨a, cap, rfl, h1⟩
  · rename_i id ver off len
    obtain ⟨a, m, cap, rfl, k, ver', l, hl, _, h1⟩ := hx
    unfold lenO at h
    split at h
    · rename_i k2 v2 l2 hh
      rw [hh] at hl; cases hl
      split at h
      · rename_i e; cases h
        obtain ⟨rfl, h3, _⟩ := h1 e
        exact ⟨a, cap, rfl, h3⟩
      · cases h
    · cases h
  · cases hd
  · cases hd
  · cases h

theorem len_sound {x : AV} {c : Value} {T : TypeId} {d : TyD} {S : Prop} {v : AV} {news : List AObj} (hT : tyB P d T = true) (hx : VV X x c) (ty : TypeId)
    (h : lenD d X.h x = some (S, v, news)) (hS : S) : news = [] ∧ Pure P (Builtin.len_ #[T] ty #[c]) X v := by
  unfold lenD someD at h
  split at h
  · rename_i n hn
    obtain ⟨rfl, rfl, rfl⟩ := pD_inv h
    refine ⟨rfl, .int .i64 n, ?_, rfl⟩
    cases d with
    | slice e =>
      obtain ⟨a, cap, rfl, _⟩ := slice_of hx hn rfl
      obtain ⟨E, hu, _⟩ := ty_slice hT
      simp [Builtin.len_, run_underlying hu, goInt]
    | str =>
      cases x with
      | str s =>
        simp only [AV.len, Option.some.injEq] at hn; subst hn
        cases hx
        simp [Builtin.len_, run_underlying (ty_str hT), goInt]
      | _ => simp [AV.len] at hn
    | arr m e =>
      obtain ⟨E, hu, _⟩ := ty_arr hT
      have : n = m := by unfold AV.len at hn; split at hn <;> simp_all
      subst this
      simp [Builtin.len_, run_underlying hu, goInt]
    | _ => unfold AV.len at hn; split at hn <;> simp_all
  · cases h
end
end Lam
