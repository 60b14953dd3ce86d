/- Operations that change nothing: equality; conversions. -/
import Derived.Test.YtpjnljbfnppmlaaLR7
import Derived.ChangeKeysEq
set_option linter.unusedVariables false
set_option linter.unnecessarySimpa false
set_option linter.unusedSectionVars false
set_option linter.unusedSimpArgs false
namespace Lam
open Go

section
variable {P : Program} {X : Cx}

/-- what a comparison of two plain values is of -/
inductive ScalEq (X : Cx) : TyD → AV → AV → Bool → Prop where
  | int (k0 k : IntKind) (a b : Int) : ScalEq X (.int k0) (.int k a) (.int k b) (decide (a = b))
  | str (a b : Bytes) : ScalEq X .str (.str a) (.str b) (decide (a = b))
  | bool (a b : Bool) : ScalEq X .bool (.bool a) (.bool b) (a == b)
  | fn : ScalEq X .func .nilfn .nilfn true
  | arr (n : Nat) (k : IntKind) (xs ys : List Int) (hx : xs.length = n) (hy : ys.length = n) : ScalEq X (.arr n (.int k)) (.arr (.ints k xs)) (.arr (.ints k ys)) (decide (xs = ys))

theorem scalEq_inv {d : TyD} {x y : AV} {b : Bool} (h : scalEq d x y = some b) : ScalEq X d x y b := by
  unfold scalEq at h
  split at h
  · split at h
    · split at h
      · rename_i e; subst e; cases h; exact .int _ _ _ _
      · cases h
    · cases h
  · split at h
    · cases h; exact .str _ _
    · cases h
  · split at h
    · cases h; exact .bool _ _
    · cases h
  · split at h
    · cases h; exact .fn
    · cases h
  · split at h
    · split at h
      · rename_i hc; obtain ⟨rfl, rfl, h3, h4⟩ := hc; cases h; exact .arr _ _ _ _ h3 h4
      · cases h
    · cases h
  · cases h

theorem ScalEq.fit {d : TyD} {x y : AV} {b : Bool} (h : ScalEq X d x y b) : fitP d x ∧ fitP d y := by
  cases h with
  | arr n k xs ys hx hy => exact ⟨⟨hx, rfl⟩, ⟨hy, rfl⟩⟩
  | _ => exact ⟨trivial, trivial⟩

theorem eqsD_cons_inv {d : TyD} {ds : List TyD} {xs ys : List AV} {b : Bool} (h : AV.eqsD (d :: ds) xs ys = some b) :
    ∃ x xs' y ys' b1 b2, xs = x :: xs' ∧ ys = y :: ys' ∧ AV.eqD d x y = some b1 ∧ AV.eqsD ds xs' ys' = some b2 ∧ b = (b1 && b2) := by
  simp only [AV.eqsD] at h
  split at h
  · split at h
    · rename_i b1 b2 h1 h2; cases h; exact ⟨_, _, _, _, b1, b2, rfl, rfl, h1, h2, rfl⟩
    · cases h
  · cases h

mutual
theorem eqD_fit : ∀ {d : TyD} {x y : AV} {b : Bool}, AV.eqD d x y = some b → fitP d x ∧ fitP d y
  | .strct fs, x, y, b, h => by
    simp only [AV.eqD] at h
    split at h
    · exact eqsD_fit h
    · cases h
  | .arr n e, x, y, b, h => by simp only [AV.eqD] at h; exact (scalEq_inv (X := default) h).fit
  | .int k, x, y, b, h => by simp only [AV.eqD] at h; exact (scalEq_inv (X := default) h).fit
  | .bool, x, y, b, h => by simp only [AV.eqD] at h; exact (scalEq_inv (X := default) h).fit
  | .str, x, y, b, h => by simp only [AV.eqD] at h; exact (scalEq_inv (X := default) h).fit
  | .func, x, y, b, h => by simp only [AV.eqD] at h; exact (scalEq_inv (X := default) h).fit
  | .slice _, x, y, b, h => by simp only [AV.eqD] at h; exact (scalEq_inv (X := default) h).fit
  | .ptr, x, y, b, h => by simp only [AV.eqD] at h; exact (scalEq_inv (X := default) h).fit
  | .map _, x, y, b, h => by simp only [AV.eqD] at h; exact (scalEq_inv (X := default) h).fit
  | .iface, x, y, b, h => by simp only [AV.eqD] at h; exact (scalEq_inv (X := default) h).fit
  | .tup _, x, y, b, h => by simp only [AV.eqD] at h; exact (scalEq_inv (X := default) h).fit
  | .other, x, y, b, h => by simp only [AV.eqD] at h; exact (scalEq_inv (X := default) h).fit
theorem eqsD_fit : ∀ {ds : List TyD} {xs ys : List AV} {b : Bool}, AV.eqsD ds xs ys = some b → AV.sizes xs = TyD.sizes ds ∧ AV.sizes ys = TyD.sizes ds
  | [], xs, ys, b, h => by
    simp only [AV.eqsD] at h
    split at h
    · exact ⟨rfl, rfl⟩
    · cases h
  | d :: ds, xs, ys, b, h => by
    obtain ⟨x, xs', y, ys', b1, b2, rfl, rfl, h1, h2, rfl⟩ := eqsD_cons_inv h
    obtain ⟨p1, p2⟩ := eqD_fit h1
    obtain ⟨q1, q2⟩ := eqsD_fit h2
    simp only [AV.sizes, TyD.sizes, q1, q2, (fitP_size p1).1, (fitP_size p2).1, and_self]
end

mutual
def TyD.deep : TyD → Nat
  | .strct fs => TyD.deeps fs + 1
  | .arr _ _ => 1
  | _ => 0
def TyD.deeps : List TyD → Nat
  | [] => 0
  | d :: ds => max d.deep (TyD.deeps ds)
end

theorem dec_congr {p q : Prop} [Decidable p] [Decidable q] (h : p ↔ q) : decide p = decide q := by rw [decide_eq_decide]; exact h


theorem eqItems_run {E : TypeId} {k : IntKind} (he : elB P E (.int k) = true) (n : Nat) {xs ys : List Int} {cx cy : Array Value} (hx : cx.toList = (Lst.ints k xs).flat) (hy : cy.toList = (Lst.ints k ys).flat) :
    ∀ is : List Nat, (∀ i ∈ is, i < xs.length ∧ i < ys.length) → (Op.eqItems (n + 1) E 1 cx cy is).run P X.w = .ok (decide (∀ i ∈ is, xs.getD i 0 = ys.getD i 0)) X.w
  | [], _ => by simp [Op.eqItems]
  | i :: is, hi => by
    have ih := eqItems_run he n hx hy is fun j hj => hi j (by simp [hj])
    obtain ⟨h1, h2⟩ := hi i (by simp)
    obtain ⟨a, r, hf, ha⟩ := flat_split (.ints k xs) (i := i) h1
    obtain ⟨a', r', hf', ha'⟩ := flat_split (.ints k ys) (i := i) h2
    have p1 := run_partEl (l := .ints k xs) he (hx.trans hf) X.w
    have p2 := run_partEl (l := .ints k ys) he (hy.trans hf') X.w
    have e1 : a.length = i * 1 := ha
    have e2 : a'.length = i * 1 := ha'
    rw [e1] at p1; rw [e2] at p2
    have q1 : loadedEl (Lst.ints k xs).kind ((Lst.ints k xs).cell i) = .int k (xs.getD i 0) := rfl
    have q2 : loadedEl (Lst.ints k ys).kind ((Lst.ints k ys).cell i) = .int k (ys.getD i 0) := rfl
    rw [q1] at p1; rw [q2] at p2
    have he3 := run_equalIn_int (P := P) X.w n E k k (xs.getD i 0) (ys.getD i 0) (elInt he)
    simp only [Op.eqItems, Sem.run_bind, p1, p2, he3, Result.andThen_ok, Sem.run_ite]
    by_cases hc : xs.getD i 0 = ys.getD i 0
    · have : (xs.getD i 0 == ys.getD i 0) = true := by simpa using hc
      simp only [this, Bool.not_true, Bool.false_eq_true, if_false, ih]
      congr 1
      apply dec_congr
      simp only [List.mem_cons, forall_eq_or_imp, hc, true_and]
    · have : (xs.getD i 0 == ys.getD i 0) = false := by simpa using hc
      simp only [this, Bool.not_false, if_true, Sem.run_pure]
      congr 1
      symm
      simp only [decide_eq_false_iff_not]
      intro h; exact hc (h i (by simp))

theorem ScalEq.run {d : TyD} {x y : AV} {b : Bool} {T : TypeId} {c c' : Value} {n : Nat} (h : ScalEq X d x y b) (hT : tyB P d T = true) (hx : VV X x c) (hy : VV X y c') (hn : d.deep ≤ n) :
    (Op.equalIn (n + 1) T c c').run P X.w = .ok b X.w := by
  cases h with
  | int k0 k a b =>
    have hx : c = .int k a := hx
    have hy : c' = .int k b := hy
    subst hx hy
    rw [run_equalIn_int X.w n T k k0 a b (ty_int hT)]
    congr 1
  | str p q =>
    have hx : c = .string (bstr p) := hx
    have hy : c' = .string (bstr q) := hy
    subst hx hy
    rw [run_equalIn_string X.w n T _ _ (ty_str hT), bstr_toList, bstr_toList]
    congr 1
    rw [Bool.eq_iff_iff]; simp
  | bool p q =>
    have hx : c = .bool p := hx
    have hy : c' = .bool q := hy
    subst hx hy
    exact run_equalIn_bool' X.w n T p q (ty_bool hT)
  | fn =>
    have hx : c = .nilFunc := hx
    have hy : c' = .nilFunc := hy
    subst hx hy
    obtain ⟨_, _, _, hu⟩ := ty_func hT
    simp [Op.equalIn, run_underlying hu]
  | arr m k xs ys h3 h4 =>
    obtain ⟨E, hu, he⟩ := ty_arr hT
    simp only [VV] at hx hy
    obtain ⟨cx, rfl, hx⟩ := hx
    obtain ⟨cy, rfl, hy⟩ := hy
    obtain ⟨i, z, hi, hs, _⟩ := (elOk he).info
    simp only [TyD.deep] at hn
    obtain ⟨q, rfl⟩ : ∃ q, n = q + 1 := ⟨n - 1, by omega⟩
    rw [run_equalIn_array X.w (q + 1) cx cy hu hi]
    have hc : P.cellsOf E = 1 := by
      have : i.size = 1 := hs
      simp [Program.cellsOf, hi, this]
    rw [hc, eqItems_run he q hx hy (List.range m) (by simp [h3, h4])]
    congr 1
    apply dec_congr
    constructor
    · intro h
      apply List.ext_getElem (h3.trans h4.symm)
      intro i h1 h2
      have := h i (by simp; omega)
      simpa [List.getD, h1, h2] using this
    · rintro rfl i _; rfl

mutual
theorem eqD_run : ∀ {d : TyD} {x y : AV} {b : Bool} {T : TypeId} {c c' : Value} {n : Nat}, AV.eqD d x y = some b → tyB P d T = true → VV X x c → VV X y c' → d.deep ≤ n →
    (Op.equalIn (n + 1) T c c').run P X.w = .ok b X.w
  | .strct fs, x, y, b, T, c, c', n, h, hT, hx, hy, hn => by
    simp only [AV.eqD] at h
    split at h
    rotate_left
    · cases h
    simp only [VV] at hx hy
    obtain ⟨cx, rfl, hx⟩ := hx
    obtain ⟨cy, rfl, hy⟩ := hy
    simp only [TyD.deep] at hn
    obtain ⟨q, rfl⟩ : ∃ q, n = q + 1 := ⟨n - 1, by omega⟩
    obtain ⟨hst, _, fields, hu, hf⟩ := ty_strct hT
    have hfo : P.fieldsOf T = fields := by simp [Program.fieldsOf, hu]
    rw [run_equalIn_struct X.w (q + 1) T cx cy (by rw [hfo]; exact hu) hst, hfo]
    exact eqsD_run (preX := []) (preY := []) h hf hx hy rfl rfl rfl rfl (by omega)
  | .int k, x, y, b, T, c, c', n, h, hT, hx, hy, hn => by simp only [AV.eqD] at h; exact (scalEq_inv h).run hT hx hy hn
  | .bool, x, y, b, T, c, c', n, h, hT, hx, hy, hn => by simp only [AV.eqD] at h; exact (scalEq_inv h).run hT hx hy hn
  | .str, x, y, b, T, c, c', n, h, hT, hx, hy, hn => by simp only [AV.eqD] at h; exact (scalEq_inv h).run hT hx hy hn
  | .func, x, y, b, T, c, c', n, h, hT, hx, hy, hn => by simp only [AV.eqD] at h; exact (scalEq_inv h).run hT hx hy hn
  | .arr m e, x, y, b, T, c, c', n, h, hT, hx, hy, hn => by simp only [AV.eqD] at h; exact (scalEq_inv h).run hT hx hy hn
  | .slice _, x, y, b, T, c, c', n, h, hT, hx, hy, hn => by simp only [AV.eqD] at h; exact (scalEq_inv h).run hT hx hy hn
  | .ptr, x, y, b, T, c, c', n, h, hT, hx, hy, hn => by simp only [AV.eqD] at h; exact (scalEq_inv h).run hT hx hy hn
  | .map _, x, y, b, T, c, c', n, h, hT, hx, hy, hn => by simp only [AV.eqD] at h; exact (scalEq_inv h).run hT hx hy hn
  | .iface, x, y, b, T, c, c', n, h, hT, hx, hy, hn => by simp only [AV.eqD] at h; exact (scalEq_inv h).run hT hx hy hn
  | .tup _, x, y, b, T, c, c', n, h, hT, hx, hy, hn => by simp only [AV.eqD] at h; exact (scalEq_inv h).run hT hx hy hn
  | .other, x, y, b, T, c, c', n, h, hT, hx, hy, hn => by simp only [AV.eqD] at h; exact (scalEq_inv h).run hT hx hy hn
theorem eqsD_run : ∀ {ds : List TyD} {xs ys : List AV} {b : Bool} {off : Nat} {l : List Field} {preX preY sx sy : List Value} {cx cy : Array Value} {n : Nat}, AV.eqsD ds xs ys = some b → fieldsB P ds off l = true →
    VCs X xs sx → VCs X ys sy → cx.toList = preX ++ sx → cy.toList = preY ++ sy → preX.length = off → preY.length = off → TyD.deeps ds ≤ n →
    (Op.eqFields (n + 1) cx cy l).run P X.w = .ok b X.w
  | [], xs, ys, b, off, l, preX, preY, sx, sy, cx, cy, n, h, hf, hx, hy, ex, ey, lx, ly, hn => by
    simp only [fieldsB, List.isEmpty_iff] at hf
    subst hf
    simp only [AV.eqsD] at h
    split at h
    · cases h; rfl
    · cases h
  | d :: ds, xs, ys, b, off, l, preX, preY, sx, sy, cx, cy, n, h, hf, hx, hy, ex, ey, lx, ly, hn => by
    obtain ⟨x, xs', y, ys', b1, b2, rfl, rfl, h1, h2, rfl⟩ := eqsD_cons_inv h
    unfold fieldsB at hf
    cases l with
    | nil => cases hf
    | cons f l' =>
      simp only [Bool.and_eq_true, bne_iff_ne, ne_eq] at hf
      obtain ⟨⟨⟨⟨⟨g1, g2⟩, g3⟩, g4⟩, g5⟩, g6⟩ := hf
      simp only [VCs] at hx hy
      obtain ⟨ax, bx, rfl, hx1, hx2⟩ := hx
      obtain ⟨ay, by_, rfl, hy1, hy2⟩ := hy
      obtain ⟨p1, p2⟩ := eqD_fit h1
      obtain ⟨rx, hrx, rfl⟩ := run_part (X := X) g5 p1 hx1 ex
      obtain ⟨ry, hry, rfl⟩ := run_part (X := X) g5 p2 hy1 ey
      have ho := Nat.eq_of_beq_eq_true g1
      rw [lx, ← ho] at hrx; rw [ly, ← ho] at hry
      simp only [TyD.deeps] at hn
      have he := eqD_run (n := n) h1 g5 (loaded_VV p1 hx1) (loaded_VV p2 hy1) (by omega)
      have ih := eqsD_run (n := n) (preX := preX ++ ax) (preY := preY ++ ay) (cx := cx) (cy := cy) (l := l') h2 g6 hx2 hy2 (by simp [ex]) (by simp [ey])
        (by rw [List.length_append, lx, (fit_len p1 hx1).1]) (by rw [List.length_append, ly, (fit_len p2 hy1).1]) (by omega)
      simp only [Op.eqFields, ne_eq, g2, not_false_eq_true, if_true, Sem.run_bind, hrx, hry, he, Result.andThen_ok, Sem.run_ite]
      cases b1
      · simp
      · simpa using ih
end
end
end Lam
