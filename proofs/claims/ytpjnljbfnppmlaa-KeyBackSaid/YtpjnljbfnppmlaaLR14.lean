/- Appending, copying, clearing. -/
import Derived.Test.YtpjnljbfnppmlaaLR13
set_option linter.unusedVariables false
set_option linter.unnecessarySimpa false
set_option linter.unusedSectionVars false
set_option linter.unusedSimpArgs false
namespace Lam
open Go

section
variable {P : Program} {X : Cx}

theorem cell_heap {w w' : World} (h : w'.heap = w.heap) (a : Addr) : w'.cell? a = w.cell? a := by unfold World.cell?; rw [h]

theorem flat_nil {l : Lst} (h : l.len = 0) : l.flat = [] := by
  apply List.eq_nil_of_length_eq_zero; rw [Lst.flat_length, h, Nat.zero_mul]

theorem first_cells {ys : Lst} {cx : Value} (L : Lies X ys cx) {w' : World} (hw : w'.heap = X.w.heap) : (Builtin.firstCells ys.kind.size ys.len cx).run P w' = .ok ys.flat.toArray w' := by
  obtain ⟨a, cap, rfl, h1, h2, h3⟩ := L.lies
  by_cases hn : ys.len = 0
  · rw [hn, flat_nil hn]
    cases a with
    | none => rfl
    | some ad => simp [Builtin.firstCells, loadCells, loadCellsFrom]
  · obtain ⟨b, o, rfl, hr⟩ := h3 hn
    refine run_firstCells_some w' _ _ _ _ _ ys.flat ys.flat_length fun j v hj => ?_
    rw [cell_heap hw]; exact hr.add j v hj

theorem len_of {ys : Lst} {cx : Value} (L : Lies X ys cx) (w' : World) : (Builtin.lenOf cx).run P w' = .ok ys.len w' := by
  obtain ⟨a, cap, rfl, _⟩ := L.lies; rfl

/-- the second argument of an append: a slice, or a number of zeros -/
inductive Appended (P : Program) (X : Cx) (e : LK) (U : TypeId) : Lst → Value → Prop where
  | sl (E2 : TypeId) (ys : Lst) (c : Value) (hu : P.underlying U = some (.slice E2)) (hk : ys.kind = e) (L : Lies X ys c) : Appended P X e U ys c
  | zs (k k' : IntKind) (n : Int) (hu : P.underlying U = some (.int k)) (h0 : 0 ≤ n) (h1 : n ≤ 1099511627776) : Appended P X e U (e.zeros n.toNat) (.int k' n)

theorem Appended.kind {e : LK} {U : TypeId} {ys : Lst} {c : Value} (h : Appended P X e U ys c) : ys.kind = e := by
  cases h with
  | sl E2 ys c hu hk L => exact hk
  | zs k k' n hu h0 h1 => exact zeros_kind e _

theorem append_fit {T U E ty : TypeId} {e : LK} {ys : Lst} {cx : Value} (hu : P.underlying T = some (.slice E)) (he : elB P E e = true) (A : Appended P X e U ys cx) (base : Option Addr) (sLen sCap : Nat) (hroom : sLen + ys.len ≤ sCap) :
    (Builtin.append_ #[T, U] ty #[.slice base sLen sCap, cx]).run P X.w =
      ((match base with | some a => storeCells (a.add (sLen * e.size)) ys.flat | none => pure ()).run P X.w).andThen fun _ w' => .ok (.slice base (sLen + ys.len) sCap) w' := by
  obtain ⟨i, z, hi, hs, hb, hz, hzc⟩ := (elOk he).info
  have hes : (Go.sizeOf E).run P X.w = .ok e.size X.w := el_size he X.w
  cases A with
  | sl E2 ys c hu2 hk L =>
    have hfc := first_cells (P := P) L (w' := X.w) rfl
    rw [hk] at hfc
    have hlen := len_of (P := P) L X.w
    cases base <;> simp [Builtin.append_, run_underlying hu, run_underlying hu2, hes, hlen, hroom, hfc]
  | zs k k' n hu2 h0 h1 =>
    rw [zeros_len] at hroom ⊢
    have wn : IntKind.i64.wrap n = n := by rw [IntKind.wrap_i64]; omega
    have n1 : ¬ n < 0 := by omega
    have n2 : ¬ (281474976710656 < n * (i.bytes : Int)) := by
      have h3 : (i.bytes : Int) ≤ 64 := by omega
      have h5 : n * (i.bytes : Int) ≤ n * 64 := Int.mul_le_mul_of_nonneg_left h3 h0
      omega
    have hzero : (zeroValue E).run P X.w = .ok z X.w := by simp [zeroValue, typeInfo, hi, hz]
    have hzs : z.cells.size = e.size := by rw [← Array.length_toList, hzc, Lst.cell_length, zeros_kind]
    have hfl : (Builtin.zeroCells z.cells n.toNat).toList = (e.zeros n.toNat).flat := by
      rw [← made_flat hzc]; simp [Builtin.zeroCells, madeCells, hzs]
    by_cases hn0 : n.toNat * e.size = 0
    · have hflat : (e.zeros n.toNat).flat = [] := List.eq_nil_of_length_eq_zero (by rw [Lst.flat_length, zeros_len, zeros_kind]; exact hn0)
      cases base <;> simp [Builtin.append_, run_underlying hu, run_underlying hu2, hes, asInt, asIntOf, typeInfo, hi, wn, n1, n2, hroom, hn0, hflat]
    · cases base <;> simp [Builtin.append_, run_underlying hu, run_underlying hu2, hes, asInt, asIntOf, typeInfo, hi, wn, n1, n2, hroom, hn0, hzero, hfl]

theorem append_grow {T U E ty : TypeId} {e : LK} {ys : Lst} {cx : Value} (hu : P.underlying T = some (.slice E)) (he : elB P E e = true) (A : Appended P X e U ys cx) (base : Option Addr) (sLen sCap : Nat) (olds : List Value)
    (ho : ∀ w', w'.heap = X.w.heap → (Builtin.firstCells e.size sLen (.slice base sLen sCap)).run P w' = .ok olds.toArray w')
    (hg : sCap < sLen + ys.len) (hroom : sLen + ys.len ≤ 1099511627776) :
    ∃ cap w' rest, sLen + ys.len ≤ cap ∧ Pushed X.w w' (.cells (olds ++ (ys.flat ++ rest)).toArray E) ∧ rest.length = (cap - (sLen + ys.len)) * e.size ∧
      (Builtin.append_ #[T, U] ty #[.slice base sLen sCap, cx]).run P X.w = .ok (.slice (some ⟨X.w.heap.size, 0, none⟩) (sLen + ys.len) cap) w' := by
  obtain ⟨i, z, hi, hs, hb, hz, hzc⟩ := (elOk he).info
  have hes : ∀ w, (Go.sizeOf E).run P w = .ok e.size w := fun w => el_size he w
  have hzs : z.cells.size = e.size := by rw [← Array.length_toList, hzc, Lst.cell_length, zeros_kind]
  have hzero : ∀ w, (zeroValue E).run P w = .ok z w := fun w => by simp [zeroValue, typeInfo, hi, hz]
  have hfit : Builtin.nextslicecap (sLen + ys.len) sCap * i.bytes ≤ 281474976710656 := growslice_fits hg (by
    have : (sLen + ys.len) * i.bytes ≤ 1099511627776 * 64 := Nat.mul_le_mul hroom hb
    omega)
  let cap := grownCap X.w (sLen + ys.len) sCap E
  refine ⟨cap, X.w.drew.alloc (.cells (olds ++ (ys.flat ++ (Builtin.zeroCells z.cells (cap - (sLen + ys.len))).toList)).toArray E), (Builtin.zeroCells z.cells (cap - (sLen + ys.len))).toList, grownCap_ge _ _ _ _, ⟨rfl, rfl, rfl, rfl⟩, ?_, ?_⟩
  · rw [Array.length_toList, size_zeroCells, hzs]
  have hn : ¬ (sLen + ys.len ≤ sCap) := by omega
  have hb0 : ∀ q : Prop, ¬ ((9223372036854775807 < ((sLen : Int) + (ys.len : Int))) ∧ q) := fun q h => by omega
  have h48' : ¬ (281474976710656 < Builtin.nextslicecap (sLen + ys.len) sCap * i.bytes) := by omega
  have ho' := ho X.w.drew rfl
  cases A with
  | sl E2 ys c hu2 hk L =>
    have hfc := first_cells (P := P) L (w' := X.w.drew) rfl
    rw [hk] at hfc
    have hlen := len_of (P := P) L X.w
    have hb1 : ¬ (9223372036854775807 < ((sLen : Int) + (ys.len : Int))) := by omega
    simp [Builtin.append_, run_underlying hu, run_underlying hu2, hes, hlen, hn, hb1, typeInfo, hi, h48', Question.forced, ho', hfc, hzero, newRow, cap, grownCap]
    congr 2
    apply Array.ext'
    simp
  | zs k k' n hu2 h0 h1 =>
    rw [zeros_len] at hn h48' hb0 hg ⊢
    have wn : IntKind.i64.wrap n = n := by rw [IntKind.wrap_i64]; omega
    have n1 : ¬ n < 0 := by omega
    have n2 : ¬ (281474976710656 < n * (i.bytes : Int)) := by
      have h3 : (i.bytes : Int) ≤ 64 := by omega
      have h5 : n * (i.bytes : Int) ≤ n * 64 := Int.mul_le_mul_of_nonneg_left h3 h0
      omega
    have hfl : (Builtin.zeroCells z.cells n.toNat).toList = (e.zeros n.toNat).flat := by
      rw [← made_flat hzc]; simp [Builtin.zeroCells, madeCells, hzs]
    have hb1 : ¬ (9223372036854775807 < ((sLen : Int) + max n 0)) := by omega
    by_cases hn0 : n.toNat * e.size = 0
    · have hflat : (e.zeros n.toNat).flat = [] := List.eq_nil_of_length_eq_zero (by rw [Lst.flat_length, zeros_len, zeros_kind]; exact hn0)
      simp [Builtin.append_, run_underlying hu, run_underlying hu2, hes, asInt, asIntOf, hn, hb1, typeInfo, hi, wn, n1, n2, h48', Question.forced, ho', hn0, hflat, hzero, newRow, cap, grownCap, zeros_len]
      congr 2
      apply Array.ext'
      simp
    · simp [Builtin.append_, run_underlying hu, run_underlying hu2, hes, asInt, asIntOf, hn, hb1, typeInfo, hi, wn, n1, n2, h48', Question.forced, ho', hn0, hfl, hzero, newRow, cap, grownCap, zeros_len]
      congr 2
      apply Array.ext'
      simp [hfl]
end
end Lam
