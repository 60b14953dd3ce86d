/- From a law's condition to the law's calls. -/
import Derived.Test.YtpjnljbfnppmlaaLR34
import Derived.Below
import Derived.WalkKit
import Derived.ProofKit
import Derived.OpenShut
set_option linter.unnecessarySimpa false
set_option linter.unusedSectionVars false
set_option linter.unusedSimpArgs false
set_option linter.unusedVariables false
namespace Lam
open Go

/-- the world of a call, all of it kept -/
def whole (w : World) : Cx := ⟨fun b => b < w.heap.size, [], [], w⟩

def IsRow (k : IntKind) (w : World) (a : Option Addr) (len cap : Nat) (zs : List Int) : Prop :=
  (a = none ∧ len = 0 ∧ cap = 0 ∧ zs = []) ∨
  ∃ x, a = some x ∧ len ≤ cap ∧ cap ≤ maxLen ∧ zs.length = cap ∧ (∀ i, i < zs.length → w.cell? (x.add i) = some (.int k (zs.getD i 0))) ∧ ∀ n ∈ zs, (Lit.int k n).wf = true

theorem ints_flat (k : IntKind) (xs : List Int) : (Lst.ints k xs).flat = xs.map (.int k) := by
  apply List.ext_getElem?
  intro i
  rcases Nat.lt_or_ge i xs.length with h | h
  · have := (Lst.ints k xs).flat_get (i := i) (j := 0) h (by simp [Lst.kind, LK.size])
    simp only [Lst.kind, LK.size, Nat.mul_one, Nat.add_zero] at this
    rw [this]
    simp [Lst.cell, List.getD_eq_getElem?_getD, List.getElem?_eq_getElem h]
  · rw [List.getElem?_eq_none (by rw [Lst.flat_length]; simpa [Lst.len, Lst.kind, LK.size] using h), List.getElem?_eq_none (by simpa using h)]

theorem row_arg {k : IntKind} {w : World} {a : Option Addr} {len cap : Nat} {zs : List Int} (h : IsRow k w a len cap zs) : VV (whole w) (.sl false (.ints k (zs.take len))) (.slice a len cap) ∧ (zs.take len).length = len := by
  rcases h with ⟨rfl, rfl, rfl, rfl⟩ | ⟨x, rfl, h1, h2, h3, h4, h5⟩
  · exact ⟨⟨none, 0, rfl, Nat.le_refl _, fun h => (by cases h), fun _ => rfl, fun h => (h rfl).elim⟩, rfl⟩
  · have hl : (zs.take len).length = len := by simp; omega
    refine ⟨⟨some x, cap, by show _ = Value.slice _ (zs.take len).length _; rw [hl], by show (zs.take len).length ≤ _; omega, fun h => (by cases h), fun h => (by cases h), fun hn => ?_⟩, hl⟩
    have hpos : 0 < len := by
      have : (zs.take len).length ≠ 0 := hn
      omega
    have hc0 := h4 0 (by omega)
    have hsp : x.spot = none := by
      rw [show x.add 0 = x from rfl] at hc0
      unfold World.cell? at hc0
      split at hc0
      · split at hc0
        · cases hc0
        · rename_i hs; simpa using hs
      · cases hc0
    have hb : x.block < w.heap.size := by
      rw [show x.add 0 = x from rfl] at hc0
      unfold World.cell? at hc0
      split at hc0
      · rename_i hx; exact (Array.getElem?_eq_some_iff.1 hx).1
      · cases hc0
    refine ⟨x, rfl, hsp, hb, fun j v hj => ?_⟩
    rw [ints_flat, List.getElem?_map] at hj
    cases hz : (zs.take len)[j]? with
    | none => rw [hz] at hj; cases hj
    | some n =>
      rw [hz] at hj; cases hj
      have hjl : j < len := by have := (List.getElem?_eq_some_iff.1 hz).1; omega
      have := h4 j (by omega)
      have e : x.add j = ⟨x.block, x.off + j, none⟩ := by
        unfold Addr.add
        split
        · rename_i h0; subst h0; cases x; simp_all
        · rfl
      rw [e] at this
      rw [List.getElem?_take, if_pos hjl] at hz
      rw [List.getD_eq_getElem?_getD, hz] at this
      exact this

theorem whole_hr (w : World) : HR (whole w) := hr0 fun _ h => h

open Go.RowKit in
theorem law_calls {P : Program} {c : Ctx} (O : Ok P c) {f : FuncId} {fn : Func} (hf : P.funcs[f]? = some fn) {vs : List AV} {cs : Array Value} {w : World} (hw : funW c fn vs [] Told) (hv : VVs (whole w) vs cs.toList) :
    Calls P f cs w fun e w' => e = .returned (.bool true) ∧ Below w.heap.size w w' := by
  refine (fun_sound (X := whole w) O hf (whole_hr w) hv hw).mono fun e w' he => ?_
  obtain ⟨Y, ao, rfl, HY, EY, ho, hk⟩ := he
  obtain rfl : ao = .ret (.bool true) := hk
  obtain ⟨c', rfl, hc⟩ := ho
  obtain rfl : c' = .bool true := hc
  exact ⟨rfl, EY.env.1, EY.env.2.1, EY.env.2.2, EY.grow, fun k hk => old_kept (w := w) EY hk⟩
end Lam
