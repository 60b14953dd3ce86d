/- What an operation comes to, it comes to. -/
import Derived.Test.YtpjnljbfnppmlaaLR19
set_option linter.unusedVariables false
set_option linter.unnecessarySimpa false
set_option linter.unusedSectionVars false
set_option linter.unusedSimpArgs false
namespace Lam
open Go

/-! ### Values by value -/
mutual
theorem closedV {X Y : Cx} (hS : ∀ b, X.S b → Y.S b) (hw : ∀ b, X.S b → Y.w.heap[b]? = X.w.heap[b]?) : ∀ {v : AV} {c : Value}, v.closed = true → VV X v c → VV Y v c
  | .agg vs, c, hc, h => by
    simp only [VV] at h ⊢
    obtain ⟨cs, rfl, h⟩ := h
    exact ⟨cs, rfl, closedC hS hw (by simpa [AV.closed] using hc) h⟩
  | .tup vs, c, hc, h => by
    simp only [VV] at h ⊢
    obtain ⟨cs, rfl, h⟩ := h
    exact ⟨cs, rfl, closedVs hS hw (by simpa [AV.closed] using hc) h⟩
  | .fn f first cap, c, hc, h => by
    simp only [AV.closed, Bool.and_eq_true] at hc
    simp only [VV] at h ⊢
    obtain ⟨a, d, rfl, h1, h2⟩ := h
    exact ⟨a, d, rfl, closedVs hS hw hc.1 h1, closedVs hS hw hc.2 h2⟩
  | .arr _, _, _, h => h
  | .int _ _, _, _, h => h
  | .bool _, _, _, h => h
  | .str _, _, _, h => h
  | .nilp, _, _, h => h
  | .nilfn, _, _, h => h
  | .niliface, _, _, h => h
  | .sl x l, c, _, h => by
    obtain ⟨a, cap, rfl, h1, h2, h3, h4⟩ := h
    refine ⟨a, cap, rfl, h1, h2, h3, fun hn => ?_⟩
    obtain ⟨ad, ha, hs, hb, hr⟩ := h4 hn
    exact ⟨ad, ha, hs, hS _ hb, hr.of_heap (hw _ hb)⟩
  | .top, _, hc, _ | .und, _, hc, _ | .sref _ _ _ _ _, _, hc, _ | .ep _ _ _, _, hc, _ | .ptr _ _, _, hc, _ | .map _, _, hc, _ | .iface _ _, _, hc, _ => by cases hc
theorem closedVs {X Y : Cx} (hS : ∀ b, X.S b → Y.S b) (hw : ∀ b, X.S b → Y.w.heap[b]? = X.w.heap[b]?) : ∀ {vs : List AV} {cs : List Value}, AV.closeds vs = true → VVs X vs cs → VVs Y vs cs
  | [], _, _, h => by simpa only [VVs] using h
  | v :: r, _, hc, h => by
    simp only [AV.closeds, Bool.and_eq_true] at hc
    simp only [VVs] at h ⊢
    obtain ⟨c, d, rfl, h1, h2⟩ := h
    exact ⟨c, d, rfl, closedV hS hw hc.1 h1, closedVs hS hw hc.2 h2⟩
theorem closedVC {X Y : Cx} (hS : ∀ b, X.S b → Y.S b) (hw : ∀ b, X.S b → Y.w.heap[b]? = X.w.heap[b]?) : ∀ {v : AV} {cs : List Value}, v.closed = true → VC X v cs → VC Y v cs
  | .agg vs, cs, hc, h => by
    simp only [VC] at h ⊢
    exact closedC hS hw (by simpa [AV.closed] using hc) h
  | .tup vs, cs, hc, h => by simp only [VC] at h
  | .fn f first cap, cs, hc, h => by
    simp only [AV.closed, Bool.and_eq_true] at hc
    simp only [VC] at h ⊢
    obtain ⟨a, d, rfl, h1, h2⟩ := h
    exact ⟨a, d, rfl, closedVs hS hw hc.1 h1, closedVs hS hw hc.2 h2⟩
  | .arr _, _, _, h => by simpa only [VC] using h
  | .int _ _, _, _, h => by simp only [VC] at h ⊢; obtain ⟨c, rfl, h⟩ := h; exact ⟨c, rfl, h⟩
  | .bool _, _, _, h => by simp only [VC] at h ⊢; obtain ⟨c, rfl, h⟩ := h; exact ⟨c, rfl, h⟩
  | .str _, _, _, h => by simp only [VC] at h ⊢; obtain ⟨c, rfl, h⟩ := h; exact ⟨c, rfl, h⟩
  | .nilp, _, _, h => by simp only [VC] at h ⊢; obtain ⟨c, rfl, h⟩ := h; exact ⟨c, rfl, h⟩
  | .nilfn, _, _, h => by simp only [VC] at h ⊢; obtain ⟨c, rfl, h⟩ := h; exact ⟨c, rfl, h⟩
  | .niliface, _, _, h => by simp only [VC] at h ⊢; obtain ⟨c, rfl, h⟩ := h; exact ⟨c, rfl, h⟩
  | .sl x l, cs, _, h => by
    simp only [VC] at h ⊢
    obtain ⟨c, rfl, a, cap, rfl, h1, h2, h3, h4⟩ := h
    refine ⟨_, rfl, a, cap, rfl, h1, h2, h3, fun hn => ?_⟩
    obtain ⟨ad, ha, hs, hb, hr⟩ := h4 hn
    exact ⟨ad, ha, hs, hS _ hb, hr.of_heap (hw _ hb)⟩
  | .top, _, hc, _ | .und, _, hc, _ | .sref _ _ _ _ _, _, hc, _ | .ep _ _ _, _, hc, _ | .ptr _ _, _, hc, _ | .map _, _, hc, _ | .iface _ _, _, hc, _ => by cases hc
theorem closedC {X Y : Cx} (hS : ∀ b, X.S b → Y.S b) (hw : ∀ b, X.S b → Y.w.heap[b]? = X.w.heap[b]?) : ∀ {vs : List AV} {cs : List Value}, AV.closeds vs = true → VCs X vs cs → VCs Y vs cs
  | [], _, _, h => by simpa only [VCs] using h
  | v :: r, _, hc, h => by
    simp only [AV.closeds, Bool.and_eq_true] at hc
    simp only [VCs] at h ⊢
    obtain ⟨c, d, rfl, h1, h2⟩ := h
    exact ⟨c, d, rfl, closedVC hS hw hc.1 h1, closedC hS hw hc.2 h2⟩
end


mutual
theorem plainV {X Y : Cx} : ∀ {v : AV} {c : Value}, v.noSl = true → VV X v c → VV Y v c
  | .agg vs, c, hc, h => by
    simp only [VV] at h ⊢
    obtain ⟨cs, rfl, h⟩ := h
    exact ⟨cs, rfl, plainC (by simpa [AV.noSl] using hc) h⟩
  | .tup vs, c, hc, h => by
    simp only [VV] at h ⊢
    obtain ⟨cs, rfl, h⟩ := h
    exact ⟨cs, rfl, plainVs (by simpa [AV.noSl] using hc) h⟩
  | .fn f first cap, c, hc, h => by
    simp only [AV.noSl, Bool.and_eq_true] at hc
    simp only [VV] at h ⊢
    obtain ⟨a, d, rfl, h1, h2⟩ := h
    exact ⟨a, d, rfl, plainVs hc.1 h1, plainVs hc.2 h2⟩
  | .arr _, _, _, h => h
  | .int _ _, _, _, h => h
  | .bool _, _, _, h => h
  | .str _, _, _, h => h
  | .nilp, _, _, h => h
  | .nilfn, _, _, h => h
  | .niliface, _, _, h => h
  | .sl _ _, _, hc, _ | .top, _, hc, _ | .und, _, hc, _ | .sref _ _ _ _ _, _, hc, _ | .ep _ _ _, _, hc, _ | .ptr _ _, _, hc, _ | .map _, _, hc, _ | .iface _ _, _, hc, _ => by cases hc
theorem plainVs {X Y : Cx} : ∀ {vs : List AV} {cs : List Value}, AV.noSls vs = true → VVs X vs cs → VVs Y vs cs
  | [], _, _, h => by simpa only [VVs] using h
  | v :: r, _, hc, h => by
    simp only [AV.noSls, Bool.and_eq_true] at hc
    simp only [VVs] at h ⊢
    obtain ⟨c, d, rfl, h1, h2⟩ := h
    exact ⟨c, d, rfl, plainV hc.1 h1, plainVs hc.2 h2⟩
theorem plainVC {X Y : Cx} : ∀ {v : AV} {cs : List Value}, v.noSl = true → VC X v cs → VC Y v cs
  | .agg vs, cs, hc, h => by
    simp only [VC] at h ⊢
    exact plainC (by simpa [AV.noSl] using hc) h
  | .tup vs, cs, hc, h => by simp only [VC] at h
  | .fn f first cap, cs, hc, h => by
    simp only [AV.noSl, Bool.and_eq_true] at hc
    simp only [VC] at h ⊢
    obtain ⟨a, d, rfl, h1, h2⟩ := h
    exact ⟨a, d, rfl, plainVs hc.1 h1, plainVs hc.2 h2⟩
  | .arr _, _, _, h => by simpa only [VC] using h
  | .int _ _, _, _, h => by simp only [VC] at h ⊢; obtain ⟨c, rfl, h⟩ := h; exact ⟨c, rfl, h⟩
  | .bool _, _, _, h => by simp only [VC] at h ⊢; obtain ⟨c, rfl, h⟩ := h; exact ⟨c, rfl, h⟩
  | .str _, _, _, h => by simp only [VC] at h ⊢; obtain ⟨c, rfl, h⟩ := h; exact ⟨c, rfl, h⟩
  | .nilp, _, _, h => by simp only [VC] at h ⊢; obtain ⟨c, rfl, h⟩ := h; exact ⟨c, rfl, h⟩
  | .nilfn, _, _, h => by simp only [VC] at h ⊢; obtain ⟨c, rfl, h⟩ := h; exact ⟨c, rfl, h⟩
  | .niliface, _, _, h => by simp only [VC] at h ⊢; obtain ⟨c, rfl, h⟩ := h; exact ⟨c, rfl, h⟩
  | .sl _ _, _, hc, _ | .top, _, hc, _ | .und, _, hc, _ | .sref _ _ _ _ _, _, hc, _ | .ep _ _ _, _, hc, _ | .ptr _ _, _, hc, _ | .map _, _, hc, _ | .iface _ _, _, hc, _ => by cases hc
theorem plainC {X Y : Cx} : ∀ {vs : List AV} {cs : List Value}, AV.noSls vs = true → VCs X vs cs → VCs Y vs cs
  | [], _, _, h => by simpa only [VCs] using h
  | v :: r, _, hc, h => by
    simp only [AV.noSls, Bool.and_eq_true] at hc
    simp only [VCs] at h ⊢
    obtain ⟨c, d, rfl, h1, h2⟩ := h
    exact ⟨c, d, rfl, plainVC hc.1 h1, plainC hc.2 h2⟩
end

/-- a slice by value -/
theorem sref_val {X Y : Cx} (H : HR X) {x : Bool} {id ver off len : Nat} {c : Value} {l : Lst} (h : SrV X x id ver off len c) (hl : listO (X.h[id]?) ver off len = some l)
    (hr : ∀ b, X.μ[id]? = some (some b) → Y.S b ∧ Y.w.heap[b]? = X.w.heap[b]?) : SlV Y false l c := by
  have L := list_lies (x := .sref x id ver off len) H h hl
  obtain ⟨a, cap, rfl, h1, h2, h3⟩ := L.lies
  obtain ⟨a', n, cap', e, k, ver', l', hl', hv, g⟩ := h
  cases e
  have hver : ver = ver' := by
    rw [rowO_some hl'] at hl
    unfold listO at hl
    by_cases e : ver = ver'
    · exact e
    · simp [e] at hl
  have g6 := (g hver).2.2.2.2.2
  clear g
  refine ⟨a, cap, rfl, h1, fun h => (by cases h), h2, fun hn => ?_⟩
  have hcap : cap ≠ 0 := by clear g6; omega
  obtain ⟨b, o, rfl, hre⟩ := h3 hn
  obtain ⟨b', hb', hab, _⟩ := g6 hcap
  cases hab
  obtain ⟨q1, q2⟩ := hr _ hb'
  exact ⟨_, rfl, rfl, q1, hre.of_heap q2⟩

def RowsIn' (X Y : Cx) (ids : List Nat) : Prop := ∀ id, id ∈ ids → ∀ b, X.μ[id]? = some (some b) → Y.S b ∧ Y.w.heap[b]? = X.w.heap[b]?

theorem RowsIn'.left {X Y : Cx} {a b : List Nat} (h : RowsIn' X Y (a ++ b)) : RowsIn' X Y a := fun i hi => h i (List.mem_append_left _ hi)
theorem RowsIn'.right {X Y : Cx} {a b : List Nat} (h : RowsIn' X Y (a ++ b)) : RowsIn' X Y b := fun i hi => h i (List.mem_append_right _ hi)

theorem vals_cons_inv {h : List AObj} {v : AV} {r us : List AV} (e : AV.vals h (v :: r) = some us) : ∃ a b, us = a :: b ∧ v.val h = some a ∧ AV.vals h r = some b := by
  simp only [AV.vals] at e
  split at e
  · rename_i a b h1 h2; exact ⟨a, b, (Option.some.inj e).symm, h1, h2⟩
  · cases e

mutual
theorem valV {X Y : Cx} (H : HR X) (hS : ∀ b, X.S b → Y.S b) (hw : ∀ b, X.S b → Y.w.heap[b]? = X.w.heap[b]?) : ∀ {v u : AV} {c : Value}, RowsIn' X Y v.rows → v.val X.h = some u → u.closed = true → VV X v c → VV Y u c
  | .agg vs, u, c, hr, e, hc, h => by
    simp only [AV.val, Option.map_eq_some_iff] at e
    obtain ⟨us, e, rfl⟩ := e
    simp only [VV] at h ⊢
    obtain ⟨cs, rfl, h⟩ := h
    exact ⟨cs, rfl, valC H hS hw (by simpa [AV.rows] using hr) e (by simpa [AV.closed] using hc) h⟩
  | .tup vs, u, c, hr, e, hc, h => by
    simp only [AV.val, Option.map_eq_some_iff] at e
    obtain ⟨us, e, rfl⟩ := e
    simp only [VV] at h ⊢
    obtain ⟨cs, rfl, h⟩ := h
    exact ⟨cs, rfl, valVs H hS hw (by simpa [AV.rows] using hr) e (by simpa [AV.closed] using hc) h⟩
  | .sref x id ver off len, u, c, hr, e, _, h => by
    simp only [AV.val, Option.map_eq_some_iff] at e
    obtain ⟨l, e, rfl⟩ := e
    exact sref_val H h e (hr id (by simp [AV.rows]))
  | .sl x l, u, c, _, e, hc, h => by
    simp only [AV.val, Option.some.injEq] at e; subst e
    obtain ⟨a, cap, rfl, h1, h2, h3, h4⟩ := closedV (Y := Y) hS hw (v := .sl x l) rfl h
    exact ⟨a, cap, rfl, h1, fun h => (by cases h), h3, h4⟩
  | .fn f first cap, u, c, _, e, hc, h => by simp only [AV.val, Option.some.injEq] at e; subst e; exact closedV hS hw hc h
  | .arr l, u, c, _, e, hc, h => by simp only [AV.val, Option.some.injEq] at e; subst e; exact closedV hS hw hc h
  | .int k n, u, c, _, e, hc, h => by simp only [AV.val, Option.some.injEq] at e; subst e; exact closedV hS hw hc h
  | .bool b, u, c, _, e, hc, h => by simp only [AV.val, Option.some.injEq] at e; subst e; exact closedV hS hw hc h
  | .str s, u, c, _, e, hc, h => by simp only [AV.val, Option.some.injEq] at e; subst e; exact closedV hS hw hc h
  | .nilp, u, c, _, e, hc, h => by simp only [AV.val, Option.some.injEq] at e; subst e; exact closedV hS hw hc h
  | .nilfn, u, c, _, e, hc, h => by simp only [AV.val, Option.some.injEq] at e; subst e; exact closedV hS hw hc h
  | .niliface, u, c, _, e, hc, h => by simp only [AV.val, Option.some.injEq] at e; subst e; exact closedV hS hw hc h
  | .top, _, _, _, e, hc, _ | .und, _, _, _, e, hc, _ | .ep _ _ _, _, _, _, e, hc, _ | .ptr _ _, _, _, _, e, hc, _ | .map _, _, _, _, e, hc, _ | .iface _ _, _, _, _, e, hc, _ => by
    simp only [AV.val, Option.some.injEq] at e; subst e; cases hc
theorem valVs {X Y : Cx} (H : HR X) (hS : ∀ b, X.S b → Y.S b) (hw : ∀ b, X.S b → Y.w.heap[b]? = X.w.heap[b]?) : ∀ {vs us : List AV} {cs : List Value}, RowsIn' X Y (AV.rowss vs) → AV.vals X.h vs = some us → AV.closeds us = true → VVs X vs cs → VVs Y us cs
  | [], us, _, _, e, _, h => by simp only [AV.vals, Option.some.injEq] at e; subst e; simpa only [VVs] using h
  | v :: r, us, _, hr, e, hc, h => by
    obtain ⟨a, b, rfl, h1, h2⟩ := vals_cons_inv e
    simp only [AV.closeds, Bool.and_eq_true] at hc
    simp only [AV.rowss] at hr
    simp only [VVs] at h ⊢
    obtain ⟨c, d, rfl, g1, g2⟩ := h
    exact ⟨c, d, rfl, valV H hS hw hr.left h1 hc.1 g1, valVs H hS hw hr.right h2 hc.2 g2⟩
theorem valVC {X Y : Cx} (H : HR X) (hS : ∀ b, X.S b → Y.S b) (hw : ∀ b, X.S b → Y.w.heap[b]? = X.w.heap[b]?) : ∀ {v u : AV} {cs : List Value}, RowsIn' X Y v.rows → v.val X.h = some u → u.closed = true → VC X v cs → VC Y u cs
  | .agg vs, u, c, hr, e, hc, h => by
    simp only [AV.val, Option.map_eq_some_iff] at e
    obtain ⟨us, e, rfl⟩ := e
    simp only [VC] at h ⊢
    exact valC H hS hw (by simpa [AV.rows] using hr) e (by simpa [AV.closed] using hc) h
  | .tup vs, u, c, hr, e, hc, h => by simp only [VC] at h
  | .sref x id ver off len, u, cs, hr, e, _, h => by
    simp only [AV.val, Option.map_eq_some_iff] at e
    obtain ⟨l, e, rfl⟩ := e
    simp only [VC] at h ⊢
    obtain ⟨c, rfl, h⟩ := h
    exact ⟨c, rfl, sref_val H h e (hr id (by simp [AV.rows]))⟩
  | .sl x l, u, cs, _, e, hc, h => by
    simp only [AV.val, Option.some.injEq] at e; subst e
    have h := closedVC (Y := Y) hS hw (v := .sl x l) rfl h
    simp only [VC] at h ⊢
    obtain ⟨c, rfl, a, cap, rfl, h1, h2, h3, h4⟩ := h
    exact ⟨_, rfl, a, cap, rfl, h1, fun h => (by cases h), h3, h4⟩
  | .fn f first cap, u, c, _, e, hc, h => by simp only [AV.val, Option.some.injEq] at e; subst e; exact closedVC hS hw hc h
  | .arr l, u, c, _, e, hc, h => by simp only [AV.val, Option.some.injEq] at e; subst e; exact closedVC hS hw hc h
  | .int k n, u, c, _, e, hc, h => by simp only [AV.val, Option.some.injEq] at e; subst e; exact closedVC hS hw hc h
  | .bool b, u, c, _, e, hc, h => by simp only [AV.val, Option.some.injEq] at e; subst e; exact closedVC hS hw hc h
  | .str s, u, c, _, e, hc, h => by simp only [AV.val, Option.some.injEq] at e; subst e; exact closedVC hS hw hc h
  | .nilp, u, c, _, e, hc, h => by simp only [AV.val, Option.some.injEq] at e; subst e; exact closedVC hS hw hc h
  | .nilfn, u, c, _, e, hc, h => by simp only [AV.val, Option.some.injEq] at e; subst e; exact closedVC hS hw hc h
  | .niliface, u, c, _, e, hc, h => by simp only [AV.val, Option.some.injEq] at e; subst e; exact closedVC hS hw hc h
  | .top, _, _, _, e, hc, _ | .und, _, _, _, e, hc, _ | .ep _ _ _, _, _, _, e, hc, _ | .ptr _ _, _, _, _, e, hc, _ | .map _, _, _, _, e, hc, _ | .iface _ _, _, _, _, e, hc, _ => by
    simp only [AV.val, Option.some.injEq] at e; subst e; cases hc
theorem valC {X Y : Cx} (H : HR X) (hS : ∀ b, X.S b → Y.S b) (hw : ∀ b, X.S b → Y.w.heap[b]? = X.w.heap[b]?) : ∀ {vs us : List AV} {cs : List Value}, RowsIn' X Y (AV.rowss vs) → AV.vals X.h vs = some us → AV.closeds us = true → VCs X vs cs → VCs Y us cs
  | [], us, _, _, e, _, h => by simp only [AV.vals, Option.some.injEq] at e; subst e; simpa only [VCs] using h
  | v :: r, us, _, hr, e, hc, h => by
    obtain ⟨a, b, rfl, h1, h2⟩ := vals_cons_inv e
    simp only [AV.closeds, Bool.and_eq_true] at hc
    simp only [AV.rowss] at hr
    simp only [VCs] at h ⊢
    obtain ⟨c, d, rfl, g1, g2⟩ := h
    exact ⟨c, d, rfl, valVC H hS hw hr.left h1 hc.1 g1, valC H hS hw hr.right h2 hc.2 g2⟩
end

/-! ### Values of a new part of the heap -/
mutual
def AV.shOk : AV → Bool
  | .fn _ first cap => AV.closeds first && AV.closeds cap
  | .iface _ v => v.closed
  | .agg vs | .tup vs => AV.shOks vs
  | _ => true
def AV.shOks : List AV → Bool
  | [] => true
  | v :: r => v.shOk && AV.shOks r
end

structure Sh (Y Z : Cx) (s : Nat) : Prop where
  S : ∀ b, ¬ Y.S b
  w : Z.w = Y.w
  len : Y.μ.length = Y.h.length
  hh : ∀ (i : Nat) (o : AObj), Y.h[i]? = some o → Z.h[s + i]? = some o
  mu : ∀ (i : Nat) (b : Option Nat), Y.μ[i]? = some b → Z.μ[s + i]? = some b

section
variable {Y Z : Cx} {s : Nat}
theorem Sh.row (E : Sh Y Z s) {i : Nat} {r : RK × Nat × Lst} (h : rowO (Y.h[i]?) = some r) : rowO (Z.h[s + i]?) = some r := by
  obtain ⟨k, v, l⟩ := r
  rw [E.hh i _ (rowO_some h)]; rfl
theorem Sh.hrow (E : Sh Y Z s) {i : Nat} {b : Option Nat} (h : Y.μ[i]? = some b) : Z.h[s + i]? = Y.h[i]? := by
  have hl : i < Y.h.length := by rw [← E.len]; exact (List.getElem?_eq_some_iff.1 h).1
  obtain ⟨o, ho⟩ : ∃ o, Y.h[i]? = some o := ⟨_, List.getElem?_eq_getElem hl⟩
  rw [ho]; exact E.hh i o ho

theorem Sh.vb (E : Sh Y Z s) {v : AV} {c : Value} (hv : v.scalar = true) (hf : ∀ f a b, v ≠ .fn f a b) (hi : ∀ t u, v ≠ .iface t u) (h : VB Y v c) : VB Z (v.shift s) c := by
  cases v with
  | sl x l =>
    obtain ⟨a, cap, rfl, h1, h2, h3, h4⟩ := h
    exact ⟨a, cap, rfl, h1, h2, h3, fun hn => by obtain ⟨ad, _, _, hb, _⟩ := h4 hn; exact (E.S _ hb).elim⟩
  | ep l i fs => obtain ⟨b, o, _, _, hb, _⟩ := h; exact (E.S _ hb).elim
  | sref x id ver off len =>
    obtain ⟨a, n, cap, rfl, k, ver', l, hl, hv, g⟩ := h
    refine ⟨a, n, cap, rfl, k, ver', l, E.row hl, hv, fun e => ?_⟩
    obtain ⟨g1, g2, g3, g4, g5, g6⟩ := g e
    exact ⟨g1, g2, g3, g4, g5, fun hn => by obtain ⟨b, q1, q2, q3⟩ := g6 hn; exact ⟨b, E.mu _ _ q1, q2, by rw [E.w]; exact q3⟩⟩
  | ptr id p =>
    have fin : (∃ b, Y.μ[id]? = some (some b) ∧ c = .pointer (some ⟨b, offs p, none⟩) ∧ ∀ k ver l, rowO (Y.h[id]?) = some (k, ver, l) → k ≠ .own) →
        ∃ b, Z.μ[s + id]? = some (some b) ∧ c = .pointer (some ⟨b, offs p, none⟩) ∧ ∀ k ver l, rowO (Z.h[s + id]?) = some (k, ver, l) → k ≠ .own := by
      rintro ⟨b, q1, q2, q3⟩
      exact ⟨b, E.mu _ _ q1, q2, by rw [E.hrow q1]; exact q3⟩
    cases p with
    | nil => exact fin h
    | cons q r => cases q with
      | f _ _ => exact fin h
      | i _ _ _ =>
        obtain ⟨k, ver', l, hl, hv, ho, g⟩ := h
        exact ⟨k, ver', l, E.row hl, hv, ho, fun e => by obtain ⟨b, q1, q2⟩ := g e; exact ⟨b, E.mu _ _ q1, q2⟩⟩
  | map id =>
    obtain ⟨b, q1, q2, q3⟩ := h
    exact ⟨b, E.mu _ _ q1, q2, by rw [E.hrow q1]; exact q3⟩
  | fn f a b => exact (hf _ _ _ rfl).elim
  | iface t u => exact (hi _ _ rfl).elim
  | agg _ => cases hv
  | arr _ => cases hv
  | tup _ => cases hv
  | _ => exact h

mutual
theorem shV (E : Sh Y Z s) : ∀ {v : AV} {c : Value}, v.shOk = true → VV Y v c → VV Z (v.shift s) c
  | .agg vs, c, hk, h => by
    simp only [AV.shift, VV] at h ⊢
    obtain ⟨cs, rfl, h⟩ := h
    exact ⟨cs, rfl, shC E (by simpa [AV.shOk] using hk) h⟩
  | .tup vs, c, hk, h => by
    simp only [AV.shift, VV] at h ⊢
    obtain ⟨cs, rfl, h⟩ := h
    exact ⟨cs, rfl, shVs E (by simpa [AV.shOk] using hk) h⟩
  | .arr l, c, _, h => h
  | .fn f first cap, c, hk, h => closedV (fun b hb => (E.S b hb).elim) (fun b hb => (E.S b hb).elim) (v := .fn f first cap) (by simpa [AV.shOk, AV.closed] using hk) h
  | .iface t v, c, hk, h => by
    simp only [AV.shift, VV] at h ⊢
    obtain ⟨u, rfl, h⟩ := h
    exact ⟨u, rfl, closedV (fun b hb => (E.S b hb).elim) (fun b hb => (E.S b hb).elim) (by simpa [AV.shOk] using hk) h⟩
  | .top, c, _, h => trivial
  | .und, c, _, h => E.vb rfl (by intros; simp) (by intros; simp) (v := .und) h
  | .int k n, c, _, h => E.vb rfl (by intros; simp) (by intros; simp) (v := .int k n) h
  | .bool b, c, _, h => E.vb rfl (by intros; simp) (by intros; simp) (v := .bool b) h
  | .str b, c, _, h => E.vb rfl (by intros; simp) (by intros; simp) (v := .str b) h
  | .sl x l, c, _, h => E.vb rfl (by intros; simp) (by intros; simp) (v := .sl x l) h
  | .sref x a b d e, c, _, h => E.vb rfl (by intros; simp) (by intros; simp) (v := .sref x a b d e) h
  | .ep l i f, c, _, h => E.vb rfl (by intros; simp) (by intros; simp) (v := .ep l i f) h
  | .nilp, c, _, h => E.vb rfl (by intros; simp) (by intros; simp) (v := .nilp) h
  | .ptr i p, c, _, h => E.vb rfl (by intros; simp) (by intros; simp) (v := .ptr i p) h
  | .map i, c, _, h => E.vb rfl (by intros; simp) (by intros; simp) (v := .map i) h
  | .nilfn, c, _, h => E.vb rfl (by intros; simp) (by intros; simp) (v := .nilfn) h
  | .niliface, c, _, h => E.vb rfl (by intros; simp) (by intros; simp) (v := .niliface) h
theorem shVs (E : Sh Y Z s) : ∀ {vs : List AV} {cs : List Value}, AV.shOks vs = true → VVs Y vs cs → VVs Z (AV.shifts s vs) cs
  | [], _, _, h => by simpa only [VVs, AV.shifts] using h
  | v :: r, _, hk, h => by
    simp only [AV.shOks, Bool.and_eq_true] at hk
    simp only [AV.shifts, VVs] at h ⊢
    obtain ⟨c, d, rfl, g1, g2⟩ := h
    exact ⟨c, d, rfl, shV E hk.1 g1, shVs E hk.2 g2⟩
theorem shVC (E : Sh Y Z s) : ∀ {v : AV} {cs : List Value}, v.shOk = true → VC Y v cs → VC Z (v.shift s) cs
  | .agg vs, c, hk, h => by
    simp only [AV.shift, VC] at h ⊢
    exact shC E (by simpa [AV.shOk] using hk) h
  | .tup vs, c, hk, h => by simp only [VC] at h
  | .arr l, c, _, h => by simpa only [VC, AV.shift] using h
  | .fn f first cap, c, hk, h => closedVC (fun b hb => (E.S b hb).elim) (fun b hb => (E.S b hb).elim) (v := .fn f first cap) (by simpa [AV.shOk, AV.closed] using hk) h
  | .iface t v, c, hk, h => by
    simp only [AV.shift, VC] at h ⊢
    obtain ⟨u, rfl, h⟩ := h
    exact ⟨u, rfl, closedV (fun b hb => (E.S b hb).elim) (fun b hb => (E.S b hb).elim) (by simpa [AV.shOk] using hk) h⟩
  | .top, c, _, h => by simpa only [VC, AV.shift] using h
  | .und, c, _, h => by simp only [VC] at h
  | .int k n, c, _, h => by simp only [VC, AV.shift] at h ⊢; obtain ⟨c, rfl, h⟩ := h; exact ⟨c, rfl, E.vb rfl (by intros; simp) (by intros; simp) (v := .int k n) h⟩
  | .bool b, c, _, h => by simp only [VC, AV.shift] at h ⊢; obtain ⟨c, rfl, h⟩ := h; exact ⟨c, rfl, E.vb rfl (by intros; simp) (by intros; simp) (v := .bool b) h⟩
  | .str b, c, _, h => by simp only [VC, AV.shift] at h ⊢; obtain ⟨c, rfl, h⟩ := h; exact ⟨c, rfl, E.vb rfl (by intros; simp) (by intros; simp) (v := .str b) h⟩
  | .sl x l, c, _, h => by simp only [VC, AV.shift] at h ⊢; obtain ⟨c, rfl, h⟩ := h; exact ⟨c, rfl, E.vb rfl (by intros; simp) (by intros; simp) (v := .sl x l) h⟩
  | .sref x a b d e, c, _, h => by simp only [VC, AV.shift] at h ⊢; obtain ⟨c, rfl, h⟩ := h; exact ⟨c, rfl, E.vb rfl (by intros; simp) (by intros; simp) (v := .sref x a b d e) h⟩
  | .ep l i f, c, _, h => by simp only [VC, AV.shift] at h ⊢; obtain ⟨c, rfl, h⟩ := h; exact ⟨c, rfl, E.vb rfl (by intros; simp) (by intros; simp) (v := .ep l i f) h⟩
  | .nilp, c, _, h => by simp only [VC, AV.shift] at h ⊢; obtain ⟨c, rfl, h⟩ := h; exact ⟨c, rfl, E.vb rfl (by intros; simp) (by intros; simp) (v := .nilp) h⟩
  | .ptr i p, c, _, h => by simp only [VC, AV.shift] at h ⊢; obtain ⟨c, rfl, h⟩ := h; exact ⟨c, rfl, E.vb rfl (by intros; simp) (by intros; simp) (v := .ptr i p) h⟩
  | .map i, c, _, h => by simp only [VC, AV.shift] at h ⊢; obtain ⟨c, rfl, h⟩ := h; exact ⟨c, rfl, E.vb rfl (by intros; simp) (by intros; simp) (v := .map i) h⟩
  | .nilfn, c, _, h => by simp only [VC, AV.shift] at h ⊢; obtain ⟨c, rfl, h⟩ := h; exact ⟨c, rfl, E.vb rfl (by intros; simp) (by intros; simp) (v := .nilfn) h⟩
  | .niliface, c, _, h => by simp only [VC, AV.shift] at h ⊢; obtain ⟨c, rfl, h⟩ := h; exact ⟨c, rfl, E.vb rfl (by intros; simp) (by intros; simp) (v := .niliface) h⟩
theorem shC (E : Sh Y Z s) : ∀ {vs : List AV} {cs : List Value}, AV.shOks vs = true → VCs Y vs cs → VCs Z (AV.shifts s vs) cs
  | [], _, _, h => by simpa only [VCs, AV.shifts] using h
  | v :: r, _, hk, h => by
    simp only [AV.shOks, Bool.and_eq_true] at hk
    simp only [AV.shifts, VCs] at h ⊢
    obtain ⟨c, d, rfl, g1, g2⟩ := h
    exact ⟨c, d, rfl, shVC E hk.1 g1, shC E hk.2 g2⟩
end
end

/-! ### A part of the heap is laid -/
def place {α : Type} : List α → Nat → List α → List α
  | h, _, [] => h
  | h, s, o :: r => place (h.set s o) (s + 1) r

theorem place_length {α : Type} : ∀ (r : List α) (h : List α) (s : Nat), (place h s r).length = h.length
  | [], _, _ => rfl
  | o :: r, h, s => by simp [place, place_length r]

theorem place_get {α : Type} : ∀ (r : List α) (h : List α) (s : Nat), (r ≠ [] → s + r.length ≤ h.length) → ∀ i, (place h s r)[i]? = if s ≤ i ∧ i < s + r.length then r[i - s]? else h[i]?
  | [], h, s, _, i => by
    have : ¬ (s ≤ i ∧ i < s + ([] : List α).length) := by simp
    rw [if_neg this]; rfl
  | o :: r, h, s, hl, i => by
    have hl := hl (by simp)
    simp only [List.length_cons] at hl
    simp only [place]
    rw [place_get r _ _ (by intro _; simp; omega) i]
    simp only [List.length_cons]
    by_cases e : i = s
    · subst e
      rw [if_neg (by omega), if_pos (by omega), List.getElem?_set]
      simp; omega
    · rw [List.getElem?_set]
      by_cases h1 : s ≤ i ∧ i < s + (r.length + 1)
      · rw [if_pos h1, if_pos (by omega)]
        have : i - s = i - (s + 1) + 1 := by omega
        rw [this, List.getElem?_cons_succ]
      · rw [if_neg h1, if_neg (by omega), if_neg (Ne.symm e)]

end Lam
