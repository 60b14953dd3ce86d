/- Copying and clearing. -/
import Derived.Test.YtpjnljbfnppmlaaLR15
set_option linter.unusedVariables false
set_option linter.unnecessarySimpa false
set_option linter.unusedSectionVars false
set_option linter.unusedSimpArgs false
namespace Lam
open Go

section
variable {P : Program} {X : Cx}

theorem flat_cut (l : Lst) (a n : Nat) : (l.cut a n).flat = (l.flat.drop (a * l.kind.size)).take (n * l.kind.size) := by
  have hs := l.kind.size_pos
  apply List.ext_getElem?
  intro p
  have hlen := (l.cut a n).flat_length
  rw [cut_len, cut_kind] at hlen
  by_cases hp : p < min n (l.len - a) * l.kind.size
  · have hq : p / l.kind.size < min n (l.len - a) := Nat.div_lt_of_lt_mul (by rwa [Nat.mul_comm])
    have hm : p % l.kind.size < l.kind.size := Nat.mod_lt _ hs
    have h1 := (l.cut a n).flat_get (i := p / l.kind.size) (j := p % l.kind.size) (by rw [cut_len]; exact hq) (by rw [cut_kind]; exact hm)
    rw [cut_kind, Nat.div_add_mod', cut_cell _ _ _ _ (Nat.lt_of_lt_of_le hq (Nat.min_le_left _ _))] at h1
    have h0 : a + p / l.kind.size < l.len := by
      generalize p / l.kind.size = q at hq
      omega
    have h2 := l.flat_get (i := a + p / l.kind.size) (j := p % l.kind.size) h0 hm
    have e : (a + p / l.kind.size) * l.kind.size + p % l.kind.size = a * l.kind.size + p := by
      rw [Nat.add_mul, Nat.add_assoc, Nat.div_add_mod']
    rw [e] at h2
    have hp2 : p < n * l.kind.size := Nat.lt_of_lt_of_le hp (Nat.mul_le_mul_right _ (by omega))
    rw [h1, ← h2, List.getElem?_take, if_pos hp2, List.getElem?_drop]
  · rw [List.getElem?_eq_none (by omega), List.getElem?_eq_none]
    rw [List.length_take, List.length_drop, Lst.flat_length]
    have : min (n * l.kind.size) (l.len * l.kind.size - a * l.kind.size) ≤ min n (l.len - a) * l.kind.size := by
      rw [← Nat.sub_mul]
      rcases Nat.le_total n (l.len - a) with h | h
      · rw [Nat.min_eq_left h]; omega
      · rw [Nat.min_eq_right h]; omega
    omega

theorem Lies.take {l : Lst} {c : Value} (L : Lies X l c) (n : Nat) (hn : n ≤ l.len) {w' : World} (hw : w'.heap = X.w.heap) : (Builtin.firstCells l.kind.size n c).run P w' = .ok (l.cut 0 n).flat.toArray w' := by
  obtain ⟨a, cap, rfl, h1, h2, h3⟩ := L.lies
  have hfl : (l.cut 0 n).flat.length = n * l.kind.size := by rw [Lst.flat_length, cut_len, cut_kind]; congr 1; omega
  by_cases hz : n = 0
  · subst hz
    have : (l.cut 0 0).flat = [] := List.eq_nil_of_length_eq_zero (by rw [hfl, Nat.zero_mul])
    rw [this]
    cases a with
    | none => rfl
    | some ad => simp [Builtin.firstCells, loadCells, loadCellsFrom]
  · obtain ⟨b, o, rfl, hr⟩ := h3 (by omega)
    have := Reads_cut (a := 0) (n := n) hr
    rw [Nat.zero_mul, Nat.add_zero] at this
    refine run_firstCells_some w' _ _ _ _ _ _ hfl fun j v hj => ?_
    rw [cell_heap hw]; exact this.add j v hj

/-- the elements from a place on become others -/
theorem over_spec {l ys l' : Lst} {off len : Nat} (h : l.over off len ys = some l') (hol : off + len ≤ l.len) : l'.len = l.len ∧ l'.kind = l.kind ∧ ys.kind = l.kind ∧
    l'.flat = l.flat.take (off * l.kind.size) ++ ((ys.cut 0 (min len ys.len)).flat ++ l.flat.drop ((off + min len ys.len) * l.kind.size)) := by
  unfold Lst.over at h
  split at h
  · rename_i z hz
    obtain ⟨a1, a2, a3, a4⟩ := app_spec hz
    obtain ⟨b1, b2, b3, b4⟩ := app_spec h
    simp only [cut_len, cut_kind] at a1 a2 a3 b1 b2 b3
    refine ⟨by omega, b2.trans a2, a3, ?_⟩
    rw [b4, a4, flat_cut l 0 off, flat_cut l (off + min len ys.len)]
    have e1 : (ys.cut 0 len).flat = (ys.cut 0 (min len ys.len)).flat := by
      rw [flat_cut, flat_cut]
      simp only [Nat.zero_mul, List.drop_zero]
      rcases Nat.le_total len ys.len with h | h
      · rw [Nat.min_eq_left h]
      · rw [Nat.min_eq_right h, List.take_of_length_le, List.take_of_length_le]
        · rw [Lst.flat_length]; exact Nat.le_refl _
        · rw [Lst.flat_length]; exact Nat.mul_le_mul_right _ h
    rw [e1]
    simp only [Nat.zero_mul, List.drop_zero, List.append_assoc]
    congr 2
    apply List.take_of_length_le
    rw [List.length_drop, Lst.flat_length, ← Nat.sub_mul]
    exact Nat.le_refl _
  · cases h

/-- a row, part of which is written -/
theorem over_good (H : HR X) {id ver off len : Nat} {k : RK} {l l' ys : Lst} {x : Bool} {a : Option Addr} {n cap : Nat} {v : AV} {c : Value} (hrow : rowO (X.h[id]?) = some (k, ver, l)) (hk : k ≠ .fro)
    (hs : VV X (.sref x id ver off len) (.slice a n cap)) (h : l.over off len ys = some l') (hv : ∀ Y, VV Y v c) :
    n = len ∧ ∃ w', (match a with | some ad => storeCells ad (ys.cut 0 (min len ys.len)).flat | none => pure ()).run P X.w = .ok () w' ∧ Good X (X.h.set id (.row k ver l')) v c w' := by
  have ho := rowO_some hrow
  obtain ⟨a', n', cap', heq, k2, ver2, l2, hl2, _, g⟩ := hs
  cases heq
  rw [hrow] at hl2; cases hl2
  obtain ⟨rfl, g1, g2, g3, g4, g5⟩ := g rfl
  refine ⟨rfl, ?_⟩
  obtain ⟨e1, e2, e3, e4⟩ := over_spec h g2
  obtain ⟨b0, hb0, hor⟩ := H.obj _ _ ho
  have hnS : ∀ b, b0 = some b → ¬ X.S b := fun b hb hS => by
    subst hb
    obtain ⟨_, _, h⟩ := (H.live _ _ hb0).2 hS; rw [ho] at h; cases h; exact hk rfl
  have hid : id < X.h.length := (List.getElem?_eq_some_iff.1 ho).1
  have hcl := (ys.cut 0 (min n ys.len)).flat_length
  rw [cut_len, cut_kind, e3] at hcl
  have hcl : (ys.cut 0 (min n ys.len)).flat.length = min n ys.len * l.kind.size := by rw [hcl]; congr 1; omega
  by_cases hc0 : cap = 0
  · have hn0 : n = 0 := by omega
    subst hn0
    have hys : (ys.cut 0 (min 0 ys.len)).flat = [] := List.eq_nil_of_length_eq_zero (by rw [hcl]; simp)
    have hfl : l'.flat = l.flat := by rw [e4, hys]; simp
    rw [hys]
    refine ⟨X.w, by cases a <;> simp [storeCells], ?_⟩
    have U : Upd X ⟨X.S, X.μ.set id b0, X.h.set id (.row k ver l'), X.w⟩ id (.row k ver l) (.row k ver l') b0 b0 :=
      { S := rfl, hh := rfl, mu := rfl, ho := ho, hb := hb0, heap := fun _ _ _ => rfl, grow := Nat.le_refl _, blk := .inl rfl, env := SameEnv.refl _, own := hnS
        row := fun k v l0 h => by
          simp only [rowO, Option.some.injEq, Prod.mk.injEq] at h
          obtain ⟨rfl, rfl, rfl⟩ := h
          exact ⟨_, _, rfl, Nat.le_refl _, fun _ => ⟨e1, e2, rfl, fun _ _ => Nat.le_refl _⟩, fun _ => rfl⟩
        oth := fun h => by cases h }
    refine ⟨⟨X.S, X.μ.set id b0, X.h.set id (.row k ver l'), X.w⟩, rfl, rfl, U.hr H fun E => ?_, U.ext H, hv _⟩
    rcases hor with ⟨h1, h2, h3⟩ | ⟨b', cs', el, h1, h2, ⟨r, hr'⟩, h3⟩
    · exact .inl ⟨h1, by omega, h3⟩
    · exact .inr ⟨b', cs', el, h1, h2, ⟨r, by rw [hr', hfl]⟩, h3⟩
  · obtain ⟨b, hb, rfl, hz2⟩ := g5 hc0
    rw [hb] at hb0; cases hb0
    obtain ⟨cur, el, r, hheap, hcur⟩ := row_cells H hrow hb
    have hmm : min n ys.len * l.kind.size ≤ l.flat.length - off * l.kind.size := by
      rw [Lst.flat_length, ← Nat.sub_mul]; exact Nat.mul_le_mul_right _ (by omega)
    have hoff : off * l.kind.size ≤ l.flat.length := by rw [Lst.flat_length]; exact Nat.mul_le_mul_right _ (by omega)
    have hsplit : l.flat = l.flat.take (off * l.kind.size) ++ ((l.flat.drop (off * l.kind.size)).take (min n ys.len * l.kind.size) ++ l.flat.drop ((off + min n ys.len) * l.kind.size)) := by
      rw [Nat.add_mul, ← List.drop_drop, List.take_append_drop, List.take_append_drop]
    have hst := storeCells_at (P := P) (w := X.w) (g := b) (o := off * l.kind.size) (a := l.flat.take (off * l.kind.size)) (us := (l.flat.drop (off * l.kind.size)).take (min n ys.len * l.kind.size))
      (b := l.flat.drop ((off + min n ys.len) * l.kind.size) ++ r) (vs := (ys.cut 0 (min n ys.len)).flat) hheap
      (by have h9 := congrArg (· ++ r) hsplit
          simp only [List.append_assoc] at h9
          rw [hcur]; exact h9) (by rw [List.length_take]; omega)
      (by rw [hcl, List.length_take, List.length_drop]; omega) (flat_ones _)
    refine ⟨_, hst, set_good H ho hb hheap (hnS b rfl) ?_ (fun k v l0 h => ?_) (fun h => by cases h) (fun Y hY hS E' hn => .inr ⟨b, _, el, rfl, hn, ⟨r, by simp [e4]⟩, fun h => absurd h hk⟩) (fun Y _ _ _ _ _ => hv Y)⟩
    · rw [← Array.length_toList (xs := cur), hcur]
      have := congrArg List.length hsplit
      simp only [List.length_append] at this
      simp only [List.size_toArray, List.length_append, hcl]
      rw [this]
      have : ((l.flat.drop (off * l.kind.size)).take (min n ys.len * l.kind.size)).length = min n ys.len * l.kind.size := by rw [List.length_take, List.length_drop]; omega
      rw [this]; omega
    · simp only [rowO, Option.some.injEq, Prod.mk.injEq] at h
      obtain ⟨rfl, rfl, rfl⟩ := h
      exact ⟨_, _, rfl, Nat.le_refl _, fun _ => ⟨e1, e2⟩, fun _ => rfl⟩

theorem copy_sound (H : HR X) {T U ty : TypeId} {d : TyD} {s x : AV} {cs cx : Value} {id : Nat} {o' : AObj} {S : Prop} {v : AV} (hT : tyB P d T = true) (hs : VV X s cs) (hx : VV X x cx)
    (h : copyH d X.h s x = some (S, v, id, o')) (hS : S) : ∃ r w', (Builtin.copy_ #[T, U] ty #[cs, cx]).run P X.w = .ok r w' ∧ Good X (X.h.set id o') v r w' := by
  unfold copyH at h
  split at h
  rotate_left
  · cases h
  rename_i y id0 ver off len
  split at h
  rotate_left
  · cases h
  rename_i hfit
  obtain ⟨k, ver', l, hrow, rfl⟩ := fitsRow_of hfit
  obtain ⟨E, hu, he⟩ := ty_slice hT
  unfold copyO at h
  split at h
  rotate_left
  · cases h
  rename_i k2 ver2 l2 ys hrow2 hlist
  rw [rowO_some hrow] at hrow2
  cases hrow2
  split at h
  rotate_left
  · cases h
  rename_i hc
  obtain ⟨rfl, hkf⟩ := hc
  split at h
  rotate_left
  · cases h
  rename_i l' hov
  cases h
  have L := list_lies H hx hlist
  have hs0 := hs
  obtain ⟨a, n, cap, rfl, k3, ver3, l3, hl3, _, g⟩ := hs0
  rw [hrow] at hl3; cases hl3
  obtain ⟨rfl, g1, g2, g3, g4, g5⟩ := g rfl
  obtain ⟨_, w', hst, hgood⟩ := over_good (P := P) (v := .int .i64 (min n ys.len : Nat)) (c := .int .i64 (min n ys.len : Nat)) H hrow hkf hs hov (fun Y => rfl)
  refine ⟨_, w', ?_, hgood⟩
  have hk := (over_spec hov g2).2.2.1
  have hmin : Nat.min ys.len n = min n ys.len := Nat.min_comm _ _
  have hf := L.take (P := P) (min n ys.len) (by omega) (w' := X.w) rfl
  rw [hk] at hf
  have hln := len_of (P := P) L X.w
  have hes : (Go.sizeOf E).run P X.w = .ok l.kind.size X.w := el_size he X.w
  cases a with
  | none =>
    have hst : X.w = w' := by simpa using hst
    subst hst
    simp [Builtin.copy_, run_underlying hu, hln, hes, hmin, hf, goInt]
  | some ad => simp [Builtin.copy_, run_underlying hu, hln, hes, hmin, hf, hst, goInt]

theorem clear_sound (H : HR X) {T ty : TypeId} {d : TyD} {s : AV} {cs : Value} {id : Nat} {o' : AObj} {S : Prop} {v : AV} (hT : tyB P d T = true) (hs : VV X s cs)
    (h : clearH d X.h s = some (S, v, id, o')) (hS : S) : ∃ r w', (Builtin.clear_ #[T] ty #[cs]).run P X.w = .ok r w' ∧ Good X (X.h.set id o') v r w' := by
  unfold clearH at h
  split at h
  rotate_left
  · cases h
  rename_i y id0 ver off len
  split at h
  rotate_left
  · cases h
  rename_i hfit
  obtain ⟨k, ver', l, hrow, rfl⟩ := fitsRow_of hfit
  obtain ⟨E, hu, he⟩ := ty_slice hT
  unfold clearO at h
  split at h
  rotate_left
  · cases h
  rename_i k2 ver2 l2 hrow2
  rw [rowO_some hrow] at hrow2
  cases hrow2
  split at h
  rotate_left
  · cases h
  rename_i hc
  obtain ⟨rfl, hkf⟩ := hc
  split at h
  rotate_left
  · cases h
  rename_i l' hov
  cases h
  have hs0 := hs
  obtain ⟨a, n, cap, rfl, k3, ver3, l3, hl3, _, g⟩ := hs0
  rw [hrow] at hl3; cases hl3
  obtain ⟨rfl, g1, g2, g3, g4, g5⟩ := g rfl
  obtain ⟨_, w', hst, hgood⟩ := over_good (P := P) (v := .tup []) (c := .tuple #[]) H hrow hkf hs hov (fun Y => by simp only [VV]; exact ⟨#[], rfl, by simp [VVs]⟩)
  obtain ⟨i, z, hi, hsz, hb, hz, hzc⟩ := (elOk he).info
  have hzero : (zeroValue E).run P X.w = .ok z X.w := by simp [zeroValue, typeInfo, hi, hz]
  have hzs : z.cells.size = l.kind.size := by rw [← Array.length_toList, hzc, Lst.cell_length, zeros_kind]
  have hfl : (Builtin.zeroCells z.cells n).toList = (l.kind.zeros n).flat := by
    rw [← made_flat hzc]; simp [Builtin.zeroCells, madeCells, hzs]
  have hcut : ((l.kind.zeros n).cut 0 (min n (l.kind.zeros n).len)).flat = (l.kind.zeros n).flat := by
    rw [zeros_len, Nat.min_self]
    have := cut_all (l.kind.zeros n)
    rw [zeros_len] at this
    rw [this]
  rw [hcut] at hst
  refine ⟨_, w', ?_, hgood⟩
  cases a with
  | none =>
    have hst : X.w = w' := by simpa using hst
    subst hst
    simp [Builtin.clear_, run_underlying hu]
  | some ad =>
    by_cases hn : n = 0
    · subst hn
      have hnil : (l.kind.zeros 0).flat = [] := List.eq_nil_of_length_eq_zero (by rw [Lst.flat_length, zeros_len]; simp)
      rw [hnil] at hst
      have hst : X.w = w' := by simpa [storeCells] using hst
      subst hst
      simp [Builtin.clear_, run_underlying hu]
    · obtain ⟨m, rfl⟩ : ∃ m, n = m + 1 := ⟨n - 1, by omega⟩
      simp [Builtin.clear_, run_underlying hu, hzero, hfl, hst]
end
end Lam
