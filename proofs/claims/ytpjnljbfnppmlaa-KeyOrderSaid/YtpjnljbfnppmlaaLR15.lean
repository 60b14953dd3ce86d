/- Appending, copying, clearing: what they come to. -/
import Derived.Test.YtpjnljbfnppmlaaLR14
set_option linter.unusedVariables false
set_option linter.unnecessarySimpa false
set_option linter.unusedSectionVars false
set_option linter.unusedSimpArgs false
namespace Lam
open Go

section
variable {P : Program} {X : Cx}

theorem flatMap_cg {α β : Type} {l : List α} {f g : α → List β} (h : ∀ x ∈ l, f x = g x) : l.flatMap f = l.flatMap g := by
  rw [List.flatMap_def, List.flatMap_def, List.map_congr_left h]

theorem flat_app_cells {f g : Nat → List Value} {n m : Nat} : (List.range (n + m)).flatMap (fun i => if i < n then f i else g (i - n)) = (List.range n).flatMap f ++ (List.range m).flatMap g := by
  rw [List.range_add, List.flatMap_append, List.flatMap_map]
  congr 1
  · apply flatMap_cg
    intro i hi
    simp [List.mem_range.1 hi]
  · apply flatMap_cg
    intro i hi
    have : ¬ (n + i < n) := by omega
    simp [this]

theorem app_spec {xs ys zs : Lst} (h : xs.app ys = some zs) : zs.len = xs.len + ys.len ∧ zs.kind = xs.kind ∧ ys.kind = xs.kind ∧ zs.flat = xs.flat ++ ys.flat := by
  have key : zs.len = xs.len + ys.len ∧ zs.kind = xs.kind ∧ ys.kind = xs.kind ∧ ∀ i, zs.cell i = if i < xs.len then xs.cell i else ys.cell (i - xs.len) := by
    unfold Lst.app at h
    split at h
    · split at h
      · rename_i k xs k' ys e; subst e; cases h
        refine ⟨by simp [Lst.len], rfl, rfl, fun i => ?_⟩
        simp only [Lst.cell, Lst.len, List.getD_eq_getElem?_getD, List.getElem?_append]
        split <;> rfl
      · cases h
    all_goals first | (cases h; done) | skip
    all_goals
      cases h
      refine ⟨by simp [Lst.len], rfl, rfl, fun i => ?_⟩
      simp only [Lst.cell, Lst.len, List.getD_eq_getElem?_getD, List.getElem?_append]
      split <;> rfl
  obtain ⟨h1, h2, h3, h4⟩ := key
  refine ⟨h1, h2, h3, ?_⟩
  unfold Lst.flat
  rw [h1, show zs.cell = fun i => if i < xs.len then xs.cell i else ys.cell (i - xs.len) from funext h4]
  exact flat_app_cells

theorem cut_all (l : Lst) : l.cut 0 l.len = l := by cases l <;> simp [Lst.cut, Lst.len]

theorem none_good (H : HR X) {s : Nat} (hd : X.h[s]? = some .dead) {l : Lst} {a : Option Addr} (hl : l.len = 0) : Good X (X.h.set s (.row .own 0 l)) (.sref false s 0 0 0) (.slice a 0 0) X.w := by
  have hs : s < X.h.length := (List.getElem?_eq_some_iff.1 hd).1
  have hmu := dead_mu H hd
  have hs2 : s < X.μ.length := by rw [H.len]; exact hs
  have U : Upd X ⟨X.S, X.μ.set s none, X.h.set s (.row .own 0 l), X.w⟩ s .dead (.row .own 0 l) none none :=
    { S := rfl, hh := rfl, mu := rfl, ho := hd, hb := hmu, heap := fun _ _ _ => rfl, grow := Nat.le_refl _, blk := .inl rfl, env := ⟨rfl, rfl, rfl⟩, own := fun k hk => (by cases hk), row := fun k ver l h => (by cases h), oth := fun _ => .inl rfl }
  refine ⟨⟨X.S, X.μ.set s none, X.h.set s (.row .own 0 l), X.w⟩, rfl, rfl, U.hr H fun E => .inl ⟨rfl, hl, by simp⟩, U.ext H, ?_⟩
  exact ⟨a, 0, 0, rfl, .own, 0, l, by simp [hs, rowO], Nat.le_refl _, fun _ => ⟨rfl, Nat.le_refl _, by simp, fun _ => rfl, fun _ => rfl, fun h => absurd rfl h⟩⟩

theorem appendNew_sound (H : HR X) {T U E ty : TypeId} {xs ys zs : Lst} {cs cx : Value} {n : Nat} (hu : P.underlying T = some (.slice E)) (he : elB P E xs.kind = true) (hd : X.h[n]? = some .dead)
    (L : Lies X xs cs) (hcap : ∃ a, cs = .slice a xs.len xs.len) (A : Appended P X xs.kind U ys cx) (hz : xs.app ys = some zs) (hS : (0 < ys.len ∨ xs.len = 0) ∧ roomy zs.len) :
    ∃ r w', (Builtin.append_ #[T, U] ty #[cs, cx]).run P X.w = .ok r w' ∧ Good X (X.h.set n (.row .own 0 zs)) (.sref false n 0 0 zs.len) r w' := by
  obtain ⟨e1, e2, e3, e4⟩ := app_spec hz
  obtain ⟨hS1, hS2⟩ := hS
  unfold roomy at hS2
  obtain ⟨a, rfl⟩ := hcap
  by_cases hy : ys.len = 0
  · have hx0 : xs.len = 0 := by omega
    have := append_fit (P := P) (ty := ty) hu he A a xs.len xs.len (by omega)
    rw [flat_nil hy] at this
    refine ⟨.slice a 0 0, X.w, ?_, ?_⟩
    · rw [this, hx0, hy]; cases a <;> simp [storeCells]
    · have h0 : zs.len = 0 := by omega
      rw [h0]; exact none_good H hd h0
  · obtain ⟨cap, w', rest, h1, h2, h3, h4⟩ := append_grow (P := P) (ty := ty) hu he A a xs.len xs.len xs.flat (fun w' hw => first_cells L hw) (by omega) (by omega)
    refine ⟨_, w', h4, ?_⟩
    have := row_good H hd (l := zs) (cs := (xs.flat ++ (ys.flat ++ rest)).toArray) (r := rest) (E := E) (n := xs.len + ys.len) (cap := cap) (x := false) h2 (by simp [e4]) (by omega) h1 (by
      simp only [List.size_toArray, List.length_append, Lst.flat_length, h3, e2, e3]
      rw [← Nat.add_assoc, ← Nat.add_mul, ← Nat.add_mul]; exact Nat.mul_le_mul_right _ (by omega)) (by simp)
    rwa [e1]

/-- the second argument, from its value -/
theorem appendD_sound (H : HR X) {T U ty : TypeId} {d : TyD} {s x : AV} {cs cx : Value} {n : Nat} {S : Prop} {v : AV} {news : List AObj} (hT : tyB P d T = true) (hs : VV X s cs) (hd : X.h[n]? = some .dead)
    (A : ∀ e ys, d = .slice e → x.list X.h = some ys → ys.kind = e → Appended P X e U ys cx) (h : appendD d X.h s x n = some (S, v, news)) (hS : S) :
    ∃ o r w', news = [o] ∧ (Builtin.append_ #[T, U] ty #[cs, cx]).run P X.w = .ok r w' ∧ Good X (X.h.set n o) v r w' := by
  have fin : ∀ xs, Lies X xs cs → (∃ a, cs = .slice a xs.len xs.len) → d = .slice xs.kind → (someD (x.list X.h) fun ys => appendExD xs ys n) = some (S, v, news) →
      ∃ o r w', news = [o] ∧ (Builtin.append_ #[T, U] ty #[cs, cx]).run P X.w = .ok r w' ∧ Good X (X.h.set n o) v r w' := by
    intro xs L hc hdx hq
    subst hdx
    obtain ⟨E, hu, he⟩ := ty_slice hT
    cases hy : x.list X.h with
    | none => simp [hy, someD] at hq
    | some ys =>
      simp only [hy, someD, appendExD] at hq
      cases hz : xs.app ys with
      | none => simp [hz] at hq
      | some zs =>
        simp only [hz, Option.some.injEq, Prod.mk.injEq] at hq
        obtain ⟨rfl, rfl, rfl⟩ := hq
        obtain ⟨r, w', h1, h2⟩ := appendNew_sound (P := P) (ty := ty) H hu he hd L hc (A _ ys rfl hy (app_spec hz).2.2.1) hz hS
        exact ⟨_, r, w', rfl, h1, h2⟩
  unfold appendD at h
  split at h
  · rename_i xs
    have h2 := (whenD_inv h).2
    have hk := isSlice_inv (whenD_inv h).1
    obtain ⟨a, cap, rfl, g1, g2, g3, g4⟩ := id hs
    exact fin xs (list_lies H hs rfl) ⟨a, by rw [g2 rfl]⟩ hk h2
  · rename_i id ver off len
    have h2 := (whenD_inv h).2
    obtain ⟨k, ver', l, hrow, hdl⟩ := fitsRow_of (whenD_inv h).1
    clear h
    cases hl : listO (X.h[id]?) ver off len with
    | none => rw [hl] at h2; cases h2
    | some xs =>
      rw [hl] at h2
      simp only [someD] at h2
      have L : Lies X xs cs := list_lies H hs hl
      obtain ⟨k', l0, hrow', rfl⟩ := listO_inv hl
      rw [hrow] at hrow'; cases hrow'
      obtain ⟨a, m, cap, rfl, k2, ver2, l2, hl2, _, g⟩ := hs
      rw [hrow] at hl2; cases hl2
      obtain ⟨rfl, g1, g2, g3, _⟩ := g rfl
      have hlen : (l.cut off m).len = m := by rw [cut_len]; omega
      exact fin _ L ⟨a, by rw [hlen, g3 rfl]⟩ (by rw [cut_kind]; exact hdl) h2
  · cases h

theorem appendH_sound (H : HR X) {T U ty : TypeId} {d : TyD} {s x : AV} {cs cx : Value} {id : Nat} {o' : AObj} {S : Prop} {v : AV} (hT : tyB P d T = true) (hs : VV X s cs)
    (A : ∀ e ys, d = .slice e → x.list X.h = some ys → ys.kind = e → Appended P X e U ys cx) (h : appendH d X.h s x = some (S, v, id, o')) (hS : S) :
    ∃ r w', (Builtin.append_ #[T, U] ty #[cs, cx]).run P X.w = .ok r w' ∧ Good X (X.h.set id o') v r w' := by
  unfold appendH at h
  split at h
  rotate_left
  · cases h
  rename_i id0 ver off len
  split at h
  rotate_left
  · cases h
  rename_i hfit
  obtain ⟨k, ver', l, hrow, rfl⟩ := fitsRow_of hfit
  have ho := rowO_some hrow
  obtain ⟨E, hu, he⟩ := ty_slice hT
  unfold appendO at h
  split at h
  rotate_left
  · cases h
  rename_i ver2 l2 ys hrow2 hlist
  rw [ho] at hrow2
  cases hrow2
  split at h
  rotate_left
  · cases h
  rename_i hver
  subst hver
  split at h
  rotate_left
  · cases h
  rename_i zs hz
  cases h
  obtain ⟨rfl, rfl, hroomy⟩ := hS
  unfold roomy at hroomy
  obtain ⟨e1, e2, e3, e4⟩ := app_spec hz
  have A' := A _ ys rfl hlist e3
  have L : Lies X l cs := by
    have := list_lies H hs (l := l) (by simp only [AV.list, listO, ho, if_true, cut_all])
    exact this
  have hs0 := hs
  obtain ⟨a, m, cap, rfl, k2, ver2, l3, hl3, _, g⟩ := hs0
  rw [hrow] at hl3; cases hl3
  obtain ⟨rfl, g1, g2, _, g4, g5⟩ := g rfl
  obtain ⟨b0, hb0, hor⟩ := H.obj _ _ ho
  have hnS : ∀ b, b0 = some b → ¬ X.S b := fun b hb hS => by
    subst hb
    obtain ⟨_, _, h⟩ := (H.live _ _ hb0).2 hS; rw [ho] at h; cases h
  have hid : id < X.h.length := (List.getElem?_eq_some_iff.1 ho).1
  have hidm : id < X.μ.length := by rw [H.len]; exact hid
  by_cases hg : l.len + ys.len ≤ cap
  · have hr := append_fit (P := P) (ty := ty) hu he A' a l.len cap hg
    by_cases hc0 : cap = 0
    · have hl0 : l.len = 0 := by omega
      have hy0 : ys.len = 0 := by omega
      rw [flat_nil hy0] at hr
      refine ⟨.slice a 0 0, X.w, ?_, ?_⟩
      · rw [hr, hl0, hy0, hc0]; cases a <;> simp [storeCells]
      · have U : Upd X ⟨X.S, X.μ.set id b0, X.h.set id (.row .own (ver + 1) zs), X.w⟩ id (.row .own ver l) (.row .own (ver + 1) zs) b0 b0 :=
          { S := rfl, hh := rfl, mu := rfl, ho := ho, hb := hb0, heap := fun _ _ _ => rfl, grow := Nat.le_refl _, blk := .inl rfl, env := SameEnv.refl _, own := hnS
            row := fun k v l' h => by
              simp only [rowO, Option.some.injEq, Prod.mk.injEq] at h
              obtain ⟨rfl, rfl, rfl⟩ := h
              exact ⟨_, _, rfl, Nat.le_succ _, fun e => by omega, fun h => absurd rfl h⟩
            oth := fun h => by cases h }
        have hz0 : zs.len = 0 := by omega
        refine ⟨⟨X.S, X.μ.set id b0, X.h.set id (.row .own (ver + 1) zs), X.w⟩, rfl, rfl, U.hr H fun E => ?_, U.ext H, ?_⟩
        · rcases hor with ⟨h1, _, h3⟩ | ⟨b', cs', el, h1, h2, ⟨r, hr'⟩, h3⟩
          · exact .inl ⟨h1, hz0, h3⟩
          · exact .inr ⟨b', cs', el, h1, h2, ⟨r, by rw [hr', flat_nil hl0, flat_nil hz0]⟩, fun h => by cases h⟩
        · rw [hz0]
          exact ⟨a, 0, 0, rfl, .own, ver + 1, zs, by simp [hid, rowO], Nat.le_refl _, fun _ => ⟨rfl, Nat.le_refl _, by simp, fun _ => rfl, fun _ => rfl, fun h => absurd rfl h⟩⟩
    · obtain ⟨b, hb, rfl, hz2⟩ := g5 hc0
      rw [hb] at hb0; cases hb0
      obtain ⟨cur, el, r, hheap, hcur⟩ := row_cells H hrow hb
      simp only [Nat.zero_mul, Nat.zero_add] at hz2
      have hbs : cap * l.kind.size ≤ l.flat.length + r.length := by
        have : blockSize X.w b = cur.size := by unfold blockSize; rw [hheap]
        rw [this, ← Array.length_toList, hcur, List.length_append] at hz2; exact hz2
      have hyl : ys.flat.length ≤ r.length := by
        have h1 : (l.len + ys.len) * l.kind.size ≤ cap * l.kind.size := Nat.mul_le_mul_right _ hg
        rw [Nat.add_mul] at h1
        rw [Lst.flat_length] at hbs
        rw [Lst.flat_length, e3]; omega
      have hst := storeCells_at (P := P) (w := X.w) (g := b) (o := l.len * l.kind.size) (a := l.flat) (us := r.take ys.flat.length) (b := r.drop ys.flat.length) (vs := ys.flat) hheap (by rw [hcur, List.take_append_drop]) l.flat_length
        (by rw [List.length_take]; omega) (flat_ones ys)
      refine ⟨.slice (some ⟨b, 0, none⟩) (l.len + ys.len) cap, X.w.setRow b (l.flat ++ (ys.flat ++ r.drop ys.flat.length)).toArray, ?_, ?_⟩
      · rw [hr]; simp only [Nat.zero_mul, Addr.add_lit, Nat.zero_add, hst, Result.andThen_ok]
      · refine set_good H ho hb hheap (hnS b rfl) ?_ (fun k v l' h => ?_) (fun h => by cases h) (fun Y hY _ E' hn => .inr ⟨b, _, el, rfl, hn, ⟨r.drop ys.flat.length, by simp [e4]⟩, fun h => by cases h⟩) (fun Y hY E' hμ hh hbs' => ?_)
        · rw [← Array.length_toList (xs := cur), hcur]; simp only [List.size_toArray, List.length_append, List.length_drop]; omega
        · simp only [rowO, Option.some.injEq, Prod.mk.injEq] at h
          obtain ⟨rfl, rfl, rfl⟩ := h
          exact ⟨_, _, rfl, Nat.le_succ _, fun e => by omega, fun h => absurd rfl h⟩
        · refine ⟨_, _, _, rfl, .own, ver + 1, zs, by rw [hh]; rfl, Nat.le_refl _, fun _ => ⟨e1.symm, by omega, by simp, fun h => (by cases h), fun h => (by cases h), fun _ => ⟨b, by rw [hμ]; exact hb, by simp, ?_⟩⟩⟩
          rw [hbs', Nat.zero_add, e2, ← Array.length_toList, hcur, List.length_append]; exact hbs
  · obtain ⟨cap', w', rest, h1, h2, h3, h4⟩ := append_grow (P := P) (ty := ty) hu he A' a l.len cap l.flat (fun w' hw => by
      have := first_cells (P := P) L hw
      obtain ⟨a', cap', heq, _⟩ := L.lies
      exact this) (by omega) (by omega)
    refine ⟨_, w', h4, ?_⟩
    obtain ⟨h2, henv⟩ := h2
    have hnew : w'.heap[X.w.heap.size]? = some (.cells (l.flat ++ (ys.flat ++ rest)).toArray E) := by rw [h2]; simp
    have U : Upd X ⟨X.S, X.μ.set id (some X.w.heap.size), X.h.set id (.row .own (ver + 1) zs), w'⟩ id (.row .own ver l) (.row .own (ver + 1) zs) b0 (some X.w.heap.size) :=
      { S := rfl, hh := rfl, mu := rfl, ho := ho, hb := hb0
        heap := fun k hk _ => by simp only [h2, Array.getElem?_push]; rw [if_neg (by omega)]
        grow := by simp [h2]
        blk := .inr ⟨_, rfl, Nat.le_refl _, by simp [h2]⟩
        own := hnS
        env := henv
        row := fun k v l' h => by
          simp only [rowO, Option.some.injEq, Prod.mk.injEq] at h
          obtain ⟨rfl, rfl, rfl⟩ := h
          exact ⟨_, _, rfl, Nat.le_succ _, fun e => by omega, fun h => absurd rfl h⟩
        oth := fun h => by cases h }
    refine ⟨_, rfl, rfl, U.hr H fun E' => .inr ⟨_, _, E, rfl, hnew, ⟨rest, by simp [e4]⟩, fun h => by cases h⟩, U.ext H, ?_⟩
    refine ⟨_, _, _, rfl, .own, ver + 1, zs, by simp [hid, rowO], Nat.le_refl _, fun _ => ⟨e1.symm, by omega, by simp, fun h => (by cases h), fun h => (by cases h), fun _ => ⟨_, by simp [hidm]; rfl, by simp, ?_⟩⟩⟩
    simp only [blockSize, hnew, List.size_toArray, List.length_append, Lst.flat_length, h3, e2, e3]
    rw [← Nat.add_assoc, ← Nat.add_mul, ← Nat.add_mul]; exact Nat.mul_le_mul_right _ (by omega)
end
end Lam
