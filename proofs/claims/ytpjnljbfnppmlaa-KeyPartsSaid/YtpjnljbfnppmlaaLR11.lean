/- Rows that are changed in a place; arrays and slices that are built. -/
import Derived.Test.YtpjnljbfnppmlaaLR10
set_option linter.unusedVariables false
set_option linter.unnecessarySimpa false
set_option linter.unusedSectionVars false
set_option linter.unusedSimpArgs false
namespace Lam
open Go

section
variable {P : Program} {X : Cx}

theorem VCs_cons_inv {v : AV} {r : List AV} {cs : List Value} (h : VCs X (v :: r) cs) : ∃ a b, cs = a ++ b ∧ VC X v a ∧ VCs X r b := by simpa only [VCs] using h
theorem VC_int_inv {k : IntKind} {n : Int} {cs : List Value} (h : VC X (.int k n) cs) : cs = [.int k n] := by obtain ⟨c, rfl, h⟩ := h; rw [show c = .int k n from h]
theorem VC_bool_inv {b : Bool} {cs : List Value} (h : VC X (.bool b) cs) : cs = [.bool b] := by obtain ⟨c, rfl, h⟩ := h; rw [show c = .bool b from h]
theorem VC_str_inv {s : Bytes} {cs : List Value} (h : VC X (.str s) cs) : cs = [.string (bstr s)] := by obtain ⟨c, rfl, h⟩ := h; rw [show c = .string (bstr s) from h]
theorem VCs_nil_inv {cs : List Value} (h : VCs X [] cs) : cs = [] := by simpa only [VCs] using h

theorem getD_set_self {α : Type} {xs : List α} {i : Nat} {a d : α} (h : i < xs.length) : (xs.set i a).getD i d = a := by simp [List.getD, h]
theorem getD_set_other {α : Type} {xs : List α} {i j : Nat} {a d : α} (h : j ≠ i) : (xs.set i a).getD j d = xs.getD j d := by simp [List.getD, List.getElem?_set, Ne.symm h]

theorem set_cell {l l' : Lst} {i : Nat} {v : AV} {us : List Value} (h : l.set i v = some l') (hi : i < l.len) (hv : VC X v us) :
    l'.len = l.len ∧ l'.kind = l.kind ∧ us = l'.cell i ∧ ∀ j, j ≠ i → l'.cell j = l.cell j := by
  unfold Lst.set at h
  split at h
  · split at h
    · rename_i e; subst e; cases h
      rw [VC_int_inv hv]
      exact ⟨by simp [Lst.len], rfl, by simp only [Lst.cell]; rw [getD_set_self hi], fun j hj => by simp only [Lst.cell]; rw [getD_set_other hj]⟩
    · cases h
  · cases h
    rw [VC_bool_inv hv]
    exact ⟨by simp [Lst.len], rfl, by simp only [Lst.cell]; rw [getD_set_self hi], fun j hj => by simp only [Lst.cell]; rw [getD_set_other hj]⟩
  · cases h
    rw [VC_str_inv hv]
    exact ⟨by simp [Lst.len], rfl, by simp only [Lst.cell]; rw [getD_set_self hi], fun j hj => by simp only [Lst.cell]; rw [getD_set_other hj]⟩
  · cases h
    obtain ⟨a, r, rfl, h1, h2⟩ := VCs_cons_inv (by simpa only [VC] using hv)
    obtain ⟨b, r, rfl, h3, h4⟩ := VCs_cons_inv h2
    obtain ⟨c, r, rfl, h5, h6⟩ := VCs_cons_inv h4
    rw [VC_int_inv h1, VC_int_inv h3, VC_bool_inv h5, VCs_nil_inv h6]
    exact ⟨by simp [Lst.len], rfl, by simp only [Lst.cell]; rw [getD_set_self hi]; rfl, fun j hj => by simp only [Lst.cell]; rw [getD_set_other hj]⟩
  · cases h
    obtain ⟨a, r, rfl, h1, h2⟩ := VCs_cons_inv (by simpa only [VC] using hv)
    obtain ⟨b, r, rfl, h3, h4⟩ := VCs_cons_inv h2
    obtain ⟨c, r, rfl, h5, h6⟩ := VCs_cons_inv h4
    rw [VC_int_inv h1, VC_int_inv h3, VC_int_inv h5, VCs_nil_inv h6]
    exact ⟨by simp [Lst.len], rfl, by simp only [Lst.cell]; rw [getD_set_self hi]; rfl, fun j hj => by simp only [Lst.cell]; rw [getD_set_other hj]⟩
  · cases h
    obtain ⟨a, r, rfl, h1, h2⟩ := VCs_cons_inv (by simpa only [VC] using hv)
    obtain ⟨b, r, rfl, h3, h4⟩ := VCs_cons_inv h2
    obtain ⟨c, r, rfl, h5, h6⟩ := VCs_cons_inv h4
    obtain ⟨d, r, rfl, h7, h8⟩ := VCs_cons_inv h6
    rw [VC_int_inv h1, VC_str_inv h3, VC_str_inv h5, VC_int_inv h7, VCs_nil_inv h8]
    exact ⟨by simp [Lst.len], rfl, by simp only [Lst.cell]; rw [getD_set_self hi]; rfl, fun j hj => by simp only [Lst.cell]; rw [getD_set_other hj]⟩
  · cases h
    obtain ⟨a, r, rfl, h1, h2⟩ := VCs_cons_inv (by simpa only [VC] using hv)
    obtain ⟨b, r, rfl, h3, h4⟩ := VCs_cons_inv h2
    rw [VC_str_inv h1, VC_str_inv h3, VCs_nil_inv h4]
    exact ⟨by simp [Lst.len], rfl, by simp only [Lst.cell]; rw [getD_set_self hi]; rfl, fun j hj => by simp only [Lst.cell]; rw [getD_set_other hj]⟩
  · cases h
    obtain ⟨a, r, rfl, h1, h2⟩ := VCs_cons_inv (by simpa only [VC] using hv)
    obtain ⟨b, r, rfl, h3, h4⟩ := VCs_cons_inv h2
    rw [VC_int_inv h1, VC_int_inv h3, VCs_nil_inv h4]
    exact ⟨by simp [Lst.len], rfl, by simp only [Lst.cell]; rw [getD_set_self hi]; rfl, fun j hj => by simp only [Lst.cell]; rw [getD_set_other hj]⟩
  · cases h

/-- two rows whose cells agree but at one place -/
theorem flat_other {l l' : Lst} {i : Nat} (hl : l'.len = l.len) (hk : l'.kind = l.kind) (hi : i < l.len) (hc : ∀ j, j ≠ i → l'.cell j = l.cell j) {a r : List Value} (hf : l.flat = a ++ (l.cell i ++ r)) (ha : a.length = i * l.kind.size) :
    l'.flat = a ++ (l'.cell i ++ r) := by
  obtain ⟨a', r', hf', ha'⟩ := flat_split l' (i := i) (by omega)
  have get : ∀ q m, q < l.len → m < l.kind.size → q ≠ i → l'.flat[q * l.kind.size + m]? = l.flat[q * l.kind.size + m]? := by
    intro q m hq hm hne
    have h1 := l'.flat_get (i := q) (j := m) (by omega) (by rw [hk]; exact hm)
    have h2 := l.flat_get hq hm
    rw [hk] at h1
    rw [h1, h2, hc q hne]
  have hs := l.kind.size_pos
  have get2 : ∀ p, p < l.len * l.kind.size → p / l.kind.size ≠ i → l'.flat[p]? = l.flat[p]? := by
    intro p hp hne
    have hq : p / l.kind.size < l.len := Nat.div_lt_of_lt_mul (by rwa [Nat.mul_comm])
    have := get (p / l.kind.size) (p % l.kind.size) hq (Nat.mod_lt _ hs) hne
    rwa [Nat.div_add_mod' ] at this
  have len1 := l.flat_length
  have len2 := l'.flat_length
  rw [hl, hk] at len2
  have hle : i * l.kind.size + l.kind.size ≤ l.len * l.kind.size := by rw [← Nat.succ_mul]; exact Nat.mul_le_mul_right _ hi
  have cl1 := l.cell_length i
  have cl2 := l'.cell_length i
  rw [hk] at cl2 ha'
  rw [hf]  at len1
  rw [hf'] at len2
  simp only [List.length_append, ha, ha', cl1, cl2] at len1 len2
  have ea : a' = a := by
    apply List.ext_getElem?
    intro p
    by_cases hp : p < i * l.kind.size
    · have h1 : l'.flat[p]? = a'[p]? := by rw [hf', List.getElem?_append_left (by omega)]
      have h2 : l.flat[p]? = a[p]? := by rw [hf, List.getElem?_append_left (by omega)]
      rw [← h1, ← h2]
      refine get2 p (by omega) ?_
      have : p / l.kind.size < i := Nat.div_lt_of_lt_mul (by rwa [Nat.mul_comm])
      omega
    · rw [List.getElem?_eq_none (by omega), List.getElem?_eq_none (by omega)]
  have er : r' = r := by
    apply List.ext_getElem?
    intro p
    by_cases hp : p < r.length
    · have h1 : l'.flat[i * l.kind.size + (l.kind.size + p)]? = r'[p]? := by
        rw [hf', List.getElem?_append_right (by omega), List.getElem?_append_right (by omega), ha', cl2]
        congr 1; omega
      have h2 : l.flat[i * l.kind.size + (l.kind.size + p)]? = r[p]? := by
        rw [hf, List.getElem?_append_right (by omega), List.getElem?_append_right (by omega), ha, cl1]
        congr 1; omega
      rw [← h1, ← h2]
      refine get2 _ (by omega) ?_
      have : i + 1 ≤ (i * l.kind.size + (l.kind.size + p)) / l.kind.size := by
        rw [Nat.le_div_iff_mul_le hs, Nat.succ_mul]; omega
      omega
    · rw [List.getElem?_eq_none (by omega), List.getElem?_eq_none (by omega)]
  rw [hf', ea, er]

theorem set_flat {l l' : Lst} {i : Nat} {v : AV} {us : List Value} (h : l.set i v = some l') (hi : i < l.len) (hv : VC X v us) :
    l'.len = l.len ∧ l'.kind = l.kind ∧ ∃ a r, l.flat = a ++ (l.cell i ++ r) ∧ a.length = i * l.kind.size ∧ l'.flat = a ++ (us ++ r) ∧ us.length = l.kind.size := by
  obtain ⟨h1, h2, h3, h4⟩ := set_cell h hi hv
  obtain ⟨a, r, hf, ha⟩ := flat_split l hi
  refine ⟨h1, h2, a, r, hf, ha, ?_, ?_⟩
  · rw [h3]; exact flat_other h1 h2 hi h4 hf ha
  · rw [h3, l'.cell_length, h2]

theorem set_solid {l l' : Lst} {i : Nat} {v : AV} (h : l.set i v = some l') : v.solid = true := by
  unfold Lst.set at h
  split at h <;> first | rfl | cases h

theorem fillLst_sound {place : Nat → Option (Nat × Nat)} {ps : List (Nat × AV)} {cps : List (Nat × Value)} (hp : Parts X ps cps) : ∀ {l l' : Lst} {cells : Array Value}, fillLst l ps = some l' → cells.toList = l.flat →
    (∀ i, i < l.len → place i = some (i * l.kind.size, l.kind.size)) → ∃ out, Instr.fill place cells cps = some out ∧ out.toList = l'.flat := by
  induction hp with
  | nil => intro l l' cells h hv _; simp only [fillLst, Option.some.injEq] at h; subst h; exact ⟨cells, rfl, hv⟩
  | cons i v c r s hvc hr ih =>
    intro l l' cells h hv hpl
    simp only [fillLst] at h
    split at h
    · rename_i h1
      split at h
      · rename_i l1 hl1
        have hcv := VV_top_cells (set_solid hl1) hvc
        obtain ⟨e1, e2, a, b, hf, ha, hf', hlen⟩ := set_flat hl1 h1 hcv
        have hsz : a.length + c.cells.size ≤ cells.size := by
          rw [← Array.length_toList (xs := cells), hv, hf]; simp only [List.length_append, Lst.cell_length, ← hlen, Array.length_toList]; omega
        have hff := fold_set a.length c.cells.toList 0 cells (by simpa using hsz)
        have hout : ((c.cells.toList.zipIdx 0).foldl (fun (cs : Array Value) (x : Value × Nat) => cs.setIfInBounds (a.length + x.2) x.1) cells).toList = a ++ (c.cells.toList ++ b) := by
          rw [hff, hv, hf]
          simp only [Nat.add_zero, List.take_left']
          congr 2
          have e : c.cells.toList.length = (l.cell i).length := by rw [hlen, Lst.cell_length]
          rw [e, ← List.drop_drop, List.drop_left', List.drop_left'] <;> rfl
        obtain ⟨out, ho, hvo⟩ := ih (l := l1) h (cells := (c.cells.zipIdx.foldl (fun (cs : Array Value) (x : Value × Nat) => cs.setIfInBounds (a.length + x.2) x.1) cells)) (by
          have e : (c.cells.zipIdx.foldl (fun (cs : Array Value) (x : Value × Nat) => cs.setIfInBounds (a.length + x.2) x.1) cells) = ((c.cells.toList.zipIdx 0).foldl (fun (cs : Array Value) (x : Value × Nat) => cs.setIfInBounds (a.length + x.2) x.1) cells) := by
            rw [← Array.foldl_toList]; simp
          rw [e, hout, hf']) (by
          intro j hj
          rw [e2]; exact hpl j (by omega))
        refine ⟨out, ?_, hvo⟩
        have c1 : ¬ (c.cells.size ≠ l.kind.size) := by rw [← hlen]; simp
        have c2 : ¬ (a.length + c.cells.size > cells.size) := by omega
        unfold Instr.fill
        simp only [hpl i h1, ← ha, c1, c2, decide_false, Bool.or_self, if_false, Bool.false_eq_true]
        exact ho
      · cases h
    · cases h

theorem run_mapM {α β : Type} {f : α → Sem β} {g : α → β} (w : World) : ∀ (l : List α), (∀ a ∈ l, (f a).run P w = .ok (g a) w) → (l.mapM f).run P w = .ok (l.map g) w
  | [], _ => by simp
  | a :: l, h => by
    rw [List.mapM_cons]
    simp only [Sem.run_bind, h a (by simp), Result.andThen_ok, run_mapM w l (fun b hb => h b (by simp [hb])), Sem.run_pure, List.map_cons]

mutual
theorem zero_size : ∀ (d : TyD), d.zero.size = d.size
  | .strct fs => by simp only [TyD.zero, AV.size, TyD.size, zeros_size fs]
  | .arr n e => by simp only [TyD.zero, AV.size, TyD.size, zeros_len, zeros_kind]
  | .int _ | .bool | .str | .slice _ | .ptr | .map _ | .func | .iface | .tup _ | .other => rfl
theorem zeros_size : ∀ (ds : List TyD), AV.sizes (TyD.zeros ds) = TyD.sizes ds
  | [] => rfl
  | d :: ds => by simp only [TyD.zeros, AV.sizes, TyD.sizes, zero_size d, zeros_size ds]
end

theorem zeros_take : ∀ (ds : List TyD) (i : Nat), (TyD.zeros ds).take i = TyD.zeros (ds.take i)
  | [], i => by simp [TyD.zeros]
  | d :: ds, 0 => by simp [TyD.zeros]
  | d :: ds, i + 1 => by simp [TyD.zeros, zeros_take ds i]

theorem zeros_length : ∀ (ds : List TyD), (TyD.zeros ds).length = ds.length
  | [] => rfl
  | d :: ds => by simp [TyD.zeros, zeros_length ds]

theorem zeros_get : ∀ (ds : List TyD) (i : Nat), i < ds.length → (TyD.zeros ds).getD i .top = (ds.getD i .other).zero
  | [], i, h => by simp at h
  | d :: ds, 0, h => rfl
  | d :: ds, i + 1, h => by
    have := zeros_get ds i (by simpa using h)
    simpa [TyD.zeros, List.getD] using this

theorem build_sound {T : TypeId} {d : TyD} {ps : List (Nat × AV)} {cps : Array (Nat × Value)} {S : Prop} {v : AV} {news : List AObj} (hT : tyB P d T = true) (hp : Parts X ps cps.toList)
    (h : buildD d ps = some (S, v, news)) (hS : S) : news = [] ∧ Pure P (Instr.build T cps) X v := by
  unfold buildD at h
  split at h
  · rename_i fs
    cases hf : fillAgg (TyD.zeros fs) ps with
    | none => simp [hf, someD] at h
    | some us =>
      simp only [hf, someD] at h
      obtain ⟨rfl, rfl, rfl⟩ := pD_inv h
      obtain ⟨z, hz, hzv⟩ := run_zero hT rfl X.w
      obtain ⟨_, _, fields, hu, hfs⟩ := ty_strct hT
      obtain ⟨hlen, hat⟩ := fields_at hfs
      have hzv := hzv X
      simp only [TyD.zero, VC] at hzv
      let g : Field → Nat × Nat := fun f => (f.offset, (P.info? f.type).elim 0 (·.size))
      have hm : (fields.mapM fun f => (do pure (f.offset, ← Go.sizeOf f.type) : Sem (Nat × Nat))).run P X.w = .ok (fields.toList.map g).toArray X.w := by
        rw [Array.mapM_eq_mapM_toList]
        have := run_mapM (P := P) (f := fun f : Field => (do pure (f.offset, ← Go.sizeOf f.type) : Sem (Nat × Nat))) (g := g) X.w fields.toList (fun f hf => by
          obtain ⟨i, hi⟩ := List.getElem?_of_mem hf
          have hil : i < fs.length := by rw [← hlen]; exact (List.getElem?_eq_some_iff.1 hi).1
          obtain ⟨f', h1, _, _, ⟨inf, h4, h5⟩, _⟩ := hat i fs[i] (by simp [hil])
          rw [hi] at h1; cases h1
          simp [Go.sizeOf, typeInfo, h4, g])
        simp only [Sem.run_map, this, Result.andThen_ok]
      obtain ⟨out, ho, hov⟩ := fillAgg_sound (place := fun i => (fields.toList.map g).toArray[i]?) hp hf hzv (fun i hi => by
        rw [zeros_length] at hi
        obtain ⟨f', h1, h2, _, ⟨inf, h4, h5⟩, _⟩ := hat i (fs.getD i .other) (by simp [List.getD, hi])
        rw [zeros_take, zeros_size, zeros_get fs i hi, zero_size]
        have h1' : fields[i]? = some f' := by simpa using h1
        simp [h1', g, h2, h4, h5])
      refine ⟨rfl, .agg out, ?_, out, rfl, hov⟩
      simp only [Instr.build, Sem.run_bind, hz, Result.andThen_ok, run_underlying hu, hm, ho, Sem.run_pure]
  · rename_i n e
    cases hf : fillLst (e.zeros n) ps with
    | none => simp [hf, someD] at h
    | some l =>
      simp only [hf, someD] at h
      obtain ⟨rfl, rfl, rfl⟩ := pD_inv h
      obtain ⟨z, hz, hzv⟩ := run_zero hT rfl X.w
      obtain ⟨E, hu, he⟩ := ty_arr hT
      have hzv := hzv X
      simp only [TyD.zero, VC] at hzv
      obtain ⟨out, ho, hov⟩ := fillLst_sound (place := fun i => some (i * e.size, e.size)) hp hf hzv (fun i hi => by rw [zeros_kind])
      refine ⟨rfl, .agg out, ?_, out, rfl, hov⟩
      simp only [Instr.build, Sem.run_bind, hz, Result.andThen_ok, run_underlying hu, el_size he, ho, Sem.run_pure]
  · cases h
end
end Lam
