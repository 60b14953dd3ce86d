/- What functions of the program come to, each proved from its code. -/
import Derived.Test.YtmbmfnmjjelmkabGreatLm1
import Derived.Laws.MakeOwn
import Derived.TacticsIn
import Derived.Laws.Cover3
set_option linter.unusedVariables false
set_option linter.unusedSimpArgs false
set_option linter.unnecessarySimpa false
set_option linter.unusedSectionVars false
open Nat (reduceEqDiff reduceAdd reduceSub reduceLeDiff)
open Int (reduceToNat reduceEq reduceLE reduceLT)
open List (reduceReplicate)
set_option maxRecDepth 20000
namespace Lam
open Go

section
variable {P : Program} {X : Cx}

theorem gQ {v : AV} {r : List AV} {cs : List Value} (h : VCs X (v :: r) cs) : ∃ a b, cs = a ++ b ∧ VC X v a ∧ VCs X r b := by simpa only [VCs] using h
theorem jT {k : IntKind} {n : Int} {cs : List Value} (h : VC X (.int k n) cs) : cs = [.int k n] := by obtain ⟨c, rfl, h⟩ := h; rw [show c = .int k n from h]
theorem aAJ {b : Bool} {cs : List Value} (h : VC X (.bool b) cs) : cs = [.bool b] := by obtain ⟨c, rfl, h⟩ := h; rw [show c = .bool b from h]
theorem pY {s : bF} {cs : List Value} (h : VC X (.str s) cs) : cs = [.string (bstr s)] := by obtain ⟨c, rfl, h⟩ := h; rw [show c = .string (bstr s) from h]
theorem oI {cs : List Value} (h : VCs X [] cs) : cs = [] := by simpa only [VCs] using h

theorem iG {α : Type} {xs : List α} {i : Nat} {a d : α} (h : i < xs.length) : (xs.set i a).getD i d = a := by simp [List.getD, h]
theorem gY {α : Type} {xs : List α} {i j : Nat} {a d : α} (h : j ≠ i) : (xs.set i a).getD j d = xs.getD j d := by simp [List.getD, List.getElem?_set, Ne.symm h]

theorem aKw {l l' : Lst} {i : Nat} {v : AV} {us : List Value} (hp : l.plain = true) (h : l.set i v = some l') (hi : i < l.len) (hv : VC X v us) :
    l'.plain = true ∧ l'.len = l.len ∧ l'.kind = l.kind ∧ us = l'.cell i ∧ ∀ j, j ≠ i → l'.cell j = l.cell j := by
  unfold Lst.set at h
  split at h
  · split at h
    · rename_i e; subst e; cases h
      rw [jT hv]
      exact ⟨rfl, by simp [Lst.len], rfl, by simp only [Lst.cell]; rw [iG hi], fun j hj => by simp only [Lst.cell]; rw [gY hj]⟩
    · cases h
  · cases h
    rw [aAJ hv]
    exact ⟨rfl, by simp [Lst.len], rfl, by simp only [Lst.cell]; rw [iG hi], fun j hj => by simp only [Lst.cell]; rw [gY hj]⟩
  · cases h
    rw [pY hv]
    exact ⟨rfl, by simp [Lst.len], rfl, by simp only [Lst.cell]; rw [iG hi], fun j hj => by simp only [Lst.cell]; rw [gY hj]⟩
  · cases h
    obtain ⟨a, r, rfl, h1, h2⟩ := gQ (by simpa only [VC] using hv)
    obtain ⟨b, r, rfl, h3, h4⟩ := gQ h2
    obtain ⟨c, r, rfl, h5, h6⟩ := gQ h4
    rw [jT h1, jT h3, aAJ h5, oI h6]
    exact ⟨rfl, by simp [Lst.len], rfl, by simp only [Lst.cell]; rw [iG hi]; rfl, fun j hj => by simp only [Lst.cell]; rw [gY hj]⟩
  · cases h
    obtain ⟨a, r, rfl, h1, h2⟩ := gQ (by simpa only [VC] using hv)
    obtain ⟨b, r, rfl, h3, h4⟩ := gQ h2
    obtain ⟨c, r, rfl, h5, h6⟩ := gQ h4
    rw [jT h1, jT h3, jT h5, oI h6]
    exact ⟨rfl, by simp [Lst.len], rfl, by simp only [Lst.cell]; rw [iG hi]; rfl, fun j hj => by simp only [Lst.cell]; rw [gY hj]⟩
  · cases h
    obtain ⟨a, r, rfl, h1, h2⟩ := gQ (by simpa only [VC] using hv)
    obtain ⟨b, r, rfl, h3, h4⟩ := gQ h2
    obtain ⟨c, r, rfl, h5, h6⟩ := gQ h4
    obtain ⟨d, r, rfl, h7, h8⟩ := gQ h6
    rw [jT h1, pY h3, pY h5, jT h7, oI h8]
    exact ⟨rfl, by simp [Lst.len], rfl, by simp only [Lst.cell]; rw [iG hi]; rfl, fun j hj => by simp only [Lst.cell]; rw [gY hj]⟩
  · cases h
    obtain ⟨a, r, rfl, h1, h2⟩ := gQ (by simpa only [VC] using hv)
    obtain ⟨b, r, rfl, h3, h4⟩ := gQ h2
    rw [pY h1, pY h3, oI h4]
    exact ⟨rfl, by simp [Lst.len], rfl, by simp only [Lst.cell]; rw [iG hi]; rfl, fun j hj => by simp only [Lst.cell]; rw [gY hj]⟩
  · cases h
    obtain ⟨a, r, rfl, h1, h2⟩ := gQ (by simpa only [VC] using hv)
    obtain ⟨b, r, rfl, h3, h4⟩ := gQ h2
    rw [jT h1, jT h3, oI h4]
    exact ⟨rfl, by simp [Lst.len], rfl, by simp only [Lst.cell]; rw [iG hi]; rfl, fun j hj => by simp only [Lst.cell]; rw [gY hj]⟩
  · cases h
    rename_i f
    obtain ⟨a, d, rfl, h1, h2⟩ := hv
    have ea : a = #[] := Array.toList_inj.1 (by simpa only [VVs] using h1)
    have ed : d = #[] := Array.toList_inj.1 (by simpa only [VVs] using h2)
    subst ea ed
    exact ⟨rfl, by simp [Lst.len], rfl, by simp only [Lst.cell]; rw [iG hi]; rfl, fun j hj => by simp only [Lst.cell]; rw [gY hj]⟩
  · cases h
    obtain ⟨c, rfl, h1⟩ := hv
    rw [show c = .nilFunc from h1]
    exact ⟨rfl, by simp [Lst.len], rfl, by simp only [Lst.cell]; rw [iG hi]; rfl, fun j hj => by simp only [Lst.cell]; rw [gY hj]⟩
  · cases hp
  · cases h

theorem aHJ {l l' : Lst} {i : Nat} (hl : l'.len = l.len) (hk : l'.kind = l.kind) (hi : i < l.len) (hc : ∀ j, j ≠ i → l'.cell j = l.cell j) {a r : List Value} (hf : l.flat = a ++ (l.cell i ++ r)) (ha : a.length = i * l.kind.size) :
    l'.flat = a ++ (l'.cell i ++ r) := by
  obtain ⟨a', r', hf', ha'⟩ := pU l' (i := i) (by omega)
  have get : ∀ q m, q < l.len → m < l.kind.size → q ≠ i → l'.flat[q * l.kind.size + m]? = l.flat[q * l.kind.size + m]? := by
    intro q m hq hm hne
    have h1 := l'.flat_get (i := q) (j := m) (by omega) (by rw [hk]; exact hm)
    have h2 := l.flat_get hq hm
    rw [hk] at h1
    rw [h1, h2, hc q hne]
  have hs := l.kind.size_pos
  have get2 : ∀ p, p < l.len * l.kind.size → p / l.kind.size ≠ i → l'.flat[p]? = l.flat[p]? := by
    intro p hp hne
    have hq : p / l.kind.size < l.len := Nat.div_lt_of_lt_mul (by rwa [Nat.mul_comm])
    have := get (p / l.kind.size) (p % l.kind.size) hq (Nat.mod_lt _ hs) hne
    rwa [Nat.div_add_mod' ] at this
  have len1 := l.flat_length
  have len2 := l'.flat_length
  rw [hl, hk] at len2
  have hle : i * l.kind.size + l.kind.size ≤ l.len * l.kind.size := by rw [← Nat.succ_mul]; exact Nat.mul_le_mul_right _ hi
  have cl1 := l.cell_length i
  have cl2 := l'.cell_length i
  rw [hk] at cl2 ha'
  rw [hf]  at len1
  rw [hf'] at len2
  simp only [List.length_append, ha, ha', cl1, cl2] at len1 len2
  have ea : a' = a := by
    apply List.ext_getElem?
    intro p
    by_cases hp : p < i * l.kind.size
    · have h1 : l'.flat[p]? = a'[p]? := by rw [hf', List.getElem?_append_left (by omega)]
      have h2 : l.flat[p]? = a[p]? := by rw [hf, List.getElem?_append_left (by omega)]
      rw [← h1, ← h2]
      refine get2 p (by omega) ?_
      have : p / l.kind.size < i := Nat.div_lt_of_lt_mul (by rwa [Nat.mul_comm])
      omega
    · rw [List.getElem?_eq_none (by omega), List.getElem?_eq_none (by omega)]
  have er : r' = r := by
    apply List.ext_getElem?
    intro p
    by_cases hp : p < r.length
    · have h1 : l'.flat[i * l.kind.size + (l.kind.size + p)]? = r'[p]? := by
        rw [hf', List.getElem?_append_right (by omega), List.getElem?_append_right (by omega), ha', cl2]
        congr 1; omega
      have h2 : l.flat[i * l.kind.size + (l.kind.size + p)]? = r[p]? := by
        rw [hf, List.getElem?_append_right (by omega), List.getElem?_append_right (by omega), ha, cl1]
        congr 1; omega
      rw [← h1, ← h2]
      refine get2 _ (by omega) ?_
      have : i + 1 ≤ (i * l.kind.size + (l.kind.size + p)) / l.kind.size := by
        rw [Nat.le_div_iff_mul_le hs, Nat.succ_mul]; omega
      omega
    · rw [List.getElem?_eq_none (by omega), List.getElem?_eq_none (by omega)]
  rw [hf', ea, er]

theorem aJi {l l' : Lst} {i : Nat} {v : AV} {us cs : List Value} (h : l.set i v = some l') (hi : i < l.len) (hv : VC X v us) (hc : LR X l cs) :
    l'.len = l.len ∧ l'.kind = l.kind ∧ ∃ a u r, cs = a ++ (u ++ r) ∧ a.length = i * l.kind.size ∧ u.length = l.kind.size ∧ us.length = l.kind.size ∧ LR X l' (a ++ (us ++ r)) := by
  cases hp : l.plain with
  | true =>
    obtain ⟨h0, h1, h2, h3, h4⟩ := aKw hp h hi hv
    obtain ⟨a, r, hf, ha⟩ := pU l hi
    refine ⟨h1, h2, a, l.cell i, r, ((iY hp).1 hc).trans hf, ha, l.cell_length i, ?_, uD h0 ?_⟩
    · rw [h3, l'.cell_length, h2]
    · rw [h3]; exact (aHJ h1 h2 hi h4 hf ha).symm
  | false =>
    cases l <;> simp only [Lst.plain, Bool.true_eq_false] at hp
    rename_i k xs
    simp only [Lst.set] at h
    split at h
    rotate_left
    · cases h
    rename_i he
    cases h
    obtain ⟨e1, e2, e3⟩ := he
    obtain ⟨h1, h2⟩ := jQ.1 hc
    obtain ⟨a, b, rfl, h3, h4⟩ := uF i h2
    have hi : i < xs.length := hi
    rw [List.drop_eq_getElem_cons hi] at h4
    simp only [ECs] at h4
    obtain ⟨u, r, rfl, h5, h6⟩ := h4
    have hx := aHB e1 (aGV hv)
    refine ⟨by simp [Lst.len], rfl, a, u, r, rfl, ?_, ?_, ?_, jQ.2 ⟨fun w hw => ?_, ?_⟩⟩
    · rw [vR h3, uE fun v hv => (h1 v (List.mem_of_mem_take hv)).1, List.length_take, Nat.min_eq_left (Nat.le_of_lt hi)]; rfl
    · rw [pT h5]; exact (h1 _ (List.getElem_mem hi)).1
    · rw [pT hx]; exact e2
    · rcases List.mem_or_eq_of_mem_set hw with hw | rfl
      · exact h1 w hw
      · exact ⟨e2, e3⟩
    · rw [List.set_eq_take_append_cons_drop, if_pos hi]
      refine sM h3 ?_
      simp only [ECs]
      exact ⟨us, r, rfl, hx, h6⟩

theorem aKx {l l' : Lst} {i : Nat} {v : AV} {us a u r : List Value} (h : l.set i v = some l') (hi : i < l.len) (hv : VC X v us) (hc : LR X l (a ++ (u ++ r))) (ha : a.length = i * l.kind.size) (hu : u.length = l.kind.size) :
    l'.len = l.len ∧ l'.kind = l.kind ∧ us.length = l.kind.size ∧ LR X l' (a ++ (us ++ r)) := by
  obtain ⟨h1, h2, a2, u2, r2, e, h3, h4, h5, h6⟩ := aJi h hi hv hc
  obtain ⟨q1, q2⟩ := List.append_inj e (by rw [ha, h3])
  obtain ⟨q3, q4⟩ := List.append_inj q2 (by rw [hu, h4])
  subst q1 q4
  exact ⟨h1, h2, h5, h6⟩

theorem aHK {v : AV} (h : v.dull.elem = true) : v.solid = true := by
  cases v <;> first | rfl | cases h

theorem aJj {l l' : Lst} {i : Nat} {v : AV} (h : l.set i v = some l') : v.solid = true := by
  unfold Lst.set at h
  split at h <;> first | rfl | cases h | skip
  split at h
  · rename_i e; exact aHK e.1
  · cases h

theorem xX {eA : Nat → Option (Nat × Nat)} {ps : List (Nat × AV)} {cps : List (Nat × Value)} (hp : sP X ps cps) : ∀ {l l' : Lst} {cells : Array Value}, iZ l ps = some l' → LR X l cells.toList →
    (∀ i, i < l.len → eA i = some (i * l.kind.size, l.kind.size)) → ∃ out, Instr.fill eA cells cps = some out ∧ LR X l' out.toList := by
  induction hp with
  | nil => intro l l' cells h hv _; simp only [iZ, Option.some.injEq] at h; subst h; exact ⟨cells, rfl, hv⟩
  | cons i v c r s hvc hr ih =>
    intro l l' cells h hv hpl
    simp only [iZ] at h
    split at h
    · rename_i h1
      split at h
      · rename_i l1 hl1
        have hcv := nI (aJj hl1) hvc
        obtain ⟨e1, e2, a, u, b, hf, ha, hu, hlen, hf'⟩ := aJi hl1 h1 hcv hv
        have hsz : a.length + c.cells.size ≤ cells.size := by
          rw [← Array.length_toList (xs := cells), hf]; simp only [List.length_append, hu, ← hlen, Array.length_toList]; omega
        have hff := aBh a.length c.cells.toList 0 cells (by simpa using hsz)
        have hout : ((c.cells.toList.zipIdx 0).foldl (fun (cs : Array Value) (x : Value × Nat) => cs.setIfInBounds (a.length + x.2) x.1) cells).toList = a ++ (c.cells.toList ++ b) := by
          rw [hff, hf]
          simp only [Nat.add_zero, List.take_left']
          congr 2
          have e : c.cells.toList.length = u.length := by rw [hlen, hu]
          rw [e, ← List.drop_drop, List.drop_left', List.drop_left'] <;> rfl
        obtain ⟨out, ho, hvo⟩ := ih (l := l1) h (cells := (c.cells.zipIdx.foldl (fun (cs : Array Value) (x : Value × Nat) => cs.setIfInBounds (a.length + x.2) x.1) cells)) (by
          have e : (c.cells.zipIdx.foldl (fun (cs : Array Value) (x : Value × Nat) => cs.setIfInBounds (a.length + x.2) x.1) cells) = ((c.cells.toList.zipIdx 0).foldl (fun (cs : Array Value) (x : Value × Nat) => cs.setIfInBounds (a.length + x.2) x.1) cells) := by
            rw [← Array.foldl_toList]; simp
          rw [e, hout]; exact hf') (by
          intro j hj
          rw [e2]; exact hpl j (by omega))
        refine ⟨out, ?_, hvo⟩
        have c1 : ¬ (c.cells.size ≠ l.kind.size) := by rw [← hlen]; simp
        have c2 : ¬ (a.length + c.cells.size > cells.size) := by omega
        unfold Instr.fill
        simp only [hpl i h1, ← ha, c1, c2, decide_false, Bool.or_self, if_false, Bool.false_eq_true]
        exact ho
      · cases h
    · cases h

theorem aFa {α β : Type} {f : α → Sem β} {g : α → β} (w : World) : ∀ (l : List α), (∀ a ∈ l, (f a).run P w = .ok (g a) w) → (l.mapM f).run P w = .ok (l.map g) w
  | [], _ => by simp
  | a :: l, h => by
    rw [List.mapM_cons]
    simp only [Sem.run_bind, h a (by simp), Result.andThen_ok, aFa w l (fun b hb => h b (by simp [hb])), Sem.run_pure, List.map_cons]

mutual
theorem zero_size : ∀ (d : TyD), d.zero.size = d.size
  | .strct fs => by simp only [TyD.zero, AV.size, TyD.size, xD fs]
  | .arr n e => by simp only [TyD.zero, AV.size, TyD.size, iO, kM]
  | .int _ | .bool | .str | .slice _ | .ptr | .map _ | .func | .iface | .tup _ | .other => rfl
theorem xD : ∀ (ds : List TyD), AV.sizes (TyD.zeros ds) = TyD.sizes ds
  | [] => rfl
  | d :: ds => by simp only [TyD.zeros, AV.sizes, TyD.sizes, zero_size d, xD ds]
end

theorem aBV : ∀ (ds : List TyD) (i : Nat), (TyD.zeros ds).take i = TyD.zeros (ds.take i)
  | [], i => by simp [TyD.zeros]
  | d :: ds, 0 => by simp [TyD.zeros]
  | d :: ds, i + 1 => by simp [TyD.zeros, aBV ds i]

theorem yS : ∀ (ds : List TyD), (TyD.zeros ds).length = ds.length
  | [] => rfl
  | d :: ds => by simp [TyD.zeros, yS ds]

theorem aDv : ∀ (ds : List TyD) (i : Nat), i < ds.length → (TyD.zeros ds).getD i .top = (ds.getD i .other).zero
  | [], i, h => by simp at h
  | d :: ds, 0, h => rfl
  | d :: ds, i + 1, h => by
    have := aDv ds i (by simpa using h)
    simpa [TyD.zeros, List.getD] using this

theorem aGf {T : TypeId} {d : TyD} {ps : List (Nat × AV)} {cps : Array (Nat × Value)} {S : Prop} {v : AV} {news : List AObj} (hT : tyB P d T = true) (hp : sP X ps cps.toList)
    (h : gC d ps = some (S, v, news)) (hS : S) : news = [] ∧ Pure P (Instr.build T cps) X v := by
  unfold gC at h
  split at h
  · rename_i fs
    cases hf : mU (TyD.zeros fs) ps with
    | none => simp [hf, eN] at h
    | some us =>
      simp only [hf, eN] at h
      obtain ⟨rfl, rfl, rfl⟩ := dP h
      obtain ⟨z, hz, hzv⟩ := aBf hT rfl X.w
      obtain ⟨_, _, fields, hu, hfs⟩ := pC hT
      obtain ⟨hlen, hat⟩ := uH hfs
      have hzv := hzv X
      simp only [TyD.zero, VC] at hzv
      let g : Field → Nat × Nat := fun f => (f.offset, (P.info? f.type).elim 0 (·.size))
      have hm : (fields.mapM fun f => (do pure (f.offset, ← Go.sizeOf f.type) : Sem (Nat × Nat))).run P X.w = .ok (fields.toList.map g).toArray X.w := by
        rw [Array.mapM_eq_mapM_toList]
        have := aFa (P := P) (f := fun f : Field => (do pure (f.offset, ← Go.sizeOf f.type) : Sem (Nat × Nat))) (g := g) X.w fields.toList (fun f hf => by
          obtain ⟨i, hi⟩ := List.getElem?_of_mem hf
          have hil : i < fs.length := by rw [← hlen]; exact (List.getElem?_eq_some_iff.1 hi).1
          obtain ⟨f', h1, _, _, ⟨inf, h4, h5⟩, _⟩ := hat i fs[i] (by simp [hil])
          rw [hi] at h1; cases h1
          simp [Go.sizeOf, typeInfo, h4, g])
        simp only [Sem.run_map, this, Result.andThen_ok]
      obtain ⟨out, ho, hov⟩ := aEn (eA := fun i => (fields.toList.map g).toArray[i]?) hp hf hzv (fun i hi => by
        rw [yS] at hi
        obtain ⟨f', h1, h2, _, ⟨inf, h4, h5⟩, _⟩ := hat i (fs.getD i .other) (by simp [List.getD, hi])
        rw [aBV, xD, aDv fs i hi, zero_size]
        have h1' : fields[i]? = some f' := by simpa using h1
        simp [h1', g, h2, h4, h5])
      refine ⟨rfl, .agg out, ?_, out, rfl, hov⟩
      simp only [Instr.build, Sem.run_bind, hz, Result.andThen_ok, run_underlying hu, hm, ho, Sem.run_pure]
  · rename_i n e
    cases hf : iZ (e.zeros n) ps with
    | none => simp [hf, eN] at h
    | some l =>
      simp only [hf, eN] at h
      obtain ⟨rfl, rfl, rfl⟩ := dP h
      obtain ⟨z, hz, hzv⟩ := aBf hT rfl X.w
      obtain ⟨E, hu, he⟩ := rQ hT
      have hzv := hzv X
      simp only [TyD.zero, VC] at hzv
      obtain ⟨out, ho, hov⟩ := xX (eA := fun i => some (i * e.size, e.size)) hp hf hzv (fun i hi => by rw [kM])
      refine ⟨rfl, .agg out, ?_, out, rfl, hov⟩
      simp only [Instr.build, Sem.run_bind, hz, Result.andThen_ok, run_underlying hu, mB he, ho, Sem.run_pure]
  · cases h
end
end Lam
namespace Lam
open Go

section
variable {P : Program} {X : Cx}

theorem aHe (H : HR X) {s : Nat} (hd : X.h[s]? = some .dead) : X.μ[s]? = some none := by
  obtain ⟨b, hb, h⟩ := H.obj _ _ hd
  have h : b = none := h
  subst h; exact hb

theorem aLN (H : HR X) {s : Nat} (hd : X.h[s]? = some .dead) (obj : AObj) (o : Obj) (w' : World) (hw : yM X.w w' o) :
    Upd X ⟨X.S, X.μ.set s (some X.w.heap.size), X.h.set s obj, w'⟩ s .dead obj none (some X.w.heap.size) where
  S := rfl
  hh := rfl
  mu := rfl
  ho := hd
  hb := aHe H hd
  heap k hk _ := by simp only [hw.1, Array.getElem?_push]; rw [if_neg (by omega)]
  grow := by simp [hw.1]
  blk := .inr ⟨_, rfl, Nat.le_refl _, by simp [hw.1]⟩
  env := hw.2
  own k hk := by cases hk
  row k ver l h := by cases h
  oth _ := .inl rfl

theorem aBi (H : HR X) {s : Nat} (hd : X.h[s]? = some .dead) {obj : AObj} {o : Obj} {w' : World} {v : AV} {c : Value} (hw : yM X.w w' o)
    (hO : ∀ Y : Cx, Y.w = w' → Ext X Y → w'.heap[X.w.heap.size]? = some o → OR Y (some X.w.heap.size) obj)
    (hV : ∀ Y : Cx, Y.w = w' → Y.μ[s]? = some (some X.w.heap.size) → Y.h[s]? = some obj → w'.heap[X.w.heap.size]? = some o → VV Y v c) : Good X (X.h.set s obj) v c w' := by
  have U := aLN H hd obj o w' hw
  have hnew : w'.heap[X.w.heap.size]? = some o := by rw [hw.1]; simp
  have hs : s < X.h.length := (List.getElem?_eq_some_iff.1 hd).1
  have hs2 : s < X.μ.length := by rw [H.len]; exact hs
  exact ⟨_, rfl, rfl, U.hr H fun E => hO _ rfl E hnew, U.ext H, hV _ rfl (by simp [hs2]) (by simp [hs]) hnew⟩

theorem aFb (H : HR X) {s : Nat} (hd : X.h[s]? = some .dead) {v : AV} {cs : Array Value} {T : TypeId} {w' : World} (hw : yM X.w w' (.cells cs T)) (hv : VC X v cs.toList) :
    Good X (X.h.set s (boxO v)) (.ptr s []) (.pointer (some ⟨X.w.heap.size, 0, none⟩)) w' := by
  refine aBi H hd hw (fun Y hY E hn => ?_) (fun Y hY hμ hh hn => ?_)
  · subst hY
    have hv' := hv.ext E
    cases v with
    | arr l => exact .inr ⟨_, cs, T, rfl, hn, ⟨_, [], (List.append_nil _).symm, by simpa only [VC] using hv'⟩, fun h => by cases h⟩
    | _ => exact ⟨_, cs, T, rfl, hn, hv'⟩
  · refine ⟨_, hμ, rfl, fun k ver l h => ?_⟩
    rw [hh] at h
    cases v <;> simp [boxO, rowO] at h
    rw [← h.1]; simp

theorem aGg (H : HR X) {T : TypeId} {d : TyD} {s : Nat} (hT : tyB P d T = true) (hd : X.h[s]? = some .dead) (hf : mZ d) :
    ∃ c w', (Instr.alloc T true (.tuple #[])).run P X.w = .ok c w' ∧ Good X (X.h.set s (boxO d.zero)) (.ptr s []) c w' := by
  have htold : d.told = true := by cases d <;> first | rfl | exact pH (v := (TyD.tup _).zero) hf | exact pH (v := TyD.other.zero) hf
  obtain ⟨z, hz, hzv⟩ := aBf hT htold X.w
  refine ⟨_, _, ?_, aFb H hd (w' := { X.w with heap := X.w.heap.push (.cells z.cells T) }) ⟨rfl, rfl, rfl, rfl⟩ (hzv X)⟩
  simp only [Instr.alloc, Sem.run_bind, hz, Result.andThen_ok, newVar, newRow, run_newObj, Sem.run_pure]

theorem aGh (H : HR X) {T : TypeId} {d : TyD} {s : Nat} {v : AV} {c0 : Value} (hd : X.h[s]? = some .dead) (hf : fitP d v) (hv : VV X v c0) :
    ∃ c w', (Instr.box T c0).run P X.w = .ok c w' ∧ Good X (X.h.set s (boxO v)) (.ptr s []) c w' := by
  refine ⟨_, _, ?_, aFb H hd (w' := { X.w with heap := X.w.heap.push (.cells c0.cells T) }) ⟨rfl, rfl, rfl, rfl⟩ (nI (xA hf) hv)⟩
  simp only [Instr.box, Sem.run_bind, Result.andThen_ok, newVar, newRow, run_newObj, Sem.run_pure]

theorem aFc (l : List Value) (n : Nat) : (List.replicate n l).flatten = (List.range n).flatMap fun _ => l := by
  rw [List.flatMap_def, List.map_const', List.length_range]

theorem uI {z : Array Value} {s : Nat} (hz : z.size = s) (hs : 0 < s) (n : Nat) : (madeCells z (n * s)).toList = (List.replicate n z.toList).flatten := by
  rw [aFc]
  have hl : ((List.range n).flatMap fun _ => z.toList).length = n * s := iJ _ s (fun _ => by simpa using hz) n
  apply List.ext_getElem?
  intro p
  by_cases hp : p < n * s
  · have hq : p / s < n := Nat.div_lt_of_lt_mul (by rwa [Nat.mul_comm])
    have hm : p % s < s := Nat.mod_lt _ hs
    have h1 := lX (fun _ => z.toList) s (fun _ => by simpa using hz) n (p / s) (p % s) hq hm
    rw [Nat.div_add_mod'] at h1
    rw [h1]
    have hlt : p % s < z.size := by omega
    have e1 : z[p % s]! = z[p % s] := getElem!_pos z _ hlt
    simp [madeCells, hp, hz, e1, hlt]
  · rw [List.getElem?_eq_none (by simp [madeCells]; omega), List.getElem?_eq_none (by omega)]

theorem aLO {e : LK} {z : Array Value} (h : EC X e.zero1 z.toList) (hz : z.size = e.size) (n : Nat) : LR X (e.zeros n) (madeCells z (n * e.size)).toList := by
  rw [uI hz e.size_pos]; exact wZ X h n

theorem pZ (e : LK) : e.zero1.size = e.size := by
  cases e <;> first | rfl | (rename_i k; exact k.zero_size)

theorem aBj (H : HR X) {s : Nat} (hd : X.h[s]? = some .dead) {l : Lst} {cs : Array Value} {r : List Value} {E : TypeId} {w' : World} {n cap : Nat} {x : Bool} (hw : yM X.w w' (.cells cs E)) {a : List Value} (hcs : cs.toList = a ++ r) (ha : LR X l a)
    (hn : n ≤ l.len) (hc : n ≤ cap) (hsz : cap * l.kind.size ≤ cs.size) (hx : x = true → cap = n) :
    Good X (X.h.set s (.row .own 0 l)) (.sref x s 0 0 n) (.slice (some ⟨X.w.heap.size, 0, none⟩) n cap) w' := by
  refine aBi H hd hw (fun Y hY E' hn' => ?_) (fun Y hY hμ hh hn' => ?_)
  · subst hY; exact .inr ⟨_, cs, E, rfl, hn', ⟨a, r, hcs, LR.ext E'.v ha⟩, fun h => by cases h⟩
  · subst hY
    refine ⟨_, _, _, rfl, .own, 0, l, by rw [hh]; rfl, Nat.le_refl _, fun _ => ⟨rfl, hc, by omega, hx, fun h => (by cases h), fun _ => ⟨_, hμ, by simp, ?_⟩⟩⟩
    simp only [dZ, hn', Nat.zero_add]; exact hsz

theorem aBW (H : HR X) {T : TypeId} {d : TyD} {s : Nat} {l c : AV} {cl cc : Value} {S : Prop} {v : AV} {news : List AObj} (hT : tyB P d T = true) (hd : X.h[s]? = some .dead) (hl : VV X l cl) (hc : VV X c cc)
    (h : jD d l c s = some (S, v, news)) (hS : S) : ∃ o r w', news = [o] ∧ (Instr.makeSlice T cl cc).run P X.w = .ok r w' ∧ Good X (X.h.set s o) v r w' := by
  unfold jD at h
  split at h
  · rename_i e n m
    simp only [Option.some.injEq, Prod.mk.injEq] at h
    obtain ⟨rfl, rfl, rfl⟩ := h
    obtain rfl : cl = .int .i64 n := hl
    obtain rfl : cc = .int .i64 m := hc
    obtain ⟨h0, h1, h2⟩ := hS
    unfold roomy at h2
    obtain ⟨E, hu, he⟩ := iM hT
    obtain ⟨i, z, hi, hs, hb, hz, hzc⟩ := (elOk he).info
    have hbytes : (i.bytes : Int) * m ≤ 281474976710656 := by
      have h3 : (i.bytes : Int) ≤ 1024 := by omega
      have h4 : m ≤ 68719476736 := by omega
      have h5 : (i.bytes : Int) * m ≤ 1024 * m := Int.mul_le_mul_of_nonneg_right h3 (by omega)
      omega
    have hr := run_make (P := P) X.w T E i z hu hi hz .i64 .i64 n m h0 h1 hbytes (by omega)
    refine ⟨_, _, _, rfl, hr, ?_⟩
    have hm : m.toNat = n.toNat + (m.toNat - n.toNat) := by omega
    have hzs : z.cells.size = e.size := by rw [← Array.length_toList, pT (hzc X), pZ]
    refine aBj H hd (a := (List.replicate n.toNat z.cells.toList).flatten) (cs := madeCells z.cells (m.toNat * i.size)) (r := (List.replicate (m.toNat - n.toNat) z.cells.toList).flatten) (E := E) ⟨rfl, rfl, rfl, rfl⟩ (by
      rw [hs, uI hzs e.size_pos]; conv => lhs; rw [hm]
      rw [← List.replicate_append_replicate, List.flatten_append]) (wZ X (hzc X) _) (by rw [iO]; exact Nat.le_refl _) (by omega) (by rw [size_madeCells, kM, hs]; exact Nat.le_refl _) (fun hx => ?_)
    simp at hx; omega
  · cases h

theorem aBk (H : HR X) {T : TypeId} {d : TyD} {s n : Nat} {ps : List (Nat × AV)} {cps : Array (Nat × Value)} {S : Prop} {v : AV} {news : List AObj} (hT : tyB P d T = true) (hd : X.h[s]? = some .dead)
    (hp : sP X ps cps.toList) (h : fD d n ps s = some (S, v, news)) (hS : S) : ∃ o r w', news = [o] ∧ (Instr.buildSlice T n cps).run P X.w = .ok r w' ∧ Good X (X.h.set s o) v r w' := by
  unfold fD at h
  split at h
  · rename_i e
    cases hf : iZ (e.zeros n) ps with
    | none => simp [hf, eN] at h
    | some l =>
      simp only [hf, eN, Option.some.injEq, Prod.mk.injEq] at h
      obtain ⟨rfl, rfl, rfl⟩ := h
      obtain ⟨E, hu, he⟩ := iM hT
      obtain ⟨i, z, hi, hs, hb, hz, hzc⟩ := (elOk he).info
      have hes : e.size ≤ 64 := by cases e <;> simp [LK.size]; rename_i k; cases k <;> simp [VK.size]
      have hlim : ¬ (n * e.size > 2 ^ 24) := by
        have : n * e.size ≤ 262144 * 64 := Nat.mul_le_mul hS hes
        omega
      have hzero : ((if n * e.size = 0 then pure #[] else do pure (← zeroValue E).cells) : Sem (Array Value)).run P X.w = .ok (if n * e.size = 0 then #[] else z.cells) X.w := by
        split
        · rfl
        · simp [zeroValue, typeInfo, hi, hz]
      have hzs : z.cells.size = e.size := by rw [← Array.length_toList, pT (hzc X), pZ]
      have hfill0 : LR X (e.zeros n) ((Array.range (n * e.size)).map ((if n * e.size = 0 then #[] else z.cells)[· % (if n * e.size = 0 then #[] else z.cells).size]!)).toList := by
        have := aLO (hzc X) hzs n
        unfold madeCells at this
        split
        · rename_i h0; rw [h0] at this ⊢; simpa using this
        · exact this
      obtain ⟨out, ho, hov⟩ := xX (eA := fun i => some (i * e.size, e.size)) hp hf hfill0 (fun i hi => by rw [kM])
      have hkl : l.kind = e ∧ l.len = n := by
        have : ∀ {ps : List (Nat × AV)} {l0 l : Lst}, iZ l0 ps = some l → l.kind = l0.kind ∧ l.len = l0.len := by
          intro ps
          induction ps with
          | nil => intro l0 l h; simp only [iZ, Option.some.injEq] at h; subst h; exact ⟨rfl, rfl⟩
          | cons p ps ih =>
            intro l0 l h
            obtain ⟨i, v⟩ := p
            simp only [iZ] at h
            split at h
            · split at h
              · rename_i l1 h1
                obtain ⟨a, b⟩ := ih h
                have : l1.kind = l0.kind ∧ l1.len = l0.len := by
                  unfold Lst.set at h1
                  split at h1 <;> first | cases h1 | skip
                  all_goals first
                    | (simp [Lst.kind, Lst.len]; done)
                    | (split at h1
                       · cases h1; simp [Lst.kind, Lst.len]
                       · cases h1)
                exact ⟨a.trans this.1, b.trans this.2⟩
              · cases h
            · cases h
        have := this hf
        rw [kM, iO] at this; exact this
      refine ⟨_, .slice (some ⟨X.w.heap.size, 0, none⟩) n n, { X.w with heap := X.w.heap.push (.cells out E) }, rfl, ?_, ?_⟩
      · have hel : (Go.sizeOf E).run P X.w = .ok e.size X.w := mB he X.w
        by_cases h0 : n * e.size = 0
        · have e0 : ∀ f : Nat → Value, (Array.range 0).map f = #[] := fun f => by simp
          have hlim0 : ¬ (0 > 2 ^ 24) := by omega
          simp only [h0, if_true, e0] at ho
          simp only [Instr.buildSlice, Sem.run_bind, run_underlying hu, Result.andThen_ok, hel, hlim0, if_false, h0, if_true, Sem.run_pure, e0, ho, newRow, run_newObj]
        · simp only [h0, if_false] at ho
          simp only [Instr.buildSlice, Sem.run_bind, run_underlying hu, Result.andThen_ok, hel, hlim, if_false, h0, zeroValue, typeInfo, run_program, hi, hz, Sem.run_pure, ho, newRow, run_newObj]
      · refine aBj H hd (r := []) ⟨rfl, rfl, rfl, rfl⟩ (List.append_nil _).symm hov (by rw [hkl.2]; exact Nat.le_refl _) (Nat.le_refl _) ?_ (fun _ => rfl)
        rw [← Array.length_toList, jN hov, hkl.2]; exact Nat.le_refl _
  · cases h

theorem aEo (H : HR X) {T : TypeId} {d : TyD} {s : Nat} {S : Prop} {v : AV} {news : List AObj} (hd : X.h[s]? = some .dead)
    (h : jP d s = some (S, v, news)) (hS : S) : ∃ o r w', news = [o] ∧ (Instr.makeMap T none).run P X.w = .ok r w' ∧ Good X (X.h.set s o) v r w' := by
  have key : ∀ m, MapR m #[] → Good X (X.h.set s (.map m)) (.map s) (.map (some X.w.heap.size)) { X.w with heap := X.w.heap.push (.map #[] 0) } := fun m hm =>
    aBi H hd ⟨rfl, rfl, rfl, rfl⟩ (fun Y hY E hn => ⟨_, _, _, rfl, by rw [hY]; exact hn, hm⟩) (fun Y hY hμ hh hn => ⟨_, hμ, rfl, by rw [hh]; rfl⟩)
  have run : (Instr.makeMap T none).run P X.w = .ok (.map (some X.w.heap.size)) { X.w with heap := X.w.heap.push (.map #[] 0) } := rfl
  unfold jP at h
  split at h <;> first | cases h | skip
  all_goals exact ⟨_, _, _, rfl, run, key _ ⟨by simp, by simp [iV, fnV]⟩⟩
end
end Lam
namespace Lam
open Go

section
variable {P : Program} {X : Cx}

theorem sE {w : World} {g o : Nat} {t : TypeId} {cur : Array Value} {a us b vs : List Value} (hg : w.heap[g]? = some (.cells cur t (0, 0))) (hcur : cur.toList = a ++ (us ++ b)) (ha : a.length = o)
    (hl : us.length = vs.length) (h1 : Ones vs) : (storeCells ⟨g, o, none⟩ vs).run P w = .ok () (w.setRow g (a ++ (vs ++ b)).toArray) := by
  have hsz : cur.size = a.length + (us.length + b.length) := by rw [← Array.length_toList, hcur]; simp
  have := run_storeCells_at P g o t vs 0 cur w hg (by omega) h1
  rw [this, hcur]
  subst ha
  congr 3
  simp only [Nat.add_zero, List.append_assoc]
  rw [List.take_left' rfl, ← hl, ← List.drop_drop, List.drop_left' rfl, List.drop_left' rfl]

theorem vB {T : TypeId} {d : TyD} {v : AV} {cv : Value} {b o : Nat} {t : TypeId} {cur : Array Value} {x us y : List Value} (hT : tyB P d T = true) (hf : fitP d v) (hv : VV X v cv)
    (hg : X.w.heap[b]? = some (.cells cur t (0, 0))) (hcur : cur.toList = x ++ (us ++ y)) (hx : x.length = o) (hl : us.length = cv.cells.toList.length) :
    (Instr.storeAt T (.pointer (some ⟨b, o, none⟩)) cv).run P X.w = .ok () (X.w.setRow b (x ++ (cv.cells.toList ++ y)).toArray) := by
  have hc := nI (xA hf) hv
  have hsz : cv.cells.size = d.size := by rw [← Array.length_toList, tN hc, (rR hf).1]
  have hst := sE (P := P) hg hcur hx hl (aGS hc)
  simp only [Instr.storeAt, Instr.sureAddr, pure_bind, storeVar, Sem.run_bind, sN hT (pH hf), Result.andThen_ok, hsz, ne_eq, not_true, if_false]
  exact hst

theorem aEp {w : World} {b : Nat} {cur new : Array Value} {t : TypeId} (hg : w.heap[b]? = some (.cells cur t (0, 0))) : dZ (w.setRow b new) b = new.size := by
  unfold dZ; rw [setRow_heap w b cur new t _ hg]

theorem tR (H : HR X) {id b : Nat} {o o' : AObj} {cur new : Array Value} {t : TypeId} {v : AV} {c : Value} (ho : X.h[id]? = some o) (hb : X.μ[id]? = some (some b)) (hg : X.w.heap[b]? = some (.cells cur t (0, 0)))
    (hS : ¬ X.S b) (hsz : new.size = cur.size)
    (hrow : ∀ k ver l, rowO (some o) = some (k, ver, l) → ∃ ver' l', rowO (some o') = some (k, ver', l') ∧ ver ≤ ver' ∧ (ver = ver' → l'.len = l.len ∧ l'.kind = l.kind) ∧ (k ≠ .own → ver = ver'))
    (hoth : rowO (some o) = none → rowO (some o') = none)
    (hO : ∀ Y : Cx, Y.w = X.w.setRow b new → Y.S = X.S → Ext X Y → Y.w.heap[b]? = some (.cells new t (0, 0)) → OR Y (some b) o')
    (hV : ∀ Y : Cx, Y.w = X.w.setRow b new → Ext X Y → Y.μ = X.μ → Y.h[id]? = some o' → dZ Y.w b = cur.size → VV Y v c) : Good X (X.h.set id o') v c (X.w.setRow b new) := by
  have hidl : id < X.h.length := (List.getElem?_eq_some_iff.1 ho).1
  have hmul : id < X.μ.length := (List.getElem?_eq_some_iff.1 hb).1
  have hbs : dZ (X.w.setRow b new) b = cur.size := by rw [aEp hg, hsz]
  have hcs : dZ X.w b = cur.size := by unfold dZ; rw [hg]
  have U : Upd X ⟨X.S, X.μ.set id (some b), X.h.set id o', X.w.setRow b new⟩ id o o' (some b) (some b) :=
    { S := rfl, hh := rfl, mu := rfl, ho := ho, hb := hb
      heap := fun k _ hk => setRow_other X.w b k new (fun e => hk (by rw [e]))
      grow := by simp
      blk := .inl rfl
      env := ⟨rfl, rfl, rfl⟩, own := fun k hk => by cases hk; exact hS
      row := fun k ver l h => by
        obtain ⟨ver', l', h1, h2, h3, h4⟩ := hrow k ver l h
        exact ⟨ver', l', h1, h2, fun e => ⟨(h3 e).1, (h3 e).2, rfl, fun x hx => by cases hx; rw [hcs]; exact Nat.le_of_eq hbs.symm⟩, h4⟩
      oth := fun h => .inr ⟨hoth h, rfl⟩ }
  have hμ : X.μ.set id (some b) = X.μ := by
    apply List.ext_getElem?
    intro i
    rw [List.getElem?_set]
    by_cases e : id = i
    · subst e; rw [if_pos rfl, if_pos hmul]; exact hb.symm
    · simp [e]
  have hnew : (X.w.setRow b new).heap[b]? = some (.cells new t (0, 0)) := setRow_heap X.w b cur new t _ hg
  refine ⟨_, rfl, rfl, U.hr H fun E => hO _ rfl rfl E hnew, U.ext H, hV _ rfl (U.ext H) hμ ?_ hbs⟩
  simp [hidl]

theorem aGi (H : HR X) {T : TypeId} {d : TyD} {a v : AV} {ca cv : Value} {S : Prop} {id : Nat} {o' : AObj} (hT : tyB P d T = true) (ha : VV X a ca) (hv : VV X v cv)
    (h : aQ d X.h a v = some (S, id, o')) (hS : S) : ∃ w', (Instr.storeAt T ca cv).run P X.w = .ok () w' ∧ Good X (X.h.set id o') .und undef w' := by
  unfold aQ at h
  split at h
  rotate_left
  · cases h
  rename_i id0 p
  split at h
  rotate_left
  · cases h
  rename_i S0 o0 hso
  cases h
  obtain ⟨hS0, hf⟩ := hS
  have hcv := nI (xA hf) hv
  unfold nB at hso
  split at hso
  · rename_i u hu
    split at hso
    · rename_i u' hset
      cases hso
      obtain ⟨b, hb, bb, cs, e, rfl, hheap, hvc⟩ := H.obj _ _ hu
      have hc : ca = .pointer (some ⟨bb, offs p, none⟩) := by
        have hv : PtV X id p ca := ha
        cases p with
        | nil => obtain ⟨b', hb', rfl, _⟩ := hv; rw [hb] at hb'; cases hb'; rfl
        | cons x r => cases x with
          | f i o => obtain ⟨b', hb', rfl, _⟩ := hv; rw [hb] at hb'; cases hb'; rfl
          | i v j s => exfalso; obtain ⟨k, ver, l, hl, _⟩ := hv; rw [hu] at hl; cases hl
      subst hc
      obtain ⟨x, us, y, hcs, hx, hl, hnew⟩ := aES hvc hset hcv
      have hnS : ¬ X.S bb := fun hs => by obtain ⟨_, _, h⟩ := (H.live _ _ hb).2 hs; rw [hu] at h; cases h
      refine ⟨_, vB hT hf hv hheap hcs hx hl, tR H hu hb hheap hnS ?_ (fun k ver l h => by cases h) (fun _ => rfl) (fun Y hY _ E hn => ⟨bb, _, e, rfl, hn, ?_⟩) (fun Y _ _ _ _ _ => rfl)⟩
      · rw [← Array.length_toList (xs := cs), hcs]; simp only [List.size_toArray, List.length_append, hl]
      · exact hnew.ext E
    · cases hso
  · rename_i k ver l hu
    have hnS : ∀ b, X.μ[id]? = some (some b) → k ≠ .fro → ¬ X.S b := fun b hb hk hs => by
      obtain ⟨_, _, h⟩ := (H.live _ _ hb).2 hs; rw [hu] at h; cases h; exact hk rfl
    split at hso
    · split at hso
      · rename_i l'
        split at hso
        · rename_i hk
          cases hso
          obtain ⟨b', hb', rfl, _⟩ : ∃ b, X.μ[id]? = some (some b) ∧ ca = .pointer (some ⟨b, 0, none⟩) ∧ _ := ha
          obtain ⟨cs, e, a, r, hheap, hcs, hq⟩ := rS H (k := .arr) (ver := ver) (l := l) (by rw [hu]; rfl) hb'
          have hcl : LR X l' cv.cells.toList := by simpa only [VC] using hcv
          have hll : cv.cells.toList.length = a.length := by rw [jN hcl, jN hq, hS0, hk]
          refine ⟨_, vB (x := []) (us := a) (y := r) hT hf hv hheap (by simpa using hcs) rfl hll.symm, tR H hu hb' hheap (hnS _ hb' (by simp)) ?_ ?_ (fun h => by cases h) (fun Y hY hYS E hn => ?_) (fun Y _ _ _ _ _ => rfl)⟩
          · rw [← Array.length_toList (xs := cs), hcs]; simp only [List.size_toArray, List.length_append, hll, List.length_nil, Nat.zero_add]
          · intro k ver0 l0 h0
            simp only [rowO, Option.some.injEq, Prod.mk.injEq] at h0
            obtain ⟨rfl, rfl, rfl⟩ := h0
            exact ⟨_, _, rfl, Nat.le_refl _, fun _ => ⟨hS0, hk⟩, fun _ => rfl⟩
          · exact .inr ⟨b', _, e, rfl, hn, ⟨_, r, by simp, LR.ext E.v hcl⟩, fun h => by cases h⟩
        · cases hso
      · cases hso
    · rename_i vr i sz p'
      split at hso
      rotate_left
      · cases hso
      rename_i hcond
      obtain ⟨rfl, rfl, hkf⟩ := hcond
      split at hso
      rotate_left
      · cases hso
      rename_i u hset
      split at hso
      rotate_left
      · cases hso
      rename_i l' hls
      cases hso
      obtain ⟨k', ver', l0, hl0, _, _, hpt⟩ := ha
      rw [hu] at hl0; cases hl0
      obtain ⟨b', hb', rfl⟩ := hpt rfl
      obtain ⟨cs, e, a0, r, hheap, hcs, hq⟩ := rS H (k := k) (ver := vr) (l := l) (by rw [hu]; rfl) hb'
      obtain ⟨x2, u0, y2, hflat, hx2, hu0, hec, _⟩ := wX hq hS0
      obtain ⟨x, us, y, hcell, hx, hl, hnew⟩ := aES (aAj hec) hset hcv
      rw [hflat] at hq
      obtain ⟨e1, e2, _, hflat'⟩ := aKx hls hS0 hnew hq hx2 hu0
      refine ⟨_, vB (x := x2 ++ x) (us := us) (y := y ++ (y2 ++ r)) hT hf hv hheap (by rw [hcs, hflat, hcell]; simp) (by simp [offs, hx, hx2]) hl, tR H hu hb' hheap (hnS _ hb' hkf) ?_ ?_ (fun h => by cases h) (fun Y hY hYS E hn => ?_) (fun Y _ _ _ _ _ => rfl)⟩
      · rw [← Array.length_toList (xs := cs), hcs, hflat, hcell]; simp only [List.size_toArray, List.length_append, hl]; omega
      · intro k0 ver0 l0 h0
        simp only [rowO, Option.some.injEq, Prod.mk.injEq] at h0
        obtain ⟨rfl, rfl, rfl⟩ := h0
        exact ⟨_, _, rfl, Nat.le_refl _, fun _ => ⟨e1, e2⟩, fun _ => rfl⟩
      · exact .inr ⟨b', _, e, rfl, hn, ⟨_, r, by simp, LR.ext E.v hflat'⟩, fun h => absurd h hkf⟩
    · cases hso
  · cases hso
end
end Lam
namespace Lam
open Go

section
variable {P : Program} {X : Cx}

theorem aDw {w w' : World} (h : w'.heap = w.heap) (a : Addr) : w'.cell? a = w.cell? a := by unfold World.cell?; rw [h]

theorem tD {l : Lst} {cs : List Value} (h : LR X l cs) (h0 : l.len = 0) : cs = [] := by
  apply List.eq_nil_of_length_eq_zero; rw [jN h, h0, Nat.zero_mul]

theorem rE {ys : Lst} {yc : List Value} {cx : Value} (L : Lies X ys yc cx) {w' : World} (hw : w'.heap = X.w.heap) : (Builtin.firstCells ys.kind.size ys.len cx).run P w' = .ok yc.toArray w' := by
  obtain ⟨a, cap, rfl, h1, h2, h3⟩ := L.lies
  by_cases hn : ys.len = 0
  · rw [hn, tD L.lr hn]
    cases a with
    | none => rfl
    | some ad => simp [Builtin.firstCells, loadCells, loadCellsFrom]
  · obtain ⟨b, o, rfl, hr⟩ := h3 hn
    refine run_firstCells_some w' _ _ _ _ _ yc (jN L.lr) fun j v hj => ?_
    rw [aDw hw]; exact hr.add j v hj

theorem aFd {ys : Lst} {yc : List Value} {cx : Value} (L : Lies X ys yc cx) (w' : World) : (Builtin.lenOf cx).run P w' = .ok ys.len w' := by
  obtain ⟨a, cap, rfl, _⟩ := L.lies; rfl

inductive jR (P : Program) (X : Cx) (e : LK) (U : TypeId) : Lst → List Value → Value → Prop where
  | sl (E2 : TypeId) (ys : Lst) (yc : List Value) (c : Value) (hu : P.underlying U = some (.slice E2)) (hk : ys.kind = e) (L : Lies X ys yc c) : jR P X e U ys yc c
  | zs (k k' : IntKind) (n : Int) (hu : P.underlying U = some (.int k)) (h0 : 0 ≤ n) (h1 : n ≤ 68719476736) (hp : (e.zeros 1).plain = true) : jR P X e U (e.zeros n.toNat) (e.zeros n.toNat).flat (.int k' n)

theorem jR.kind {e : LK} {U : TypeId} {ys : Lst} {yc : List Value} {c : Value} (h : jR P X e U ys yc c) : ys.kind = e := by
  cases h with
  | sl E2 ys yc c hu hk L => exact hk
  | zs k k' n hu h0 h1 => exact kM e _

theorem jR.lr {e : LK} {U : TypeId} {ys : Lst} {yc : List Value} {c : Value} (h : jR P X e U ys yc c) : LR X ys yc := by
  cases h with
  | sl E2 ys yc c hu hk L => exact L.lr
  | zs k k' n hu h0 h1 hp => exact uD (by cases e <;> first | rfl | cases hp) rfl

theorem aDx {e : LK} {z : Array Value} (hp : (e.zeros 1).plain = true) (hz : ∀ X, EC X e.zero1 z.toList) (n : Nat) : (madeCells z (n * e.size)).toList = (e.zeros n).flat := by
  have h := aIX hp (hz default)
  rw [uI (by rw [← Array.length_toList, h, Lst.cell_length, kM]) e.size_pos, wY, h]

theorem aBX {T U E ty : TypeId} {e : LK} {ys : Lst} {yc : List Value} {cx : Value} (hu : P.underlying T = some (.slice E)) (he : elB P E e = true) (A : jR P X e U ys yc cx) (base : Option Addr) (sLen sCap : Nat) (hroom : sLen + ys.len ≤ sCap) :
    (Builtin.append_ #[T, U] ty #[.slice base sLen sCap, cx]).run P X.w =
      ((match base with | some a => storeCells (a.add (sLen * e.size)) yc | none => pure ()).run P X.w).andThen fun _ w' => .ok (.slice base (sLen + ys.len) sCap) w' := by
  obtain ⟨i, z, hi, hs, hb, hz, hzc⟩ := (elOk he).info
  have hes : (Go.sizeOf E).run P X.w = .ok e.size X.w := mB he X.w
  cases A with
  | sl E2 ys yc c hu2 hk L =>
    have hfc := rE (P := P) L (w' := X.w) rfl
    rw [hk] at hfc
    have hlen := aFd (P := P) L X.w
    cases base <;> simp [Builtin.append_, run_underlying hu, run_underlying hu2, hes, hlen, hroom, hfc]
  | zs k k' n hu2 h0 h1 hp =>
    rw [iO] at hroom ⊢
    have wn : IntKind.i64.wrap n = n := by rw [IntKind.wrap_i64]; omega
    have n1 : ¬ n < 0 := by omega
    have n2 : ¬ (281474976710656 < n * (i.bytes : Int)) := by
      have h3 : (i.bytes : Int) ≤ 1024 := by omega
      have h5 : n * (i.bytes : Int) ≤ n * 1024 := Int.mul_le_mul_of_nonneg_left h3 h0
      omega
    have hzero : (zeroValue E).run P X.w = .ok z X.w := by simp [zeroValue, typeInfo, hi, hz]
    have hzs : z.cells.size = e.size := by rw [← Array.length_toList, pT (hzc X), pZ]
    have hfl : (Builtin.zeroCells z.cells n.toNat).toList = (e.zeros n.toNat).flat := by
      rw [← aDx hp hzc]; simp [Builtin.zeroCells, madeCells, hzs]
    by_cases hn0 : n.toNat * e.size = 0
    · have hflat : (e.zeros n.toNat).flat = [] := List.eq_nil_of_length_eq_zero (by rw [Lst.flat_length, iO, kM]; exact hn0)
      cases base <;> simp [Builtin.append_, run_underlying hu, run_underlying hu2, hes, asInt, asIntOf, typeInfo, hi, wn, n1, n2, hroom, hn0, hflat]
    · cases base <;> simp [Builtin.append_, run_underlying hu, run_underlying hu2, hes, asInt, asIntOf, typeInfo, hi, wn, n1, n2, hroom, hn0, hzero, hfl]

theorem aAK {T U E ty : TypeId} {e : LK} {ys : Lst} {yc : List Value} {cx : Value} (hu : P.underlying T = some (.slice E)) (he : elB P E e = true) (A : jR P X e U ys yc cx) (base : Option Addr) (sLen sCap : Nat) (olds : List Value)
    (ho : ∀ w', w'.heap = X.w.heap → (Builtin.firstCells e.size sLen (.slice base sLen sCap)).run P w' = .ok olds.toArray w')
    (hg : sCap < sLen + ys.len) (hroom : sLen + ys.len ≤ 68719476736) :
    ∃ cap w' rest, sLen + ys.len ≤ cap ∧ yM X.w w' (.cells (olds ++ (yc ++ rest)).toArray E) ∧ rest.length = (cap - (sLen + ys.len)) * e.size ∧
      (Builtin.append_ #[T, U] ty #[.slice base sLen sCap, cx]).run P X.w = .ok (.slice (some ⟨X.w.heap.size, 0, none⟩) (sLen + ys.len) cap) w' := by
  obtain ⟨i, z, hi, hs, hb, hz, hzc⟩ := (elOk he).info
  have hes : ∀ w, (Go.sizeOf E).run P w = .ok e.size w := fun w => mB he w
  have hzs : z.cells.size = e.size := by rw [← Array.length_toList, pT (hzc X), pZ]
  have hzero : ∀ w, (zeroValue E).run P w = .ok z w := fun w => by simp [zeroValue, typeInfo, hi, hz]
  have hfit : Builtin.nextslicecap (sLen + ys.len) sCap * i.bytes ≤ 281474976710656 := growslice_fits hg (by
    have : (sLen + ys.len) * i.bytes ≤ 68719476736 * 1024 := Nat.mul_le_mul hroom hb
    omega)
  let cap := grownCap X.w (sLen + ys.len) sCap E
  refine ⟨cap, X.w.drew.alloc (.cells (olds ++ (yc ++ (Builtin.zeroCells z.cells (cap - (sLen + ys.len))).toList)).toArray E), (Builtin.zeroCells z.cells (cap - (sLen + ys.len))).toList, grownCap_ge _ _ _ _, ⟨rfl, rfl, rfl, rfl⟩, ?_, ?_⟩
  · rw [Array.length_toList, size_zeroCells, hzs]
  have hn : ¬ (sLen + ys.len ≤ sCap) := by omega
  have hb0 : ∀ q : Prop, ¬ ((9223372036854775807 < ((sLen : Int) + (ys.len : Int))) ∧ q) := fun q h => by omega
  have h48' : ¬ (281474976710656 < Builtin.nextslicecap (sLen + ys.len) sCap * i.bytes) := by omega
  have ho' := ho X.w.drew rfl
  cases A with
  | sl E2 ys yc c hu2 hk L =>
    have hfc := rE (P := P) L (w' := X.w.drew) rfl
    rw [hk] at hfc
    have hlen := aFd (P := P) L X.w
    have hb1 : ¬ (9223372036854775807 < ((sLen : Int) + (ys.len : Int))) := by omega
    simp [Builtin.append_, run_underlying hu, run_underlying hu2, hes, hlen, hn, hb1, typeInfo, hi, h48', Question.forced, ho', hfc, hzero, newRow, cap, grownCap]
    congr 2
    apply Array.ext'
    simp
  | zs k k' n hu2 h0 h1 hp =>
    rw [iO] at hn h48' hb0 hg ⊢
    have wn : IntKind.i64.wrap n = n := by rw [IntKind.wrap_i64]; omega
    have n1 : ¬ n < 0 := by omega
    have n2 : ¬ (281474976710656 < n * (i.bytes : Int)) := by
      have h3 : (i.bytes : Int) ≤ 1024 := by omega
      have h5 : n * (i.bytes : Int) ≤ n * 1024 := Int.mul_le_mul_of_nonneg_left h3 h0
      omega
    have hfl : (Builtin.zeroCells z.cells n.toNat).toList = (e.zeros n.toNat).flat := by
      rw [← aDx hp hzc]; simp [Builtin.zeroCells, madeCells, hzs]
    have hb1 : ¬ (9223372036854775807 < ((sLen : Int) + max n 0)) := by omega
    by_cases hn0 : n.toNat * e.size = 0
    · have hflat : (e.zeros n.toNat).flat = [] := List.eq_nil_of_length_eq_zero (by rw [Lst.flat_length, iO, kM]; exact hn0)
      simp [Builtin.append_, run_underlying hu, run_underlying hu2, hes, asInt, asIntOf, hn, hb1, typeInfo, hi, wn, n1, n2, h48', Question.forced, ho', hn0, hflat, hzero, newRow, cap, grownCap, iO]
      congr 2
      apply Array.ext'
      simp
    · simp [Builtin.append_, run_underlying hu, run_underlying hu2, hes, asInt, asIntOf, hn, hb1, typeInfo, hi, wn, n1, n2, h48', Question.forced, ho', hn0, hfl, hzero, newRow, cap, grownCap, iO]
      congr 2
      apply Array.ext'
      simp [hfl]
end
end Lam
namespace Lam
open Go

section
variable {P : Program} {X : Cx}

theorem aDy (H : HR X) {s : Nat} (hd : X.h[s]? = some .dead) {l : Lst} {a : Option Addr} (hl : l.len = 0) : Good X (X.h.set s (.row .own 0 l)) (.sref false s 0 0 0) (.slice a 0 0) X.w := by
  have hs : s < X.h.length := (List.getElem?_eq_some_iff.1 hd).1
  have hmu := aHe H hd
  have hs2 : s < X.μ.length := by rw [H.len]; exact hs
  have U : Upd X ⟨X.S, X.μ.set s none, X.h.set s (.row .own 0 l), X.w⟩ s .dead (.row .own 0 l) none none :=
    { S := rfl, hh := rfl, mu := rfl, ho := hd, hb := hmu, heap := fun _ _ _ => rfl, grow := Nat.le_refl _, blk := .inl rfl, env := ⟨rfl, rfl, rfl⟩, own := fun k hk => (by cases hk), row := fun k ver l h => (by cases h), oth := fun _ => .inl rfl }
  refine ⟨⟨X.S, X.μ.set s none, X.h.set s (.row .own 0 l), X.w⟩, rfl, rfl, U.hr H fun E => .inl ⟨rfl, hl, by simp⟩, U.ext H, ?_⟩
  exact ⟨a, 0, 0, rfl, .own, 0, l, by simp [hs, rowO], Nat.le_refl _, fun _ => ⟨rfl, Nat.le_refl _, by simp, fun _ => rfl, fun _ => rfl, fun h => absurd rfl h⟩⟩

theorem aBY (H : HR X) {T U E ty : TypeId} {xs ys zs : Lst} {cs cx : Value} {n : Nat} (hu : P.underlying T = some (.slice E)) (he : elB P E xs.kind = true) (hd : X.h[n]? = some .dead)
    {xc yc : List Value} (L : Lies X xs xc cs) (hcap : ∃ a, cs = .slice a xs.len xs.len) (A : jR P X xs.kind U ys yc cx) (hz : xs.app ys = some zs) (hS : (0 < ys.len ∨ xs.len = 0) ∧ roomy zs.len) :
    ∃ r w', (Builtin.append_ #[T, U] ty #[cs, cx]).run P X.w = .ok r w' ∧ Good X (X.h.set n (.row .own 0 zs)) (.sref false n 0 0 zs.len) r w' := by
  obtain ⟨e1, e2, e3⟩ := tQ hz
  have e4 := yQ hz L.lr A.lr
  have lx := jN L.lr
  have ly := jN A.lr
  obtain ⟨hS1, hS2⟩ := hS
  unfold roomy at hS2
  obtain ⟨a, rfl⟩ := hcap
  by_cases hy : ys.len = 0
  · have hx0 : xs.len = 0 := by omega
    have := aBX (P := P) (ty := ty) hu he A a xs.len xs.len (by omega)
    rw [tD A.lr hy] at this
    refine ⟨.slice a 0 0, X.w, ?_, ?_⟩
    · rw [this, hx0, hy]; cases a <;> simp [storeCells]
    · have h0 : zs.len = 0 := by omega
      rw [h0]; exact aDy H hd h0
  · obtain ⟨cap, w', rest, h1, h2, h3, h4⟩ := aAK (P := P) (ty := ty) hu he A a xs.len xs.len xc (fun w' hw => rE L hw) (by omega) (by omega)
    refine ⟨_, w', h4, ?_⟩
    have := aBj H hd (l := zs) (cs := (xc ++ (yc ++ rest)).toArray) (r := rest) (E := E) (n := xs.len + ys.len) (cap := cap) (x := false) h2 (by simp) e4 (by omega) h1 (by
      simp only [List.size_toArray, List.length_append, lx, ly, h3, e2, e3]
      rw [← Nat.add_assoc, ← Nat.add_mul, ← Nat.add_mul]; exact Nat.mul_le_mul_right _ (by omega)) (by simp)
    rwa [e1]

theorem aEq (H : HR X) {T U ty : TypeId} {d : TyD} {s x : AV} {cs cx : Value} {n : Nat} {S : Prop} {v : AV} {news : List AObj} (hT : tyB P d T = true) (hs : VV X s cs) (hd : X.h[n]? = some .dead)
    (A : ∀ e ys, d = .slice e → x.list X.h = some ys → ys.kind = e → ∃ yc, jR P X e U ys yc cx) (h : fT d X.h s x n = some (S, v, news)) (hS : S) :
    ∃ o r w', news = [o] ∧ (Builtin.append_ #[T, U] ty #[cs, cx]).run P X.w = .ok r w' ∧ Good X (X.h.set n o) v r w' := by
  have fin : ∀ xs, (∃ xc, Lies X xs xc cs) → (∃ a, cs = .slice a xs.len xs.len) → d = .slice xs.kind → (eN (x.list X.h) fun ys => kR xs ys n) = some (S, v, news) →
      ∃ o r w', news = [o] ∧ (Builtin.append_ #[T, U] ty #[cs, cx]).run P X.w = .ok r w' ∧ Good X (X.h.set n o) v r w' := by
    intro xs L hc hdx hq
    obtain ⟨xc, L⟩ := L
    subst hdx
    obtain ⟨E, hu, he⟩ := iM hT
    cases hy : x.list X.h with
    | none => simp [hy, eN] at hq
    | some ys =>
      simp only [hy, eN, kR] at hq
      cases hz : xs.app ys with
      | none => simp [hz] at hq
      | some zs =>
        simp only [hz, Option.some.injEq, Prod.mk.injEq] at hq
        obtain ⟨rfl, rfl, rfl⟩ := hq
        obtain ⟨yc, A'⟩ := A _ ys rfl hy (tQ hz).2.2
        obtain ⟨r, w', h1, h2⟩ := aBY (P := P) (ty := ty) H hu he hd L hc A' hz hS
        exact ⟨_, r, w', rfl, h1, h2⟩
  unfold fT at h
  split at h
  · rename_i xs
    have h2 := (dT h).2
    have hk := vA (dT h).1
    obtain ⟨a, cap, rfl, g1, g2, g3, g4⟩ := id hs
    exact fin xs (nH H hs rfl) ⟨a, by rw [g2 rfl]⟩ hk h2
  · rename_i id ver off len
    split at h
    rotate_left
    · cases h
    have h2 := (dT h).2
    obtain ⟨k, ver', l, hrow, hdl⟩ := pX (dT h).1
    clear h
    cases hl : lL (X.h[id]?) ver off len with
    | none => rw [hl] at h2; cases h2
    | some xs =>
      rw [hl] at h2
      simp only [eN] at h2
      have L : ∃ xc, Lies X xs xc cs := nH H hs hl
      obtain ⟨k', l0, hrow', rfl⟩ := aDt hl
      rw [hrow] at hrow'; cases hrow'
      obtain ⟨a, m, cap, rfl, k2, ver2, l2, hl2, _, g⟩ := hs
      rw [hrow] at hl2; cases hl2
      obtain ⟨rfl, g1, g2, g3, _⟩ := g rfl
      have hlen : (l.cut off m).len = m := by rw [mC]; omega
      exact fin _ L ⟨a, by rw [hlen, g3 rfl]⟩ (by rw [qV]; exact hdl) h2
  · cases h

theorem aEr (H : HR X) {T U ty : TypeId} {d : TyD} {s x : AV} {cs cx : Value} {id : Nat} {o' : AObj} {S : Prop} {v : AV} (hT : tyB P d T = true) (hs : VV X s cs)
    (A : ∀ e ys, d = .slice e → x.list X.h = some ys → ys.kind = e → ∃ yc, jR P X e U ys yc cx) (h : gJ d X.h s x = some (S, v, id, o')) (hS : S) :
    ∃ r w', (Builtin.append_ #[T, U] ty #[cs, cx]).run P X.w = .ok r w' ∧ Good X (X.h.set id o') v r w' := by
  unfold gJ at h
  split at h
  rotate_left
  · cases h
  rename_i id0 ver off len
  split at h
  rotate_left
  · cases h
  rename_i hfit
  obtain ⟨k, ver', l, hrow, rfl⟩ := pX hfit
  have ho := jY hrow
  obtain ⟨E, hu, he⟩ := iM hT
  unfold tB at h
  split at h
  rotate_left
  · cases h
  rename_i ver2 l2 ys hrow2 hlist
  rw [ho] at hrow2
  cases hrow2
  split at h
  rotate_left
  · cases h
  rename_i hver
  subst hver
  split at h
  rotate_left
  · cases h
  rename_i zs hz
  cases h
  obtain ⟨rfl, rfl, hroomy⟩ := hS
  unfold roomy at hroomy
  obtain ⟨e1, e2, e3⟩ := tQ hz
  obtain ⟨yc, A'⟩ := A _ ys rfl hlist e3
  have L : ∃ xc, Lies X l xc cs := by
    have := nH H hs (l := l) (by simp only [AV.list, lL, ho, if_true, aDa])
    exact this
  have hs0 := hs
  have ly := jN A'.lr
  obtain ⟨a, m, cap, rfl, k2, ver2, l3, hl3, _, g⟩ := hs0
  rw [hrow] at hl3; cases hl3
  obtain ⟨rfl, g1, g2, _, g4, g5⟩ := g rfl
  obtain ⟨b0, hb0, hor⟩ := H.obj _ _ ho
  have hnS : ∀ b, b0 = some b → ¬ X.S b := fun b hb hS => by
    subst hb
    obtain ⟨_, _, h⟩ := (H.live _ _ hb0).2 hS; rw [ho] at h; cases h
  have hid : id < X.h.length := (List.getElem?_eq_some_iff.1 ho).1
  have hidm : id < X.μ.length := by rw [H.len]; exact hid
  by_cases hg : l.len + ys.len ≤ cap
  · have hr := aBX (P := P) (ty := ty) hu he A' a l.len cap hg
    by_cases hc0 : cap = 0
    · have hl0 : l.len = 0 := by omega
      have hy0 : ys.len = 0 := by omega
      rw [tD A'.lr hy0] at hr
      refine ⟨.slice a 0 0, X.w, ?_, ?_⟩
      · rw [hr, hl0, hy0, hc0]; cases a <;> simp [storeCells]
      · have U : Upd X ⟨X.S, X.μ.set id b0, X.h.set id (.row .own (ver + 1) zs), X.w⟩ id (.row .own ver l) (.row .own (ver + 1) zs) b0 b0 :=
          { S := rfl, hh := rfl, mu := rfl, ho := ho, hb := hb0, heap := fun _ _ _ => rfl, grow := Nat.le_refl _, blk := .inl rfl, env := jI.refl _, own := hnS
            row := fun k v l' h => by
              simp only [rowO, Option.some.injEq, Prod.mk.injEq] at h
              obtain ⟨rfl, rfl, rfl⟩ := h
              exact ⟨_, _, rfl, Nat.le_succ _, fun e => by omega, fun h => absurd rfl h⟩
            oth := fun h => by cases h }
        have hz0 : zs.len = 0 := by omega
        refine ⟨⟨X.S, X.μ.set id b0, X.h.set id (.row .own (ver + 1) zs), X.w⟩, rfl, rfl, U.hr H fun E => ?_, U.ext H, ?_⟩
        · rcases hor with ⟨h1, _, h3⟩ | ⟨b', cs', el, h1, h2, ⟨a, r, hr', hq⟩, h3⟩
          · exact .inl ⟨h1, hz0, h3⟩
          · exact .inr ⟨b', cs', el, h1, h2, ⟨[], r, by rw [hr', tD hq hl0], rP _ hz0⟩, fun h => by cases h⟩
        · rw [hz0]
          exact ⟨a, 0, 0, rfl, .own, ver + 1, zs, by simp [hid, rowO], Nat.le_refl _, fun _ => ⟨rfl, Nat.le_refl _, by simp, fun _ => rfl, fun _ => rfl, fun h => absurd rfl h⟩⟩
    · obtain ⟨b, hb, rfl, hz2⟩ := g5 hc0
      rw [hb] at hb0; cases hb0
      obtain ⟨cur, el, xc, r, hheap, hcur, hq⟩ := rS H hrow hb
      have lx := jN hq
      have e4 := yQ hz hq A'.lr
      simp only [Nat.zero_mul, Nat.zero_add] at hz2
      have hbs : cap * l.kind.size ≤ xc.length + r.length := by
        have : dZ X.w b = cur.size := by unfold dZ; rw [hheap]
        rw [this, ← Array.length_toList, hcur, List.length_append] at hz2; exact hz2
      have hyl : yc.length ≤ r.length := by
        have h1 : (l.len + ys.len) * l.kind.size ≤ cap * l.kind.size := Nat.mul_le_mul_right _ hg
        rw [Nat.add_mul] at h1
        rw [ly, e3]; omega
      have hst := sE (P := P) (w := X.w) (g := b) (o := l.len * l.kind.size) (a := xc) (us := r.take yc.length) (b := r.drop yc.length) (vs := yc) hheap (by rw [hcur, List.take_append_drop]) lx
        (by rw [List.length_take]; omega) (aCU A'.lr)
      refine ⟨.slice (some ⟨b, 0, none⟩) (l.len + ys.len) cap, X.w.setRow b (xc ++ (yc ++ r.drop yc.length)).toArray, ?_, ?_⟩
      · rw [hr]; simp only [Nat.zero_mul, Addr.add_lit, Nat.zero_add, hst, Result.andThen_ok]
      · refine tR H ho hb hheap (hnS b rfl) ?_ (fun k v l' h => ?_) (fun h => by cases h) (fun Y hY _ E' hn => .inr ⟨b, _, el, rfl, hn, ⟨_, r.drop yc.length, by simp, LR.ext E'.v e4⟩, fun h => by cases h⟩) (fun Y hY E' hμ hh hbs' => ?_)
        · rw [← Array.length_toList (xs := cur), hcur]; simp only [List.size_toArray, List.length_append, List.length_drop]; omega
        · simp only [rowO, Option.some.injEq, Prod.mk.injEq] at h
          obtain ⟨rfl, rfl, rfl⟩ := h
          exact ⟨_, _, rfl, Nat.le_succ _, fun e => by omega, fun h => absurd rfl h⟩
        · refine ⟨_, _, _, rfl, .own, ver + 1, zs, by rw [hh]; rfl, Nat.le_refl _, fun _ => ⟨e1.symm, by omega, by simp, fun h => (by cases h), fun h => (by cases h), fun _ => ⟨b, by rw [hμ]; exact hb, by simp, ?_⟩⟩⟩
          rw [hbs', Nat.zero_add, e2, ← Array.length_toList, hcur, List.length_append]; exact hbs
  · obtain ⟨xc, L⟩ := L
    have lx := jN L.lr
    have e4 := yQ hz L.lr A'.lr
    obtain ⟨cap', w', rest, h1, h2, h3, h4⟩ := aAK (P := P) (ty := ty) hu he A' a l.len cap xc (fun w' hw => by
      have := rE (P := P) L hw
      obtain ⟨a', cap', heq, _⟩ := L.lies
      exact this) (by omega) (by omega)
    refine ⟨_, w', h4, ?_⟩
    obtain ⟨h2, henv⟩ := h2
    have hnew : w'.heap[X.w.heap.size]? = some (.cells (xc ++ (yc ++ rest)).toArray E) := by rw [h2]; simp
    have U : Upd X ⟨X.S, X.μ.set id (some X.w.heap.size), X.h.set id (.row .own (ver + 1) zs), w'⟩ id (.row .own ver l) (.row .own (ver + 1) zs) b0 (some X.w.heap.size) :=
      { S := rfl, hh := rfl, mu := rfl, ho := ho, hb := hb0
        heap := fun k hk _ => by simp only [h2, Array.getElem?_push]; rw [if_neg (by omega)]
        grow := by simp [h2]
        blk := .inr ⟨_, rfl, Nat.le_refl _, by simp [h2]⟩
        own := hnS
        env := henv
        row := fun k v l' h => by
          simp only [rowO, Option.some.injEq, Prod.mk.injEq] at h
          obtain ⟨rfl, rfl, rfl⟩ := h
          exact ⟨_, _, rfl, Nat.le_succ _, fun e => by omega, fun h => absurd rfl h⟩
        oth := fun h => by cases h }
    refine ⟨_, rfl, rfl, U.hr H fun E' => .inr ⟨_, _, E, rfl, hnew, ⟨_, rest, by simp, LR.ext E'.v e4⟩, fun h => by cases h⟩, U.ext H, ?_⟩
    refine ⟨_, _, _, rfl, .own, ver + 1, zs, by simp [hid, rowO], Nat.le_refl _, fun _ => ⟨e1.symm, by omega, by simp, fun h => (by cases h), fun h => (by cases h), fun _ => ⟨_, by simp [hidm]; rfl, by simp, ?_⟩⟩⟩
    simp only [dZ, hnew, List.size_toArray, List.length_append, lx, ly, h3, e2, e3]
    rw [← Nat.add_assoc, ← Nat.add_mul, ← Nat.add_mul]; exact Nat.mul_le_mul_right _ (by omega)
end
end Lam
namespace Lam
open Go

section
variable {P : Program} {X : Cx}

theorem aLP (l : Lst) (n : Nat) : l.cut 0 n = l.cut 0 (min n l.len) := by
  rcases Nat.le_total n l.len with h | h
  · rw [Nat.min_eq_left h]
  · rw [Nat.min_eq_right h, aDa]
    cases l <;> simp only [Lst.cut, List.drop_zero] <;> rw [List.take_of_length_le h]

theorem Lies.take {l : Lst} {yc : List Value} {c : Value} (L : Lies X l yc c) (n : Nat) (hn : n ≤ l.len) : ∃ q, LR X (l.cut 0 n) q ∧ ∀ {w' : World}, w'.heap = X.w.heap → (Builtin.firstCells l.kind.size n c).run P w' = .ok q.toArray w' := by
  obtain ⟨a, cap, rfl, h1, h2, h3⟩ := L.lies
  obtain ⟨q, r, rfl, hq, _⟩ := vX L.lr hn
  refine ⟨q, hq, fun {w'} hw => ?_⟩
  have hfl : q.length = n * l.kind.size := by rw [jN hq, mC, qV]; congr 1; omega
  by_cases hz : n = 0
  · subst hz
    have : q = [] := List.eq_nil_of_length_eq_zero (by rw [hfl, Nat.zero_mul])
    rw [this]
    cases a with
    | none => rfl
    | some ad => simp [Builtin.firstCells, loadCells, loadCellsFrom]
  · obtain ⟨b, o, rfl, hr⟩ := h3 (by omega)
    have := kC.sub (a := []) hr
    refine run_firstCells_some w' _ _ _ _ _ _ hfl fun j v hj => ?_
    rw [aDw hw]; exact this.add j v hj

theorem yT {l ys l' : Lst} {off len : Nat} (h : l.over off len ys = some l') (hol : off + len ≤ l.len) : l'.len = l.len ∧ l'.kind = l.kind ∧ ys.kind = l.kind := by
  unfold Lst.over at h
  split at h
  · rename_i z hz
    obtain ⟨a1, a2, a3⟩ := tQ hz
    obtain ⟨b1, b2, b3⟩ := tQ h
    simp only [mC, qV] at a1 a2 a3 b1 b2 b3
    exact ⟨by omega, b2.trans a2, a3⟩
  · cases h

theorem aHf {l ys l' : Lst} {off len : Nat} {cs q : List Value} (h : l.over off len ys = some l') (hol : off + len ≤ l.len) (hc : LR X l cs) (hq : LR X (ys.cut 0 (min len ys.len)) q) :
    ∃ p m r, cs = p ++ (m ++ r) ∧ p.length = off * l.kind.size ∧ m.length = q.length ∧ q.length = min len ys.len * l.kind.size ∧ LR X l' (p ++ (q ++ r)) := by
  have hk := (yT h hol).2.2
  unfold Lst.over at h
  split at h
  · rename_i z hz
    obtain ⟨pm, r, rfl, h1, h2⟩ := vX hc (k := off + min len ys.len) (by omega)
    have e : (l.cut 0 (off + min len ys.len)).len = off + min len ys.len := by rw [mC]; omega
    obtain ⟨p, m, rfl, h3, h4⟩ := vX h1 (k := off) (by omega)
    rw [aHb _ _ _ _ (by omega)] at h3
    have l1 := jN hq
    have l3 := jN h3
    have l4 := jN h4
    simp only [mC, qV] at l1 l3 l4
    have lq : q.length = min len ys.len * l.kind.size := by rw [l1, hk]; congr 1; omega
    refine ⟨p, m, r, by simp, ?_, ?_, lq, ?_⟩
    · rw [l3]; congr 1; omega
    · rw [l4, lq]; congr 1; omega
    · rw [aLP ys] at hz
      have := yQ h (yQ hz h3 hq) h2
      simpa using this
  · cases h

theorem aDz (H : HR X) {id ver off len : Nat} {k : RK} {l l' ys : Lst} {x : Bool} {a : Option Addr} {n cap : Nat} {v : AV} {c : Value} (hrow : rowO (X.h[id]?) = some (k, ver, l)) (hk : k ≠ .fro)
    (hs : VV X (.sref x id ver off len) (.slice a n cap)) (h : l.over off len ys = some l') {q : List Value} (hq : LR X (ys.cut 0 (min len ys.len)) q) (hv : ∀ Y, VV Y v c) :
    n = len ∧ ∃ w', (match a with | some ad => storeCells ad q | none => pure ()).run P X.w = .ok () w' ∧ Good X (X.h.set id (.row k ver l')) v c w' := by
  have ho := jY hrow
  obtain ⟨a', n', cap', heq, k2, ver2, l2, hl2, _, g⟩ := hs
  cases heq
  rw [hrow] at hl2; cases hl2
  obtain ⟨rfl, g1, g2, g3, g4, g5⟩ := g rfl
  refine ⟨rfl, ?_⟩
  obtain ⟨e1, e2, e3⟩ := yT h g2
  obtain ⟨b0, hb0, hor⟩ := H.obj _ _ ho
  have hnS : ∀ b, b0 = some b → ¬ X.S b := fun b hb hS => by
    subst hb
    obtain ⟨_, _, h⟩ := (H.live _ _ hb0).2 hS; rw [ho] at h; cases h; exact hk rfl
  have hid : id < X.h.length := (List.getElem?_eq_some_iff.1 ho).1
  by_cases hc0 : cap = 0
  · have hn0 : n = 0 := by omega
    subst hn0
    have hys : q = [] := tD hq (by rw [mC]; omega)
    subst hys
    refine ⟨X.w, by cases a <;> simp [storeCells], ?_⟩
    have U : Upd X ⟨X.S, X.μ.set id b0, X.h.set id (.row k ver l'), X.w⟩ id (.row k ver l) (.row k ver l') b0 b0 :=
      { S := rfl, hh := rfl, mu := rfl, ho := ho, hb := hb0, heap := fun _ _ _ => rfl, grow := Nat.le_refl _, blk := .inl rfl, env := jI.refl _, own := hnS
        row := fun k v l0 h => by
          simp only [rowO, Option.some.injEq, Prod.mk.injEq] at h
          obtain ⟨rfl, rfl, rfl⟩ := h
          exact ⟨_, _, rfl, Nat.le_refl _, fun _ => ⟨e1, e2, rfl, fun _ _ => Nat.le_refl _⟩, fun _ => rfl⟩
        oth := fun h => by cases h }
    refine ⟨⟨X.S, X.μ.set id b0, X.h.set id (.row k ver l'), X.w⟩, rfl, rfl, U.hr H fun E => ?_, U.ext H, hv _⟩
    rcases hor with ⟨h1, h2, h3⟩ | ⟨b', cs', el, h1, h2, ⟨a1, r, hr', hc⟩, h3⟩
    · exact .inl ⟨h1, by omega, h3⟩
    · obtain ⟨p, m, r2, rfl, _, hm, _, h5⟩ := aHf h g2 hc hq
      obtain rfl : m = [] := List.eq_nil_of_length_eq_zero hm
      exact .inr ⟨b', cs', el, h1, h2, ⟨_, r, hr', LR.ext E.v h5⟩, h3⟩
  · obtain ⟨b, hb, rfl, hz2⟩ := g5 hc0
    rw [hb] at hb0; cases hb0
    obtain ⟨cur, el, cs, r, hheap, hcur, hc⟩ := rS H hrow hb
    obtain ⟨p, m, r2, rfl, hp, hm, _, h5⟩ := aHf h g2 hc hq
    have hst := sE (P := P) (w := X.w) (g := b) (o := off * l.kind.size) (a := p) (us := m) (b := r2 ++ r) (vs := q) hheap (by rw [hcur]; simp) hp hm (aCU hq)
    refine ⟨_, hst, tR H ho hb hheap (hnS b rfl) ?_ (fun k v l0 h => ?_) (fun h => by cases h) (fun Y hY hS E' hn => .inr ⟨b, _, el, rfl, hn, ⟨_, r, by simp, LR.ext E'.v h5⟩, fun h => absurd h hk⟩) (fun Y _ _ _ _ _ => hv Y)⟩
    · rw [← Array.length_toList (xs := cur), hcur]
      simp only [List.size_toArray, List.length_append, hm]; omega
    · simp only [rowO, Option.some.injEq, Prod.mk.injEq] at h
      obtain ⟨rfl, rfl, rfl⟩ := h
      exact ⟨_, _, rfl, Nat.le_refl _, fun _ => ⟨e1, e2⟩, fun _ => rfl⟩

theorem aHL (H : HR X) {T U ty : TypeId} {d : TyD} {s x : AV} {cs cx : Value} {id : Nat} {o' : AObj} {S : Prop} {v : AV} (hT : tyB P d T = true) (hs : VV X s cs) (hx : VV X x cx)
    (h : lA d X.h s x = some (S, v, id, o')) (hS : S) : ∃ r w', (Builtin.copy_ #[T, U] ty #[cs, cx]).run P X.w = .ok r w' ∧ Good X (X.h.set id o') v r w' := by
  unfold lA at h
  split at h
  rotate_left
  · cases h
  rename_i y id0 ver off len
  split at h
  rotate_left
  · cases h
  rename_i hfit
  obtain ⟨k, ver', l, hrow, rfl⟩ := pX hfit
  obtain ⟨E, hu, he⟩ := iM hT
  unfold wW at h
  split at h
  rotate_left
  · cases h
  rename_i k2 ver2 l2 ys hrow2 hlist
  rw [jY hrow] at hrow2
  cases hrow2
  split at h
  rotate_left
  · cases h
  rename_i hc
  obtain ⟨rfl, hkf⟩ := hc
  split at h
  rotate_left
  · cases h
  rename_i l' hov
  cases h
  obtain ⟨yc, L⟩ := nH H hx hlist
  have hs0 := hs
  obtain ⟨a, n, cap, rfl, k3, ver3, l3, hl3, _, g⟩ := hs0
  rw [hrow] at hl3; cases hl3
  obtain ⟨rfl, g1, g2, g3, g4, g5⟩ := g rfl
  obtain ⟨q, hq, hf⟩ := L.take (P := P) (min n ys.len) (by omega)
  obtain ⟨_, w', hst, hgood⟩ := aDz (P := P) (v := .int .i64 (min n ys.len : Nat)) (c := .int .i64 (min n ys.len : Nat)) H hrow hkf hs hov hq (fun Y => rfl)
  refine ⟨_, w', ?_, hgood⟩
  have hk := (yT hov g2).2.2
  have hmin : Nat.min ys.len n = min n ys.len := Nat.min_comm _ _
  have hf := hf (w' := X.w) rfl
  rw [hk] at hf
  have hln := aFd (P := P) L X.w
  have hes : (Go.sizeOf E).run P X.w = .ok l.kind.size X.w := mB he X.w
  cases a with
  | none =>
    have hst : X.w = w' := by simpa using hst
    subst hst
    simp [Builtin.copy_, run_underlying hu, hln, hes, hmin, hf, goInt]
  | some ad => simp [Builtin.copy_, run_underlying hu, hln, hes, hmin, hf, hst, goInt]

theorem aGj (H : HR X) {T ty : TypeId} {d : TyD} {s : AV} {cs : Value} {id : Nat} {o' : AObj} {S : Prop} {v : AV} (hT : tyB P d T = true) (hs : VV X s cs)
    (h : pP d X.h s = some (S, v, id, o')) (hS : S) : ∃ r w', (Builtin.clear_ #[T] ty #[cs]).run P X.w = .ok r w' ∧ Good X (X.h.set id o') v r w' := by
  unfold pP at h
  split at h
  rotate_left
  · cases h
  rename_i y id0 ver off len
  split at h
  rotate_left
  · cases h
  rename_i hfit
  obtain ⟨k, ver', l, hrow, rfl⟩ := pX hfit
  obtain ⟨E, hu, he⟩ := iM hT
  unfold aEO at h
  split at h
  rotate_left
  · cases h
  rename_i k2 ver2 l2 hrow2
  rw [jY hrow] at hrow2
  cases hrow2
  split at h
  rotate_left
  · cases h
  rename_i hc
  obtain ⟨rfl, hkf⟩ := hc
  split at h
  rotate_left
  · cases h
  rename_i l' hov
  cases h
  have hs0 := hs
  obtain ⟨a, n, cap, rfl, k3, ver3, l3, hl3, _, g⟩ := hs0
  rw [hrow] at hl3; cases hl3
  obtain ⟨rfl, g1, g2, g3, g4, g5⟩ := g rfl
  obtain ⟨i, z, hi, hsz, hb, hz, hzc⟩ := (elOk he).info
  have hzero : (zeroValue E).run P X.w = .ok z X.w := by simp [zeroValue, typeInfo, hi, hz]
  have hzs : z.cells.size = l.kind.size := by rw [← Array.length_toList, pT (hzc X), pZ]
  have hfl : (Builtin.zeroCells z.cells n).toList = (List.replicate n z.cells.toList).flatten := by
    rw [← uI hzs l.kind.size_pos]; simp [Builtin.zeroCells, madeCells, hzs]
  have hq : LR X ((l.kind.zeros n).cut 0 (min n (l.kind.zeros n).len)) (List.replicate n z.cells.toList).flatten := by
    rw [iO, Nat.min_self]
    have := aDa (l.kind.zeros n)
    rw [iO] at this
    rw [this]; exact wZ X (hzc X) n
  obtain ⟨_, w', hst, hgood⟩ := aDz (P := P) (v := .tup []) (c := .tuple #[]) H hrow hkf hs hov hq (fun Y => by simp only [VV]; exact ⟨#[], rfl, by simp [VVs]⟩)
  refine ⟨_, w', ?_, hgood⟩
  cases a with
  | none =>
    have hst : X.w = w' := by simpa using hst
    subst hst
    simp [Builtin.clear_, run_underlying hu]
  | some ad =>
    by_cases hn : n = 0
    · subst hn
      have hst : X.w = w' := by simpa [storeCells] using hst
      subst hst
      simp [Builtin.clear_, run_underlying hu]
    · obtain ⟨m, rfl⟩ : ∃ m, n = m + 1 := ⟨n - 1, by omega⟩
      simp [Builtin.clear_, run_underlying hu, hzero, hfl, hst]
end
end Lam
namespace Lam
open Go

section
variable {P : Program} {X : Cx}

inductive uJ (P : Program) (K : TypeId) : Value → Prop where
  | int (n : Int) (hu : P.underlying K = some (.int .i64)) : uJ P K (.int .i64 n)
  | str (s : bF) (hu : P.underlying K = some .string) : uJ P K (.string (bstr s))

inductive oJ : Value → List MapEntry → Prop where
  | int (n : Int) (es : List MapEntry) (h : ∀ e ∈ es, ∃ k, e.key = .int .i64 k) : oJ (.int .i64 n) es
  | str (s : bF) (es : List MapEntry) (h : ∀ e ∈ es, ∃ k, e.key = .string (bstr k)) : oJ (.string (bstr s)) es

def nY (k : Value) : List MapEntry → Nat → Option (Nat × Value)
  | [], _ => none
  | e :: r, i => if jF k e.key = true then some (i, e.val) else nY k r (i + 1)

theorem oJ.tail {k : Value} {e : MapEntry} {es : List MapEntry} (h : oJ k (e :: es)) : oJ k es := by
  cases h with
  | int n es h => exact .int _ _ fun e he => h e (by simp [he])
  | str n es h => exact .str _ _ fun e he => h e (by simp [he])

theorem aFe (a b : bF) : (bstr a == bstr b) = decide (a = b) := by
  rw [beq_toListBytes, iS, iS, Bool.eq_iff_iff]; simp

theorem aBZ {K : TypeId} {d : TypeDesc} {k : Value} (hK : uJ P K k) (hu : P.underlying K = some d) : ∀ {es : List MapEntry} (i : Nat), oJ k es → Instr.findNow d k es i = some (nY k es i)
  | [], i, _ => rfl
  | e :: r, i, h => by
    have ih := aBZ hK hu (es := r) (i + 1) h.tail
    have hs : Instr.sameNow d k e.key = some (jF k e.key) := by
      cases hK with
      | int n hu' =>
        rw [hu] at hu'; cases hu'
        cases h with
        | int n es h => obtain ⟨j, hj⟩ := h e (by simp); rw [hj]; simp only [Instr.sameNow, jF, if_true]; congr 1
      | str s hu' =>
        rw [hu] at hu'; cases hu'
        generalize hq : Value.string (bstr s) = q at h
        cases h with
        | int n es h => cases hq
        | str s' es h =>
          cases hq
          obtain ⟨j, hj⟩ := h e (by simp); rw [hj]
          simp only [Instr.sameNow, jF]
          congr 1
          rw [aFe]; rfl
    simp only [Instr.findNow, hs, nY]
    cases jF k e.key
    · simpa using ih
    · rfl

theorem aCa {k z : Value} : ∀ (es : List MapEntry) (i : Nat), iV k z es = match nY k es i with | some (_, v) => v | none => z
  | [], _ => rfl
  | e :: r, i => by
    simp only [iV, nY]
    split
    · rfl
    · exact aCa r (i + 1)

theorem vC {K : TypeId} {k : Value} (h : uJ P K k) (b : Bool) (w : World) : (Instr.checkKey b 10000 K k).run P w = .ok () w := by
  have key : ∀ n, (Instr.checkKey b (n + 1) K k).run P w = .ok () w := fun n => by
    cases h with
    | int n hu => simp only [Instr.checkKey, Sem.run_bind, run_underlying hu, Result.andThen_ok, Sem.run_pure]
    | str s hu => simp only [Instr.checkKey, Sem.run_bind, run_underlying hu, Result.andThen_ok, Sem.run_pure]
  exact key 9999

theorem xE {K : TypeId} {k : Value} (h : uJ P K k) {es : List MapEntry} (he : oJ k es) (w : World) : (Instr.findKey K k es).run P w = .ok (nY k es 0) w := by
  have key : ∀ d, P.underlying K = some d → (Instr.findKey K k es).run P w = .ok (nY k es 0) w := fun d hu => by
    simp only [Instr.findKey, Sem.run_bind, run_underlying hu, Result.andThen_ok, aBZ h hu 0 he, Sem.run_pure]
  cases h with
  | int n hu => exact key _ hu
  | str s hu => exact key _ hu

theorem qX {w : World} {r : Nat} {es : Array MapEntry} {ck : Nat} (h : w.heap[r]? = some (.map es ck)) : (getObj r).run P w = .ok (.map es ck) w := by
  simp [getObj, Sem.run, h]

theorem sQ {T K E : TypeId} {k z : Value} {r : Nat} {es : Array MapEntry} {ck : Nat} (hu : P.underlying T = some (.map K E)) (hk : uJ P K k) (hE : (zeroValue E).run P X.w = .ok z X.w)
    (hr : X.w.heap[r]? = some (.map es ck)) (he : oJ k es.toList) : (Instr.lookup T (.map (some r)) k false).run P X.w = .ok (iV k z es.toList) X.w := by
  simp only [Instr.lookup, Sem.run_bind, run_underlying hu, Result.andThen_ok, qX hr, Sem.run_pure, vC hk, xE hk he]
  rw [aCa es.toList 0]
  cases nY k es.toList 0 with
  | none => simp [hE]
  | some p => rfl

theorem mF {m : MK} {K E : TypeId} (h : mapB P m K E = true) :
    (m = .sb → P.underlying K = some .string) ∧ (m ≠ .sb → P.underlying K = some (.int .i64)) ∧
    ∀ w, (zeroValue E).run P w = .ok (match m with | .ib => .bool false | .sb => .bool false | .ii => .int .i64 0 | .ifn => .nilFunc) w := by
  unfold mapB at h
  simp only [Bool.and_eq_true] at h
  obtain ⟨h1, h2⟩ := h
  refine ⟨?_, ?_, ?_⟩
  · rintro rfl
    split at h1 <;> simp_all
  · intro hm
    split at h1 <;> simp_all
  · intro w
    split at h2
    · cases h2
    · rename_i i hi
      split at h2 <;> first | cases h2 | skip
      all_goals (rename_i hz; simp [zeroValue, typeInfo, hi, hz])

theorem mG {d : TyD} {m : MK} (h : d.isMap m = true) : d = .map m := by
  unfold TyD.isMap at h
  split at h <;> first | rfl | cases h

theorem pI (H : HR X) {id b : Nat} {m : MapC} (h : X.h[id]? = some (.map m)) (hb : X.μ[id]? = some (some b)) : ∃ es ck, X.w.heap[b]? = some (.map es ck) ∧ MapR m es := by
  obtain ⟨b0, hb0, b', es, ck, rfl, h1, h2⟩ := H.obj _ _ h
  rw [hb] at hb0; cases hb0
  exact ⟨es, ck, h1, h2⟩

theorem aKy (f : Option FuncId) : VV X (aBH f) (fnV f) := by
  cases f with
  | none => exact (rfl : _ = _)
  | some f => simp only [aBH, fnV, VV]; exact ⟨#[], #[], rfl, by simp [VVs], by simp [VVs]⟩

theorem aFf (H : HR X) {T : TypeId} {d : TyD} {x k : AV} {c ck : Value} {S : Prop} {v : AV} {news : List AObj} (hT : tyB P d T = true) (hx : VV X x c) (hk : VV X k ck)
    (h : kS d X.h x k = some (S, v, news)) (hS : S) : news = [] ∧ Pure P (Instr.lookup T c ck false) X v := by
  unfold kS at h
  split at h
  rotate_left
  · cases h
  rename_i id
  obtain ⟨b, hb, rfl, _⟩ : ∃ b, X.μ[id]? = some (some b) ∧ c = .map (some b) ∧ rowO (X.h[id]?) = none := hx
  unfold qU at h
  split at h
  · rename_i m n ho
    have h2 := (dT h).2
    obtain rfl := mG (dT h).1
    obtain ⟨rfl, rfl, rfl⟩ := dP h2
    obtain rfl : ck = .int .i64 n := hk
    obtain ⟨K, E, hu, hm⟩ := oH hT
    obtain ⟨_, k2, k3⟩ := mF hm
    obtain ⟨es, ck, hr, hM⟩ := pI H ho hb
    exact ⟨rfl, _, sQ hu (.int n (k2 (by simp))) (k3 _) hr (.int _ _ hM.1), hM.2 n⟩
  · rename_i m n ho
    have h2 := (dT h).2
    obtain rfl := mG (dT h).1
    obtain ⟨rfl, rfl, rfl⟩ := dP h2
    obtain rfl : ck = .int .i64 n := hk
    obtain ⟨K, E, hu, hm⟩ := oH hT
    obtain ⟨_, k2, k3⟩ := mF hm
    obtain ⟨es, ck, hr, hM⟩ := pI H ho hb
    exact ⟨rfl, _, sQ hu (.int n (k2 (by simp))) (k3 _) hr (.int _ _ hM.1), hM.2 n⟩
  · rename_i m n ho
    have h2 := (dT h).2
    obtain rfl := mG (dT h).1
    obtain ⟨rfl, rfl, rfl⟩ := dP h2
    obtain rfl : ck = .int .i64 n := hk
    obtain ⟨K, E, hu, hm⟩ := oH hT
    obtain ⟨_, k2, k3⟩ := mF hm
    obtain ⟨es, ck, hr, hM⟩ := pI H ho hb
    refine ⟨rfl, _, sQ hu (.int n (k2 (by simp))) (k3 _) hr (.int _ _ hM.1), ?_⟩
    rw [hM.2 n]; exact aKy _
  · rename_i m n ho
    have h2 := (dT h).2
    obtain rfl := mG (dT h).1
    obtain ⟨rfl, rfl, rfl⟩ := dP h2
    obtain rfl : ck = .string (bstr n) := hk
    obtain ⟨K, E, hu, hm⟩ := oH hT
    obtain ⟨k1, _, k3⟩ := mF hm
    obtain ⟨es, ck, hr, hM⟩ := pI H ho hb
    exact ⟨rfl, _, sQ hu (.str n (k1 rfl)) (k3 _) hr (.str _ _ hM.1), hM.2 n⟩
  · cases h
end
end Lam
namespace Lam
open Go

section
variable {P : Program} {X : Cx}

theorem aKz {k : Value} {e : MapEntry} {es : List MapEntry} (h : oJ k es) (he : e ∈ es) (hk : jF k e.key = true) : e.key = k := by
  cases h with
  | int n es h => obtain ⟨j, hj⟩ := h e he; rw [hj] at hk ⊢; simp [jF] at hk; rw [hk]
  | str n es h =>
    obtain ⟨j, hj⟩ := h e he; rw [hj] at hk ⊢
    simp only [jF, decide_eq_true_eq] at hk
    have : n = j := by simpa [bstr] using hk
    rw [this]

theorem aCb {k : Value} : ∀ {es : List MapEntry} {i j : Nat} {v : Value}, nY k es i = some (j, v) → ∃ pre e post, es = pre ++ e :: post ∧ j = i + pre.length ∧ jF k e.key = true ∧ e.val = v ∧ ∀ p ∈ pre, jF k p.key = false
  | [], _, _, _, h => by cases h
  | e :: r, i, j, v, h => by
    simp only [nY] at h
    split at h
    · rename_i hk; cases h; exact ⟨[], e, r, rfl, rfl, hk, rfl, by simp⟩
    · rename_i hk
      obtain ⟨pre, e', post, rfl, h2, h3, h4, h5⟩ := aCb h
      refine ⟨e :: pre, e', post, rfl, by simp; omega, h3, h4, fun p hp => ?_⟩
      rcases List.mem_cons.1 hp with rfl | hp
      · simpa using hk
      · exact h5 p hp

theorem aCc {k : Value} : ∀ {es : List MapEntry} {i : Nat}, nY k es i = none → ∀ p ∈ es, jF k p.key = false
  | [], _, _ => by simp
  | e :: r, i, h => by
    simp only [nY] at h
    split at h
    · cases h
    · rename_i hk
      intro p hp
      rcases List.mem_cons.1 hp with rfl | hp
      · simpa using hk
      · exact aCc h p hp

theorem yU {q z : Value} : ∀ {pre post : List MapEntry}, (∀ p ∈ pre, jF q p.key = false) → iV q z (pre ++ post) = iV q z post
  | [], _, _ => rfl
  | p :: pre, post, h => by
    simp only [List.cons_append, iV, h p (by simp), Bool.false_eq_true, if_false]
    exact yU fun x hx => h x (by simp [hx])

theorem aCd {q z : Value} {e e' : MapEntry} {post : List MapEntry} (h : jF q e.key = false) (h' : jF q e'.key = false) : ∀ pre : List MapEntry, iV q z (pre ++ e' :: post) = iV q z (pre ++ e :: post)
  | [] => by simp [iV, h, h']
  | p :: pre => by simp only [List.cons_append, iV, aCd h h' pre]

theorem aCe {q z : Value} {e : MapEntry} (h : jF q e.key = false) : ∀ es : List MapEntry, iV q z (es ++ [e]) = iV q z es
  | [] => by simp [iV, h]
  | p :: es => by simp only [List.cons_append, iV, aCe h es]

theorem aEs {k : Value} (h : ∃ K, uJ P K k) : Instr.sameBits 10000 k k = true := by
  obtain ⟨K, h⟩ := h
  cases h with
  | int n hu => simp [Instr.sameBits]
  | str s hu => simp only [Instr.sameBits, aFe, decide_true]

theorem vY {w : World} {r : Nat} {es : Array MapEntry} {ck : Nat} (h : w.heap[r]? = some (.map es ck)) (o : Obj) : (setObj r o).run P w = .ok () { w with heap := w.heap.setIfInBounds r o } := by
  simp [setObj, Sem.run, h]

theorem aAl {T K E : TypeId} {k : Value} {r : Nat} {es : Array MapEntry} {ck : Nat} (val : Value) (hu : P.underlying T = some (.map K E)) (hk : uJ P K k)
    (hr : X.w.heap[r]? = some (.map es ck)) (he : oJ k es.toList) :
    ∃ es' ck', (Instr.mapUpdate T (.map (some r)) k val).run P X.w = .ok () { X.w with heap := X.w.heap.setIfInBounds r (.map es' ck') } ∧
      (∀ e ∈ es'.toList, e.key = k ∨ ∃ e0 ∈ es.toList, e.key = e0.key) ∧ (∀ z, iV k z es'.toList = val) ∧ ∀ q z, jF q k = false → iV q z es'.toList = iV q z es.toList := by
  have hkk : jF k k = true := by cases hk <;> simp [jF]
  cases hf : nY k es.toList 0 with
  | none =>
    have hno := aCc hf
    refine ⟨es.push { key := k, val := val, born := ck }, ck + 1, ?_, ?_, ?_⟩
    · simp only [Instr.mapUpdate, Sem.run_bind, run_underlying hu, Result.andThen_ok, qX hr, vC hk, xE hk he, hf, vY hr]
    · intro e hmem
      rw [Array.toList_push] at hmem
      rcases List.mem_append.1 hmem with h | h
      · exact .inr ⟨e, h, rfl⟩
      · rw [List.mem_singleton.1 h]; exact .inl rfl
    · refine ⟨fun z => ?_, fun q z hq => ?_⟩
      · rw [Array.toList_push, yU hno]; simp [iV, hkk]
      · rw [Array.toList_push, aCe hq]
  | some p =>
    obtain ⟨j, v⟩ := p
    obtain ⟨pre, e, post, hes, hj, hke, hv, hpre⟩ := aCb hf
    have hmem : e ∈ es.toList := by rw [hes]; simp
    have hkey := aKz he hmem hke
    simp only [Nat.zero_add] at hj
    have hget : es[j]? = some e := by rw [← Array.getElem?_toList, hes, hj]; simp
    have hmod : (es.modify j fun e => { e with key := k, val := val }).toList = pre ++ { e with key := k, val := val } :: post := by
      rw [Array.toList_modify, hes, hj]
      apply List.ext_getElem?
      intro m
      rw [List.getElem?_modify]
      by_cases hm : m < pre.length
      · have e1 : ¬ pre.length = m := by omega
        rw [List.getElem?_append_left hm, List.getElem?_append_left hm]; simp [e1]
      · rw [List.getElem?_append_right (by omega), List.getElem?_append_right (by omega)]
        by_cases hm2 : m = pre.length
        · subst hm2; simp
        · have e1 : ¬ pre.length = m := by omega
          obtain ⟨x, hx⟩ : ∃ x, m - pre.length = x + 1 := ⟨m - pre.length - 1, by omega⟩
          rw [hx]; simp [e1]
    refine ⟨es.modify j fun e => { e with key := k, val := val }, ck, ?_, ?_, ?_⟩
    · have hsame := aEs (P := P) (k := k) ⟨K, hk⟩
      simp only [Instr.mapUpdate, Sem.run_bind, run_underlying hu, Result.andThen_ok, qX hr, vC hk, xE hk he, hf, hget, Option.map_some, Option.getD_some, hkey, Instr.keyThatStays, hsame, if_true, Sem.run_pure, vY hr]
    · intro x hx
      rw [hmod] at hx
      rcases List.mem_append.1 hx with h | h
      · exact .inr ⟨x, by rw [hes]; simp [h], rfl⟩
      · rcases List.mem_cons.1 h with rfl | h
        · exact .inl rfl
        · exact .inr ⟨x, by rw [hes]; simp [h], rfl⟩
    · refine ⟨fun z => ?_, fun q z hq => ?_⟩
      · rw [hmod, yU hpre]; simp [iV, hkk]
      · rw [hmod, hes]
        exact aCd (by rw [hkey]; exact hq) hq pre

theorem rF (H : HR X) {id b : Nat} {m m' : MapC} {es es' : Array MapEntry} {ck ck' : Nat} (ho : X.h[id]? = some (.map m)) (hb : X.μ[id]? = some (some b)) (hg : X.w.heap[b]? = some (.map es ck)) (hM : MapR m' es') :
    Good X (X.h.set id (.map m')) .und undef { X.w with heap := X.w.heap.setIfInBounds b (.map es' ck') } := by
  have hlt : b < X.w.heap.size := (Array.getElem?_eq_some_iff.1 hg).1
  have U : Upd X ⟨X.S, X.μ.set id (some b), X.h.set id (.map m'), { X.w with heap := X.w.heap.setIfInBounds b (.map es' ck') }⟩ id (.map m) (.map m') (some b) (some b) :=
    { S := rfl, hh := rfl, mu := rfl, ho := ho, hb := hb
      heap := fun k _ hk => by
        simp only [Array.getElem?_setIfInBounds]
        rw [if_neg (fun e => hk (by rw [e]))]
      grow := by simp
      blk := .inl rfl
      env := ⟨rfl, rfl, rfl⟩, own := fun k hk hS => by
        cases hk
        obtain ⟨_, _, h⟩ := (H.live _ _ hb).2 hS; rw [ho] at h; cases h
      row := fun k ver l h => by cases h
      oth := fun _ => .inr ⟨rfl, rfl⟩ }
  refine ⟨⟨X.S, X.μ.set id (some b), X.h.set id (.map m'), { X.w with heap := X.w.heap.setIfInBounds b (.map es' ck') }⟩, rfl, rfl, U.hr H fun E => ⟨b, es', ck', rfl, ?_, hM⟩, U.ext H, rfl⟩
  simp [hlt]

theorem aFg {es es' : Array MapEntry} {n : Int} (hkeys : ∀ e ∈ es.toList, ∃ k, e.key = .int .i64 k)
    (h1 : ∀ e ∈ es'.toList, e.key = .int .i64 n ∨ ∃ e0 ∈ es.toList, e.key = e0.key) : ∀ e ∈ es'.toList, ∃ k, e.key = .int .i64 k := by
  intro e he
  rcases h1 e he with h | ⟨e0, h0, h⟩
  · exact ⟨n, h⟩
  · obtain ⟨k, hk⟩ := hkeys e0 h0; exact ⟨k, by rw [h, hk]⟩

theorem yV (H : HR X) {T : TypeId} {d : TyD} {x k v : AV} {c ck cv : Value} {S : Prop} {id : Nat} {o' : AObj} (hT : tyB P d T = true) (hx : VV X x c) (hk : VV X k ck) (hv : VV X v cv)
    (h : iQ d X.h x k v = some (S, id, o')) (hS : S) : ∃ w', (Instr.mapUpdate T c ck cv).run P X.w = .ok () w' ∧ Good X (X.h.set id o') .und undef w' := by
  unfold iQ at h
  split at h
  rotate_left
  · cases h
  rename_i id0
  obtain ⟨b, hb, rfl, _⟩ : ∃ b, X.μ[id0]? = some (some b) ∧ c = .map (some b) ∧ rowO (X.h[id0]?) = none := hx
  split at h
  rotate_left
  · cases h
  rename_i m' hm'
  cases h
  unfold nV at hm'
  split at hm'
  · rename_i m n q ho
    split at hm'
    · rename_i hd
      cases hm'
      obtain rfl := mG hd
      obtain rfl : ck = .int .i64 n := hk
      obtain rfl : cv = .bool q := hv
      obtain ⟨K, E, hu, hm⟩ := oH hT
      obtain ⟨_, k2, k3⟩ := mF hm
      obtain ⟨es, ck0, hr, hM⟩ := pI H ho hb
      obtain ⟨es', ck', g1, g2, g3, g4⟩ := aAl (P := P) (.bool q) hu (.int n (k2 (by simp))) hr (.int _ _ hM.1)
      refine ⟨_, g1, rF H ho hb hr ⟨aFg hM.1 g2, fun j => ?_⟩⟩
      by_cases e : j = n
      · subst e; rw [g3]; dsimp only; rw [if_pos rfl]
      · rw [g4 _ _ (by simpa [jF] using e), hM.2 j]; dsimp only; rw [if_neg e]
    · cases hm'
  · rename_i m n q ho
    split at hm'
    · rename_i hd
      cases hm'
      obtain rfl := mG hd
      obtain rfl : ck = .int .i64 n := hk
      obtain rfl : cv = .int .i64 q := hv
      obtain ⟨K, E, hu, hm⟩ := oH hT
      obtain ⟨_, k2, k3⟩ := mF hm
      obtain ⟨es, ck0, hr, hM⟩ := pI H ho hb
      obtain ⟨es', ck', g1, g2, g3, g4⟩ := aAl (P := P) (.int .i64 q) hu (.int n (k2 (by simp))) hr (.int _ _ hM.1)
      refine ⟨_, g1, rF H ho hb hr ⟨aFg hM.1 g2, fun j => ?_⟩⟩
      by_cases e : j = n
      · subst e; rw [g3]; dsimp only; rw [if_pos rfl]
      · rw [g4 _ _ (by simpa [jF] using e), hM.2 j]; dsimp only; rw [if_neg e]
    · cases hm'
  · rename_i m n f ho
    split at hm'
    · rename_i hd
      cases hm'
      obtain rfl := mG hd
      obtain rfl : ck = .int .i64 n := hk
      obtain rfl : cv = fnV (some f) := by
        simp only [VV] at hv
        obtain ⟨a, d, rfl, h1, h2⟩ := hv
        simp only [VVs, Array.toList_eq_nil_iff] at h1 h2
        subst h1 h2; rfl
      obtain ⟨K, E, hu, hm⟩ := oH hT
      obtain ⟨_, k2, k3⟩ := mF hm
      obtain ⟨es, ck0, hr, hM⟩ := pI H ho hb
      obtain ⟨es', ck', g1, g2, g3, g4⟩ := aAl (P := P) (fnV (some f)) hu (.int n (k2 (by simp))) hr (.int _ _ hM.1)
      refine ⟨_, g1, rF H ho hb hr ⟨aFg hM.1 g2, fun j => ?_⟩⟩
      by_cases e : j = n
      · subst e; rw [g3]; dsimp only; rw [if_pos rfl]
      · rw [g4 _ _ (by simpa [jF] using e), hM.2 j]; dsimp only; rw [if_neg e]
    · cases hm'
  · rename_i m n q ho
    split at hm'
    · rename_i hd
      cases hm'
      obtain rfl := mG hd
      obtain rfl : ck = .string (bstr n) := hk
      obtain rfl : cv = .bool q := hv
      obtain ⟨K, E, hu, hm⟩ := oH hT
      obtain ⟨k1, _, k3⟩ := mF hm
      obtain ⟨es, ck0, hr, hM⟩ := pI H ho hb
      obtain ⟨es', ck', g1, g2, g3, g4⟩ := aAl (P := P) (.bool q) hu (.str n (k1 rfl)) hr (.str _ _ hM.1)
      refine ⟨_, g1, rF H ho hb hr ⟨fun e he => ?_, fun j => ?_⟩⟩
      · rcases g2 e he with h | ⟨e0, h0, h⟩
        · exact ⟨n, h⟩
        · obtain ⟨k, hk⟩ := hM.1 e0 h0; exact ⟨k, by rw [h, hk]⟩
      · by_cases e : j = n
        · subst e; rw [g3]; dsimp only; rw [if_pos rfl]
        · have hq : jF (.string (bstr j)) (.string (bstr n)) = false := decide_eq_false (by simpa [bstr] using e)
          rw [g4 _ _ hq, hM.2 j]; dsimp only; rw [if_neg e]
    · cases hm'
  · cases hm'
end
end Lam
namespace Lam
open Go

abbrev DR := Option (Prop × AV × List AObj × Option (Nat × AObj))

def ofD (x : D) : DR :=
  match x with
  | some (S, v, news) => some (S, v, news, none)
  | none => none
def ofH (x : Option (Prop × Nat × AObj)) : DR :=
  match x with
  | some (S, id, o) => some (S, .und, [], some (id, o))
  | none => none
def ofM (x : Option (Prop × AV × Nat × AObj)) : DR :=
  match x with
  | some (S, v, id, o) => some (S, v, [], some (id, o))
  | none => none
def ofDM (x : D) (y : Option (Prop × AV × Nat × AObj)) : DR :=
  match x with
  | some d => ofD (some d)
  | none => ofM y
def aEA (p : Prop) (x : DR) : DR :=
  match x with
  | some (S, r) => some (p ∧ S, r)
  | none => none
def aCf (b : Bool) (x : DR) : DR :=
  match b with
  | true => x
  | false => none
def aHg (d : TyD) (s : Nat) : DR := some (mZ d, .ptr s [], [boxO d.zero], none)
def aLr (d : TyD) (v : AV) (s : Nat) : DR := some (fitP d v, .ptr s [], [boxO v], none)

def vZ (la : Option Nat) (x : Option (Bool × D)) (rows : List Nat) (s : Nat) (h : List AObj) : DR :=
  match x with
  | some (true, some (S, v, news)) => some (S, v.shift s, news, none)
  | some (false, some (S, v, _)) => match v.noSl with
    | true => some (S, v, [], none)
    | false => match rows with
      | [] => some (S, v, [], none)
      | [id] => match decide (la = some id) with
        | true => some (S, v, [], (h[id]?).map fun o => (id, froO o))
        | false => none
      | _ => none
  | _ => none

def oK (mt : Bool) (c : Ctx) (s : Nat) (f : AV) (args : List AV) (h : List AObj) : DR :=
  match f with
  | .fn (.func f) first cap => vZ (mS mt args) (nD c f (AV.vals h (first ++ args ++ cap))) (AV.rowss (first ++ args ++ cap)) s h
  | _ => none

def mL (d e : TyD) (s x : AV) (h : List AObj) (n : Nat) : DR :=
  match e with
  | .slice _ => ofDM (fT d h s x n) (gJ d h s x)
  | .int _ => match x with
    | .int .i64 m => aEA (0 ≤ m ∧ m ≤ 68719476736) (ofDM (fT d h s (jX d m) n) (gJ d h s (jX d m)))
    | _ => none
  | _ => none

def lO (b : Builtin) (ds : List TyD) (args : List AV) (h : List AObj) (n : Nat) : DR :=
  match b, ds, args with
  | .len, [d], [v] => ofD (lenD d h v)
  | .min, _, [x, y] => ofD (minD x y)
  | .max, _, [x, y] => ofD (maxD x y)
  | .append, [d, e], [s, x] => mL d e s x h n
  | .copy, [ty, _], [d, s] => ofM (lA ty h d s)
  | .clear, [ty], [d] => ofM (pP ty h d)
  | _, _, _ => none

def kE (c : Ctx) (t : List (Nat × AV)) (cl : Call) : List AV := (cl.args.toList.zip cl.argTypes.toList).map fun p => ev t (c.tab p.2) p.1

def opD (c : Ctx) (apps : List Nat) (s : Nat) (t : List (Nat × AV)) (h : List AObj) (op : Op) (type : TypeId) : DR :=
  match op with
  | .move x => some (True, ev t (c.tab type) x, [], none)
  | .assign x => some (True, ev t (c.tab type) x, [], none)
  | .pick cnd a b => ofD (bP (ev t .bool cnd) (ev t .bool a) (ev t .bool b))
  | .alloc T => aHg (c.tab T) s
  | .box T x => aLr (c.tab T) (ev t (c.tab T) x) s
  | .build T parts => ofD (gC (c.tab T) (parts.toList.map fun p => (p.1, ev t ((c.tab T).field p.1) p.2)))
  | .buildSlice T n parts => ofD (fD (c.tab T) n (parts.toList.map fun p => (p.1, ev t .other p.2)) s)
  | .load T a => ofD (fitD (c.tab T) (aD h (ev t .ptr a)))
  | .store T a v => ofH (aQ (c.tab T) h (ev t .ptr a) (ev t (c.tab T) v))
  | .nilCheck x => ofD (cJ (ev t .ptr x))
  | .binOp op xt x y _ => match mJ y, op with
    | true, .eql => none
    | _, _ => ofD (binD (c.tab xt) op (ev t (c.tab xt) x) (ev t (c.tab xt) y))
  | .unOp op _ x => ofD (unD op (ev t .bool x))
  | .convert s d x => ofD (iI h (c.tab s) (c.tab d) (ev t (c.tab s) x))
  | .makeInterface T x => aCf (c.tab T).known (some (True, .iface T (ev t (c.tab T) x), [], none))
  | .makeFunc fn first cap => some (True, .fn fn (first.toList.map (ev t .other)) (cap.toList.map (ev t .other)), [], none)
  | .makeMap T none => ofD (jP (c.tab T) s)
  | .makeSlice T l cp => ofD (jD (c.tab T) (ev t (.int .i64) l) (ev t (.int .i64) cp) s)
  | .slice T x lo hi mx => ofD (dO (c.tab T) h (ev t (c.tab T) x) (lo.map (ev t (.int .i64))) (hi.map (ev t (.int .i64))) (mx.map (ev t (.int .i64))))
  | .fieldAddr T x f => ofD (aC (c.tab T) (ev t .ptr x) f)
  | .field T x f => ofD (yJ (c.tab T) (ev t (c.tab T) x) f)
  | .indexAddr T x i => ofD (aH (c.tab T) h (ev t (c.tab T) x) (ev t (.int .i64) i))
  | .index T x i => ofD (rM (c.tab T) (ev t (c.tab T) x) (ev t (.int .i64) i))
  | .lookup T x k false => ofD (kS (c.tab T) h (ev t .other x) (ev t (.int .i64) k))
  | .mapUpdate T x k v => ofH (iQ (c.tab T) h (ev t .other x) (ev t (.int .i64) k) (ev t .other v))
  | .insert T x k v => ofH (iQ (c.tab T) h (ev t .other x) (ev t (.int .i64) k) (ev t .other v))
  | .extract x i => ofD (bM (ev t .other x) i)
  | .call cl => match Nat.beq cl.args.toList.length cl.argTypes.toList.length with
    | false => none
    | true => match cl.callee with
      | .builtin b => lO b (cl.argTypes.toList.map c.tab) (kE c t cl) h s
      | .value f => oK (vO apps cl.args.toList) c s (ev t .func f) (kE c t cl) h
      | _ => none
  | _ => none

def dI (h : List AObj) (m : Option (Nat × AObj)) : List AObj :=
  match m with
  | some (id, o) => h.set id o
  | none => h

def OkD (x : DR) (h : List AObj) (K : AV → List AObj → Prop) : Prop := ∃ S v news mm, x = some (S, v, news, mm) ∧ S ∧ K v (dI (h ++ news) mm)

theorem aAm {x : D} {h : List AObj} {K : AV → List AObj → Prop} (hr : runD x h K) : OkD (ofD x) h K := by
  unfold runD at hr; split at hr
  · exact ⟨_, _, _, _, rfl, hr.1, hr.2⟩
  · exact hr.elim
theorem aOA {x : Option (Prop × Nat × AObj)} {h : List AObj} {K : AV → List AObj → Prop} (hr : runH x h K) : OkD (ofH x) h K := by
  unfold runH at hr; split at hr
  · exact ⟨_, _, _, _, rfl, hr.1, by simpa [dI] using hr.2⟩
  · exact hr.elim
theorem aHM {x : Option (Prop × AV × Nat × AObj)} {h : List AObj} {K : AV → List AObj → Prop} (hr : runM x h K) : OkD (ofM x) h K := by
  unfold runM at hr; split at hr
  · exact ⟨_, _, _, _, rfl, hr.1, by simpa [dI] using hr.2⟩
  · exact hr.elim
theorem aJk {x : D} {y : Option (Prop × AV × Nat × AObj)} {h : List AObj} {K : AV → List AObj → Prop} (hr : jE x y h K) : OkD (ofDM x y) h K := by
  unfold jE at hr; split at hr
  · exact ⟨_, _, _, _, rfl, hr.1, hr.2⟩
  · exact aHM hr
theorem aLQ {p : Prop} {x : DR} {h : List AObj} {K : AV → List AObj → Prop} (hp : p) (hr : OkD x h K) : OkD (aEA p x) h K := by
  obtain ⟨S, v, news, mm, rfl, hS, hK⟩ := hr
  exact ⟨_, _, _, _, rfl, ⟨hp, hS⟩, hK⟩

theorem aHN {d e : TyD} {s x : AV} {h : List AObj} {K : AV → List AObj → Prop} (hr : vN d e s x h K) : OkD (mL d e s x h h.length) h K := by
  unfold vN at hr; split at hr
  · exact aJk hr
  · split at hr
    · exact aLQ hr.1 (aJk hr.2)
    · exact hr.elim
  · exact hr.elim

theorem aGk {b : Builtin} {ds : List TyD} {args : List AV} {h : List AObj} {K : AV → List AObj → Prop} (hr : aBb b ds args h K) : OkD (lO b ds args h h.length) h K := by
  unfold aBb at hr; split at hr
  · exact aAm hr
  · exact aAm hr
  · exact aAm hr
  · exact aHN hr
  · exact aHM hr
  · exact aHM hr
  · exact hr.elim

inductive Spec (c : Ctx) (apps : List Nat) (t : List (Nat × AV)) (h : List AObj) (op : Op) (K KP : AV → List AObj → Prop) : Prop
  | nilEq (xt : TypeId) (x y : Operand) (b : TypeId) (hop : op = .binOp .eql xt x y b) (hn : mJ y = true) (hs : (c.tab xt).slc = true) (hk : pQ ((ev t (c.tab xt) x).len (c.tab xt) h) h K)
  | panic (x : Operand) (hop : op = .panic x) (hk : panW (ev t .iface x) h KP)
  | call (cl : Call) (f : Operand) (hop : op = .call cl) (hcal : cl.callee = .value f) (hl : cl.args.toList.length = cl.argTypes.toList.length)
      (hk : bB (vO apps cl.args.toList) c (ev t .func f) (kE c t cl) h K KP)

theorem aLs {c : Ctx} {apps : List Nat} {t : List (Nat × AV)} {h : List AObj} {op : Op} {type : TypeId} {K KP : AV → List AObj → Prop} (hw : opW c apps t h op type K KP) :
    OkD (opD c apps h.length t h op type) h K ∨ Spec c apps t h op K KP := by
  unfold opW at hw
  split at hw
  case h_1 => exact .inl ⟨_, _, _, _, rfl, trivial, by simpa [dI] using hw⟩
  case h_2 => exact .inl ⟨_, _, _, _, rfl, trivial, by simpa [dI] using hw⟩
  case h_4 => exact .inl ⟨_, _, _, _, rfl, hw.1, by simpa [dI] using hw.2⟩
  case h_5 => exact .inl ⟨_, _, _, _, rfl, hw.1, by simpa [dI] using hw.2⟩
  case h_11 xt x y b =>
    cases hn : mJ y with
    | false =>
      simp only [hn] at hw
      simp only [opD, hn]
      exact .inl (aAm hw)
    | true =>
      rename_i op
      by_cases ho : op = .eql
      · subst ho
        simp only [hn] at hw
        cases hs : (c.tab xt).slc with
        | false => simp only [hs, sL] at hw
        | true => simp only [hs, sL] at hw; exact .inr (.nilEq xt x y b rfl hn hs hw)
      · simp only [opD, hn]
        cases op <;> first | exact absurd rfl ho | (simp only [hn] at hw; exact .inl (aAm hw))
  case h_14 T x =>
    unfold opD
    cases hk : (c.tab T).known with
    | false => simp only [hk, sL] at hw
    | true => simp only [hk, sL] at hw; exact .inl ⟨True, .iface T (ev t (c.tab T) x), [], none, by simp only [hk, aCf], trivial, by simpa [dI] using hw⟩
  case h_15 => exact .inl ⟨_, _, _, _, rfl, trivial, by simpa [dI] using hw⟩
  case h_27 x => exact .inr (.panic x rfl hw)
  case h_28 cl =>
    split at hw
    · exact hw.elim
    · rename_i hl
      split at hw
      · rename_i b hc
        simp only [opD, hl, hc]; exact .inl (aGk hw)
      · rename_i f hc
        exact .inr (.call cl f rfl hc (Nat.eq_of_beq_eq_true hl) hw)
      · exact hw.elim
  case h_29 => exact hw.elim
  all_goals first | exact .inl (aAm hw) | exact .inl (aOA hw)

theorem aCg (h : List AObj) (id : Nat) : dI h ((h[id]?).map fun o => (id, froO o)) = fZ [id] h := by
  apply List.ext_getElem?
  intro i
  simp only [fZ, List.getElem?_modify]
  cases ho : h[id]? with
  | none =>
    simp only [Option.map_none, dI]
    by_cases e : id = i
    · subst e; rw [ho]; rfl
    · simp [if_neg e]
  | some o =>
    have hlt := (List.getElem?_eq_some_iff.1 ho).1
    simp only [Option.map_some, dI, List.getElem?_set]
    by_cases e : id = i
    · subst e; simp only [if_true, hlt, ho]; rfl
    · simp [if_neg e]

theorem aLR {mt : Bool} {c : Ctx} {f : AV} {args : List AV} {h : List AObj} {K KP : AV → List AObj → Prop} (hS : c.drawn = true) (hN : ∀ f args h K, ¬ c.envS f args h K) (hY : ∀ l args h K, ¬ c.envY l args h K) (hw : bB mt c f args h K KP) :
    OkD (oK mt c h.length f args h) h K := by
  unfold bB at hw; unfold oK
  split at hw
  · simp only
    unfold lB at hw; unfold vZ
    split at hw
    · rename_i e; simp only [e]; exact ⟨_, _, _, _, rfl, hw.1, hw.2⟩
    · rename_i e; simp only [e]
      split at hw
      · rename_i hn
        simp only [hn]
        exact ⟨_, _, _, _, rfl, hw.1, by simpa [dI] using hw.2⟩
      · rename_i hn
        simp only [hn]
        obtain ⟨hr, hs, hk⟩ := hw
        rcases hr hS with h0 | h1
        · simp only [h0] at hk ⊢
          exact ⟨_, _, _, _, rfl, hs, by simpa [dI, fZ] using hk⟩
        · cases hla : mS mt args with
          | none =>
            rw [hla] at h1
            rw [← h1] at hk ⊢
            exact ⟨_, _, _, _, rfl, hs, by simpa [dI, fZ] using hk⟩
          | some id =>
            rw [hla] at h1
            rw [← h1] at hk ⊢
            simp only [Option.toList_some, decide_true]
            refine ⟨_, _, _, _, rfl, hs, ?_⟩
            rw [List.append_nil]
            have := aCg h id
            rw [this]; exact hk
    · exact hw.elim
    · exact (hN _ _ _ _ hw).elim
  · exact (hY _ _ _ _ hw).elim
  · exact hw.elim

/-! ### What is looked at -/
def fU (h h' : List AObj) (ids : List Nat) : Prop := ∀ id, id ∈ ids → h[id]? = h'[id]?

theorem fU.sub {h h' : List AObj} {ids js : List Nat} (a : fU h h' ids) (hs : ∀ j, j ∈ js → j ∈ ids) : fU h h' js := fun j hj => a j (hs j hj)

theorem fU.sref {h h' : List AObj} {x : Bool} {id ver off len : Nat} (a : fU h h' (AV.sref x id ver off len).ids) : h[id]? = h'[id]? := a id (by simp [AV.ids])
theorem fU.ptr {h h' : List AObj} {id : Nat} {p : List PS} (a : fU h h' (AV.ptr id p).ids) : h[id]? = h'[id]? := a id (by simp [AV.ids])
theorem fU.map {h h' : List AObj} {id : Nat} (a : fU h h' (AV.map id).ids) : h[id]? = h'[id]? := a id (by simp [AV.ids])

theorem aGl (d : TyD) (v : Value) : (AV.ofConst d v).ids = [] := by
  unfold AV.ofConst; split <;> first | rfl | (split <;> rfl)

theorem aJl (t : List (Nat × AV)) (d d' : TyD) (x : Operand) : (ev t d x).ids = (ev t d' x).ids := by
  cases x <;> simp [ev, aGl]

mutual
theorem sR {h h' : List AObj} : ∀ {vs : List AV}, fU h h' (AV.idss vs) → AV.vals h vs = AV.vals h' vs
  | [], _ => rfl
  | v :: r, a => by
    simp only [AV.idss] at a
    simp only [AV.vals, aJm (a.sub fun j hj => List.mem_append_left _ hj), sR (a.sub fun j hj => List.mem_append_right _ hj)]
theorem aJm {h h' : List AObj} : ∀ {v : AV}, fU h h' v.ids → v.val h = v.val h'
  | .sref x id ver off len, a => by simp only [AV.val, a id (by simp [AV.ids])]
  | .agg vs, a => by simp only [AV.ids] at a; simp only [AV.val, sR a]
  | .tup vs, a => by simp only [AV.ids] at a; simp only [AV.val, sR a]
  | .sl _ _, _ | .top, _ | .und, _ | .int _ _, _ | .bool _, _ | .str _, _ | .arr _, _ | .ep _ _ _, _ | .nilp, _ | .ptr _ _, _ | .map _, _ | .fn _ _ _, _ | .nilfn, _ | .iface _ _, _ | .niliface, _ => rfl
end

theorem sS {h h' : List AObj} {v : AV} (a : fU h h' v.ids) : v.list h = v.list h' := by
  cases v <;> first | rfl | (simp only [AV.list, a.sref])

theorem aJn {h h' : List AObj} {d : TyD} {v : AV} (a : fU h h' v.ids) : v.len d h = v.len d h' := by
  cases d <;> cases v <;> first | rfl | (simp only [AV.len, a.sref])

theorem aHO {h h' : List AObj} {v : AV} (a : fU h h' v.ids) : aD h v = aD h' v := by
  cases v <;> first | rfl | (simp only [aD, a.ptr])

theorem aGm {h h' : List AObj} {d : TyD} {a v : AV} (g : fU h h' a.ids) : aQ d h a v = aQ d h' a v := by
  cases a <;> first | rfl | (simp only [aQ, g.ptr])

theorem aGn {h h' : List AObj} {d : TyD} {v : AV} {lo hi mx : Option AV} (a : fU h h' v.ids) : dO d h v lo hi mx = dO d h' v lo hi mx := by
  cases v with
  | ptr id p => cases p with
    | nil => simp only [dO, a id (by simp [AV.ids])]
    | cons _ _ => rfl
  | sref x id ver off len => simp only [dO, a id (by simp [AV.ids])]
  | _ => rfl

theorem aGo {h h' : List AObj} {d : TyD} {v i : AV} (a : fU h h' v.ids) : aH d h v i = aH d h' v i := by
  cases i with
  | int k n => cases v with
    | ptr id p => cases p with
      | nil => simp only [aH, a id (by simp [AV.ids])]
      | cons _ _ => rfl
    | sref x id ver off len => simp only [aH, a id (by simp [AV.ids])]
    | _ => rfl
  | _ => rfl

theorem aHP {h h' : List AObj} {d : TyD} {v k : AV} (a : fU h h' v.ids) : kS d h v k = kS d h' v k := by
  cases v <;> first | rfl | (simp only [kS, a.map])

theorem yW {h h' : List AObj} {d : TyD} {x k v : AV} (a : fU h h' x.ids) : iQ d h x k v = iQ d h' x k v := by
  cases x <;> first | rfl | (simp only [iQ, a.map])

theorem aHQ {h h' : List AObj} {s d : TyD} {x : AV} (a : fU h h' x.ids) : iI h s d x = iI h' s d x := by
  have hx := sS a
  unfold iI
  split <;> first | rfl | rw [hx]

theorem xY {h h' : List AObj} {d : TyD} {s x : AV} {n : Nat} (a : fU h h' s.ids) (b : fU h h' x.ids) : fT d h s x n = fT d h' s x n := by
  have hx := sS b
  cases s with
  | sl f l => cases f <;> simp only [fT, hx]
  | sref f id ver off len => cases f <;> simp only [fT, hx, a id (by simp [AV.ids])]
  | _ => rfl

theorem xZ {h h' : List AObj} {d : TyD} {s x : AV} (a : fU h h' s.ids) (b : fU h h' x.ids) : gJ d h s x = gJ d h' s x := by
  have hx := sS b
  cases s with
  | sref f id ver off len => cases f <;> simp only [gJ, hx, a id (by simp [AV.ids])]
  | _ => rfl

theorem aHR {h h' : List AObj} {d : TyD} {s x : AV} (a : fU h h' s.ids) (b : fU h h' x.ids) : lA d h s x = lA d h' s x := by
  have hx := sS b
  cases s with
  | sref f id ver off len => simp only [lA, hx, a id (by simp [AV.ids])]
  | _ => rfl

theorem aGp {h h' : List AObj} {d : TyD} {s : AV} (a : fU h h' s.ids) : pP d h s = pP d h' s := by
  cases s with
  | sref f id ver off len => simp only [pP, a id (by simp [AV.ids])]
  | _ => rfl

theorem aFh {h h' : List AObj} {d e : TyD} {s x : AV} {n : Nat} (a : fU h h' s.ids) (b : fU h h' x.ids) : mL d e s x h n = mL d e s x h' n := by
  unfold mL
  split
  · rw [xY a b, xZ a b]
  · split
    · rename_i k m
      have hz : (jX d m).ids = [] := by unfold jX; split <;> rfl
      rw [xY a (by rw [hz]; intro i hi; cases hi), xZ a (by rw [hz]; intro i hi; cases hi)]
    · rfl
  · rfl

theorem aEt {h h' : List AObj} {b : Builtin} {ds : List TyD} {args : List AV} {n : Nat} (a : fU h h' (AV.idss args)) : lO b ds args h n = lO b ds args h' n := by
  have e1 : ∀ x, args = [x] → fU h h' x.ids := by rintro x rfl; simpa [AV.idss] using a
  have e2 : ∀ x y, args = [x, y] → fU h h' x.ids ∧ fU h h' y.ids := by
    rintro x y rfl
    simp only [AV.idss, List.append_nil] at a
    exact ⟨a.sub fun j hj => List.mem_append_left _ hj, a.sub fun j hj => List.mem_append_right _ hj⟩
  unfold lO
  split
  · rw [lenD, lenD, aJn (e1 _ rfl)]
  · rfl
  · rfl
  · exact aFh (e2 _ _ rfl).1 (e2 _ _ rfl).2
  · rw [aHR (e2 _ _ rfl).1 (e2 _ _ rfl).2]
  · rw [aGp (e1 _ rfl)]
  · rfl

def opVs (t : List (Nat × AV)) (op : Op) : List AV := op.operands.toList.map (ev t .other)

theorem aBl {vs : List AV} {v : AV} (h : v ∈ vs) : ∀ j, j ∈ v.ids → j ∈ AV.idss vs := by
  induction vs with
  | nil => cases h
  | cons u r ih =>
    intro j hj
    rcases List.mem_cons.1 h with rfl | h
    · exact List.mem_append_left _ hj
    · exact List.mem_append_right _ (ih h j hj)

theorem aDA {h h' : List AObj} {t : List (Nat × AV)} {op : Op} (a : fU h h' (AV.idss (opVs t op))) {x : Operand} (hx : x ∈ op.operands.toList) (d : TyD) : fU h h' (ev t d x).ids :=
  a.sub fun j hj => by
    rw [aJl t d .other] at hj
    exact aBl (List.mem_map_of_mem hx) j hj

theorem aAL (a b : List AV) : AV.idss (a ++ b) = AV.idss a ++ AV.idss b := by
  induction a with
  | nil => rfl
  | cons v r ih => simp [AV.idss, ih]

theorem xF {vs : List AV} {j : Nat} (h : j ∈ AV.idss vs) : ∃ v, v ∈ vs ∧ j ∈ v.ids := by
  induction vs with
  | nil => simp [AV.idss] at h
  | cons v r ih =>
    simp only [AV.idss, List.mem_append] at h
    rcases h with h | h
    · exact ⟨v, List.mem_cons_self, h⟩
    · obtain ⟨u, hu, hj⟩ := ih h; exact ⟨u, List.mem_cons_of_mem _ hu, hj⟩

theorem lH (cl : Call) : (∀ x, x ∈ cl.args.toList → x ∈ (Op.call cl).operands.toList) ∧ ∀ f, cl.callee = .value f → f ∈ (Op.call cl).operands.toList := by
  constructor
  · intro x hx; cases h : cl.callee <;> simp_all [Op.operands, Call.operands]
  · intro f hf; simp [Op.operands, Call.operands, hf]

theorem vD {h h' : List AObj} {c : Ctx} {t : List (Nat × AV)} {cl : Call} (a : fU h h' (AV.idss (opVs t (.call cl)))) : fU h h' (AV.idss (kE c t cl)) := by
  intro j hj
  obtain ⟨v, hv, hj⟩ := xF hj
  obtain ⟨p, hp, rfl⟩ := List.mem_map.1 hv
  exact aDA a ((lH cl).1 p.1 (List.of_mem_zip hp).1) _ j hj

theorem yX {c : Ctx} {apps : List Nat} {s : Nat} {t : List (Nat × AV)} {h h' : List AObj} {op : Op} {type : TypeId} (a : fU h h' (AV.idss (opVs t op))) : opD c apps s t h op type = opD c apps s t h' op type := by
  have g := fun x hx d => aDA a (x := x) hx d
  cases op with
  | load T x => simp only [opD, aHO (g x (by simp [Op.operands]) .ptr)]
  | store T x v => simp only [opD, aGm (g x (by simp [Op.operands]) .ptr)]
  | convert s d x => simp only [opD, aHQ (g x (by simp [Op.operands]) _)]
  | slice T x lo hi mx => simp only [opD, aGn (g x (by simp [Op.operands]) _)]
  | indexAddr T x i => simp only [opD, aGo (g x (by simp [Op.operands]) _)]
  | lookup T x k b => cases b <;> simp only [opD, aHP (g x (by simp [Op.operands]) .other)]
  | mapUpdate T x k v => simp only [opD, yW (g x (by simp [Op.operands]) .other)]
  | insert T x k v => simp only [opD, yW (g x (by simp [Op.operands]) .other)]
  | makeMap T r => cases r <;> rfl
  | call cl =>
    simp only [opD]
    split
    · rfl
    · split
      · exact aEt (vD a)
      · rename_i f hc
        unfold oK
        split
        · rename_i q fn first cap hf
          rw [sR (h' := h')]
          · unfold vZ
            split
            · rfl
            · split
              · rfl
              · split
                · rfl
                · rename_i id hrow
                  split
                  · rename_i hla
                    have hla := of_decide_eq_true hla
                    have hid : id ∈ AV.idss (kE c t cl) := by
                      unfold mS at hla
                      split at hla
                      · rename_i he
                        cases hla
                        exact aBl (List.mem_of_getLast? he) _ (by simp [AV.ids])
                      · cases hla
                    rw [vD a id hid]
                  · rfl
                · rfl
            · rfl
          · intro j hj
            rw [aAL, aAL] at hj
            simp only [List.mem_append] at hj
            have hfn : fU h h' (ev t .func f).ids := g f ((lH cl).2 f hc) .func
            rw [hf] at hfn
            simp only [AV.ids] at hfn
            rcases hj with (hj | hj) | hj
            · exact hfn j (List.mem_append_left _ hj)
            · exact vD a j hj
            · exact hfn j (List.mem_append_right _ hj)
        · rfl
      · rfl
  | _ => rfl

end Lam
namespace Lam
open Go

/-! ### Values by value -/
mutual
theorem iK {X Y : Cx} (hS : ∀ b, X.S b → Y.S b) (hw : ∀ b, X.S b → Y.w.heap[b]? = X.w.heap[b]?) : ∀ {v : AV} {c : Value}, v.closed = true → VV X v c → VV Y v c
  | .agg vs, c, hc, h => by
    simp only [VV] at h ⊢
    obtain ⟨cs, rfl, h⟩ := h
    exact ⟨cs, rfl, aDe hS hw (by simpa [AV.closed] using hc) h⟩
  | .tup vs, c, hc, h => by
    simp only [VV] at h ⊢
    obtain ⟨cs, rfl, h⟩ := h
    exact ⟨cs, rfl, qY hS hw (by simpa [AV.closed] using hc) h⟩
  | .fn f first cap, c, hc, h => by
    simp only [AV.closed, Bool.and_eq_true] at hc
    simp only [VV] at h ⊢
    obtain ⟨a, d, rfl, h1, h2⟩ := h
    exact ⟨a, d, rfl, qY hS hw hc.1 h1, qY hS hw hc.2 h2⟩
  | .arr _, _, _, h => by simp only [VV] at h ⊢; obtain ⟨cs, rfl, h⟩ := h; exact ⟨cs, rfl, LR.tr hS hw h⟩
  | .int _ _, _, _, h => h
  | .bool _, _, _, h => h
  | .str _, _, _, h => h
  | .nilp, _, _, h => h
  | .nilfn, _, _, h => h
  | .niliface, _, _, h => h
  | .sl x l, c, _, h => by
    obtain ⟨a, cap, rfl, h1, h2, h3, h4⟩ := h
    refine ⟨a, cap, rfl, h1, h2, h3, fun hn => ?_⟩
    obtain ⟨ad, ha, hs, hb, cs, hq, hr⟩ := h4 hn
    exact ⟨ad, ha, hs, hS _ hb, cs, LR.tr hS hw hq, hr.of_heap (hw _ hb)⟩
  | .top, _, hc, _ | .und, _, hc, _ | .sref _ _ _ _ _, _, hc, _ | .ep _ _ _, _, hc, _ | .ptr _ _, _, hc, _ | .map _, _, hc, _ | .iface _ _, _, hc, _ => by cases hc
theorem qY {X Y : Cx} (hS : ∀ b, X.S b → Y.S b) (hw : ∀ b, X.S b → Y.w.heap[b]? = X.w.heap[b]?) : ∀ {vs : List AV} {cs : List Value}, AV.closeds vs = true → VVs X vs cs → VVs Y vs cs
  | [], _, _, h => by simpa only [VVs] using h
  | v :: r, _, hc, h => by
    simp only [AV.closeds, Bool.and_eq_true] at hc
    simp only [VVs] at h ⊢
    obtain ⟨c, d, rfl, h1, h2⟩ := h
    exact ⟨c, d, rfl, iK hS hw hc.1 h1, qY hS hw hc.2 h2⟩
theorem kI {X Y : Cx} (hS : ∀ b, X.S b → Y.S b) (hw : ∀ b, X.S b → Y.w.heap[b]? = X.w.heap[b]?) : ∀ {v : AV} {cs : List Value}, v.closed = true → VC X v cs → VC Y v cs
  | .agg vs, cs, hc, h => by
    simp only [VC] at h ⊢
    exact aDe hS hw (by simpa [AV.closed] using hc) h
  | .tup vs, cs, hc, h => by simp only [VC] at h
  | .fn f first cap, cs, hc, h => by
    simp only [AV.closed, Bool.and_eq_true] at hc
    simp only [VC] at h ⊢
    obtain ⟨a, d, rfl, h1, h2⟩ := h
    exact ⟨a, d, rfl, qY hS hw hc.1 h1, qY hS hw hc.2 h2⟩
  | .arr _, _, _, h => by simp only [VC] at h ⊢; exact LR.tr hS hw h
  | .int _ _, _, _, h => by simp only [VC] at h ⊢; obtain ⟨c, rfl, h⟩ := h; exact ⟨c, rfl, h⟩
  | .bool _, _, _, h => by simp only [VC] at h ⊢; obtain ⟨c, rfl, h⟩ := h; exact ⟨c, rfl, h⟩
  | .str _, _, _, h => by simp only [VC] at h ⊢; obtain ⟨c, rfl, h⟩ := h; exact ⟨c, rfl, h⟩
  | .nilp, _, _, h => by simp only [VC] at h ⊢; obtain ⟨c, rfl, h⟩ := h; exact ⟨c, rfl, h⟩
  | .nilfn, _, _, h => by simp only [VC] at h ⊢; obtain ⟨c, rfl, h⟩ := h; exact ⟨c, rfl, h⟩
  | .niliface, _, _, h => by simp only [VC] at h ⊢; obtain ⟨c, rfl, h⟩ := h; exact ⟨c, rfl, h⟩
  | .sl x l, cs, _, h => by
    simp only [VC] at h ⊢
    obtain ⟨c, rfl, a, cap, rfl, h1, h2, h3, h4⟩ := h
    refine ⟨_, rfl, a, cap, rfl, h1, h2, h3, fun hn => ?_⟩
    obtain ⟨ad, ha, hs, hb, cs, hq, hr⟩ := h4 hn
    exact ⟨ad, ha, hs, hS _ hb, cs, LR.tr hS hw hq, hr.of_heap (hw _ hb)⟩
  | .top, _, hc, _ | .und, _, hc, _ | .sref _ _ _ _ _, _, hc, _ | .ep _ _ _, _, hc, _ | .ptr _ _, _, hc, _ | .map _, _, hc, _ | .iface _ _, _, hc, _ => by cases hc
theorem aDe {X Y : Cx} (hS : ∀ b, X.S b → Y.S b) (hw : ∀ b, X.S b → Y.w.heap[b]? = X.w.heap[b]?) : ∀ {vs : List AV} {cs : List Value}, AV.closeds vs = true → VCs X vs cs → VCs Y vs cs
  | [], _, _, h => by simpa only [VCs] using h
  | v :: r, _, hc, h => by
    simp only [AV.closeds, Bool.and_eq_true] at hc
    simp only [VCs] at h ⊢
    obtain ⟨c, d, rfl, h1, h2⟩ := h
    exact ⟨c, d, rfl, kI hS hw hc.1 h1, aDe hS hw hc.2 h2⟩
end


mutual
theorem aCh {X Y : Cx} : ∀ {v : AV} {c : Value}, v.noSl = true → VV X v c → VV Y v c
  | .agg vs, c, hc, h => by
    simp only [VV] at h ⊢
    obtain ⟨cs, rfl, h⟩ := h
    exact ⟨cs, rfl, aFi (by simpa [AV.noSl] using hc) h⟩
  | .tup vs, c, hc, h => by
    simp only [VV] at h ⊢
    obtain ⟨cs, rfl, h⟩ := h
    exact ⟨cs, rfl, tE (by simpa [AV.noSl] using hc) h⟩
  | .fn f first cap, c, hc, h => by
    simp only [AV.noSl, Bool.and_eq_true] at hc
    simp only [VV] at h ⊢
    obtain ⟨a, d, rfl, h1, h2⟩ := h
    exact ⟨a, d, rfl, tE hc.1 h1, tE hc.2 h2⟩
  | .arr _, _, hc, h => by simp only [VV] at h ⊢; obtain ⟨cs, rfl, h⟩ := h; exact ⟨cs, rfl, (iY hc).2 ((iY hc).1 h)⟩
  | .int _ _, _, _, h => h
  | .bool _, _, _, h => h
  | .str _, _, _, h => h
  | .nilp, _, _, h => h
  | .nilfn, _, _, h => h
  | .niliface, _, _, h => h
  | .sl _ _, _, hc, _ | .top, _, hc, _ | .und, _, hc, _ | .sref _ _ _ _ _, _, hc, _ | .ep _ _ _, _, hc, _ | .ptr _ _, _, hc, _ | .map _, _, hc, _ | .iface _ _, _, hc, _ => by cases hc
theorem tE {X Y : Cx} : ∀ {vs : List AV} {cs : List Value}, AV.noSls vs = true → VVs X vs cs → VVs Y vs cs
  | [], _, _, h => by simpa only [VVs] using h
  | v :: r, _, hc, h => by
    simp only [AV.noSls, Bool.and_eq_true] at hc
    simp only [VVs] at h ⊢
    obtain ⟨c, d, rfl, h1, h2⟩ := h
    exact ⟨c, d, rfl, aCh hc.1 h1, tE hc.2 h2⟩
theorem aLS {X Y : Cx} : ∀ {v : AV} {cs : List Value}, v.noSl = true → VC X v cs → VC Y v cs
  | .agg vs, cs, hc, h => by
    simp only [VC] at h ⊢
    exact aFi (by simpa [AV.noSl] using hc) h
  | .tup vs, cs, hc, h => by simp only [VC] at h
  | .fn f first cap, cs, hc, h => by
    simp only [AV.noSl, Bool.and_eq_true] at hc
    simp only [VC] at h ⊢
    obtain ⟨a, d, rfl, h1, h2⟩ := h
    exact ⟨a, d, rfl, tE hc.1 h1, tE hc.2 h2⟩
  | .arr _, _, hc, h => by simp only [VC] at h ⊢; exact (iY hc).2 ((iY hc).1 h)
  | .int _ _, _, _, h => by simp only [VC] at h ⊢; obtain ⟨c, rfl, h⟩ := h; exact ⟨c, rfl, h⟩
  | .bool _, _, _, h => by simp only [VC] at h ⊢; obtain ⟨c, rfl, h⟩ := h; exact ⟨c, rfl, h⟩
  | .str _, _, _, h => by simp only [VC] at h ⊢; obtain ⟨c, rfl, h⟩ := h; exact ⟨c, rfl, h⟩
  | .nilp, _, _, h => by simp only [VC] at h ⊢; obtain ⟨c, rfl, h⟩ := h; exact ⟨c, rfl, h⟩
  | .nilfn, _, _, h => by simp only [VC] at h ⊢; obtain ⟨c, rfl, h⟩ := h; exact ⟨c, rfl, h⟩
  | .niliface, _, _, h => by simp only [VC] at h ⊢; obtain ⟨c, rfl, h⟩ := h; exact ⟨c, rfl, h⟩
  | .sl _ _, _, hc, _ | .top, _, hc, _ | .und, _, hc, _ | .sref _ _ _ _ _, _, hc, _ | .ep _ _ _, _, hc, _ | .ptr _ _, _, hc, _ | .map _, _, hc, _ | .iface _ _, _, hc, _ => by cases hc
theorem aFi {X Y : Cx} : ∀ {vs : List AV} {cs : List Value}, AV.noSls vs = true → VCs X vs cs → VCs Y vs cs
  | [], _, _, h => by simpa only [VCs] using h
  | v :: r, _, hc, h => by
    simp only [AV.noSls, Bool.and_eq_true] at hc
    simp only [VCs] at h ⊢
    obtain ⟨c, d, rfl, h1, h2⟩ := h
    exact ⟨c, d, rfl, aLS hc.1 h1, aFi hc.2 h2⟩
end

theorem aBm {X Y : Cx} (H : HR X) (hS : ∀ b, X.S b → Y.S b) (hw : ∀ b, X.S b → Y.w.heap[b]? = X.w.heap[b]?) {x : Bool} {id ver off len : Nat} {c : Value} {l : Lst} (h : SrV X x id ver off len c) (hl : lL (X.h[id]?) ver off len = some l)
    (hr : ∀ b, X.μ[id]? = some (some b) → Y.S b ∧ Y.w.heap[b]? = X.w.heap[b]?) : SlV Y false l c := by
  obtain ⟨ys, L⟩ := nH (x := .sref x id ver off len) H h hl
  obtain ⟨a, cap, rfl, h1, h2, h3⟩ := L.lies
  obtain ⟨a', n, cap', e, k, ver', l', hl', hv, g⟩ := h
  cases e
  have hver : ver = ver' := by
    rw [jY hl'] at hl
    unfold lL at hl
    by_cases e : ver = ver'
    · exact e
    · simp [e] at hl
  have g6 := (g hver).2.2.2.2.2
  clear g
  refine ⟨a, cap, rfl, h1, fun h => (by cases h), h2, fun hn => ?_⟩
  have hcap : cap ≠ 0 := by clear g6; omega
  obtain ⟨b, o, rfl, hre⟩ := h3 hn
  obtain ⟨b', hb', hab, _⟩ := g6 hcap
  cases hab
  obtain ⟨q1, q2⟩ := hr _ hb'
  exact ⟨_, rfl, rfl, q1, ys, LR.tr hS hw L.lr, hre.of_heap q2⟩

def mV (X Y : Cx) (ids : List Nat) : Prop := ∀ id, id ∈ ids → ∀ b, X.μ[id]? = some (some b) → Y.S b ∧ Y.w.heap[b]? = X.w.heap[b]?

theorem mV.left {X Y : Cx} {a b : List Nat} (h : mV X Y (a ++ b)) : mV X Y a := fun i hi => h i (List.mem_append_left _ hi)
theorem mV.right {X Y : Cx} {a b : List Nat} (h : mV X Y (a ++ b)) : mV X Y b := fun i hi => h i (List.mem_append_right _ hi)

theorem yA {h : List AObj} {v : AV} {r us : List AV} (e : AV.vals h (v :: r) = some us) : ∃ a b, us = a :: b ∧ v.val h = some a ∧ AV.vals h r = some b := by
  simp only [AV.vals] at e
  split at e
  · rename_i a b h1 h2; exact ⟨a, b, (Option.some.inj e).symm, h1, h2⟩
  · cases e

mutual
theorem valV {X Y : Cx} (H : HR X) (hS : ∀ b, X.S b → Y.S b) (hw : ∀ b, X.S b → Y.w.heap[b]? = X.w.heap[b]?) : ∀ {v u : AV} {c : Value}, mV X Y v.rows → v.val X.h = some u → u.closed = true → VV X v c → VV Y u c
  | .agg vs, u, c, hr, e, hc, h => by
    simp only [AV.val, Option.map_eq_some_iff] at e
    obtain ⟨us, e, rfl⟩ := e
    simp only [VV] at h ⊢
    obtain ⟨cs, rfl, h⟩ := h
    exact ⟨cs, rfl, valC H hS hw (by simpa [AV.rows] using hr) e (by simpa [AV.closed] using hc) h⟩
  | .tup vs, u, c, hr, e, hc, h => by
    simp only [AV.val, Option.map_eq_some_iff] at e
    obtain ⟨us, e, rfl⟩ := e
    simp only [VV] at h ⊢
    obtain ⟨cs, rfl, h⟩ := h
    exact ⟨cs, rfl, aHS H hS hw (by simpa [AV.rows] using hr) e (by simpa [AV.closed] using hc) h⟩
  | .sref x id ver off len, u, c, hr, e, _, h => by
    simp only [AV.val, Option.map_eq_some_iff] at e
    obtain ⟨l, e, rfl⟩ := e
    exact aBm H hS hw h e (hr id (by simp [AV.rows]))
  | .sl x l, u, c, _, e, hc, h => by
    simp only [AV.val, Option.some.injEq] at e; subst e
    obtain ⟨a, cap, rfl, h1, h2, h3, h4⟩ := iK (Y := Y) hS hw (v := .sl x l) rfl h
    exact ⟨a, cap, rfl, h1, fun h => (by cases h), h3, h4⟩
  | .fn f first cap, u, c, _, e, hc, h => by simp only [AV.val, Option.some.injEq] at e; subst e; exact iK hS hw hc h
  | .arr l, u, c, _, e, hc, h => by simp only [AV.val, Option.some.injEq] at e; subst e; exact iK hS hw hc h
  | .int k n, u, c, _, e, hc, h => by simp only [AV.val, Option.some.injEq] at e; subst e; exact iK hS hw hc h
  | .bool b, u, c, _, e, hc, h => by simp only [AV.val, Option.some.injEq] at e; subst e; exact iK hS hw hc h
  | .str s, u, c, _, e, hc, h => by simp only [AV.val, Option.some.injEq] at e; subst e; exact iK hS hw hc h
  | .nilp, u, c, _, e, hc, h => by simp only [AV.val, Option.some.injEq] at e; subst e; exact iK hS hw hc h
  | .nilfn, u, c, _, e, hc, h => by simp only [AV.val, Option.some.injEq] at e; subst e; exact iK hS hw hc h
  | .niliface, u, c, _, e, hc, h => by simp only [AV.val, Option.some.injEq] at e; subst e; exact iK hS hw hc h
  | .top, _, _, _, e, hc, _ | .und, _, _, _, e, hc, _ | .ep _ _ _, _, _, _, e, hc, _ | .ptr _ _, _, _, _, e, hc, _ | .map _, _, _, _, e, hc, _ | .iface _ _, _, _, _, e, hc, _ => by
    simp only [AV.val, Option.some.injEq] at e; subst e; cases hc
theorem aHS {X Y : Cx} (H : HR X) (hS : ∀ b, X.S b → Y.S b) (hw : ∀ b, X.S b → Y.w.heap[b]? = X.w.heap[b]?) : ∀ {vs us : List AV} {cs : List Value}, mV X Y (AV.rowss vs) → AV.vals X.h vs = some us → AV.closeds us = true → VVs X vs cs → VVs Y us cs
  | [], us, _, _, e, _, h => by simp only [AV.vals, Option.some.injEq] at e; subst e; simpa only [VVs] using h
  | v :: r, us, _, hr, e, hc, h => by
    obtain ⟨a, b, rfl, h1, h2⟩ := yA e
    simp only [AV.closeds, Bool.and_eq_true] at hc
    simp only [AV.rowss] at hr
    simp only [VVs] at h ⊢
    obtain ⟨c, d, rfl, g1, g2⟩ := h
    exact ⟨c, d, rfl, valV H hS hw hr.left h1 hc.1 g1, aHS H hS hw hr.right h2 hc.2 g2⟩
theorem aOB {X Y : Cx} (H : HR X) (hS : ∀ b, X.S b → Y.S b) (hw : ∀ b, X.S b → Y.w.heap[b]? = X.w.heap[b]?) : ∀ {v u : AV} {cs : List Value}, mV X Y v.rows → v.val X.h = some u → u.closed = true → VC X v cs → VC Y u cs
  | .agg vs, u, c, hr, e, hc, h => by
    simp only [AV.val, Option.map_eq_some_iff] at e
    obtain ⟨us, e, rfl⟩ := e
    simp only [VC] at h ⊢
    exact valC H hS hw (by simpa [AV.rows] using hr) e (by simpa [AV.closed] using hc) h
  | .tup vs, u, c, hr, e, hc, h => by simp only [VC] at h
  | .sref x id ver off len, u, cs, hr, e, _, h => by
    simp only [AV.val, Option.map_eq_some_iff] at e
    obtain ⟨l, e, rfl⟩ := e
    simp only [VC] at h ⊢
    obtain ⟨c, rfl, h⟩ := h
    exact ⟨c, rfl, aBm H hS hw h e (hr id (by simp [AV.rows]))⟩
  | .sl x l, u, cs, _, e, hc, h => by
    simp only [AV.val, Option.some.injEq] at e; subst e
    have h := kI (Y := Y) hS hw (v := .sl x l) rfl h
    simp only [VC] at h ⊢
    obtain ⟨c, rfl, a, cap, rfl, h1, h2, h3, h4⟩ := h
    exact ⟨_, rfl, a, cap, rfl, h1, fun h => (by cases h), h3, h4⟩
  | .fn f first cap, u, c, _, e, hc, h => by simp only [AV.val, Option.some.injEq] at e; subst e; exact kI hS hw hc h
  | .arr l, u, c, _, e, hc, h => by simp only [AV.val, Option.some.injEq] at e; subst e; exact kI hS hw hc h
  | .int k n, u, c, _, e, hc, h => by simp only [AV.val, Option.some.injEq] at e; subst e; exact kI hS hw hc h
  | .bool b, u, c, _, e, hc, h => by simp only [AV.val, Option.some.injEq] at e; subst e; exact kI hS hw hc h
  | .str s, u, c, _, e, hc, h => by simp only [AV.val, Option.some.injEq] at e; subst e; exact kI hS hw hc h
  | .nilp, u, c, _, e, hc, h => by simp only [AV.val, Option.some.injEq] at e; subst e; exact kI hS hw hc h
  | .nilfn, u, c, _, e, hc, h => by simp only [AV.val, Option.some.injEq] at e; subst e; exact kI hS hw hc h
  | .niliface, u, c, _, e, hc, h => by simp only [AV.val, Option.some.injEq] at e; subst e; exact kI hS hw hc h
  | .top, _, _, _, e, hc, _ | .und, _, _, _, e, hc, _ | .ep _ _ _, _, _, _, e, hc, _ | .ptr _ _, _, _, _, e, hc, _ | .map _, _, _, _, e, hc, _ | .iface _ _, _, _, _, e, hc, _ => by
    simp only [AV.val, Option.some.injEq] at e; subst e; cases hc
theorem valC {X Y : Cx} (H : HR X) (hS : ∀ b, X.S b → Y.S b) (hw : ∀ b, X.S b → Y.w.heap[b]? = X.w.heap[b]?) : ∀ {vs us : List AV} {cs : List Value}, mV X Y (AV.rowss vs) → AV.vals X.h vs = some us → AV.closeds us = true → VCs X vs cs → VCs Y us cs
  | [], us, _, _, e, _, h => by simp only [AV.vals, Option.some.injEq] at e; subst e; simpa only [VCs] using h
  | v :: r, us, _, hr, e, hc, h => by
    obtain ⟨a, b, rfl, h1, h2⟩ := yA e
    simp only [AV.closeds, Bool.and_eq_true] at hc
    simp only [AV.rowss] at hr
    simp only [VCs] at h ⊢
    obtain ⟨c, d, rfl, g1, g2⟩ := h
    exact ⟨c, d, rfl, aOB H hS hw hr.left h1 hc.1 g1, valC H hS hw hr.right h2 hc.2 g2⟩
end

/-! ### Values of a new part of the heap -/
mutual
def AV.shOk : AV → Bool
  | .fn _ first cap => AV.closeds first && AV.closeds cap
  | .iface _ v => v.closed
  | .agg vs | .tup vs => AV.shOks vs
  | _ => true
def AV.shOks : List AV → Bool
  | [] => true
  | v :: r => v.shOk && AV.shOks r
end

structure Sh (Y Z : Cx) (s : Nat) : Prop where
  S : ∀ b, ¬ Y.S b
  w : Z.w = Y.w
  len : Y.μ.length = Y.h.length
  hh : ∀ (i : Nat) (o : AObj), Y.h[i]? = some o → Z.h[s + i]? = some o
  mu : ∀ (i : Nat) (b : Option Nat), Y.μ[i]? = some b → Z.μ[s + i]? = some b

section
variable {Y Z : Cx} {s : Nat}
theorem Sh.row (E : Sh Y Z s) {i : Nat} {r : RK × Nat × Lst} (h : rowO (Y.h[i]?) = some r) : rowO (Z.h[s + i]?) = some r := by
  obtain ⟨k, v, l⟩ := r
  rw [E.hh i _ (jY h)]; rfl
theorem Sh.hrow (E : Sh Y Z s) {i : Nat} {b : Option Nat} (h : Y.μ[i]? = some b) : Z.h[s + i]? = Y.h[i]? := by
  have hl : i < Y.h.length := by rw [← E.len]; exact (List.getElem?_eq_some_iff.1 h).1
  obtain ⟨o, ho⟩ : ∃ o, Y.h[i]? = some o := ⟨_, List.getElem?_eq_getElem hl⟩
  rw [ho]; exact E.hh i o ho

theorem Sh.vb (E : Sh Y Z s) {v : AV} {c : Value} (hv : v.scalar = true) (hf : ∀ f a b, v ≠ .fn f a b) (hi : ∀ t u, v ≠ .iface t u) (h : VB Y v c) : VB Z (v.shift s) c := by
  cases v with
  | sl x l =>
    obtain ⟨a, cap, rfl, h1, h2, h3, h4⟩ := h
    exact ⟨a, cap, rfl, h1, h2, h3, fun hn => by obtain ⟨ad, _, _, hb, _⟩ := h4 hn; exact (E.S _ hb).elim⟩
  | ep l i fs => obtain ⟨b, o, _, _, hb, _⟩ := h; exact (E.S _ hb).elim
  | sref x id ver off len =>
    obtain ⟨a, n, cap, rfl, k, ver', l, hl, hv, g⟩ := h
    refine ⟨a, n, cap, rfl, k, ver', l, E.row hl, hv, fun e => ?_⟩
    obtain ⟨g1, g2, g3, g4, g5, g6⟩ := g e
    exact ⟨g1, g2, g3, g4, g5, fun hn => by obtain ⟨b, q1, q2, q3⟩ := g6 hn; exact ⟨b, E.mu _ _ q1, q2, by rw [E.w]; exact q3⟩⟩
  | ptr id p =>
    have fin : (∃ b, Y.μ[id]? = some (some b) ∧ c = .pointer (some ⟨b, offs p, none⟩) ∧ ∀ k ver l, rowO (Y.h[id]?) = some (k, ver, l) → k ≠ .own) →
        ∃ b, Z.μ[s + id]? = some (some b) ∧ c = .pointer (some ⟨b, offs p, none⟩) ∧ ∀ k ver l, rowO (Z.h[s + id]?) = some (k, ver, l) → k ≠ .own := by
      rintro ⟨b, q1, q2, q3⟩
      exact ⟨b, E.mu _ _ q1, q2, by rw [E.hrow q1]; exact q3⟩
    cases p with
    | nil => exact fin h
    | cons q r => cases q with
      | f _ _ => exact fin h
      | i _ _ _ =>
        obtain ⟨k, ver', l, hl, hv, ho, g⟩ := h
        exact ⟨k, ver', l, E.row hl, hv, ho, fun e => by obtain ⟨b, q1, q2⟩ := g e; exact ⟨b, E.mu _ _ q1, q2⟩⟩
  | map id =>
    obtain ⟨b, q1, q2, q3⟩ := h
    exact ⟨b, E.mu _ _ q1, q2, by rw [E.hrow q1]; exact q3⟩
  | fn f a b => exact (hf _ _ _ rfl).elim
  | iface t u => exact (hi _ _ rfl).elim
  | agg _ => cases hv
  | arr _ => cases hv
  | tup _ => cases hv
  | _ => exact h

mutual
theorem shV (E : Sh Y Z s) : ∀ {v : AV} {c : Value}, v.shOk = true → VV Y v c → VV Z (v.shift s) c
  | .agg vs, c, hk, h => by
    simp only [AV.shift, VV] at h ⊢
    obtain ⟨cs, rfl, h⟩ := h
    exact ⟨cs, rfl, shC E (by simpa [AV.shOk] using hk) h⟩
  | .tup vs, c, hk, h => by
    simp only [AV.shift, VV] at h ⊢
    obtain ⟨cs, rfl, h⟩ := h
    exact ⟨cs, rfl, shVs E (by simpa [AV.shOk] using hk) h⟩
  | .arr l, c, _, h => by simp only [VV, AV.shift] at h ⊢; obtain ⟨cs, rfl, h⟩ := h; exact ⟨cs, rfl, LR.tr (fun b hb => (E.S b hb).elim) (fun b hb => (E.S b hb).elim) h⟩
  | .fn f first cap, c, hk, h => iK (fun b hb => (E.S b hb).elim) (fun b hb => (E.S b hb).elim) (v := .fn f first cap) (by simpa [AV.shOk, AV.closed] using hk) h
  | .iface t v, c, hk, h => by
    simp only [AV.shift, VV] at h ⊢
    obtain ⟨u, rfl, h⟩ := h
    exact ⟨u, rfl, iK (fun b hb => (E.S b hb).elim) (fun b hb => (E.S b hb).elim) (by simpa [AV.shOk] using hk) h⟩
  | .top, c, _, h => trivial
  | .und, c, _, h => E.vb rfl (by intros; simp) (by intros; simp) (v := .und) h
  | .int k n, c, _, h => E.vb rfl (by intros; simp) (by intros; simp) (v := .int k n) h
  | .bool b, c, _, h => E.vb rfl (by intros; simp) (by intros; simp) (v := .bool b) h
  | .str b, c, _, h => E.vb rfl (by intros; simp) (by intros; simp) (v := .str b) h
  | .sl x l, c, _, h => E.vb rfl (by intros; simp) (by intros; simp) (v := .sl x l) h
  | .sref x a b d e, c, _, h => E.vb rfl (by intros; simp) (by intros; simp) (v := .sref x a b d e) h
  | .ep l i f, c, _, h => E.vb rfl (by intros; simp) (by intros; simp) (v := .ep l i f) h
  | .nilp, c, _, h => E.vb rfl (by intros; simp) (by intros; simp) (v := .nilp) h
  | .ptr i p, c, _, h => E.vb rfl (by intros; simp) (by intros; simp) (v := .ptr i p) h
  | .map i, c, _, h => E.vb rfl (by intros; simp) (by intros; simp) (v := .map i) h
  | .nilfn, c, _, h => E.vb rfl (by intros; simp) (by intros; simp) (v := .nilfn) h
  | .niliface, c, _, h => E.vb rfl (by intros; simp) (by intros; simp) (v := .niliface) h
theorem shVs (E : Sh Y Z s) : ∀ {vs : List AV} {cs : List Value}, AV.shOks vs = true → VVs Y vs cs → VVs Z (AV.shifts s vs) cs
  | [], _, _, h => by simpa only [VVs, AV.shifts] using h
  | v :: r, _, hk, h => by
    simp only [AV.shOks, Bool.and_eq_true] at hk
    simp only [AV.shifts, VVs] at h ⊢
    obtain ⟨c, d, rfl, g1, g2⟩ := h
    exact ⟨c, d, rfl, shV E hk.1 g1, shVs E hk.2 g2⟩
theorem shVC (E : Sh Y Z s) : ∀ {v : AV} {cs : List Value}, v.shOk = true → VC Y v cs → VC Z (v.shift s) cs
  | .agg vs, c, hk, h => by
    simp only [AV.shift, VC] at h ⊢
    exact shC E (by simpa [AV.shOk] using hk) h
  | .tup vs, c, hk, h => by simp only [VC] at h
  | .arr l, c, _, h => by simp only [VC, AV.shift] at h ⊢; exact LR.tr (fun b hb => (E.S b hb).elim) (fun b hb => (E.S b hb).elim) h
  | .fn f first cap, c, hk, h => kI (fun b hb => (E.S b hb).elim) (fun b hb => (E.S b hb).elim) (v := .fn f first cap) (by simpa [AV.shOk, AV.closed] using hk) h
  | .iface t v, c, hk, h => by
    simp only [AV.shift, VC] at h ⊢
    obtain ⟨u, rfl, h⟩ := h
    exact ⟨u, rfl, iK (fun b hb => (E.S b hb).elim) (fun b hb => (E.S b hb).elim) (by simpa [AV.shOk] using hk) h⟩
  | .top, c, _, h => by simpa only [VC, AV.shift] using h
  | .und, c, _, h => by simp only [VC] at h
  | .int k n, c, _, h => by simp only [VC, AV.shift] at h ⊢; obtain ⟨c, rfl, h⟩ := h; exact ⟨c, rfl, E.vb rfl (by intros; simp) (by intros; simp) (v := .int k n) h⟩
  | .bool b, c, _, h => by simp only [VC, AV.shift] at h ⊢; obtain ⟨c, rfl, h⟩ := h; exact ⟨c, rfl, E.vb rfl (by intros; simp) (by intros; simp) (v := .bool b) h⟩
  | .str b, c, _, h => by simp only [VC, AV.shift] at h ⊢; obtain ⟨c, rfl, h⟩ := h; exact ⟨c, rfl, E.vb rfl (by intros; simp) (by intros; simp) (v := .str b) h⟩
  | .sl x l, c, _, h => by simp only [VC, AV.shift] at h ⊢; obtain ⟨c, rfl, h⟩ := h; exact ⟨c, rfl, E.vb rfl (by intros; simp) (by intros; simp) (v := .sl x l) h⟩
  | .sref x a b d e, c, _, h => by simp only [VC, AV.shift] at h ⊢; obtain ⟨c, rfl, h⟩ := h; exact ⟨c, rfl, E.vb rfl (by intros; simp) (by intros; simp) (v := .sref x a b d e) h⟩
  | .ep l i f, c, _, h => by simp only [VC, AV.shift] at h ⊢; obtain ⟨c, rfl, h⟩ := h; exact ⟨c, rfl, E.vb rfl (by intros; simp) (by intros; simp) (v := .ep l i f) h⟩
  | .nilp, c, _, h => by simp only [VC, AV.shift] at h ⊢; obtain ⟨c, rfl, h⟩ := h; exact ⟨c, rfl, E.vb rfl (by intros; simp) (by intros; simp) (v := .nilp) h⟩
  | .ptr i p, c, _, h => by simp only [VC, AV.shift] at h ⊢; obtain ⟨c, rfl, h⟩ := h; exact ⟨c, rfl, E.vb rfl (by intros; simp) (by intros; simp) (v := .ptr i p) h⟩
  | .map i, c, _, h => by simp only [VC, AV.shift] at h ⊢; obtain ⟨c, rfl, h⟩ := h; exact ⟨c, rfl, E.vb rfl (by intros; simp) (by intros; simp) (v := .map i) h⟩
  | .nilfn, c, _, h => by simp only [VC, AV.shift] at h ⊢; obtain ⟨c, rfl, h⟩ := h; exact ⟨c, rfl, E.vb rfl (by intros; simp) (by intros; simp) (v := .nilfn) h⟩
  | .niliface, c, _, h => by simp only [VC, AV.shift] at h ⊢; obtain ⟨c, rfl, h⟩ := h; exact ⟨c, rfl, E.vb rfl (by intros; simp) (by intros; simp) (v := .niliface) h⟩
theorem shC (E : Sh Y Z s) : ∀ {vs : List AV} {cs : List Value}, AV.shOks vs = true → VCs Y vs cs → VCs Z (AV.shifts s vs) cs
  | [], _, _, h => by simpa only [VCs, AV.shifts] using h
  | v :: r, _, hk, h => by
    simp only [AV.shOks, Bool.and_eq_true] at hk
    simp only [AV.shifts, VCs] at h ⊢
    obtain ⟨c, d, rfl, g1, g2⟩ := h
    exact ⟨c, d, rfl, shVC E hk.1 g1, shC E hk.2 g2⟩
end
end

/-! ### A part of the heap is laid -/
def eA {α : Type} : List α → Nat → List α → List α
  | h, _, [] => h
  | h, s, o :: r => eA (h.set s o) (s + 1) r

theorem tS {α : Type} : ∀ (r : List α) (h : List α) (s : Nat), (eA h s r).length = h.length
  | [], _, _ => rfl
  | o :: r, h, s => by simp [eA, tS r]

theorem pJ {α : Type} : ∀ (r : List α) (h : List α) (s : Nat), (r ≠ [] → s + r.length ≤ h.length) → ∀ i, (eA h s r)[i]? = if s ≤ i ∧ i < s + r.length then r[i - s]? else h[i]?
  | [], h, s, _, i => by
    have : ¬ (s ≤ i ∧ i < s + ([] : List α).length) := by simp
    rw [if_neg this]; rfl
  | o :: r, h, s, hl, i => by
    have hl := hl (by simp)
    simp only [List.length_cons] at hl
    simp only [eA]
    rw [pJ r _ _ (by intro _; simp; omega) i]
    simp only [List.length_cons]
    by_cases e : i = s
    · subst e
      rw [if_neg (by omega), if_pos (by omega), List.getElem?_set]
      simp; omega
    · rw [List.getElem?_set]
      by_cases h1 : s ≤ i ∧ i < s + (r.length + 1)
      · rw [if_pos h1, if_pos (by omega)]
        have : i - s = i - (s + 1) + 1 := by omega
        rw [this, List.getElem?_cons_succ]
      · rw [if_neg h1, if_neg (by omega), if_neg (Ne.symm e)]

end Lam
namespace Lam
open Go

def AObj.newOk : AObj → Bool
  | .row k _ _ => match k with
    | .fro => false
    | _ => true
  | .box v => v.closed
  | _ => true

def Ends (X0 : Cx) (fresh : Bool) (v : AV) (news : List AObj) (e : Ending) (w' : World) : Prop :=
  ∃ c, e = .returned c ∧ ∃ Y : Cx, Y.w = w' ∧ HR Y ∧ Ext X0 Y ∧
    match fresh with
    | true => Y.h = news ∧ (∀ o ∈ news, o.newOk = true) ∧ v.shOk = true ∧ HR ⟨fun _ => False, Y.μ, Y.h, Y.w⟩ ∧ VV ⟨fun _ => False, Y.μ, Y.h, Y.w⟩ v c
    | false => v.closed = true ∧ VV Y v c

structure FOk (P : Program) (envF : FuncId → List AV → Option (Bool × D)) : Prop where
  enter : ∀ f vs r, envF f vs = some r → ∀ (args : Array Value) (w : World), (callFunc f args).run P w = .ok (.enter f args) w
  spec : ∀ f vs b S v news, envF f vs = some (b, some (S, v, news)) → S → ∀ (X0 : Cx) (cs : Array Value), X0.h = [] → X0.μ = [] → HR X0 → VVs X0 vs cs.toList →
    Calls P f cs X0.w (Ends X0 b v news)

section
variable {ro : Option Nat} {P : Program} {X : Cx}

theorem hr0 {S : Nat → Prop} {w : World} (h : ∀ b, S b → b < w.heap.size) : HR ⟨S, [], [], w⟩ :=
  ⟨rfl, fun i o h => by simp at h, fun i j b h => by simp at h, fun i b h => by simp at h, h⟩

theorem xG (H : HR X) {S : Nat → Prop} (hS : ∀ b, X.S b → S b) {vs us : List AV} {cs : List Value} (hr : ∀ id ∈ AV.rowss vs, ∀ b, X.μ[id]? = some (some b) → S b)
    (hv : AV.vals X.h vs = some us) (hc : AV.closeds us = true) (h : VVs X vs cs) : VVs ⟨S, [], [], X.w⟩ us cs :=
  aHS H (Y := ⟨S, [], [], X.w⟩) hS (fun _ _ => rfl) (fun id hid b hb => ⟨hr id hid b hb, rfl⟩) hv hc h

theorem mM {S : Nat → Prop} {w : World} {Y : Cx} (E : Ext ⟨S, [], [], w⟩ Y) {b : Nat} (hb : b < w.heap.size) : Y.w.heap[b]? = w.heap[b]? := E.keep b hb fun i => by simp

theorem rT (H : HR X) {Y : Cx} (E : Ext ⟨X.S, [], [], X.w⟩ Y) (HY : HR Y) : HR ⟨Y.S, X.μ, X.h, Y.w⟩ ∧ Ext X ⟨Y.S, X.μ, X.h, Y.w⟩ := by
  have hE : Ext X ⟨Y.S, X.μ, X.h, Y.w⟩ := by
    refine ⟨E.S, E.cells, fun b hb => ?_, fun i b h => .inl h, fun b hb _ => mM E hb, E.grow, fun i k ver l hl => ?_, fun i b h1 h2 => ⟨h2, h1⟩, E.env⟩
    · rcases E.new b hb with h | ⟨i, h⟩ | h
      · exact .inl h
      · simp at h
      · exact .inr (.inr h)
    · refine ⟨k, ver, l, hl, Nat.le_refl _, fun _ => ⟨rfl, rfl, fun b hb => ⟨hb, ?_⟩⟩, fun h => ⟨h, rfl⟩⟩
      have : Y.w.heap[b]? = X.w.heap[b]? := mM E (H.live _ _ hb).1
      simp only [dZ, this]; exact Nat.le_refl _
  refine ⟨⟨H.len, fun i o ho => ?_, H.apart, fun i b hb => ?_, HY.old⟩, hE⟩
  · obtain ⟨b, hb, hor⟩ := H.obj i o ho
    exact ⟨b, hb, hor.ext hE fun k hk => by subst hk; exact mM E (H.live _ _ hb).1⟩
  · have hl := H.live i b hb
    refine ⟨Nat.lt_of_lt_of_le hl.1 E.grow, fun hs => ?_⟩
    rcases E.new b hs with h | ⟨i, h⟩ | h
    · exact hl.2 h
    · simp at h
    · exact absurd hl.1 (Nat.not_lt.2 h)

theorem vE (H : HR X) {S : Nat → Prop} {Y : Cx} (E : Ext ⟨S, [], [], X.w⟩ Y) : HR ⟨X.S, X.μ, X.h, Y.w⟩ ∧ Ext X ⟨X.S, X.μ, X.h, Y.w⟩ := by
  have hE : Ext X ⟨X.S, X.μ, X.h, Y.w⟩ := by
    refine ⟨fun _ h => h, fun b hb => mM E (H.old b hb), fun b hb => .inl hb, fun i b h => .inl h, fun b hb _ => mM E hb, E.grow, fun i k ver l hl => ?_, fun i b h1 h2 => ⟨h2, h1⟩, E.env⟩
    refine ⟨k, ver, l, hl, Nat.le_refl _, fun _ => ⟨rfl, rfl, fun b hb => ⟨hb, ?_⟩⟩, fun h => ⟨h, rfl⟩⟩
    have : Y.w.heap[b]? = X.w.heap[b]? := mM E (H.live _ _ hb).1
    simp only [dZ, this]; exact Nat.le_refl _
  refine ⟨⟨H.len, fun i o ho => ?_, H.apart, fun i b hb => ?_, fun b hb => Nat.lt_of_lt_of_le (H.old b hb) E.grow⟩, hE⟩
  · obtain ⟨b, hb, hor⟩ := H.obj i o ho
    exact ⟨b, hb, hor.ext hE fun k hk => by subst hk; exact mM E (H.live _ _ hb).1⟩
  · have hl := H.live i b hb
    exact ⟨Nat.lt_of_lt_of_le hl.1 E.grow, hl.2⟩

theorem aDB (H : HR X) {i : Nat} (hd : X.h[i]? = some .dead) : X.μ[i]? = some none := by
  obtain ⟨b, hb, hor⟩ := H.obj i _ hd
  rw [hb, show b = none from hor]

theorem aDC (H : HR X) {S : Nat → Prop} {Y : Cx} {s : Nat} (E : Ext ⟨S, [], [], X.w⟩ Y) (HY : HR ⟨fun _ => False, Y.μ, Y.h, Y.w⟩) (hd : ∀ j, j < Y.h.length → X.h[s + j]? = some .dead) (hn : ∀ o ∈ Y.h, o.newOk = true) :
    HR ⟨X.S, eA X.μ s Y.μ, eA X.h s Y.h, Y.w⟩ ∧ Ext X ⟨X.S, eA X.μ s Y.μ, eA X.h s Y.h, Y.w⟩ ∧
      Sh ⟨fun _ => False, Y.μ, Y.h, Y.w⟩ ⟨X.S, eA X.μ s Y.μ, eA X.h s Y.h, Y.w⟩ s := by
  have hroom : Y.h ≠ [] → s + Y.h.length ≤ X.h.length := fun hne => by
    have hp : 0 < Y.h.length := List.length_pos_iff.2 hne
    have := (List.getElem?_eq_some_iff.1 (hd (Y.h.length - 1) (by omega))).1
    omega
  have gh := pJ Y.h X.h s hroom
  have gm := pJ Y.μ X.μ s (fun hne => by
    have hp : 0 < Y.μ.length := List.length_pos_iff.2 hne
    have hl : Y.μ.length = Y.h.length := HY.len
    rw [hl] at hp ⊢; rw [H.len]
    exact hroom (List.length_pos_iff.1 hp))
  rw [show Y.μ.length = Y.h.length from HY.len] at gm
  have kept : ∀ b, b < X.w.heap.size → Y.w.heap[b]? = X.w.heap[b]? := fun b hb => mM E hb
  have fresh : ∀ j b, Y.μ[j]? = some (some b) → X.w.heap.size ≤ b := fun j b hb => by
    rcases E.muinv j b hb with h | h
    · simp at h
    · exact h
  have outr : ∀ i, (s ≤ i ∧ i < s + Y.h.length) → X.h[i]? = some .dead := fun i hi => by
    have := hd (i - s) (by omega)
    rwa [show s + (i - s) = i by omega] at this
  have hE : Ext X ⟨X.S, eA X.μ s Y.μ, eA X.h s Y.h, Y.w⟩ := by
    refine ⟨fun _ h => h, fun b hb => kept b (H.old b hb), fun b hb => .inl hb, fun i b hb => ?_, fun b hb _ => kept b hb, E.grow, fun i k ver l hl => ?_, fun i b h1 h2 => ?_, E.env⟩
    · simp only [gm] at hb
      split at hb
      · exact .inr (fresh _ _ hb)
      · exact .inl hb
    · have hno : ¬ (s ≤ i ∧ i < s + Y.h.length) := fun hi => by rw [outr i hi] at hl; cases hl
      refine ⟨k, ver, l, ?_, Nat.le_refl _, fun _ => ⟨rfl, rfl, fun b hb => ⟨?_, ?_⟩⟩, fun h => ⟨h, rfl⟩⟩
      · simp only [gh, if_neg hno, hl]
      · simp only [gm, if_neg hno, hb]
      · have := kept b (H.live _ _ hb).1
        simp only [dZ, this]; exact Nat.le_refl _
    · have hno : ¬ (s ≤ i ∧ i < s + Y.h.length) := fun hi => by rw [aDB H (outr i hi)] at h2; cases h2
      exact ⟨by simp only [gm, if_neg hno, h2], by simp only [gh, if_neg hno, h1]⟩
  refine ⟨⟨?_, fun i o ho => ?_, fun i j b h1 h2 => ?_, fun i b hb => ?_, fun b hb => Nat.lt_of_lt_of_le (H.old b hb) E.grow⟩, hE, ⟨fun _ h => h, rfl, HY.len, fun i o ho => ?_, fun i b hb => ?_⟩⟩
  · simp only [tS, H.len]
  · simp only [gh] at ho
    simp only [gm]
    split at ho
    · rename_i hi
      rw [if_pos hi]
      obtain ⟨b, hb, hor⟩ := HY.obj _ o ho
      refine ⟨b, hb, ?_⟩
      have hok := hn o (List.mem_of_getElem? ho)
      cases o with
      | box v =>
        obtain ⟨b', cs, elem, rfl, q1, q2⟩ := hor
        exact ⟨b', cs, elem, rfl, q1, kI (X := ⟨fun _ => False, Y.μ, Y.h, Y.w⟩) (fun b hb => hb.elim) (fun b hb => hb.elim) hok q2⟩
      | row k ver l =>
        rcases hor with hor | ⟨b', cs, elem, rfl, q1, ⟨a, r, q2, q4⟩, q3⟩
        · exact .inl hor
        · exact .inr ⟨b', cs, elem, rfl, q1, ⟨a, r, q2, LR.tr (X := ⟨fun _ => False, Y.μ, Y.h, Y.w⟩) (fun b hb => hb.elim) (fun b hb => hb.elim) q4⟩, fun hk => by subst hk; cases hok⟩
      | map m => exact hor
      | lp st pd r => exact hor
      | dead => exact hor
    · rename_i hi
      rw [if_neg hi]
      obtain ⟨b, hb, hor⟩ := H.obj i o ho
      exact ⟨b, hb, hor.ext hE fun k hk => by subst hk; exact kept k (H.live _ _ hb).1⟩
  · simp only [gm] at h1 h2
    split at h1 <;> split at h2
    · have := HY.apart _ _ _ h1 h2; omega
    · have := fresh _ _ h1; have := (H.live _ _ h2).1; omega
    · have := fresh _ _ h2; have := (H.live _ _ h1).1; omega
    · exact H.apart _ _ _ h1 h2
  · simp only [gm] at hb
    split at hb
    · have h1 := fresh _ _ hb
      refine ⟨(HY.live _ _ hb).1, fun hs => ?_⟩
      have := H.old b hs; omega
    · rename_i hi
      have hl := H.live _ _ hb
      refine ⟨Nat.lt_of_lt_of_le hl.1 E.grow, fun hs => ?_⟩
      obtain ⟨ver, l, h3⟩ := hl.2 hs
      exact ⟨ver, l, by simp only [gh, if_neg hi, h3]⟩
  · have : i < Y.h.length := (List.getElem?_eq_some_iff.1 ho).1
    simp only [gh]
    rw [if_pos ⟨by omega, by omega⟩, Nat.add_sub_cancel_left]; exact ho
  · have : i < Y.h.length := by rw [← show Y.μ.length = Y.h.length from HY.len]; exact (List.getElem?_eq_some_iff.1 hb).1
    simp only [gm]
    rw [if_pos ⟨by omega, by omega⟩, Nat.add_sub_cancel_left]; exact hb
end

end Lam
namespace Lam
open Go

structure lP (P : Program) (c : Ctx) : Prop where
  tab : aHF P c.tab
  sh : ∀ T, (c.tab T).shallow
  fok : FOk P c.envF

section
variable {X : Cx}

mutual
theorem aHh : ∀ {v : AV} {c : Value}, VV X v c → ∀ id, id ∈ v.rows → ∃ k ver l, X.h[id]? = some (.row k ver l)
  | .agg vs, c, h, id, hid => by
    simp only [VV] at h; obtain ⟨cs, rfl, h⟩ := h
    exact aBn h id (by simpa [AV.rows] using hid)
  | .tup vs, c, h, id, hid => by
    simp only [VV] at h; obtain ⟨cs, rfl, h⟩ := h
    exact qZ h id (by simpa [AV.rows] using hid)
  | .sref x i v o n, c, h, id, hid => by
    simp only [AV.rows, List.mem_singleton] at hid; subst hid
    obtain ⟨_, _, _, _, k, ver, l, hr, _⟩ := h
    exact ⟨k, ver, l, jY hr⟩
  | .fn _ _ _, _, _, id, hid | .iface _ _, _, _, id, hid | .arr _, _, _, id, hid | .ptr _ _, _, _, id, hid | .map _, _, _, id, hid
  | .top, _, _, id, hid | .und, _, _, id, hid | .int _ _, _, _, id, hid | .bool _, _, _, id, hid | .str _, _, _, id, hid | .sl _ _, _, _, id, hid
  | .ep _ _ _, _, _, id, hid | .nilp, _, _, id, hid | .nilfn, _, _, id, hid | .niliface, _, _, id, hid => by simp [AV.rows] at hid
theorem qZ : ∀ {vs : List AV} {cs : List Value}, VVs X vs cs → ∀ id, id ∈ AV.rowss vs → ∃ k ver l, X.h[id]? = some (.row k ver l)
  | [], _, _, id, hid => by simp [AV.rowss] at hid
  | v :: r, _, h, id, hid => by
    simp only [VVs] at h; obtain ⟨c, d, rfl, h1, h2⟩ := h
    simp only [AV.rowss, List.mem_append] at hid
    exact hid.elim (aHh h1 id) (qZ h2 id)
theorem aLT : ∀ {v : AV} {cs : List Value}, VC X v cs → ∀ id, id ∈ v.rows → ∃ k ver l, X.h[id]? = some (.row k ver l)
  | .agg vs, c, h, id, hid => by
    simp only [VC] at h
    exact aBn h id (by simpa [AV.rows] using hid)
  | .tup vs, c, h, id, hid => by simp only [VC] at h
  | .sref x i v o n, c, h, id, hid => by
    simp only [AV.rows, List.mem_singleton] at hid; subst hid
    simp only [VC] at h; obtain ⟨c, rfl, h⟩ := h
    obtain ⟨_, _, _, _, k, ver, l, hr, _⟩ := h
    exact ⟨k, ver, l, jY hr⟩
  | .fn _ _ _, _, _, id, hid | .iface _ _, _, _, id, hid | .arr _, _, _, id, hid | .ptr _ _, _, _, id, hid | .map _, _, _, id, hid
  | .top, _, _, id, hid | .und, _, _, id, hid | .int _ _, _, _, id, hid | .bool _, _, _, id, hid | .str _, _, _, id, hid | .sl _ _, _, _, id, hid
  | .ep _ _ _, _, _, id, hid | .nilp, _, _, id, hid | .nilfn, _, _, id, hid | .niliface, _, _, id, hid => by simp [AV.rows] at hid
theorem aBn : ∀ {vs : List AV} {cs : List Value}, VCs X vs cs → ∀ id, id ∈ AV.rowss vs → ∃ k ver l, X.h[id]? = some (.row k ver l)
  | [], _, _, id, hid => by simp [AV.rowss] at hid
  | v :: r, _, h, id, hid => by
    simp only [VCs] at h; obtain ⟨c, d, rfl, h1, h2⟩ := h
    simp only [AV.rowss, List.mem_append] at hid
    exact hid.elim (aLT h1 id) (aBn h2 id)
end

theorem yB : ∀ (ids : List Nat) (h : List AObj), (fZ ids h).length = h.length
  | [], _ => rfl
  | id :: r, h => by simp [fZ, yB r]

theorem aJo (o : AObj) : froO (froO o) = froO o := by cases o <;> rfl

theorem aCi : ∀ (ids : List Nat) (h : List AObj) (i : Nat), (fZ ids h)[i]? = if i ∈ ids then (h[i]?).map froO else h[i]?
  | [], _, _ => by simp [fZ]
  | id :: r, h, i => by
    simp only [fZ]
    rw [aCi r, List.getElem?_modify]
    by_cases e : id = i
    · subst e
      simp only [if_true, List.mem_cons, true_or]
      split
      · cases h[id]? <;> simp [aJo]
      · cases h[id]? <;> simp
    · simp only [if_neg e, List.mem_cons, Ne.symm e, false_or, id_eq]
      cases h[i]? <;> simp

def Cx.fro (X : Cx) (ids : List Nat) : Cx := ⟨fun b => X.S b ∨ ∃ id ∈ ids, X.μ[id]? = some (some b), X.μ, fZ ids X.h, X.w⟩

theorem yY (H : HR X) {ids : List Nat} (hr : ∀ id ∈ ids, ∃ k ver l, X.h[id]? = some (.row k ver l)) : HR (X.fro ids) ∧ Ext X (X.fro ids) := by
  have hh : ∀ i, (X.fro ids).h[i]? = _ := aCi ids X.h
  have E : Ext X (X.fro ids) := by
    refine ⟨fun _ h => .inl h, fun _ _ => rfl, fun b hb => ?_, fun i b hb => .inl hb, fun _ _ _ => rfl, Nat.le_refl _, fun i k ver l hl => ?_, fun i b h1 h2 => ⟨h2, ?_⟩, jI.refl _⟩
    · rcases hb with h | ⟨id, _, h⟩
      · exact .inl h
      · exact .inr (.inl ⟨id, h⟩)
    · rw [hh]
      split
      · rename_i hi
        rw [jY hl]
        exact ⟨.fro, ver, l, rfl, Nat.le_refl _, fun _ => ⟨rfl, rfl, fun b hb => ⟨hb, Nat.le_refl _⟩⟩, fun _ => ⟨by simp, rfl⟩⟩
      · exact ⟨k, ver, l, hl, Nat.le_refl _, fun _ => ⟨rfl, rfl, fun b hb => ⟨hb, Nat.le_refl _⟩⟩, fun h => ⟨h, rfl⟩⟩
    · rw [hh]
      split
      · rename_i hi
        obtain ⟨k, ver, l, e⟩ := hr i hi
        rw [e] at h1; cases h1
      · exact h1
  refine ⟨⟨by rw [show (X.fro ids).μ = X.μ from rfl, show (X.fro ids).h = fZ ids X.h from rfl, yB, H.len], fun i o ho => ?_, H.apart, fun i b hb => ⟨(H.live i b hb).1, fun hs => ?_⟩, fun b hb => ?_⟩, E⟩
  · rw [hh] at ho
    split at ho
    · rename_i hi
      obtain ⟨k, ver, l, e⟩ := hr i hi
      rw [e] at ho
      cases ho
      obtain ⟨b, hb, hor⟩ := H.obj i _ e
      refine ⟨b, hb, ?_⟩
      rcases hor with ⟨h1, h2, _⟩ | ⟨b', cs, elem, rfl, h1, ⟨a, r, h2, h3⟩, _⟩
      · exact .inl ⟨h1, h2, by simp⟩
      · exact .inr ⟨b', cs, elem, rfl, h1, ⟨a, r, h2, LR.ext E.v h3⟩, fun _ => .inr ⟨i, hi, hb⟩⟩
    · obtain ⟨b, hb, hor⟩ := H.obj i o ho
      exact ⟨b, hb, hor.ext E fun _ _ => rfl⟩
  · rw [hh]
    rcases hs with h | ⟨id, hid, h⟩
    · obtain ⟨ver, l, e⟩ := (H.live i b hb).2 h
      rw [e]
      split
      · exact ⟨ver, l, rfl⟩
      · exact ⟨ver, l, rfl⟩
    · obtain rfl := H.apart _ _ _ hb h
      obtain ⟨k, ver, l, e⟩ := hr i hid
      rw [if_pos hid, e]
      exact ⟨ver, l, rfl⟩
  · rcases hb with h | ⟨id, _, h⟩
    · exact H.old b h
    · exact (H.live _ _ h).1

end

section
variable {ro : Option Nat} {P : Program} {X : Cx} {o : Oper} {a : Act} {h' : List AObj} {v : AV}

theorem jK {s : Sem Value} (H : HR X) (hd : ∀ c, o.op ≠ .defer c) (he : execOp a.eval o = (do pure (.value (← s)))) (hp : Pure P s X v) : OpTo ro P o a X.w (Good X X.h v) := by
  obtain ⟨c, hr, hv⟩ := hp
  exact OpTo.value hd (by rw [he]; simp [hr]) (Good.same H rfl hv)

theorem tF {s : Sem Value} (hd : ∀ c, o.op ≠ .defer c) (he : execOp a.eval o = (do pure (.value (← s)))) (hp : ∃ c w', s.run P X.w = .ok c w' ∧ Good X h' v c w') : OpTo ro P o a X.w (Good X h' v) := by
  obtain ⟨c, w', hr, hv⟩ := hp
  exact OpTo.value hd (by rw [he]; simp [hr]) hv

theorem aDf {s : Sem Unit} (hd : ∀ c, o.op ≠ .defer c) (he : execOp a.eval o = (do s; pure .skip)) (hp : ∃ w', s.run P X.w = .ok () w' ∧ Good X h' v undef w') : OpTo ro P o a X.w (Good X h' v) := by
  obtain ⟨w', hr, hv⟩ := hp
  exact OpTo.skip hd (by rw [he]; simp [hr]) hv

theorem gZ {x : D} {S : Prop} {news : List AObj} {mm : Option (Nat × AObj)} (h : ofD x = some (S, v, news, mm)) : x = some (S, v, news) ∧ mm = none := by
  unfold ofD at h; split at h
  · cases h; exact ⟨rfl, rfl⟩
  · cases h
theorem tG {x : Option (Prop × Nat × AObj)} {S : Prop} {news : List AObj} {mm : Option (Nat × AObj)} (h : ofH x = some (S, v, news, mm)) : ∃ id o, x = some (S, id, o) ∧ v = .und ∧ news = [] ∧ mm = some (id, o) := by
  unfold ofH at h; split at h
  · cases h; exact ⟨_, _, rfl, rfl, rfl, rfl⟩
  · cases h
theorem tH {x : Option (Prop × AV × Nat × AObj)} {S : Prop} {news : List AObj} {mm : Option (Nat × AObj)} (h : ofM x = some (S, v, news, mm)) : ∃ id o, x = some (S, v, id, o) ∧ news = [] ∧ mm = some (id, o) := by
  unfold ofM at h; split at h
  · cases h; exact ⟨_, _, rfl, rfl, rfl⟩
  · cases h

theorem yZ {t : List (Nat × AV)} {f : Nat → TyD} : ∀ {l : List (Nat × Operand)}, (∀ p ∈ l, ∀ d, VV X (ev t d p.2) (a.eval p.2)) →
    sP X (l.map fun p => (p.1, ev t (f p.1) p.2)) (l.map fun p => (p.1, a.eval p.2))
  | [], _ => .nil
  | p :: r, hv => .cons _ _ _ _ _ (hv p (by simp) _) (yZ fun q hq => hv q (by simp [hq]))

theorem wA {α : Type} {f : α → AV} {g : α → Value} : ∀ {l : List α}, (∀ p ∈ l, VV X (f p) (g p)) → VVs X (l.map f) (l.map g)
  | [], _ => rfl
  | p :: r, hv => ⟨_, _, rfl, hv p (by simp), wA fun q hq => hv q (by simp [hq])⟩

theorem wB {α β : Type} : ∀ {l : List α} {r : List β}, l.length = r.length → (l.zip r).map (·.1) = l
  | [], _, _ => by simp
  | a :: l, [], h => by simp at h
  | a :: l, b :: r, h => by simp only [List.zip_cons_cons, List.map_cons]; rw [wB (by simpa using h)]

theorem aFj {t : List (Nat × AV)} {x : Option Operand} {d : TyD} (hv : ∀ y, x = some y → VV X (ev t d y) (a.eval y)) : OptR X (x.map (ev t d)) (x.map a.eval) := by
  cases x with
  | none => trivial
  | some y => exact hv y rfl

theorem VVs2 {x y : AV} {cs : List Value} (h : VVs X [x, y] cs) : ∃ c d, cs = [c, d] ∧ VV X x c ∧ VV X y d := by
  simp only [VVs] at h
  obtain ⟨c, d, rfl, h1, e, f, rfl, h2, rfl⟩ := h
  exact ⟨c, e, rfl, h1, h2⟩
theorem VVs1 {x : AV} {cs : List Value} (h : VVs X [x] cs) : ∃ c, cs = [c] ∧ VV X x c := by
  simp only [VVs] at h
  obtain ⟨c, d, rfl, h1, rfl⟩ := h
  exact ⟨c, rfl, h1⟩

theorem aGq (H : HR X) {U : TypeId} {e2 : LK} (hU : tyB P (.slice e2) U = true) {x : AV} {cx : Value} (hx : VV X x cx) :
    ∀ (e : LK) (ys : Lst), x.list X.h = some ys → ys.kind = e → ∃ yc, jR P X e U ys yc cx := by
  intro e ys hl hk
  obtain ⟨E2, hu, _⟩ := iM hU
  obtain ⟨yc, L⟩ := nH H hx hl
  exact ⟨yc, .sl E2 ys yc cx hu hk L⟩

theorem aKA {xs ys : Lst} {n : Nat} {S : Prop} {news : List AObj} (h : kR xs ys n = some (S, v, news)) : news ≠ [] := by
  rintro rfl
  unfold kR at h
  cases hz : xs.app ys with
  | none => simp [hz, eN] at h
  | some zs => simp [hz, eN] at h

theorem aGr {d : TyD} {h : List AObj} {x y : AV} {n : Nat} {S : Prop} {news : List AObj} (hd : fT d h x y n = some (S, v, news)) : news ≠ [] := by
  have fin : ∀ xs, (eN (y.list h) fun ys => kR xs ys n) = some (S, v, news) → news ≠ [] := by
    intro xs h1
    cases hl : y.list h with
    | none => simp [hl, eN] at h1
    | some ys => simp only [hl, eN] at h1; exact aKA h1
  unfold fT at hd
  split at hd
  · exact fin _ (dT hd).2
  · rename_i id ver off len
    split at hd
    rotate_left
    · cases hd
    have := (dT hd).2
    cases hl : lL (h[id]?) ver off len with
    | none => simp [hl, eN] at this
    | some xs =>
      simp only [hl] at this
      exact fin xs this
  · cases hd

theorem aJp (H : HR X) {c : Ctx} (C : lP P c) {T U ty : TypeId} {s : Nat} {x y : AV} {cx cy : Value} {S : Prop} {news : List AObj} {mm : Option (Nat × AObj)} (hx : VV X x cx) (hy : VV X y cy)
    (hdead : ∀ j, j < news.length → X.h[s + j]? = some .dead) (h : mL (c.tab T) (c.tab U) x y X.h s = some (S, v, news, mm)) (hS : S) (hs0 : X.h[s]? = some .dead ∨ news = []) :
    ∃ r w', (Builtin.append_ #[T, U] ty #[cx, cy]).run P X.w = .ok r w' ∧ Good X (dI (eA X.h s news) mm) v r w' := by
  have core : ∀ (y : AV) (hA : ∀ e ys, c.tab T = .slice e → y.list X.h = some ys → ys.kind = e → ∃ yc, jR P X e U ys yc cy) {S : Prop}, S → ofDM (fT (c.tab T) X.h x y s) (gJ (c.tab T) X.h x y) = some (S, v, news, mm) →
      ∃ r w', (Builtin.append_ #[T, U] ty #[cx, cy]).run P X.w = .ok r w' ∧ Good X (dI (eA X.h s news) mm) v r w' := by
    intro y hA S hS h
    unfold ofDM at h
    split at h
    · rename_i d hd
      obtain ⟨S', v', news'⟩ := d
      simp only [ofD, Option.some.injEq, Prod.mk.injEq] at h
      obtain ⟨rfl, rfl, rfl, rfl⟩ := h
      have hn : news' ≠ [] := aGr hd
      have hd0 : X.h[s]? = some .dead := hs0.resolve_right hn
      obtain ⟨o, r, w', rfl, hr, hg⟩ := aEq (ty := ty) H (C.tab T) hx hd0 hA hd hS
      exact ⟨r, w', hr, by simpa [dI, eA] using hg⟩
    · obtain ⟨id, o, h1, rfl, rfl⟩ := tH h
      obtain ⟨r, w', hr, hg⟩ := aEr (ty := ty) H (C.tab T) hx hA h1 hS
      exact ⟨r, w', hr, by simpa [dI, eA] using hg⟩
  unfold mL at h
  split at h
  · rename_i e2 he2
    have hU := C.tab U
    rw [he2] at hU
    exact core y (fun e ys _ hl hk => aGq H hU hy e ys hl hk) hS h
  · rename_i k hk2
    split at h
    · rename_i m
      unfold aEA at h
      split at h
      · rename_i S1 r1 h1
        cases h
        obtain rfl : cy = .int .i64 m := hy
        have hU := C.tab U
        rw [hk2] at hU
        refine core (jX (c.tab T) m) (fun e ys he hl hke => ?_) hS.2 h1
        rw [he] at hl
        cases hp : (e.zeros 1).plain with
        | true =>
          have hz : jX (.slice e) m = .sl true (e.zeros m.toNat) := by cases e <;> first | rfl | cases hp
          rw [hz] at hl
          simp only [AV.list, Option.some.injEq] at hl
          subst hl
          exact ⟨_, .zs k .i64 m (vV hU) hS.1.1 hS.1.2 hp⟩
        | false => cases e <;> simp only [LK.zeros, Lst.plain, Bool.true_eq_false] at hp; cases hl
      · cases h
    · cases h
  · cases h

theorem aHT (H : HR X) {c : Ctx} (C : lP P c) {b : Builtin} {Ts : List TypeId} {ty : TypeId} {s : Nat} {args : List AV} {cs : List Value} {S : Prop} {news : List AObj} {mm : Option (Nat × AObj)}
    (consts : Array Bool) (hv : VVs X args cs) (hdead : ∀ j, j < news.length → X.h[s + j]? = some .dead) (h : lO b (Ts.map c.tab) args X.h s = some (S, v, news, mm)) (hS : S) :
    ∃ r w', (builtin b Ts.toArray ty consts cs.toArray).run P X.w = .ok (.value r) w' ∧ Good X (dI (eA X.h s news) mm) v r w' := by
  have pu : ∀ {sm : Sem Value}, Pure P sm X v → news = [] → mm = none → (∀ w, (builtin b Ts.toArray ty consts cs.toArray).run P w = (sm.run P w).andThen fun r w' => .ok (.value r) w') →
      ∃ r w', (builtin b Ts.toArray ty consts cs.toArray).run P X.w = .ok (.value r) w' ∧ Good X (dI (eA X.h s news) mm) v r w' := by
    rintro sm ⟨r, hr, hvv⟩ rfl rfl hb
    refine ⟨r, X.w, by rw [hb, hr]; rfl, ?_⟩
    simpa [dI, eA] using Good.same H rfl hvv
  have ma : ∀ {sm : Sem Value}, (∃ r w', sm.run P X.w = .ok r w' ∧ Good X (dI (eA X.h s news) mm) v r w') → (∀ w, (builtin b Ts.toArray ty consts cs.toArray).run P w = (sm.run P w).andThen fun r w' => .ok (.value r) w') →
      ∃ r w', (builtin b Ts.toArray ty consts cs.toArray).run P X.w = .ok (.value r) w' ∧ Good X (dI (eA X.h s news) mm) v r w' := by
    rintro sm ⟨r, w', hr, hg⟩ hb
    exact ⟨r, w', by rw [hb, hr]; rfl, hg⟩
  have one : ∀ {d : TyD}, Ts.map c.tab = [d] → ∃ T, Ts = [T] ∧ d = c.tab T := by
    intro d hd
    cases Ts with
    | nil => cases hd
    | cons T r => cases r with
      | nil => cases hd; exact ⟨T, rfl, rfl⟩
      | cons _ _ => cases hd
  have two : ∀ {d e : TyD}, Ts.map c.tab = [d, e] → ∃ T U, Ts = [T, U] ∧ d = c.tab T ∧ e = c.tab U := by
    intro d e hd
    cases Ts with
    | nil => cases hd
    | cons T r => cases r with
      | nil => cases hd
      | cons U q => cases q with
        | nil => cases hd; exact ⟨T, U, rfl, rfl, rfl⟩
        | cons _ _ => cases hd
  unfold lO at h
  split at h
  · rename_i d x hds
    obtain ⟨T, rfl, rfl⟩ := one hds
    obtain ⟨cx, rfl, hx⟩ := VVs1 hv
    obtain ⟨hh, rfl⟩ := gZ h
    obtain ⟨rfl, hp⟩ := aJb (C.tab T) hx ty hh hS
    exact pu hp rfl rfl fun w => by simp [builtin]
  · obtain ⟨c1, c2, rfl, h1, h2⟩ := VVs2 hv
    obtain ⟨hh, rfl⟩ := gZ h
    obtain ⟨rfl, hp⟩ := aIZ h1 h2 Ts.toArray ty hh hS
    exact pu hp rfl rfl fun w => by simp [builtin]
  · obtain ⟨c1, c2, rfl, h1, h2⟩ := VVs2 hv
    obtain ⟨hh, rfl⟩ := gZ h
    obtain ⟨rfl, hp⟩ := aJa h1 h2 Ts.toArray ty hh hS
    exact pu hp rfl rfl fun w => by simp [builtin]
  · rename_i d e x y hds
    obtain ⟨T, U, rfl, rfl, rfl⟩ := two hds
    obtain ⟨c1, c2, rfl, h1, h2⟩ := VVs2 hv
    refine ma (aJp (ty := ty) H C h1 h2 hdead h hS ?_) fun w => by simp [builtin]
    cases news with
    | nil => exact .inr rfl
    | cons o r => exact .inl (by simpa using hdead 0 (by simp))
  · rename_i d e x y hds
    obtain ⟨T, U, rfl, rfl, rfl⟩ := two hds
    obtain ⟨c1, c2, rfl, h1, h2⟩ := VVs2 hv
    obtain ⟨id, o, hh, rfl, rfl⟩ := tH h
    refine ma (sm := Builtin.copy_ #[T, U] ty #[c1, c2]) ?_ fun w => by simp [builtin]
    · obtain ⟨r, w', hr, hg⟩ := aHL (U := U) (ty := ty) H (C.tab T) h1 h2 hh hS
      exact ⟨r, w', hr, by simpa [dI, eA] using hg⟩
  · rename_i d x hds
    obtain ⟨T, rfl, rfl⟩ := one hds
    obtain ⟨cx, rfl, hx⟩ := VVs1 hv
    obtain ⟨id, o, hh, rfl, rfl⟩ := tH h
    refine ma (sm := Builtin.clear_ #[T] ty #[cx]) ?_ fun w => by simp [builtin]
    · obtain ⟨r, w', hr, hg⟩ := aGj (ty := ty) H (C.tab T) hx hh hS
      exact ⟨r, w', hr, by simpa [dI, eA] using hg⟩
  · cases h

theorem nJ {c : Ctx} {f : FuncId} {vs : Option (List AV)} {r : Bool × D} (h : nD c f vs = some r) : ∃ us, vs = some us ∧ AV.closeds us = true ∧ c.envF f us = some r := by
  unfold nD at h
  split at h
  · rename_i us
    split at h
    · rename_i hc; exact ⟨us, rfl, hc, h⟩
    · cases h
  · cases h

theorem aFk {cl : Call} (ho : o.op = .call cl) {fo : Operand} (hcal : cl.callee = .value fo) {fn : FuncId} {ca cd : Array Value} (hf : a.eval fo = .func (.func fn) ca cd) (w : World) :
    (execOp a.eval o).run P w = (callFunc fn (ca ++ cl.args.map a.eval ++ cd)).run P w := by
  simp [execOp, ho, resolve, hcal, hf, Deferred.ofValue, invoke]

theorem aLU (H : HR X) {mt : Bool} {c : Ctx} (C : lP P c) {f : AV} {args : List AV} {s : Nat} {S : Prop} {news : List AObj} {mm : Option (Nat × AObj)} {cl : Call} (ho : o.op = .call cl) {fo : Operand}
    (hcal : cl.callee = .value fo) (hf : VV X f (a.eval fo)) (hv : VVs X args (cl.args.map a.eval).toList)
    (hdead : ∀ j, j < news.length → X.h[s + j]? = some .dead) (h : oK mt c s f args X.h = some (S, v, news, mm)) (hS : S) : OpTo ro P o a X.w (Good X (dI (eA X.h s news) mm) v) := by
  have hnd : ∀ c, o.op ≠ .defer c := by rw [ho]; intro c h; cases h
  unfold oK at h
  split at h
  rotate_left
  · cases h
  rename_i q fn first cap
  simp only [VV] at hf
  obtain ⟨ca, cd, hfe, hf1, hf2⟩ := hf
  have hargs : VVs X (first ++ args ++ cap) ((ca ++ cl.args.map a.eval ++ cd).toList) := by
    rw [Array.toList_append, Array.toList_append]
    exact nX (nX hf1 hv) hf2
  have hrun := aFk (P := P) ho hcal hfe X.w
  unfold vZ at h
  split at h
  · rename_i S' v' news' e
    simp only [Option.some.injEq, Prod.mk.injEq] at h
    obtain ⟨rfl, rfl, rfl, rfl⟩ := h
    obtain ⟨us, e1, e2, e3⟩ := nJ e
    have hc := C.fok.spec _ _ _ _ _ _ e3 hS ⟨fun b => b < X.w.heap.size, [], [], X.w⟩ (ca ++ cl.args.map a.eval ++ cd) rfl rfl (hr0 fun _ h => h)
      (xG H H.old (fun id _ b hb => (H.live id b hb).1) e1 e2 hargs)
    refine OpTo.enter hnd (by rw [hrun, C.fok.enter _ _ _ e3]) (hc.mono fun e w'' he => ?_)
    obtain ⟨r, rfl, Y, rfl, HY, E, rfl, hnew, hsh, HY0, hvv⟩ := he
    obtain ⟨Z1, Z2, Z3⟩ := aDC H E HY0 hdead hnew
    exact ⟨⟨X.S, eA X.μ s Y.μ, eA X.h s Y.h, Y.w⟩, rfl, rfl, Z1, Z2, shV Z3 hsh hvv⟩
  · rename_i S' v' news' e
    split at h
    · rename_i hns
      simp only [Option.some.injEq, Prod.mk.injEq] at h
      obtain ⟨rfl, rfl, rfl, rfl⟩ := h
      obtain ⟨us, e1, e2, e3⟩ := nJ e
      have hc := C.fok.spec _ _ _ _ _ _ e3 hS ⟨fun b => b < X.w.heap.size, [], [], X.w⟩ (ca ++ cl.args.map a.eval ++ cd) rfl rfl (hr0 fun _ h => h)
        (xG H H.old (fun id _ b hb => (H.live id b hb).1) e1 e2 hargs)
      refine OpTo.enter hnd (by rw [hrun, C.fok.enter _ _ _ e3]) (hc.mono fun e w'' he => ?_)
      obtain ⟨r, rfl, Y, rfl, HY, E, hcl, hvv⟩ := he
      obtain ⟨Z1, Z2⟩ := vE H E
      exact ⟨⟨X.S, X.μ, X.h, Y.w⟩, rfl, rfl, Z1, Z2, aCh hns hvv⟩
    split at h
    · rename_i hrows
      simp only [Option.some.injEq, Prod.mk.injEq] at h
      obtain ⟨rfl, rfl, rfl, rfl⟩ := h
      obtain ⟨us, e1, e2, e3⟩ := nJ e
      have hc := C.fok.spec _ _ _ _ _ _ e3 hS ⟨X.S, [], [], X.w⟩ (ca ++ cl.args.map a.eval ++ cd) rfl rfl (hr0 H.old)
        (xG H (fun _ h => h) (by rw [hrows]; intro id hid; cases hid) e1 e2 hargs)
      refine OpTo.enter hnd (by rw [hrun, C.fok.enter _ _ _ e3]) (hc.mono fun e w'' he => ?_)
      obtain ⟨r, rfl, Y, rfl, HY, E, hcl, hvv⟩ := he
      obtain ⟨Z1, Z2⟩ := rT H E HY
      exact ⟨⟨Y.S, X.μ, X.h, Y.w⟩, rfl, rfl, Z1, Z2, iK (X := Y) (Y := ⟨Y.S, X.μ, X.h, Y.w⟩) (fun _ h => h) (fun _ _ => rfl) hcl hvv⟩
    · rename_i id hrows
      split at h
      rotate_left
      · cases h
      simp only [Option.some.injEq, Prod.mk.injEq] at h
      obtain ⟨rfl, rfl, rfl, rfl⟩ := h
      obtain ⟨us, e1, e2, e3⟩ := nJ e
      obtain ⟨H1, E1⟩ := yY H (ids := AV.rowss (first ++ args ++ cap)) (fun id hid => qZ hargs id hid)
      have hc := C.fok.spec _ _ _ _ _ _ e3 hS ⟨(X.fro (AV.rowss (first ++ args ++ cap))).S, [], [], X.w⟩ (ca ++ cl.args.map a.eval ++ cd) rfl rfl (hr0 H1.old)
        (xG H (fun _ h => .inl h) (fun id hid b hb => .inr ⟨id, hid, hb⟩) e1 e2 hargs)
      refine OpTo.enter hnd (by rw [hrun, C.fok.enter _ _ _ e3]) (hc.mono fun e w'' he => ?_)
      obtain ⟨r, rfl, Y, rfl, HY, E, hcl, hvv⟩ := he
      obtain ⟨Z1, Z2⟩ := rT (X := X.fro (AV.rowss (first ++ args ++ cap))) H1 E HY
      refine ⟨⟨Y.S, X.μ, fZ (AV.rowss (first ++ args ++ cap)) X.h, Y.w⟩, rfl, ?_, Z1, E1.trans Z2,
        iK (X := Y) (Y := ⟨Y.S, X.μ, fZ (AV.rowss (first ++ args ++ cap)) X.h, Y.w⟩) (fun _ h => h) (fun _ _ => rfl) hcl hvv⟩
      show fZ (AV.rowss (first ++ args ++ cap)) X.h = dI (eA X.h s []) _
      rw [hrows, ← aCg]
      rfl
    · cases h
  · cases h

theorem aFl {d : TyD} {x : D} {S : Prop} {news : List AObj} (h : fitD d x = some (S, v, news)) : ∃ S', x = some (S', v, news) ∧ S = (S' ∧ fitP d v) := by
  unfold fitD at h
  split at h
  · cases h; exact ⟨_, rfl, rfl⟩
  · cases h

theorem uK (H : HR X) {c : Ctx} {apps : List Nat} (C : lP P c) {t : List (Nat × AV)} {s : Nat} {S : Prop} {news : List AObj} {mm : Option (Nat × AObj)}
    (hv : ∀ x, x ∈ o.op.operands.toList → ∀ d, VV X (ev t d x) (a.eval x)) (hdead : ∀ j, j < news.length → X.h[s + j]? = some .dead)
    (h : opD c apps s t X.h o.op o.type = some (S, v, news, mm)) (hS : S) : OpTo ro P o a X.w (Good X (dI (eA X.h s news) mm) v) := by
  cases ho : o.op with
  | move x =>
    rw [ho] at h hv
    simp only [opD, Option.some.injEq, Prod.mk.injEq] at h
    obtain ⟨rfl, rfl, rfl, rfl⟩ := h
    exact jK (s := pure (a.eval x)) H (by rw [ho]; intro c h; cases h) (by simp [execOp, ho]) ⟨_, rfl, hv x (by simp [Op.operands]) _⟩
  | assign x =>
    rw [ho] at h hv
    simp only [opD, Option.some.injEq, Prod.mk.injEq] at h
    obtain ⟨rfl, rfl, rfl, rfl⟩ := h
    exact jK (s := pure (a.eval x)) H (by rw [ho]; intro c h; cases h) (by simp [execOp, ho]) ⟨_, rfl, hv x (by simp [Op.operands]) _⟩
  | pick cd x y =>
    rw [ho] at h hv
    obtain ⟨hh, rfl⟩ := gZ h
    obtain ⟨rfl, hp⟩ := aHH (P := P) (hv cd (by simp [Op.operands]) _) (hv x (by simp [Op.operands]) _) (hv y (by simp [Op.operands]) _) hh hS
    exact jK H (by rw [ho]; intro c h; cases h) (by simp [execOp, ho]) hp
  | alloc T =>
    rw [ho] at h hv
    simp only [opD, aHg, Option.some.injEq, Prod.mk.injEq] at h
    obtain ⟨rfl, rfl, rfl, rfl⟩ := h
    exact tF (by rw [ho]; intro c h; cases h) (by simp only [execOp, ho]) (aGg H (C.tab T) (by simpa using hdead 0 (by simp)) hS)
  | box T x =>
    rw [ho] at h hv
    simp only [opD, aLr, Option.some.injEq, Prod.mk.injEq] at h
    obtain ⟨rfl, rfl, rfl, rfl⟩ := h
    exact tF (by rw [ho]; intro c h; cases h) (by simp only [execOp, ho]) (aGh (T := T) H (by simpa using hdead 0 (by simp)) hS (hv x (by simp [Op.operands]) _))
  | build T parts =>
    rw [ho] at h hv
    obtain ⟨hh, rfl⟩ := gZ h
    obtain ⟨rfl, hp⟩ := aGf (P := P) (cps := parts.map fun p => (p.1, a.eval p.2)) (C.tab T)
      (by rw [Array.toList_map]; exact yZ (f := fun i => (c.tab T).field i) fun p hp d => hv p.2 (by simp only [Op.operands]; exact List.mem_map_of_mem hp) d) hh hS
    exact jK H (by rw [ho]; intro c h; cases h) (by simp only [execOp, ho]) hp
  | buildSlice T n parts =>
    rw [ho] at h hv
    obtain ⟨hh, rfl⟩ := gZ h
    have hd0 : X.h[s]? = some .dead := by
      refine hdead 0 ?_
      unfold fD at hh
      split at hh
      · unfold eN at hh; split at hh
        · cases hh; simp
        · cases hh
      · cases hh
    obtain ⟨o', r, w', rfl, hr, hg⟩ := aBk (P := P) (cps := parts.map fun p => (p.1, a.eval p.2)) H (C.tab T) hd0
      (by rw [Array.toList_map]; exact yZ (f := fun _ => .other) fun p hp d => hv p.2 (by simp only [Op.operands]; exact List.mem_map_of_mem hp) d) hh hS
    exact tF (by rw [ho]; intro c h; cases h) (by simp only [execOp, ho]) ⟨r, w', hr, hg⟩
  | load T x =>
    rw [ho] at h hv
    obtain ⟨hh, rfl⟩ := gZ h
    obtain ⟨S', h1, rfl⟩ := aFl hh
    obtain ⟨rfl, hl⟩ := aAH H h1 hS.1 (hv x (by simp [Op.operands]) .ptr)
    obtain ⟨r, hr, hvv⟩ := aBP (P := P) (C.tab T) hS.2 hl
    exact tF (s := Instr.loadAt T (a.eval x)) (by rw [ho]; intro c h; cases h) (by simp only [execOp, ho]) ⟨r, X.w, hr, Good.same H rfl hvv⟩
  | store T x y =>
    rw [ho] at h hv
    obtain ⟨id, o', hh, rfl, rfl, rfl⟩ := tG h
    obtain ⟨w', hr, hg⟩ := aGi H (C.tab T) (hv x (by simp [Op.operands]) .ptr) (hv y (by simp [Op.operands]) _) hh hS
    exact aDf (by rw [ho]; intro c h; cases h) (by simp only [execOp, ho]) ⟨w', hr, by simpa [dI, eA] using hg⟩
  | nilCheck x =>
    rw [ho] at h hv
    obtain ⟨hh, rfl⟩ := gZ h
    obtain ⟨rfl, r, hr, hvv⟩ := aDd ho rfl (hv x (by simp [Op.operands]) .ptr) hh hS
    exact OpTo.value (by rw [ho]; intro c h; cases h) hr (Good.same H rfl hvv)
  | binOp op xt x y b =>
    rw [ho] at h hv
    have core : ofD (binD (c.tab xt) op (ev t (c.tab xt) x) (ev t (c.tab xt) y)) = some (S, v, news, mm) → OpTo ro P o a X.w (Good X (dI (eA X.h s news) mm) v) := by
      intro h
      obtain ⟨hh, rfl⟩ := gZ h
      obtain ⟨rfl, hp⟩ := aJf (P := P) (ox := x) (oy := y) (C.tab xt) (C.sh xt) (hv x (by simp [Op.operands]) _) (hv y (by simp [Op.operands]) _) hh hS
      exact jK H (by rw [ho]; intro c h; cases h) (by simp only [execOp, ho]) hp
    simp only [opD] at h
    split at h
    · cases h
    · exact core h
  | unOp op xt x =>
    rw [ho] at h hv
    obtain ⟨hh, rfl⟩ := gZ h
    obtain ⟨rfl, hp⟩ := aKt (P := P) (hv x (by simp [Op.operands]) _) hh hS
    exact jK H (by rw [ho]; intro c h; cases h) (by simp only [execOp, ho]) hp
  | convert s d x =>
    rw [ho] at h hv
    obtain ⟨hh, rfl⟩ := gZ h
    obtain ⟨rfl, hp⟩ := aHI (P := P) H (C.tab s) (C.tab d) (hv x (by simp [Op.operands]) _) hh hS
    exact jK H (by rw [ho]; intro c h; cases h) (by simp only [execOp, ho]) hp
  | makeInterface T x =>
    rw [ho] at h hv
    simp only [opD, aCf] at h
    split at h
    · rename_i hk
      simp only [Option.some.injEq, Prod.mk.injEq] at h
      obtain ⟨rfl, rfl, rfl, rfl⟩ := h
      exact jK H (by rw [ho]; intro c h; cases h) (by simp only [execOp, ho])
        (aBQ (P := P) (C.tab T) hk (hv x (by simp [Op.operands]) _) (by intro ts e; rw [e] at hk; cases hk))
    · cases h
  | makeFunc fn first cap =>
    rw [ho] at h hv
    simp only [opD, Option.some.injEq, Prod.mk.injEq] at h
    obtain ⟨rfl, rfl, rfl, rfl⟩ := h
    refine jK (s := Instr.makeFunc fn (first.map a.eval) (cap.map a.eval)) H (by rw [ho]; intro c h; cases h) (by simp only [execOp, ho]) ⟨.func fn (first.map a.eval) (cap.map a.eval), rfl, ?_⟩
    simp only [VV]
    refine ⟨_, _, rfl, ?_, ?_⟩
    · rw [Array.toList_map]; exact wA fun p hp => hv p (by simp only [Op.operands, Array.toList_append]; exact List.mem_append_left _ hp) _
    · rw [Array.toList_map]; exact wA fun p hp => hv p (by simp only [Op.operands, Array.toList_append]; exact List.mem_append_right _ hp) _
  | makeMap T r =>
    rw [ho] at h hv
    cases r with
    | some _ => cases h
    | none =>
      obtain ⟨hh, rfl⟩ := gZ h
      have hd0 : X.h[s]? = some .dead := by
        refine hdead 0 ?_
        unfold jP at hh
        split at hh <;> first | (cases hh; done) | (cases hh; simp)
      obtain ⟨o', r, w', rfl, hr, hg⟩ := aEo (P := P) (T := T) H hd0 hh hS
      exact tF (by rw [ho]; intro c h; cases h) (by simp only [execOp, ho]; rfl) ⟨r, w', hr, hg⟩
  | makeSlice T l cp =>
    rw [ho] at h hv
    obtain ⟨hh, rfl⟩ := gZ h
    have hd0 : X.h[s]? = some .dead := by
      refine hdead 0 ?_
      unfold jD at hh
      split at hh <;> cases hh
      simp
    obtain ⟨o', r, w', rfl, hr, hg⟩ := aBW (P := P) H (C.tab T) hd0 (hv l (by simp [Op.operands]) _) (hv cp (by simp [Op.operands]) _) hh hS
    exact tF (by rw [ho]; intro c h; cases h) (by simp only [execOp, ho]) ⟨r, w', hr, hg⟩
  | slice T x lo hi mx =>
    rw [ho] at h hv
    obtain ⟨hh, rfl⟩ := gZ h
    obtain ⟨rfl, hp⟩ := aGb (P := P) H (C.tab T) (hv x (by simp [Op.operands]) _)
      (aFj (x := lo) (a := a) fun y hy => hv y (by subst hy; simp [Op.operands]) _) (aFj (x := hi) (a := a) fun y hy => hv y (by subst hy; simp [Op.operands]) _) (aFj (x := mx) (a := a) fun y hy => hv y (by subst hy; simp [Op.operands]) _) hh hS
    exact jK H (by rw [ho]; intro c h; cases h) (by simp only [execOp, ho]) hp
  | fieldAddr T x f =>
    rw [ho] at h hv
    obtain ⟨hh, rfl⟩ := gZ h
    obtain ⟨rfl, hp⟩ := aBS (P := P) (C.tab T) (hv x (by simp [Op.operands]) _) hh hS
    exact jK H (by rw [ho]; intro c h; cases h) (by simp only [execOp, ho]) hp
  | field T x f =>
    rw [ho] at h hv
    obtain ⟨hh, rfl⟩ := gZ h
    obtain ⟨rfl, hp⟩ := aGc (P := P) (C.tab T) (hv x (by simp [Op.operands]) _) hh hS
    exact jK H (by rw [ho]; intro c h; cases h) (by simp only [execOp, ho]) hp
  | indexAddr T x i =>
    rw [ho] at h hv
    obtain ⟨hh, rfl⟩ := gZ h
    obtain ⟨rfl, hp⟩ := aBT (P := P) H (C.tab T) (hv x (by simp [Op.operands]) _) (hv i (by simp [Op.operands]) _) hh hS
    exact jK H (by rw [ho]; intro c h; cases h) (by simp only [execOp, ho]) hp
  | index T x i =>
    rw [ho] at h hv
    obtain ⟨hh, rfl⟩ := gZ h
    obtain ⟨rfl, hp⟩ := aGe (P := P) (C.tab T) (hv x (by simp [Op.operands]) _) (hv i (by simp [Op.operands]) _) hh hS
    exact jK H (by rw [ho]; intro c h; cases h) (by simp only [execOp, ho]) hp
  | lookup T x k b =>
    rw [ho] at h hv
    cases b with
    | true => cases h
    | false =>
      obtain ⟨hh, rfl⟩ := gZ h
      obtain ⟨rfl, hp⟩ := aFf (P := P) H (C.tab T) (hv x (by simp [Op.operands]) _) (hv k (by simp [Op.operands]) _) hh hS
      exact jK H (by rw [ho]; intro c h; cases h) (by simp only [execOp, ho]) hp
  | mapUpdate T x k y =>
    rw [ho] at h hv
    obtain ⟨id, o', hh, rfl, rfl, rfl⟩ := tG h
    obtain ⟨w', hr, hg⟩ := yV (P := P) H (C.tab T) (hv x (by simp [Op.operands]) _) (hv k (by simp [Op.operands]) _) (hv y (by simp [Op.operands]) _) hh hS
    exact aDf (by rw [ho]; intro c h; cases h) (by simp only [execOp, ho]) ⟨w', hr, by simpa [dI, eA] using hg⟩
  | insert T x k y =>
    rw [ho] at h hv
    obtain ⟨id, o', hh, rfl, rfl, rfl⟩ := tG h
    obtain ⟨w', hr, hg⟩ := yV (P := P) H (C.tab T) (hv x (by simp [Op.operands]) _) (hv k (by simp [Op.operands]) _) (hv y (by simp [Op.operands]) _) hh hS
    exact aDf (by rw [ho]; intro c h; cases h) (by simp only [execOp, ho]) ⟨w', hr, by simpa [dI, eA] using hg⟩
  | extract x i =>
    rw [ho] at h hv
    obtain ⟨hh, rfl⟩ := gZ h
    obtain ⟨rfl, hp⟩ := aEj (P := P) (hv x (by simp [Op.operands]) _) hh hS
    exact jK H (by rw [ho]; intro c h; cases h) (by simp only [execOp, ho]) hp
  | call cl =>
    rw [ho] at h hv
    have hop := lH cl
    simp only [opD] at h
    split at h
    · cases h
    rename_i hl
    have hl := Nat.eq_of_beq_eq_true hl
    have hargs : VVs X (kE c t cl) (cl.args.map a.eval).toList := by
      have := wA (X := X) (f := fun p : Operand × TypeId => ev t (c.tab p.2) p.1) (g := fun p => a.eval p.1) (l := cl.args.toList.zip cl.argTypes.toList)
        fun p hp => hv p.1 (hop.1 p.1 (List.of_mem_zip hp).1) _
      rw [Array.toList_map]
      have e : (cl.args.toList.zip cl.argTypes.toList).map (fun p => a.eval p.1) = cl.args.toList.map a.eval := by
        rw [← wB hl, List.map_map]
        congr 1
        rw [wB hl]
      rw [← e]; exact this
    split at h
    · rename_i b hc
      obtain ⟨r, w', hr, hg⟩ := aHT (ty := o.type) H C (cl.args.map fun | .const _ => true | _ => false) hargs hdead h hS
      refine OpTo.value (by rw [ho]; intro c h; cases h) ?_ hg
      simp only [Array.toArray_toList] at hr
      simp only [execOp, ho, resolve, hc, Sem.run_bind, Sem.run_pure, Result.andThen_ok, invoke]
      exact hr
    · rename_i f hc
      exact aLU H C ho hc (hv f (hop.2 f hc) _) hargs hdead h hS
    · cases h
  | _ => rw [ho] at h; cases h
end

end Lam
namespace Lam
open Go

/-! ### The objects that a value names are there -/
theorem aDg {h : List AObj} {i : Nat} {r : RK × Nat × Lst} (e : rowO (h[i]?) = some r) : i < h.length := by
  rcases Nat.lt_or_ge i h.length with h1 | h1
  · exact h1
  · rw [List.getElem?_eq_none h1] at e; cases e

section
variable {X : Cx}

def Here (X : Cx) (id : Nat) : Prop := (∃ r, rowO (X.h[id]?) = some r) ∨ ∃ b, X.μ[id]? = some (some b)

theorem Here.lt {id : Nat} (hl : X.μ.length = X.h.length) (h : Here X id) : id < X.h.length := by
  rcases h with ⟨r, h⟩ | ⟨b, h⟩
  · exact aDg h
  · rw [← hl]; exact (List.getElem?_eq_some_iff.1 h).1

theorem Here.alive {id : Nat} (H : HR X) (h : Here X id) : X.h[id]? ≠ some .dead := by
  intro e
  rcases h with ⟨r, h⟩ | ⟨b, h⟩
  · rw [e] at h; cases h
  · rw [aDB H e] at h; cases h

theorem tI {v : AV} {c : Value} (h : VB X v c) (hf : v.scalar = true) (hn : ∀ f a b, v ≠ .fn f a b) (hi : ∀ t u, v ≠ .iface t u) : ∀ id, id ∈ v.ids → Here X id := by
  intro id hid
  cases v with
  | sref x i ver off len =>
    simp only [AV.ids, List.mem_singleton] at hid; subst hid
    obtain ⟨_, _, _, _, _, _, _, hr, _⟩ := h
    exact .inl ⟨_, hr⟩
  | ptr i p =>
    simp only [AV.ids, List.mem_singleton] at hid; subst hid
    simp only [VB] at h
    unfold PtV at h
    split at h
    · obtain ⟨_, _, _, hr, _⟩ := h; exact .inl ⟨_, hr⟩
    · obtain ⟨_, hm, _⟩ := h; exact .inr ⟨_, hm⟩
  | map i =>
    simp only [AV.ids, List.mem_singleton] at hid; subst hid
    obtain ⟨_, hm, _⟩ := h; exact .inr ⟨_, hm⟩
  | fn f a b => exact (hn _ _ _ rfl).elim
  | iface t u => exact (hi _ _ rfl).elim
  | agg _ => cases hf
  | arr _ => cases hf
  | tup _ => cases hf
  | _ => simp [AV.ids] at hid

mutual
theorem wC : ∀ {v : AV} {c : Value}, VV X v c → ∀ id, id ∈ v.ids → Here X id
  | .agg vs, c, h, id, hid => by
    simp only [VV] at h; obtain ⟨cs, rfl, h⟩ := h
    exact aBo h id (by simpa [AV.ids] using hid)
  | .tup vs, c, h, id, hid => by
    simp only [VV] at h; obtain ⟨cs, rfl, h⟩ := h
    exact rB h id (by simpa [AV.ids] using hid)
  | .fn f a b, c, h, id, hid => by
    simp only [VV] at h; obtain ⟨x, d, rfl, h1, h2⟩ := h
    simp only [AV.ids, List.mem_append] at hid
    exact hid.elim (rB h1 id) (rB h2 id)
  | .iface t v, c, h, id, hid => by
    simp only [VV] at h; obtain ⟨u, rfl, h⟩ := h
    exact wC h id (by simpa [AV.ids] using hid)
  | .arr l, c, h, id, hid => by simp [AV.ids] at hid
  | .sref x i v o n, c, h, id, hid => tI (v := .sref x i v o n) h rfl (by intros; simp) (by intros; simp) id hid
  | .ptr i p, c, h, id, hid => tI (v := .ptr i p) h rfl (by intros; simp) (by intros; simp) id hid
  | .map i, c, h, id, hid => tI (v := .map i) h rfl (by intros; simp) (by intros; simp) id hid
  | .top, _, _, id, hid | .und, _, _, id, hid | .int _ _, _, _, id, hid | .bool _, _, _, id, hid | .str _, _, _, id, hid | .sl _ _, _, _, id, hid
  | .ep _ _ _, _, _, id, hid | .nilp, _, _, id, hid | .nilfn, _, _, id, hid | .niliface, _, _, id, hid => by simp [AV.ids] at hid
theorem rB : ∀ {vs : List AV} {cs : List Value}, VVs X vs cs → ∀ id, id ∈ AV.idss vs → Here X id
  | [], _, _, id, hid => by simp [AV.idss] at hid
  | v :: r, _, h, id, hid => by
    simp only [VVs] at h; obtain ⟨c, d, rfl, h1, h2⟩ := h
    simp only [AV.idss, List.mem_append] at hid
    exact hid.elim (wC h1 id) (rB h2 id)
theorem aLV : ∀ {v : AV} {cs : List Value}, VC X v cs → ∀ id, id ∈ v.ids → Here X id
  | .agg vs, c, h, id, hid => by
    simp only [VC] at h
    exact aBo h id (by simpa [AV.ids] using hid)
  | .tup vs, c, h, id, hid => by simp only [VC] at h
  | .fn f a b, c, h, id, hid => by
    simp only [VC] at h; obtain ⟨x, d, rfl, h1, h2⟩ := h
    simp only [AV.ids, List.mem_append] at hid
    exact hid.elim (rB h1 id) (rB h2 id)
  | .iface t v, c, h, id, hid => by
    simp only [VC] at h; obtain ⟨u, rfl, h⟩ := h
    exact wC h id (by simpa [AV.ids] using hid)
  | .arr l, c, h, id, hid => by simp [AV.ids] at hid
  | .sref x i v o n, c, h, id, hid => by simp only [VC] at h; obtain ⟨c, rfl, h⟩ := h; exact tI (v := .sref x i v o n) h rfl (by intros; simp) (by intros; simp) id hid
  | .ptr i p, c, h, id, hid => by simp only [VC] at h; obtain ⟨c, rfl, h⟩ := h; exact tI (v := .ptr i p) h rfl (by intros; simp) (by intros; simp) id hid
  | .map i, c, h, id, hid => by simp only [VC] at h; obtain ⟨c, rfl, h⟩ := h; exact tI (v := .map i) h rfl (by intros; simp) (by intros; simp) id hid
  | .top, _, _, id, hid | .und, _, _, id, hid | .int _ _, _, _, id, hid | .bool _, _, _, id, hid | .str _, _, _, id, hid | .sl _ _, _, _, id, hid
  | .ep _ _ _, _, _, id, hid | .nilp, _, _, id, hid | .nilfn, _, _, id, hid | .niliface, _, _, id, hid => by simp [AV.ids] at hid
theorem aBo : ∀ {vs : List AV} {cs : List Value}, VCs X vs cs → ∀ id, id ∈ AV.idss vs → Here X id
  | [], _, _, id, hid => by simp [AV.idss] at hid
  | v :: r, _, h, id, hid => by
    simp only [VCs] at h; obtain ⟨c, d, rfl, h1, h2⟩ := h
    simp only [AV.idss, List.mem_append] at hid
    exact hid.elim (aLV h1 id) (aBo h2 id)
end

theorem aFm (hl : X.μ.length = X.h.length) {v : AV} {c : Value} (h : VV X v c) (id : Nat) (hi : id ∈ v.ids) : id < X.h.length := (wC h id hi).lt hl


/-! ### Room for new objects -/
def Cx.pad (X : Cx) (k : Nat) : Cx := ⟨X.S, X.μ ++ List.replicate k none, X.h ++ List.replicate k .dead, X.w⟩

theorem aJq {k i : Nat} (hl : X.μ.length = X.h.length) : (X.pad k).μ[i]? = if i < X.h.length then X.μ[i]? else if i < X.h.length + k then some none else none := by
  simp only [Cx.pad, List.getElem?_append, hl]
  split
  · rfl
  · split
    · rw [List.getElem?_replicate, if_pos (by omega)]
    · rw [List.getElem?_replicate, if_neg (by omega)]

theorem rG {k i : Nat} : (X.pad k).h[i]? = if i < X.h.length then X.h[i]? else if i < X.h.length + k then some .dead else none := by
  simp only [Cx.pad, List.getElem?_append]
  split
  · rfl
  · split
    · rw [List.getElem?_replicate, if_pos (by omega)]
    · rw [List.getElem?_replicate, if_neg (by omega)]

theorem tT (H : HR X) (k : Nat) : HR (X.pad k) ∧ Ext X (X.pad k) := by
  have hm : ∀ i, (X.pad k).μ[i]? = _ := fun i => aJq (k := k) H.len
  have hh : ∀ i, (X.pad k).h[i]? = _ := fun i => rG (X := X) (k := k)
  have lt : ∀ {i : Nat} {b : Option Nat}, X.μ[i]? = some b → i < X.h.length := fun e => by rw [← H.len]; exact (List.getElem?_eq_some_iff.1 e).1
  have inv : ∀ {i b : Nat}, (X.pad k).μ[i]? = some (some b) → X.μ[i]? = some (some b) := fun {i b} e => by
    rw [hm] at e
    split at e
    · exact e
    · split at e <;> cases e
  have E : Ext X (X.pad k) := by
    refine ⟨fun _ h => h, fun _ _ => rfl, fun b hb => .inl hb, fun i b hb => .inl (inv hb), fun _ _ _ => rfl, Nat.le_refl _, fun i r ver l hl => ?_, fun i b h1 h2 => ?_, jI.refl _⟩
    · have hi : i < X.h.length := aDg hl
      refine ⟨r, ver, l, by rw [hh, if_pos hi]; exact hl, Nat.le_refl _, fun _ => ⟨rfl, rfl, fun b hb => ⟨by rw [hm, if_pos hi]; exact hb, Nat.le_refl _⟩⟩, fun h => ⟨h, rfl⟩⟩
    · have hi := lt h2
      exact ⟨by rw [hm, if_pos hi]; exact h2, by rw [hh, if_pos hi]; exact h1⟩
  refine ⟨⟨by simp [Cx.pad, H.len], fun i o ho => ?_, fun i j b h1 h2 => H.apart _ _ _ (inv h1) (inv h2), fun i b hb => ?_, H.old⟩, E⟩
  · rw [hh] at ho; rw [hm]
    split at ho
    · rename_i hi
      rw [if_pos hi]
      obtain ⟨b, hb, hor⟩ := H.obj i o ho
      exact ⟨b, hb, hor.ext E fun _ _ => rfl⟩
    · rename_i hi
      rw [if_neg hi]
      split at ho
      · rename_i h2
        cases ho
        exact ⟨none, by rw [if_pos h2], rfl⟩
      · cases ho
  · have hb := inv hb
    have := H.live i b hb
    refine ⟨this.1, fun hs => ?_⟩
    obtain ⟨ver, l, h1⟩ := this.2 hs
    exact ⟨ver, l, by rw [hh, if_pos (lt hb)]; exact h1⟩

theorem uL {h : List AObj} : ∀ (news : List AObj), eA (h ++ List.replicate news.length .dead) h.length news = h ++ news := by
  intro news
  apply List.ext_getElem?
  intro i
  rw [pJ _ _ _ (by intro _; simp)]
  simp only [List.getElem?_append]
  by_cases h1 : i < h.length
  · rw [if_neg (by omega), if_pos h1]
    simp [h1]
  · by_cases h2 : i < h.length + news.length
    · rw [if_pos (by omega), if_neg h1]
    · rw [if_neg (by omega), if_neg h1, if_neg h1, List.getElem?_eq_none (by simp; omega), List.getElem?_eq_none (by omega)]

end

end Lam
namespace Lam
open Go

def lY (base : Nat) (X : Cx) : List Deferred → Prop
  | [] => True
  | d :: ds => (∃ r, d = { target := .collected r, args := #[] } ∧ base ≤ r ∧ X.w.heap[r]? = some (.deferred (some [])) ∧ (∀ i : Nat, X.μ[i]? ≠ some (some r)) ∧ ¬ X.S r ∧ ∀ d' ∈ ds, d'.target ≠ .collected r) ∧ lY base X ds

theorem lY.ext {base : Nat} {X Y : Cx} (E : Ext X Y) : ∀ {ds : List Deferred}, lY base X ds → lY base Y ds
  | [], _ => trivial
  | d :: ds, ⟨⟨r, e, h1, h2, h3, h4, h5⟩, h⟩ => by
    have hlt : r < X.w.heap.size := (Array.getElem?_eq_some_iff.1 h2).1
    refine ⟨⟨r, e, h1, by rw [E.keep r hlt h3]; exact h2, fun i hi => ?_, fun hs => ?_, h5⟩, lY.ext E h⟩
    · rcases E.muinv i r hi with h | h
      · exact h3 i h
      · omega
    · rcases E.new r hs with h | ⟨i, h⟩ | h
      · exact h4 h
      · exact h3 i h
      · omega

theorem lY.lt {base : Nat} {X : Cx} : ∀ {ds : List Deferred}, lY base X ds → ∀ d ∈ ds, ∀ {r : Nat}, d.target = .collected r → r < X.w.heap.size
  | [], _, d, hd, _, _ => by cases hd
  | d :: ds, ⟨⟨r, e, _, h2, _⟩, h⟩, d', hd', r', e' => by
    rcases List.mem_cons.1 hd' with rfl | hd'
    · rw [e] at e'
      cases e'
      exact (Array.getElem?_eq_some_iff.1 h2).1
    · exact lY.lt h d' hd' e'

structure DB where
  sz : Nat
  base : List Deferred

def kO (B : DB) (X : Cx) (l : List Deferred) : Prop := ∃ m, l = m ++ B.base ∧ lY B.sz X m

theorem kO.ext {B : DB} {X Y : Cx} (E : Ext X Y) {l : List Deferred} (h : kO B X l) : kO B Y l := by
  obtain ⟨m, e, hm⟩ := h
  exact ⟨m, e, hm.ext E⟩

theorem kO.nil {n : Nat} {X : Cx} : kO ⟨n, []⟩ X [] := ⟨[], rfl, trivial⟩

structure SR (n : Nat) (ds : DB) (X : Cx) (t : List (Nat × AV)) (a : Act) : Prop where
  v : ∀ i, VV X (get t i) (a.tmps.getD i undef)
  size : n ≤ a.tmps.size
  defers : kO ds X a.defers

theorem jS (t : List (Nat × AV)) (i j : Nat) (v : AV) : get (put i v t) j = if i = j then v else get t j := by
  simp only [put, get]
  by_cases h : j = i
  · subst h; simp
  · have : Nat.beq j i = false := by rw [Bool.eq_false_iff]; intro e; exact h (Nat.eq_of_beq_eq_true e)
    rw [this, if_neg (Ne.symm h)]

section
variable {n : Nat} {ds : DB} {X Y : Cx} {t : List (Nat × AV)} {a : Act}

theorem aFn (d : TyD) (v : Value) : VV X (.ofConst d v) v := by
  have hsl : VV X (match d with | .slice e => AV.sl true e.empty | _ => .top) (.slice none 0 0) := by
    cases d <;> first | trivial | skip
    rename_i e
    exact ⟨none, 0, by cases e <;> rfl, by cases e <;> simp [LK.empty, Lst.len], fun _ => by cases e <;> rfl, fun _ => rfl, fun h => (h (by cases e <;> rfl)).elim⟩
  unfold AV.ofConst
  split
  · rfl
  · rfl
  · show Value.string _ = .string (bstr _)
    rw [bstr_data]
  · rfl
  · exact hsl
  · rfl
  · rfl
  · trivial

theorem SR.ev (h : SR n ds X t a) (x : Operand) (d : TyD) : VV X (Lam.ev t d x) (a.eval x) := by
  cases x with
  | tmp i => exact h.v i
  | const v => exact aFn d v
  | global g => trivial
  | func f => exact ⟨#[], #[], rfl, by simp [VVs], by simp [VVs]⟩

theorem SR.ext (h : SR n ds X t a) (E : Ext X Y) : SR n ds Y t a := ⟨fun i => (h.v i).ext E, h.size, h.defers.ext E⟩

theorem SR.put (h : SR n ds X t a) {i : Nat} {v : AV} {c : Value} (hi : i < n) (hv : VV X v c) : SR n ds X (Lam.put i v t) (a.put (some i) c) := by
  have hs : i < a.tmps.size := Nat.lt_of_lt_of_le hi h.size
  refine ⟨fun j => ?_, by simpa [Act.put] using h.size, h.defers⟩
  rw [jS]
  simp only [Act.put, Array.getD_eq_getD_getElem?, Array.getElem?_setIfInBounds]
  by_cases e : i = j
  · subst e; simp [hs, hv]
  · simp only [if_neg e]
    have := h.v j
    rwa [Array.getD_eq_getD_getElem?] at this

theorem SR.putO (h : SR n ds X t a) {o : Option Nat} {v : AV} {c : Value} (hi : ∀ i, o = some i → i < n) (hv : VV X v c) : SR n ds X (Lam.putO o v t) (a.put o c) := by
  cases o with
  | none => exact ⟨h.v, h.size, h.defers⟩
  | some i => exact h.put (hi i rfl) hv

theorem SR.learn (h : SR n ds X t a) {i : Nat} {v : AV} (hv : VV X v (a.tmps.getD i undef)) : SR n ds X (Lam.put i v t) a := by
  refine ⟨fun j => ?_, h.size, h.defers⟩
  rw [jS]
  by_cases e : i = j
  · subst e; simpa using hv
  · rw [if_neg e]; exact h.v j
end

def OutR (Y : Cx) : AOut → Ending → Prop
  | .ret v, e => ∃ c, e = .returned c ∧ VV Y v c
  | .pan v, e => ∃ c, e = .panicked [{ v := c, recovered := false }] ∧ VV Y v c

structure SOk (P : Program) (envS : FuncId → Con) : Prop where
  spec : ∀ f args h K, envS f args h K → ∀ (X : Cx) (cs : Array Value), HR X → X.h = h → VVs X args cs.toList →
    (∀ w, (callFunc f cs).run P w = .ok (.enter f cs) w) ∧
      Calls P f cs X.w fun e w' => ∃ Y ao, Y.w = w' ∧ HR Y ∧ Ext X Y ∧ OutR Y ao e ∧ K ao Y.h

def YOk (P : Program) (B : Cx) (l : Nat) (Yc : Con) : Prop :=
  ∀ args h K, Yc args h K → ∀ (X : Cx) (cs : Array Value), Ext B X → HR X → X.h = h → VVs X args cs.toList →
    ∃ fn tmps assign body, (Instr.yield l cs).run P X.w = .ok (.round l fn tmps assign body) X.w ∧
      ∀ n, RoundIn (FW none) n P l fn tmps assign body X.w fun e w' => ∃ Y ao, Y.w = w' ∧ HR Y ∧ Ext X Y ∧ OutR Y ao e ∧ K ao Y.h

structure ISOk (P : Program) (iterS : FuncId → Con → Con) : Prop where
  spec : ∀ f Yc l cap h K, iterS f Yc (.fn (.yield l) [] [] :: cap) h K → ∀ (X : Cx) (cs : Array Value), YOk P X l Yc → HR X → X.h = h → VVs X (.fn (.yield l) [] [] :: cap) cs.toList →
    (∀ w, (callFunc f cs).run P w = .ok (.enter f cs) w) ∧
      Calls P f cs X.w fun e w' => ∃ Y ao, Y.w = w' ∧ HR Y ∧ Ext X Y ∧ OutR Y ao e ∧ K ao Y.h

theorem aGs {ro ro' : Option Nat} {n : Nat} {P : Program} {l : Nat} {f : FuncId} {tmps : Array Value} {assign body : Code} {w : World} {R : Ending → World → Prop}
    (h : RoundIn (FW ro) n P l f tmps assign body w R) : RoundIn (FW ro') n P l f tmps assign body w R := h

section
variable {X : Cx}

theorem aJr {x : AV} {c : Value} {n : Nat} {d : TyD} (hx : VV X x c) (h : AV.len d X.h x = some n) (hd : d.slc = true) : ∃ a cap, c = .slice a n cap ∧ (a = none → n = 0) := by
  unfold AV.len at h
  split at h
  · obtain ⟨a, cap, rfl, h1, _, h3, _⟩ := hx; cases h; exact ⟨a, cap, rfl, fun e => by have := h3 e; omega⟩
  · rename_i id ver off len
    obtain ⟨a, m, cap, rfl, k, ver', l, hl, _, h1⟩ := hx
    unfold lenO at h
    split at h
    · rename_i k2 v2 l2 hh
      rw [hh] at hl; cases hl
      split at h
      · rename_i e; cases h
        obtain ⟨rfl, h3, _, _, h5, _⟩ := h1 e
        exact ⟨a, cap, rfl, fun e => by have := h5 e; omega⟩
      · cases h
    · cases h
  · cases hd
  · cases hd
  · cases h
end

section
variable {ro : Option Nat} {P : Program} {n : Nat} {ds : DB} {X : Cx} {t : List (Nat × AV)} {a : Act} {o : Oper} {c : Ctx}

theorem aDD (C : lP P c) (CS : SOk P c.envS) (hdr : c.drawn = false) {B : Cx} (YY : ∀ l, YOk P B l (c.envY l)) (EB : Ext B X) (H : HR X) (R : SR n ds X t a) {K KP : AV → List AObj → Prop} {apps : List Nat} (hw : opW c apps t X.h o.op o.type K KP) (nf : Nat) {next : Act → World → Prop} {Q : Exit → Act → World → Prop}
    (hK : ∀ Y v r, HR Y → Ext X Y → K v Y.h → VV Y v r → next (a.put o.dst r) Y.w)
    (hKP : ∀ Y v r, HR Y → Ext X Y → KP v Y.h → VV Y v r → Q (.panic [{ v := r, recovered := false }]) a Y.w) :
    o.wpIn (FW ro) nf P a X.w next Q := by
  have fromD : OkD (opD c apps X.h.length t X.h o.op o.type) X.h K → o.wpIn (FW ro) nf P a X.w next Q := by
    rintro ⟨S, v, news, mm, e, hS, hk⟩
    obtain ⟨H', E'⟩ := tT H news.length
    have R' := R.ext E'
    have hag : fU X.h (X.pad news.length).h (AV.idss (opVs t o.op)) := by
      intro id hid
      obtain ⟨v, hv, hj⟩ := xF hid
      obtain ⟨x, _, rfl⟩ := List.mem_map.1 hv
      have := aFm H.len (R.ev x .other) id hj
      rw [rG, if_pos this]
    rw [yX hag] at e
    have hto := uK (ro := ro) (a := a) H' C (fun x _ d => R'.ev x d) (fun j hj => by rw [rG, if_neg (by omega), if_pos (by omega)]) e hS
    refine hto nf next Q fun r w' hg => ?_
    obtain ⟨Y, rfl, hYh, HY, EY, hv⟩ := hg
    refine hK Y v r HY (E'.trans EY) ?_ hv
    rw [hYh, show (X.pad news.length).h = X.h ++ List.replicate news.length .dead from rfl, uL]
    exact hk
  rcases aLs hw with hd | hsp
  · exact fromD hd
  · cases hsp with
    | nilEq xt x y b hop hn hs hk =>
      unfold pQ at hk
      split at hk
      rotate_left
      · exact hk.elim
      rename_i m hm
      obtain ⟨ad, cap, hx, hz⟩ := aJr (R.ev x _) hm hs
      obtain ⟨e, hu⟩ : ∃ e, c.tab xt = .slice e := by
        cases h : c.tab xt <;> rw [h] at hs <;> first | exact ⟨_, rfl⟩ | cases hs
      obtain ⟨E, hu, _⟩ := iM (P := P) (T := xt) (e := e) (by rw [← hu]; exact C.tab xt)
      have hy : a.eval y = .slice none 0 0 := by
        unfold mJ at hn
        split at hn
        · rfl
        · cases hn
      have hr : (execOp a.eval o).run P X.w = .ok (.value (.bool ad.isNone)) X.w := by
        have h1 : (eqGuard .eql xt x y (.slice ad m cap) (.slice none 0 0)).run P X.w = .ok () X.w := rfl
        have h2 : binOp .eql xt (.slice ad m cap) (.slice none 0 0) = (do pure (.bool (← Op.equal xt (.slice ad m cap) (.slice none 0 0)))) := rfl
        simp only [execOp, hop, hx, hy, Sem.run_bind, h1, h2, Result.andThen_ok, run_equal_slice_nil X.w xt E ad m cap hu, Sem.run_pure]
      have hto : OpTo ro P o a X.w (fun r w' => r = .bool ad.isNone ∧ w' = X.w) := OpTo.value (by rw [hop]; intro c h; cases h) hr ⟨rfl, rfl⟩
      refine hto nf next Q fun r w' hg => ?_
      obtain ⟨rfl, rfl⟩ := hg
      refine hK X (.bool ad.isNone) _ H (Ext.refl X) (hk _ fun h => hz ?_) rfl
      cases ad <;> first | rfl | cases h
    | panic x hop hk =>
      have hv := R.ev x .iface
      have : (∀ f, o.about P X.w a.eval = some f → (FW ro).fn f) := fun _ _ => trivial
      refine ⟨this, ?_⟩
      rw [Oper.semAt_eq _ _ _ (by rw [hop]; intro c h; cases h)]
      unfold panW at hk
      split at hk
      rotate_left
      · exact hk.elim
      rename_i T u hx
      rw [hx] at hv
      have hv' := hv
      simp only [VV] at hv'
      obtain ⟨z, he, _⟩ := hv'
      have hr : (execOp a.eval o).run P X.w = .halt (.panic (.iface T z)) X.w := by simp [execOp, hop, Instr.panic, he, goPanic]
      rw [hr]
      exact hKP X _ _ H (Ext.refl X) hk (by rw [← he]; exact hv)
    | call cl f hop hcal hl hk =>
      have hnd : ∀ c, o.op ≠ .defer c := by rw [hop]; intro c h; cases h
      have hop' := lH cl
      have hargs : VVs X (kE c t cl) (cl.args.map a.eval).toList := by
        have := wA (X := X) (f := fun p : Operand × TypeId => Lam.ev t (c.tab p.2) p.1) (g := fun p => a.eval p.1) (l := cl.args.toList.zip cl.argTypes.toList)
          fun p hp => R.ev p.1 _
        rw [Array.toList_map]
        have e : (cl.args.toList.zip cl.argTypes.toList).map (fun p => a.eval p.1) = cl.args.toList.map a.eval := by
          rw [← wB hl, List.map_map]
          congr 1
          rw [wB hl]
        rw [← e]; exact this
      have hD : OkD (oK (vO apps cl.args.toList) c X.h.length (Lam.ev t .func f) (kE c t cl) X.h) X.h K → o.wpIn (FW ro) nf P a X.w next Q := by
        intro h
        apply fromD
        have hb : Nat.beq cl.args.toList.length cl.argTypes.toList.length = true := by rw [hl]; exact Nat.beq_refl _
        simp only [hop, opD, hcal, hb]
        exact h
      have hf := R.ev f .func
      unfold bB at hk
      unfold oK at hD
      split at hk
      rotate_left
      · rename_i q l hfe
        rw [hfe] at hf
        simp only [VV] at hf
        obtain ⟨ca, cd, hfe, hf1, hf2⟩ := hf
        simp only [VVs, Array.toList_eq_nil_iff] at hf1 hf2
        subst hf1; subst hf2
        obtain ⟨fn, tmps, assign, body, hrun, hround⟩ := YY l _ _ _ hk X (cl.args.map a.eval) EB H rfl hargs
        have hrun' : (execOp a.eval o).run P X.w = .ok (.round l fn tmps assign body) X.w := by
          rw [← hrun]
          simp [execOp, hop, resolve, hcal, hfe, Deferred.ofValue, invoke]
        refine ⟨fun _ _ => trivial, ?_⟩
        rw [Oper.semAt_eq _ _ _ hnd, hrun']
        refine ⟨fun h => (by cases h), RoundIn.mono (aGs (hround (nf - 1))) fun e w'' he => ?_⟩
        obtain ⟨Y, ao, rfl, HY, EY, ho, hk2⟩ := he
        cases ao with
        | ret v =>
          obtain ⟨r, rfl, hv⟩ := ho
          exact hK Y v r HY EY hk2 hv
        | pan v =>
          obtain ⟨r, rfl, hv⟩ := ho
          exact hKP Y v r HY EY hk2 hv
      · exact hk.elim
      rename_i q fn first cap hfe
      rw [hfe] at hf hD
      simp only [VV] at hf hD
      obtain ⟨ca, cd, hfe, hf1, hf2⟩ := hf
      have hall : VVs X (first ++ kE c t cl ++ cap) ((ca ++ cl.args.map a.eval ++ cd).toList) := by
        rw [Array.toList_append, Array.toList_append]
        exact nX (nX hf1 hargs) hf2
      have hrun := aFk (P := P) hop hcal hfe X.w
      unfold lB at hk
      unfold vZ at hD
      split at hk
      · rename_i S v news e
        rw [e] at hD
        exact hD ⟨_, _, _, _, rfl, hk.1, by simpa [dI] using hk.2⟩
      · rename_i S v news e
        split at hk
        · rename_i hns
          rw [e] at hD
          simp only [hns] at hD
          exact hD ⟨_, _, _, _, rfl, hk.1, by simpa [dI] using hk.2⟩
        · obtain ⟨us, e1, e2, e3⟩ := nJ e
          obtain ⟨H1, E1⟩ := yY H (ids := AV.rowss (first ++ kE c t cl ++ cap)) (fun id hid => qZ hall id hid)
          have hc := C.fok.spec _ _ _ _ _ _ e3 hk.2.1 ⟨(X.fro (AV.rowss (first ++ kE c t cl ++ cap))).S, [], [], X.w⟩ (ca ++ cl.args.map a.eval ++ cd) rfl rfl (hr0 H1.old)
            (xG H (fun _ h => .inl h) (fun id hid b hb => .inr ⟨id, hid, hb⟩) e1 e2 hall)
          have hto : OpTo ro P o a X.w (fun r w' => ∃ Y, Y.w = w' ∧ HR Y ∧ Ext X Y ∧ Y.h = fZ (AV.rowss (first ++ kE c t cl ++ cap)) X.h ∧ VV Y v r) := by
            refine OpTo.enter hnd (by rw [hrun, C.fok.enter _ _ _ e3]) (hc.mono fun e w'' he => ?_)
            obtain ⟨r, rfl, Y, rfl, HY, E, hcl, hvv⟩ := he
            obtain ⟨Z1, Z2⟩ := rT (X := X.fro (AV.rowss (first ++ kE c t cl ++ cap))) H1 E HY
            exact ⟨⟨Y.S, X.μ, fZ (AV.rowss (first ++ kE c t cl ++ cap)) X.h, Y.w⟩, rfl, Z1, E1.trans Z2, rfl,
              iK (X := Y) (Y := ⟨Y.S, X.μ, fZ (AV.rowss (first ++ kE c t cl ++ cap)) X.h, Y.w⟩) (fun _ h => h) (fun _ _ => rfl) hcl hvv⟩
          refine hto nf next Q fun r w' hg => ?_
          obtain ⟨Y, rfl, HY, EY, hYh, hv⟩ := hg
          exact hK Y v r HY EY (by rw [hYh]; exact hk.2.2) hv
      · exact hk.elim
      · obtain ⟨hent, hcal2⟩ := CS.spec _ _ _ _ hk X (ca ++ cl.args.map a.eval ++ cd) H rfl hall
        refine ⟨fun _ _ => trivial, ?_⟩
        rw [Oper.semAt_eq _ _ _ hnd, hrun, hent]
        refine ⟨fun h => (by cases h), CallsIn.mono (aBe hcal2) fun e w'' he => ?_⟩
        obtain ⟨Y, ao, rfl, HY, EY, ho, hk2⟩ := he
        cases ao with
        | ret v =>
          obtain ⟨r, rfl, hv⟩ := ho
          exact hK Y v r HY EY hk2 hv
        | pan v =>
          obtain ⟨r, rfl, hv⟩ := ho
          exact hKP Y v r HY EY hk2 hv
end

end Lam
namespace Lam
open Go

def Kn (t : List (Nat × AV)) (kn : List (Nat × Option Bool)) : Prop :=
  ∀ g v, known g kn = some v → match v with
    | some b => get t g = .bool b
    | none => get t g = .und

theorem Kn.nil (t : List (Nat × AV)) : Kn t [] := fun g v h => by cases h

theorem aCj (g i : Nat) (b : Option Bool) (kn : List (Nat × Option Bool)) : known g ((i, b) :: kn) = if g = i then some b else known g kn := by
  simp only [known]
  by_cases h : g = i
  · subst h; simp
  · have : Nat.beq g i = false := by rw [Bool.eq_false_iff]; intro e; exact h (Nat.eq_of_beq_eq_true e)
    rw [this, if_neg h]

theorem Kn.unknow {t : List (Nat × AV)} {kn : List (Nat × Option Bool)} (h : Kn t kn) (d : Option Nat) (v : AV) : Kn (putO d v t) (unknow d kn) := by
  cases d with
  | none => exact h
  | some i =>
    simp only [Lam.unknow, putO]
    split
    · rename_i e
      intro g u hg
      have := h g u hg
      have hne : ¬ i = g := by rintro rfl; rw [e] at hg; cases hg
      simpa only [jS, if_neg hne] using this
    · exact Kn.nil _

theorem Kn.passed {t : List (Nat × AV)} {kn : List (Nat × Option Bool)} (h : Kn t kn) (d : Option Nat) : Kn (putO d .und t) (passed d kn) := by
  cases d with
  | none => exact h
  | some i =>
    simp only [Lam.passed, putO]
    split
    · rename_i e
      intro g u hg
      rw [aCj] at hg
      by_cases hgi : g = i
      · rw [if_pos hgi] at hg; cases hg
        simp only [jS, hgi, if_true]
      · rw [if_neg hgi] at hg
        have := h g u hg
        simpa only [jS, if_neg (Ne.symm hgi)] using this
    · exact Kn.nil _

theorem Kn.learn {t : List (Nat × AV)} {kn : List (Nat × Option Bool)} (h : Kn t kn) (g : Nat) (b : Bool) : Kn (put g (.bool b) t) ((g, some b) :: kn) := by
  intro i u hi
  rw [aCj] at hi
  by_cases e : i = g
  · rw [if_pos e] at hi; cases hi
    simp only [jS, e, if_true]
  · rw [if_neg e] at hi
    have := h i u hi
    simpa only [jS, if_neg (Ne.symm e)] using this

section
variable {n : Nat} {ds : DB} {X : Cx} {t : List (Nat × AV)} {a : Act} {ops : Array Oper}

theorem yC {j g : Nat} (h : iX ops.toList j = some g) : (ops[j]?).bind (·.dst) = some g := by
  simpa [iX] using h

theorem sT {j g : Nat} {b : Bool} (h : iX ops.toList j = some g) (hv : a.tmps.getD g undef = .bool b) : yielded ops a.tmps j = some b := by
  unfold yielded
  rw [yC h]
  simp only [Option.bind_some]
  rw [Array.getD_eq_getD_getElem?] at hv
  cases hx : a.tmps[g]? with
  | none => rw [hx] at hv; simp [undef] at hv
  | some v => rw [hx] at hv; simp at hv; simp [hv]

theorem zA {j g : Nat} (h : iX ops.toList j = some g) (hv : a.tmps.getD g undef = undef) : yielded ops a.tmps j = none := by
  unfold yielded
  rw [yC h]
  simp only [Option.bind_some]
  rw [Array.getD_eq_getD_getElem?] at hv
  cases hx : a.tmps[g]? with
  | none => rfl
  | some v => rw [hx] at hv; simp at hv; subst hv; rfl
end

section
variable {ro : Option Nat} {P : Program} {n : Nat} {ds : DB} {c : Ctx}

theorem aDE {a : Act} (o : Option Nat) (q : Value) {i : Nat} (h : o ≠ some i) : (a.put o q).tmps.getD i undef = a.tmps.getD i undef := by
  cases o with
  | none => rfl
  | some j =>
    have hji : j ≠ i := fun e => h (by rw [e])
    simp [Act.put, Array.getD_eq_getD_getElem?, Array.getElem?_setIfInBounds, hji]

theorem aCk {a : Act} (o : Option Nat) (q : Value) : (a.put o q).defers = a.defers := by cases o <;> rfl

theorem mN {apps : List Nat} (C : lP P c) (CS : SOk P c.envS) (hdr : c.drawn = false) {B : Cx} (YY : ∀ l, YOk P B l (c.envY l)) (nf : Nat) (ops : Array Oper) {KP : List (Nat × AV) → AV → List AObj → Prop} {κ : List (Nat × AV) → List AObj → Prop} {Q : Exit → Act → World → Prop} {rest : List Oper} :
    ∀ (r : List Oper) (kn : List (Nat × Option Bool)) (t : List (Nat × AV)) (X : Cx) (a : Act), (∀ o ∈ r, ∀ i, o.dst = some i → i < n) → Kn t kn → Ext B X → HR X → SR n ds X t a → opsW c apps ops.toList KP κ r kn t X.h →
      (∀ Y t' a', HR Y → Ext X Y → SR n ds Y t' a' → ((∀ i, (∀ o ∈ r, o.dst ≠ some i) → a'.tmps.getD i undef = a.tmps.getD i undef) ∧ a'.defers = a.defers) → κ t' Y.h → wpListIn (FW ro) nf P ops Q rest a' Y.w) →
      (∀ Y t' v q a', HR Y → Ext X Y → SR n ds Y t' a' → KP t' v Y.h → VV Y v q → Q (.panic [{ v := q, recovered := false }]) a' Y.w) →
      wpListIn (FW ro) nf P ops Q (r ++ rest) a X.w
  | [], kn, t, X, a, _, _, EB, H, R, hw, hk, _ => hk X t a H (Ext.refl X) R ⟨fun _ _ => rfl, rfl⟩ hw
  | o :: r, kn, t, X, a, hd, hkn, EB, H, R, hw, hk, hkp => by
    have hdo := hd o (by simp)
    have hdr' : ∀ o ∈ r, ∀ i, o.dst = some i → i < n := fun o' h => hd o' (by simp [h])
    have step : ∀ (t : List (Nat × AV)) (kn : List (Nat × Option Bool)), Kn t kn → SR n ds X t a → opW c apps t X.h o.op o.type (fun v h' => opsW c apps ops.toList KP κ r (unknow o.dst kn) (putO o.dst v t) h') (KP t) →
        o.wpIn (FW ro) nf P a X.w (wpListIn (FW ro) nf P ops Q (r ++ rest)) Q := by
      intro t kn hkn R hw
      refine aDD C CS hdr YY EB H R hw nf (fun Y v q HY EY hk1 hv => ?_) (fun Y v q HY EY hk1 hv => hkp Y t v q a HY EY (R.ext EY) hk1 hv)
      refine mN C CS hdr YY nf ops r _ _ Y (a.put o.dst q) hdr' (hkn.unknow o.dst v) (EB.trans EY) HY ((R.ext EY).putO hdo hv) hk1 (fun Z t' a' HZ EZ RZ hs h => hk Z t' a' HZ (EY.trans EZ) RZ ⟨fun i hi => (hs.1 i fun o ho => hi o (by simp [ho])).trans (aDE _ _ (hi o (by simp))), hs.2.trans (aCk _ _)⟩ h)
        (fun Z t2 v q a' HZ EZ h1 h3 h4 => hkp Z t2 v q a' HZ (EY.trans EZ) h1 h3 h4)
    have pass : ∀ (t : List (Nat × AV)) (kn : List (Nat × Option Bool)), Kn t kn → SR n ds X t a → opsW c apps ops.toList KP κ r (passed o.dst kn) (putO o.dst .und t) X.h →
        (∀ f, o.about P X.w a.eval = some f → (FW ro).fn f) ∧ wpListIn (FW ro) nf P ops Q (r ++ rest) (a.put o.dst undef) X.w := by
      intro t kn hkn R hw
      refine ⟨fun _ _ => trivial, ?_⟩
      exact mN C CS hdr YY nf ops r _ _ X (a.put o.dst undef) hdr' (hkn.passed o.dst) EB H (R.putO hdo rfl) hw (fun Z t' a' HZ EZ RZ hs h => hk Z t' a' HZ EZ RZ ⟨fun i hi => (hs.1 i fun o ho => hi o (by simp [ho])).trans (aDE _ _ (hi o (by simp))), hs.2.trans (aCk _ _)⟩ h) hkp
    rw [List.cons_append]
    simp only [wpListIn]
    simp only [opsW] at hw
    split at hw
    · rename_i hg
      have : Region.wanted o (yielded ops a.tmps) = true := by simp [Region.wanted, hg]
      rw [if_pos this]
      exact step t kn hkn R hw
    · rename_i j want hg
      have wt : ∀ b, yielded ops a.tmps j = some b → Region.wanted o (yielded ops a.tmps) = (b == want) := by
        intro b hb; simp [Region.wanted, hg, hb]
      have wn : yielded ops a.tmps j = none → Region.wanted o (yielded ops a.tmps) = false := by
        intro hb; simp [Region.wanted, hg, hb]
      split at hw
      · exact hw.elim
      · rename_i g hgt
        split at hw
        · rename_i b hb
          have hv := R.v g
          rw [hkn g _ hb] at hv
          have hy := sT hgt hv
          split at hw
          · rename_i e
            rw [if_pos (by rw [wt b hy]; exact e)]
            exact step t kn hkn R hw
          · rename_i e
            rw [if_neg (by rw [wt b hy, e]; simp)]
            exact pass t kn hkn R hw
        · rename_i hb
          have hv := R.v g
          rw [hkn g _ hb] at hv
          have hy := zA hgt hv
          rw [if_neg (by rw [wn hy]; simp)]
          exact pass t kn hkn R hw
        · unfold aX at hw
          split at hw
          rotate_left
          · exact hw.elim
          rename_i b hb
          have hv := R.v g
          rw [hb] at hv
          have hy := sT hgt hv
          by_cases e : b = want
          · subst e
            rw [if_pos (by rw [wt b hy]; simp)]
            exact step _ _ (hkn.learn g b) (R.learn hv) (hw.1 rfl)
          · have e' : b = !want := by cases b <;> cases want <;> simp_all
            rw [if_neg (by rw [wt b hy]; simpa using e)]
            refine pass _ _ (hkn.learn g (!want)) (R.learn (by rw [← e']; exact hv)) (hw.2 e')
theorem aFo : ∀ (r : List Oper) (t : List (Nat × AV)) (i : Nat), get (topD r t) i = .top ∨ ((∀ o ∈ r, o.dst ≠ some i) ∧ get (topD r t) i = get t i)
  | [], t, i => .inr ⟨fun o h => by simp at h, rfl⟩
  | o :: r, t, i => by
    simp only [topD]
    have ih := aFo r t i
    split
    · rename_i j hj
      rw [jS]
      by_cases e : j = i
      · rw [if_pos e]; exact .inl rfl
      · rw [if_neg e]
        refine ih.imp id fun ⟨h1, h2⟩ => ⟨fun o' ho' => ?_, h2⟩
        rcases List.mem_cons.1 ho' with rfl | ho'
        · rw [hj]; intro h; cases h; exact e rfl
        · exact h1 o' ho'
    · rename_i hj
      refine ih.imp id fun ⟨h1, h2⟩ => ⟨fun o' ho' => ?_, h2⟩
      rcases List.mem_cons.1 ho' with rfl | ho'
      · rw [hj]; intro h; cases h
      · exact h1 o' ho'

def aAn (L : List Nat) (t' t : List (Nat × AV)) : List (Nat × AV) :=
  match L with
  | [] => t
  | i :: L => aAn L t' (put i (get t' i) t)

theorem aFp : ∀ (L : List Nat) (f : List (Nat × AV) → List AObj → Prop) (t t' : List (Nat × AV)) (h : List AObj), appJ L (mkJ L f t) t' h = f (aAn L t' t) h
  | [], f, t, t', h => rfl
  | i :: L, f, t, t', h => by
    simp only [appJ, mkJ, aAn]
    exact aFp L f _ t' h

theorem aDF : ∀ (L : List Nat) (t' t : List (Nat × AV)) (i : Nat), get (aAn L t' t) i = get t' i ∨ get (aAn L t' t) i = get t i
  | [], t', t, i => .inr rfl
  | j :: L, t', t, i => by
    simp only [aAn]
    rcases aDF L t' (put j (get t' j) t) i with h | h
    · exact .inl h
    · rw [h, jS]
      by_cases e : j = i
      · subst e; rw [if_pos rfl]; exact .inl rfl
      · rw [if_neg e]; exact .inr rfl

theorem vF (C : lP P c) (CS : SOk P c.envS) (hdr : c.drawn = false) {B : Cx} (YY : ∀ l, YOk P B l (c.envY l)) (nf : Nat) (ops : Array Oper) {KP : List (Nat × AV) → AV → List AObj → Prop} {κ : List (Nat × AV) → List AObj → Prop} {Q : Exit → Act → World → Prop} :
    ∀ (cs : List (Nat × Option (List Nat))) (r : List Oper) (t : List (Nat × AV)) (X : Cx) (a : Act), (∀ o ∈ r, ∀ i, o.dst = some i → i < n) → Ext B X → HR X → SR n ds X t a → aBI c ops.toList KP κ cs r t X.h →
      (∀ Y t' a', HR Y → Ext X Y → SR n ds Y t' a' → κ t' Y.h → Q .normal a' Y.w) →
      (∀ Y t' v q a', HR Y → Ext X Y → SR n ds Y t' a' → KP t' v Y.h → VV Y v q → Q (.panic [{ v := q, recovered := false }]) a' Y.w) →
      wpListIn (FW ro) nf P ops Q r a X.w
  | [], r, t, X, a, hd, EB, H, R, hw, hk, hkp => by
    have := mN (ro := ro) (rest := []) C CS hdr YY nf ops r [] t X a hd (Kn.nil t) EB H R hw (fun Y t' a' HY EY RY _ h => by
      show Q .normal a' Y.w
      exact hk Y t' a' HY EY RY h) hkp
    simpa using this
  | (m, L) :: cs, r, t, X, a, hd, EB, H, R, hw, hk, hkp => by
    have hd1 : ∀ o ∈ r.take m, ∀ i, o.dst = some i → i < n := fun o ho => hd o (List.mem_of_mem_take ho)
    have hd2 : ∀ o ∈ r.drop m, ∀ i, o.dst = some i → i < n := fun o ho => hd o (List.mem_of_mem_drop ho)
    rw [← List.take_append_drop m r]
    simp only [aBI] at hw
    split at hw
    · exact mN (rest := r.drop m) C CS hdr YY nf ops (r.take m) [] t X a hd1 (Kn.nil t) EB H R hw (fun Y t' a' HY EY RY _ h =>
        vF C CS hdr YY nf ops cs (r.drop m) t' Y a' hd2 (EB.trans EY) HY RY h (fun Z t'' a'' HZ EZ RZ h => hk Z t'' a'' HZ (EY.trans EZ) RZ h) (fun Z t2 v q a'' HZ EZ h1 h3 h4 => hkp Z t2 v q a'' HZ (EY.trans EZ) h1 h3 h4)) hkp
    · rename_i L
      unfold aM at hw
      refine mN (rest := r.drop m) C CS hdr YY nf ops (r.take m) [] t X a hd1 (Kn.nil t) EB H R hw (fun Y t' a' HY EY RY hs h => ?_) hkp
      rw [aFp] at h
      refine vF C CS hdr YY nf ops cs (r.drop m) _ Y a' hd2 (EB.trans EY) HY ⟨fun i => ?_, RY.size, RY.defers⟩ h (fun Z t'' a'' HZ EZ RZ h => hk Z t'' a'' HZ (EY.trans EZ) RZ h) (fun Z t2 v q a'' HZ EZ h1 h3 h4 => hkp Z t2 v q a'' HZ (EY.trans EZ) h1 h3 h4)
      rcases aDF L t' (topD (r.take m) t) i with e | e
      · rw [e]; exact RY.v i
      · rw [e]
        rcases aFo (r.take m) t i with e | ⟨h1, e⟩
        · rw [e]; trivial
        · rw [e, hs.1 i h1]; exact (R.v i).ext EY

end

end Lam
namespace Lam
open Go

def Cx.drop (X : Cx) (n : Nat) : Cx := ⟨fun b => X.S b ∨ ∃ i, n ≤ i ∧ X.μ[i]? = some (some b), X.μ.take n, cG n X.h, X.w⟩

theorem aHU (n : Nat) (h : List AObj) (o : Option AObj) : rowO (o.map (pS n h)) = rowO o := by
  cases o with
  | none => rfl
  | some o => cases o <;> rfl

section
variable {X : Cx} {n : Nat}

theorem aFq (i : Nat) : (X.drop n).h[i]? = if i < n then (X.h[i]?).map (pS n X.h) else none := by
  simp only [Cx.drop, cG, List.getElem?_map, List.getElem?_take]
  split <;> rfl

theorem lI (i : Nat) : (X.drop n).μ[i]? = if i < n then X.μ[i]? else none := by
  simp only [Cx.drop, List.getElem?_take]

theorem pE {i : Nat} (hi : i < n) : rowO ((X.drop n).h[i]?) = rowO (X.h[i]?) := by
  rw [aFq, if_pos hi, aHU]

theorem nK {b : Nat} (h : X.S b) : (X.drop n).S b := .inl h
theorem aAo {l : Lst} {cs : List Value} (h : LR X l cs) : LR (X.drop n) l cs := LR.tr (fun _ => nK) (fun _ _ => rfl) h

theorem aDG (H : HR X) {x : Bool} {id ver off len : Nat} {c : Value} (h : SrV X x id ver off len c) :
    VB (X.drop n) (oT n (X.h[id]?) id ver off len) c ∧ ((oT n (X.h[id]?) id ver off len).scalar = true ∧ (∀ f a b, oT n (X.h[id]?) id ver off len ≠ .fn f a b) ∧ (∀ t u, oT n (X.h[id]?) id ver off len ≠ .iface t u)) := by
  have h0 := h
  obtain ⟨a, m, cap, rfl, k, ver', l, hl, hv, g⟩ := h
  have hr := jY hl
  by_cases e : ver = ver'
  · by_cases hi : id < n
    · simp only [oT, hr, if_pos e, if_pos hi]
      refine ⟨⟨a, m, cap, rfl, k, ver', l, by rw [pE hi]; exact hl, hv, fun e => ?_⟩, rfl, by intros; simp, by intros; simp⟩
      obtain ⟨g1, g2, g3, g4, g5, g6⟩ := g e
      refine ⟨g1, g2, g3, fun h => (by cases h), g5, fun hn => ?_⟩
      obtain ⟨b, q1, q2, q3⟩ := g6 hn
      exact ⟨b, by rw [lI, if_pos hi]; exact q1, q2, q3⟩
    · have hlo : lL (X.h[id]?) ver off len = some (l.cut off len) := by rw [hr]; simp [lL, e]
      have := aBm (Y := X.drop n) H (fun _ => nK) (fun _ _ => rfl) h0 hlo fun b hb => ⟨.inr ⟨id, by omega, hb⟩, rfl⟩
      simp only [oT, hr, if_pos e, if_neg hi]
      exact ⟨this, rfl, by intros; simp, by intros; simp⟩
  · simp only [oT, hr, if_neg e]
    exact ⟨trivial, rfl, by intros; simp, by intros; simp⟩

theorem aFr {X : Cx} {v : AV} {c : Value} (h : VB X v c) (hs : v.scalar = true ∧ (∀ f a b, v ≠ .fn f a b) ∧ (∀ t u, v ≠ .iface t u)) : VV X v c := by
  obtain ⟨h1, h2, h3⟩ := hs
  cases v <;> first | exact h | (cases h1; done) | exact (h2 _ _ _ rfl).elim | exact (h3 _ _ rfl).elim

theorem aFs {X : Cx} {v : AV} {c : Value} (h : VB X v c) (hc : c.oneCell' = true) (hs : v.scalar = true ∧ (∀ f a b, v ≠ .fn f a b) ∧ (∀ t u, v ≠ .iface t u)) (hu : v ≠ .und) : VC X v [c] := by
  obtain ⟨h1, h2, h3⟩ := hs
  cases v <;> first | (simp only [VC]; exact ⟨c, rfl, h⟩) | (simp only [VC]; exact ⟨c, rfl, hc⟩) | (cases h1; done) | exact (h2 _ _ _ rfl).elim | exact (h3 _ _ rfl).elim | exact (hu rfl).elim

theorem aJs (n : Nat) (o : Option AObj) (id ver off len : Nat) : oT n o id ver off len ≠ .und := by
  unfold oT; split
  · split
    · split <;> simp
    · simp
  · simp

theorem aFt {id : Nat} {p : List PS} {c : Value} (hi : id < n) (h : PtV X id p c) : PtV (X.drop n) id p c := by
  have fin : ∀ p, (∃ b, X.μ[id]? = some (some b) ∧ c = .pointer (some ⟨b, offs p, none⟩) ∧ ∀ k ver l, rowO (X.h[id]?) = some (k, ver, l) → k ≠ .own) →
      ∃ b, (X.drop n).μ[id]? = some (some b) ∧ c = .pointer (some ⟨b, offs p, none⟩) ∧ ∀ k ver l, rowO ((X.drop n).h[id]?) = some (k, ver, l) → k ≠ .own := by
    rintro p ⟨b, q1, q2, q3⟩
    exact ⟨b, by rw [lI, if_pos hi]; exact q1, q2, by rw [pE hi]; exact q3⟩
  cases p with
  | nil => exact fin _ h
  | cons q r => cases q with
    | f _ _ => exact fin _ h
    | i _ _ _ =>
      obtain ⟨k, ver', l, hl, hv, ho, g⟩ := h
      exact ⟨k, ver', l, by rw [pE hi]; exact hl, hv, ho, fun e => by obtain ⟨b, q1, q2⟩ := g e; exact ⟨b, by rw [lI, if_pos hi]; exact q1, q2⟩⟩

mutual
theorem aCl (H : HR X) : ∀ {v : AV} {c : Value}, VV X v c → VV (X.drop n) (v.norm n X.h) c
  | .agg vs, c, h => by
    simp only [AV.norm, VV] at h ⊢
    obtain ⟨cs, rfl, h⟩ := h
    exact ⟨cs, rfl, aHV H h⟩
  | .tup vs, c, h => by
    simp only [AV.norm, VV] at h ⊢
    obtain ⟨cs, rfl, h⟩ := h
    exact ⟨cs, rfl, wD H h⟩
  | .fn f first cap, c, h => by
    simp only [AV.norm, VV] at h ⊢
    obtain ⟨a, d, rfl, h1, h2⟩ := h
    exact ⟨a, d, rfl, wD H h1, wD H h2⟩
  | .iface t v, c, h => by
    simp only [AV.norm, VV] at h ⊢
    obtain ⟨u, rfl, h⟩ := h
    exact ⟨u, rfl, aCl H h⟩
  | .sref x id ver off len, c, h => by
    simp only [AV.norm]
    have := aDG (n := n) H (x := x) (id := id) (ver := ver) (off := off) (len := len) h
    exact aFr this.1 this.2
  | .sl x l, c, h => by
    obtain ⟨a, cap, rfl, h1, h2, h3, h4⟩ := h
    exact ⟨a, cap, rfl, h1, fun h => (by cases h), h3, fun hn => by obtain ⟨ad, q1, q2, q3, cs, q5, q4⟩ := h4 hn; exact ⟨ad, q1, q2, nK q3, cs, aAo q5, q4⟩⟩
  | .ptr id p, c, h => by
    simp only [AV.norm]
    split
    · rename_i hi; exact aFt hi h
    · trivial
  | .map id, c, h => by
    simp only [AV.norm]
    split
    · rename_i hi
      obtain ⟨b, q1, q2, q3⟩ := h
      exact ⟨b, by rw [lI, if_pos hi]; exact q1, q2, by rw [pE hi]; exact q3⟩
    · trivial
  | .ep l i fs, c, h => by
    obtain ⟨b, o, q1, q2, q3, us, q5, q4⟩ := h
    exact ⟨b, o, q1, q2, nK q3, us, EC.tr (fun _ => nK) (fun _ _ => rfl) q5, q4⟩
  | .arr l, _, h => by simp only [AV.norm, VV] at h ⊢; obtain ⟨cs, rfl, h⟩ := h; exact ⟨cs, rfl, aAo h⟩
  | .top, _, _ => trivial
  | .und, _, h => h
  | .int _ _, _, h => h
  | .bool _, _, h => h
  | .str _, _, h => h
  | .nilp, _, h => h
  | .nilfn, _, h => h
  | .niliface, _, h => h
theorem wD (H : HR X) : ∀ {vs : List AV} {cs : List Value}, VVs X vs cs → VVs (X.drop n) (AV.norms n X.h vs) cs
  | [], _, h => by simpa only [VVs, AV.norms] using h
  | v :: r, _, h => by
    simp only [AV.norms, VVs] at h ⊢
    obtain ⟨c, d, rfl, g1, g2⟩ := h
    exact ⟨c, d, rfl, aCl H g1, wD H g2⟩
theorem aJt (H : HR X) : ∀ {v : AV} {cs : List Value}, VC X v cs → VC (X.drop n) (v.norm n X.h) cs
  | .agg vs, c, h => by
    simp only [AV.norm, VC] at h ⊢
    exact aHV H h
  | .tup vs, c, h => by simp only [VC] at h
  | .fn f first cap, c, h => by
    simp only [AV.norm, VC] at h ⊢
    obtain ⟨a, d, rfl, h1, h2⟩ := h
    exact ⟨a, d, rfl, wD H h1, wD H h2⟩
  | .iface t v, c, h => by
    simp only [AV.norm, VC] at h ⊢
    obtain ⟨u, rfl, h⟩ := h
    exact ⟨u, rfl, aCl H h⟩
  | .sref x id ver off len, cs, h => by
    simp only [VC] at h
    obtain ⟨c, rfl, h⟩ := h
    simp only [AV.norm]
    have := aDG (n := n) H (x := x) (id := id) (ver := ver) (off := off) (len := len) h
    exact aFs this.1 (kD (v := .sref x id ver off len) h rfl) this.2 (aJs _ _ _ _ _ _)
  | .sl x l, cs, h => by
    simp only [VC] at h ⊢
    obtain ⟨c, rfl, h⟩ := h
    simp only [AV.norm, VC]
    exact ⟨c, rfl, aCl H (v := .sl x l) h⟩
  | .ptr id p, cs, h => by
    simp only [VC] at h
    obtain ⟨c, rfl, h⟩ := h
    simp only [AV.norm]
    split
    · rename_i hi; simp only [VC]; exact ⟨c, rfl, aFt hi h⟩
    · simp only [VC]; exact ⟨c, rfl, kD (v := .ptr id p) h rfl⟩
  | .map id, cs, h => by
    simp only [VC] at h
    obtain ⟨c, rfl, h⟩ := h
    simp only [AV.norm]
    split
    · rename_i hi
      simp only [VC]
      obtain ⟨b, q1, q2, q3⟩ := h
      exact ⟨c, rfl, b, by rw [lI, if_pos hi]; exact q1, q2, by rw [pE hi]; exact q3⟩
    · simp only [VC]; exact ⟨c, rfl, kD (v := .map id) h rfl⟩
  | .ep l i fs, cs, h => by
    simp only [AV.norm, VC] at h ⊢
    obtain ⟨c, rfl, b, o, q1, q2, q3, us, q5, q4⟩ := h
    exact ⟨c, rfl, b, o, q1, q2, nK q3, us, EC.tr (fun _ => nK) (fun _ _ => rfl) q5, q4⟩
  | .arr l, _, h => by simp only [AV.norm, VC] at h ⊢; exact aAo h
  | .top, _, h => by simpa only [AV.norm, VC] using h
  | .und, _, h => by simp only [VC] at h
  | .int _ _, _, h => by simp only [AV.norm, VC] at h ⊢; obtain ⟨c, rfl, h⟩ := h; exact ⟨c, rfl, h⟩
  | .bool _, _, h => by simp only [AV.norm, VC] at h ⊢; obtain ⟨c, rfl, h⟩ := h; exact ⟨c, rfl, h⟩
  | .str _, _, h => by simp only [AV.norm, VC] at h ⊢; obtain ⟨c, rfl, h⟩ := h; exact ⟨c, rfl, h⟩
  | .nilp, _, h => by simp only [AV.norm, VC] at h ⊢; obtain ⟨c, rfl, h⟩ := h; exact ⟨c, rfl, h⟩
  | .nilfn, _, h => by simp only [AV.norm, VC] at h ⊢; obtain ⟨c, rfl, h⟩ := h; exact ⟨c, rfl, h⟩
  | .niliface, _, h => by simp only [AV.norm, VC] at h ⊢; obtain ⟨c, rfl, h⟩ := h; exact ⟨c, rfl, h⟩
theorem aHV (H : HR X) : ∀ {vs : List AV} {cs : List Value}, VCs X vs cs → VCs (X.drop n) (AV.norms n X.h vs) cs
  | [], _, h => by simpa only [VCs, AV.norms] using h
  | v :: r, _, h => by
    simp only [AV.norms, VCs] at h ⊢
    obtain ⟨c, d, rfl, g1, g2⟩ := h
    exact ⟨c, d, rfl, aJt H g1, aHV H g2⟩
end

theorem aAp (H : HR X) : HR (X.drop n) := by
  refine ⟨by simp [Cx.drop, cG, H.len], fun i o ho => ?_, fun i j b h1 h2 => ?_, fun i b hb => ?_, fun b hb => ?_⟩
  · rw [aFq] at ho; rw [lI]
    split at ho
    · rename_i hi
      rw [if_pos hi]
      cases hx : X.h[i]? with
      | none => rw [hx] at ho; cases ho
      | some o' =>
        rw [hx] at ho; cases ho
        obtain ⟨b, hb, hor⟩ := H.obj i o' hx
        refine ⟨b, hb, ?_⟩
        cases o' with
        | box v =>
          obtain ⟨b', cs, elem, rfl, q1, q2⟩ := hor
          exact ⟨b', cs, elem, rfl, q1, aJt H q2⟩
        | row k ver l =>
          rcases hor with hor | ⟨b', cs, elem, rfl, q1, ⟨a, r, q2, q4⟩, q3⟩
          · exact .inl hor
          · exact .inr ⟨b', cs, elem, rfl, q1, ⟨a, r, q2, aAo q4⟩, fun hk => nK (q3 hk)⟩
        | map m => exact hor
        | lp st pd r => exact hor
        | dead => exact hor
    · cases ho
  · rw [lI] at h1 h2
    split at h1
    · split at h2
      · exact H.apart _ _ _ h1 h2
      · cases h2
    · cases h1
  · rw [lI] at hb
    split at hb
    · rename_i hi
      refine ⟨(H.live _ _ hb).1, fun hs => ?_⟩
      rcases hs with hs | ⟨j, hj, hs⟩
      · obtain ⟨ver, l, e⟩ := (H.live _ _ hb).2 hs
        exact ⟨ver, l, by rw [aFq, if_pos hi, e]; rfl⟩
      · have := H.apart _ _ _ hb hs; omega
    · cases hb
  · rcases hb with hb | ⟨j, _, hb⟩
    · exact H.old b hb
    · exact (H.live _ _ hb).1

theorem lY.drop {base : Nat} : ∀ {ds : List Deferred}, lY base X ds → lY base (X.drop n) ds
  | [], _ => trivial
  | d :: ds, ⟨⟨r, e, h1, h2, h3, h4, h5⟩, h⟩ => by
    refine ⟨⟨r, e, h1, h2, fun i hi => ?_, fun hs => ?_, h5⟩, lY.drop h⟩
    · rw [lI] at hi
      split at hi
      · exact h3 i hi
      · cases hi
    · rcases hs with hs | ⟨i, _, hs⟩
      · exact h4 hs
      · exact h3 i hs

theorem kO.drop {B : DB} {l : List Deferred} (h : kO B X l) : kO B (X.drop n) l := by
  obtain ⟨m, e, hm⟩ := h
  exact ⟨m, e, hm.drop⟩

theorem xH {X0 : Cx} (H0 : HR X0) (E : Ext X0 X) (hl : X0.h.length ≤ n) : Ext X0 (X.drop n) := by
  refine ⟨fun b h => nK (E.S b h), E.cells, fun b hb => ?_, fun i b hb => ?_, E.keep, E.grow, fun i k ver l hr => ?_, fun i b h1 h2 => ?_, E.env⟩
  · rcases hb with hb | ⟨j, _, hb⟩
    · exact E.new b hb
    · rcases E.muinv j b hb with h | h
      · exact .inr (.inl ⟨j, h⟩)
      · exact .inr (.inr h)
  · rw [lI] at hb
    split at hb
    · exact E.muinv i b hb
    · cases hb
  · have hi : i < n := Nat.lt_of_lt_of_le (aDg hr) hl
    obtain ⟨k', ver', l', h1, h2, h3, h4⟩ := E.row i k ver l hr
    refine ⟨k', ver', l', by rw [pE hi]; exact h1, h2, fun e => ?_, h4⟩
    obtain ⟨g1, g2, g3⟩ := h3 e
    refine ⟨g1, g2, fun b hb => ?_⟩
    obtain ⟨q1, q2⟩ := g3 b hb
    exact ⟨by rw [lI, if_pos hi]; exact q1, q2⟩
  · have hi : i < n := by
      have : i < X0.μ.length := (List.getElem?_eq_some_iff.1 h2).1
      rw [H0.len] at this; omega
    obtain ⟨q1, q2⟩ := E.oth i b h1 h2
    exact ⟨by rw [lI, if_pos hi]; exact q1, by rw [pE hi]; exact q2⟩
end

end Lam
