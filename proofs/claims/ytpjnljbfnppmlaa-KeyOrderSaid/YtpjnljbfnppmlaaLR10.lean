/- Slices' contents, conversions, what is built. -/
import Derived.Test.YtpjnljbfnppmlaaLR9
set_option linter.unusedVariables false
set_option linter.unnecessarySimpa false
set_option linter.unusedSectionVars false
set_option linter.unusedSimpArgs false
namespace Lam
open Go

section
variable {P : Program} {X : Cx}

/-- a slice's contents, as they lie -/
structure Lies (X : Cx) (l : Lst) (c : Value) : Prop where
  lies : ∃ a cap, c = .slice a l.len cap ∧ l.len ≤ cap ∧ (a = none → cap = 0) ∧ (l.len ≠ 0 → ∃ b o, a = some ⟨b, o, none⟩ ∧ Reads X.w b o l.flat)

theorem rowO_some {o : Option AObj} {k : RK} {ver : Nat} {l : Lst} (h : rowO o = some (k, ver, l)) : o = some (.row k ver l) := by
  unfold rowO at h; split at h
  · cases h; rfl
  · cases h

/-- a row in its block -/
theorem row_cells (H : HR X) {id b : Nat} {k : RK} {ver : Nat} {l : Lst} (h : rowO (X.h[id]?) = some (k, ver, l)) (hb : X.μ[id]? = some (some b)) :
    ∃ cs e r, X.w.heap[b]? = some (.cells cs e (0, 0)) ∧ cs.toList = l.flat ++ r := by
  obtain ⟨b', hb', hor⟩ := H.obj _ _ (rowO_some h)
  rw [hb] at hb'; cases hb'
  rcases hor with ⟨h, _⟩ | ⟨b2, cs, e, h1, h2, ⟨r, hr⟩, _⟩
  · cases h
  · cases h1; exact ⟨cs, e, r, h2, hr⟩

theorem row_reads (H : HR X) {id b : Nat} {k : RK} {ver : Nat} {l : Lst} (h : rowO (X.h[id]?) = some (k, ver, l)) (hb : X.μ[id]? = some (some b)) : Reads X.w b 0 l.flat := by
  obtain ⟨cs, e, r, h1, h2⟩ := row_cells H h hb
  have := Reads.of_cells h1
  rw [h2, show l.flat ++ r = [] ++ (l.flat ++ r) from rfl] at this
  simpa using this.sub

theorem listO_inv {o : Option AObj} {ver off len : Nat} {l : Lst} (h : listO o ver off len = some l) : ∃ k l0, rowO o = some (k, ver, l0) ∧ l = l0.cut off len := by
  unfold listO at h
  split at h
  · rename_i k ver' l0
    split at h
    · rename_i e; subst e; cases h; exact ⟨k, l0, rfl, rfl⟩
    · cases h
  · cases h

theorem list_lies (H : HR X) {x : AV} {c : Value} {l : Lst} (hx : VV X x c) (h : x.list X.h = some l) : Lies X l c := by
  unfold AV.list at h
  split at h
  · cases h
    obtain ⟨a, cap, rfl, h1, h2, h3, h4⟩ := hx
    refine ⟨a, cap, rfl, h1, h3, fun hl => ?_⟩
    obtain ⟨⟨b, o, s⟩, rfl, hs, _, hr⟩ := h4 hl
    simp only at hs; subst hs
    exact ⟨b, o, rfl, hr⟩
  · rename_i y id ver off len
    obtain ⟨k, l0, hrow, rfl⟩ := listO_inv h
    obtain ⟨a, n, cap, rfl, k', ver', l', hl', _, g⟩ := hx
    rw [hrow] at hl'; cases hl'
    obtain ⟨rfl, g1, g2, g3, g4, g5⟩ := g rfl
    have hlen : (l0.cut off n).len = n := by rw [cut_len]; omega
    refine ⟨a, cap, by rw [hlen], by rw [hlen]; exact g1, g4, fun hl => ?_⟩
    rw [hlen] at hl
    obtain ⟨b, hb, ha, _⟩ := g5 (by omega)
    refine ⟨b, _, ha, ?_⟩
    have := Reads_cut (a := off) (n := n) (row_reads H hrow hb)
    simpa using this
  · cases h

theorem intFlat (k : IntKind) (xs : List Int) : (Lst.ints k xs).flat = xs.map (Value.int k) := by
  apply List.ext_getElem?
  intro j
  by_cases hj : j < xs.length
  · have := (Lst.ints k xs).flat_get (i := j) (j := 0) hj (by simp [Lst.kind, LK.size])
    simp only [Lst.kind, LK.size, Nat.mul_one, Nat.add_zero] at this
    rw [this]; simp [Lst.cell, List.getD, hj]
  · rw [List.getElem?_eq_none (by rw [Lst.flat_length]; simp [Lst.len, Lst.kind, LK.size]; omega), List.getElem?_eq_none (by simp; omega)]

theorem push_bstr (s : Bytes) (b : UInt8) : (bstr s).push b = bstr (s ++ [b]) := by
  apply ByteArray.ext; simp [bstr, ByteArray.push]

theorem foldl_push : ∀ (ns : List Int) (s : Bytes), ns.foldl (fun r n => r.push (UInt8.ofNat n.toNat)) (bstr s) = bstr (s ++ ns.map fun n => UInt8.ofNat n.toNat)
  | [], s => by simp
  | n :: ns, s => by simp only [List.foldl_cons, push_bstr, foldl_push ns]; simp

theorem conv_sound {T U : TypeId} {ds d : TyD} {x : AV} {c : Value} {S : Prop} {v : AV} {news : List AObj} (H : HR X) (hT : tyB P ds T = true) (hU : tyB P d U = true) (hx : VV X x c)
    (h : convD X.h ds d x = some (S, v, news)) (hS : S) : news = [] ∧ Pure P (convert T U c) X v := by
  have bytes : ∀ xs, ds = .slice (.int .u8) → d = .str → x.list X.h = some (.ints .u8 xs) → Pure P (convert T U c) X (.str (xs.map fun n => UInt8.ofNat n.toNat)) := by
    rintro xs rfl rfl hl
    obtain ⟨a, cap, rfl, h1, h2, h3⟩ := (list_lies H hx hl).lies
    obtain ⟨E, hu, he⟩ := ty_slice hT
    refine ⟨.string (bstr (xs.map fun n : Int => UInt8.ofNat n.toNat)), ?_, rfl⟩
    have e0 : (Lst.ints IntKind.u8 xs).len = xs.length := rfl
    rw [e0] at h1 h3 ⊢
    have hgo : (Conv.bytesToString (.slice a xs.length cap)).run P X.w = .ok (.string (bstr (xs.map fun n : Int => UInt8.ofNat n.toNat))) X.w := by
      by_cases hne : xs.length = 0
      · have : xs = [] := List.length_eq_zero_iff.1 hne
        subst this
        cases a with
        | none => rfl
        | some ad =>
          have := run_bytesToString (P := P) X.w ad 0 cap [] rfl
          exact this
      · obtain ⟨b, o, rfl, hr⟩ := h3 hne
        rw [intFlat] at hr
        have hl := run_loadCells_list (P := P) X.w ⟨b, o, none⟩ (xs.map (Value.int .u8)) hr.add
        rw [List.length_map] at hl
        rw [run_bytesToString X.w _ xs.length cap xs hl]
        have := foldl_push xs []
        rw [show (ByteArray.empty : ByteArray) = bstr [] from rfl, this]
        rfl
    simp [convert, run_underlying hu, run_underlying (ty_str hU), run_underlying (elInt he), hgo]
  unfold convD at h
  split at h
  · rename_i k0 k k' n
    obtain ⟨rfl, rfl, rfl⟩ := pD_inv h
    obtain rfl : c = .int k' n := hx
    refine ⟨rfl, _, ?_, rfl⟩
    simp [convert, run_underlying (ty_int hT), run_underlying (ty_int hU), Conv.intToInt]
  · rename_i s
    obtain ⟨rfl, rfl, rfl⟩ := pD_inv h
    obtain rfl : c = .string (bstr s) := hx
    refine ⟨rfl, _, ?_, rfl⟩
    simp [convert, run_underlying (ty_str hT), run_underlying (ty_str hU)]
  · rename_i b l
    unfold bytesD at h
    split at h
    · rename_i xs hl
      obtain ⟨rfl, rfl, rfl⟩ := pD_inv h
      exact ⟨rfl, bytes xs rfl rfl hl⟩
    · cases h
  · rename_i b id ver off len
    unfold bytesD at h
    split at h
    · rename_i xs hl
      obtain ⟨rfl, rfl, rfl⟩ := pD_inv h
      exact ⟨rfl, bytes xs rfl rfl hl⟩
    · cases h
  · cases h

/-! ### What is built -/
theorem fold_set (off : Nat) : ∀ (vs : List Value) (k : Nat) (cs : Array Value), off + k + vs.length ≤ cs.size →
    ((vs.zipIdx k).foldl (fun (cs : Array Value) (x : Value × Nat) => cs.setIfInBounds (off + x.2) x.1) cs).toList = cs.toList.take (off + k) ++ (vs ++ cs.toList.drop (off + k + vs.length))
  | [], k, cs, h => by simp
  | v :: vs, k, cs, h => by
    simp only [List.length_cons] at h
    simp only [List.zipIdx_cons, List.foldl_cons]
    rw [fold_set off vs (k + 1) (cs.setIfInBounds (off + k) v) (by simp; omega)]
    rw [Array.toList_setIfInBounds]
    have := list_seg_step cs.toList (off + k) v vs (by simp; omega)
    simp only [List.append_assoc] at this
    rw [show off + (k + 1) = off + k + 1 by omega, this]
    simp [Nat.add_assoc]

theorem VV_top_cells {v : AV} {c : Value} (hs : v.solid = true) (h : VV X v c) : VC X v c.cells.toList := VV_to_VC h hs

theorem sizes_set : ∀ {vs : List AV} {i : Nat} {v : AV}, (vs.getD i .top).size = v.size → ∀ j, AV.sizes ((vs.set i v).take j) = AV.sizes (vs.take j)
  | [], _, _, _, _ => by simp
  | u :: r, 0, v, h, j => by
    cases j with
    | zero => rfl
    | succ j =>
      have h : u.size = v.size := h
      simp only [List.set_cons_zero, List.take_succ_cons, AV.sizes, h]
  | u :: r, i + 1, v, h, j => by
    cases j with
    | zero => rfl
    | succ j =>
      have ih := sizes_set (vs := r) (i := i) (v := v) (by simpa [List.getD] using h) j
      simp only [List.set_cons_succ, List.take_succ_cons, AV.sizes, ih]

theorem size_getD_set {vs : List AV} {i : Nat} {v : AV} (h : (vs.getD i .top).size = v.size) (j : Nat) : ((vs.set i v).getD j .top).size = (vs.getD j .top).size := by
  simp only [List.getD_eq_getElem?_getD, List.getElem?_set]
  by_cases e : i = j
  · subst e
    by_cases hl : i < vs.length
    · simp [hl]; simpa [List.getD, hl] using h.symm
    · simp [hl]
  · simp [e]

/-- the parts of a struct or an array, related -/
inductive Parts (X : Cx) : List (Nat × AV) → List (Nat × Value) → Prop where
  | nil : Parts X [] []
  | cons (i : Nat) (v : AV) (c : Value) (r : List (Nat × AV)) (s : List (Nat × Value)) : VV X v c → Parts X r s → Parts X ((i, v) :: r) ((i, c) :: s)

theorem fillAgg_sound {place : Nat → Option (Nat × Nat)} {ps : List (Nat × AV)} {cps : List (Nat × Value)} (hp : Parts X ps cps) : ∀ {vs us : List AV} {cells : Array Value}, fillAgg vs ps = some us → VCs X vs cells.toList →
    (∀ i, i < vs.length → place i = some (AV.sizes (vs.take i), (vs.getD i .top).size)) →
    ∃ out, Instr.fill place cells cps = some out ∧ VCs X us out.toList := by
  induction hp with
  | nil => intro vs us cells h hv _; simp only [fillAgg, Option.some.injEq] at h; subst h; exact ⟨cells, rfl, hv⟩
  | cons i v c r s hvc hr ih =>
    intro vs us cells h hv hpl
    simp only [fillAgg] at h
    split at h
    · rename_i hc
      obtain ⟨h1, h2, h3⟩ := hc
      have hg : vs[i]? = some (vs.getD i .top) := by simp [List.getD, h1]
      obtain ⟨a, u, b, hcs, ha, hvu, hta, htb⟩ := VCs_at hv hg
      have hcv := VV_top_cells h3 hvc
      have hlen : c.cells.size = (vs.getD i .top).size := by rw [← Array.length_toList, VC_len hcv, h2]
      have hul := VC_len hvu
      have hsz : a.length + c.cells.size ≤ cells.size := by
        rw [← Array.length_toList (xs := cells), hcs]; simp only [List.length_append, hul, hlen]; omega
      have hnew := VCs_set h1 hta hcv htb
      have hf := fold_set a.length c.cells.toList 0 cells (by simpa using hsz)
      have hout : ((c.cells.toList.zipIdx 0).foldl (fun (cs : Array Value) (x : Value × Nat) => cs.setIfInBounds (a.length + x.2) x.1) cells).toList = a ++ (c.cells.toList ++ b) := by
        rw [hf, hcs]
        simp only [Nat.add_zero, List.take_left']
        congr 2
        have e : c.cells.toList.length = u.length := by rw [hul, Array.length_toList, hlen]
        rw [e, ← List.drop_drop, List.drop_left', List.drop_left'] <;> rfl
      obtain ⟨out, ho, hvo⟩ := ih (vs := vs.set i v) h (cells := (c.cells.zipIdx.foldl (fun (cs : Array Value) (x : Value × Nat) => cs.setIfInBounds (a.length + x.2) x.1) cells)) (by
        have e : (c.cells.zipIdx.foldl (fun (cs : Array Value) (x : Value × Nat) => cs.setIfInBounds (a.length + x.2) x.1) cells) = ((c.cells.toList.zipIdx 0).foldl (fun (cs : Array Value) (x : Value × Nat) => cs.setIfInBounds (a.length + x.2) x.1) cells) := by
          rw [← Array.foldl_toList]; simp
        rw [e, hout]; exact hnew) (by
        intro j hj
        simp only [List.length_set] at hj
        rw [hpl j hj, sizes_set h2 j, size_getD_set h2 j])
      refine ⟨out, ?_, hvo⟩
      have c1 : ¬ (c.cells.size ≠ (vs.getD i .top).size) := by rw [hlen]; simp
      have c2 : ¬ (a.length + c.cells.size > cells.size) := by omega
      unfold Instr.fill
      simp only [hpl i h1, ← ha, c1, c2, decide_false, Bool.or_self, if_false, Bool.false_eq_true]
      exact ho
    · cases h
end
end Lam
