/- Operations that change an object. -/
import Derived.Test.YtpjnljbfnppmlaaLR12
set_option linter.unusedVariables false
set_option linter.unnecessarySimpa false
set_option linter.unusedSectionVars false
set_option linter.unusedSimpArgs false
namespace Lam
open Go

section
variable {P : Program} {X : Cx}

theorem storeCells_at {w : World} {g o : Nat} {t : TypeId} {cur : Array Value} {a us b vs : List Value} (hg : w.heap[g]? = some (.cells cur t (0, 0))) (hcur : cur.toList = a ++ (us ++ b)) (ha : a.length = o)
    (hl : us.length = vs.length) (h1 : Ones vs) : (storeCells ⟨g, o, none⟩ vs).run P w = .ok () (w.setRow g (a ++ (vs ++ b)).toArray) := by
  have hsz : cur.size = a.length + (us.length + b.length) := by rw [← Array.length_toList, hcur]; simp
  have := run_storeCells_at P g o t vs 0 cur w hg (by omega) h1
  rw [this, hcur]
  subst ha
  congr 3
  simp only [Nat.add_zero, List.append_assoc]
  rw [List.take_left' rfl, ← hl, ← List.drop_drop, List.drop_left' rfl, List.drop_left' rfl]

theorem run_storeAt {T : TypeId} {d : TyD} {v : AV} {cv : Value} {b o : Nat} {t : TypeId} {cur : Array Value} {x us y : List Value} (hT : tyB P d T = true) (hf : fitP d v) (hv : VV X v cv)
    (hg : X.w.heap[b]? = some (.cells cur t (0, 0))) (hcur : cur.toList = x ++ (us ++ y)) (hx : x.length = o) (hl : us.length = cv.cells.toList.length) :
    (Instr.storeAt T (.pointer (some ⟨b, o, none⟩)) cv).run P X.w = .ok () (X.w.setRow b (x ++ (cv.cells.toList ++ y)).toArray) := by
  have hc := VV_top_cells (fitP_solid hf) hv
  have hsz : cv.cells.size = d.size := by rw [← Array.length_toList, VC_len hc, (fitP_size hf).1]
  have hst := storeCells_at (P := P) hg hcur hx hl (VC_ones hc)
  simp only [Instr.storeAt, Instr.sureAddr, pure_bind, storeVar, Sem.run_bind, run_sizeOf hT (fitP_told hf), Result.andThen_ok, hsz, ne_eq, not_true, if_false]
  exact hst

theorem blockSize_row {w : World} {b : Nat} {cur new : Array Value} {t : TypeId} (hg : w.heap[b]? = some (.cells cur t (0, 0))) : blockSize (w.setRow b new) b = new.size := by
  unfold blockSize; rw [setRow_heap w b cur new t _ hg]

/-- an object whose block is written -/
theorem set_good (H : HR X) {id b : Nat} {o o' : AObj} {cur new : Array Value} {t : TypeId} {v : AV} {c : Value} (ho : X.h[id]? = some o) (hb : X.μ[id]? = some (some b)) (hg : X.w.heap[b]? = some (.cells cur t (0, 0)))
    (hS : ¬ X.S b) (hsz : new.size = cur.size)
    (hrow : ∀ k ver l, rowO (some o) = some (k, ver, l) → ∃ ver' l', rowO (some o') = some (k, ver', l') ∧ ver ≤ ver' ∧ (ver = ver' → l'.len = l.len ∧ l'.kind = l.kind) ∧ (k ≠ .own → ver = ver'))
    (hoth : rowO (some o) = none → rowO (some o') = none)
    (hO : ∀ Y : Cx, Y.w = X.w.setRow b new → Y.S = X.S → Ext X Y → Y.w.heap[b]? = some (.cells new t (0, 0)) → OR Y (some b) o')
    (hV : ∀ Y : Cx, Y.w = X.w.setRow b new → Ext X Y → Y.μ = X.μ → Y.h[id]? = some o' → blockSize Y.w b = cur.size → VV Y v c) : Good X (X.h.set id o') v c (X.w.setRow b new) := by
  have hidl : id < X.h.length := (List.getElem?_eq_some_iff.1 ho).1
  have hmul : id < X.μ.length := (List.getElem?_eq_some_iff.1 hb).1
  have hbs : blockSize (X.w.setRow b new) b = cur.size := by rw [blockSize_row hg, hsz]
  have hcs : blockSize X.w b = cur.size := by unfold blockSize; rw [hg]
  have U : Upd X ⟨X.S, X.μ.set id (some b), X.h.set id o', X.w.setRow b new⟩ id o o' (some b) (some b) :=
    { S := rfl, hh := rfl, mu := rfl, ho := ho, hb := hb
      heap := fun k _ hk => setRow_other X.w b k new (fun e => hk (by rw [e]))
      grow := by simp
      blk := .inl rfl
      env := ⟨rfl, rfl, rfl⟩, own := fun k hk => by cases hk; exact hS
      row := fun k ver l h => by
        obtain ⟨ver', l', h1, h2, h3, h4⟩ := hrow k ver l h
        exact ⟨ver', l', h1, h2, fun e => ⟨(h3 e).1, (h3 e).2, rfl, fun x hx => by cases hx; rw [hcs]; exact Nat.le_of_eq hbs.symm⟩, h4⟩
      oth := fun h => .inr ⟨hoth h, rfl⟩ }
  have hμ : X.μ.set id (some b) = X.μ := by
    apply List.ext_getElem?
    intro i
    rw [List.getElem?_set]
    by_cases e : id = i
    · subst e; rw [if_pos rfl, if_pos hmul]; exact hb.symm
    · simp [e]
  have hnew : (X.w.setRow b new).heap[b]? = some (.cells new t (0, 0)) := setRow_heap X.w b cur new t _ hg
  refine ⟨_, rfl, rfl, U.hr H fun E => hO _ rfl rfl E hnew, U.ext H, hV _ rfl (U.ext H) hμ ?_ hbs⟩
  simp [hidl]

theorem store_sound (H : HR X) {T : TypeId} {d : TyD} {a v : AV} {ca cv : Value} {S : Prop} {id : Nat} {o' : AObj} (hT : tyB P d T = true) (ha : VV X a ca) (hv : VV X v cv)
    (h : storeH d X.h a v = some (S, id, o')) (hS : S) : ∃ w', (Instr.storeAt T ca cv).run P X.w = .ok () w' ∧ Good X (X.h.set id o') .und undef w' := by
  unfold storeH at h
  split at h
  rotate_left
  · cases h
  rename_i id0 p
  split at h
  rotate_left
  · cases h
  rename_i S0 o0 hso
  cases h
  obtain ⟨hS0, hf⟩ := hS
  have hcv := VV_top_cells (fitP_solid hf) hv
  unfold storeO at hso
  split at hso
  · rename_i u hu
    split at hso
    · rename_i u' hset
      cases hso
      obtain ⟨b, hb, bb, cs, e, rfl, hheap, hvc⟩ := H.obj _ _ hu
      have hc : ca = .pointer (some ⟨bb, offs p, none⟩) := by
        have hv : PtV X id p ca := ha
        cases p with
        | nil => obtain ⟨b', hb', rfl, _⟩ := hv; rw [hb] at hb'; cases hb'; rfl
        | cons x r => cases x with
          | f i o => obtain ⟨b', hb', rfl, _⟩ := hv; rw [hb] at hb'; cases hb'; rfl
          | i v j s => exfalso; obtain ⟨k, ver, l, hl, _⟩ := hv; rw [hu] at hl; cases hl
      subst hc
      obtain ⟨x, us, y, hcs, hx, hl, hnew⟩ := VC_set hvc hset hcv
      have hnS : ¬ X.S bb := fun hs => by obtain ⟨_, _, h⟩ := (H.live _ _ hb).2 hs; rw [hu] at h; cases h
      refine ⟨_, run_storeAt hT hf hv hheap hcs hx hl, set_good H hu hb hheap hnS ?_ (fun k ver l h => by cases h) (fun _ => rfl) (fun Y hY _ E hn => ⟨bb, _, e, rfl, hn, ?_⟩) (fun Y _ _ _ _ _ => rfl)⟩
      · rw [← Array.length_toList (xs := cs), hcs]; simp only [List.size_toArray, List.length_append, hl]
      · exact hnew.ext E
    · cases hso
  · rename_i k ver l hu
    have hnS : ∀ b, X.μ[id]? = some (some b) → k ≠ .fro → ¬ X.S b := fun b hb hk hs => by
      obtain ⟨_, _, h⟩ := (H.live _ _ hb).2 hs; rw [hu] at h; cases h; exact hk rfl
    split at hso
    · split at hso
      · rename_i l'
        split at hso
        · rename_i hk
          cases hso
          obtain ⟨b', hb', rfl, _⟩ : ∃ b, X.μ[id]? = some (some b) ∧ ca = .pointer (some ⟨b, 0, none⟩) ∧ _ := ha
          obtain ⟨cs, e, r, hheap, hcs⟩ := row_cells H (k := .arr) (ver := ver) (l := l) (by rw [hu]; rfl) hb'
          have hcl : cv.cells.toList = l'.flat := by simpa [VC] using hcv
          refine ⟨_, run_storeAt (x := []) (us := l.flat) (y := r) hT hf hv hheap (by simpa using hcs) rfl (by rw [hcl, Lst.flat_length, Lst.flat_length, hS0, hk]), set_good H hu hb' hheap (hnS _ hb' (by simp)) ?_ ?_ (fun h => by cases h) (fun Y hY hYS E hn => ?_) (fun Y _ _ _ _ _ => rfl)⟩
          · rw [← Array.length_toList (xs := cs), hcs]; simp only [List.size_toArray, List.length_append, hcl, Lst.flat_length, hS0, hk, List.length_nil, Nat.zero_add]
          · intro k ver0 l0 h0
            simp only [rowO, Option.some.injEq, Prod.mk.injEq] at h0
            obtain ⟨rfl, rfl, rfl⟩ := h0
            exact ⟨_, _, rfl, Nat.le_refl _, fun _ => ⟨hS0, hk⟩, fun _ => rfl⟩
          · exact .inr ⟨b', _, e, rfl, hn, ⟨r, by simp [hcl]⟩, fun h => by cases h⟩
        · cases hso
      · cases hso
    · rename_i vr i sz p'
      split at hso
      rotate_left
      · cases hso
      rename_i hcond
      obtain ⟨rfl, rfl, hkf⟩ := hcond
      split at hso
      rotate_left
      · cases hso
      rename_i u hset
      split at hso
      rotate_left
      · cases hso
      rename_i l' hls
      cases hso
      obtain ⟨k', ver', l0, hl0, _, _, hpt⟩ := ha
      rw [hu] at hl0; cases hl0
      obtain ⟨b', hb', rfl⟩ := hpt rfl
      obtain ⟨cs, e, r, hheap, hcs⟩ := row_cells H (k := k) (ver := vr) (l := l) (by rw [hu]; rfl) hb'
      obtain ⟨x, us, y, hcell, hx, hl, hnew⟩ := VC_set (VC_nth X l i) hset hcv
      obtain ⟨e1, e2, x2, y2, hflat, hx2, hflat', _⟩ := set_flat hls hS0 hnew
      refine ⟨_, run_storeAt (x := x2 ++ x) (us := us) (y := y ++ (y2 ++ r)) hT hf hv hheap (by rw [hcs, hflat, hcell]; simp) (by simp [offs, hx, hx2]) hl, set_good H hu hb' hheap (hnS _ hb' hkf) ?_ ?_ (fun h => by cases h) (fun Y hY hYS E hn => ?_) (fun Y _ _ _ _ _ => rfl)⟩
      · rw [← Array.length_toList (xs := cs), hcs, hflat, hcell]; simp only [List.size_toArray, List.length_append, hl]; omega
      · intro k0 ver0 l0 h0
        simp only [rowO, Option.some.injEq, Prod.mk.injEq] at h0
        obtain ⟨rfl, rfl, rfl⟩ := h0
        exact ⟨_, _, rfl, Nat.le_refl _, fun _ => ⟨e1, e2⟩, fun _ => rfl⟩
      · exact .inr ⟨b', _, e, rfl, hn, ⟨r, by rw [hflat']; simp⟩, fun h => absurd h hkf⟩
    · cases hso
  · cases hso
end
end Lam
