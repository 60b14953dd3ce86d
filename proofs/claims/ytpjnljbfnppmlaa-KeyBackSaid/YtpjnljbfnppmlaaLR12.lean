/- Operations that make an object. -/
import Derived.Test.YtpjnljbfnppmlaaLR11
import Derived.Laws.MakeOwn
set_option linter.unusedVariables false
set_option linter.unnecessarySimpa false
set_option linter.unusedSectionVars false
set_option linter.unusedSimpArgs false
namespace Lam
open Go

section
variable {P : Program} {X : Cx}

theorem dead_mu (H : HR X) {s : Nat} (hd : X.h[s]? = some .dead) : X.μ[s]? = some none := by
  obtain ⟨b, hb, h⟩ := H.obj _ _ hd
  have h : b = none := h
  subst h; exact hb

theorem new_upd (H : HR X) {s : Nat} (hd : X.h[s]? = some .dead) (obj : AObj) (o : Obj) (w' : World) (hw : Pushed X.w w' o) :
    Upd X ⟨X.S, X.μ.set s (some X.w.heap.size), X.h.set s obj, w'⟩ s .dead obj none (some X.w.heap.size) where
  S := rfl
  hh := rfl
  mu := rfl
  ho := hd
  hb := dead_mu H hd
  heap k hk _ := by simp only [hw.1, Array.getElem?_push]; rw [if_neg (by omega)]
  grow := by simp [hw.1]
  blk := .inr ⟨_, rfl, Nat.le_refl _, by simp [hw.1]⟩
  env := hw.2
  own k hk := by cases hk
  row k ver l h := by cases h
  oth _ := .inl rfl

theorem new_good (H : HR X) {s : Nat} (hd : X.h[s]? = some .dead) {obj : AObj} {o : Obj} {w' : World} {v : AV} {c : Value} (hw : Pushed X.w w' o)
    (hO : ∀ Y : Cx, Y.w = w' → Ext X Y → w'.heap[X.w.heap.size]? = some o → OR Y (some X.w.heap.size) obj)
    (hV : ∀ Y : Cx, Y.w = w' → Y.μ[s]? = some (some X.w.heap.size) → Y.h[s]? = some obj → w'.heap[X.w.heap.size]? = some o → VV Y v c) : Good X (X.h.set s obj) v c w' := by
  have U := new_upd H hd obj o w' hw
  have hnew : w'.heap[X.w.heap.size]? = some o := by rw [hw.1]; simp
  have hs : s < X.h.length := (List.getElem?_eq_some_iff.1 hd).1
  have hs2 : s < X.μ.length := by rw [H.len]; exact hs
  exact ⟨_, rfl, rfl, U.hr H fun E => hO _ rfl E hnew, U.ext H, hV _ rfl (by simp [hs2]) (by simp [hs]) hnew⟩

theorem box_good (H : HR X) {s : Nat} (hd : X.h[s]? = some .dead) {v : AV} {cs : Array Value} {T : TypeId} {w' : World} (hw : Pushed X.w w' (.cells cs T)) (hv : VC X v cs.toList) (hsol : v.solid = true) :
    Good X (X.h.set s (boxO v)) (.ptr s []) (.pointer (some ⟨X.w.heap.size, 0, none⟩)) w' := by
  refine new_good H hd hw (fun Y hY E hn => ?_) (fun Y hY hμ hh hn => ?_)
  · subst hY
    have hv' := hv.ext E
    cases v with
    | arr l => exact .inr ⟨_, cs, T, rfl, hn, ⟨[], by simpa [VC] using hv'⟩, fun h => by cases h⟩
    | _ => exact ⟨_, cs, T, rfl, hn, hv'⟩
  · refine ⟨_, hμ, rfl, fun k ver l h => ?_⟩
    rw [hh] at h
    cases v <;> simp [boxO, rowO] at h
    rw [← h.1]; simp

theorem alloc_sound (H : HR X) {T : TypeId} {d : TyD} {s : Nat} (hT : tyB P d T = true) (hd : X.h[s]? = some .dead) (hf : fitP d d.zero) :
    ∃ c w', (Instr.alloc T true (.tuple #[])).run P X.w = .ok c w' ∧ Good X (X.h.set s (boxO d.zero)) (.ptr s []) c w' := by
  obtain ⟨z, hz, hzv⟩ := run_zero hT (fitP_told hf) X.w
  refine ⟨_, _, ?_, box_good H hd (w' := { X.w with heap := X.w.heap.push (.cells z.cells T) }) ⟨rfl, rfl, rfl, rfl⟩ (hzv X) (fitP_solid hf)⟩
  simp only [Instr.alloc, Sem.run_bind, hz, Result.andThen_ok, newVar, newRow, run_newObj, Sem.run_pure]

theorem boxop_sound (H : HR X) {T : TypeId} {d : TyD} {s : Nat} {v : AV} {c0 : Value} (hd : X.h[s]? = some .dead) (hf : fitP d v) (hv : VV X v c0) :
    ∃ c w', (Instr.box T c0).run P X.w = .ok c w' ∧ Good X (X.h.set s (boxO v)) (.ptr s []) c w' := by
  refine ⟨_, _, ?_, box_good H hd (w' := { X.w with heap := X.w.heap.push (.cells c0.cells T) }) ⟨rfl, rfl, rfl, rfl⟩ (VV_top_cells (fitP_solid hf) hv) (fitP_solid hf)⟩
  simp only [Instr.box, Sem.run_bind, Result.andThen_ok, newVar, newRow, run_newObj, Sem.run_pure]

theorem made_flat {e : LK} {z : Array Value} (hz : z.toList = (e.zeros 1).cell 0) (n : Nat) : (madeCells z (n * e.size)).toList = (e.zeros n).flat := by
  have hzs : z.size = e.size := by rw [← Array.length_toList, hz, Lst.cell_length, zeros_kind]
  have hs := e.size_pos
  apply List.ext_getElem?
  intro p
  by_cases hp : p < n * e.size
  · have hq : p / e.size < n := Nat.div_lt_of_lt_mul (by rwa [Nat.mul_comm])
    have hm : p % e.size < e.size := Nat.mod_lt _ hs
    have h1 := (e.zeros n).flat_get (i := p / e.size) (j := p % e.size) (by rw [zeros_len]; exact hq) (by rw [zeros_kind]; exact hm)
    rw [zeros_kind, Nat.div_add_mod'] at h1
    rw [h1, zeros_cell e hq, ← hz]
    have hlt : p % e.size < z.size := by omega
    have e1 : z[p % e.size]! = z[p % e.size] := getElem!_pos z _ hlt
    simp [madeCells, hp, hzs, e1, hlt]
  · rw [List.getElem?_eq_none (by simp [madeCells]; omega), List.getElem?_eq_none (by rw [Lst.flat_length, zeros_len, zeros_kind]; omega)]

/-- a row of a slice's own, new -/
theorem row_good (H : HR X) {s : Nat} (hd : X.h[s]? = some .dead) {l : Lst} {cs : Array Value} {r : List Value} {E : TypeId} {w' : World} {n cap : Nat} {x : Bool} (hw : Pushed X.w w' (.cells cs E)) (hcs : cs.toList = l.flat ++ r)
    (hn : n ≤ l.len) (hc : n ≤ cap) (hsz : cap * l.kind.size ≤ cs.size) (hx : x = true → cap = n) :
    Good X (X.h.set s (.row .own 0 l)) (.sref x s 0 0 n) (.slice (some ⟨X.w.heap.size, 0, none⟩) n cap) w' := by
  refine new_good H hd hw (fun Y hY E' hn' => ?_) (fun Y hY hμ hh hn' => ?_)
  · subst hY; exact .inr ⟨_, cs, E, rfl, hn', ⟨r, hcs⟩, fun h => by cases h⟩
  · subst hY
    refine ⟨_, _, _, rfl, .own, 0, l, by rw [hh]; rfl, Nat.le_refl _, fun _ => ⟨rfl, hc, by omega, hx, fun h => (by cases h), fun _ => ⟨_, hμ, by simp, ?_⟩⟩⟩
    simp only [blockSize, hn', Nat.zero_add]; exact hsz

theorem makeSlice_sound (H : HR X) {T : TypeId} {d : TyD} {s : Nat} {l c : AV} {cl cc : Value} {S : Prop} {v : AV} {news : List AObj} (hT : tyB P d T = true) (hd : X.h[s]? = some .dead) (hl : VV X l cl) (hc : VV X c cc)
    (h : makeSliceD d l c s = some (S, v, news)) (hS : S) : ∃ o r w', news = [o] ∧ (Instr.makeSlice T cl cc).run P X.w = .ok r w' ∧ Good X (X.h.set s o) v r w' := by
  unfold makeSliceD at h
  split at h
  · rename_i e n m
    simp only [Option.some.injEq, Prod.mk.injEq] at h
    obtain ⟨rfl, rfl, rfl⟩ := h
    obtain rfl : cl = .int .i64 n := hl
    obtain rfl : cc = .int .i64 m := hc
    obtain ⟨h0, h1, h2⟩ := hS
    unfold roomy at h2
    obtain ⟨E, hu, he⟩ := ty_slice hT
    obtain ⟨i, z, hi, hs, hb, hz, hzc⟩ := (elOk he).info
    have hbytes : (i.bytes : Int) * m ≤ 281474976710656 := by
      have h3 : (i.bytes : Int) ≤ 64 := by omega
      have h4 : m ≤ 1099511627776 := by omega
      have h5 : (i.bytes : Int) * m ≤ 64 * m := Int.mul_le_mul_of_nonneg_right h3 (by omega)
      omega
    have hr := run_make (P := P) X.w T E i z hu hi hz .i64 .i64 n m h0 h1 hbytes (by omega)
    refine ⟨_, _, _, rfl, hr, ?_⟩
    have hm : m.toNat = n.toNat + (m.toNat - n.toNat) := by omega
    have hfl := made_flat hzc m.toNat
    rw [← hs] at hfl
    have hsplit : ∃ r, (e.zeros m.toNat).flat = (e.zeros n.toNat).flat ++ r := by
      rw [zeros_flat, zeros_flat, hm, ← List.replicate_append_replicate, List.flatten_append]; exact ⟨_, rfl⟩
    obtain ⟨r, hr'⟩ := hsplit
    refine row_good H hd (cs := madeCells z.cells (m.toNat * i.size)) (r := r) (E := E) ⟨rfl, rfl, rfl, rfl⟩ (by rw [hfl, hr']) (by rw [zeros_len]; exact Nat.le_refl _) (by omega) (by rw [size_madeCells, zeros_kind, hs]; exact Nat.le_refl _) (fun hx => ?_)
    simp at hx; omega
  · cases h

theorem buildSlice_sound (H : HR X) {T : TypeId} {d : TyD} {s n : Nat} {ps : List (Nat × AV)} {cps : Array (Nat × Value)} {S : Prop} {v : AV} {news : List AObj} (hT : tyB P d T = true) (hd : X.h[s]? = some .dead)
    (hp : Parts X ps cps.toList) (h : buildSliceD d n ps s = some (S, v, news)) (hS : S) : ∃ o r w', news = [o] ∧ (Instr.buildSlice T n cps).run P X.w = .ok r w' ∧ Good X (X.h.set s o) v r w' := by
  unfold buildSliceD at h
  split at h
  · rename_i e
    cases hf : fillLst (e.zeros n) ps with
    | none => simp [hf, someD] at h
    | some l =>
      simp only [hf, someD, Option.some.injEq, Prod.mk.injEq] at h
      obtain ⟨rfl, rfl, rfl⟩ := h
      obtain ⟨E, hu, he⟩ := ty_slice hT
      obtain ⟨i, z, hi, hs, hb, hz, hzc⟩ := (elOk he).info
      have hes : e.size ≤ 4 := by cases e <;> simp [LK.size]
      have hlim : ¬ (n * e.size > 2 ^ 24) := by
        have : n * e.size ≤ 1048576 * 4 := Nat.mul_le_mul hS hes
        omega
      have hzero : ((if n * e.size = 0 then pure #[] else do pure (← zeroValue E).cells) : Sem (Array Value)).run P X.w = .ok (if n * e.size = 0 then #[] else z.cells) X.w := by
        split
        · rfl
        · simp [zeroValue, typeInfo, hi, hz]
      have hfill0 : ((Array.range (n * e.size)).map ((if n * e.size = 0 then #[] else z.cells)[· % (if n * e.size = 0 then #[] else z.cells).size]!)).toList = (e.zeros n).flat := by
        rw [← made_flat hzc n]
        unfold madeCells
        split
        · rename_i h0; rw [h0]; simp
        · rfl
      obtain ⟨out, ho, hov⟩ := fillLst_sound (place := fun i => some (i * e.size, e.size)) hp hf hfill0 (fun i hi => by rw [zeros_kind])
      have hkl : l.kind = e ∧ l.len = n := by
        have : ∀ {ps : List (Nat × AV)} {l0 l : Lst}, fillLst l0 ps = some l → l.kind = l0.kind ∧ l.len = l0.len := by
          intro ps
          induction ps with
          | nil => intro l0 l h; simp only [fillLst, Option.some.injEq] at h; subst h; exact ⟨rfl, rfl⟩
          | cons p ps ih =>
            intro l0 l h
            obtain ⟨i, v⟩ := p
            simp only [fillLst] at h
            split at h
            · split at h
              · rename_i l1 h1
                obtain ⟨a, b⟩ := ih h
                have : l1.kind = l0.kind ∧ l1.len = l0.len := by
                  unfold Lst.set at h1
                  split at h1 <;> first | cases h1 | skip
                  all_goals first
                    | (simp [Lst.kind, Lst.len]; done)
                    | (split at h1
                       · cases h1; simp [Lst.kind, Lst.len]
                       · cases h1)
                exact ⟨a.trans this.1, b.trans this.2⟩
              · cases h
            · cases h
        have := this hf
        rw [zeros_kind, zeros_len] at this; exact this
      refine ⟨_, .slice (some ⟨X.w.heap.size, 0, none⟩) n n, { X.w with heap := X.w.heap.push (.cells out E) }, rfl, ?_, ?_⟩
      · have hel : (Go.sizeOf E).run P X.w = .ok e.size X.w := el_size he X.w
        by_cases h0 : n * e.size = 0
        · have e0 : ∀ f : Nat → Value, (Array.range 0).map f = #[] := fun f => by simp
          have hlim0 : ¬ (0 > 2 ^ 24) := by omega
          simp only [h0, if_true, e0] at ho
          simp only [Instr.buildSlice, Sem.run_bind, run_underlying hu, Result.andThen_ok, hel, hlim0, if_false, h0, if_true, Sem.run_pure, e0, ho, newRow, run_newObj]
        · simp only [h0, if_false] at ho
          simp only [Instr.buildSlice, Sem.run_bind, run_underlying hu, Result.andThen_ok, hel, hlim, if_false, h0, zeroValue, typeInfo, run_program, hi, hz, Sem.run_pure, ho, newRow, run_newObj]
      · refine row_good H hd (r := []) ⟨rfl, rfl, rfl, rfl⟩ (by simp [hov]) (by rw [hkl.2]; exact Nat.le_refl _) (Nat.le_refl _) ?_ (fun _ => rfl)
        rw [← Array.length_toList, hov, Lst.flat_length, hkl.2]; exact Nat.le_refl _
  · cases h

theorem makeMap_sound (H : HR X) {T : TypeId} {d : TyD} {s : Nat} {S : Prop} {v : AV} {news : List AObj} (hd : X.h[s]? = some .dead)
    (h : makeMapD d s = some (S, v, news)) (hS : S) : ∃ o r w', news = [o] ∧ (Instr.makeMap T none).run P X.w = .ok r w' ∧ Good X (X.h.set s o) v r w' := by
  have key : ∀ m, MapR m #[] → Good X (X.h.set s (.map m)) (.map s) (.map (some X.w.heap.size)) { X.w with heap := X.w.heap.push (.map #[] 0) } := fun m hm =>
    new_good H hd ⟨rfl, rfl, rfl, rfl⟩ (fun Y hY E hn => ⟨_, _, _, rfl, by rw [hY]; exact hn, hm⟩) (fun Y hY hμ hh hn => ⟨_, hμ, rfl, by rw [hh]; rfl⟩)
  have run : (Instr.makeMap T none).run P X.w = .ok (.map (some X.w.heap.size)) { X.w with heap := X.w.heap.push (.map #[] 0) } := rfl
  unfold makeMapD at h
  split at h <;> first | cases h | skip
  all_goals exact ⟨_, _, _, rfl, run, key _ ⟨by simp, by simp [lookE, fnV]⟩⟩
end
end Lam
