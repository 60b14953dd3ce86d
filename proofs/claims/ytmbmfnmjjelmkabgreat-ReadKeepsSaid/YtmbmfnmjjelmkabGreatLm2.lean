/- What functions of the program come to, each proved from its code. -/
import Derived.Test.YtmbmfnmjjelmkabGreatLm1
import Derived.Laws.MakeOwn
import Derived.TacticsIn
import Derived.Laws.Cover3
set_option linter.unusedVariables false
set_option linter.unnecessarySimpa false
set_option linter.unusedSectionVars false
set_option linter.unusedSimpArgs false
namespace Lam
open Go

section
variable {P : Program} {X : Cx}

theorem dead_mu (H : HR X) {s : Nat} (hd : X.h[s]? = some .dead) : X.μ[s]? = some none := by
  obtain ⟨b, hb, h⟩ := H.obj _ _ hd
  have h : b = none := h
  subst h; exact hb

theorem new_upd (H : HR X) {s : Nat} (hd : X.h[s]? = some .dead) (obj : AObj) (o : Obj) (w' : World) (hw : Pushed X.w w' o) :
    Upd X ⟨X.S, X.μ.set s (some X.w.heap.size), X.h.set s obj, w'⟩ s .dead obj none (some X.w.heap.size) where
  S := rfl
  hh := rfl
  mu := rfl
  ho := hd
  hb := dead_mu H hd
  heap k hk _ := by simp only [hw.1, Array.getElem?_push]; rw [if_neg (by omega)]
  grow := by simp [hw.1]
  blk := .inr ⟨_, rfl, Nat.le_refl _, by simp [hw.1]⟩
  env := hw.2
  own k hk := by cases hk
  row k ver l h := by cases h
  oth _ := .inl rfl

theorem qR (H : HR X) {s : Nat} (hd : X.h[s]? = some .dead) {obj : AObj} {o : Obj} {w' : World} {v : AV} {c : Value} (hw : Pushed X.w w' o)
    (hO : ∀ Y : Cx, Y.w = w' → Ext X Y → w'.heap[X.w.heap.size]? = some o → OR Y (some X.w.heap.size) obj)
    (hV : ∀ Y : Cx, Y.w = w' → Y.μ[s]? = some (some X.w.heap.size) → Y.h[s]? = some obj → w'.heap[X.w.heap.size]? = some o → VV Y v c) : Good X (X.h.set s obj) v c w' := by
  have U := new_upd H hd obj o w' hw
  have hnew : w'.heap[X.w.heap.size]? = some o := by rw [hw.1]; simp
  have hs : s < X.h.length := (List.getElem?_eq_some_iff.1 hd).1
  have hs2 : s < X.μ.length := by rw [H.len]; exact hs
  exact ⟨_, rfl, rfl, U.hr H fun E => hO _ rfl E hnew, U.ext H, hV _ rfl (by simp [hs2]) (by simp [hs]) hnew⟩

theorem wC (H : HR X) {s : Nat} (hd : X.h[s]? = some .dead) {v : AV} {cs : Array Value} {T : TypeId} {w' : World} (hw : Pushed X.w w' (.cells cs T)) (hv : VC X v cs.toList) :
    Good X (X.h.set s (boxO v)) (.ptr s []) (.pointer (some ⟨X.w.heap.size, 0, none⟩)) w' := by
  refine qR H hd hw (fun Y hY E hn => ?_) (fun Y hY hμ hh hn => ?_)
  · subst hY
    have hv' := hv.ext E
    cases v with
    | arr l => exact .inr ⟨_, cs, T, rfl, hn, ⟨[], by simpa [VC] using hv'⟩, fun h => by cases h⟩
    | _ => exact ⟨_, cs, T, rfl, hn, hv'⟩
  · refine ⟨_, hμ, rfl, fun k ver l h => ?_⟩
    rw [hh] at h
    cases v <;> simp [boxO, rowO] at h
    rw [← h.1]; simp

theorem xY (H : HR X) {T : TypeId} {d : TyD} {s : Nat} (hT : tyB P d T = true) (hd : X.h[s]? = some .dead) (hf : zeroP d) :
    ∃ c w', (Instr.alloc T true (.tuple #[])).run P X.w = .ok c w' ∧ Good X (X.h.set s (boxO d.zero)) (.ptr s []) c w' := by
  have htold : d.told = true := by cases d <;> first | rfl | exact jL (v := (TyD.tup _).zero) hf | exact jL (v := TyD.other.zero) hf
  obtain ⟨z, hz, hzv⟩ := qO hT htold X.w
  refine ⟨_, _, ?_, wC H hd (w' := { X.w with heap := X.w.heap.push (.cells z.cells T) }) ⟨rfl, rfl, rfl, rfl⟩ (hzv X)⟩
  simp only [Instr.alloc, Sem.run_bind, hz, Result.andThen_ok, newVar, newRow, run_newObj, Sem.run_pure]

theorem xZ (H : HR X) {T : TypeId} {d : TyD} {s : Nat} {v : AV} {c0 : Value} (hd : X.h[s]? = some .dead) (hf : fitP d v) (hv : VV X v c0) :
    ∃ c w', (Instr.box T c0).run P X.w = .ok c w' ∧ Good X (X.h.set s (boxO v)) (.ptr s []) c w' := by
  refine ⟨_, _, ?_, wC H hd (w' := { X.w with heap := X.w.heap.push (.cells c0.cells T) }) ⟨rfl, rfl, rfl, rfl⟩ (iN (nD hf) hv)⟩
  simp only [Instr.box, Sem.run_bind, Result.andThen_ok, newVar, newRow, run_newObj, Sem.run_pure]

theorem kR {e : LK} {z : Array Value} (hz : z.toList = (e.zeros 1).cell 0) (n : Nat) : (madeCells z (n * e.size)).toList = (e.zeros n).flat := by
  have hzs : z.size = e.size := by rw [← Array.length_toList, hz, Lst.cell_length, fO]
  have hs := e.size_pos
  apply List.ext_getElem?
  intro p
  by_cases hp : p < n * e.size
  · have hq : p / e.size < n := Nat.div_lt_of_lt_mul (by rwa [Nat.mul_comm])
    have hm : p % e.size < e.size := Nat.mod_lt _ hs
    have h1 := (e.zeros n).flat_get (i := p / e.size) (j := p % e.size) (by rw [fR]; exact hq) (by rw [fO]; exact hm)
    rw [fO, Nat.div_add_mod'] at h1
    rw [h1, rN e hq, ← hz]
    have hlt : p % e.size < z.size := by omega
    have e1 : z[p % e.size]! = z[p % e.size] := getElem!_pos z _ hlt
    simp [madeCells, hp, hzs, e1, hlt]
  · rw [List.getElem?_eq_none (by simp [madeCells]; omega), List.getElem?_eq_none (by rw [Lst.flat_length, fR, fO]; omega)]

/-- a row of a slice's own, new -/
theorem qS (H : HR X) {s : Nat} (hd : X.h[s]? = some .dead) {l : Lst} {cs : Array Value} {r : List Value} {E : TypeId} {w' : World} {n cap : Nat} {x : Bool} (hw : Pushed X.w w' (.cells cs E)) (hcs : cs.toList = l.flat ++ r)
    (hn : n ≤ l.len) (hc : n ≤ cap) (hsz : cap * l.kind.size ≤ cs.size) (hx : x = true → cap = n) :
    Good X (X.h.set s (.row .own 0 l)) (.sref x s 0 0 n) (.slice (some ⟨X.w.heap.size, 0, none⟩) n cap) w' := by
  refine qR H hd hw (fun Y hY E' hn' => ?_) (fun Y hY hμ hh hn' => ?_)
  · subst hY; exact .inr ⟨_, cs, E, rfl, hn', ⟨r, hcs⟩, fun h => by cases h⟩
  · subst hY
    refine ⟨_, _, _, rfl, .own, 0, l, by rw [hh]; rfl, Nat.le_refl _, fun _ => ⟨rfl, hc, by omega, hx, fun h => (by cases h), fun _ => ⟨_, hμ, by simp, ?_⟩⟩⟩
    simp only [dO, hn', Nat.zero_add]; exact hsz

theorem rW (H : HR X) {T : TypeId} {d : TyD} {s : Nat} {l c : AV} {cl cc : Value} {S : Prop} {v : AV} {news : List AObj} (hT : tyB P d T = true) (hd : X.h[s]? = some .dead) (hl : VV X l cl) (hc : VV X c cc)
    (h : gC d l c s = some (S, v, news)) (hS : S) : ∃ o r w', news = [o] ∧ (Instr.makeSlice T cl cc).run P X.w = .ok r w' ∧ Good X (X.h.set s o) v r w' := by
  unfold gC at h
  split at h
  · rename_i e n m
    simp only [Option.some.injEq, Prod.mk.injEq] at h
    obtain ⟨rfl, rfl, rfl⟩ := h
    obtain rfl : cl = .int .i64 n := hl
    obtain rfl : cc = .int .i64 m := hc
    obtain ⟨h0, h1, h2⟩ := hS
    unfold roomy at h2
    obtain ⟨E, hu, he⟩ := fV hT
    obtain ⟨i, z, hi, hs, hb, hz, hzc⟩ := (elOk he).info
    have hbytes : (i.bytes : Int) * m ≤ 281474976710656 := by
      have h3 : (i.bytes : Int) ≤ 64 := by omega
      have h4 : m ≤ 1099511627776 := by omega
      have h5 : (i.bytes : Int) * m ≤ 64 * m := Int.mul_le_mul_of_nonneg_right h3 (by omega)
      omega
    have hr := run_make (P := P) X.w T E i z hu hi hz .i64 .i64 n m h0 h1 hbytes (by omega)
    refine ⟨_, _, _, rfl, hr, ?_⟩
    have hm : m.toNat = n.toNat + (m.toNat - n.toNat) := by omega
    have hfl := kR hzc m.toNat
    rw [← hs] at hfl
    have hsplit : ∃ r, (e.zeros m.toNat).flat = (e.zeros n.toNat).flat ++ r := by
      rw [nC, nC, hm, ← List.replicate_append_replicate, List.flatten_append]; exact ⟨_, rfl⟩
    obtain ⟨r, hr'⟩ := hsplit
    refine qS H hd (cs := madeCells z.cells (m.toNat * i.size)) (r := r) (E := E) ⟨rfl, rfl, rfl, rfl⟩ (by rw [hfl, hr']) (by rw [fR]; exact Nat.le_refl _) (by omega) (by rw [size_madeCells, fO, hs]; exact Nat.le_refl _) (fun hx => ?_)
    simp at hx; omega
  · cases h

theorem qT (H : HR X) {T : TypeId} {d : TyD} {s n : Nat} {ps : List (Nat × AV)} {cps : Array (Nat × Value)} {S : Prop} {v : AV} {news : List AObj} (hT : tyB P d T = true) (hd : X.h[s]? = some .dead)
    (hp : Parts X ps cps.toList) (h : fB d n ps s = some (S, v, news)) (hS : S) : ∃ o r w', news = [o] ∧ (Instr.buildSlice T n cps).run P X.w = .ok r w' ∧ Good X (X.h.set s o) v r w' := by
  unfold fB at h
  split at h
  · rename_i e
    cases hf : fillLst (e.zeros n) ps with
    | none => simp [hf, someD] at h
    | some l =>
      simp only [hf, someD, Option.some.injEq, Prod.mk.injEq] at h
      obtain ⟨rfl, rfl, rfl⟩ := h
      obtain ⟨E, hu, he⟩ := fV hT
      obtain ⟨i, z, hi, hs, hb, hz, hzc⟩ := (elOk he).info
      have hes : e.size ≤ 4 := by cases e <;> simp [LK.size]
      have hlim : ¬ (n * e.size > 2 ^ 24) := by
        have : n * e.size ≤ 1048576 * 4 := Nat.mul_le_mul hS hes
        omega
      have hzero : ((if n * e.size = 0 then pure #[] else do pure (← zeroValue E).cells) : Sem (Array Value)).run P X.w = .ok (if n * e.size = 0 then #[] else z.cells) X.w := by
        split
        · rfl
        · simp [zeroValue, typeInfo, hi, hz]
      have hfill0 : ((Array.range (n * e.size)).map ((if n * e.size = 0 then #[] else z.cells)[· % (if n * e.size = 0 then #[] else z.cells).size]!)).toList = (e.zeros n).flat := by
        rw [← kR hzc n]
        unfold madeCells
        split
        · rename_i h0; rw [h0]; simp
        · rfl
      obtain ⟨out, ho, hov⟩ := nV (place := fun i => some (i * e.size, e.size)) hp hf hfill0 (fun i hi => by rw [fO])
      have hkl : l.kind = e ∧ l.len = n := by
        have : ∀ {ps : List (Nat × AV)} {l0 l : Lst}, fillLst l0 ps = some l → l.kind = l0.kind ∧ l.len = l0.len := by
          intro ps
          induction ps with
          | nil => intro l0 l h; simp only [fillLst, Option.some.injEq] at h; subst h; exact ⟨rfl, rfl⟩
          | cons p ps ih =>
            intro l0 l h
            obtain ⟨i, v⟩ := p
            simp only [fillLst] at h
            split at h
            · split at h
              · rename_i l1 h1
                obtain ⟨a, b⟩ := ih h
                have : l1.kind = l0.kind ∧ l1.len = l0.len := by
                  unfold Lst.set at h1
                  split at h1 <;> first | cases h1 | skip
                  all_goals first
                    | (simp [Lst.kind, Lst.len]; done)
                    | (split at h1
                       · cases h1; simp [Lst.kind, Lst.len]
                       · cases h1)
                exact ⟨a.trans this.1, b.trans this.2⟩
              · cases h
            · cases h
        have := this hf
        rw [fO, fR] at this; exact this
      refine ⟨_, .slice (some ⟨X.w.heap.size, 0, none⟩) n n, { X.w with heap := X.w.heap.push (.cells out E) }, rfl, ?_, ?_⟩
      · have hel : (Go.sizeOf E).run P X.w = .ok e.size X.w := el_size he X.w
        by_cases h0 : n * e.size = 0
        · have e0 : ∀ f : Nat → Value, (Array.range 0).map f = #[] := fun f => by simp
          have hlim0 : ¬ (0 > 2 ^ 24) := by omega
          simp only [h0, if_true, e0] at ho
          simp only [Instr.buildSlice, Sem.run_bind, run_underlying hu, Result.andThen_ok, hel, hlim0, if_false, h0, if_true, Sem.run_pure, e0, ho, newRow, run_newObj]
        · simp only [h0, if_false] at ho
          simp only [Instr.buildSlice, Sem.run_bind, run_underlying hu, Result.andThen_ok, hel, hlim, if_false, h0, zeroValue, typeInfo, run_program, hi, hz, Sem.run_pure, ho, newRow, run_newObj]
      · refine qS H hd (r := []) ⟨rfl, rfl, rfl, rfl⟩ (by simp [hov]) (by rw [hkl.2]; exact Nat.le_refl _) (Nat.le_refl _) ?_ (fun _ => rfl)
        rw [← Array.length_toList, hov, Lst.flat_length, hkl.2]; exact Nat.le_refl _
  · cases h

theorem vH (H : HR X) {T : TypeId} {d : TyD} {s : Nat} {S : Prop} {v : AV} {news : List AObj} (hd : X.h[s]? = some .dead)
    (h : gG d s = some (S, v, news)) (hS : S) : ∃ o r w', news = [o] ∧ (Instr.makeMap T none).run P X.w = .ok r w' ∧ Good X (X.h.set s o) v r w' := by
  have key : ∀ m, MapR m #[] → Good X (X.h.set s (.map m)) (.map s) (.map (some X.w.heap.size)) { X.w with heap := X.w.heap.push (.map #[] 0) } := fun m hm =>
    qR H hd ⟨rfl, rfl, rfl, rfl⟩ (fun Y hY E hn => ⟨_, _, _, rfl, by rw [hY]; exact hn, hm⟩) (fun Y hY hμ hh hn => ⟨_, hμ, rfl, by rw [hh]; rfl⟩)
  have run : (Instr.makeMap T none).run P X.w = .ok (.map (some X.w.heap.size)) { X.w with heap := X.w.heap.push (.map #[] 0) } := rfl
  unfold gG at h
  split at h <;> first | cases h | skip
  all_goals exact ⟨_, _, _, rfl, run, key _ ⟨by simp, by simp [lookE, fnV]⟩⟩
end
end Lam
set_option linter.unusedVariables false
set_option linter.unnecessarySimpa false
set_option linter.unusedSectionVars false
set_option linter.unusedSimpArgs false
namespace Lam
open Go

section
variable {P : Program} {X : Cx}

theorem lB {w : World} {g o : Nat} {t : TypeId} {cur : Array Value} {a us b vs : List Value} (hg : w.heap[g]? = some (.cells cur t (0, 0))) (hcur : cur.toList = a ++ (us ++ b)) (ha : a.length = o)
    (hl : us.length = vs.length) (h1 : Ones vs) : (storeCells ⟨g, o, none⟩ vs).run P w = .ok () (w.setRow g (a ++ (vs ++ b)).toArray) := by
  have hsz : cur.size = a.length + (us.length + b.length) := by rw [← Array.length_toList, hcur]; simp
  have := run_storeCells_at P g o t vs 0 cur w hg (by omega) h1
  rw [this, hcur]
  subst ha
  congr 3
  simp only [Nat.add_zero, List.append_assoc]
  rw [List.take_left' rfl, ← hl, ← List.drop_drop, List.drop_left' rfl, List.drop_left' rfl]

theorem mO {T : TypeId} {d : TyD} {v : AV} {cv : Value} {b o : Nat} {t : TypeId} {cur : Array Value} {x us y : List Value} (hT : tyB P d T = true) (hf : fitP d v) (hv : VV X v cv)
    (hg : X.w.heap[b]? = some (.cells cur t (0, 0))) (hcur : cur.toList = x ++ (us ++ y)) (hx : x.length = o) (hl : us.length = cv.cells.toList.length) :
    (Instr.storeAt T (.pointer (some ⟨b, o, none⟩)) cv).run P X.w = .ok () (X.w.setRow b (x ++ (cv.cells.toList ++ y)).toArray) := by
  have hc := iN (nD hf) hv
  have hsz : cv.cells.size = d.size := by rw [← Array.length_toList, VC_len hc, (kP hf).1]
  have hst := lB (P := P) hg hcur hx hl (VC_ones hc)
  simp only [Instr.storeAt, Instr.sureAddr, pure_bind, storeVar, Sem.run_bind, lH hT (jL hf), Result.andThen_ok, hsz, ne_eq, not_true, if_false]
  exact hst

theorem vI {w : World} {b : Nat} {cur new : Array Value} {t : TypeId} (hg : w.heap[b]? = some (.cells cur t (0, 0))) : dO (w.setRow b new) b = new.size := by
  unfold dO; rw [setRow_heap w b cur new t _ hg]

/-- an object whose block is written -/
theorem lT (H : HR X) {id b : Nat} {o o' : AObj} {cur new : Array Value} {t : TypeId} {v : AV} {c : Value} (ho : X.h[id]? = some o) (hb : X.μ[id]? = some (some b)) (hg : X.w.heap[b]? = some (.cells cur t (0, 0)))
    (hS : ¬ X.S b) (hsz : new.size = cur.size)
    (hrow : ∀ k ver l, rowO (some o) = some (k, ver, l) → ∃ ver' l', rowO (some o') = some (k, ver', l') ∧ ver ≤ ver' ∧ (ver = ver' → l'.len = l.len ∧ l'.kind = l.kind) ∧ (k ≠ .own → ver = ver'))
    (hoth : rowO (some o) = none → rowO (some o') = none)
    (hO : ∀ Y : Cx, Y.w = X.w.setRow b new → Y.S = X.S → Ext X Y → Y.w.heap[b]? = some (.cells new t (0, 0)) → OR Y (some b) o')
    (hV : ∀ Y : Cx, Y.w = X.w.setRow b new → Ext X Y → Y.μ = X.μ → Y.h[id]? = some o' → dO Y.w b = cur.size → VV Y v c) : Good X (X.h.set id o') v c (X.w.setRow b new) := by
  have hidl : id < X.h.length := (List.getElem?_eq_some_iff.1 ho).1
  have hmul : id < X.μ.length := (List.getElem?_eq_some_iff.1 hb).1
  have hbs : dO (X.w.setRow b new) b = cur.size := by rw [vI hg, hsz]
  have hcs : dO X.w b = cur.size := by unfold dO; rw [hg]
  have U : Upd X ⟨X.S, X.μ.set id (some b), X.h.set id o', X.w.setRow b new⟩ id o o' (some b) (some b) :=
    { S := rfl, hh := rfl, mu := rfl, ho := ho, hb := hb
      heap := fun k _ hk => setRow_other X.w b k new (fun e => hk (by rw [e]))
      grow := by simp
      blk := .inl rfl
      env := ⟨rfl, rfl, rfl⟩, own := fun k hk => by cases hk; exact hS
      row := fun k ver l h => by
        obtain ⟨ver', l', h1, h2, h3, h4⟩ := hrow k ver l h
        exact ⟨ver', l', h1, h2, fun e => ⟨(h3 e).1, (h3 e).2, rfl, fun x hx => by cases hx; rw [hcs]; exact Nat.le_of_eq hbs.symm⟩, h4⟩
      oth := fun h => .inr ⟨hoth h, rfl⟩ }
  have hμ : X.μ.set id (some b) = X.μ := by
    apply List.ext_getElem?
    intro i
    rw [List.getElem?_set]
    by_cases e : id = i
    · subst e; rw [if_pos rfl, if_pos hmul]; exact hb.symm
    · simp [e]
  have hnew : (X.w.setRow b new).heap[b]? = some (.cells new t (0, 0)) := setRow_heap X.w b cur new t _ hg
  refine ⟨_, rfl, rfl, U.hr H fun E => hO _ rfl rfl E hnew, U.ext H, hV _ rfl (U.ext H) hμ ?_ hbs⟩
  simp [hidl]

theorem yA (H : HR X) {T : TypeId} {d : TyD} {a v : AV} {ca cv : Value} {S : Prop} {id : Nat} {o' : AObj} (hT : tyB P d T = true) (ha : VV X a ca) (hv : VV X v cv)
    (h : storeH d X.h a v = some (S, id, o')) (hS : S) : ∃ w', (Instr.storeAt T ca cv).run P X.w = .ok () w' ∧ Good X (X.h.set id o') .und undef w' := by
  unfold storeH at h
  split at h
  rotate_left
  · cases h
  rename_i id0 p
  split at h
  rotate_left
  · cases h
  rename_i S0 o0 hso
  cases h
  obtain ⟨hS0, hf⟩ := hS
  have hcv := iN (nD hf) hv
  unfold storeO at hso
  split at hso
  · rename_i u hu
    split at hso
    · rename_i u' hset
      cases hso
      obtain ⟨b, hb, bb, cs, e, rfl, hheap, hvc⟩ := H.obj _ _ hu
      have hc : ca = .pointer (some ⟨bb, offs p, none⟩) := by
        have hv : PtV X id p ca := ha
        cases p with
        | nil => obtain ⟨b', hb', rfl, _⟩ := hv; rw [hb] at hb'; cases hb'; rfl
        | cons x r => cases x with
          | f i o => obtain ⟨b', hb', rfl, _⟩ := hv; rw [hb] at hb'; cases hb'; rfl
          | i v j s => exfalso; obtain ⟨k, ver, l, hl, _⟩ := hv; rw [hu] at hl; cases hl
      subst hc
      obtain ⟨x, us, y, hcs, hx, hl, hnew⟩ := VC_set hvc hset hcv
      have hnS : ¬ X.S bb := fun hs => by obtain ⟨_, _, h⟩ := (H.live _ _ hb).2 hs; rw [hu] at h; cases h
      refine ⟨_, mO hT hf hv hheap hcs hx hl, lT H hu hb hheap hnS ?_ (fun k ver l h => by cases h) (fun _ => rfl) (fun Y hY _ E hn => ⟨bb, _, e, rfl, hn, ?_⟩) (fun Y _ _ _ _ _ => rfl)⟩
      · rw [← Array.length_toList (xs := cs), hcs]; simp only [List.size_toArray, List.length_append, hl]
      · exact hnew.ext E
    · cases hso
  · rename_i k ver l hu
    have hnS : ∀ b, X.μ[id]? = some (some b) → k ≠ .fro → ¬ X.S b := fun b hb hk hs => by
      obtain ⟨_, _, h⟩ := (H.live _ _ hb).2 hs; rw [hu] at h; cases h; exact hk rfl
    split at hso
    · split at hso
      · rename_i l'
        split at hso
        · rename_i hk
          cases hso
          obtain ⟨b', hb', rfl, _⟩ : ∃ b, X.μ[id]? = some (some b) ∧ ca = .pointer (some ⟨b, 0, none⟩) ∧ _ := ha
          obtain ⟨cs, e, r, hheap, hcs⟩ := kQ H (k := .arr) (ver := ver) (l := l) (by rw [hu]; rfl) hb'
          have hcl : cv.cells.toList = l'.flat := by simpa [VC] using hcv
          refine ⟨_, mO (x := []) (us := l.flat) (y := r) hT hf hv hheap (by simpa using hcs) rfl (by rw [hcl, Lst.flat_length, Lst.flat_length, hS0, hk]), lT H hu hb' hheap (hnS _ hb' (by simp)) ?_ ?_ (fun h => by cases h) (fun Y hY hYS E hn => ?_) (fun Y _ _ _ _ _ => rfl)⟩
          · rw [← Array.length_toList (xs := cs), hcs]; simp only [List.size_toArray, List.length_append, hcl, Lst.flat_length, hS0, hk, List.length_nil, Nat.zero_add]
          · intro k ver0 l0 h0
            simp only [rowO, Option.some.injEq, Prod.mk.injEq] at h0
            obtain ⟨rfl, rfl, rfl⟩ := h0
            exact ⟨_, _, rfl, Nat.le_refl _, fun _ => ⟨hS0, hk⟩, fun _ => rfl⟩
          · exact .inr ⟨b', _, e, rfl, hn, ⟨r, by simp [hcl]⟩, fun h => by cases h⟩
        · cases hso
      · cases hso
    · rename_i vr i sz p'
      split at hso
      rotate_left
      · cases hso
      rename_i hcond
      obtain ⟨rfl, rfl, hkf⟩ := hcond
      split at hso
      rotate_left
      · cases hso
      rename_i u hset
      split at hso
      rotate_left
      · cases hso
      rename_i l' hls
      cases hso
      obtain ⟨k', ver', l0, hl0, _, _, hpt⟩ := ha
      rw [hu] at hl0; cases hl0
      obtain ⟨b', hb', rfl⟩ := hpt rfl
      obtain ⟨cs, e, r, hheap, hcs⟩ := kQ H (k := k) (ver := vr) (l := l) (by rw [hu]; rfl) hb'
      obtain ⟨x, us, y, hcell, hx, hl, hnew⟩ := VC_set (VC_nth X l i) hset hcv
      obtain ⟨e1, e2, x2, y2, hflat, hx2, hflat', _⟩ := wA hls hS0 hnew
      refine ⟨_, mO (x := x2 ++ x) (us := us) (y := y ++ (y2 ++ r)) hT hf hv hheap (by rw [hcs, hflat, hcell]; simp) (by simp [offs, hx, hx2]) hl, lT H hu hb' hheap (hnS _ hb' hkf) ?_ ?_ (fun h => by cases h) (fun Y hY hYS E hn => ?_) (fun Y _ _ _ _ _ => rfl)⟩
      · rw [← Array.length_toList (xs := cs), hcs, hflat, hcell]; simp only [List.size_toArray, List.length_append, hl]; omega
      · intro k0 ver0 l0 h0
        simp only [rowO, Option.some.injEq, Prod.mk.injEq] at h0
        obtain ⟨rfl, rfl, rfl⟩ := h0
        exact ⟨_, _, rfl, Nat.le_refl _, fun _ => ⟨e1, e2⟩, fun _ => rfl⟩
      · exact .inr ⟨b', _, e, rfl, hn, ⟨r, by rw [hflat']; simp⟩, fun h => absurd h hkf⟩
    · cases hso
  · cases hso
end
end Lam
set_option linter.unusedVariables false
set_option linter.unnecessarySimpa false
set_option linter.unusedSectionVars false
set_option linter.unusedSimpArgs false
namespace Lam
open Go

section
variable {P : Program} {X : Cx}

theorem tR {w w' : World} (h : w'.heap = w.heap) (a : Addr) : w'.cell? a = w.cell? a := by unfold World.cell?; rw [h]

theorem lU {l : Lst} (h : l.len = 0) : l.flat = [] := by
  apply List.eq_nil_of_length_eq_zero; rw [Lst.flat_length, h, Nat.zero_mul]

theorem kM {ys : Lst} {cx : Value} (L : Lies X ys cx) {w' : World} (hw : w'.heap = X.w.heap) : (Builtin.firstCells ys.kind.size ys.len cx).run P w' = .ok ys.flat.toArray w' := by
  obtain ⟨a, cap, rfl, h1, h2, h3⟩ := L.lies
  by_cases hn : ys.len = 0
  · rw [hn, lU hn]
    cases a with
    | none => rfl
    | some ad => simp [Builtin.firstCells, loadCells, loadCellsFrom]
  · obtain ⟨b, o, rfl, hr⟩ := h3 hn
    refine run_firstCells_some w' _ _ _ _ _ ys.flat ys.flat_length fun j v hj => ?_
    rw [tR hw]; exact hr.add j v hj

theorem len_of {ys : Lst} {cx : Value} (L : Lies X ys cx) (w' : World) : (Builtin.lenOf cx).run P w' = .ok ys.len w' := by
  obtain ⟨a, cap, rfl, _⟩ := L.lies; rfl

/-- the second argument of an append: a slice, or a number of zeros -/
inductive gU (P : Program) (X : Cx) (e : LK) (U : TypeId) : Lst → Value → Prop where
  | sl (E2 : TypeId) (ys : Lst) (c : Value) (hu : P.underlying U = some (.slice E2)) (hk : ys.kind = e) (L : Lies X ys c) : gU P X e U ys c
  | zs (k k' : IntKind) (n : Int) (hu : P.underlying U = some (.int k)) (h0 : 0 ≤ n) (h1 : n ≤ 1099511627776) : gU P X e U (e.zeros n.toNat) (.int k' n)

theorem gU.kind {e : LK} {U : TypeId} {ys : Lst} {c : Value} (h : gU P X e U ys c) : ys.kind = e := by
  cases h with
  | sl E2 ys c hu hk L => exact hk
  | zs k k' n hu h0 h1 => exact fO e _

theorem rX {T U E ty : TypeId} {e : LK} {ys : Lst} {cx : Value} (hu : P.underlying T = some (.slice E)) (he : elB P E e = true) (A : gU P X e U ys cx) (base : Option Addr) (sLen sCap : Nat) (hroom : sLen + ys.len ≤ sCap) :
    (Builtin.append_ #[T, U] ty #[.slice base sLen sCap, cx]).run P X.w =
      ((match base with | some a => storeCells (a.add (sLen * e.size)) ys.flat | none => pure ()).run P X.w).andThen fun _ w' => .ok (.slice base (sLen + ys.len) sCap) w' := by
  obtain ⟨i, z, hi, hs, hb, hz, hzc⟩ := (elOk he).info
  have hes : (Go.sizeOf E).run P X.w = .ok e.size X.w := el_size he X.w
  cases A with
  | sl E2 ys c hu2 hk L =>
    have hfc := kM (P := P) L (w' := X.w) rfl
    rw [hk] at hfc
    have hlen := len_of (P := P) L X.w
    cases base <;> simp [Builtin.append_, run_underlying hu, run_underlying hu2, hes, hlen, hroom, hfc]
  | zs k k' n hu2 h0 h1 =>
    rw [fR] at hroom ⊢
    have wn : IntKind.i64.wrap n = n := by rw [IntKind.wrap_i64]; omega
    have n1 : ¬ n < 0 := by omega
    have n2 : ¬ (281474976710656 < n * (i.bytes : Int)) := by
      have h3 : (i.bytes : Int) ≤ 64 := by omega
      have h5 : n * (i.bytes : Int) ≤ n * 64 := Int.mul_le_mul_of_nonneg_left h3 h0
      omega
    have hzero : (zeroValue E).run P X.w = .ok z X.w := by simp [zeroValue, typeInfo, hi, hz]
    have hzs : z.cells.size = e.size := by rw [← Array.length_toList, hzc, Lst.cell_length, fO]
    have hfl : (Builtin.zeroCells z.cells n.toNat).toList = (e.zeros n.toNat).flat := by
      rw [← kR hzc]; simp [Builtin.zeroCells, madeCells, hzs]
    by_cases hn0 : n.toNat * e.size = 0
    · have hflat : (e.zeros n.toNat).flat = [] := List.eq_nil_of_length_eq_zero (by rw [Lst.flat_length, fR, fO]; exact hn0)
      cases base <;> simp [Builtin.append_, run_underlying hu, run_underlying hu2, hes, asInt, asIntOf, typeInfo, hi, wn, n1, n2, hroom, hn0, hflat]
    · cases base <;> simp [Builtin.append_, run_underlying hu, run_underlying hu2, hes, asInt, asIntOf, typeInfo, hi, wn, n1, n2, hroom, hn0, hzero, hfl]

theorem pW {T U E ty : TypeId} {e : LK} {ys : Lst} {cx : Value} (hu : P.underlying T = some (.slice E)) (he : elB P E e = true) (A : gU P X e U ys cx) (base : Option Addr) (sLen sCap : Nat) (olds : List Value)
    (ho : ∀ w', w'.heap = X.w.heap → (Builtin.firstCells e.size sLen (.slice base sLen sCap)).run P w' = .ok olds.toArray w')
    (hg : sCap < sLen + ys.len) (hroom : sLen + ys.len ≤ 1099511627776) :
    ∃ cap w' rest, sLen + ys.len ≤ cap ∧ Pushed X.w w' (.cells (olds ++ (ys.flat ++ rest)).toArray E) ∧ rest.length = (cap - (sLen + ys.len)) * e.size ∧
      (Builtin.append_ #[T, U] ty #[.slice base sLen sCap, cx]).run P X.w = .ok (.slice (some ⟨X.w.heap.size, 0, none⟩) (sLen + ys.len) cap) w' := by
  obtain ⟨i, z, hi, hs, hb, hz, hzc⟩ := (elOk he).info
  have hes : ∀ w, (Go.sizeOf E).run P w = .ok e.size w := fun w => el_size he w
  have hzs : z.cells.size = e.size := by rw [← Array.length_toList, hzc, Lst.cell_length, fO]
  have hzero : ∀ w, (zeroValue E).run P w = .ok z w := fun w => by simp [zeroValue, typeInfo, hi, hz]
  have hfit : Builtin.nextslicecap (sLen + ys.len) sCap * i.bytes ≤ 281474976710656 := growslice_fits hg (by
    have : (sLen + ys.len) * i.bytes ≤ 1099511627776 * 64 := Nat.mul_le_mul hroom hb
    omega)
  let cap := grownCap X.w (sLen + ys.len) sCap E
  refine ⟨cap, X.w.drew.alloc (.cells (olds ++ (ys.flat ++ (Builtin.zeroCells z.cells (cap - (sLen + ys.len))).toList)).toArray E), (Builtin.zeroCells z.cells (cap - (sLen + ys.len))).toList, grownCap_ge _ _ _ _, ⟨rfl, rfl, rfl, rfl⟩, ?_, ?_⟩
  · rw [Array.length_toList, size_zeroCells, hzs]
  have hn : ¬ (sLen + ys.len ≤ sCap) := by omega
  have hb0 : ∀ q : Prop, ¬ ((9223372036854775807 < ((sLen : Int) + (ys.len : Int))) ∧ q) := fun q h => by omega
  have h48' : ¬ (281474976710656 < Builtin.nextslicecap (sLen + ys.len) sCap * i.bytes) := by omega
  have ho' := ho X.w.drew rfl
  cases A with
  | sl E2 ys c hu2 hk L =>
    have hfc := kM (P := P) L (w' := X.w.drew) rfl
    rw [hk] at hfc
    have hlen := len_of (P := P) L X.w
    have hb1 : ¬ (9223372036854775807 < ((sLen : Int) + (ys.len : Int))) := by omega
    simp [Builtin.append_, run_underlying hu, run_underlying hu2, hes, hlen, hn, hb1, typeInfo, hi, h48', Question.forced, ho', hfc, hzero, newRow, cap, grownCap]
    congr 2
    apply Array.ext'
    simp
  | zs k k' n hu2 h0 h1 =>
    rw [fR] at hn h48' hb0 hg ⊢
    have wn : IntKind.i64.wrap n = n := by rw [IntKind.wrap_i64]; omega
    have n1 : ¬ n < 0 := by omega
    have n2 : ¬ (281474976710656 < n * (i.bytes : Int)) := by
      have h3 : (i.bytes : Int) ≤ 64 := by omega
      have h5 : n * (i.bytes : Int) ≤ n * 64 := Int.mul_le_mul_of_nonneg_left h3 h0
      omega
    have hfl : (Builtin.zeroCells z.cells n.toNat).toList = (e.zeros n.toNat).flat := by
      rw [← kR hzc]; simp [Builtin.zeroCells, madeCells, hzs]
    have hb1 : ¬ (9223372036854775807 < ((sLen : Int) + max n 0)) := by omega
    by_cases hn0 : n.toNat * e.size = 0
    · have hflat : (e.zeros n.toNat).flat = [] := List.eq_nil_of_length_eq_zero (by rw [Lst.flat_length, fR, fO]; exact hn0)
      simp [Builtin.append_, run_underlying hu, run_underlying hu2, hes, asInt, asIntOf, hn, hb1, typeInfo, hi, wn, n1, n2, h48', Question.forced, ho', hn0, hflat, hzero, newRow, cap, grownCap, fR]
      congr 2
      apply Array.ext'
      simp
    · simp [Builtin.append_, run_underlying hu, run_underlying hu2, hes, asInt, asIntOf, hn, hb1, typeInfo, hi, wn, n1, n2, h48', Question.forced, ho', hn0, hfl, hzero, newRow, cap, grownCap, fR]
      congr 2
      apply Array.ext'
      simp [hfl]
end
end Lam
set_option linter.unusedVariables false
set_option linter.unnecessarySimpa false
set_option linter.unusedSectionVars false
set_option linter.unusedSimpArgs false
namespace Lam
open Go

section
variable {P : Program} {X : Cx}

theorem rY {α β : Type} {l : List α} {f g : α → List β} (h : ∀ x ∈ l, f x = g x) : l.flatMap f = l.flatMap g := by
  rw [List.flatMap_def, List.flatMap_def, List.map_congr_left h]

theorem tG {f g : Nat → List Value} {n m : Nat} : (List.range (n + m)).flatMap (fun i => if i < n then f i else g (i - n)) = (List.range n).flatMap f ++ (List.range m).flatMap g := by
  rw [List.range_add, List.flatMap_append, List.flatMap_map]
  congr 1
  · apply rY
    intro i hi
    simp [List.mem_range.1 hi]
  · apply rY
    intro i hi
    have : ¬ (n + i < n) := by omega
    simp [this]

theorem lV {xs ys zs : Lst} (h : xs.app ys = some zs) : zs.len = xs.len + ys.len ∧ zs.kind = xs.kind ∧ ys.kind = xs.kind ∧ zs.flat = xs.flat ++ ys.flat := by
  have key : zs.len = xs.len + ys.len ∧ zs.kind = xs.kind ∧ ys.kind = xs.kind ∧ ∀ i, zs.cell i = if i < xs.len then xs.cell i else ys.cell (i - xs.len) := by
    unfold Lst.app at h
    split at h
    · split at h
      · rename_i k xs k' ys e; subst e; cases h
        refine ⟨by simp [Lst.len], rfl, rfl, fun i => ?_⟩
        simp only [Lst.cell, Lst.len, List.getD_eq_getElem?_getD, List.getElem?_append]
        split <;> rfl
      · cases h
    all_goals first | (cases h; done) | skip
    all_goals
      cases h
      refine ⟨by simp [Lst.len], rfl, rfl, fun i => ?_⟩
      simp only [Lst.cell, Lst.len, List.getD_eq_getElem?_getD, List.getElem?_append]
      split <;> rfl
  obtain ⟨h1, h2, h3, h4⟩ := key
  refine ⟨h1, h2, h3, ?_⟩
  unfold Lst.flat
  rw [h1, show zs.cell = fun i => if i < xs.len then xs.cell i else ys.cell (i - xs.len) from funext h4]
  exact tG

theorem cut_all (l : Lst) : l.cut 0 l.len = l := by cases l <;> simp [Lst.cut, Lst.len]

theorem tS (H : HR X) {s : Nat} (hd : X.h[s]? = some .dead) {l : Lst} {a : Option Addr} (hl : l.len = 0) : Good X (X.h.set s (.row .own 0 l)) (.sref false s 0 0 0) (.slice a 0 0) X.w := by
  have hs : s < X.h.length := (List.getElem?_eq_some_iff.1 hd).1
  have hmu := dead_mu H hd
  have hs2 : s < X.μ.length := by rw [H.len]; exact hs
  have U : Upd X ⟨X.S, X.μ.set s none, X.h.set s (.row .own 0 l), X.w⟩ s .dead (.row .own 0 l) none none :=
    { S := rfl, hh := rfl, mu := rfl, ho := hd, hb := hmu, heap := fun _ _ _ => rfl, grow := Nat.le_refl _, blk := .inl rfl, env := ⟨rfl, rfl, rfl⟩, own := fun k hk => (by cases hk), row := fun k ver l h => (by cases h), oth := fun _ => .inl rfl }
  refine ⟨⟨X.S, X.μ.set s none, X.h.set s (.row .own 0 l), X.w⟩, rfl, rfl, U.hr H fun E => .inl ⟨rfl, hl, by simp⟩, U.ext H, ?_⟩
  exact ⟨a, 0, 0, rfl, .own, 0, l, by simp [hs, rowO], Nat.le_refl _, fun _ => ⟨rfl, Nat.le_refl _, by simp, fun _ => rfl, fun _ => rfl, fun h => absurd rfl h⟩⟩

theorem rZ (H : HR X) {T U E ty : TypeId} {xs ys zs : Lst} {cs cx : Value} {n : Nat} (hu : P.underlying T = some (.slice E)) (he : elB P E xs.kind = true) (hd : X.h[n]? = some .dead)
    (L : Lies X xs cs) (hcap : ∃ a, cs = .slice a xs.len xs.len) (A : gU P X xs.kind U ys cx) (hz : xs.app ys = some zs) (hS : (0 < ys.len ∨ xs.len = 0) ∧ roomy zs.len) :
    ∃ r w', (Builtin.append_ #[T, U] ty #[cs, cx]).run P X.w = .ok r w' ∧ Good X (X.h.set n (.row .own 0 zs)) (.sref false n 0 0 zs.len) r w' := by
  obtain ⟨e1, e2, e3, e4⟩ := lV hz
  obtain ⟨hS1, hS2⟩ := hS
  unfold roomy at hS2
  obtain ⟨a, rfl⟩ := hcap
  by_cases hy : ys.len = 0
  · have hx0 : xs.len = 0 := by omega
    have := rX (P := P) (ty := ty) hu he A a xs.len xs.len (by omega)
    rw [lU hy] at this
    refine ⟨.slice a 0 0, X.w, ?_, ?_⟩
    · rw [this, hx0, hy]; cases a <;> simp [storeCells]
    · have h0 : zs.len = 0 := by omega
      rw [h0]; exact tS H hd h0
  · obtain ⟨cap, w', rest, h1, h2, h3, h4⟩ := pW (P := P) (ty := ty) hu he A a xs.len xs.len xs.flat (fun w' hw => kM L hw) (by omega) (by omega)
    refine ⟨_, w', h4, ?_⟩
    have := qS H hd (l := zs) (cs := (xs.flat ++ (ys.flat ++ rest)).toArray) (r := rest) (E := E) (n := xs.len + ys.len) (cap := cap) (x := false) h2 (by simp [e4]) (by omega) h1 (by
      simp only [List.size_toArray, List.length_append, Lst.flat_length, h3, e2, e3]
      rw [← Nat.add_assoc, ← Nat.add_mul, ← Nat.add_mul]; exact Nat.mul_le_mul_right _ (by omega)) (by simp)
    rwa [e1]

/-- the second argument, from its value -/
theorem vJ (H : HR X) {T U ty : TypeId} {d : TyD} {s x : AV} {cs cx : Value} {n : Nat} {S : Prop} {v : AV} {news : List AObj} (hT : tyB P d T = true) (hs : VV X s cs) (hd : X.h[n]? = some .dead)
    (A : ∀ e ys, d = .slice e → x.list X.h = some ys → ys.kind = e → gU P X e U ys cx) (h : appendD d X.h s x n = some (S, v, news)) (hS : S) :
    ∃ o r w', news = [o] ∧ (Builtin.append_ #[T, U] ty #[cs, cx]).run P X.w = .ok r w' ∧ Good X (X.h.set n o) v r w' := by
  have fin : ∀ xs, Lies X xs cs → (∃ a, cs = .slice a xs.len xs.len) → d = .slice xs.kind → (someD (x.list X.h) fun ys => gS xs ys n) = some (S, v, news) →
      ∃ o r w', news = [o] ∧ (Builtin.append_ #[T, U] ty #[cs, cx]).run P X.w = .ok r w' ∧ Good X (X.h.set n o) v r w' := by
    intro xs L hc hdx hq
    subst hdx
    obtain ⟨E, hu, he⟩ := fV hT
    cases hy : x.list X.h with
    | none => simp [hy, someD] at hq
    | some ys =>
      simp only [hy, someD, gS] at hq
      cases hz : xs.app ys with
      | none => simp [hz] at hq
      | some zs =>
        simp only [hz, Option.some.injEq, Prod.mk.injEq] at hq
        obtain ⟨rfl, rfl, rfl⟩ := hq
        obtain ⟨r, w', h1, h2⟩ := rZ (P := P) (ty := ty) H hu he hd L hc (A _ ys rfl hy (lV hz).2.2.1) hz hS
        exact ⟨_, r, w', rfl, h1, h2⟩
  unfold appendD at h
  split at h
  · rename_i xs
    have h2 := (dI h).2
    have hk := mN (dI h).1
    obtain ⟨a, cap, rfl, g1, g2, g3, g4⟩ := id hs
    exact fin xs (iM H hs rfl) ⟨a, by rw [g2 rfl]⟩ hk h2
  · rename_i id ver off len
    split at h
    rotate_left
    · cases h
    have h2 := (dI h).2
    obtain ⟨k, ver', l, hrow, hdl⟩ := jQ (dI h).1
    clear h
    cases hl : listO (X.h[id]?) ver off len with
    | none => rw [hl] at h2; cases h2
    | some xs =>
      rw [hl] at h2
      simp only [someD] at h2
      have L : Lies X xs cs := iM H hs hl
      obtain ⟨k', l0, hrow', rfl⟩ := tN hl
      rw [hrow] at hrow'; cases hrow'
      obtain ⟨a, m, cap, rfl, k2, ver2, l2, hl2, _, g⟩ := hs
      rw [hrow] at hl2; cases hl2
      obtain ⟨rfl, g1, g2, g3, _⟩ := g rfl
      have hlen : (l.cut off m).len = m := by rw [cut_len]; omega
      exact fin _ L ⟨a, by rw [hlen, g3 rfl]⟩ (by rw [iL]; exact hdl) h2
  · cases h

theorem vK (H : HR X) {T U ty : TypeId} {d : TyD} {s x : AV} {cs cx : Value} {id : Nat} {o' : AObj} {S : Prop} {v : AV} (hT : tyB P d T = true) (hs : VV X s cs)
    (A : ∀ e ys, d = .slice e → x.list X.h = some ys → ys.kind = e → gU P X e U ys cx) (h : appendH d X.h s x = some (S, v, id, o')) (hS : S) :
    ∃ r w', (Builtin.append_ #[T, U] ty #[cs, cx]).run P X.w = .ok r w' ∧ Good X (X.h.set id o') v r w' := by
  unfold appendH at h
  split at h
  rotate_left
  · cases h
  rename_i id0 ver off len
  split at h
  rotate_left
  · cases h
  rename_i hfit
  obtain ⟨k, ver', l, hrow, rfl⟩ := jQ hfit
  have ho := gK hrow
  obtain ⟨E, hu, he⟩ := fV hT
  unfold appendO at h
  split at h
  rotate_left
  · cases h
  rename_i ver2 l2 ys hrow2 hlist
  rw [ho] at hrow2
  cases hrow2
  split at h
  rotate_left
  · cases h
  rename_i hver
  subst hver
  split at h
  rotate_left
  · cases h
  rename_i zs hz
  cases h
  obtain ⟨rfl, rfl, hroomy⟩ := hS
  unfold roomy at hroomy
  obtain ⟨e1, e2, e3, e4⟩ := lV hz
  have A' := A _ ys rfl hlist e3
  have L : Lies X l cs := by
    have := iM H hs (l := l) (by simp only [AV.list, listO, ho, if_true, cut_all])
    exact this
  have hs0 := hs
  obtain ⟨a, m, cap, rfl, k2, ver2, l3, hl3, _, g⟩ := hs0
  rw [hrow] at hl3; cases hl3
  obtain ⟨rfl, g1, g2, _, g4, g5⟩ := g rfl
  obtain ⟨b0, hb0, hor⟩ := H.obj _ _ ho
  have hnS : ∀ b, b0 = some b → ¬ X.S b := fun b hb hS => by
    subst hb
    obtain ⟨_, _, h⟩ := (H.live _ _ hb0).2 hS; rw [ho] at h; cases h
  have hid : id < X.h.length := (List.getElem?_eq_some_iff.1 ho).1
  have hidm : id < X.μ.length := by rw [H.len]; exact hid
  by_cases hg : l.len + ys.len ≤ cap
  · have hr := rX (P := P) (ty := ty) hu he A' a l.len cap hg
    by_cases hc0 : cap = 0
    · have hl0 : l.len = 0 := by omega
      have hy0 : ys.len = 0 := by omega
      rw [lU hy0] at hr
      refine ⟨.slice a 0 0, X.w, ?_, ?_⟩
      · rw [hr, hl0, hy0, hc0]; cases a <;> simp [storeCells]
      · have U : Upd X ⟨X.S, X.μ.set id b0, X.h.set id (.row .own (ver + 1) zs), X.w⟩ id (.row .own ver l) (.row .own (ver + 1) zs) b0 b0 :=
          { S := rfl, hh := rfl, mu := rfl, ho := ho, hb := hb0, heap := fun _ _ _ => rfl, grow := Nat.le_refl _, blk := .inl rfl, env := SameEnv.refl _, own := hnS
            row := fun k v l' h => by
              simp only [rowO, Option.some.injEq, Prod.mk.injEq] at h
              obtain ⟨rfl, rfl, rfl⟩ := h
              exact ⟨_, _, rfl, Nat.le_succ _, fun e => by omega, fun h => absurd rfl h⟩
            oth := fun h => by cases h }
        have hz0 : zs.len = 0 := by omega
        refine ⟨⟨X.S, X.μ.set id b0, X.h.set id (.row .own (ver + 1) zs), X.w⟩, rfl, rfl, U.hr H fun E => ?_, U.ext H, ?_⟩
        · rcases hor with ⟨h1, _, h3⟩ | ⟨b', cs', el, h1, h2, ⟨r, hr'⟩, h3⟩
          · exact .inl ⟨h1, hz0, h3⟩
          · exact .inr ⟨b', cs', el, h1, h2, ⟨r, by rw [hr', lU hl0, lU hz0]⟩, fun h => by cases h⟩
        · rw [hz0]
          exact ⟨a, 0, 0, rfl, .own, ver + 1, zs, by simp [hid, rowO], Nat.le_refl _, fun _ => ⟨rfl, Nat.le_refl _, by simp, fun _ => rfl, fun _ => rfl, fun h => absurd rfl h⟩⟩
    · obtain ⟨b, hb, rfl, hz2⟩ := g5 hc0
      rw [hb] at hb0; cases hb0
      obtain ⟨cur, el, r, hheap, hcur⟩ := kQ H hrow hb
      simp only [Nat.zero_mul, Nat.zero_add] at hz2
      have hbs : cap * l.kind.size ≤ l.flat.length + r.length := by
        have : dO X.w b = cur.size := by unfold dO; rw [hheap]
        rw [this, ← Array.length_toList, hcur, List.length_append] at hz2; exact hz2
      have hyl : ys.flat.length ≤ r.length := by
        have h1 : (l.len + ys.len) * l.kind.size ≤ cap * l.kind.size := Nat.mul_le_mul_right _ hg
        rw [Nat.add_mul] at h1
        rw [Lst.flat_length] at hbs
        rw [Lst.flat_length, e3]; omega
      have hst := lB (P := P) (w := X.w) (g := b) (o := l.len * l.kind.size) (a := l.flat) (us := r.take ys.flat.length) (b := r.drop ys.flat.length) (vs := ys.flat) hheap (by rw [hcur, List.take_append_drop]) l.flat_length
        (by rw [List.length_take]; omega) (oI ys)
      refine ⟨.slice (some ⟨b, 0, none⟩) (l.len + ys.len) cap, X.w.setRow b (l.flat ++ (ys.flat ++ r.drop ys.flat.length)).toArray, ?_, ?_⟩
      · rw [hr]; simp only [Nat.zero_mul, Addr.add_lit, Nat.zero_add, hst, Result.andThen_ok]
      · refine lT H ho hb hheap (hnS b rfl) ?_ (fun k v l' h => ?_) (fun h => by cases h) (fun Y hY _ E' hn => .inr ⟨b, _, el, rfl, hn, ⟨r.drop ys.flat.length, by simp [e4]⟩, fun h => by cases h⟩) (fun Y hY E' hμ hh hbs' => ?_)
        · rw [← Array.length_toList (xs := cur), hcur]; simp only [List.size_toArray, List.length_append, List.length_drop]; omega
        · simp only [rowO, Option.some.injEq, Prod.mk.injEq] at h
          obtain ⟨rfl, rfl, rfl⟩ := h
          exact ⟨_, _, rfl, Nat.le_succ _, fun e => by omega, fun h => absurd rfl h⟩
        · refine ⟨_, _, _, rfl, .own, ver + 1, zs, by rw [hh]; rfl, Nat.le_refl _, fun _ => ⟨e1.symm, by omega, by simp, fun h => (by cases h), fun h => (by cases h), fun _ => ⟨b, by rw [hμ]; exact hb, by simp, ?_⟩⟩⟩
          rw [hbs', Nat.zero_add, e2, ← Array.length_toList, hcur, List.length_append]; exact hbs
  · obtain ⟨cap', w', rest, h1, h2, h3, h4⟩ := pW (P := P) (ty := ty) hu he A' a l.len cap l.flat (fun w' hw => by
      have := kM (P := P) L hw
      obtain ⟨a', cap', heq, _⟩ := L.lies
      exact this) (by omega) (by omega)
    refine ⟨_, w', h4, ?_⟩
    obtain ⟨h2, henv⟩ := h2
    have hnew : w'.heap[X.w.heap.size]? = some (.cells (l.flat ++ (ys.flat ++ rest)).toArray E) := by rw [h2]; simp
    have U : Upd X ⟨X.S, X.μ.set id (some X.w.heap.size), X.h.set id (.row .own (ver + 1) zs), w'⟩ id (.row .own ver l) (.row .own (ver + 1) zs) b0 (some X.w.heap.size) :=
      { S := rfl, hh := rfl, mu := rfl, ho := ho, hb := hb0
        heap := fun k hk _ => by simp only [h2, Array.getElem?_push]; rw [if_neg (by omega)]
        grow := by simp [h2]
        blk := .inr ⟨_, rfl, Nat.le_refl _, by simp [h2]⟩
        own := hnS
        env := henv
        row := fun k v l' h => by
          simp only [rowO, Option.some.injEq, Prod.mk.injEq] at h
          obtain ⟨rfl, rfl, rfl⟩ := h
          exact ⟨_, _, rfl, Nat.le_succ _, fun e => by omega, fun h => absurd rfl h⟩
        oth := fun h => by cases h }
    refine ⟨_, rfl, rfl, U.hr H fun E' => .inr ⟨_, _, E, rfl, hnew, ⟨rest, by simp [e4]⟩, fun h => by cases h⟩, U.ext H, ?_⟩
    refine ⟨_, _, _, rfl, .own, ver + 1, zs, by simp [hid, rowO], Nat.le_refl _, fun _ => ⟨e1.symm, by omega, by simp, fun h => (by cases h), fun h => (by cases h), fun _ => ⟨_, by simp [hidm]; rfl, by simp, ?_⟩⟩⟩
    simp only [dO, hnew, List.size_toArray, List.length_append, Lst.flat_length, h3, e2, e3]
    rw [← Nat.add_assoc, ← Nat.add_mul, ← Nat.add_mul]; exact Nat.mul_le_mul_right _ (by omega)
end
end Lam
set_option linter.unusedVariables false
set_option linter.unnecessarySimpa false
set_option linter.unusedSectionVars false
set_option linter.unusedSimpArgs false
namespace Lam
open Go

section
variable {P : Program} {X : Cx}

theorem nH (l : Lst) (a n : Nat) : (l.cut a n).flat = (l.flat.drop (a * l.kind.size)).take (n * l.kind.size) := by
  have hs := l.kind.size_pos
  apply List.ext_getElem?
  intro p
  have hlen := (l.cut a n).flat_length
  rw [cut_len, iL] at hlen
  by_cases hp : p < min n (l.len - a) * l.kind.size
  · have hq : p / l.kind.size < min n (l.len - a) := Nat.div_lt_of_lt_mul (by rwa [Nat.mul_comm])
    have hm : p % l.kind.size < l.kind.size := Nat.mod_lt _ hs
    have h1 := (l.cut a n).flat_get (i := p / l.kind.size) (j := p % l.kind.size) (by rw [cut_len]; exact hq) (by rw [iL]; exact hm)
    rw [iL, Nat.div_add_mod', vV _ _ _ _ (Nat.lt_of_lt_of_le hq (Nat.min_le_left _ _))] at h1
    have h0 : a + p / l.kind.size < l.len := by
      generalize p / l.kind.size = q at hq
      omega
    have h2 := l.flat_get (i := a + p / l.kind.size) (j := p % l.kind.size) h0 hm
    have e : (a + p / l.kind.size) * l.kind.size + p % l.kind.size = a * l.kind.size + p := by
      rw [Nat.add_mul, Nat.add_assoc, Nat.div_add_mod']
    rw [e] at h2
    have hp2 : p < n * l.kind.size := Nat.lt_of_lt_of_le hp (Nat.mul_le_mul_right _ (by omega))
    rw [h1, ← h2, List.getElem?_take, if_pos hp2, List.getElem?_drop]
  · rw [List.getElem?_eq_none (by omega), List.getElem?_eq_none]
    rw [List.length_take, List.length_drop, Lst.flat_length]
    have : min (n * l.kind.size) (l.len * l.kind.size - a * l.kind.size) ≤ min n (l.len - a) * l.kind.size := by
      rw [← Nat.sub_mul]
      rcases Nat.le_total n (l.len - a) with h | h
      · rw [Nat.min_eq_left h]; omega
      · rw [Nat.min_eq_right h]; omega
    omega

theorem Lies.take {l : Lst} {c : Value} (L : Lies X l c) (n : Nat) (hn : n ≤ l.len) {w' : World} (hw : w'.heap = X.w.heap) : (Builtin.firstCells l.kind.size n c).run P w' = .ok (l.cut 0 n).flat.toArray w' := by
  obtain ⟨a, cap, rfl, h1, h2, h3⟩ := L.lies
  have hfl : (l.cut 0 n).flat.length = n * l.kind.size := by rw [Lst.flat_length, cut_len, iL]; congr 1; omega
  by_cases hz : n = 0
  · subst hz
    have : (l.cut 0 0).flat = [] := List.eq_nil_of_length_eq_zero (by rw [hfl, Nat.zero_mul])
    rw [this]
    cases a with
    | none => rfl
    | some ad => simp [Builtin.firstCells, loadCells, loadCellsFrom]
  · obtain ⟨b, o, rfl, hr⟩ := h3 (by omega)
    have := oK (a := 0) (n := n) hr
    rw [Nat.zero_mul, Nat.add_zero] at this
    refine run_firstCells_some w' _ _ _ _ _ _ hfl fun j v hj => ?_
    rw [tR hw]; exact this.add j v hj

/-- the elements from a place on become others -/
theorem tT {l ys l' : Lst} {off len : Nat} (h : l.over off len ys = some l') (hol : off + len ≤ l.len) : l'.len = l.len ∧ l'.kind = l.kind ∧ ys.kind = l.kind ∧
    l'.flat = l.flat.take (off * l.kind.size) ++ ((ys.cut 0 (min len ys.len)).flat ++ l.flat.drop ((off + min len ys.len) * l.kind.size)) := by
  unfold Lst.over at h
  split at h
  · rename_i z hz
    obtain ⟨a1, a2, a3, a4⟩ := lV hz
    obtain ⟨b1, b2, b3, b4⟩ := lV h
    simp only [cut_len, iL] at a1 a2 a3 b1 b2 b3
    refine ⟨by omega, b2.trans a2, a3, ?_⟩
    rw [b4, a4, nH l 0 off, nH l (off + min len ys.len)]
    have e1 : (ys.cut 0 len).flat = (ys.cut 0 (min len ys.len)).flat := by
      rw [nH, nH]
      simp only [Nat.zero_mul, List.drop_zero]
      rcases Nat.le_total len ys.len with h | h
      · rw [Nat.min_eq_left h]
      · rw [Nat.min_eq_right h, List.take_of_length_le, List.take_of_length_le]
        · rw [Lst.flat_length]; exact Nat.le_refl _
        · rw [Lst.flat_length]; exact Nat.mul_le_mul_right _ h
    rw [e1]
    simp only [Nat.zero_mul, List.drop_zero, List.append_assoc]
    congr 2
    apply List.take_of_length_le
    rw [List.length_drop, Lst.flat_length, ← Nat.sub_mul]
    exact Nat.le_refl _
  · cases h

/-- a row, part of which is written -/
theorem tU (H : HR X) {id ver off len : Nat} {k : RK} {l l' ys : Lst} {x : Bool} {a : Option Addr} {n cap : Nat} {v : AV} {c : Value} (hrow : rowO (X.h[id]?) = some (k, ver, l)) (hk : k ≠ .fro)
    (hs : VV X (.sref x id ver off len) (.slice a n cap)) (h : l.over off len ys = some l') (hv : ∀ Y, VV Y v c) :
    n = len ∧ ∃ w', (match a with | some ad => storeCells ad (ys.cut 0 (min len ys.len)).flat | none => pure ()).run P X.w = .ok () w' ∧ Good X (X.h.set id (.row k ver l')) v c w' := by
  have ho := gK hrow
  obtain ⟨a', n', cap', heq, k2, ver2, l2, hl2, _, g⟩ := hs
  cases heq
  rw [hrow] at hl2; cases hl2
  obtain ⟨rfl, g1, g2, g3, g4, g5⟩ := g rfl
  refine ⟨rfl, ?_⟩
  obtain ⟨e1, e2, e3, e4⟩ := tT h g2
  obtain ⟨b0, hb0, hor⟩ := H.obj _ _ ho
  have hnS : ∀ b, b0 = some b → ¬ X.S b := fun b hb hS => by
    subst hb
    obtain ⟨_, _, h⟩ := (H.live _ _ hb0).2 hS; rw [ho] at h; cases h; exact hk rfl
  have hid : id < X.h.length := (List.getElem?_eq_some_iff.1 ho).1
  have hcl := (ys.cut 0 (min n ys.len)).flat_length
  rw [cut_len, iL, e3] at hcl
  have hcl : (ys.cut 0 (min n ys.len)).flat.length = min n ys.len * l.kind.size := by rw [hcl]; congr 1; omega
  by_cases hc0 : cap = 0
  · have hn0 : n = 0 := by omega
    subst hn0
    have hys : (ys.cut 0 (min 0 ys.len)).flat = [] := List.eq_nil_of_length_eq_zero (by rw [hcl]; simp)
    have hfl : l'.flat = l.flat := by rw [e4, hys]; simp
    rw [hys]
    refine ⟨X.w, by cases a <;> simp [storeCells], ?_⟩
    have U : Upd X ⟨X.S, X.μ.set id b0, X.h.set id (.row k ver l'), X.w⟩ id (.row k ver l) (.row k ver l') b0 b0 :=
      { S := rfl, hh := rfl, mu := rfl, ho := ho, hb := hb0, heap := fun _ _ _ => rfl, grow := Nat.le_refl _, blk := .inl rfl, env := SameEnv.refl _, own := hnS
        row := fun k v l0 h => by
          simp only [rowO, Option.some.injEq, Prod.mk.injEq] at h
          obtain ⟨rfl, rfl, rfl⟩ := h
          exact ⟨_, _, rfl, Nat.le_refl _, fun _ => ⟨e1, e2, rfl, fun _ _ => Nat.le_refl _⟩, fun _ => rfl⟩
        oth := fun h => by cases h }
    refine ⟨⟨X.S, X.μ.set id b0, X.h.set id (.row k ver l'), X.w⟩, rfl, rfl, U.hr H fun E => ?_, U.ext H, hv _⟩
    rcases hor with ⟨h1, h2, h3⟩ | ⟨b', cs', el, h1, h2, ⟨r, hr'⟩, h3⟩
    · exact .inl ⟨h1, by omega, h3⟩
    · exact .inr ⟨b', cs', el, h1, h2, ⟨r, by rw [hr', hfl]⟩, h3⟩
  · obtain ⟨b, hb, rfl, hz2⟩ := g5 hc0
    rw [hb] at hb0; cases hb0
    obtain ⟨cur, el, r, hheap, hcur⟩ := kQ H hrow hb
    have hmm : min n ys.len * l.kind.size ≤ l.flat.length - off * l.kind.size := by
      rw [Lst.flat_length, ← Nat.sub_mul]; exact Nat.mul_le_mul_right _ (by omega)
    have hoff : off * l.kind.size ≤ l.flat.length := by rw [Lst.flat_length]; exact Nat.mul_le_mul_right _ (by omega)
    have hsplit : l.flat = l.flat.take (off * l.kind.size) ++ ((l.flat.drop (off * l.kind.size)).take (min n ys.len * l.kind.size) ++ l.flat.drop ((off + min n ys.len) * l.kind.size)) := by
      rw [Nat.add_mul, ← List.drop_drop, List.take_append_drop, List.take_append_drop]
    have hst := lB (P := P) (w := X.w) (g := b) (o := off * l.kind.size) (a := l.flat.take (off * l.kind.size)) (us := (l.flat.drop (off * l.kind.size)).take (min n ys.len * l.kind.size))
      (b := l.flat.drop ((off + min n ys.len) * l.kind.size) ++ r) (vs := (ys.cut 0 (min n ys.len)).flat) hheap
      (by have h9 := congrArg (· ++ r) hsplit
          simp only [List.append_assoc] at h9
          rw [hcur]; exact h9) (by rw [List.length_take]; omega)
      (by rw [hcl, List.length_take, List.length_drop]; omega) (oI _)
    refine ⟨_, hst, lT H ho hb hheap (hnS b rfl) ?_ (fun k v l0 h => ?_) (fun h => by cases h) (fun Y hY hS E' hn => .inr ⟨b, _, el, rfl, hn, ⟨r, by simp [e4]⟩, fun h => absurd h hk⟩) (fun Y _ _ _ _ _ => hv Y)⟩
    · rw [← Array.length_toList (xs := cur), hcur]
      have := congrArg List.length hsplit
      simp only [List.length_append] at this
      simp only [List.size_toArray, List.length_append, hcl]
      rw [this]
      have : ((l.flat.drop (off * l.kind.size)).take (min n ys.len * l.kind.size)).length = min n ys.len * l.kind.size := by rw [List.length_take, List.length_drop]; omega
      rw [this]; omega
    · simp only [rowO, Option.some.injEq, Prod.mk.injEq] at h
      obtain ⟨rfl, rfl, rfl⟩ := h
      exact ⟨_, _, rfl, Nat.le_refl _, fun _ => ⟨e1, e2⟩, fun _ => rfl⟩

theorem zN (H : HR X) {T U ty : TypeId} {d : TyD} {s x : AV} {cs cx : Value} {id : Nat} {o' : AObj} {S : Prop} {v : AV} (hT : tyB P d T = true) (hs : VV X s cs) (hx : VV X x cx)
    (h : copyH d X.h s x = some (S, v, id, o')) (hS : S) : ∃ r w', (Builtin.copy_ #[T, U] ty #[cs, cx]).run P X.w = .ok r w' ∧ Good X (X.h.set id o') v r w' := by
  unfold copyH at h
  split at h
  rotate_left
  · cases h
  rename_i y id0 ver off len
  split at h
  rotate_left
  · cases h
  rename_i hfit
  obtain ⟨k, ver', l, hrow, rfl⟩ := jQ hfit
  obtain ⟨E, hu, he⟩ := fV hT
  unfold copyO at h
  split at h
  rotate_left
  · cases h
  rename_i k2 ver2 l2 ys hrow2 hlist
  rw [gK hrow] at hrow2
  cases hrow2
  split at h
  rotate_left
  · cases h
  rename_i hc
  obtain ⟨rfl, hkf⟩ := hc
  split at h
  rotate_left
  · cases h
  rename_i l' hov
  cases h
  have L := iM H hx hlist
  have hs0 := hs
  obtain ⟨a, n, cap, rfl, k3, ver3, l3, hl3, _, g⟩ := hs0
  rw [hrow] at hl3; cases hl3
  obtain ⟨rfl, g1, g2, g3, g4, g5⟩ := g rfl
  obtain ⟨_, w', hst, hgood⟩ := tU (P := P) (v := .int .i64 (min n ys.len : Nat)) (c := .int .i64 (min n ys.len : Nat)) H hrow hkf hs hov (fun Y => rfl)
  refine ⟨_, w', ?_, hgood⟩
  have hk := (tT hov g2).2.2.1
  have hmin : Nat.min ys.len n = min n ys.len := Nat.min_comm _ _
  have hf := L.take (P := P) (min n ys.len) (by omega) (w' := X.w) rfl
  rw [hk] at hf
  have hln := len_of (P := P) L X.w
  have hes : (Go.sizeOf E).run P X.w = .ok l.kind.size X.w := el_size he X.w
  cases a with
  | none =>
    have hst : X.w = w' := by simpa using hst
    subst hst
    simp [Builtin.copy_, run_underlying hu, hln, hes, hmin, hf, goInt]
  | some ad => simp [Builtin.copy_, run_underlying hu, hln, hes, hmin, hf, hst, goInt]

theorem yB (H : HR X) {T ty : TypeId} {d : TyD} {s : AV} {cs : Value} {id : Nat} {o' : AObj} {S : Prop} {v : AV} (hT : tyB P d T = true) (hs : VV X s cs)
    (h : clearH d X.h s = some (S, v, id, o')) (hS : S) : ∃ r w', (Builtin.clear_ #[T] ty #[cs]).run P X.w = .ok r w' ∧ Good X (X.h.set id o') v r w' := by
  unfold clearH at h
  split at h
  rotate_left
  · cases h
  rename_i y id0 ver off len
  split at h
  rotate_left
  · cases h
  rename_i hfit
  obtain ⟨k, ver', l, hrow, rfl⟩ := jQ hfit
  obtain ⟨E, hu, he⟩ := fV hT
  unfold clearO at h
  split at h
  rotate_left
  · cases h
  rename_i k2 ver2 l2 hrow2
  rw [gK hrow] at hrow2
  cases hrow2
  split at h
  rotate_left
  · cases h
  rename_i hc
  obtain ⟨rfl, hkf⟩ := hc
  split at h
  rotate_left
  · cases h
  rename_i l' hov
  cases h
  have hs0 := hs
  obtain ⟨a, n, cap, rfl, k3, ver3, l3, hl3, _, g⟩ := hs0
  rw [hrow] at hl3; cases hl3
  obtain ⟨rfl, g1, g2, g3, g4, g5⟩ := g rfl
  obtain ⟨_, w', hst, hgood⟩ := tU (P := P) (v := .tup []) (c := .tuple #[]) H hrow hkf hs hov (fun Y => by simp only [VV]; exact ⟨#[], rfl, by simp [VVs]⟩)
  obtain ⟨i, z, hi, hsz, hb, hz, hzc⟩ := (elOk he).info
  have hzero : (zeroValue E).run P X.w = .ok z X.w := by simp [zeroValue, typeInfo, hi, hz]
  have hzs : z.cells.size = l.kind.size := by rw [← Array.length_toList, hzc, Lst.cell_length, fO]
  have hfl : (Builtin.zeroCells z.cells n).toList = (l.kind.zeros n).flat := by
    rw [← kR hzc]; simp [Builtin.zeroCells, madeCells, hzs]
  have hcut : ((l.kind.zeros n).cut 0 (min n (l.kind.zeros n).len)).flat = (l.kind.zeros n).flat := by
    rw [fR, Nat.min_self]
    have := cut_all (l.kind.zeros n)
    rw [fR] at this
    rw [this]
  rw [hcut] at hst
  refine ⟨_, w', ?_, hgood⟩
  cases a with
  | none =>
    have hst : X.w = w' := by simpa using hst
    subst hst
    simp [Builtin.clear_, run_underlying hu]
  | some ad =>
    by_cases hn : n = 0
    · subst hn
      have hnil : (l.kind.zeros 0).flat = [] := List.eq_nil_of_length_eq_zero (by rw [Lst.flat_length, fR]; simp)
      rw [hnil] at hst
      have hst : X.w = w' := by simpa [storeCells] using hst
      subst hst
      simp [Builtin.clear_, run_underlying hu]
    · obtain ⟨m, rfl⟩ : ∃ m, n = m + 1 := ⟨n - 1, by omega⟩
      simp [Builtin.clear_, run_underlying hu, hzero, hfl, hst]
end
end Lam
set_option linter.unusedVariables false
set_option linter.unnecessarySimpa false
set_option linter.unusedSectionVars false
set_option linter.unusedSimpArgs false
namespace Lam
open Go

section
variable {P : Program} {X : Cx}

/-- a key and its type -/
inductive KeyOk (P : Program) (K : TypeId) : Value → Prop where
  | int (n : Int) (hu : P.underlying K = some (.int .i64)) : KeyOk P K (.int .i64 n)
  | str (s : Bytes) (hu : P.underlying K = some .string) : KeyOk P K (.string (bstr s))

/-- of one sort -/
inductive KeysOk : Value → List MapEntry → Prop where
  | int (n : Int) (es : List MapEntry) (h : ∀ e ∈ es, ∃ k, e.key = .int .i64 k) : KeysOk (.int .i64 n) es
  | str (s : Bytes) (es : List MapEntry) (h : ∀ e ∈ es, ∃ k, e.key = .string (bstr k)) : KeysOk (.string (bstr s)) es

def findE (k : Value) : List MapEntry → Nat → Option (Nat × Value)
  | [], _ => none
  | e :: r, i => if keyEq k e.key = true then some (i, e.val) else findE k r (i + 1)

theorem KeysOk.tail {k : Value} {e : MapEntry} {es : List MapEntry} (h : KeysOk k (e :: es)) : KeysOk k es := by
  cases h with
  | int n es h => exact .int _ _ fun e he => h e (by simp [he])
  | str n es h => exact .str _ _ fun e he => h e (by simp [he])

theorem wD (a b : Bytes) : (bstr a == bstr b) = decide (a = b) := by
  rw [beq_toListBytes, fX, fX, Bool.eq_iff_iff]; simp

theorem sA {K : TypeId} {d : TypeDesc} {k : Value} (hK : KeyOk P K k) (hu : P.underlying K = some d) : ∀ {es : List MapEntry} (i : Nat), KeysOk k es → Instr.findNow d k es i = some (findE k es i)
  | [], i, _ => rfl
  | e :: r, i, h => by
    have ih := sA hK hu (es := r) (i + 1) h.tail
    have hs : Instr.sameNow d k e.key = some (keyEq k e.key) := by
      cases hK with
      | int n hu' =>
        rw [hu] at hu'; cases hu'
        cases h with
        | int n es h => obtain ⟨j, hj⟩ := h e (by simp); rw [hj]; simp only [Instr.sameNow, keyEq, if_true]; congr 1
      | str s hu' =>
        rw [hu] at hu'; cases hu'
        generalize hq : Value.string (bstr s) = q at h
        cases h with
        | int n es h => cases hq
        | str s' es h =>
          cases hq
          obtain ⟨j, hj⟩ := h e (by simp); rw [hj]
          simp only [Instr.sameNow, keyEq]
          congr 1
          rw [wD]; rfl
    simp only [Instr.findNow, hs, findE]
    cases keyEq k e.key
    · simpa using ih
    · rfl

theorem sB {k z : Value} : ∀ (es : List MapEntry) (i : Nat), lookE k z es = match findE k es i with | some (_, v) => v | none => z
  | [], _ => rfl
  | e :: r, i => by
    simp only [lookE, findE]
    split
    · rfl
    · exact sB r (i + 1)

theorem mP {K : TypeId} {k : Value} (h : KeyOk P K k) (b : Bool) (w : World) : (Instr.checkKey b 10000 K k).run P w = .ok () w := by
  have key : ∀ n, (Instr.checkKey b (n + 1) K k).run P w = .ok () w := fun n => by
    cases h with
    | int n hu => simp only [Instr.checkKey, Sem.run_bind, run_underlying hu, Result.andThen_ok, Sem.run_pure]
    | str s hu => simp only [Instr.checkKey, Sem.run_bind, run_underlying hu, Result.andThen_ok, Sem.run_pure]
  exact key 9999

theorem nI {K : TypeId} {k : Value} (h : KeyOk P K k) {es : List MapEntry} (he : KeysOk k es) (w : World) : (Instr.findKey K k es).run P w = .ok (findE k es 0) w := by
  have key : ∀ d, P.underlying K = some d → (Instr.findKey K k es).run P w = .ok (findE k es 0) w := fun d hu => by
    simp only [Instr.findKey, Sem.run_bind, run_underlying hu, Result.andThen_ok, sA h hu 0 he, Sem.run_pure]
  cases h with
  | int n hu => exact key _ hu
  | str s hu => exact key _ hu

theorem kH {w : World} {r : Nat} {es : Array MapEntry} {ck : Nat} (h : w.heap[r]? = some (.map es ck)) : (getObj r).run P w = .ok (.map es ck) w := by
  simp [getObj, Sem.run, h]

theorem lJ {T K E : TypeId} {k z : Value} {r : Nat} {es : Array MapEntry} {ck : Nat} (hu : P.underlying T = some (.map K E)) (hk : KeyOk P K k) (hE : (zeroValue E).run P X.w = .ok z X.w)
    (hr : X.w.heap[r]? = some (.map es ck)) (he : KeysOk k es.toList) : (Instr.lookup T (.map (some r)) k false).run P X.w = .ok (lookE k z es.toList) X.w := by
  simp only [Instr.lookup, Sem.run_bind, run_underlying hu, Result.andThen_ok, kH hr, Sem.run_pure, mP hk, nI hk he]
  rw [sB es.toList 0]
  cases findE k es.toList 0 with
  | none => simp [hE]
  | some p => rfl

theorem hH {m : MK} {K E : TypeId} (h : mapB P m K E = true) :
    (m = .sb → P.underlying K = some .string) ∧ (m ≠ .sb → P.underlying K = some (.int .i64)) ∧
    ∀ w, (zeroValue E).run P w = .ok (match m with | .ib => .bool false | .sb => .bool false | .ii => .int .i64 0 | .ifn => .nilFunc) w := by
  unfold mapB at h
  simp only [Bool.and_eq_true] at h
  obtain ⟨h1, h2⟩ := h
  refine ⟨?_, ?_, ?_⟩
  · rintro rfl
    split at h1 <;> simp_all
  · intro hm
    split at h1 <;> simp_all
  · intro w
    split at h2
    · cases h2
    · rename_i i hi
      split at h2 <;> first | cases h2 | skip
      all_goals (rename_i hz; simp [zeroValue, typeInfo, hi, hz])

theorem hX {d : TyD} {m : MK} (h : d.isMap m = true) : d = .map m := by
  unfold TyD.isMap at h
  split at h <;> first | rfl | cases h

theorem map_obj (H : HR X) {id b : Nat} {m : MapC} (h : X.h[id]? = some (.map m)) (hb : X.μ[id]? = some (some b)) : ∃ es ck, X.w.heap[b]? = some (.map es ck) ∧ MapR m es := by
  obtain ⟨b0, hb0, b', es, ck, rfl, h1, h2⟩ := H.obj _ _ h
  rw [hb] at hb0; cases hb0
  exact ⟨es, ck, h1, h2⟩

theorem aBB (f : Option FuncId) : VV X (fnOpt f) (fnV f) := by
  cases f with
  | none => exact (rfl : _ = _)
  | some f => simp only [fnOpt, fnV, VV]; exact ⟨#[], #[], rfl, by simp [VVs], by simp [VVs]⟩

theorem wE (H : HR X) {T : TypeId} {d : TyD} {x k : AV} {c ck : Value} {S : Prop} {v : AV} {news : List AObj} (hT : tyB P d T = true) (hx : VV X x c) (hk : VV X k ck)
    (h : lookupD d X.h x k = some (S, v, news)) (hS : S) : news = [] ∧ Pure P (Instr.lookup T c ck false) X v := by
  unfold lookupD at h
  split at h
  rotate_left
  · cases h
  rename_i id
  obtain ⟨b, hb, rfl, _⟩ : ∃ b, X.μ[id]? = some (some b) ∧ c = .map (some b) ∧ rowO (X.h[id]?) = none := hx
  unfold lookupO at h
  split at h
  · rename_i m n ho
    have h2 := (dI h).2
    obtain rfl := hX (dI h).1
    obtain ⟨rfl, rfl, rfl⟩ := pD_inv h2
    obtain rfl : ck = .int .i64 n := hk
    obtain ⟨K, E, hu, hm⟩ := ty_map hT
    obtain ⟨_, k2, k3⟩ := hH hm
    obtain ⟨es, ck, hr, hM⟩ := map_obj H ho hb
    exact ⟨rfl, _, lJ hu (.int n (k2 (by simp))) (k3 _) hr (.int _ _ hM.1), hM.2 n⟩
  · rename_i m n ho
    have h2 := (dI h).2
    obtain rfl := hX (dI h).1
    obtain ⟨rfl, rfl, rfl⟩ := pD_inv h2
    obtain rfl : ck = .int .i64 n := hk
    obtain ⟨K, E, hu, hm⟩ := ty_map hT
    obtain ⟨_, k2, k3⟩ := hH hm
    obtain ⟨es, ck, hr, hM⟩ := map_obj H ho hb
    exact ⟨rfl, _, lJ hu (.int n (k2 (by simp))) (k3 _) hr (.int _ _ hM.1), hM.2 n⟩
  · rename_i m n ho
    have h2 := (dI h).2
    obtain rfl := hX (dI h).1
    obtain ⟨rfl, rfl, rfl⟩ := pD_inv h2
    obtain rfl : ck = .int .i64 n := hk
    obtain ⟨K, E, hu, hm⟩ := ty_map hT
    obtain ⟨_, k2, k3⟩ := hH hm
    obtain ⟨es, ck, hr, hM⟩ := map_obj H ho hb
    refine ⟨rfl, _, lJ hu (.int n (k2 (by simp))) (k3 _) hr (.int _ _ hM.1), ?_⟩
    rw [hM.2 n]; exact aBB _
  · rename_i m n ho
    have h2 := (dI h).2
    obtain rfl := hX (dI h).1
    obtain ⟨rfl, rfl, rfl⟩ := pD_inv h2
    obtain rfl : ck = .string (bstr n) := hk
    obtain ⟨K, E, hu, hm⟩ := ty_map hT
    obtain ⟨k1, _, k3⟩ := hH hm
    obtain ⟨es, ck, hr, hM⟩ := map_obj H ho hb
    exact ⟨rfl, _, lJ hu (.str n (k1 rfl)) (k3 _) hr (.str _ _ hM.1), hM.2 n⟩
  · cases h
end
end Lam
set_option linter.unusedVariables false
set_option linter.unnecessarySimpa false
set_option linter.unusedSectionVars false
set_option linter.unusedSimpArgs false
namespace Lam
open Go

section
variable {P : Program} {X : Cx}

theorem aBC {k : Value} {e : MapEntry} {es : List MapEntry} (h : KeysOk k es) (he : e ∈ es) (hk : keyEq k e.key = true) : e.key = k := by
  cases h with
  | int n es h => obtain ⟨j, hj⟩ := h e he; rw [hj] at hk ⊢; simp [keyEq] at hk; rw [hk]
  | str n es h =>
    obtain ⟨j, hj⟩ := h e he; rw [hj] at hk ⊢
    simp only [keyEq, decide_eq_true_eq] at hk
    have : n = j := by simpa [bstr] using hk
    rw [this]

theorem sC {k : Value} : ∀ {es : List MapEntry} {i j : Nat} {v : Value}, findE k es i = some (j, v) → ∃ pre e post, es = pre ++ e :: post ∧ j = i + pre.length ∧ keyEq k e.key = true ∧ e.val = v ∧ ∀ p ∈ pre, keyEq k p.key = false
  | [], _, _, _, h => by cases h
  | e :: r, i, j, v, h => by
    simp only [findE] at h
    split at h
    · rename_i hk; cases h; exact ⟨[], e, r, rfl, rfl, hk, rfl, by simp⟩
    · rename_i hk
      obtain ⟨pre, e', post, rfl, h2, h3, h4, h5⟩ := sC h
      refine ⟨e :: pre, e', post, rfl, by simp; omega, h3, h4, fun p hp => ?_⟩
      rcases List.mem_cons.1 hp with rfl | hp
      · simpa using hk
      · exact h5 p hp

theorem sD {k : Value} : ∀ {es : List MapEntry} {i : Nat}, findE k es i = none → ∀ p ∈ es, keyEq k p.key = false
  | [], _, _ => by simp
  | e :: r, i, h => by
    simp only [findE] at h
    split at h
    · cases h
    · rename_i hk
      intro p hp
      rcases List.mem_cons.1 hp with rfl | hp
      · simpa using hk
      · exact sD h p hp

theorem oN {q z : Value} : ∀ {pre post : List MapEntry}, (∀ p ∈ pre, keyEq q p.key = false) → lookE q z (pre ++ post) = lookE q z post
  | [], _, _ => rfl
  | p :: pre, post, h => by
    simp only [List.cons_append, lookE, h p (by simp), Bool.false_eq_true, if_false]
    exact oN fun x hx => h x (by simp [hx])

theorem sE {q z : Value} {e e' : MapEntry} {post : List MapEntry} (h : keyEq q e.key = false) (h' : keyEq q e'.key = false) : ∀ pre : List MapEntry, lookE q z (pre ++ e' :: post) = lookE q z (pre ++ e :: post)
  | [] => by simp [lookE, h, h']
  | p :: pre => by simp only [List.cons_append, lookE, sE h h' pre]

theorem sF {q z : Value} {e : MapEntry} (h : keyEq q e.key = false) : ∀ es : List MapEntry, lookE q z (es ++ [e]) = lookE q z es
  | [] => by simp [lookE, h]
  | p :: es => by simp only [List.cons_append, lookE, sF h es]

theorem vL {k : Value} (h : ∃ K, KeyOk P K k) : Instr.sameBits 10000 k k = true := by
  obtain ⟨K, h⟩ := h
  cases h with
  | int n hu => simp [Instr.sameBits]
  | str s hu => simp only [Instr.sameBits, wD, decide_true]

theorem mW {w : World} {r : Nat} {es : Array MapEntry} {ck : Nat} (h : w.heap[r]? = some (.map es ck)) (o : Obj) : (setObj r o).run P w = .ok () { w with heap := w.heap.setIfInBounds r o } := by
  simp [setObj, Sem.run, h]

theorem set_run {T K E : TypeId} {k : Value} {r : Nat} {es : Array MapEntry} {ck : Nat} (val : Value) (hu : P.underlying T = some (.map K E)) (hk : KeyOk P K k)
    (hr : X.w.heap[r]? = some (.map es ck)) (he : KeysOk k es.toList) :
    ∃ es' ck', (Instr.mapUpdate T (.map (some r)) k val).run P X.w = .ok () { X.w with heap := X.w.heap.setIfInBounds r (.map es' ck') } ∧
      (∀ e ∈ es'.toList, e.key = k ∨ ∃ e0 ∈ es.toList, e.key = e0.key) ∧ (∀ z, lookE k z es'.toList = val) ∧ ∀ q z, keyEq q k = false → lookE q z es'.toList = lookE q z es.toList := by
  have hkk : keyEq k k = true := by cases hk <;> simp [keyEq]
  cases hf : findE k es.toList 0 with
  | none =>
    have hno := sD hf
    refine ⟨es.push { key := k, val := val, born := ck }, ck + 1, ?_, ?_, ?_⟩
    · simp only [Instr.mapUpdate, Sem.run_bind, run_underlying hu, Result.andThen_ok, kH hr, mP hk, nI hk he, hf, mW hr]
    · intro e hmem
      rw [Array.toList_push] at hmem
      rcases List.mem_append.1 hmem with h | h
      · exact .inr ⟨e, h, rfl⟩
      · rw [List.mem_singleton.1 h]; exact .inl rfl
    · refine ⟨fun z => ?_, fun q z hq => ?_⟩
      · rw [Array.toList_push, oN hno]; simp [lookE, hkk]
      · rw [Array.toList_push, sF hq]
  | some p =>
    obtain ⟨j, v⟩ := p
    obtain ⟨pre, e, post, hes, hj, hke, hv, hpre⟩ := sC hf
    have hmem : e ∈ es.toList := by rw [hes]; simp
    have hkey := aBC he hmem hke
    simp only [Nat.zero_add] at hj
    have hget : es[j]? = some e := by rw [← Array.getElem?_toList, hes, hj]; simp
    have hmod : (es.modify j fun e => { e with key := k, val := val }).toList = pre ++ { e with key := k, val := val } :: post := by
      rw [Array.toList_modify, hes, hj]
      apply List.ext_getElem?
      intro m
      rw [List.getElem?_modify]
      by_cases hm : m < pre.length
      · have e1 : ¬ pre.length = m := by omega
        rw [List.getElem?_append_left hm, List.getElem?_append_left hm]; simp [e1]
      · rw [List.getElem?_append_right (by omega), List.getElem?_append_right (by omega)]
        by_cases hm2 : m = pre.length
        · subst hm2; simp
        · have e1 : ¬ pre.length = m := by omega
          obtain ⟨x, hx⟩ : ∃ x, m - pre.length = x + 1 := ⟨m - pre.length - 1, by omega⟩
          rw [hx]; simp [e1]
    refine ⟨es.modify j fun e => { e with key := k, val := val }, ck, ?_, ?_, ?_⟩
    · have hsame := vL (P := P) (k := k) ⟨K, hk⟩
      simp only [Instr.mapUpdate, Sem.run_bind, run_underlying hu, Result.andThen_ok, kH hr, mP hk, nI hk he, hf, hget, Option.map_some, Option.getD_some, hkey, Instr.keyThatStays, hsame, if_true, Sem.run_pure, mW hr]
    · intro x hx
      rw [hmod] at hx
      rcases List.mem_append.1 hx with h | h
      · exact .inr ⟨x, by rw [hes]; simp [h], rfl⟩
      · rcases List.mem_cons.1 h with rfl | h
        · exact .inl rfl
        · exact .inr ⟨x, by rw [hes]; simp [h], rfl⟩
    · refine ⟨fun z => ?_, fun q z hq => ?_⟩
      · rw [hmod, oN hpre]; simp [lookE, hkk]
      · rw [hmod, hes]
        exact sE (by rw [hkey]; exact hq) hq pre

/-- a map whose object is written -/
theorem kN (H : HR X) {id b : Nat} {m m' : MapC} {es es' : Array MapEntry} {ck ck' : Nat} (ho : X.h[id]? = some (.map m)) (hb : X.μ[id]? = some (some b)) (hg : X.w.heap[b]? = some (.map es ck)) (hM : MapR m' es') :
    Good X (X.h.set id (.map m')) .und undef { X.w with heap := X.w.heap.setIfInBounds b (.map es' ck') } := by
  have hlt : b < X.w.heap.size := (Array.getElem?_eq_some_iff.1 hg).1
  have U : Upd X ⟨X.S, X.μ.set id (some b), X.h.set id (.map m'), { X.w with heap := X.w.heap.setIfInBounds b (.map es' ck') }⟩ id (.map m) (.map m') (some b) (some b) :=
    { S := rfl, hh := rfl, mu := rfl, ho := ho, hb := hb
      heap := fun k _ hk => by
        simp only [Array.getElem?_setIfInBounds]
        rw [if_neg (fun e => hk (by rw [e]))]
      grow := by simp
      blk := .inl rfl
      env := ⟨rfl, rfl, rfl⟩, own := fun k hk hS => by
        cases hk
        obtain ⟨_, _, h⟩ := (H.live _ _ hb).2 hS; rw [ho] at h; cases h
      row := fun k ver l h => by cases h
      oth := fun _ => .inr ⟨rfl, rfl⟩ }
  refine ⟨⟨X.S, X.μ.set id (some b), X.h.set id (.map m'), { X.w with heap := X.w.heap.setIfInBounds b (.map es' ck') }⟩, rfl, rfl, U.hr H fun E => ⟨b, es', ck', rfl, ?_, hM⟩, U.ext H, rfl⟩
  simp [hlt]

theorem setInt {es es' : Array MapEntry} {n : Int} (hkeys : ∀ e ∈ es.toList, ∃ k, e.key = .int .i64 k)
    (h1 : ∀ e ∈ es'.toList, e.key = .int .i64 n ∨ ∃ e0 ∈ es.toList, e.key = e0.key) : ∀ e ∈ es'.toList, ∃ k, e.key = .int .i64 k := by
  intro e he
  rcases h1 e he with h | ⟨e0, h0, h⟩
  · exact ⟨n, h⟩
  · obtain ⟨k, hk⟩ := hkeys e0 h0; exact ⟨k, by rw [h, hk]⟩

theorem oO (H : HR X) {T : TypeId} {d : TyD} {x k v : AV} {c ck cv : Value} {S : Prop} {id : Nat} {o' : AObj} (hT : tyB P d T = true) (hx : VV X x c) (hk : VV X k ck) (hv : VV X v cv)
    (h : mapSetH d X.h x k v = some (S, id, o')) (hS : S) : ∃ w', (Instr.mapUpdate T c ck cv).run P X.w = .ok () w' ∧ Good X (X.h.set id o') .und undef w' := by
  unfold mapSetH at h
  split at h
  rotate_left
  · cases h
  rename_i id0
  obtain ⟨b, hb, rfl, _⟩ : ∃ b, X.μ[id0]? = some (some b) ∧ c = .map (some b) ∧ rowO (X.h[id0]?) = none := hx
  split at h
  rotate_left
  · cases h
  rename_i m' hm'
  cases h
  unfold mapSetO at hm'
  split at hm'
  · rename_i m n q ho
    split at hm'
    · rename_i hd
      cases hm'
      obtain rfl := hX hd
      obtain rfl : ck = .int .i64 n := hk
      obtain rfl : cv = .bool q := hv
      obtain ⟨K, E, hu, hm⟩ := ty_map hT
      obtain ⟨_, k2, k3⟩ := hH hm
      obtain ⟨es, ck0, hr, hM⟩ := map_obj H ho hb
      obtain ⟨es', ck', g1, g2, g3, g4⟩ := set_run (P := P) (.bool q) hu (.int n (k2 (by simp))) hr (.int _ _ hM.1)
      refine ⟨_, g1, kN H ho hb hr ⟨setInt hM.1 g2, fun j => ?_⟩⟩
      by_cases e : j = n
      · subst e; rw [g3]; dsimp only; rw [if_pos rfl]
      · rw [g4 _ _ (by simpa [keyEq] using e), hM.2 j]; dsimp only; rw [if_neg e]
    · cases hm'
  · rename_i m n q ho
    split at hm'
    · rename_i hd
      cases hm'
      obtain rfl := hX hd
      obtain rfl : ck = .int .i64 n := hk
      obtain rfl : cv = .int .i64 q := hv
      obtain ⟨K, E, hu, hm⟩ := ty_map hT
      obtain ⟨_, k2, k3⟩ := hH hm
      obtain ⟨es, ck0, hr, hM⟩ := map_obj H ho hb
      obtain ⟨es', ck', g1, g2, g3, g4⟩ := set_run (P := P) (.int .i64 q) hu (.int n (k2 (by simp))) hr (.int _ _ hM.1)
      refine ⟨_, g1, kN H ho hb hr ⟨setInt hM.1 g2, fun j => ?_⟩⟩
      by_cases e : j = n
      · subst e; rw [g3]; dsimp only; rw [if_pos rfl]
      · rw [g4 _ _ (by simpa [keyEq] using e), hM.2 j]; dsimp only; rw [if_neg e]
    · cases hm'
  · rename_i m n f ho
    split at hm'
    · rename_i hd
      cases hm'
      obtain rfl := hX hd
      obtain rfl : ck = .int .i64 n := hk
      obtain rfl : cv = fnV (some f) := by
        simp only [VV] at hv
        obtain ⟨a, d, rfl, h1, h2⟩ := hv
        simp only [VVs, Array.toList_eq_nil_iff] at h1 h2
        subst h1 h2; rfl
      obtain ⟨K, E, hu, hm⟩ := ty_map hT
      obtain ⟨_, k2, k3⟩ := hH hm
      obtain ⟨es, ck0, hr, hM⟩ := map_obj H ho hb
      obtain ⟨es', ck', g1, g2, g3, g4⟩ := set_run (P := P) (fnV (some f)) hu (.int n (k2 (by simp))) hr (.int _ _ hM.1)
      refine ⟨_, g1, kN H ho hb hr ⟨setInt hM.1 g2, fun j => ?_⟩⟩
      by_cases e : j = n
      · subst e; rw [g3]; dsimp only; rw [if_pos rfl]
      · rw [g4 _ _ (by simpa [keyEq] using e), hM.2 j]; dsimp only; rw [if_neg e]
    · cases hm'
  · rename_i m n q ho
    split at hm'
    · rename_i hd
      cases hm'
      obtain rfl := hX hd
      obtain rfl : ck = .string (bstr n) := hk
      obtain rfl : cv = .bool q := hv
      obtain ⟨K, E, hu, hm⟩ := ty_map hT
      obtain ⟨k1, _, k3⟩ := hH hm
      obtain ⟨es, ck0, hr, hM⟩ := map_obj H ho hb
      obtain ⟨es', ck', g1, g2, g3, g4⟩ := set_run (P := P) (.bool q) hu (.str n (k1 rfl)) hr (.str _ _ hM.1)
      refine ⟨_, g1, kN H ho hb hr ⟨fun e he => ?_, fun j => ?_⟩⟩
      · rcases g2 e he with h | ⟨e0, h0, h⟩
        · exact ⟨n, h⟩
        · obtain ⟨k, hk⟩ := hM.1 e0 h0; exact ⟨k, by rw [h, hk]⟩
      · by_cases e : j = n
        · subst e; rw [g3]; dsimp only; rw [if_pos rfl]
        · have hq : keyEq (.string (bstr j)) (.string (bstr n)) = false := decide_eq_false (by simpa [bstr] using e)
          rw [g4 _ _ hq, hM.2 j]; dsimp only; rw [if_neg e]
    · cases hm'
  · cases hm'
end
end Lam
set_option linter.unusedVariables false
set_option linter.unnecessarySimpa false
set_option linter.unusedSectionVars false
set_option linter.unusedSimpArgs false
namespace Lam
open Go

/-- what an operation comes to: what must hold, its value, what it makes, what it changes -/
abbrev DR := Option (Prop × AV × List AObj × Option (Nat × AObj))

def ofD (x : D) : DR :=
  match x with
  | some (S, v, news) => some (S, v, news, none)
  | none => none
def ofH (x : Option (Prop × Nat × AObj)) : DR :=
  match x with
  | some (S, id, o) => some (S, .und, [], some (id, o))
  | none => none
def ofM (x : Option (Prop × AV × Nat × AObj)) : DR :=
  match x with
  | some (S, v, id, o) => some (S, v, [], some (id, o))
  | none => none
def ofDM (x : D) (y : Option (Prop × AV × Nat × AObj)) : DR :=
  match x with
  | some d => ofD (some d)
  | none => ofM y
def andDR (p : Prop) (x : DR) : DR :=
  match x with
  | some (S, r) => some (p ∧ S, r)
  | none => none
def whenDR (b : Bool) (x : DR) : DR :=
  match b with
  | true => x
  | false => none
def allocDR (d : TyD) (s : Nat) : DR := some (zeroP d, .ptr s [], [boxO d.zero], none)
def boxDR (d : TyD) (v : AV) (s : Nat) : DR := some (fitP d v, .ptr s [], [boxO v], none)

def callDR (la : Option Nat) (x : Option (Bool × D)) (rows : List Nat) (s : Nat) (h : List AObj) : DR :=
  match x with
  | some (true, some (S, v, news)) => some (S, v.shift s, news, none)
  | some (false, some (S, v, _)) => match v.noSl with
    | true => some (S, v, [], none)
    | false => match rows with
      | [] => some (S, v, [], none)
      | [id] => match decide (la = some id) with
        | true => some (S, v, [], (h[id]?).map fun o => (id, froO o))
        | false => none
      | _ => none
  | _ => none

def callFD (mt : Bool) (c : Ctx) (s : Nat) (f : AV) (args : List AV) (h : List AObj) : DR :=
  match f with
  | .fn (.func f) first cap => callDR (lastId mt args) (iK c f (AV.vals h (first ++ args ++ cap))) (AV.rowss (first ++ args ++ cap)) s h
  | _ => none

def iD (d e : TyD) (s x : AV) (h : List AObj) (n : Nat) : DR :=
  match e with
  | .slice _ => ofDM (appendD d h s x n) (appendH d h s x)
  | .int _ => match x with
    | .int .i64 m => andDR (0 ≤ m ∧ m ≤ 1099511627776) (ofDM (appendD d h s (zeroSl d m) n) (appendH d h s (zeroSl d m)))
    | _ => none
  | _ => none

def gY (b : Builtin) (ds : List TyD) (args : List AV) (h : List AObj) (n : Nat) : DR :=
  match b, ds, args with
  | .len, [d], [v] => ofD (lenD d h v)
  | .min, _, [x, y] => ofD (minD x y)
  | .max, _, [x, y] => ofD (maxD x y)
  | .append, [d, e], [s, x] => iD d e s x h n
  | .copy, [ty, _], [d, s] => ofM (copyH ty h d s)
  | .clear, [ty], [d] => ofM (clearH ty h d)
  | _, _, _ => none

def argVs (c : Ctx) (t : List (Nat × AV)) (cl : Call) : List AV := (cl.args.toList.zip cl.argTypes.toList).map fun p => ev t (c.tab p.2) p.1

/-- s: the place of what it makes -/
def opD (c : Ctx) (apps : List Nat) (s : Nat) (t : List (Nat × AV)) (h : List AObj) (op : Op) (type : TypeId) : DR :=
  match op with
  | .move x => some (True, ev t (c.tab type) x, [], none)
  | .assign x => some (True, ev t (c.tab type) x, [], none)
  | .pick cnd a b => ofD (pickD (ev t .bool cnd) (ev t .bool a) (ev t .bool b))
  | .alloc T => allocDR (c.tab T) s
  | .box T x => boxDR (c.tab T) (ev t (c.tab T) x) s
  | .build T parts => ofD (buildD (c.tab T) (parts.toList.map fun p => (p.1, ev t ((c.tab T).field p.1) p.2)))
  | .buildSlice T n parts => ofD (fB (c.tab T) n (parts.toList.map fun p => (p.1, ev t .other p.2)) s)
  | .load T a => ofD (fitD (c.tab T) (loadD h (ev t .ptr a)))
  | .store T a v => ofH (storeH (c.tab T) h (ev t .ptr a) (ev t (c.tab T) v))
  | .nilCheck x => ofD (aY (ev t .ptr x))
  | .binOp op xt x y _ => match iB y, op with
    | true, .eql => none
    | _, _ => ofD (binD (c.tab xt) op (ev t (c.tab xt) x) (ev t (c.tab xt) y))
  | .unOp op _ x => ofD (unD op (ev t .bool x))
  | .convert s d x => ofD (convD h (c.tab s) (c.tab d) (ev t (c.tab s) x))
  | .makeInterface T x => whenDR (c.tab T).known (some (True, .iface T (ev t (c.tab T) x), [], none))
  | .makeFunc fn first cap => some (True, .fn fn (first.toList.map (ev t .other)) (cap.toList.map (ev t .other)), [], none)
  | .makeMap T none => ofD (gG (c.tab T) s)
  | .makeSlice T l cp => ofD (gC (c.tab T) (ev t (.int .i64) l) (ev t (.int .i64) cp) s)
  | .slice T x lo hi mx => ofD (sliceD (c.tab T) h (ev t (c.tab T) x) (lo.map (ev t (.int .i64))) (hi.map (ev t (.int .i64))) (mx.map (ev t (.int .i64))))
  | .fieldAddr T x f => ofD (aB (c.tab T) (ev t .ptr x) f)
  | .field T x f => ofD (fieldD (c.tab T) (ev t (c.tab T) x) f)
  | .indexAddr T x i => ofD (aF (c.tab T) h (ev t (c.tab T) x) (ev t (.int .i64) i))
  | .index T x i => ofD (indexD (c.tab T) (ev t (c.tab T) x) (ev t (.int .i64) i))
  | .lookup T x k false => ofD (lookupD (c.tab T) h (ev t .other x) (ev t (.int .i64) k))
  | .mapUpdate T x k v => ofH (mapSetH (c.tab T) h (ev t .other x) (ev t (.int .i64) k) (ev t .other v))
  | .insert T x k v => ofH (mapSetH (c.tab T) h (ev t .other x) (ev t (.int .i64) k) (ev t .other v))
  | .extract x i => ofD (bH (ev t .other x) i)
  | .call cl => match Nat.beq cl.args.toList.length cl.argTypes.toList.length with
    | false => none
    | true => match cl.callee with
      | .builtin b => gY b (cl.argTypes.toList.map c.tab) (argVs c t cl) h s
      | .value f => callFD (appArg apps cl.args.toList) c s (ev t .func f) (argVs c t cl) h
      | _ => none
  | _ => none

/-- an object changes -/
def mutate (h : List AObj) (m : Option (Nat × AObj)) : List AObj :=
  match m with
  | some (id, o) => h.set id o
  | none => h

def OkD (x : DR) (h : List AObj) (K : AV → List AObj → Prop) : Prop := ∃ S v news mm, x = some (S, v, news, mm) ∧ S ∧ K v (mutate (h ++ news) mm)

theorem okD_D {x : D} {h : List AObj} {K : AV → List AObj → Prop} (hr : runD x h K) : OkD (ofD x) h K := by
  unfold runD at hr; split at hr
  · exact ⟨_, _, _, _, rfl, hr.1, hr.2⟩
  · exact hr.elim
theorem okD_H {x : Option (Prop × Nat × AObj)} {h : List AObj} {K : AV → List AObj → Prop} (hr : runH x h K) : OkD (ofH x) h K := by
  unfold runH at hr; split at hr
  · exact ⟨_, _, _, _, rfl, hr.1, by simpa [mutate] using hr.2⟩
  · exact hr.elim
theorem okD_M {x : Option (Prop × AV × Nat × AObj)} {h : List AObj} {K : AV → List AObj → Prop} (hr : runM x h K) : OkD (ofM x) h K := by
  unfold runM at hr; split at hr
  · exact ⟨_, _, _, _, rfl, hr.1, by simpa [mutate] using hr.2⟩
  · exact hr.elim
theorem okD_DM {x : D} {y : Option (Prop × AV × Nat × AObj)} {h : List AObj} {K : AV → List AObj → Prop} (hr : runDM x y h K) : OkD (ofDM x y) h K := by
  unfold runDM at hr; split at hr
  · exact ⟨_, _, _, _, rfl, hr.1, hr.2⟩
  · exact okD_M hr
theorem okD_and {p : Prop} {x : DR} {h : List AObj} {K : AV → List AObj → Prop} (hp : p) (hr : OkD x h K) : OkD (andDR p x) h K := by
  obtain ⟨S, v, news, mm, rfl, hS, hK⟩ := hr
  exact ⟨_, _, _, _, rfl, ⟨hp, hS⟩, hK⟩

theorem zO {d e : TyD} {s x : AV} {h : List AObj} {K : AV → List AObj → Prop} (hr : appendW d e s x h K) : OkD (iD d e s x h h.length) h K := by
  unfold appendW at hr; split at hr
  · exact okD_DM hr
  · split at hr
    · exact okD_and hr.1 (okD_DM hr.2)
    · exact hr.elim
  · exact hr.elim

theorem yC {b : Builtin} {ds : List TyD} {args : List AV} {h : List AObj} {K : AV → List AObj → Prop} (hr : qM b ds args h K) : OkD (gY b ds args h h.length) h K := by
  unfold qM at hr; split at hr
  · exact okD_D hr
  · exact okD_D hr
  · exact okD_D hr
  · exact zO hr
  · exact okD_M hr
  · exact okD_M hr
  · exact hr.elim

/-- what opD does not tell -/
inductive Spec (c : Ctx) (apps : List Nat) (t : List (Nat × AV)) (h : List AObj) (op : Op) (K KP : AV → List AObj → Prop) : Prop
  | nilEq (xt : TypeId) (x y : Operand) (b : TypeId) (hop : op = .binOp .eql xt x y b) (hn : iB y = true) (hs : (c.tab xt).slc = true) (hk : nilEqO ((ev t (c.tab xt) x).len (c.tab xt) h) h K)
  | panic (x : Operand) (hop : op = .panic x) (hk : panW (ev t .iface x) h KP)
  | call (cl : Call) (f : Operand) (hop : op = .call cl) (hcal : cl.callee = .value f) (hl : cl.args.toList.length = cl.argTypes.toList.length)
      (hk : callW (appArg apps cl.args.toList) c (ev t .func f) (argVs c t cl) h K KP)

theorem opW_D {c : Ctx} {apps : List Nat} {t : List (Nat × AV)} {h : List AObj} {op : Op} {type : TypeId} {K KP : AV → List AObj → Prop} (hw : opW c apps t h op type K KP) :
    OkD (opD c apps h.length t h op type) h K ∨ Spec c apps t h op K KP := by
  unfold opW at hw
  split at hw
  case h_1 => exact .inl ⟨_, _, _, _, rfl, trivial, by simpa [mutate] using hw⟩
  case h_2 => exact .inl ⟨_, _, _, _, rfl, trivial, by simpa [mutate] using hw⟩
  case h_4 => exact .inl ⟨_, _, _, _, rfl, hw.1, by simpa [mutate] using hw.2⟩
  case h_5 => exact .inl ⟨_, _, _, _, rfl, hw.1, by simpa [mutate] using hw.2⟩
  case h_11 xt x y b =>
    cases hn : iB y with
    | false =>
      simp only [hn] at hw
      simp only [opD, hn]
      exact .inl (okD_D hw)
    | true =>
      rename_i op
      by_cases ho : op = .eql
      · subst ho
        simp only [hn] at hw
        cases hs : (c.tab xt).slc with
        | false => simp only [hs, whenP] at hw
        | true => simp only [hs, whenP] at hw; exact .inr (.nilEq xt x y b rfl hn hs hw)
      · simp only [opD, hn]
        cases op <;> first | exact absurd rfl ho | (simp only [hn] at hw; exact .inl (okD_D hw))
  case h_14 T x =>
    unfold opD
    cases hk : (c.tab T).known with
    | false => simp only [hk, whenP] at hw
    | true => simp only [hk, whenP] at hw; exact .inl ⟨True, .iface T (ev t (c.tab T) x), [], none, by simp only [hk, whenDR], trivial, by simpa [mutate] using hw⟩
  case h_15 => exact .inl ⟨_, _, _, _, rfl, trivial, by simpa [mutate] using hw⟩
  case h_27 x => exact .inr (.panic x rfl hw)
  case h_28 cl =>
    split at hw
    · exact hw.elim
    · rename_i hl
      split at hw
      · rename_i b hc
        simp only [opD, hl, hc]; exact .inl (yC hw)
      · rename_i f hc
        exact .inr (.call cl f rfl hc (Nat.eq_of_beq_eq_true hl) hw)
      · exact hw.elim
  case h_29 => exact hw.elim
  all_goals first | exact .inl (okD_D hw) | exact .inl (okD_H hw)

theorem sG (h : List AObj) (id : Nat) : mutate h ((h[id]?).map fun o => (id, froO o)) = freeze [id] h := by
  apply List.ext_getElem?
  intro i
  simp only [freeze, List.getElem?_modify]
  cases ho : h[id]? with
  | none =>
    simp only [Option.map_none, mutate]
    by_cases e : id = i
    · subst e; rw [ho]; rfl
    · simp [if_neg e]
  | some o =>
    have hlt := (List.getElem?_eq_some_iff.1 ho).1
    simp only [Option.map_some, mutate, List.getElem?_set]
    by_cases e : id = i
    · subst e; simp only [if_true, hlt, ho]; rfl
    · simp [if_neg e]

/-- a call by value, or of a fresh result -/
theorem callW_D {mt : Bool} {c : Ctx} {f : AV} {args : List AV} {h : List AObj} {K KP : AV → List AObj → Prop} (hS : c.drawn = true) (hN : ∀ f args h K, ¬ c.envS f args h K) (hY : ∀ l args h K, ¬ c.envY l args h K) (hw : callW mt c f args h K KP) :
    OkD (callFD mt c h.length f args h) h K := by
  unfold callW at hw; unfold callFD
  split at hw
  · simp only
    unfold callR at hw; unfold callDR
    split at hw
    · rename_i e; simp only [e]; exact ⟨_, _, _, _, rfl, hw.1, hw.2⟩
    · rename_i e; simp only [e]
      split at hw
      · rename_i hn
        simp only [hn]
        exact ⟨_, _, _, _, rfl, hw.1, by simpa [mutate] using hw.2⟩
      · rename_i hn
        simp only [hn]
        obtain ⟨hr, hs, hk⟩ := hw
        rcases hr hS with h0 | h1
        · simp only [h0] at hk ⊢
          exact ⟨_, _, _, _, rfl, hs, by simpa [mutate, freeze] using hk⟩
        · cases hla : lastId mt args with
          | none =>
            rw [hla] at h1
            rw [← h1] at hk ⊢
            exact ⟨_, _, _, _, rfl, hs, by simpa [mutate, freeze] using hk⟩
          | some id =>
            rw [hla] at h1
            rw [← h1] at hk ⊢
            simp only [Option.toList_some, decide_true]
            refine ⟨_, _, _, _, rfl, hs, ?_⟩
            rw [List.append_nil]
            have := sG h id
            rw [this]; exact hk
    · exact hw.elim
    · exact (hN _ _ _ _ hw).elim
  · exact (hY _ _ _ _ hw).elim
  · exact hw.elim

/-! ### What is looked at -/
def Agree (h h' : List AObj) (ids : List Nat) : Prop := ∀ id, id ∈ ids → h[id]? = h'[id]?

theorem Agree.sub {h h' : List AObj} {ids js : List Nat} (a : Agree h h' ids) (hs : ∀ j, j ∈ js → j ∈ ids) : Agree h h' js := fun j hj => a j (hs j hj)

theorem Agree.sref {h h' : List AObj} {x : Bool} {id ver off len : Nat} (a : Agree h h' (AV.sref x id ver off len).ids) : h[id]? = h'[id]? := a id (by simp [AV.ids])
theorem Agree.ptr {h h' : List AObj} {id : Nat} {p : List PS} (a : Agree h h' (AV.ptr id p).ids) : h[id]? = h'[id]? := a id (by simp [AV.ids])
theorem Agree.map {h h' : List AObj} {id : Nat} (a : Agree h h' (AV.map id).ids) : h[id]? = h'[id]? := a id (by simp [AV.ids])

theorem yD (d : TyD) (v : Value) : (AV.ofConst d v).ids = [] := by
  unfold AV.ofConst; split <;> first | rfl | (split <;> rfl)

theorem ev_ids (t : List (Nat × AV)) (d d' : TyD) (x : Operand) : (ev t d x).ids = (ev t d' x).ids := by
  cases x <;> simp [ev, yD]

mutual
theorem lK {h h' : List AObj} : ∀ {vs : List AV}, Agree h h' (AV.idss vs) → AV.vals h vs = AV.vals h' vs
  | [], _ => rfl
  | v :: r, a => by
    simp only [AV.idss] at a
    simp only [AV.vals, aAL (a.sub fun j hj => List.mem_append_left _ hj), lK (a.sub fun j hj => List.mem_append_right _ hj)]
theorem aAL {h h' : List AObj} : ∀ {v : AV}, Agree h h' v.ids → v.val h = v.val h'
  | .sref x id ver off len, a => by simp only [AV.val, a id (by simp [AV.ids])]
  | .agg vs, a => by simp only [AV.ids] at a; simp only [AV.val, lK a]
  | .tup vs, a => by simp only [AV.ids] at a; simp only [AV.val, lK a]
  | .sl _ _, _ | .top, _ | .und, _ | .int _ _, _ | .bool _, _ | .str _, _ | .arr _, _ | .ep _ _ _, _ | .nilp, _ | .ptr _ _, _ | .map _, _ | .fn _ _ _, _ | .nilfn, _ | .iface _ _, _ | .niliface, _ => rfl
end

theorem lL {h h' : List AObj} {v : AV} (a : Agree h h' v.ids) : v.list h = v.list h' := by
  cases v <;> first | rfl | (simp only [AV.list, a.sref])

theorem aAM {h h' : List AObj} {d : TyD} {v : AV} (a : Agree h h' v.ids) : v.len d h = v.len d h' := by
  cases d <;> cases v <;> first | rfl | (simp only [AV.len, a.sref])

theorem zP {h h' : List AObj} {v : AV} (a : Agree h h' v.ids) : loadD h v = loadD h' v := by
  cases v <;> first | rfl | (simp only [loadD, a.ptr])

theorem yE {h h' : List AObj} {d : TyD} {a v : AV} (g : Agree h h' a.ids) : storeH d h a v = storeH d h' a v := by
  cases a <;> first | rfl | (simp only [storeH, g.ptr])

theorem yF {h h' : List AObj} {d : TyD} {v : AV} {lo hi mx : Option AV} (a : Agree h h' v.ids) : sliceD d h v lo hi mx = sliceD d h' v lo hi mx := by
  cases v with
  | ptr id p => cases p with
    | nil => simp only [sliceD, a id (by simp [AV.ids])]
    | cons _ _ => rfl
  | sref x id ver off len => simp only [sliceD, a id (by simp [AV.ids])]
  | _ => rfl

theorem yG {h h' : List AObj} {d : TyD} {v i : AV} (a : Agree h h' v.ids) : aF d h v i = aF d h' v i := by
  cases i with
  | int k n => cases v with
    | ptr id p => cases p with
      | nil => simp only [aF, a id (by simp [AV.ids])]
      | cons _ _ => rfl
    | sref x id ver off len => simp only [aF, a id (by simp [AV.ids])]
    | _ => rfl
  | _ => rfl

theorem zQ {h h' : List AObj} {d : TyD} {v k : AV} (a : Agree h h' v.ids) : lookupD d h v k = lookupD d h' v k := by
  cases v <;> first | rfl | (simp only [lookupD, a.map])

theorem oP {h h' : List AObj} {d : TyD} {x k v : AV} (a : Agree h h' x.ids) : mapSetH d h x k v = mapSetH d h' x k v := by
  cases x <;> first | rfl | (simp only [mapSetH, a.map])

theorem zR {h h' : List AObj} {s d : TyD} {x : AV} (a : Agree h h' x.ids) : convD h s d x = convD h' s d x := by
  have hx := lL a
  unfold convD
  split <;> first | rfl | rw [hx]

theorem nW {h h' : List AObj} {d : TyD} {s x : AV} {n : Nat} (a : Agree h h' s.ids) (b : Agree h h' x.ids) : appendD d h s x n = appendD d h' s x n := by
  have hx := lL b
  cases s with
  | sl f l => cases f <;> simp only [appendD, hx]
  | sref f id ver off len => cases f <;> simp only [appendD, hx, a id (by simp [AV.ids])]
  | _ => rfl

theorem nX {h h' : List AObj} {d : TyD} {s x : AV} (a : Agree h h' s.ids) (b : Agree h h' x.ids) : appendH d h s x = appendH d h' s x := by
  have hx := lL b
  cases s with
  | sref f id ver off len => cases f <;> simp only [appendH, hx, a id (by simp [AV.ids])]
  | _ => rfl

theorem zS {h h' : List AObj} {d : TyD} {s x : AV} (a : Agree h h' s.ids) (b : Agree h h' x.ids) : copyH d h s x = copyH d h' s x := by
  have hx := lL b
  cases s with
  | sref f id ver off len => simp only [copyH, hx, a id (by simp [AV.ids])]
  | _ => rfl

theorem yH {h h' : List AObj} {d : TyD} {s : AV} (a : Agree h h' s.ids) : clearH d h s = clearH d h' s := by
  cases s with
  | sref f id ver off len => simp only [clearH, a id (by simp [AV.ids])]
  | _ => rfl

theorem wF {h h' : List AObj} {d e : TyD} {s x : AV} {n : Nat} (a : Agree h h' s.ids) (b : Agree h h' x.ids) : iD d e s x h n = iD d e s x h' n := by
  unfold iD
  split
  · rw [nW a b, nX a b]
  · split
    · rename_i k m
      have hz : (zeroSl d m).ids = [] := by unfold zeroSl; split <;> rfl
      rw [nW a (by rw [hz]; intro i hi; cases hi), nX a (by rw [hz]; intro i hi; cases hi)]
    · rfl
  · rfl

theorem vM {h h' : List AObj} {b : Builtin} {ds : List TyD} {args : List AV} {n : Nat} (a : Agree h h' (AV.idss args)) : gY b ds args h n = gY b ds args h' n := by
  have e1 : ∀ x, args = [x] → Agree h h' x.ids := by rintro x rfl; simpa [AV.idss] using a
  have e2 : ∀ x y, args = [x, y] → Agree h h' x.ids ∧ Agree h h' y.ids := by
    rintro x y rfl
    simp only [AV.idss, List.append_nil] at a
    exact ⟨a.sub fun j hj => List.mem_append_left _ hj, a.sub fun j hj => List.mem_append_right _ hj⟩
  unfold gY
  split
  · rw [lenD, lenD, aAM (e1 _ rfl)]
  · rfl
  · rfl
  · exact wF (e2 _ _ rfl).1 (e2 _ _ rfl).2
  · rw [zS (e2 _ _ rfl).1 (e2 _ _ rfl).2]
  · rw [yH (e1 _ rfl)]
  · rfl

/-- the values of an operation's operands -/
def opVs (t : List (Nat × AV)) (op : Op) : List AV := op.operands.toList.map (ev t .other)

theorem qU {vs : List AV} {v : AV} (h : v ∈ vs) : ∀ j, j ∈ v.ids → j ∈ AV.idss vs := by
  induction vs with
  | nil => cases h
  | cons u r ih =>
    intro j hj
    rcases List.mem_cons.1 h with rfl | h
    · exact List.mem_append_left _ hj
    · exact List.mem_append_right _ (ih h j hj)

theorem tV {h h' : List AObj} {t : List (Nat × AV)} {op : Op} (a : Agree h h' (AV.idss (opVs t op))) {x : Operand} (hx : x ∈ op.operands.toList) (d : TyD) : Agree h h' (ev t d x).ids :=
  a.sub fun j hj => by
    rw [ev_ids t d .other] at hj
    exact qU (List.mem_map_of_mem hx) j hj

theorem pX (a b : List AV) : AV.idss (a ++ b) = AV.idss a ++ AV.idss b := by
  induction a with
  | nil => rfl
  | cons v r ih => simp [AV.idss, ih]

theorem nJ {vs : List AV} {j : Nat} (h : j ∈ AV.idss vs) : ∃ v, v ∈ vs ∧ j ∈ v.ids := by
  induction vs with
  | nil => simp [AV.idss] at h
  | cons v r ih =>
    simp only [AV.idss, List.mem_append] at h
    rcases h with h | h
    · exact ⟨v, List.mem_cons_self, h⟩
    · obtain ⟨u, hu, hj⟩ := ih h; exact ⟨u, List.mem_cons_of_mem _ hu, hj⟩

theorem gW (cl : Call) : (∀ x, x ∈ cl.args.toList → x ∈ (Op.call cl).operands.toList) ∧ ∀ f, cl.callee = .value f → f ∈ (Op.call cl).operands.toList := by
  constructor
  · intro x hx; cases h : cl.callee <;> simp_all [Op.operands, Call.operands]
  · intro f hf; simp [Op.operands, Call.operands, hf]

theorem mQ {h h' : List AObj} {c : Ctx} {t : List (Nat × AV)} {cl : Call} (a : Agree h h' (AV.idss (opVs t (.call cl)))) : Agree h h' (AV.idss (argVs c t cl)) := by
  intro j hj
  obtain ⟨v, hv, hj⟩ := nJ hj
  obtain ⟨p, hp, rfl⟩ := List.mem_map.1 hv
  exact tV a ((gW cl).1 p.1 (List.of_mem_zip hp).1) _ j hj

theorem oQ {c : Ctx} {apps : List Nat} {s : Nat} {t : List (Nat × AV)} {h h' : List AObj} {op : Op} {type : TypeId} (a : Agree h h' (AV.idss (opVs t op))) : opD c apps s t h op type = opD c apps s t h' op type := by
  have g := fun x hx d => tV a (x := x) hx d
  cases op with
  | load T x => simp only [opD, zP (g x (by simp [Op.operands]) .ptr)]
  | store T x v => simp only [opD, yE (g x (by simp [Op.operands]) .ptr)]
  | convert s d x => simp only [opD, zR (g x (by simp [Op.operands]) _)]
  | slice T x lo hi mx => simp only [opD, yF (g x (by simp [Op.operands]) _)]
  | indexAddr T x i => simp only [opD, yG (g x (by simp [Op.operands]) _)]
  | lookup T x k b => cases b <;> simp only [opD, zQ (g x (by simp [Op.operands]) .other)]
  | mapUpdate T x k v => simp only [opD, oP (g x (by simp [Op.operands]) .other)]
  | insert T x k v => simp only [opD, oP (g x (by simp [Op.operands]) .other)]
  | makeMap T r => cases r <;> rfl
  | call cl =>
    simp only [opD]
    split
    · rfl
    · split
      · exact vM (mQ a)
      · rename_i f hc
        unfold callFD
        split
        · rename_i q fn first cap hf
          rw [lK (h' := h')]
          · unfold callDR
            split
            · rfl
            · split
              · rfl
              · split
                · rfl
                · rename_i id hrow
                  split
                  · rename_i hla
                    have hla := of_decide_eq_true hla
                    have hid : id ∈ AV.idss (argVs c t cl) := by
                      unfold lastId at hla
                      split at hla
                      · rename_i he
                        cases hla
                        exact qU (List.mem_of_getLast? he) _ (by simp [AV.ids])
                      · cases hla
                    rw [mQ a id hid]
                  · rfl
                · rfl
            · rfl
          · intro j hj
            rw [pX, pX] at hj
            simp only [List.mem_append] at hj
            have hfn : Agree h h' (ev t .func f).ids := g f ((gW cl).2 f hc) .func
            rw [hf] at hfn
            simp only [AV.ids] at hfn
            rcases hj with (hj | hj) | hj
            · exact hfn j (List.mem_append_left _ hj)
            · exact mQ a j hj
            · exact hfn j (List.mem_append_right _ hj)
        · rfl
      · rfl
  | _ => rfl

end Lam
set_option linter.unusedVariables false
set_option linter.unnecessarySimpa false
set_option linter.unusedSectionVars false
set_option linter.unusedSimpArgs false
namespace Lam
open Go

/-! ### Values by value -/
mutual
theorem closedV {X Y : Cx} (hS : ∀ b, X.S b → Y.S b) (hw : ∀ b, X.S b → Y.w.heap[b]? = X.w.heap[b]?) : ∀ {v : AV} {c : Value}, v.closed = true → VV X v c → VV Y v c
  | .agg vs, c, hc, h => by
    simp only [VV] at h ⊢
    obtain ⟨cs, rfl, h⟩ := h
    exact ⟨cs, rfl, closedC hS hw (by simpa [AV.closed] using hc) h⟩
  | .tup vs, c, hc, h => by
    simp only [VV] at h ⊢
    obtain ⟨cs, rfl, h⟩ := h
    exact ⟨cs, rfl, kI hS hw (by simpa [AV.closed] using hc) h⟩
  | .fn f first cap, c, hc, h => by
    simp only [AV.closed, Bool.and_eq_true] at hc
    simp only [VV] at h ⊢
    obtain ⟨a, d, rfl, h1, h2⟩ := h
    exact ⟨a, d, rfl, kI hS hw hc.1 h1, kI hS hw hc.2 h2⟩
  | .arr _, _, _, h => h
  | .int _ _, _, _, h => h
  | .bool _, _, _, h => h
  | .str _, _, _, h => h
  | .nilp, _, _, h => h
  | .nilfn, _, _, h => h
  | .niliface, _, _, h => h
  | .sl x l, c, _, h => by
    obtain ⟨a, cap, rfl, h1, h2, h3, h4⟩ := h
    refine ⟨a, cap, rfl, h1, h2, h3, fun hn => ?_⟩
    obtain ⟨ad, ha, hs, hb, hr⟩ := h4 hn
    exact ⟨ad, ha, hs, hS _ hb, hr.of_heap (hw _ hb)⟩
  | .top, _, hc, _ | .und, _, hc, _ | .sref _ _ _ _ _, _, hc, _ | .ep _ _ _, _, hc, _ | .ptr _ _, _, hc, _ | .map _, _, hc, _ | .iface _ _, _, hc, _ => by cases hc
theorem kI {X Y : Cx} (hS : ∀ b, X.S b → Y.S b) (hw : ∀ b, X.S b → Y.w.heap[b]? = X.w.heap[b]?) : ∀ {vs : List AV} {cs : List Value}, AV.closeds vs = true → VVs X vs cs → VVs Y vs cs
  | [], _, _, h => by simpa only [VVs] using h
  | v :: r, _, hc, h => by
    simp only [AV.closeds, Bool.and_eq_true] at hc
    simp only [VVs] at h ⊢
    obtain ⟨c, d, rfl, h1, h2⟩ := h
    exact ⟨c, d, rfl, closedV hS hw hc.1 h1, kI hS hw hc.2 h2⟩
theorem gM {X Y : Cx} (hS : ∀ b, X.S b → Y.S b) (hw : ∀ b, X.S b → Y.w.heap[b]? = X.w.heap[b]?) : ∀ {v : AV} {cs : List Value}, v.closed = true → VC X v cs → VC Y v cs
  | .agg vs, cs, hc, h => by
    simp only [VC] at h ⊢
    exact closedC hS hw (by simpa [AV.closed] using hc) h
  | .tup vs, cs, hc, h => by simp only [VC] at h
  | .fn f first cap, cs, hc, h => by
    simp only [AV.closed, Bool.and_eq_true] at hc
    simp only [VC] at h ⊢
    obtain ⟨a, d, rfl, h1, h2⟩ := h
    exact ⟨a, d, rfl, kI hS hw hc.1 h1, kI hS hw hc.2 h2⟩
  | .arr _, _, _, h => by simpa only [VC] using h
  | .int _ _, _, _, h => by simp only [VC] at h ⊢; obtain ⟨c, rfl, h⟩ := h; exact ⟨c, rfl, h⟩
  | .bool _, _, _, h => by simp only [VC] at h ⊢; obtain ⟨c, rfl, h⟩ := h; exact ⟨c, rfl, h⟩
  | .str _, _, _, h => by simp only [VC] at h ⊢; obtain ⟨c, rfl, h⟩ := h; exact ⟨c, rfl, h⟩
  | .nilp, _, _, h => by simp only [VC] at h ⊢; obtain ⟨c, rfl, h⟩ := h; exact ⟨c, rfl, h⟩
  | .nilfn, _, _, h => by simp only [VC] at h ⊢; obtain ⟨c, rfl, h⟩ := h; exact ⟨c, rfl, h⟩
  | .niliface, _, _, h => by simp only [VC] at h ⊢; obtain ⟨c, rfl, h⟩ := h; exact ⟨c, rfl, h⟩
  | .sl x l, cs, _, h => by
    simp only [VC] at h ⊢
    obtain ⟨c, rfl, a, cap, rfl, h1, h2, h3, h4⟩ := h
    refine ⟨_, rfl, a, cap, rfl, h1, h2, h3, fun hn => ?_⟩
    obtain ⟨ad, ha, hs, hb, hr⟩ := h4 hn
    exact ⟨ad, ha, hs, hS _ hb, hr.of_heap (hw _ hb)⟩
  | .top, _, hc, _ | .und, _, hc, _ | .sref _ _ _ _ _, _, hc, _ | .ep _ _ _, _, hc, _ | .ptr _ _, _, hc, _ | .map _, _, hc, _ | .iface _ _, _, hc, _ => by cases hc
theorem closedC {X Y : Cx} (hS : ∀ b, X.S b → Y.S b) (hw : ∀ b, X.S b → Y.w.heap[b]? = X.w.heap[b]?) : ∀ {vs : List AV} {cs : List Value}, AV.closeds vs = true → VCs X vs cs → VCs Y vs cs
  | [], _, _, h => by simpa only [VCs] using h
  | v :: r, _, hc, h => by
    simp only [AV.closeds, Bool.and_eq_true] at hc
    simp only [VCs] at h ⊢
    obtain ⟨c, d, rfl, h1, h2⟩ := h
    exact ⟨c, d, rfl, gM hS hw hc.1 h1, closedC hS hw hc.2 h2⟩
end


mutual
theorem plainV {X Y : Cx} : ∀ {v : AV} {c : Value}, v.noSl = true → VV X v c → VV Y v c
  | .agg vs, c, hc, h => by
    simp only [VV] at h ⊢
    obtain ⟨cs, rfl, h⟩ := h
    exact ⟨cs, rfl, plainC (by simpa [AV.noSl] using hc) h⟩
  | .tup vs, c, hc, h => by
    simp only [VV] at h ⊢
    obtain ⟨cs, rfl, h⟩ := h
    exact ⟨cs, rfl, plainVs (by simpa [AV.noSl] using hc) h⟩
  | .fn f first cap, c, hc, h => by
    simp only [AV.noSl, Bool.and_eq_true] at hc
    simp only [VV] at h ⊢
    obtain ⟨a, d, rfl, h1, h2⟩ := h
    exact ⟨a, d, rfl, plainVs hc.1 h1, plainVs hc.2 h2⟩
  | .arr _, _, _, h => h
  | .int _ _, _, _, h => h
  | .bool _, _, _, h => h
  | .str _, _, _, h => h
  | .nilp, _, _, h => h
  | .nilfn, _, _, h => h
  | .niliface, _, _, h => h
  | .sl _ _, _, hc, _ | .top, _, hc, _ | .und, _, hc, _ | .sref _ _ _ _ _, _, hc, _ | .ep _ _ _, _, hc, _ | .ptr _ _, _, hc, _ | .map _, _, hc, _ | .iface _ _, _, hc, _ => by cases hc
theorem plainVs {X Y : Cx} : ∀ {vs : List AV} {cs : List Value}, AV.noSls vs = true → VVs X vs cs → VVs Y vs cs
  | [], _, _, h => by simpa only [VVs] using h
  | v :: r, _, hc, h => by
    simp only [AV.noSls, Bool.and_eq_true] at hc
    simp only [VVs] at h ⊢
    obtain ⟨c, d, rfl, h1, h2⟩ := h
    exact ⟨c, d, rfl, plainV hc.1 h1, plainVs hc.2 h2⟩
theorem plainVC {X Y : Cx} : ∀ {v : AV} {cs : List Value}, v.noSl = true → VC X v cs → VC Y v cs
  | .agg vs, cs, hc, h => by
    simp only [VC] at h ⊢
    exact plainC (by simpa [AV.noSl] using hc) h
  | .tup vs, cs, hc, h => by simp only [VC] at h
  | .fn f first cap, cs, hc, h => by
    simp only [AV.noSl, Bool.and_eq_true] at hc
    simp only [VC] at h ⊢
    obtain ⟨a, d, rfl, h1, h2⟩ := h
    exact ⟨a, d, rfl, plainVs hc.1 h1, plainVs hc.2 h2⟩
  | .arr _, _, _, h => by simpa only [VC] using h
  | .int _ _, _, _, h => by simp only [VC] at h ⊢; obtain ⟨c, rfl, h⟩ := h; exact ⟨c, rfl, h⟩
  | .bool _, _, _, h => by simp only [VC] at h ⊢; obtain ⟨c, rfl, h⟩ := h; exact ⟨c, rfl, h⟩
  | .str _, _, _, h => by simp only [VC] at h ⊢; obtain ⟨c, rfl, h⟩ := h; exact ⟨c, rfl, h⟩
  | .nilp, _, _, h => by simp only [VC] at h ⊢; obtain ⟨c, rfl, h⟩ := h; exact ⟨c, rfl, h⟩
  | .nilfn, _, _, h => by simp only [VC] at h ⊢; obtain ⟨c, rfl, h⟩ := h; exact ⟨c, rfl, h⟩
  | .niliface, _, _, h => by simp only [VC] at h ⊢; obtain ⟨c, rfl, h⟩ := h; exact ⟨c, rfl, h⟩
  | .sl _ _, _, hc, _ | .top, _, hc, _ | .und, _, hc, _ | .sref _ _ _ _ _, _, hc, _ | .ep _ _ _, _, hc, _ | .ptr _ _, _, hc, _ | .map _, _, hc, _ | .iface _ _, _, hc, _ => by cases hc
theorem plainC {X Y : Cx} : ∀ {vs : List AV} {cs : List Value}, AV.noSls vs = true → VCs X vs cs → VCs Y vs cs
  | [], _, _, h => by simpa only [VCs] using h
  | v :: r, _, hc, h => by
    simp only [AV.noSls, Bool.and_eq_true] at hc
    simp only [VCs] at h ⊢
    obtain ⟨c, d, rfl, h1, h2⟩ := h
    exact ⟨c, d, rfl, plainVC hc.1 h1, plainC hc.2 h2⟩
end

/-- a slice by value -/
theorem qV {X Y : Cx} (H : HR X) {x : Bool} {id ver off len : Nat} {c : Value} {l : Lst} (h : SrV X x id ver off len c) (hl : listO (X.h[id]?) ver off len = some l)
    (hr : ∀ b, X.μ[id]? = some (some b) → Y.S b ∧ Y.w.heap[b]? = X.w.heap[b]?) : SlV Y false l c := by
  have L := iM (x := .sref x id ver off len) H h hl
  obtain ⟨a, cap, rfl, h1, h2, h3⟩ := L.lies
  obtain ⟨a', n, cap', e, k, ver', l', hl', hv, g⟩ := h
  cases e
  have hver : ver = ver' := by
    rw [gK hl'] at hl
    unfold listO at hl
    by_cases e : ver = ver'
    · exact e
    · simp [e] at hl
  have g6 := (g hver).2.2.2.2.2
  clear g
  refine ⟨a, cap, rfl, h1, fun h => (by cases h), h2, fun hn => ?_⟩
  have hcap : cap ≠ 0 := by clear g6; omega
  obtain ⟨b, o, rfl, hre⟩ := h3 hn
  obtain ⟨b', hb', hab, _⟩ := g6 hcap
  cases hab
  obtain ⟨q1, q2⟩ := hr _ hb'
  exact ⟨_, rfl, rfl, q1, hre.of_heap q2⟩

def RowsIn' (X Y : Cx) (ids : List Nat) : Prop := ∀ id, id ∈ ids → ∀ b, X.μ[id]? = some (some b) → Y.S b ∧ Y.w.heap[b]? = X.w.heap[b]?

theorem RowsIn'.left {X Y : Cx} {a b : List Nat} (h : RowsIn' X Y (a ++ b)) : RowsIn' X Y a := fun i hi => h i (List.mem_append_left _ hi)
theorem RowsIn'.right {X Y : Cx} {a b : List Nat} (h : RowsIn' X Y (a ++ b)) : RowsIn' X Y b := fun i hi => h i (List.mem_append_right _ hi)

theorem nY {h : List AObj} {v : AV} {r us : List AV} (e : AV.vals h (v :: r) = some us) : ∃ a b, us = a :: b ∧ v.val h = some a ∧ AV.vals h r = some b := by
  simp only [AV.vals] at e
  split at e
  · rename_i a b h1 h2; exact ⟨a, b, (Option.some.inj e).symm, h1, h2⟩
  · cases e

mutual
theorem valV {X Y : Cx} (H : HR X) (hS : ∀ b, X.S b → Y.S b) (hw : ∀ b, X.S b → Y.w.heap[b]? = X.w.heap[b]?) : ∀ {v u : AV} {c : Value}, RowsIn' X Y v.rows → v.val X.h = some u → u.closed = true → VV X v c → VV Y u c
  | .agg vs, u, c, hr, e, hc, h => by
    simp only [AV.val, Option.map_eq_some_iff] at e
    obtain ⟨us, e, rfl⟩ := e
    simp only [VV] at h ⊢
    obtain ⟨cs, rfl, h⟩ := h
    exact ⟨cs, rfl, valC H hS hw (by simpa [AV.rows] using hr) e (by simpa [AV.closed] using hc) h⟩
  | .tup vs, u, c, hr, e, hc, h => by
    simp only [AV.val, Option.map_eq_some_iff] at e
    obtain ⟨us, e, rfl⟩ := e
    simp only [VV] at h ⊢
    obtain ⟨cs, rfl, h⟩ := h
    exact ⟨cs, rfl, valVs H hS hw (by simpa [AV.rows] using hr) e (by simpa [AV.closed] using hc) h⟩
  | .sref x id ver off len, u, c, hr, e, _, h => by
    simp only [AV.val, Option.map_eq_some_iff] at e
    obtain ⟨l, e, rfl⟩ := e
    exact qV H h e (hr id (by simp [AV.rows]))
  | .sl x l, u, c, _, e, hc, h => by
    simp only [AV.val, Option.some.injEq] at e; subst e
    obtain ⟨a, cap, rfl, h1, h2, h3, h4⟩ := closedV (Y := Y) hS hw (v := .sl x l) rfl h
    exact ⟨a, cap, rfl, h1, fun h => (by cases h), h3, h4⟩
  | .fn f first cap, u, c, _, e, hc, h => by simp only [AV.val, Option.some.injEq] at e; subst e; exact closedV hS hw hc h
  | .arr l, u, c, _, e, hc, h => by simp only [AV.val, Option.some.injEq] at e; subst e; exact closedV hS hw hc h
  | .int k n, u, c, _, e, hc, h => by simp only [AV.val, Option.some.injEq] at e; subst e; exact closedV hS hw hc h
  | .bool b, u, c, _, e, hc, h => by simp only [AV.val, Option.some.injEq] at e; subst e; exact closedV hS hw hc h
  | .str s, u, c, _, e, hc, h => by simp only [AV.val, Option.some.injEq] at e; subst e; exact closedV hS hw hc h
  | .nilp, u, c, _, e, hc, h => by simp only [AV.val, Option.some.injEq] at e; subst e; exact closedV hS hw hc h
  | .nilfn, u, c, _, e, hc, h => by simp only [AV.val, Option.some.injEq] at e; subst e; exact closedV hS hw hc h
  | .niliface, u, c, _, e, hc, h => by simp only [AV.val, Option.some.injEq] at e; subst e; exact closedV hS hw hc h
  | .top, _, _, _, e, hc, _ | .und, _, _, _, e, hc, _ | .ep _ _ _, _, _, _, e, hc, _ | .ptr _ _, _, _, _, e, hc, _ | .map _, _, _, _, e, hc, _ | .iface _ _, _, _, _, e, hc, _ => by
    simp only [AV.val, Option.some.injEq] at e; subst e; cases hc
theorem valVs {X Y : Cx} (H : HR X) (hS : ∀ b, X.S b → Y.S b) (hw : ∀ b, X.S b → Y.w.heap[b]? = X.w.heap[b]?) : ∀ {vs us : List AV} {cs : List Value}, RowsIn' X Y (AV.rowss vs) → AV.vals X.h vs = some us → AV.closeds us = true → VVs X vs cs → VVs Y us cs
  | [], us, _, _, e, _, h => by simp only [AV.vals, Option.some.injEq] at e; subst e; simpa only [VVs] using h
  | v :: r, us, _, hr, e, hc, h => by
    obtain ⟨a, b, rfl, h1, h2⟩ := nY e
    simp only [AV.closeds, Bool.and_eq_true] at hc
    simp only [AV.rowss] at hr
    simp only [VVs] at h ⊢
    obtain ⟨c, d, rfl, g1, g2⟩ := h
    exact ⟨c, d, rfl, valV H hS hw hr.left h1 hc.1 g1, valVs H hS hw hr.right h2 hc.2 g2⟩
theorem valVC {X Y : Cx} (H : HR X) (hS : ∀ b, X.S b → Y.S b) (hw : ∀ b, X.S b → Y.w.heap[b]? = X.w.heap[b]?) : ∀ {v u : AV} {cs : List Value}, RowsIn' X Y v.rows → v.val X.h = some u → u.closed = true → VC X v cs → VC Y u cs
  | .agg vs, u, c, hr, e, hc, h => by
    simp only [AV.val, Option.map_eq_some_iff] at e
    obtain ⟨us, e, rfl⟩ := e
    simp only [VC] at h ⊢
    exact valC H hS hw (by simpa [AV.rows] using hr) e (by simpa [AV.closed] using hc) h
  | .tup vs, u, c, hr, e, hc, h => by simp only [VC] at h
  | .sref x id ver off len, u, cs, hr, e, _, h => by
    simp only [AV.val, Option.map_eq_some_iff] at e
    obtain ⟨l, e, rfl⟩ := e
    simp only [VC] at h ⊢
    obtain ⟨c, rfl, h⟩ := h
    exact ⟨c, rfl, qV H h e (hr id (by simp [AV.rows]))⟩
  | .sl x l, u, cs, _, e, hc, h => by
    simp only [AV.val, Option.some.injEq] at e; subst e
    have h := gM (Y := Y) hS hw (v := .sl x l) rfl h
    simp only [VC] at h ⊢
    obtain ⟨c, rfl, a, cap, rfl, h1, h2, h3, h4⟩ := h
    exact ⟨_, rfl, a, cap, rfl, h1, fun h => (by cases h), h3, h4⟩
  | .fn f first cap, u, c, _, e, hc, h => by simp only [AV.val, Option.some.injEq] at e; subst e; exact gM hS hw hc h
  | .arr l, u, c, _, e, hc, h => by simp only [AV.val, Option.some.injEq] at e; subst e; exact gM hS hw hc h
  | .int k n, u, c, _, e, hc, h => by simp only [AV.val, Option.some.injEq] at e; subst e; exact gM hS hw hc h
  | .bool b, u, c, _, e, hc, h => by simp only [AV.val, Option.some.injEq] at e; subst e; exact gM hS hw hc h
  | .str s, u, c, _, e, hc, h => by simp only [AV.val, Option.some.injEq] at e; subst e; exact gM hS hw hc h
  | .nilp, u, c, _, e, hc, h => by simp only [AV.val, Option.some.injEq] at e; subst e; exact gM hS hw hc h
  | .nilfn, u, c, _, e, hc, h => by simp only [AV.val, Option.some.injEq] at e; subst e; exact gM hS hw hc h
  | .niliface, u, c, _, e, hc, h => by simp only [AV.val, Option.some.injEq] at e; subst e; exact gM hS hw hc h
  | .top, _, _, _, e, hc, _ | .und, _, _, _, e, hc, _ | .ep _ _ _, _, _, _, e, hc, _ | .ptr _ _, _, _, _, e, hc, _ | .map _, _, _, _, e, hc, _ | .iface _ _, _, _, _, e, hc, _ => by
    simp only [AV.val, Option.some.injEq] at e; subst e; cases hc
theorem valC {X Y : Cx} (H : HR X) (hS : ∀ b, X.S b → Y.S b) (hw : ∀ b, X.S b → Y.w.heap[b]? = X.w.heap[b]?) : ∀ {vs us : List AV} {cs : List Value}, RowsIn' X Y (AV.rowss vs) → AV.vals X.h vs = some us → AV.closeds us = true → VCs X vs cs → VCs Y us cs
  | [], us, _, _, e, _, h => by simp only [AV.vals, Option.some.injEq] at e; subst e; simpa only [VCs] using h
  | v :: r, us, _, hr, e, hc, h => by
    obtain ⟨a, b, rfl, h1, h2⟩ := nY e
    simp only [AV.closeds, Bool.and_eq_true] at hc
    simp only [AV.rowss] at hr
    simp only [VCs] at h ⊢
    obtain ⟨c, d, rfl, g1, g2⟩ := h
    exact ⟨c, d, rfl, valVC H hS hw hr.left h1 hc.1 g1, valC H hS hw hr.right h2 hc.2 g2⟩
end

/-! ### Values of a new part of the heap -/
mutual
def AV.shOk : AV → Bool
  | .fn _ first cap => AV.closeds first && AV.closeds cap
  | .iface _ v => v.closed
  | .agg vs | .tup vs => AV.shOks vs
  | _ => true
def AV.shOks : List AV → Bool
  | [] => true
  | v :: r => v.shOk && AV.shOks r
end

structure Sh (Y Z : Cx) (s : Nat) : Prop where
  S : ∀ b, ¬ Y.S b
  w : Z.w = Y.w
  len : Y.μ.length = Y.h.length
  hh : ∀ (i : Nat) (o : AObj), Y.h[i]? = some o → Z.h[s + i]? = some o
  mu : ∀ (i : Nat) (b : Option Nat), Y.μ[i]? = some b → Z.μ[s + i]? = some b

section
variable {Y Z : Cx} {s : Nat}
theorem Sh.row (E : Sh Y Z s) {i : Nat} {r : RK × Nat × Lst} (h : rowO (Y.h[i]?) = some r) : rowO (Z.h[s + i]?) = some r := by
  obtain ⟨k, v, l⟩ := r
  rw [E.hh i _ (gK h)]; rfl
theorem Sh.hrow (E : Sh Y Z s) {i : Nat} {b : Option Nat} (h : Y.μ[i]? = some b) : Z.h[s + i]? = Y.h[i]? := by
  have hl : i < Y.h.length := by rw [← E.len]; exact (List.getElem?_eq_some_iff.1 h).1
  obtain ⟨o, ho⟩ : ∃ o, Y.h[i]? = some o := ⟨_, List.getElem?_eq_getElem hl⟩
  rw [ho]; exact E.hh i o ho

theorem Sh.vb (E : Sh Y Z s) {v : AV} {c : Value} (hv : v.scalar = true) (hf : ∀ f a b, v ≠ .fn f a b) (hi : ∀ t u, v ≠ .iface t u) (h : VB Y v c) : VB Z (v.shift s) c := by
  cases v with
  | sl x l =>
    obtain ⟨a, cap, rfl, h1, h2, h3, h4⟩ := h
    exact ⟨a, cap, rfl, h1, h2, h3, fun hn => by obtain ⟨ad, _, _, hb, _⟩ := h4 hn; exact (E.S _ hb).elim⟩
  | ep l i fs => obtain ⟨b, o, _, _, hb, _⟩ := h; exact (E.S _ hb).elim
  | sref x id ver off len =>
    obtain ⟨a, n, cap, rfl, k, ver', l, hl, hv, g⟩ := h
    refine ⟨a, n, cap, rfl, k, ver', l, E.row hl, hv, fun e => ?_⟩
    obtain ⟨g1, g2, g3, g4, g5, g6⟩ := g e
    exact ⟨g1, g2, g3, g4, g5, fun hn => by obtain ⟨b, q1, q2, q3⟩ := g6 hn; exact ⟨b, E.mu _ _ q1, q2, by rw [E.w]; exact q3⟩⟩
  | ptr id p =>
    have fin : (∃ b, Y.μ[id]? = some (some b) ∧ c = .pointer (some ⟨b, offs p, none⟩) ∧ ∀ k ver l, rowO (Y.h[id]?) = some (k, ver, l) → k ≠ .own) →
        ∃ b, Z.μ[s + id]? = some (some b) ∧ c = .pointer (some ⟨b, offs p, none⟩) ∧ ∀ k ver l, rowO (Z.h[s + id]?) = some (k, ver, l) → k ≠ .own := by
      rintro ⟨b, q1, q2, q3⟩
      exact ⟨b, E.mu _ _ q1, q2, by rw [E.hrow q1]; exact q3⟩
    cases p with
    | nil => exact fin h
    | cons q r => cases q with
      | f _ _ => exact fin h
      | i _ _ _ =>
        obtain ⟨k, ver', l, hl, hv, ho, g⟩ := h
        exact ⟨k, ver', l, E.row hl, hv, ho, fun e => by obtain ⟨b, q1, q2⟩ := g e; exact ⟨b, E.mu _ _ q1, q2⟩⟩
  | map id =>
    obtain ⟨b, q1, q2, q3⟩ := h
    exact ⟨b, E.mu _ _ q1, q2, by rw [E.hrow q1]; exact q3⟩
  | fn f a b => exact (hf _ _ _ rfl).elim
  | iface t u => exact (hi _ _ rfl).elim
  | agg _ => cases hv
  | arr _ => cases hv
  | tup _ => cases hv
  | _ => exact h

mutual
theorem shV (E : Sh Y Z s) : ∀ {v : AV} {c : Value}, v.shOk = true → VV Y v c → VV Z (v.shift s) c
  | .agg vs, c, hk, h => by
    simp only [AV.shift, VV] at h ⊢
    obtain ⟨cs, rfl, h⟩ := h
    exact ⟨cs, rfl, shC E (by simpa [AV.shOk] using hk) h⟩
  | .tup vs, c, hk, h => by
    simp only [AV.shift, VV] at h ⊢
    obtain ⟨cs, rfl, h⟩ := h
    exact ⟨cs, rfl, shVs E (by simpa [AV.shOk] using hk) h⟩
  | .arr l, c, _, h => h
  | .fn f first cap, c, hk, h => closedV (fun b hb => (E.S b hb).elim) (fun b hb => (E.S b hb).elim) (v := .fn f first cap) (by simpa [AV.shOk, AV.closed] using hk) h
  | .iface t v, c, hk, h => by
    simp only [AV.shift, VV] at h ⊢
    obtain ⟨u, rfl, h⟩ := h
    exact ⟨u, rfl, closedV (fun b hb => (E.S b hb).elim) (fun b hb => (E.S b hb).elim) (by simpa [AV.shOk] using hk) h⟩
  | .top, c, _, h => trivial
  | .und, c, _, h => E.vb rfl (by intros; simp) (by intros; simp) (v := .und) h
  | .int k n, c, _, h => E.vb rfl (by intros; simp) (by intros; simp) (v := .int k n) h
  | .bool b, c, _, h => E.vb rfl (by intros; simp) (by intros; simp) (v := .bool b) h
  | .str b, c, _, h => E.vb rfl (by intros; simp) (by intros; simp) (v := .str b) h
  | .sl x l, c, _, h => E.vb rfl (by intros; simp) (by intros; simp) (v := .sl x l) h
  | .sref x a b d e, c, _, h => E.vb rfl (by intros; simp) (by intros; simp) (v := .sref x a b d e) h
  | .ep l i f, c, _, h => E.vb rfl (by intros; simp) (by intros; simp) (v := .ep l i f) h
  | .nilp, c, _, h => E.vb rfl (by intros; simp) (by intros; simp) (v := .nilp) h
  | .ptr i p, c, _, h => E.vb rfl (by intros; simp) (by intros; simp) (v := .ptr i p) h
  | .map i, c, _, h => E.vb rfl (by intros; simp) (by intros; simp) (v := .map i) h
  | .nilfn, c, _, h => E.vb rfl (by intros; simp) (by intros; simp) (v := .nilfn) h
  | .niliface, c, _, h => E.vb rfl (by intros; simp) (by intros; simp) (v := .niliface) h
theorem shVs (E : Sh Y Z s) : ∀ {vs : List AV} {cs : List Value}, AV.shOks vs = true → VVs Y vs cs → VVs Z (AV.shifts s vs) cs
  | [], _, _, h => by simpa only [VVs, AV.shifts] using h
  | v :: r, _, hk, h => by
    simp only [AV.shOks, Bool.and_eq_true] at hk
    simp only [AV.shifts, VVs] at h ⊢
    obtain ⟨c, d, rfl, g1, g2⟩ := h
    exact ⟨c, d, rfl, shV E hk.1 g1, shVs E hk.2 g2⟩
theorem shVC (E : Sh Y Z s) : ∀ {v : AV} {cs : List Value}, v.shOk = true → VC Y v cs → VC Z (v.shift s) cs
  | .agg vs, c, hk, h => by
    simp only [AV.shift, VC] at h ⊢
    exact shC E (by simpa [AV.shOk] using hk) h
  | .tup vs, c, hk, h => by simp only [VC] at h
  | .arr l, c, _, h => by simpa only [VC, AV.shift] using h
  | .fn f first cap, c, hk, h => gM (fun b hb => (E.S b hb).elim) (fun b hb => (E.S b hb).elim) (v := .fn f first cap) (by simpa [AV.shOk, AV.closed] using hk) h
  | .iface t v, c, hk, h => by
    simp only [AV.shift, VC] at h ⊢
    obtain ⟨u, rfl, h⟩ := h
    exact ⟨u, rfl, closedV (fun b hb => (E.S b hb).elim) (fun b hb => (E.S b hb).elim) (by simpa [AV.shOk] using hk) h⟩
  | .top, c, _, h => by simpa only [VC, AV.shift] using h
  | .und, c, _, h => by simp only [VC] at h
  | .int k n, c, _, h => by simp only [VC, AV.shift] at h ⊢; obtain ⟨c, rfl, h⟩ := h; exact ⟨c, rfl, E.vb rfl (by intros; simp) (by intros; simp) (v := .int k n) h⟩
  | .bool b, c, _, h => by simp only [VC, AV.shift] at h ⊢; obtain ⟨c, rfl, h⟩ := h; exact ⟨c, rfl, E.vb rfl (by intros; simp) (by intros; simp) (v := .bool b) h⟩
  | .str b, c, _, h => by simp only [VC, AV.shift] at h ⊢; obtain ⟨c, rfl, h⟩ := h; exact ⟨c, rfl, E.vb rfl (by intros; simp) (by intros; simp) (v := .str b) h⟩
  | .sl x l, c, _, h => by simp only [VC, AV.shift] at h ⊢; obtain ⟨c, rfl, h⟩ := h; exact ⟨c, rfl, E.vb rfl (by intros; simp) (by intros; simp) (v := .sl x l) h⟩
  | .sref x a b d e, c, _, h => by simp only [VC, AV.shift] at h ⊢; obtain ⟨c, rfl, h⟩ := h; exact ⟨c, rfl, E.vb rfl (by intros; simp) (by intros; simp) (v := .sref x a b d e) h⟩
  | .ep l i f, c, _, h => by simp only [VC, AV.shift] at h ⊢; obtain ⟨c, rfl, h⟩ := h; exact ⟨c, rfl, E.vb rfl (by intros; simp) (by intros; simp) (v := .ep l i f) h⟩
  | .nilp, c, _, h => by simp only [VC, AV.shift] at h ⊢; obtain ⟨c, rfl, h⟩ := h; exact ⟨c, rfl, E.vb rfl (by intros; simp) (by intros; simp) (v := .nilp) h⟩
  | .ptr i p, c, _, h => by simp only [VC, AV.shift] at h ⊢; obtain ⟨c, rfl, h⟩ := h; exact ⟨c, rfl, E.vb rfl (by intros; simp) (by intros; simp) (v := .ptr i p) h⟩
  | .map i, c, _, h => by simp only [VC, AV.shift] at h ⊢; obtain ⟨c, rfl, h⟩ := h; exact ⟨c, rfl, E.vb rfl (by intros; simp) (by intros; simp) (v := .map i) h⟩
  | .nilfn, c, _, h => by simp only [VC, AV.shift] at h ⊢; obtain ⟨c, rfl, h⟩ := h; exact ⟨c, rfl, E.vb rfl (by intros; simp) (by intros; simp) (v := .nilfn) h⟩
  | .niliface, c, _, h => by simp only [VC, AV.shift] at h ⊢; obtain ⟨c, rfl, h⟩ := h; exact ⟨c, rfl, E.vb rfl (by intros; simp) (by intros; simp) (v := .niliface) h⟩
theorem shC (E : Sh Y Z s) : ∀ {vs : List AV} {cs : List Value}, AV.shOks vs = true → VCs Y vs cs → VCs Z (AV.shifts s vs) cs
  | [], _, _, h => by simpa only [VCs, AV.shifts] using h
  | v :: r, _, hk, h => by
    simp only [AV.shOks, Bool.and_eq_true] at hk
    simp only [AV.shifts, VCs] at h ⊢
    obtain ⟨c, d, rfl, g1, g2⟩ := h
    exact ⟨c, d, rfl, shVC E hk.1 g1, shC E hk.2 g2⟩
end
end

/-! ### A part of the heap is laid -/
def place {α : Type} : List α → Nat → List α → List α
  | h, _, [] => h
  | h, s, o :: r => place (h.set s o) (s + 1) r

theorem lW {α : Type} : ∀ (r : List α) (h : List α) (s : Nat), (place h s r).length = h.length
  | [], _, _ => rfl
  | o :: r, h, s => by simp [place, lW r]

theorem jM {α : Type} : ∀ (r : List α) (h : List α) (s : Nat), (r ≠ [] → s + r.length ≤ h.length) → ∀ i, (place h s r)[i]? = if s ≤ i ∧ i < s + r.length then r[i - s]? else h[i]?
  | [], h, s, _, i => by
    have : ¬ (s ≤ i ∧ i < s + ([] : List α).length) := by simp
    rw [if_neg this]; rfl
  | o :: r, h, s, hl, i => by
    have hl := hl (by simp)
    simp only [List.length_cons] at hl
    simp only [place]
    rw [jM r _ _ (by intro _; simp; omega) i]
    simp only [List.length_cons]
    by_cases e : i = s
    · subst e
      rw [if_neg (by omega), if_pos (by omega), List.getElem?_set]
      simp; omega
    · rw [List.getElem?_set]
      by_cases h1 : s ≤ i ∧ i < s + (r.length + 1)
      · rw [if_pos h1, if_pos (by omega)]
        have : i - s = i - (s + 1) + 1 := by omega
        rw [this, List.getElem?_cons_succ]
      · rw [if_neg h1, if_neg (by omega), if_neg (Ne.symm e)]

end Lam
set_option linter.unusedVariables false
set_option linter.unnecessarySimpa false
set_option linter.unusedSectionVars false
set_option linter.unusedSimpArgs false
namespace Lam
open Go

/-- objects that a call may hand on -/
def AObj.newOk : AObj → Bool
  | .row k _ _ => match k with
    | .fro => false
    | _ => true
  | .box v => v.closed
  | _ => true

/-- the end of a call, by a contract -/
def Ends (X0 : Cx) (fresh : Bool) (v : AV) (news : List AObj) (e : Ending) (w' : World) : Prop :=
  ∃ c, e = .returned c ∧ ∃ Y : Cx, Y.w = w' ∧ HR Y ∧ Ext X0 Y ∧
    match fresh with
    | true => Y.h = news ∧ (∀ o ∈ news, o.newOk = true) ∧ v.shOk = true ∧ HR ⟨fun _ => False, Y.μ, Y.h, Y.w⟩ ∧ VV ⟨fun _ => False, Y.μ, Y.h, Y.w⟩ v c
    | false => v.closed = true ∧ VV Y v c

/-- contracts of functions that only compute -/
structure FOk (P : Program) (envF : FuncId → List AV → Option (Bool × D)) : Prop where
  enter : ∀ f vs r, envF f vs = some r → ∀ (args : Array Value) (w : World), (callFunc f args).run P w = .ok (.enter f args) w
  spec : ∀ f vs b S v news, envF f vs = some (b, some (S, v, news)) → S → ∀ (X0 : Cx) (cs : Array Value), X0.h = [] → X0.μ = [] → HR X0 → VVs X0 vs cs.toList →
    Calls P f cs X0.w (Ends X0 b v news)

section
variable {ro : Option Nat} {P : Program} {X : Cx}

theorem hr0 {S : Nat → Prop} {w : World} (h : ∀ b, S b → b < w.heap.size) : HR ⟨S, [], [], w⟩ :=
  ⟨rfl, fun i o h => by simp at h, fun i j b h => by simp at h, fun i b h => by simp at h, h⟩

theorem args0 (H : HR X) {S : Nat → Prop} (hS : ∀ b, X.S b → S b) {vs us : List AV} {cs : List Value} (hr : ∀ id ∈ AV.rowss vs, ∀ b, X.μ[id]? = some (some b) → S b)
    (hv : AV.vals X.h vs = some us) (hc : AV.closeds us = true) (h : VVs X vs cs) : VVs ⟨S, [], [], X.w⟩ us cs :=
  valVs H (Y := ⟨S, [], [], X.w⟩) hS (fun _ _ => rfl) (fun id hid b hb => ⟨hr id hid b hb, rfl⟩) hv hc h

/-- old blocks stay -/
theorem iE {S : Nat → Prop} {w : World} {Y : Cx} (E : Ext ⟨S, [], [], w⟩ Y) {b : Nat} (hb : b < w.heap.size) : Y.w.heap[b]? = w.heap[b]? := E.keep b hb fun i => by simp

/-- a call that hands on values: the caller's context behind it -/
theorem kS (H : HR X) {Y : Cx} (E : Ext ⟨X.S, [], [], X.w⟩ Y) (HY : HR Y) : HR ⟨Y.S, X.μ, X.h, Y.w⟩ ∧ Ext X ⟨Y.S, X.μ, X.h, Y.w⟩ := by
  have hE : Ext X ⟨Y.S, X.μ, X.h, Y.w⟩ := by
    refine ⟨E.S, E.cells, fun b hb => ?_, fun i b h => .inl h, fun b hb _ => iE E hb, E.grow, fun i k ver l hl => ?_, fun i b h1 h2 => ⟨h2, h1⟩, E.env⟩
    · rcases E.new b hb with h | ⟨i, h⟩ | h
      · exact .inl h
      · simp at h
      · exact .inr (.inr h)
    · refine ⟨k, ver, l, hl, Nat.le_refl _, fun _ => ⟨rfl, rfl, fun b hb => ⟨hb, ?_⟩⟩, fun h => ⟨h, rfl⟩⟩
      have : Y.w.heap[b]? = X.w.heap[b]? := iE E (H.live _ _ hb).1
      simp only [dO, this]; exact Nat.le_refl _
  refine ⟨⟨H.len, fun i o ho => ?_, H.apart, fun i b hb => ?_, HY.old⟩, hE⟩
  · obtain ⟨b, hb, hor⟩ := H.obj i o ho
    exact ⟨b, hb, hor.ext hE fun k hk => by subst hk; exact iE E (H.live _ _ hb).1⟩
  · have hl := H.live i b hb
    refine ⟨Nat.lt_of_lt_of_le hl.1 E.grow, fun hs => ?_⟩
    rcases E.new b hs with h | ⟨i, h⟩ | h
    · exact hl.2 h
    · simp at h
    · exact absurd hl.1 (Nat.not_lt.2 h)

/-- a call that hands on no slices -/
theorem mR (H : HR X) {S : Nat → Prop} {Y : Cx} (E : Ext ⟨S, [], [], X.w⟩ Y) : HR ⟨X.S, X.μ, X.h, Y.w⟩ ∧ Ext X ⟨X.S, X.μ, X.h, Y.w⟩ := by
  have hE : Ext X ⟨X.S, X.μ, X.h, Y.w⟩ := by
    refine ⟨fun _ h => h, fun b hb => iE E (H.old b hb), fun b hb => .inl hb, fun i b h => .inl h, fun b hb _ => iE E hb, E.grow, fun i k ver l hl => ?_, fun i b h1 h2 => ⟨h2, h1⟩, E.env⟩
    refine ⟨k, ver, l, hl, Nat.le_refl _, fun _ => ⟨rfl, rfl, fun b hb => ⟨hb, ?_⟩⟩, fun h => ⟨h, rfl⟩⟩
    have : Y.w.heap[b]? = X.w.heap[b]? := iE E (H.live _ _ hb).1
    simp only [dO, this]; exact Nat.le_refl _
  refine ⟨⟨H.len, fun i o ho => ?_, H.apart, fun i b hb => ?_, fun b hb => Nat.lt_of_lt_of_le (H.old b hb) E.grow⟩, hE⟩
  · obtain ⟨b, hb, hor⟩ := H.obj i o ho
    exact ⟨b, hb, hor.ext hE fun k hk => by subst hk; exact iE E (H.live _ _ hb).1⟩
  · have hl := H.live i b hb
    exact ⟨Nat.lt_of_lt_of_le hl.1 E.grow, hl.2⟩

theorem tW (H : HR X) {i : Nat} (hd : X.h[i]? = some .dead) : X.μ[i]? = some none := by
  obtain ⟨b, hb, hor⟩ := H.obj i _ hd
  rw [hb, show b = none from hor]

/-- a call that hands on a new part of the heap: the caller's context behind it -/
theorem tX (H : HR X) {S : Nat → Prop} {Y : Cx} {s : Nat} (E : Ext ⟨S, [], [], X.w⟩ Y) (HY : HR ⟨fun _ => False, Y.μ, Y.h, Y.w⟩) (hd : ∀ j, j < Y.h.length → X.h[s + j]? = some .dead) (hn : ∀ o ∈ Y.h, o.newOk = true) :
    HR ⟨X.S, place X.μ s Y.μ, place X.h s Y.h, Y.w⟩ ∧ Ext X ⟨X.S, place X.μ s Y.μ, place X.h s Y.h, Y.w⟩ ∧
      Sh ⟨fun _ => False, Y.μ, Y.h, Y.w⟩ ⟨X.S, place X.μ s Y.μ, place X.h s Y.h, Y.w⟩ s := by
  have hroom : Y.h ≠ [] → s + Y.h.length ≤ X.h.length := fun hne => by
    have hp : 0 < Y.h.length := List.length_pos_iff.2 hne
    have := (List.getElem?_eq_some_iff.1 (hd (Y.h.length - 1) (by omega))).1
    omega
  have gh := jM Y.h X.h s hroom
  have gm := jM Y.μ X.μ s (fun hne => by
    have hp : 0 < Y.μ.length := List.length_pos_iff.2 hne
    have hl : Y.μ.length = Y.h.length := HY.len
    rw [hl] at hp ⊢; rw [H.len]
    exact hroom (List.length_pos_iff.1 hp))
  rw [show Y.μ.length = Y.h.length from HY.len] at gm
  have kept : ∀ b, b < X.w.heap.size → Y.w.heap[b]? = X.w.heap[b]? := fun b hb => iE E hb
  have fresh : ∀ j b, Y.μ[j]? = some (some b) → X.w.heap.size ≤ b := fun j b hb => by
    rcases E.muinv j b hb with h | h
    · simp at h
    · exact h
  have outr : ∀ i, (s ≤ i ∧ i < s + Y.h.length) → X.h[i]? = some .dead := fun i hi => by
    have := hd (i - s) (by omega)
    rwa [show s + (i - s) = i by omega] at this
  have hE : Ext X ⟨X.S, place X.μ s Y.μ, place X.h s Y.h, Y.w⟩ := by
    refine ⟨fun _ h => h, fun b hb => kept b (H.old b hb), fun b hb => .inl hb, fun i b hb => ?_, fun b hb _ => kept b hb, E.grow, fun i k ver l hl => ?_, fun i b h1 h2 => ?_, E.env⟩
    · simp only [gm] at hb
      split at hb
      · exact .inr (fresh _ _ hb)
      · exact .inl hb
    · have hno : ¬ (s ≤ i ∧ i < s + Y.h.length) := fun hi => by rw [outr i hi] at hl; cases hl
      refine ⟨k, ver, l, ?_, Nat.le_refl _, fun _ => ⟨rfl, rfl, fun b hb => ⟨?_, ?_⟩⟩, fun h => ⟨h, rfl⟩⟩
      · simp only [gh, if_neg hno, hl]
      · simp only [gm, if_neg hno, hb]
      · have := kept b (H.live _ _ hb).1
        simp only [dO, this]; exact Nat.le_refl _
    · have hno : ¬ (s ≤ i ∧ i < s + Y.h.length) := fun hi => by rw [tW H (outr i hi)] at h2; cases h2
      exact ⟨by simp only [gm, if_neg hno, h2], by simp only [gh, if_neg hno, h1]⟩
  refine ⟨⟨?_, fun i o ho => ?_, fun i j b h1 h2 => ?_, fun i b hb => ?_, fun b hb => Nat.lt_of_lt_of_le (H.old b hb) E.grow⟩, hE, ⟨fun _ h => h, rfl, HY.len, fun i o ho => ?_, fun i b hb => ?_⟩⟩
  · simp only [lW, H.len]
  · simp only [gh] at ho
    simp only [gm]
    split at ho
    · rename_i hi
      rw [if_pos hi]
      obtain ⟨b, hb, hor⟩ := HY.obj _ o ho
      refine ⟨b, hb, ?_⟩
      have hok := hn o (List.mem_of_getElem? ho)
      cases o with
      | box v =>
        obtain ⟨b', cs, elem, rfl, q1, q2⟩ := hor
        exact ⟨b', cs, elem, rfl, q1, gM (X := ⟨fun _ => False, Y.μ, Y.h, Y.w⟩) (fun b hb => hb.elim) (fun b hb => hb.elim) hok q2⟩
      | row k ver l =>
        rcases hor with hor | ⟨b', cs, elem, rfl, q1, q2, q3⟩
        · exact .inl hor
        · exact .inr ⟨b', cs, elem, rfl, q1, q2, fun hk => by subst hk; cases hok⟩
      | map m => exact hor
      | lp st pd r => exact hor
      | dead => exact hor
    · rename_i hi
      rw [if_neg hi]
      obtain ⟨b, hb, hor⟩ := H.obj i o ho
      exact ⟨b, hb, hor.ext hE fun k hk => by subst hk; exact kept k (H.live _ _ hb).1⟩
  · simp only [gm] at h1 h2
    split at h1 <;> split at h2
    · have := HY.apart _ _ _ h1 h2; omega
    · have := fresh _ _ h1; have := (H.live _ _ h2).1; omega
    · have := fresh _ _ h2; have := (H.live _ _ h1).1; omega
    · exact H.apart _ _ _ h1 h2
  · simp only [gm] at hb
    split at hb
    · have h1 := fresh _ _ hb
      refine ⟨(HY.live _ _ hb).1, fun hs => ?_⟩
      have := H.old b hs; omega
    · rename_i hi
      have hl := H.live _ _ hb
      refine ⟨Nat.lt_of_lt_of_le hl.1 E.grow, fun hs => ?_⟩
      obtain ⟨ver, l, h3⟩ := hl.2 hs
      exact ⟨ver, l, by simp only [gh, if_neg hi, h3]⟩
  · have : i < Y.h.length := (List.getElem?_eq_some_iff.1 ho).1
    simp only [gh]
    rw [if_pos ⟨by omega, by omega⟩, Nat.add_sub_cancel_left]; exact ho
  · have : i < Y.h.length := by rw [← show Y.μ.length = Y.h.length from HY.len]; exact (List.getElem?_eq_some_iff.1 hb).1
    simp only [gm]
    rw [if_pos ⟨by omega, by omega⟩, Nat.add_sub_cancel_left]; exact hb
end

end Lam
set_option linter.unusedVariables false
set_option linter.unnecessarySimpa false
set_option linter.unusedSectionVars false
set_option linter.unusedSimpArgs false
namespace Lam
open Go

/-- what the contexts' tables and contracts must be -/
structure CtxOk (P : Program) (c : Ctx) : Prop where
  tab : TabOk P c.tab
  sh : ∀ T, (c.tab T).shallow
  fok : FOk P c.envF

section
variable {X : Cx}

mutual
theorem VV_rows : ∀ {v : AV} {c : Value}, VV X v c → ∀ id, id ∈ v.rows → ∃ k ver l, X.h[id]? = some (.row k ver l)
  | .agg vs, c, h, id, hid => by
    simp only [VV] at h; obtain ⟨cs, rfl, h⟩ := h
    exact qW h id (by simpa [AV.rows] using hid)
  | .tup vs, c, h, id, hid => by
    simp only [VV] at h; obtain ⟨cs, rfl, h⟩ := h
    exact kJ h id (by simpa [AV.rows] using hid)
  | .sref x i v o n, c, h, id, hid => by
    simp only [AV.rows, List.mem_singleton] at hid; subst hid
    obtain ⟨_, _, _, _, k, ver, l, hr, _⟩ := h
    exact ⟨k, ver, l, gK hr⟩
  | .fn _ _ _, _, _, id, hid | .iface _ _, _, _, id, hid | .arr _, _, _, id, hid | .ptr _ _, _, _, id, hid | .map _, _, _, id, hid
  | .top, _, _, id, hid | .und, _, _, id, hid | .int _ _, _, _, id, hid | .bool _, _, _, id, hid | .str _, _, _, id, hid | .sl _ _, _, _, id, hid
  | .ep _ _ _, _, _, id, hid | .nilp, _, _, id, hid | .nilfn, _, _, id, hid | .niliface, _, _, id, hid => by simp [AV.rows] at hid
theorem kJ : ∀ {vs : List AV} {cs : List Value}, VVs X vs cs → ∀ id, id ∈ AV.rowss vs → ∃ k ver l, X.h[id]? = some (.row k ver l)
  | [], _, _, id, hid => by simp [AV.rowss] at hid
  | v :: r, _, h, id, hid => by
    simp only [VVs] at h; obtain ⟨c, d, rfl, h1, h2⟩ := h
    simp only [AV.rowss, List.mem_append] at hid
    exact hid.elim (VV_rows h1 id) (kJ h2 id)
theorem VC_rows : ∀ {v : AV} {cs : List Value}, VC X v cs → ∀ id, id ∈ v.rows → ∃ k ver l, X.h[id]? = some (.row k ver l)
  | .agg vs, c, h, id, hid => by
    simp only [VC] at h
    exact qW h id (by simpa [AV.rows] using hid)
  | .tup vs, c, h, id, hid => by simp only [VC] at h
  | .sref x i v o n, c, h, id, hid => by
    simp only [AV.rows, List.mem_singleton] at hid; subst hid
    simp only [VC] at h; obtain ⟨c, rfl, h⟩ := h
    obtain ⟨_, _, _, _, k, ver, l, hr, _⟩ := h
    exact ⟨k, ver, l, gK hr⟩
  | .fn _ _ _, _, _, id, hid | .iface _ _, _, _, id, hid | .arr _, _, _, id, hid | .ptr _ _, _, _, id, hid | .map _, _, _, id, hid
  | .top, _, _, id, hid | .und, _, _, id, hid | .int _ _, _, _, id, hid | .bool _, _, _, id, hid | .str _, _, _, id, hid | .sl _ _, _, _, id, hid
  | .ep _ _ _, _, _, id, hid | .nilp, _, _, id, hid | .nilfn, _, _, id, hid | .niliface, _, _, id, hid => by simp [AV.rows] at hid
theorem qW : ∀ {vs : List AV} {cs : List Value}, VCs X vs cs → ∀ id, id ∈ AV.rowss vs → ∃ k ver l, X.h[id]? = some (.row k ver l)
  | [], _, _, id, hid => by simp [AV.rowss] at hid
  | v :: r, _, h, id, hid => by
    simp only [VCs] at h; obtain ⟨c, d, rfl, h1, h2⟩ := h
    simp only [AV.rowss, List.mem_append] at hid
    exact hid.elim (VC_rows h1 id) (qW h2 id)
end

theorem nZ : ∀ (ids : List Nat) (h : List AObj), (freeze ids h).length = h.length
  | [], _ => rfl
  | id :: r, h => by simp [freeze, nZ r]

theorem aAN (o : AObj) : froO (froO o) = froO o := by cases o <;> rfl

theorem sH : ∀ (ids : List Nat) (h : List AObj) (i : Nat), (freeze ids h)[i]? = if i ∈ ids then (h[i]?).map froO else h[i]?
  | [], _, _ => by simp [freeze]
  | id :: r, h, i => by
    simp only [freeze]
    rw [sH r, List.getElem?_modify]
    by_cases e : id = i
    · subst e
      simp only [if_true, List.mem_cons, true_or]
      split
      · cases h[id]? <;> simp [aAN]
      · cases h[id]? <;> simp
    · simp only [if_neg e, List.mem_cons, Ne.symm e, false_or, id_eq]
      cases h[i]? <;> simp

/-- rows that are given away by value -/
def Cx.fro (X : Cx) (ids : List Nat) : Cx := ⟨fun b => X.S b ∨ ∃ id ∈ ids, X.μ[id]? = some (some b), X.μ, freeze ids X.h, X.w⟩

theorem fro_ok (H : HR X) {ids : List Nat} (hr : ∀ id ∈ ids, ∃ k ver l, X.h[id]? = some (.row k ver l)) : HR (X.fro ids) ∧ Ext X (X.fro ids) := by
  have hh : ∀ i, (X.fro ids).h[i]? = _ := sH ids X.h
  have E : Ext X (X.fro ids) := by
    refine ⟨fun _ h => .inl h, fun _ _ => rfl, fun b hb => ?_, fun i b hb => .inl hb, fun _ _ _ => rfl, Nat.le_refl _, fun i k ver l hl => ?_, fun i b h1 h2 => ⟨h2, ?_⟩, SameEnv.refl _⟩
    · rcases hb with h | ⟨id, _, h⟩
      · exact .inl h
      · exact .inr (.inl ⟨id, h⟩)
    · rw [hh]
      split
      · rename_i hi
        rw [gK hl]
        exact ⟨.fro, ver, l, rfl, Nat.le_refl _, fun _ => ⟨rfl, rfl, fun b hb => ⟨hb, Nat.le_refl _⟩⟩, fun _ => ⟨by simp, rfl⟩⟩
      · exact ⟨k, ver, l, hl, Nat.le_refl _, fun _ => ⟨rfl, rfl, fun b hb => ⟨hb, Nat.le_refl _⟩⟩, fun h => ⟨h, rfl⟩⟩
    · rw [hh]
      split
      · rename_i hi
        obtain ⟨k, ver, l, e⟩ := hr i hi
        rw [e] at h1; cases h1
      · exact h1
  refine ⟨⟨by rw [show (X.fro ids).μ = X.μ from rfl, show (X.fro ids).h = freeze ids X.h from rfl, nZ, H.len], fun i o ho => ?_, H.apart, fun i b hb => ⟨(H.live i b hb).1, fun hs => ?_⟩, fun b hb => ?_⟩, E⟩
  · rw [hh] at ho
    split at ho
    · rename_i hi
      obtain ⟨k, ver, l, e⟩ := hr i hi
      rw [e] at ho
      cases ho
      obtain ⟨b, hb, hor⟩ := H.obj i _ e
      refine ⟨b, hb, ?_⟩
      rcases hor with ⟨h1, h2, _⟩ | ⟨b', cs, elem, rfl, h1, h2, _⟩
      · exact .inl ⟨h1, h2, by simp⟩
      · exact .inr ⟨b', cs, elem, rfl, h1, h2, fun _ => .inr ⟨i, hi, hb⟩⟩
    · obtain ⟨b, hb, hor⟩ := H.obj i o ho
      exact ⟨b, hb, hor.ext E fun _ _ => rfl⟩
  · rw [hh]
    rcases hs with h | ⟨id, hid, h⟩
    · obtain ⟨ver, l, e⟩ := (H.live i b hb).2 h
      rw [e]
      split
      · exact ⟨ver, l, rfl⟩
      · exact ⟨ver, l, rfl⟩
    · obtain rfl := H.apart _ _ _ hb h
      obtain ⟨k, ver, l, e⟩ := hr i hid
      rw [if_pos hid, e]
      exact ⟨ver, l, rfl⟩
  · rcases hb with h | ⟨id, _, h⟩
    · exact H.old b h
    · exact (H.live _ _ h).1

end

section
variable {ro : Option Nat} {P : Program} {X : Cx} {o : Oper} {a : Act} {h' : List AObj} {v : AV}

theorem pure_to {s : Sem Value} (H : HR X) (hd : ∀ c, o.op ≠ .defer c) (he : execOp a.eval o = (do pure (.value (← s)))) (hp : Pure P s X v) : OpTo ro P o a X.w (Good X X.h v) := by
  obtain ⟨c, hr, hv⟩ := hp
  exact OpTo.value hd (by rw [he]; simp [hr]) (Good.same H rfl hv)

theorem made_to {s : Sem Value} (hd : ∀ c, o.op ≠ .defer c) (he : execOp a.eval o = (do pure (.value (← s)))) (hp : ∃ c w', s.run P X.w = .ok c w' ∧ Good X h' v c w') : OpTo ro P o a X.w (Good X h' v) := by
  obtain ⟨c, w', hr, hv⟩ := hp
  exact OpTo.value hd (by rw [he]; simp [hr]) hv

theorem unit_to {s : Sem Unit} (hd : ∀ c, o.op ≠ .defer c) (he : execOp a.eval o = (do s; pure .skip)) (hp : ∃ w', s.run P X.w = .ok () w' ∧ Good X h' v undef w') : OpTo ro P o a X.w (Good X h' v) := by
  obtain ⟨w', hr, hv⟩ := hp
  exact OpTo.skip hd (by rw [he]; simp [hr]) hv

theorem ofD_inv {x : D} {S : Prop} {news : List AObj} {mm : Option (Nat × AObj)} (h : ofD x = some (S, v, news, mm)) : x = some (S, v, news) ∧ mm = none := by
  unfold ofD at h; split at h
  · cases h; exact ⟨rfl, rfl⟩
  · cases h
theorem ofH_inv {x : Option (Prop × Nat × AObj)} {S : Prop} {news : List AObj} {mm : Option (Nat × AObj)} (h : ofH x = some (S, v, news, mm)) : ∃ id o, x = some (S, id, o) ∧ v = .und ∧ news = [] ∧ mm = some (id, o) := by
  unfold ofH at h; split at h
  · cases h; exact ⟨_, _, rfl, rfl, rfl, rfl⟩
  · cases h
theorem ofM_inv {x : Option (Prop × AV × Nat × AObj)} {S : Prop} {news : List AObj} {mm : Option (Nat × AObj)} (h : ofM x = some (S, v, news, mm)) : ∃ id o, x = some (S, v, id, o) ∧ news = [] ∧ mm = some (id, o) := by
  unfold ofM at h; split at h
  · cases h; exact ⟨_, _, rfl, rfl, rfl⟩
  · cases h

theorem oR {t : List (Nat × AV)} {f : Nat → TyD} : ∀ {l : List (Nat × Operand)}, (∀ p ∈ l, ∀ d, VV X (ev t d p.2) (a.eval p.2)) →
    Parts X (l.map fun p => (p.1, ev t (f p.1) p.2)) (l.map fun p => (p.1, a.eval p.2))
  | [], _ => .nil
  | p :: r, hv => .cons _ _ _ _ _ (hv p (by simp) _) (oR fun q hq => hv q (by simp [hq]))

theorem vvs_map {α : Type} {f : α → AV} {g : α → Value} : ∀ {l : List α}, (∀ p ∈ l, VV X (f p) (g p)) → VVs X (l.map f) (l.map g)
  | [], _ => rfl
  | p :: r, hv => ⟨_, _, rfl, hv p (by simp), vvs_map fun q hq => hv q (by simp [hq])⟩

theorem zip_fst {α β : Type} : ∀ {l : List α} {r : List β}, l.length = r.length → (l.zip r).map (·.1) = l
  | [], _, _ => by simp
  | a :: l, [], h => by simp at h
  | a :: l, b :: r, h => by simp only [List.zip_cons_cons, List.map_cons]; rw [zip_fst (by simpa using h)]

theorem opt_to {t : List (Nat × AV)} {x : Option Operand} {d : TyD} (hv : ∀ y, x = some y → VV X (ev t d y) (a.eval y)) : OptR X (x.map (ev t d)) (x.map a.eval) := by
  cases x with
  | none => trivial
  | some y => exact hv y rfl

theorem VVs2 {x y : AV} {cs : List Value} (h : VVs X [x, y] cs) : ∃ c d, cs = [c, d] ∧ VV X x c ∧ VV X y d := by
  simp only [VVs] at h
  obtain ⟨c, d, rfl, h1, e, f, rfl, h2, rfl⟩ := h
  exact ⟨c, e, rfl, h1, h2⟩
theorem VVs1 {x : AV} {cs : List Value} (h : VVs X [x] cs) : ∃ c, cs = [c] ∧ VV X x c := by
  simp only [VVs] at h
  obtain ⟨c, d, rfl, h1, rfl⟩ := h
  exact ⟨c, rfl, h1⟩

theorem yI (H : HR X) {U : TypeId} {e2 : LK} (hU : tyB P (.slice e2) U = true) {x : AV} {cx : Value} (hx : VV X x cx) :
    ∀ (e : LK) (ys : Lst), x.list X.h = some ys → ys.kind = e → gU P X e U ys cx := by
  intro e ys hl hk
  obtain ⟨E2, hu, _⟩ := fV hU
  exact .sl E2 ys cx hu hk (iM H hx hl)

theorem aBD {xs ys : Lst} {n : Nat} {S : Prop} {news : List AObj} (h : gS xs ys n = some (S, v, news)) : news ≠ [] := by
  rintro rfl
  unfold gS at h
  cases hz : xs.app ys with
  | none => simp [hz, someD] at h
  | some zs => simp [hz, someD] at h

theorem yJ {d : TyD} {h : List AObj} {x y : AV} {n : Nat} {S : Prop} {news : List AObj} (hd : appendD d h x y n = some (S, v, news)) : news ≠ [] := by
  have fin : ∀ xs, (someD (y.list h) fun ys => gS xs ys n) = some (S, v, news) → news ≠ [] := by
    intro xs h1
    cases hl : y.list h with
    | none => simp [hl, someD] at h1
    | some ys => simp only [hl, someD] at h1; exact aBD h1
  unfold appendD at hd
  split at hd
  · exact fin _ (dI hd).2
  · rename_i id ver off len
    split at hd
    rotate_left
    · cases hd
    have := (dI hd).2
    cases hl : listO (h[id]?) ver off len with
    | none => simp [hl, someD] at this
    | some xs =>
      simp only [hl] at this
      exact fin xs this
  · cases hd

theorem aAO (H : HR X) {c : Ctx} (C : CtxOk P c) {T U ty : TypeId} {s : Nat} {x y : AV} {cx cy : Value} {S : Prop} {news : List AObj} {mm : Option (Nat × AObj)} (hx : VV X x cx) (hy : VV X y cy)
    (hdead : ∀ j, j < news.length → X.h[s + j]? = some .dead) (h : iD (c.tab T) (c.tab U) x y X.h s = some (S, v, news, mm)) (hS : S) (hs0 : X.h[s]? = some .dead ∨ news = []) :
    ∃ r w', (Builtin.append_ #[T, U] ty #[cx, cy]).run P X.w = .ok r w' ∧ Good X (mutate (place X.h s news) mm) v r w' := by
  have core : ∀ (y : AV) (hA : ∀ e ys, c.tab T = .slice e → y.list X.h = some ys → ys.kind = e → gU P X e U ys cy) {S : Prop}, S → ofDM (appendD (c.tab T) X.h x y s) (appendH (c.tab T) X.h x y) = some (S, v, news, mm) →
      ∃ r w', (Builtin.append_ #[T, U] ty #[cx, cy]).run P X.w = .ok r w' ∧ Good X (mutate (place X.h s news) mm) v r w' := by
    intro y hA S hS h
    unfold ofDM at h
    split at h
    · rename_i d hd
      obtain ⟨S', v', news'⟩ := d
      simp only [ofD, Option.some.injEq, Prod.mk.injEq] at h
      obtain ⟨rfl, rfl, rfl, rfl⟩ := h
      have hn : news' ≠ [] := yJ hd
      have hd0 : X.h[s]? = some .dead := hs0.resolve_right hn
      obtain ⟨o, r, w', rfl, hr, hg⟩ := vJ (ty := ty) H (C.tab T) hx hd0 hA hd hS
      exact ⟨r, w', hr, by simpa [mutate, place] using hg⟩
    · obtain ⟨id, o, h1, rfl, rfl⟩ := ofM_inv h
      obtain ⟨r, w', hr, hg⟩ := vK (ty := ty) H (C.tab T) hx hA h1 hS
      exact ⟨r, w', hr, by simpa [mutate, place] using hg⟩
  unfold iD at h
  split at h
  · rename_i e2 he2
    have hU := C.tab U
    rw [he2] at hU
    exact core y (fun e ys _ hl hk => yI H hU hy e ys hl hk) hS h
  · rename_i k hk2
    split at h
    · rename_i m
      unfold andDR at h
      split at h
      · rename_i S1 r1 h1
        cases h
        obtain rfl : cy = .int .i64 m := hy
        have hU := C.tab U
        rw [hk2] at hU
        refine core (zeroSl (c.tab T) m) (fun e ys he hl hke => ?_) hS.2 h1
        rw [he] at hl
        simp only [zeroSl, AV.list, Option.some.injEq] at hl
        subst hl
        exact .zs k .i64 m (ty_int hU) hS.1.1 hS.1.2
      · cases h
    · cases h
  · cases h

theorem zT (H : HR X) {c : Ctx} (C : CtxOk P c) {b : Builtin} {Ts : List TypeId} {ty : TypeId} {s : Nat} {args : List AV} {cs : List Value} {S : Prop} {news : List AObj} {mm : Option (Nat × AObj)}
    (consts : Array Bool) (hv : VVs X args cs) (hdead : ∀ j, j < news.length → X.h[s + j]? = some .dead) (h : gY b (Ts.map c.tab) args X.h s = some (S, v, news, mm)) (hS : S) :
    ∃ r w', (builtin b Ts.toArray ty consts cs.toArray).run P X.w = .ok (.value r) w' ∧ Good X (mutate (place X.h s news) mm) v r w' := by
  have pu : ∀ {sm : Sem Value}, Pure P sm X v → news = [] → mm = none → (∀ w, (builtin b Ts.toArray ty consts cs.toArray).run P w = (sm.run P w).andThen fun r w' => .ok (.value r) w') →
      ∃ r w', (builtin b Ts.toArray ty consts cs.toArray).run P X.w = .ok (.value r) w' ∧ Good X (mutate (place X.h s news) mm) v r w' := by
    rintro sm ⟨r, hr, hvv⟩ rfl rfl hb
    refine ⟨r, X.w, by rw [hb, hr]; rfl, ?_⟩
    simpa [mutate, place] using Good.same H rfl hvv
  have ma : ∀ {sm : Sem Value}, (∃ r w', sm.run P X.w = .ok r w' ∧ Good X (mutate (place X.h s news) mm) v r w') → (∀ w, (builtin b Ts.toArray ty consts cs.toArray).run P w = (sm.run P w).andThen fun r w' => .ok (.value r) w') →
      ∃ r w', (builtin b Ts.toArray ty consts cs.toArray).run P X.w = .ok (.value r) w' ∧ Good X (mutate (place X.h s news) mm) v r w' := by
    rintro sm ⟨r, w', hr, hg⟩ hb
    exact ⟨r, w', by rw [hb, hr]; rfl, hg⟩
  have one : ∀ {d : TyD}, Ts.map c.tab = [d] → ∃ T, Ts = [T] ∧ d = c.tab T := by
    intro d hd
    cases Ts with
    | nil => cases hd
    | cons T r => cases r with
      | nil => cases hd; exact ⟨T, rfl, rfl⟩
      | cons _ _ => cases hd
  have two : ∀ {d e : TyD}, Ts.map c.tab = [d, e] → ∃ T U, Ts = [T, U] ∧ d = c.tab T ∧ e = c.tab U := by
    intro d e hd
    cases Ts with
    | nil => cases hd
    | cons T r => cases r with
      | nil => cases hd
      | cons U q => cases q with
        | nil => cases hd; exact ⟨T, U, rfl, rfl, rfl⟩
        | cons _ _ => cases hd
  unfold gY at h
  split at h
  · rename_i d x hds
    obtain ⟨T, rfl, rfl⟩ := one hds
    obtain ⟨cx, rfl, hx⟩ := VVs1 hv
    obtain ⟨hh, rfl⟩ := ofD_inv h
    obtain ⟨rfl, hp⟩ := aAE (C.tab T) hx ty hh hS
    exact pu hp rfl rfl fun w => by simp [builtin]
  · obtain ⟨c1, c2, rfl, h1, h2⟩ := VVs2 hv
    obtain ⟨hh, rfl⟩ := ofD_inv h
    obtain ⟨rfl, hp⟩ := aAC h1 h2 Ts.toArray ty hh hS
    exact pu hp rfl rfl fun w => by simp [builtin]
  · obtain ⟨c1, c2, rfl, h1, h2⟩ := VVs2 hv
    obtain ⟨hh, rfl⟩ := ofD_inv h
    obtain ⟨rfl, hp⟩ := aAD h1 h2 Ts.toArray ty hh hS
    exact pu hp rfl rfl fun w => by simp [builtin]
  · rename_i d e x y hds
    obtain ⟨T, U, rfl, rfl, rfl⟩ := two hds
    obtain ⟨c1, c2, rfl, h1, h2⟩ := VVs2 hv
    refine ma (aAO (ty := ty) H C h1 h2 hdead h hS ?_) fun w => by simp [builtin]
    cases news with
    | nil => exact .inr rfl
    | cons o r => exact .inl (by simpa using hdead 0 (by simp))
  · rename_i d e x y hds
    obtain ⟨T, U, rfl, rfl, rfl⟩ := two hds
    obtain ⟨c1, c2, rfl, h1, h2⟩ := VVs2 hv
    obtain ⟨id, o, hh, rfl, rfl⟩ := ofM_inv h
    refine ma (sm := Builtin.copy_ #[T, U] ty #[c1, c2]) ?_ fun w => by simp [builtin]
    · obtain ⟨r, w', hr, hg⟩ := zN (U := U) (ty := ty) H (C.tab T) h1 h2 hh hS
      exact ⟨r, w', hr, by simpa [mutate, place] using hg⟩
  · rename_i d x hds
    obtain ⟨T, rfl, rfl⟩ := one hds
    obtain ⟨cx, rfl, hx⟩ := VVs1 hv
    obtain ⟨id, o, hh, rfl, rfl⟩ := ofM_inv h
    refine ma (sm := Builtin.clear_ #[T] ty #[cx]) ?_ fun w => by simp [builtin]
    · obtain ⟨r, w', hr, hg⟩ := yB (ty := ty) H (C.tab T) hx hh hS
      exact ⟨r, w', hr, by simpa [mutate, place] using hg⟩
  · cases h

theorem iO {c : Ctx} {f : FuncId} {vs : Option (List AV)} {r : Bool × D} (h : iK c f vs = some r) : ∃ us, vs = some us ∧ AV.closeds us = true ∧ c.envF f us = some r := by
  unfold iK at h
  split at h
  · rename_i us
    split at h
    · rename_i hc; exact ⟨us, rfl, hc, h⟩
    · cases h
  · cases h

theorem wG {cl : Call} (ho : o.op = .call cl) {fo : Operand} (hcal : cl.callee = .value fo) {fn : FuncId} {ca cd : Array Value} (hf : a.eval fo = .func (.func fn) ca cd) (w : World) :
    (execOp a.eval o).run P w = (callFunc fn (ca ++ cl.args.map a.eval ++ cd)).run P w := by
  simp [execOp, ho, resolve, hcal, hf, Deferred.ofValue, invoke]

/-- a call by contract -/
theorem call_to (H : HR X) {mt : Bool} {c : Ctx} (C : CtxOk P c) {f : AV} {args : List AV} {s : Nat} {S : Prop} {news : List AObj} {mm : Option (Nat × AObj)} {cl : Call} (ho : o.op = .call cl) {fo : Operand}
    (hcal : cl.callee = .value fo) (hf : VV X f (a.eval fo)) (hv : VVs X args (cl.args.map a.eval).toList)
    (hdead : ∀ j, j < news.length → X.h[s + j]? = some .dead) (h : callFD mt c s f args X.h = some (S, v, news, mm)) (hS : S) : OpTo ro P o a X.w (Good X (mutate (place X.h s news) mm) v) := by
  have hnd : ∀ c, o.op ≠ .defer c := by rw [ho]; intro c h; cases h
  unfold callFD at h
  split at h
  rotate_left
  · cases h
  rename_i q fn first cap
  simp only [VV] at hf
  obtain ⟨ca, cd, hfe, hf1, hf2⟩ := hf
  have hargs : VVs X (first ++ args ++ cap) ((ca ++ cl.args.map a.eval ++ cd).toList) := by
    rw [Array.toList_append, Array.toList_append]
    exact iV (iV hf1 hv) hf2
  have hrun := wG (P := P) ho hcal hfe X.w
  unfold callDR at h
  split at h
  · rename_i S' v' news' e
    simp only [Option.some.injEq, Prod.mk.injEq] at h
    obtain ⟨rfl, rfl, rfl, rfl⟩ := h
    obtain ⟨us, e1, e2, e3⟩ := iO e
    have hc := C.fok.spec _ _ _ _ _ _ e3 hS ⟨fun b => b < X.w.heap.size, [], [], X.w⟩ (ca ++ cl.args.map a.eval ++ cd) rfl rfl (hr0 fun _ h => h)
      (args0 H H.old (fun id _ b hb => (H.live id b hb).1) e1 e2 hargs)
    refine OpTo.enter hnd (by rw [hrun, C.fok.enter _ _ _ e3]) (hc.mono fun e w'' he => ?_)
    obtain ⟨r, rfl, Y, rfl, HY, E, rfl, hnew, hsh, HY0, hvv⟩ := he
    obtain ⟨Z1, Z2, Z3⟩ := tX H E HY0 hdead hnew
    exact ⟨⟨X.S, place X.μ s Y.μ, place X.h s Y.h, Y.w⟩, rfl, rfl, Z1, Z2, shV Z3 hsh hvv⟩
  · rename_i S' v' news' e
    split at h
    · rename_i hns
      simp only [Option.some.injEq, Prod.mk.injEq] at h
      obtain ⟨rfl, rfl, rfl, rfl⟩ := h
      obtain ⟨us, e1, e2, e3⟩ := iO e
      have hc := C.fok.spec _ _ _ _ _ _ e3 hS ⟨fun b => b < X.w.heap.size, [], [], X.w⟩ (ca ++ cl.args.map a.eval ++ cd) rfl rfl (hr0 fun _ h => h)
        (args0 H H.old (fun id _ b hb => (H.live id b hb).1) e1 e2 hargs)
      refine OpTo.enter hnd (by rw [hrun, C.fok.enter _ _ _ e3]) (hc.mono fun e w'' he => ?_)
      obtain ⟨r, rfl, Y, rfl, HY, E, hcl, hvv⟩ := he
      obtain ⟨Z1, Z2⟩ := mR H E
      exact ⟨⟨X.S, X.μ, X.h, Y.w⟩, rfl, rfl, Z1, Z2, plainV hns hvv⟩
    split at h
    · rename_i hrows
      simp only [Option.some.injEq, Prod.mk.injEq] at h
      obtain ⟨rfl, rfl, rfl, rfl⟩ := h
      obtain ⟨us, e1, e2, e3⟩ := iO e
      have hc := C.fok.spec _ _ _ _ _ _ e3 hS ⟨X.S, [], [], X.w⟩ (ca ++ cl.args.map a.eval ++ cd) rfl rfl (hr0 H.old)
        (args0 H (fun _ h => h) (by rw [hrows]; intro id hid; cases hid) e1 e2 hargs)
      refine OpTo.enter hnd (by rw [hrun, C.fok.enter _ _ _ e3]) (hc.mono fun e w'' he => ?_)
      obtain ⟨r, rfl, Y, rfl, HY, E, hcl, hvv⟩ := he
      obtain ⟨Z1, Z2⟩ := kS H E HY
      exact ⟨⟨Y.S, X.μ, X.h, Y.w⟩, rfl, rfl, Z1, Z2, closedV (X := Y) (Y := ⟨Y.S, X.μ, X.h, Y.w⟩) (fun _ h => h) (fun _ _ => rfl) hcl hvv⟩
    · rename_i id hrows
      split at h
      rotate_left
      · cases h
      simp only [Option.some.injEq, Prod.mk.injEq] at h
      obtain ⟨rfl, rfl, rfl, rfl⟩ := h
      obtain ⟨us, e1, e2, e3⟩ := iO e
      obtain ⟨H1, E1⟩ := fro_ok H (ids := AV.rowss (first ++ args ++ cap)) (fun id hid => kJ hargs id hid)
      have hc := C.fok.spec _ _ _ _ _ _ e3 hS ⟨(X.fro (AV.rowss (first ++ args ++ cap))).S, [], [], X.w⟩ (ca ++ cl.args.map a.eval ++ cd) rfl rfl (hr0 H1.old)
        (args0 H (fun _ h => .inl h) (fun id hid b hb => .inr ⟨id, hid, hb⟩) e1 e2 hargs)
      refine OpTo.enter hnd (by rw [hrun, C.fok.enter _ _ _ e3]) (hc.mono fun e w'' he => ?_)
      obtain ⟨r, rfl, Y, rfl, HY, E, hcl, hvv⟩ := he
      obtain ⟨Z1, Z2⟩ := kS (X := X.fro (AV.rowss (first ++ args ++ cap))) H1 E HY
      refine ⟨⟨Y.S, X.μ, freeze (AV.rowss (first ++ args ++ cap)) X.h, Y.w⟩, rfl, ?_, Z1, E1.trans Z2,
        closedV (X := Y) (Y := ⟨Y.S, X.μ, freeze (AV.rowss (first ++ args ++ cap)) X.h, Y.w⟩) (fun _ h => h) (fun _ _ => rfl) hcl hvv⟩
      show freeze (AV.rowss (first ++ args ++ cap)) X.h = mutate (place X.h s []) _
      rw [hrows, ← sG]
      rfl
    · cases h
  · cases h

theorem wH {d : TyD} {x : D} {S : Prop} {news : List AObj} (h : fitD d x = some (S, v, news)) : ∃ S', x = some (S', v, news) ∧ S = (S' ∧ fitP d v) := by
  unfold fitD at h
  split at h
  · cases h; exact ⟨_, rfl, rfl⟩
  · cases h

/-- what an operation is told to come to, it comes to -/
theorem mH (H : HR X) {c : Ctx} {apps : List Nat} (C : CtxOk P c) {t : List (Nat × AV)} {s : Nat} {S : Prop} {news : List AObj} {mm : Option (Nat × AObj)}
    (hv : ∀ x, x ∈ o.op.operands.toList → ∀ d, VV X (ev t d x) (a.eval x)) (hdead : ∀ j, j < news.length → X.h[s + j]? = some .dead)
    (h : opD c apps s t X.h o.op o.type = some (S, v, news, mm)) (hS : S) : OpTo ro P o a X.w (Good X (mutate (place X.h s news) mm) v) := by
  cases ho : o.op with
  | move x =>
    rw [ho] at h hv
    simp only [opD, Option.some.injEq, Prod.mk.injEq] at h
    obtain ⟨rfl, rfl, rfl, rfl⟩ := h
    exact pure_to (s := pure (a.eval x)) H (by rw [ho]; intro c h; cases h) (by simp [execOp, ho]) ⟨_, rfl, hv x (by simp [Op.operands]) _⟩
  | assign x =>
    rw [ho] at h hv
    simp only [opD, Option.some.injEq, Prod.mk.injEq] at h
    obtain ⟨rfl, rfl, rfl, rfl⟩ := h
    exact pure_to (s := pure (a.eval x)) H (by rw [ho]; intro c h; cases h) (by simp [execOp, ho]) ⟨_, rfl, hv x (by simp [Op.operands]) _⟩
  | pick cd x y =>
    rw [ho] at h hv
    obtain ⟨hh, rfl⟩ := ofD_inv h
    obtain ⟨rfl, hp⟩ := zK (P := P) (hv cd (by simp [Op.operands]) _) (hv x (by simp [Op.operands]) _) (hv y (by simp [Op.operands]) _) hh hS
    exact pure_to H (by rw [ho]; intro c h; cases h) (by simp [execOp, ho]) hp
  | alloc T =>
    rw [ho] at h hv
    simp only [opD, allocDR, Option.some.injEq, Prod.mk.injEq] at h
    obtain ⟨rfl, rfl, rfl, rfl⟩ := h
    exact made_to (by rw [ho]; intro c h; cases h) (by simp only [execOp, ho]) (xY H (C.tab T) (by simpa using hdead 0 (by simp)) hS)
  | box T x =>
    rw [ho] at h hv
    simp only [opD, boxDR, Option.some.injEq, Prod.mk.injEq] at h
    obtain ⟨rfl, rfl, rfl, rfl⟩ := h
    exact made_to (by rw [ho]; intro c h; cases h) (by simp only [execOp, ho]) (xZ (T := T) H (by simpa using hdead 0 (by simp)) hS (hv x (by simp [Op.operands]) _))
  | build T parts =>
    rw [ho] at h hv
    obtain ⟨hh, rfl⟩ := ofD_inv h
    obtain ⟨rfl, hp⟩ := xX (P := P) (cps := parts.map fun p => (p.1, a.eval p.2)) (C.tab T)
      (by rw [Array.toList_map]; exact oR (f := fun i => (c.tab T).field i) fun p hp d => hv p.2 (by simp only [Op.operands]; exact List.mem_map_of_mem hp) d) hh hS
    exact pure_to H (by rw [ho]; intro c h; cases h) (by simp only [execOp, ho]) hp
  | buildSlice T n parts =>
    rw [ho] at h hv
    obtain ⟨hh, rfl⟩ := ofD_inv h
    have hd0 : X.h[s]? = some .dead := by
      refine hdead 0 ?_
      unfold fB at hh
      split at hh
      · unfold someD at hh; split at hh
        · cases hh; simp
        · cases hh
      · cases hh
    obtain ⟨o', r, w', rfl, hr, hg⟩ := qT (P := P) (cps := parts.map fun p => (p.1, a.eval p.2)) H (C.tab T) hd0
      (by rw [Array.toList_map]; exact oR (f := fun _ => .other) fun p hp d => hv p.2 (by simp only [Op.operands]; exact List.mem_map_of_mem hp) d) hh hS
    exact made_to (by rw [ho]; intro c h; cases h) (by simp only [execOp, ho]) ⟨r, w', hr, hg⟩
  | load T x =>
    rw [ho] at h hv
    obtain ⟨hh, rfl⟩ := ofD_inv h
    obtain ⟨S', h1, rfl⟩ := wH hh
    obtain ⟨rfl, hl⟩ := pT H h1 hS.1 (hv x (by simp [Op.operands]) .ptr)
    obtain ⟨r, hr, hvv⟩ := rP (P := P) (C.tab T) hS.2 hl
    exact made_to (s := Instr.loadAt T (a.eval x)) (by rw [ho]; intro c h; cases h) (by simp only [execOp, ho]) ⟨r, X.w, hr, Good.same H rfl hvv⟩
  | store T x y =>
    rw [ho] at h hv
    obtain ⟨id, o', hh, rfl, rfl, rfl⟩ := ofH_inv h
    obtain ⟨w', hr, hg⟩ := yA H (C.tab T) (hv x (by simp [Op.operands]) .ptr) (hv y (by simp [Op.operands]) _) hh hS
    exact unit_to (by rw [ho]; intro c h; cases h) (by simp only [execOp, ho]) ⟨w', hr, by simpa [mutate, place] using hg⟩
  | nilCheck x =>
    rw [ho] at h hv
    obtain ⟨hh, rfl⟩ := ofD_inv h
    obtain ⟨rfl, r, hr, hvv⟩ := tF ho rfl (hv x (by simp [Op.operands]) .ptr) hh hS
    exact OpTo.value (by rw [ho]; intro c h; cases h) hr (Good.same H rfl hvv)
  | binOp op xt x y b =>
    rw [ho] at h hv
    have core : ofD (binD (c.tab xt) op (ev t (c.tab xt) x) (ev t (c.tab xt) y)) = some (S, v, news, mm) → OpTo ro P o a X.w (Good X (mutate (place X.h s news) mm) v) := by
      intro h
      obtain ⟨hh, rfl⟩ := ofD_inv h
      obtain ⟨rfl, hp⟩ := aAH (P := P) (ox := x) (oy := y) (C.tab xt) (C.sh xt) (hv x (by simp [Op.operands]) _) (hv y (by simp [Op.operands]) _) hh hS
      exact pure_to H (by rw [ho]; intro c h; cases h) (by simp only [execOp, ho]) hp
    simp only [opD] at h
    split at h
    · cases h
    · exact core h
  | unOp op xt x =>
    rw [ho] at h hv
    obtain ⟨hh, rfl⟩ := ofD_inv h
    obtain ⟨rfl, hp⟩ := aBx (P := P) (hv x (by simp [Op.operands]) _) hh hS
    exact pure_to H (by rw [ho]; intro c h; cases h) (by simp only [execOp, ho]) hp
  | convert s d x =>
    rw [ho] at h hv
    obtain ⟨hh, rfl⟩ := ofD_inv h
    obtain ⟨rfl, hp⟩ := zL (P := P) H (C.tab s) (C.tab d) (hv x (by simp [Op.operands]) _) hh hS
    exact pure_to H (by rw [ho]; intro c h; cases h) (by simp only [execOp, ho]) hp
  | makeInterface T x =>
    rw [ho] at h hv
    simp only [opD, whenDR] at h
    split at h
    · rename_i hk
      simp only [Option.some.injEq, Prod.mk.injEq] at h
      obtain ⟨rfl, rfl, rfl, rfl⟩ := h
      exact pure_to H (by rw [ho]; intro c h; cases h) (by simp only [execOp, ho])
        (rQ (P := P) (C.tab T) hk (hv x (by simp [Op.operands]) _) (by intro ts e; rw [e] at hk; cases hk))
    · cases h
  | makeFunc fn first cap =>
    rw [ho] at h hv
    simp only [opD, Option.some.injEq, Prod.mk.injEq] at h
    obtain ⟨rfl, rfl, rfl, rfl⟩ := h
    refine pure_to (s := Instr.makeFunc fn (first.map a.eval) (cap.map a.eval)) H (by rw [ho]; intro c h; cases h) (by simp only [execOp, ho]) ⟨.func fn (first.map a.eval) (cap.map a.eval), rfl, ?_⟩
    simp only [VV]
    refine ⟨_, _, rfl, ?_, ?_⟩
    · rw [Array.toList_map]; exact vvs_map fun p hp => hv p (by simp only [Op.operands, Array.toList_append]; exact List.mem_append_left _ hp) _
    · rw [Array.toList_map]; exact vvs_map fun p hp => hv p (by simp only [Op.operands, Array.toList_append]; exact List.mem_append_right _ hp) _
  | makeMap T r =>
    rw [ho] at h hv
    cases r with
    | some _ => cases h
    | none =>
      obtain ⟨hh, rfl⟩ := ofD_inv h
      have hd0 : X.h[s]? = some .dead := by
        refine hdead 0 ?_
        unfold gG at hh
        split at hh <;> first | (cases hh; done) | (cases hh; simp)
      obtain ⟨o', r, w', rfl, hr, hg⟩ := vH (P := P) (T := T) H hd0 hh hS
      exact made_to (by rw [ho]; intro c h; cases h) (by simp only [execOp, ho]; rfl) ⟨r, w', hr, hg⟩
  | makeSlice T l cp =>
    rw [ho] at h hv
    obtain ⟨hh, rfl⟩ := ofD_inv h
    have hd0 : X.h[s]? = some .dead := by
      refine hdead 0 ?_
      unfold gC at hh
      split at hh <;> cases hh
      simp
    obtain ⟨o', r, w', rfl, hr, hg⟩ := rW (P := P) H (C.tab T) hd0 (hv l (by simp [Op.operands]) _) (hv cp (by simp [Op.operands]) _) hh hS
    exact made_to (by rw [ho]; intro c h; cases h) (by simp only [execOp, ho]) ⟨r, w', hr, hg⟩
  | slice T x lo hi mx =>
    rw [ho] at h hv
    obtain ⟨hh, rfl⟩ := ofD_inv h
    obtain ⟨rfl, hp⟩ := xT (P := P) H (C.tab T) (hv x (by simp [Op.operands]) _)
      (opt_to (x := lo) (a := a) fun y hy => hv y (by subst hy; simp [Op.operands]) _) (opt_to (x := hi) (a := a) fun y hy => hv y (by subst hy; simp [Op.operands]) _) (opt_to (x := mx) (a := a) fun y hy => hv y (by subst hy; simp [Op.operands]) _) hh hS
    exact pure_to H (by rw [ho]; intro c h; cases h) (by simp only [execOp, ho]) hp
  | fieldAddr T x f =>
    rw [ho] at h hv
    obtain ⟨hh, rfl⟩ := ofD_inv h
    obtain ⟨rfl, hp⟩ := rS (P := P) (C.tab T) (hv x (by simp [Op.operands]) _) hh hS
    exact pure_to H (by rw [ho]; intro c h; cases h) (by simp only [execOp, ho]) hp
  | field T x f =>
    rw [ho] at h hv
    obtain ⟨hh, rfl⟩ := ofD_inv h
    obtain ⟨rfl, hp⟩ := xU (P := P) (C.tab T) (hv x (by simp [Op.operands]) _) hh hS
    exact pure_to H (by rw [ho]; intro c h; cases h) (by simp only [execOp, ho]) hp
  | indexAddr T x i =>
    rw [ho] at h hv
    obtain ⟨hh, rfl⟩ := ofD_inv h
    obtain ⟨rfl, hp⟩ := rT (P := P) H (C.tab T) (hv x (by simp [Op.operands]) _) (hv i (by simp [Op.operands]) _) hh hS
    exact pure_to H (by rw [ho]; intro c h; cases h) (by simp only [execOp, ho]) hp
  | index T x i =>
    rw [ho] at h hv
    obtain ⟨hh, rfl⟩ := ofD_inv h
    obtain ⟨rfl, hp⟩ := xW (P := P) (C.tab T) (hv x (by simp [Op.operands]) _) (hv i (by simp [Op.operands]) _) hh hS
    exact pure_to H (by rw [ho]; intro c h; cases h) (by simp only [execOp, ho]) hp
  | lookup T x k b =>
    rw [ho] at h hv
    cases b with
    | true => cases h
    | false =>
      obtain ⟨hh, rfl⟩ := ofD_inv h
      obtain ⟨rfl, hp⟩ := wE (P := P) H (C.tab T) (hv x (by simp [Op.operands]) _) (hv k (by simp [Op.operands]) _) hh hS
      exact pure_to H (by rw [ho]; intro c h; cases h) (by simp only [execOp, ho]) hp
  | mapUpdate T x k y =>
    rw [ho] at h hv
    obtain ⟨id, o', hh, rfl, rfl, rfl⟩ := ofH_inv h
    obtain ⟨w', hr, hg⟩ := oO (P := P) H (C.tab T) (hv x (by simp [Op.operands]) _) (hv k (by simp [Op.operands]) _) (hv y (by simp [Op.operands]) _) hh hS
    exact unit_to (by rw [ho]; intro c h; cases h) (by simp only [execOp, ho]) ⟨w', hr, by simpa [mutate, place] using hg⟩
  | insert T x k y =>
    rw [ho] at h hv
    obtain ⟨id, o', hh, rfl, rfl, rfl⟩ := ofH_inv h
    obtain ⟨w', hr, hg⟩ := oO (P := P) H (C.tab T) (hv x (by simp [Op.operands]) _) (hv k (by simp [Op.operands]) _) (hv y (by simp [Op.operands]) _) hh hS
    exact unit_to (by rw [ho]; intro c h; cases h) (by simp only [execOp, ho]) ⟨w', hr, by simpa [mutate, place] using hg⟩
  | extract x i =>
    rw [ho] at h hv
    obtain ⟨hh, rfl⟩ := ofD_inv h
    obtain ⟨rfl, hp⟩ := vC (P := P) (hv x (by simp [Op.operands]) _) hh hS
    exact pure_to H (by rw [ho]; intro c h; cases h) (by simp only [execOp, ho]) hp
  | call cl =>
    rw [ho] at h hv
    have hop := gW cl
    simp only [opD] at h
    split at h
    · cases h
    rename_i hl
    have hl := Nat.eq_of_beq_eq_true hl
    have hargs : VVs X (argVs c t cl) (cl.args.map a.eval).toList := by
      have := vvs_map (X := X) (f := fun p : Operand × TypeId => ev t (c.tab p.2) p.1) (g := fun p => a.eval p.1) (l := cl.args.toList.zip cl.argTypes.toList)
        fun p hp => hv p.1 (hop.1 p.1 (List.of_mem_zip hp).1) _
      rw [Array.toList_map]
      have e : (cl.args.toList.zip cl.argTypes.toList).map (fun p => a.eval p.1) = cl.args.toList.map a.eval := by
        rw [← zip_fst hl, List.map_map]
        congr 1
        rw [zip_fst hl]
      rw [← e]; exact this
    split at h
    · rename_i b hc
      obtain ⟨r, w', hr, hg⟩ := zT (ty := o.type) H C (cl.args.map fun | .const _ => true | _ => false) hargs hdead h hS
      refine OpTo.value (by rw [ho]; intro c h; cases h) ?_ hg
      simp only [Array.toArray_toList] at hr
      simp only [execOp, ho, resolve, hc, Sem.run_bind, Sem.run_pure, Result.andThen_ok, invoke]
      exact hr
    · rename_i f hc
      exact call_to H C ho hc (hv f (hop.2 f hc) _) hargs hdead h hS
    · cases h
  | _ => rw [ho] at h; cases h
end

end Lam
set_option linter.unusedVariables false
set_option linter.unnecessarySimpa false
set_option linter.unusedSectionVars false
set_option linter.unusedSimpArgs false
namespace Lam
open Go

/-! ### The objects that a value names are there -/
theorem rowO_lt {h : List AObj} {i : Nat} {r : RK × Nat × Lst} (e : rowO (h[i]?) = some r) : i < h.length := by
  rcases Nat.lt_or_ge i h.length with h1 | h1
  · exact h1
  · rw [List.getElem?_eq_none h1] at e; cases e

section
variable {X : Cx}

/-- an object is there -/
def Here (X : Cx) (id : Nat) : Prop := (∃ r, rowO (X.h[id]?) = some r) ∨ ∃ b, X.μ[id]? = some (some b)

theorem Here.lt {id : Nat} (hl : X.μ.length = X.h.length) (h : Here X id) : id < X.h.length := by
  rcases h with ⟨r, h⟩ | ⟨b, h⟩
  · exact rowO_lt h
  · rw [← hl]; exact (List.getElem?_eq_some_iff.1 h).1

theorem Here.alive {id : Nat} (H : HR X) (h : Here X id) : X.h[id]? ≠ some .dead := by
  intro e
  rcases h with ⟨r, h⟩ | ⟨b, h⟩
  · rw [e] at h; cases h
  · rw [tW H e] at h; cases h

theorem VB_here {v : AV} {c : Value} (h : VB X v c) (hf : v.scalar = true) (hn : ∀ f a b, v ≠ .fn f a b) (hi : ∀ t u, v ≠ .iface t u) : ∀ id, id ∈ v.ids → Here X id := by
  intro id hid
  cases v with
  | sref x i ver off len =>
    simp only [AV.ids, List.mem_singleton] at hid; subst hid
    obtain ⟨_, _, _, _, _, _, _, hr, _⟩ := h
    exact .inl ⟨_, hr⟩
  | ptr i p =>
    simp only [AV.ids, List.mem_singleton] at hid; subst hid
    simp only [VB] at h
    unfold PtV at h
    split at h
    · obtain ⟨_, _, _, hr, _⟩ := h; exact .inl ⟨_, hr⟩
    · obtain ⟨_, hm, _⟩ := h; exact .inr ⟨_, hm⟩
  | map i =>
    simp only [AV.ids, List.mem_singleton] at hid; subst hid
    obtain ⟨_, hm, _⟩ := h; exact .inr ⟨_, hm⟩
  | fn f a b => exact (hn _ _ _ rfl).elim
  | iface t u => exact (hi _ _ rfl).elim
  | agg _ => cases hf
  | arr _ => cases hf
  | tup _ => cases hf
  | _ => simp [AV.ids] at hid

mutual
theorem VV_here : ∀ {v : AV} {c : Value}, VV X v c → ∀ id, id ∈ v.ids → Here X id
  | .agg vs, c, h, id, hid => by
    simp only [VV] at h; obtain ⟨cs, rfl, h⟩ := h
    exact qX h id (by simpa [AV.ids] using hid)
  | .tup vs, c, h, id, hid => by
    simp only [VV] at h; obtain ⟨cs, rfl, h⟩ := h
    exact kK h id (by simpa [AV.ids] using hid)
  | .fn f a b, c, h, id, hid => by
    simp only [VV] at h; obtain ⟨x, d, rfl, h1, h2⟩ := h
    simp only [AV.ids, List.mem_append] at hid
    exact hid.elim (kK h1 id) (kK h2 id)
  | .iface t v, c, h, id, hid => by
    simp only [VV] at h; obtain ⟨u, rfl, h⟩ := h
    exact VV_here h id (by simpa [AV.ids] using hid)
  | .arr l, c, h, id, hid => by simp [AV.ids] at hid
  | .sref x i v o n, c, h, id, hid => VB_here (v := .sref x i v o n) h rfl (by intros; simp) (by intros; simp) id hid
  | .ptr i p, c, h, id, hid => VB_here (v := .ptr i p) h rfl (by intros; simp) (by intros; simp) id hid
  | .map i, c, h, id, hid => VB_here (v := .map i) h rfl (by intros; simp) (by intros; simp) id hid
  | .top, _, _, id, hid | .und, _, _, id, hid | .int _ _, _, _, id, hid | .bool _, _, _, id, hid | .str _, _, _, id, hid | .sl _ _, _, _, id, hid
  | .ep _ _ _, _, _, id, hid | .nilp, _, _, id, hid | .nilfn, _, _, id, hid | .niliface, _, _, id, hid => by simp [AV.ids] at hid
theorem kK : ∀ {vs : List AV} {cs : List Value}, VVs X vs cs → ∀ id, id ∈ AV.idss vs → Here X id
  | [], _, _, id, hid => by simp [AV.idss] at hid
  | v :: r, _, h, id, hid => by
    simp only [VVs] at h; obtain ⟨c, d, rfl, h1, h2⟩ := h
    simp only [AV.idss, List.mem_append] at hid
    exact hid.elim (VV_here h1 id) (kK h2 id)
theorem VC_here : ∀ {v : AV} {cs : List Value}, VC X v cs → ∀ id, id ∈ v.ids → Here X id
  | .agg vs, c, h, id, hid => by
    simp only [VC] at h
    exact qX h id (by simpa [AV.ids] using hid)
  | .tup vs, c, h, id, hid => by simp only [VC] at h
  | .fn f a b, c, h, id, hid => by
    simp only [VC] at h; obtain ⟨x, d, rfl, h1, h2⟩ := h
    simp only [AV.ids, List.mem_append] at hid
    exact hid.elim (kK h1 id) (kK h2 id)
  | .iface t v, c, h, id, hid => by
    simp only [VC] at h; obtain ⟨u, rfl, h⟩ := h
    exact VV_here h id (by simpa [AV.ids] using hid)
  | .arr l, c, h, id, hid => by simp [AV.ids] at hid
  | .sref x i v o n, c, h, id, hid => by simp only [VC] at h; obtain ⟨c, rfl, h⟩ := h; exact VB_here (v := .sref x i v o n) h rfl (by intros; simp) (by intros; simp) id hid
  | .ptr i p, c, h, id, hid => by simp only [VC] at h; obtain ⟨c, rfl, h⟩ := h; exact VB_here (v := .ptr i p) h rfl (by intros; simp) (by intros; simp) id hid
  | .map i, c, h, id, hid => by simp only [VC] at h; obtain ⟨c, rfl, h⟩ := h; exact VB_here (v := .map i) h rfl (by intros; simp) (by intros; simp) id hid
  | .top, _, _, id, hid | .und, _, _, id, hid | .int _ _, _, _, id, hid | .bool _, _, _, id, hid | .str _, _, _, id, hid | .sl _ _, _, _, id, hid
  | .ep _ _ _, _, _, id, hid | .nilp, _, _, id, hid | .nilfn, _, _, id, hid | .niliface, _, _, id, hid => by simp [AV.ids] at hid
theorem qX : ∀ {vs : List AV} {cs : List Value}, VCs X vs cs → ∀ id, id ∈ AV.idss vs → Here X id
  | [], _, _, id, hid => by simp [AV.idss] at hid
  | v :: r, _, h, id, hid => by
    simp only [VCs] at h; obtain ⟨c, d, rfl, h1, h2⟩ := h
    simp only [AV.idss, List.mem_append] at hid
    exact hid.elim (VC_here h1 id) (qX h2 id)
end

theorem VV_ids (hl : X.μ.length = X.h.length) {v : AV} {c : Value} (h : VV X v c) (id : Nat) (hi : id ∈ v.ids) : id < X.h.length := (VV_here h id hi).lt hl


/-! ### Room for new objects -/
def Cx.pad (X : Cx) (k : Nat) : Cx := ⟨X.S, X.μ ++ List.replicate k none, X.h ++ List.replicate k .dead, X.w⟩

theorem pad_mu {k i : Nat} (hl : X.μ.length = X.h.length) : (X.pad k).μ[i]? = if i < X.h.length then X.μ[i]? else if i < X.h.length + k then some none else none := by
  simp only [Cx.pad, List.getElem?_append, hl]
  split
  · rfl
  · split
    · rw [List.getElem?_replicate, if_pos (by omega)]
    · rw [List.getElem?_replicate, if_neg (by omega)]

theorem pad_h {k i : Nat} : (X.pad k).h[i]? = if i < X.h.length then X.h[i]? else if i < X.h.length + k then some .dead else none := by
  simp only [Cx.pad, List.getElem?_append]
  split
  · rfl
  · split
    · rw [List.getElem?_replicate, if_pos (by omega)]
    · rw [List.getElem?_replicate, if_neg (by omega)]

theorem pad_ok (H : HR X) (k : Nat) : HR (X.pad k) ∧ Ext X (X.pad k) := by
  have hm : ∀ i, (X.pad k).μ[i]? = _ := fun i => pad_mu (k := k) H.len
  have hh : ∀ i, (X.pad k).h[i]? = _ := fun i => pad_h (X := X) (k := k)
  have lt : ∀ {i : Nat} {b : Option Nat}, X.μ[i]? = some b → i < X.h.length := fun e => by rw [← H.len]; exact (List.getElem?_eq_some_iff.1 e).1
  have inv : ∀ {i b : Nat}, (X.pad k).μ[i]? = some (some b) → X.μ[i]? = some (some b) := fun {i b} e => by
    rw [hm] at e
    split at e
    · exact e
    · split at e <;> cases e
  have E : Ext X (X.pad k) := by
    refine ⟨fun _ h => h, fun _ _ => rfl, fun b hb => .inl hb, fun i b hb => .inl (inv hb), fun _ _ _ => rfl, Nat.le_refl _, fun i r ver l hl => ?_, fun i b h1 h2 => ?_, SameEnv.refl _⟩
    · have hi : i < X.h.length := rowO_lt hl
      refine ⟨r, ver, l, by rw [hh, if_pos hi]; exact hl, Nat.le_refl _, fun _ => ⟨rfl, rfl, fun b hb => ⟨by rw [hm, if_pos hi]; exact hb, Nat.le_refl _⟩⟩, fun h => ⟨h, rfl⟩⟩
    · have hi := lt h2
      exact ⟨by rw [hm, if_pos hi]; exact h2, by rw [hh, if_pos hi]; exact h1⟩
  refine ⟨⟨by simp [Cx.pad, H.len], fun i o ho => ?_, fun i j b h1 h2 => H.apart _ _ _ (inv h1) (inv h2), fun i b hb => ?_, H.old⟩, E⟩
  · rw [hh] at ho; rw [hm]
    split at ho
    · rename_i hi
      rw [if_pos hi]
      obtain ⟨b, hb, hor⟩ := H.obj i o ho
      exact ⟨b, hb, hor.ext E fun _ _ => rfl⟩
    · rename_i hi
      rw [if_neg hi]
      split at ho
      · rename_i h2
        cases ho
        exact ⟨none, by rw [if_pos h2], rfl⟩
      · cases ho
  · have hb := inv hb
    have := H.live i b hb
    refine ⟨this.1, fun hs => ?_⟩
    obtain ⟨ver, l, h1⟩ := this.2 hs
    exact ⟨ver, l, by rw [hh, if_pos (lt hb)]; exact h1⟩

theorem mI {h : List AObj} : ∀ (news : List AObj), place (h ++ List.replicate news.length .dead) h.length news = h ++ news := by
  intro news
  apply List.ext_getElem?
  intro i
  rw [jM _ _ _ (by intro _; simp)]
  simp only [List.getElem?_append]
  by_cases h1 : i < h.length
  · rw [if_neg (by omega), if_pos h1]
    simp [h1]
  · by_cases h2 : i < h.length + news.length
    · rw [if_pos (by omega), if_neg h1]
    · rw [if_neg (by omega), if_neg h1, if_neg h1, List.getElem?_eq_none (by simp; omega), List.getElem?_eq_none (by omega)]

end

end Lam
set_option linter.unusedVariables false
set_option linter.unnecessarySimpa false
set_option linter.unusedSectionVars false
set_option linter.unusedSimpArgs false
namespace Lam
open Go

/-- marks of ranges over functions -/
def Marks (base : Nat) (X : Cx) : List Deferred → Prop
  | [] => True
  | d :: ds => (∃ r, d = { target := .collected r, args := #[] } ∧ base ≤ r ∧ X.w.heap[r]? = some (.deferred (some [])) ∧ (∀ i : Nat, X.μ[i]? ≠ some (some r)) ∧ ¬ X.S r ∧ ∀ d' ∈ ds, d'.target ≠ .collected r) ∧ Marks base X ds

theorem Marks.ext {base : Nat} {X Y : Cx} (E : Ext X Y) : ∀ {ds : List Deferred}, Marks base X ds → Marks base Y ds
  | [], _ => trivial
  | d :: ds, ⟨⟨r, e, h1, h2, h3, h4, h5⟩, h⟩ => by
    have hlt : r < X.w.heap.size := (Array.getElem?_eq_some_iff.1 h2).1
    refine ⟨⟨r, e, h1, by rw [E.keep r hlt h3]; exact h2, fun i hi => ?_, fun hs => ?_, h5⟩, Marks.ext E h⟩
    · rcases E.muinv i r hi with h | h
      · exact h3 i h
      · omega
    · rcases E.new r hs with h | ⟨i, h⟩ | h
      · exact h4 h
      · exact h3 i h
      · omega

theorem Marks.lt {base : Nat} {X : Cx} : ∀ {ds : List Deferred}, Marks base X ds → ∀ d ∈ ds, ∀ {r : Nat}, d.target = .collected r → r < X.w.heap.size
  | [], _, d, hd, _, _ => by cases hd
  | d :: ds, ⟨⟨r, e, _, h2, _⟩, h⟩, d', hd', r', e' => by
    rcases List.mem_cons.1 hd' with rfl | hd'
    · rw [e] at e'
      cases e'
      exact (Array.getElem?_eq_some_iff.1 h2).1
    · exact Marks.lt h d' hd' e'

/-- the deferred calls: marks, and ahead of them what was deferred at the beginning -/
structure DB where
  sz : Nat
  base : List Deferred

def DefOk (B : DB) (X : Cx) (l : List Deferred) : Prop := ∃ m, l = m ++ B.base ∧ Marks B.sz X m

theorem DefOk.ext {B : DB} {X Y : Cx} (E : Ext X Y) {l : List Deferred} (h : DefOk B X l) : DefOk B Y l := by
  obtain ⟨m, e, hm⟩ := h
  exact ⟨m, e, hm.ext E⟩

theorem DefOk.nil {n : Nat} {X : Cx} : DefOk ⟨n, []⟩ X [] := ⟨[], rfl, trivial⟩

/-- temporaries -/
structure SR (n : Nat) (ds : DB) (X : Cx) (t : List (Nat × AV)) (a : Act) : Prop where
  v : ∀ i, VV X (get t i) (a.tmps.getD i undef)
  size : n ≤ a.tmps.size
  defers : DefOk ds X a.defers

theorem get_put (t : List (Nat × AV)) (i j : Nat) (v : AV) : get (put i v t) j = if i = j then v else get t j := by
  simp only [put, get]
  by_cases h : j = i
  · subst h; simp
  · have : Nat.beq j i = false := by rw [Bool.eq_false_iff]; intro e; exact h (Nat.eq_of_beq_eq_true e)
    rw [this, if_neg (Ne.symm h)]

section
variable {n : Nat} {ds : DB} {X Y : Cx} {t : List (Nat × AV)} {a : Act}

theorem wI (d : TyD) (v : Value) : VV X (.ofConst d v) v := by
  have hsl : VV X (match d with | .slice e => AV.sl true e.empty | _ => .top) (.slice none 0 0) := by
    cases d <;> first | trivial | skip
    rename_i e
    exact ⟨none, 0, by cases e <;> rfl, by cases e <;> simp [LK.empty, Lst.len], fun _ => by cases e <;> rfl, fun _ => rfl, fun h => (h (by cases e <;> rfl)).elim⟩
  unfold AV.ofConst
  split
  · rfl
  · rfl
  · show Value.string _ = .string (bstr _)
    rw [tH]
  · rfl
  · exact hsl
  · rfl
  · rfl
  · trivial

theorem SR.ev (h : SR n ds X t a) (x : Operand) (d : TyD) : VV X (Lam.ev t d x) (a.eval x) := by
  cases x with
  | tmp i => exact h.v i
  | const v => exact wI d v
  | global g => trivial
  | func f => exact ⟨#[], #[], rfl, by simp [VVs], by simp [VVs]⟩

theorem SR.ext (h : SR n ds X t a) (E : Ext X Y) : SR n ds Y t a := ⟨fun i => (h.v i).ext E, h.size, h.defers.ext E⟩

theorem SR.put (h : SR n ds X t a) {i : Nat} {v : AV} {c : Value} (hi : i < n) (hv : VV X v c) : SR n ds X (Lam.put i v t) (a.put (some i) c) := by
  have hs : i < a.tmps.size := Nat.lt_of_lt_of_le hi h.size
  refine ⟨fun j => ?_, by simpa [Act.put] using h.size, h.defers⟩
  rw [get_put]
  simp only [Act.put, Array.getD_eq_getD_getElem?, Array.getElem?_setIfInBounds]
  by_cases e : i = j
  · subst e; simp [hs, hv]
  · simp only [if_neg e]
    have := h.v j
    rwa [Array.getD_eq_getD_getElem?] at this

theorem SR.putO (h : SR n ds X t a) {o : Option Nat} {v : AV} {c : Value} (hi : ∀ i, o = some i → i < n) (hv : VV X v c) : SR n ds X (Lam.putO o v t) (a.put o c) := by
  cases o with
  | none => exact ⟨h.v, h.size, h.defers⟩
  | some i => exact h.put (hi i rfl) hv

/-- a temporary of which more is known -/
theorem SR.learn (h : SR n ds X t a) {i : Nat} {v : AV} (hv : VV X v (a.tmps.getD i undef)) : SR n ds X (Lam.put i v t) a := by
  refine ⟨fun j => ?_, h.size, h.defers⟩
  rw [get_put]
  by_cases e : i = j
  · subst e; simpa using hv
  · rw [if_neg e]; exact h.v j
end

/-- the end of a call, as its outcome tells -/
def OutR (Y : Cx) : AOut → Ending → Prop
  | .ret v, e => ∃ c, e = .returned c ∧ VV Y v c
  | .pan v, e => ∃ c, e = .panicked [{ v := c, recovered := false }] ∧ VV Y v c

/-- contracts of functions that are looked into -/
structure SOk (P : Program) (envS : FuncId → Con) : Prop where
  spec : ∀ f args h K, envS f args h K → ∀ (X : Cx) (cs : Array Value), HR X → X.h = h → VVs X args cs.toList →
    (∀ w, (callFunc f cs).run P w = .ok (.enter f cs) w) ∧
      Calls P f cs X.w fun e w' => ∃ Y ao, Y.w = w' ∧ HR Y ∧ Ext X Y ∧ OutR Y ao e ∧ K ao Y.h

/-- what a call of yield comes to, from a context on -/
def YOk (P : Program) (B : Cx) (l : Nat) (Yc : Con) : Prop :=
  ∀ args h K, Yc args h K → ∀ (X : Cx) (cs : Array Value), Ext B X → HR X → X.h = h → VVs X args cs.toList →
    ∃ fn tmps assign body, (Instr.yield l cs).run P X.w = .ok (.round l fn tmps assign body) X.w ∧
      ∀ n, RoundIn (FW none) n P l fn tmps assign body X.w fun e w' => ∃ Y ao, Y.w = w' ∧ HR Y ∧ Ext X Y ∧ OutR Y ao e ∧ K ao Y.h

/-- contracts of functions that are ranged over -/
structure ISOk (P : Program) (iterS : FuncId → Con → Con) : Prop where
  spec : ∀ f Yc l cap h K, iterS f Yc (.fn (.yield l) [] [] :: cap) h K → ∀ (X : Cx) (cs : Array Value), YOk P X l Yc → HR X → X.h = h → VVs X (.fn (.yield l) [] [] :: cap) cs.toList →
    (∀ w, (callFunc f cs).run P w = .ok (.enter f cs) w) ∧
      Calls P f cs X.w fun e w' => ∃ Y ao, Y.w = w' ∧ HR Y ∧ Ext X Y ∧ OutR Y ao e ∧ K ao Y.h

theorem yK {ro ro' : Option Nat} {n : Nat} {P : Program} {l : Nat} {f : FuncId} {tmps : Array Value} {assign body : Code} {w : World} {R : Ending → World → Prop}
    (h : RoundIn (FW ro) n P l f tmps assign body w R) : RoundIn (FW ro') n P l f tmps assign body w R := h

section
variable {X : Cx}

theorem aAP {x : AV} {c : Value} {n : Nat} {d : TyD} (hx : VV X x c) (h : AV.len d X.h x = some n) (hd : d.slc = true) : ∃ a cap, c = .slice a n cap ∧ (a = none → n = 0) := by
  unfold AV.len at h
  split at h
  · obtain ⟨a, cap, rfl, h1, _, h3, _⟩ := hx; cases h; exact ⟨a, cap, rfl, fun e => by have := h3 e; omega⟩
  · rename_i id ver off len
    obtain ⟨a, m, cap, rfl, k, ver', l, hl, _, h1⟩ := hx
    unfold lenO at h
    split at h
    · rename_i k2 v2 l2 hh
      rw [hh] at hl; cases hl
      split at h
      · rename_i e; cases h
        obtain ⟨rfl, h3, _, _, h5, _⟩ := h1 e
        exact ⟨a, cap, rfl, fun e => by have := h5 e; omega⟩
      · cases h
    · cases h
  · cases hd
  · cases hd
  · cases h
end

section
variable {ro : Option Nat} {P : Program} {n : Nat} {ds : DB} {X : Cx} {t : List (Nat × AV)} {a : Act} {o : Oper} {c : Ctx}

theorem tY (C : CtxOk P c) (CS : SOk P c.envS) (hdr : c.drawn = false) {B : Cx} (YY : ∀ l, YOk P B l (c.envY l)) (EB : Ext B X) (H : HR X) (R : SR n ds X t a) {K KP : AV → List AObj → Prop} {apps : List Nat} (hw : opW c apps t X.h o.op o.type K KP) (nf : Nat) {next : Act → World → Prop} {Q : Exit → Act → World → Prop}
    (hK : ∀ Y v r, HR Y → Ext X Y → K v Y.h → VV Y v r → next (a.put o.dst r) Y.w)
    (hKP : ∀ Y v r, HR Y → Ext X Y → KP v Y.h → VV Y v r → Q (.panic [{ v := r, recovered := false }]) a Y.w) :
    o.wpIn (FW ro) nf P a X.w next Q := by
  have fromD : OkD (opD c apps X.h.length t X.h o.op o.type) X.h K → o.wpIn (FW ro) nf P a X.w next Q := by
    rintro ⟨S, v, news, mm, e, hS, hk⟩
    obtain ⟨H', E'⟩ := pad_ok H news.length
    have R' := R.ext E'
    have hag : Agree X.h (X.pad news.length).h (AV.idss (opVs t o.op)) := by
      intro id hid
      obtain ⟨v, hv, hj⟩ := nJ hid
      obtain ⟨x, _, rfl⟩ := List.mem_map.1 hv
      have := VV_ids H.len (R.ev x .other) id hj
      rw [pad_h, if_pos this]
    rw [oQ hag] at e
    have hto := mH (ro := ro) (a := a) H' C (fun x _ d => R'.ev x d) (fun j hj => by rw [pad_h, if_neg (by omega), if_pos (by omega)]) e hS
    refine hto nf next Q fun r w' hg => ?_
    obtain ⟨Y, rfl, hYh, HY, EY, hv⟩ := hg
    refine hK Y v r HY (E'.trans EY) ?_ hv
    rw [hYh, show (X.pad news.length).h = X.h ++ List.replicate news.length .dead from rfl, mI]
    exact hk
  rcases opW_D hw with hd | hsp
  · exact fromD hd
  · cases hsp with
    | nilEq xt x y b hop hn hs hk =>
      unfold nilEqO at hk
      split at hk
      rotate_left
      · exact hk.elim
      rename_i m hm
      obtain ⟨ad, cap, hx, hz⟩ := aAP (R.ev x _) hm hs
      obtain ⟨e, hu⟩ : ∃ e, c.tab xt = .slice e := by
        cases h : c.tab xt <;> rw [h] at hs <;> first | exact ⟨_, rfl⟩ | cases hs
      obtain ⟨E, hu, _⟩ := fV (P := P) (T := xt) (e := e) (by rw [← hu]; exact C.tab xt)
      have hy : a.eval y = .slice none 0 0 := by
        unfold iB at hn
        split at hn
        · rfl
        · cases hn
      have hr : (execOp a.eval o).run P X.w = .ok (.value (.bool ad.isNone)) X.w := by
        have h1 : (eqGuard .eql xt x y (.slice ad m cap) (.slice none 0 0)).run P X.w = .ok () X.w := rfl
        have h2 : binOp .eql xt (.slice ad m cap) (.slice none 0 0) = (do pure (.bool (← Op.equal xt (.slice ad m cap) (.slice none 0 0)))) := rfl
        simp only [execOp, hop, hx, hy, Sem.run_bind, h1, h2, Result.andThen_ok, run_equal_slice_nil X.w xt E ad m cap hu, Sem.run_pure]
      have hto : OpTo ro P o a X.w (fun r w' => r = .bool ad.isNone ∧ w' = X.w) := OpTo.value (by rw [hop]; intro c h; cases h) hr ⟨rfl, rfl⟩
      refine hto nf next Q fun r w' hg => ?_
      obtain ⟨rfl, rfl⟩ := hg
      refine hK X (.bool ad.isNone) _ H (Ext.refl X) (hk _ fun h => hz ?_) rfl
      cases ad <;> first | rfl | cases h
    | panic x hop hk =>
      have hv := R.ev x .iface
      have : (∀ f, o.about P X.w a.eval = some f → (FW ro).fn f) := fun _ _ => trivial
      refine ⟨this, ?_⟩
      rw [Oper.semAt_eq _ _ _ (by rw [hop]; intro c h; cases h)]
      unfold panW at hk
      split at hk
      rotate_left
      · exact hk.elim
      rename_i T u hx
      rw [hx] at hv
      have hv' := hv
      simp only [VV] at hv'
      obtain ⟨z, he, _⟩ := hv'
      have hr : (execOp a.eval o).run P X.w = .halt (.panic (.iface T z)) X.w := by simp [execOp, hop, Instr.panic, he, goPanic]
      rw [hr]
      exact hKP X _ _ H (Ext.refl X) hk (by rw [← he]; exact hv)
    | call cl f hop hcal hl hk =>
      have hnd : ∀ c, o.op ≠ .defer c := by rw [hop]; intro c h; cases h
      have hop' := gW cl
      have hargs : VVs X (argVs c t cl) (cl.args.map a.eval).toList := by
        have := vvs_map (X := X) (f := fun p : Operand × TypeId => Lam.ev t (c.tab p.2) p.1) (g := fun p => a.eval p.1) (l := cl.args.toList.zip cl.argTypes.toList)
          fun p hp => R.ev p.1 _
        rw [Array.toList_map]
        have e : (cl.args.toList.zip cl.argTypes.toList).map (fun p => a.eval p.1) = cl.args.toList.map a.eval := by
          rw [← zip_fst hl, List.map_map]
          congr 1
          rw [zip_fst hl]
        rw [← e]; exact this
      have hD : OkD (callFD (appArg apps cl.args.toList) c X.h.length (Lam.ev t .func f) (argVs c t cl) X.h) X.h K → o.wpIn (FW ro) nf P a X.w next Q := by
        intro h
        apply fromD
        have hb : Nat.beq cl.args.toList.length cl.argTypes.toList.length = true := by rw [hl]; exact Nat.beq_refl _
        simp only [hop, opD, hcal, hb]
        exact h
      have hf := R.ev f .func
      unfold callW at hk
      unfold callFD at hD
      split at hk
      rotate_left
      · rename_i q l hfe
        rw [hfe] at hf
        simp only [VV] at hf
        obtain ⟨ca, cd, hfe, hf1, hf2⟩ := hf
        simp only [VVs, Array.toList_eq_nil_iff] at hf1 hf2
        subst hf1; subst hf2
        obtain ⟨fn, tmps, assign, body, hrun, hround⟩ := YY l _ _ _ hk X (cl.args.map a.eval) EB H rfl hargs
        have hrun' : (execOp a.eval o).run P X.w = .ok (.round l fn tmps assign body) X.w := by
          rw [← hrun]
          simp [execOp, hop, resolve, hcal, hfe, Deferred.ofValue, invoke]
        refine ⟨fun _ _ => trivial, ?_⟩
        rw [Oper.semAt_eq _ _ _ hnd, hrun']
        refine ⟨fun h => (by cases h), RoundIn.mono (yK (hround (nf - 1))) fun e w'' he => ?_⟩
        obtain ⟨Y, ao, rfl, HY, EY, ho, hk2⟩ := he
        cases ao with
        | ret v =>
          obtain ⟨r, rfl, hv⟩ := ho
          exact hK Y v r HY EY hk2 hv
        | pan v =>
          obtain ⟨r, rfl, hv⟩ := ho
          exact hKP Y v r HY EY hk2 hv
      · exact hk.elim
      rename_i q fn first cap hfe
      rw [hfe] at hf hD
      simp only [VV] at hf hD
      obtain ⟨ca, cd, hfe, hf1, hf2⟩ := hf
      have hall : VVs X (first ++ argVs c t cl ++ cap) ((ca ++ cl.args.map a.eval ++ cd).toList) := by
        rw [Array.toList_append, Array.toList_append]
        exact iV (iV hf1 hargs) hf2
      have hrun := wG (P := P) hop hcal hfe X.w
      unfold callR at hk
      unfold callDR at hD
      split at hk
      · rename_i S v news e
        rw [e] at hD
        exact hD ⟨_, _, _, _, rfl, hk.1, by simpa [mutate] using hk.2⟩
      · rename_i S v news e
        split at hk
        · rename_i hns
          rw [e] at hD
          simp only [hns] at hD
          exact hD ⟨_, _, _, _, rfl, hk.1, by simpa [mutate] using hk.2⟩
        · obtain ⟨us, e1, e2, e3⟩ := iO e
          obtain ⟨H1, E1⟩ := fro_ok H (ids := AV.rowss (first ++ argVs c t cl ++ cap)) (fun id hid => kJ hall id hid)
          have hc := C.fok.spec _ _ _ _ _ _ e3 hk.2.1 ⟨(X.fro (AV.rowss (first ++ argVs c t cl ++ cap))).S, [], [], X.w⟩ (ca ++ cl.args.map a.eval ++ cd) rfl rfl (hr0 H1.old)
            (args0 H (fun _ h => .inl h) (fun id hid b hb => .inr ⟨id, hid, hb⟩) e1 e2 hall)
          have hto : OpTo ro P o a X.w (fun r w' => ∃ Y, Y.w = w' ∧ HR Y ∧ Ext X Y ∧ Y.h = freeze (AV.rowss (first ++ argVs c t cl ++ cap)) X.h ∧ VV Y v r) := by
            refine OpTo.enter hnd (by rw [hrun, C.fok.enter _ _ _ e3]) (hc.mono fun e w'' he => ?_)
            obtain ⟨r, rfl, Y, rfl, HY, E, hcl, hvv⟩ := he
            obtain ⟨Z1, Z2⟩ := kS (X := X.fro (AV.rowss (first ++ argVs c t cl ++ cap))) H1 E HY
            exact ⟨⟨Y.S, X.μ, freeze (AV.rowss (first ++ argVs c t cl ++ cap)) X.h, Y.w⟩, rfl, Z1, E1.trans Z2, rfl,
              closedV (X := Y) (Y := ⟨Y.S, X.μ, freeze (AV.rowss (first ++ argVs c t cl ++ cap)) X.h, Y.w⟩) (fun _ h => h) (fun _ _ => rfl) hcl hvv⟩
          refine hto nf next Q fun r w' hg => ?_
          obtain ⟨Y, rfl, HY, EY, hYh, hv⟩ := hg
          exact hK Y v r HY EY (by rw [hYh]; exact hk.2.2) hv
      · exact hk.elim
      · obtain ⟨hent, hcal2⟩ := CS.spec _ _ _ _ hk X (ca ++ cl.args.map a.eval ++ cd) H rfl hall
        refine ⟨fun _ _ => trivial, ?_⟩
        rw [Oper.semAt_eq _ _ _ hnd, hrun, hent]
        refine ⟨fun h => (by cases h), CallsIn.mono (qN hcal2) fun e w'' he => ?_⟩
        obtain ⟨Y, ao, rfl, HY, EY, ho, hk2⟩ := he
        cases ao with
        | ret v =>
          obtain ⟨r, rfl, hv⟩ := ho
          exact hK Y v r HY EY hk2 hv
        | pan v =>
          obtain ⟨r, rfl, hv⟩ := ho
          exact hKP Y v r HY EY hk2 hv
end

end Lam
set_option linter.unusedVariables false
set_option linter.unnecessarySimpa false
set_option linter.unusedSectionVars false
set_option linter.unusedSimpArgs false
namespace Lam
open Go

/-- what is known of guards holds -/
def Kn (t : List (Nat × AV)) (kn : List (Nat × Option Bool)) : Prop :=
  ∀ g v, known g kn = some v → match v with
    | some b => get t g = .bool b
    | none => get t g = .und

theorem Kn.nil (t : List (Nat × AV)) : Kn t [] := fun g v h => by cases h

theorem sI (g i : Nat) (b : Option Bool) (kn : List (Nat × Option Bool)) : known g ((i, b) :: kn) = if g = i then some b else known g kn := by
  simp only [known]
  by_cases h : g = i
  · subst h; simp
  · have : Nat.beq g i = false := by rw [Bool.eq_false_iff]; intro e; exact h (Nat.eq_of_beq_eq_true e)
    rw [this, if_neg h]

theorem Kn.unknow {t : List (Nat × AV)} {kn : List (Nat × Option Bool)} (h : Kn t kn) (d : Option Nat) (v : AV) : Kn (putO d v t) (unknow d kn) := by
  cases d with
  | none => exact h
  | some i =>
    simp only [Lam.unknow, putO]
    split
    · rename_i e
      intro g u hg
      have := h g u hg
      have hne : ¬ i = g := by rintro rfl; rw [e] at hg; cases hg
      simpa only [get_put, if_neg hne] using this
    · exact Kn.nil _

theorem Kn.passed {t : List (Nat × AV)} {kn : List (Nat × Option Bool)} (h : Kn t kn) (d : Option Nat) : Kn (putO d .und t) (passed d kn) := by
  cases d with
  | none => exact h
  | some i =>
    simp only [Lam.passed, putO]
    split
    · rename_i e
      intro g u hg
      rw [sI] at hg
      by_cases hgi : g = i
      · rw [if_pos hgi] at hg; cases hg
        simp only [get_put, hgi, if_true]
      · rw [if_neg hgi] at hg
        have := h g u hg
        simpa only [get_put, if_neg (Ne.symm hgi)] using this
    · exact Kn.nil _

theorem Kn.learn {t : List (Nat × AV)} {kn : List (Nat × Option Bool)} (h : Kn t kn) (g : Nat) (b : Bool) : Kn (put g (.bool b) t) ((g, some b) :: kn) := by
  intro i u hi
  rw [sI] at hi
  by_cases e : i = g
  · rw [if_pos e] at hi; cases hi
    simp only [get_put, e, if_true]
  · rw [if_neg e] at hi
    have := h i u hi
    simpa only [get_put, if_neg (Ne.symm e)] using this

section
variable {n : Nat} {ds : DB} {X : Cx} {t : List (Nat × AV)} {a : Act} {ops : Array Oper}

theorem oA {j g : Nat} (h : fZ ops.toList j = some g) : (ops[j]?).bind (·.dst) = some g := by
  simpa [fZ] using h

theorem lM {j g : Nat} {b : Bool} (h : fZ ops.toList j = some g) (hv : a.tmps.getD g undef = .bool b) : yielded ops a.tmps j = some b := by
  unfold yielded
  rw [oA h]
  simp only [Option.bind_some]
  rw [Array.getD_eq_getD_getElem?] at hv
  cases hx : a.tmps[g]? with
  | none => rw [hx] at hv; simp [undef] at hv
  | some v => rw [hx] at hv; simp at hv; simp [hv]

theorem oS {j g : Nat} (h : fZ ops.toList j = some g) (hv : a.tmps.getD g undef = undef) : yielded ops a.tmps j = none := by
  unfold yielded
  rw [oA h]
  simp only [Option.bind_some]
  rw [Array.getD_eq_getD_getElem?] at hv
  cases hx : a.tmps[g]? with
  | none => rfl
  | some v => rw [hx] at hv; simp at hv; subst hv; rfl
end

section
variable {ro : Option Nat} {P : Program} {n : Nat} {ds : DB} {c : Ctx}

theorem tZ {a : Act} (o : Option Nat) (q : Value) {i : Nat} (h : o ≠ some i) : (a.put o q).tmps.getD i undef = a.tmps.getD i undef := by
  cases o with
  | none => rfl
  | some j =>
    have hji : j ≠ i := fun e => h (by rw [e])
    simp [Act.put, Array.getD_eq_getD_getElem?, Array.getElem?_setIfInBounds, hji]

theorem sJ {a : Act} (o : Option Nat) (q : Value) : (a.put o q).defers = a.defers := by cases o <;> rfl

theorem iF {apps : List Nat} (C : CtxOk P c) (CS : SOk P c.envS) (hdr : c.drawn = false) {B : Cx} (YY : ∀ l, YOk P B l (c.envY l)) (nf : Nat) (ops : Array Oper) {KP : List (Nat × AV) → AV → List AObj → Prop} {κ : List (Nat × AV) → List AObj → Prop} {Q : Exit → Act → World → Prop} {rest : List Oper} :
    ∀ (r : List Oper) (kn : List (Nat × Option Bool)) (t : List (Nat × AV)) (X : Cx) (a : Act), (∀ o ∈ r, ∀ i, o.dst = some i → i < n) → Kn t kn → Ext B X → HR X → SR n ds X t a → opsW c apps ops.toList KP κ r kn t X.h →
      (∀ Y t' a', HR Y → Ext X Y → SR n ds Y t' a' → ((∀ i, (∀ o ∈ r, o.dst ≠ some i) → a'.tmps.getD i undef = a.tmps.getD i undef) ∧ a'.defers = a.defers) → κ t' Y.h → wpListIn (FW ro) nf P ops Q rest a' Y.w) →
      (∀ Y t' v q a', HR Y → Ext X Y → SR n ds Y t' a' → KP t' v Y.h → VV Y v q → Q (.panic [{ v := q, recovered := false }]) a' Y.w) →
      wpListIn (FW ro) nf P ops Q (r ++ rest) a X.w
  | [], kn, t, X, a, _, _, EB, H, R, hw, hk, _ => hk X t a H (Ext.refl X) R ⟨fun _ _ => rfl, rfl⟩ hw
  | o :: r, kn, t, X, a, hd, hkn, EB, H, R, hw, hk, hkp => by
    have hdo := hd o (by simp)
    have hdr' : ∀ o ∈ r, ∀ i, o.dst = some i → i < n := fun o' h => hd o' (by simp [h])
    have step : ∀ (t : List (Nat × AV)) (kn : List (Nat × Option Bool)), Kn t kn → SR n ds X t a → opW c apps t X.h o.op o.type (fun v h' => opsW c apps ops.toList KP κ r (unknow o.dst kn) (putO o.dst v t) h') (KP t) →
        o.wpIn (FW ro) nf P a X.w (wpListIn (FW ro) nf P ops Q (r ++ rest)) Q := by
      intro t kn hkn R hw
      refine tY C CS hdr YY EB H R hw nf (fun Y v q HY EY hk1 hv => ?_) (fun Y v q HY EY hk1 hv => hkp Y t v q a HY EY (R.ext EY) hk1 hv)
      refine iF C CS hdr YY nf ops r _ _ Y (a.put o.dst q) hdr' (hkn.unknow o.dst v) (EB.trans EY) HY ((R.ext EY).putO hdo hv) hk1 (fun Z t' a' HZ EZ RZ hs h => hk Z t' a' HZ (EY.trans EZ) RZ ⟨fun i hi => (hs.1 i fun o ho => hi o (by simp [ho])).trans (tZ _ _ (hi o (by simp))), hs.2.trans (sJ _ _)⟩ h)
        (fun Z t2 v q a' HZ EZ h1 h3 h4 => hkp Z t2 v q a' HZ (EY.trans EZ) h1 h3 h4)
    have pass : ∀ (t : List (Nat × AV)) (kn : List (Nat × Option Bool)), Kn t kn → SR n ds X t a → opsW c apps ops.toList KP κ r (passed o.dst kn) (putO o.dst .und t) X.h →
        (∀ f, o.about P X.w a.eval = some f → (FW ro).fn f) ∧ wpListIn (FW ro) nf P ops Q (r ++ rest) (a.put o.dst undef) X.w := by
      intro t kn hkn R hw
      refine ⟨fun _ _ => trivial, ?_⟩
      exact iF C CS hdr YY nf ops r _ _ X (a.put o.dst undef) hdr' (hkn.passed o.dst) EB H (R.putO hdo rfl) hw (fun Z t' a' HZ EZ RZ hs h => hk Z t' a' HZ EZ RZ ⟨fun i hi => (hs.1 i fun o ho => hi o (by simp [ho])).trans (tZ _ _ (hi o (by simp))), hs.2.trans (sJ _ _)⟩ h) hkp
    rw [List.cons_append]
    simp only [wpListIn]
    simp only [opsW] at hw
    split at hw
    · rename_i hg
      have : Region.wanted o (yielded ops a.tmps) = true := by simp [Region.wanted, hg]
      rw [if_pos this]
      exact step t kn hkn R hw
    · rename_i j want hg
      have wt : ∀ b, yielded ops a.tmps j = some b → Region.wanted o (yielded ops a.tmps) = (b == want) := by
        intro b hb; simp [Region.wanted, hg, hb]
      have wn : yielded ops a.tmps j = none → Region.wanted o (yielded ops a.tmps) = false := by
        intro hb; simp [Region.wanted, hg, hb]
      split at hw
      · exact hw.elim
      · rename_i g hgt
        split at hw
        · rename_i b hb
          have hv := R.v g
          rw [hkn g _ hb] at hv
          have hy := lM hgt hv
          split at hw
          · rename_i e
            rw [if_pos (by rw [wt b hy]; exact e)]
            exact step t kn hkn R hw
          · rename_i e
            rw [if_neg (by rw [wt b hy, e]; simp)]
            exact pass t kn hkn R hw
        · rename_i hb
          have hv := R.v g
          rw [hkn g _ hb] at hv
          have hy := oS hgt hv
          rw [if_neg (by rw [wn hy]; simp)]
          exact pass t kn hkn R hw
        · unfold guardW at hw
          split at hw
          rotate_left
          · exact hw.elim
          rename_i b hb
          have hv := R.v g
          rw [hb] at hv
          have hy := lM hgt hv
          by_cases e : b = want
          · subst e
            rw [if_pos (by rw [wt b hy]; simp)]
            exact step _ _ (hkn.learn g b) (R.learn hv) (hw.1 rfl)
          · have e' : b = !want := by cases b <;> cases want <;> simp_all
            rw [if_neg (by rw [wt b hy]; simpa using e)]
            refine pass _ _ (hkn.learn g (!want)) (R.learn (by rw [← e']; exact hv)) (hw.2 e')
theorem wJ : ∀ (r : List Oper) (t : List (Nat × AV)) (i : Nat), get (topD r t) i = .top ∨ ((∀ o ∈ r, o.dst ≠ some i) ∧ get (topD r t) i = get t i)
  | [], t, i => .inr ⟨fun o h => by simp at h, rfl⟩
  | o :: r, t, i => by
    simp only [topD]
    have ih := wJ r t i
    split
    · rename_i j hj
      rw [get_put]
      by_cases e : j = i
      · rw [if_pos e]; exact .inl rfl
      · rw [if_neg e]
        refine ih.imp id fun ⟨h1, h2⟩ => ⟨fun o' ho' => ?_, h2⟩
        rcases List.mem_cons.1 ho' with rfl | ho'
        · rw [hj]; intro h; cases h; exact e rfl
        · exact h1 o' ho'
    · rename_i hj
      refine ih.imp id fun ⟨h1, h2⟩ => ⟨fun o' ho' => ?_, h2⟩
      rcases List.mem_cons.1 ho' with rfl | ho'
      · rw [hj]; intro h; cases h
      · exact h1 o' ho'

/-- what is told of temporaries behind a part -/
def backT (L : List Nat) (t' t : List (Nat × AV)) : List (Nat × AV) :=
  match L with
  | [] => t
  | i :: L => backT L t' (put i (get t' i) t)

theorem wK : ∀ (L : List Nat) (f : List (Nat × AV) → List AObj → Prop) (t t' : List (Nat × AV)) (h : List AObj), appJ L (mkJ L f t) t' h = f (backT L t' t) h
  | [], f, t, t', h => rfl
  | i :: L, f, t, t', h => by
    simp only [appJ, mkJ, backT]
    exact wK L f _ t' h

theorem uA : ∀ (L : List Nat) (t' t : List (Nat × AV)) (i : Nat), get (backT L t' t) i = get t' i ∨ get (backT L t' t) i = get t i
  | [], t', t, i => .inr rfl
  | j :: L, t', t, i => by
    simp only [backT]
    rcases uA L t' (put j (get t' j) t) i with h | h
    · exact .inl h
    · rw [h, get_put]
      by_cases e : j = i
      · subst e; rw [if_pos rfl]; exact .inl rfl
      · rw [if_neg e]; exact .inr rfl

theorem mS (C : CtxOk P c) (CS : SOk P c.envS) (hdr : c.drawn = false) {B : Cx} (YY : ∀ l, YOk P B l (c.envY l)) (nf : Nat) (ops : Array Oper) {KP : List (Nat × AV) → AV → List AObj → Prop} {κ : List (Nat × AV) → List AObj → Prop} {Q : Exit → Act → World → Prop} :
    ∀ (cs : List (Nat × Option (List Nat))) (r : List Oper) (t : List (Nat × AV)) (X : Cx) (a : Act), (∀ o ∈ r, ∀ i, o.dst = some i → i < n) → Ext B X → HR X → SR n ds X t a → cutsW c ops.toList KP κ cs r t X.h →
      (∀ Y t' a', HR Y → Ext X Y → SR n ds Y t' a' → κ t' Y.h → Q .normal a' Y.w) →
      (∀ Y t' v q a', HR Y → Ext X Y → SR n ds Y t' a' → KP t' v Y.h → VV Y v q → Q (.panic [{ v := q, recovered := false }]) a' Y.w) →
      wpListIn (FW ro) nf P ops Q r a X.w
  | [], r, t, X, a, hd, EB, H, R, hw, hk, hkp => by
    have := iF (ro := ro) (rest := []) C CS hdr YY nf ops r [] t X a hd (Kn.nil t) EB H R hw (fun Y t' a' HY EY RY _ h => by
      show Q .normal a' Y.w
      exact hk Y t' a' HY EY RY h) hkp
    simpa using this
  | (m, L) :: cs, r, t, X, a, hd, EB, H, R, hw, hk, hkp => by
    have hd1 : ∀ o ∈ r.take m, ∀ i, o.dst = some i → i < n := fun o ho => hd o (List.mem_of_mem_take ho)
    have hd2 : ∀ o ∈ r.drop m, ∀ i, o.dst = some i → i < n := fun o ho => hd o (List.mem_of_mem_drop ho)
    rw [← List.take_append_drop m r]
    simp only [cutsW] at hw
    split at hw
    · exact iF (rest := r.drop m) C CS hdr YY nf ops (r.take m) [] t X a hd1 (Kn.nil t) EB H R hw (fun Y t' a' HY EY RY _ h =>
        mS C CS hdr YY nf ops cs (r.drop m) t' Y a' hd2 (EB.trans EY) HY RY h (fun Z t'' a'' HZ EZ RZ h => hk Z t'' a'' HZ (EY.trans EZ) RZ h) (fun Z t2 v q a'' HZ EZ h1 h3 h4 => hkp Z t2 v q a'' HZ (EY.trans EZ) h1 h3 h4)) hkp
    · rename_i L
      unfold joinW at hw
      refine iF (rest := r.drop m) C CS hdr YY nf ops (r.take m) [] t X a hd1 (Kn.nil t) EB H R hw (fun Y t' a' HY EY RY hs h => ?_) hkp
      rw [wK] at h
      refine mS C CS hdr YY nf ops cs (r.drop m) _ Y a' hd2 (EB.trans EY) HY ⟨fun i => ?_, RY.size, RY.defers⟩ h (fun Z t'' a'' HZ EZ RZ h => hk Z t'' a'' HZ (EY.trans EZ) RZ h) (fun Z t2 v q a'' HZ EZ h1 h3 h4 => hkp Z t2 v q a'' HZ (EY.trans EZ) h1 h3 h4)
      rcases uA L t' (topD (r.take m) t) i with e | e
      · rw [e]; exact RY.v i
      · rw [e]
        rcases wJ (r.take m) t i with e | ⟨h1, e⟩
        · rw [e]; trivial
        · rw [e, hs.1 i h1]; exact (R.v i).ext EY

end

end Lam
set_option linter.unusedVariables false
set_option linter.unnecessarySimpa false
set_option linter.unusedSectionVars false
set_option linter.unusedSimpArgs false
namespace Lam
open Go

/-- the objects from n on are given away by value -/
def Cx.drop (X : Cx) (n : Nat) : Cx := ⟨fun b => X.S b ∨ ∃ i, n ≤ i ∧ X.μ[i]? = some (some b), X.μ.take n, normH n X.h, X.w⟩

theorem zU (n : Nat) (h : List AObj) (o : Option AObj) : rowO (o.map (normO n h)) = rowO o := by
  cases o with
  | none => rfl
  | some o => cases o <;> rfl

section
variable {X : Cx} {n : Nat}

theorem drop_h (i : Nat) : (X.drop n).h[i]? = if i < n then (X.h[i]?).map (normO n X.h) else none := by
  simp only [Cx.drop, normH, List.getElem?_map, List.getElem?_take]
  split <;> rfl

theorem drop_mu (i : Nat) : (X.drop n).μ[i]? = if i < n then X.μ[i]? else none := by
  simp only [Cx.drop, List.getElem?_take]

theorem jH {i : Nat} (hi : i < n) : rowO ((X.drop n).h[i]?) = rowO (X.h[i]?) := by
  rw [drop_h, if_pos hi, zU]

theorem drop_S {b : Nat} (h : X.S b) : (X.drop n).S b := .inl h

theorem uB (H : HR X) {x : Bool} {id ver off len : Nat} {c : Value} (h : SrV X x id ver off len c) :
    VB (X.drop n) (normR n (X.h[id]?) id ver off len) c ∧ ((normR n (X.h[id]?) id ver off len).scalar = true ∧ (∀ f a b, normR n (X.h[id]?) id ver off len ≠ .fn f a b) ∧ (∀ t u, normR n (X.h[id]?) id ver off len ≠ .iface t u)) := by
  have h0 := h
  obtain ⟨a, m, cap, rfl, k, ver', l, hl, hv, g⟩ := h
  have hr := gK hl
  by_cases e : ver = ver'
  · by_cases hi : id < n
    · simp only [normR, hr, if_pos e, if_pos hi]
      refine ⟨⟨a, m, cap, rfl, k, ver', l, by rw [jH hi]; exact hl, hv, fun e => ?_⟩, rfl, by intros; simp, by intros; simp⟩
      obtain ⟨g1, g2, g3, g4, g5, g6⟩ := g e
      refine ⟨g1, g2, g3, fun h => (by cases h), g5, fun hn => ?_⟩
      obtain ⟨b, q1, q2, q3⟩ := g6 hn
      exact ⟨b, by rw [drop_mu, if_pos hi]; exact q1, q2, q3⟩
    · have hlo : listO (X.h[id]?) ver off len = some (l.cut off len) := by rw [hr]; simp [listO, e]
      have := qV (Y := X.drop n) H h0 hlo fun b hb => ⟨.inr ⟨id, by omega, hb⟩, rfl⟩
      simp only [normR, hr, if_pos e, if_neg hi]
      exact ⟨this, rfl, by intros; simp, by intros; simp⟩
  · simp only [normR, hr, if_neg e]
    exact ⟨trivial, rfl, by intros; simp, by intros; simp⟩

theorem wL {X : Cx} {v : AV} {c : Value} (h : VB X v c) (hs : v.scalar = true ∧ (∀ f a b, v ≠ .fn f a b) ∧ (∀ t u, v ≠ .iface t u)) : VV X v c := by
  obtain ⟨h1, h2, h3⟩ := hs
  cases v <;> first | exact h | (cases h1; done) | exact (h2 _ _ _ rfl).elim | exact (h3 _ _ rfl).elim

theorem wM {X : Cx} {v : AV} {c : Value} (h : VB X v c) (hc : c.oneCell' = true) (hs : v.scalar = true ∧ (∀ f a b, v ≠ .fn f a b) ∧ (∀ t u, v ≠ .iface t u)) (hu : v ≠ .und) : VC X v [c] := by
  obtain ⟨h1, h2, h3⟩ := hs
  cases v <;> first | (simp only [VC]; exact ⟨c, rfl, h⟩) | (simp only [VC]; exact ⟨c, rfl, hc⟩) | (cases h1; done) | exact (h2 _ _ _ rfl).elim | exact (h3 _ _ rfl).elim | exact (hu rfl).elim

theorem aAQ (n : Nat) (o : Option AObj) (id ver off len : Nat) : normR n o id ver off len ≠ .und := by
  unfold normR; split
  · split
    · split <;> simp
    · simp
  · simp

theorem wN {id : Nat} {p : List PS} {c : Value} (hi : id < n) (h : PtV X id p c) : PtV (X.drop n) id p c := by
  have fin : ∀ p, (∃ b, X.μ[id]? = some (some b) ∧ c = .pointer (some ⟨b, offs p, none⟩) ∧ ∀ k ver l, rowO (X.h[id]?) = some (k, ver, l) → k ≠ .own) →
      ∃ b, (X.drop n).μ[id]? = some (some b) ∧ c = .pointer (some ⟨b, offs p, none⟩) ∧ ∀ k ver l, rowO ((X.drop n).h[id]?) = some (k, ver, l) → k ≠ .own := by
    rintro p ⟨b, q1, q2, q3⟩
    exact ⟨b, by rw [drop_mu, if_pos hi]; exact q1, q2, by rw [jH hi]; exact q3⟩
  cases p with
  | nil => exact fin _ h
  | cons q r => cases q with
    | f _ _ => exact fin _ h
    | i _ _ _ =>
      obtain ⟨k, ver', l, hl, hv, ho, g⟩ := h
      exact ⟨k, ver', l, by rw [jH hi]; exact hl, hv, ho, fun e => by obtain ⟨b, q1, q2⟩ := g e; exact ⟨b, by rw [drop_mu, if_pos hi]; exact q1, q2⟩⟩

mutual
theorem normV (H : HR X) : ∀ {v : AV} {c : Value}, VV X v c → VV (X.drop n) (v.norm n X.h) c
  | .agg vs, c, h => by
    simp only [AV.norm, VV] at h ⊢
    obtain ⟨cs, rfl, h⟩ := h
    exact ⟨cs, rfl, normC H h⟩
  | .tup vs, c, h => by
    simp only [AV.norm, VV] at h ⊢
    obtain ⟨cs, rfl, h⟩ := h
    exact ⟨cs, rfl, normVs H h⟩
  | .fn f first cap, c, h => by
    simp only [AV.norm, VV] at h ⊢
    obtain ⟨a, d, rfl, h1, h2⟩ := h
    exact ⟨a, d, rfl, normVs H h1, normVs H h2⟩
  | .iface t v, c, h => by
    simp only [AV.norm, VV] at h ⊢
    obtain ⟨u, rfl, h⟩ := h
    exact ⟨u, rfl, normV H h⟩
  | .sref x id ver off len, c, h => by
    simp only [AV.norm]
    have := uB (n := n) H (x := x) (id := id) (ver := ver) (off := off) (len := len) h
    exact wL this.1 this.2
  | .sl x l, c, h => by
    obtain ⟨a, cap, rfl, h1, h2, h3, h4⟩ := h
    exact ⟨a, cap, rfl, h1, fun h => (by cases h), h3, fun hn => by obtain ⟨ad, q1, q2, q3, q4⟩ := h4 hn; exact ⟨ad, q1, q2, drop_S q3, q4⟩⟩
  | .ptr id p, c, h => by
    simp only [AV.norm]
    split
    · rename_i hi; exact wN hi h
    · trivial
  | .map id, c, h => by
    simp only [AV.norm]
    split
    · rename_i hi
      obtain ⟨b, q1, q2, q3⟩ := h
      exact ⟨b, by rw [drop_mu, if_pos hi]; exact q1, q2, by rw [jH hi]; exact q3⟩
    · trivial
  | .ep l i fs, c, h => by
    obtain ⟨b, o, q1, q2, q3, q4⟩ := h
    exact ⟨b, o, q1, q2, drop_S q3, q4⟩
  | .arr l, _, h => h
  | .top, _, _ => trivial
  | .und, _, h => h
  | .int _ _, _, h => h
  | .bool _, _, h => h
  | .str _, _, h => h
  | .nilp, _, h => h
  | .nilfn, _, h => h
  | .niliface, _, h => h
theorem normVs (H : HR X) : ∀ {vs : List AV} {cs : List Value}, VVs X vs cs → VVs (X.drop n) (AV.norms n X.h vs) cs
  | [], _, h => by simpa only [VVs, AV.norms] using h
  | v :: r, _, h => by
    simp only [AV.norms, VVs] at h ⊢
    obtain ⟨c, d, rfl, g1, g2⟩ := h
    exact ⟨c, d, rfl, normV H g1, normVs H g2⟩
theorem normVC (H : HR X) : ∀ {v : AV} {cs : List Value}, VC X v cs → VC (X.drop n) (v.norm n X.h) cs
  | .agg vs, c, h => by
    simp only [AV.norm, VC] at h ⊢
    exact normC H h
  | .tup vs, c, h => by simp only [VC] at h
  | .fn f first cap, c, h => by
    simp only [AV.norm, VC] at h ⊢
    obtain ⟨a, d, rfl, h1, h2⟩ := h
    exact ⟨a, d, rfl, normVs H h1, normVs H h2⟩
  | .iface t v, c, h => by
    simp only [AV.norm, VC] at h ⊢
    obtain ⟨u, rfl, h⟩ := h
    exact ⟨u, rfl, normV H h⟩
  | .sref x id ver off len, cs, h => by
    simp only [VC] at h
    obtain ⟨c, rfl, h⟩ := h
    simp only [AV.norm]
    have := uB (n := n) H (x := x) (id := id) (ver := ver) (off := off) (len := len) h
    exact wM this.1 (VB_ones (v := .sref x id ver off len) h rfl) this.2 (aAQ _ _ _ _ _ _)
  | .sl x l, cs, h => by
    simp only [VC] at h ⊢
    obtain ⟨c, rfl, h⟩ := h
    simp only [AV.norm, VC]
    exact ⟨c, rfl, normV H (v := .sl x l) h⟩
  | .ptr id p, cs, h => by
    simp only [VC] at h
    obtain ⟨c, rfl, h⟩ := h
    simp only [AV.norm]
    split
    · rename_i hi; simp only [VC]; exact ⟨c, rfl, wN hi h⟩
    · simp only [VC]; exact ⟨c, rfl, VB_ones (v := .ptr id p) h rfl⟩
  | .map id, cs, h => by
    simp only [VC] at h
    obtain ⟨c, rfl, h⟩ := h
    simp only [AV.norm]
    split
    · rename_i hi
      simp only [VC]
      obtain ⟨b, q1, q2, q3⟩ := h
      exact ⟨c, rfl, b, by rw [drop_mu, if_pos hi]; exact q1, q2, by rw [jH hi]; exact q3⟩
    · simp only [VC]; exact ⟨c, rfl, VB_ones (v := .map id) h rfl⟩
  | .ep l i fs, cs, h => by
    simp only [AV.norm, VC] at h ⊢
    obtain ⟨c, rfl, b, o, q1, q2, q3, q4⟩ := h
    exact ⟨c, rfl, b, o, q1, q2, drop_S q3, q4⟩
  | .arr l, _, h => by simpa only [AV.norm, VC] using h
  | .top, _, h => by simpa only [AV.norm, VC] using h
  | .und, _, h => by simp only [VC] at h
  | .int _ _, _, h => by simp only [AV.norm, VC] at h ⊢; obtain ⟨c, rfl, h⟩ := h; exact ⟨c, rfl, h⟩
  | .bool _, _, h => by simp only [AV.norm, VC] at h ⊢; obtain ⟨c, rfl, h⟩ := h; exact ⟨c, rfl, h⟩
  | .str _, _, h => by simp only [AV.norm, VC] at h ⊢; obtain ⟨c, rfl, h⟩ := h; exact ⟨c, rfl, h⟩
  | .nilp, _, h => by simp only [AV.norm, VC] at h ⊢; obtain ⟨c, rfl, h⟩ := h; exact ⟨c, rfl, h⟩
  | .nilfn, _, h => by simp only [AV.norm, VC] at h ⊢; obtain ⟨c, rfl, h⟩ := h; exact ⟨c, rfl, h⟩
  | .niliface, _, h => by simp only [AV.norm, VC] at h ⊢; obtain ⟨c, rfl, h⟩ := h; exact ⟨c, rfl, h⟩
theorem normC (H : HR X) : ∀ {vs : List AV} {cs : List Value}, VCs X vs cs → VCs (X.drop n) (AV.norms n X.h vs) cs
  | [], _, h => by simpa only [VCs, AV.norms] using h
  | v :: r, _, h => by
    simp only [AV.norms, VCs] at h ⊢
    obtain ⟨c, d, rfl, g1, g2⟩ := h
    exact ⟨c, d, rfl, normVC H g1, normC H g2⟩
end

theorem drop_hr (H : HR X) : HR (X.drop n) := by
  refine ⟨by simp [Cx.drop, normH, H.len], fun i o ho => ?_, fun i j b h1 h2 => ?_, fun i b hb => ?_, fun b hb => ?_⟩
  · rw [drop_h] at ho; rw [drop_mu]
    split at ho
    · rename_i hi
      rw [if_pos hi]
      cases hx : X.h[i]? with
      | none => rw [hx] at ho; cases ho
      | some o' =>
        rw [hx] at ho; cases ho
        obtain ⟨b, hb, hor⟩ := H.obj i o' hx
        refine ⟨b, hb, ?_⟩
        cases o' with
        | box v =>
          obtain ⟨b', cs, elem, rfl, q1, q2⟩ := hor
          exact ⟨b', cs, elem, rfl, q1, normVC H q2⟩
        | row k ver l =>
          rcases hor with hor | ⟨b', cs, elem, rfl, q1, q2, q3⟩
          · exact .inl hor
          · exact .inr ⟨b', cs, elem, rfl, q1, q2, fun hk => drop_S (q3 hk)⟩
        | map m => exact hor
        | lp st pd r => exact hor
        | dead => exact hor
    · cases ho
  · rw [drop_mu] at h1 h2
    split at h1
    · split at h2
      · exact H.apart _ _ _ h1 h2
      · cases h2
    · cases h1
  · rw [drop_mu] at hb
    split at hb
    · rename_i hi
      refine ⟨(H.live _ _ hb).1, fun hs => ?_⟩
      rcases hs with hs | ⟨j, hj, hs⟩
      · obtain ⟨ver, l, e⟩ := (H.live _ _ hb).2 hs
        exact ⟨ver, l, by rw [drop_h, if_pos hi, e]; rfl⟩
      · have := H.apart _ _ _ hb hs; omega
    · cases hb
  · rcases hb with hb | ⟨j, _, hb⟩
    · exact H.old b hb
    · exact (H.live _ _ hb).1

theorem Marks.drop {base : Nat} : ∀ {ds : List Deferred}, Marks base X ds → Marks base (X.drop n) ds
  | [], _ => trivial
  | d :: ds, ⟨⟨r, e, h1, h2, h3, h4, h5⟩, h⟩ => by
    refine ⟨⟨r, e, h1, h2, fun i hi => ?_, fun hs => ?_, h5⟩, Marks.drop h⟩
    · rw [drop_mu] at hi
      split at hi
      · exact h3 i hi
      · cases hi
    · rcases hs with hs | ⟨i, _, hs⟩
      · exact h4 hs
      · exact h3 i hs

theorem DefOk.drop {B : DB} {l : List Deferred} (h : DefOk B X l) : DefOk B (X.drop n) l := by
  obtain ⟨m, e, hm⟩ := h
  exact ⟨m, e, hm.drop⟩

theorem nK {X0 : Cx} (H0 : HR X0) (E : Ext X0 X) (hl : X0.h.length ≤ n) : Ext X0 (X.drop n) := by
  refine ⟨fun b h => drop_S (E.S b h), E.cells, fun b hb => ?_, fun i b hb => ?_, E.keep, E.grow, fun i k ver l hr => ?_, fun i b h1 h2 => ?_, E.env⟩
  · rcases hb with hb | ⟨j, _, hb⟩
    · exact E.new b hb
    · rcases E.muinv j b hb with h | h
      · exact .inr (.inl ⟨j, h⟩)
      · exact .inr (.inr h)
  · rw [drop_mu] at hb
    split at hb
    · exact E.muinv i b hb
    · cases hb
  · have hi : i < n := Nat.lt_of_lt_of_le (rowO_lt hr) hl
    obtain ⟨k', ver', l', h1, h2, h3, h4⟩ := E.row i k ver l hr
    refine ⟨k', ver', l', by rw [jH hi]; exact h1, h2, fun e => ?_, h4⟩
    obtain ⟨g1, g2, g3⟩ := h3 e
    refine ⟨g1, g2, fun b hb => ?_⟩
    obtain ⟨q1, q2⟩ := g3 b hb
    exact ⟨by rw [drop_mu, if_pos hi]; exact q1, q2⟩
  · have hi : i < n := by
      have : i < X0.μ.length := (List.getElem?_eq_some_iff.1 h2).1
      rw [H0.len] at this; omega
    obtain ⟨q1, q2⟩ := E.oth i b h1 h2
    exact ⟨by rw [drop_mu, if_pos hi]; exact q1, by rw [jH hi]; exact q2⟩
end

end Lam
set_option linter.unnecessarySimpa false
set_option linter.unusedSectionVars false
set_option linter.unusedSimpArgs false
set_option linter.unusedVariables false
namespace Lam
open Go

section
variable {P : Program} {b : Frame} {a : Act} {k : List Item} {cs : List Frame} {w : World}
theorem gJ {c : Code} : step P (lone (b.atR a (.code (.scope c) :: k)) cs w) = .next (lone (b.atR a (.code c :: .inScope c :: k)) cs w) :=
  step_lone_go (by simp [stepG, stepG.exec, Frame.atR])
theorem oB {c : Code} : step P (lone (b.atR a (.inScope c :: k)) cs w) = .next (lone (b.atR a k) cs w) :=
  step_lone_go (by simp [stepG, stepG.exec, Frame.atR])
end

/-- a goto to a label of c goes there; all else as Q -/
def jumpS (c : Code) (J : Nat → Act → World → Prop) (Q : Exit → Act → World → Prop) : Exit → Act → World → Prop
  | .goto l, a, w => if (findLabel c l).isSome = true then J l a w else Q (.goto l) a w
  | e, a, w => Q e a w

def noGoto (Q : Exit → Act → World → Prop) : Exit → Act → World → Prop
  | .goto _, _, _ => False
  | e, a, w => Q e a w

section
variable {F : Fence} {n : Nat} {P : Program} {a : Act} {w : World} {Q : Exit → Act → World → Prop}

theorem zV {c : Code} (J : Nat → Act → World → Prop) (first : c.wpIn F n P (jumpS c J Q) a w)
    (pass : ∀ l rest a w, findLabel c l = some rest → J l a w → rest.wpIn F n P (noGoto Q) a w) : (Code.scope c).wpIn F n P Q a w := by
  intro b k cs hro hb hr
  have h0 : (lone (b.atR a (.code (.scope c) :: k)) cs w).fenced P F := fenced_calm hb hr rfl
  obtain ⟨e, a₁, w₁, hq, harr⟩ := first b (.inScope c :: k) cs hro hb hr
  cases e with
  | normal => exact ⟨.normal, a₁, w₁, hq, .head h0 gJ (StepsIn.trans harr (.one (fenced_calm hb hr rfl) oB))⟩
  | exit id =>
    have hx : exitTo id (.inScope c :: k) = exitTo id k := by simp [exitTo]
    exact ⟨_, a₁, w₁, hq, fun k' hk => .head h0 gJ (harr.1 k' (by rw [hx]; exact hk)),
      fun hr' hk => let ⟨k₁, h1, h2⟩ := harr.2 hr' (by rw [hx]; exact hk); ⟨k₁, h1, .head h0 gJ h2⟩⟩
  | goto l =>
    cases hf : findLabel c l with
    | some rest =>
      have hx : gotoIn l (.inScope c :: k) = some (.code rest :: .inScope c :: k) := by simp [gotoIn, hf]
      simp only [jumpS, hf, Option.isSome_some, if_true] at hq
      have h1 := StepsIn.trans (.one h0 gJ) (harr.1 _ hx)
      obtain ⟨e₂, a₂, w₂, hq₂, harr₂⟩ := pass l rest a₁ w₁ hf hq b (.inScope c :: k) cs hro hb hr
      cases e₂ with
      | normal => exact ⟨.normal, a₂, w₂, hq₂, StepsIn.trans h1 (StepsIn.trans harr₂ (.one (fenced_calm hb hr rfl) oB))⟩
      | exit id =>
        have hx : exitTo id (.inScope c :: k) = exitTo id k := by simp [exitTo]
        exact ⟨_, a₂, w₂, hq₂, fun k' hk => StepsIn.trans h1 (harr₂.1 k' (by rw [hx]; exact hk)),
          fun hr' hk => let ⟨k₁, g1, g2⟩ := harr₂.2 hr' (by rw [hx]; exact hk); ⟨k₁, g1, StepsIn.trans h1 g2⟩⟩
      | goto l => exact hq₂.elim
      | ret => exact ⟨_, a₂, w₂, hq₂, .of_steps h1 harr₂⟩
      | panic ch => exact ⟨_, a₂, w₂, hq₂, .of_steps h1 harr₂⟩
      | outgrown => exact ⟨_, a₂, w₂, hq₂, .of_steps h1 harr₂⟩
    | none =>
      have hx : gotoIn l (.inScope c :: k) = gotoIn l k := by simp [gotoIn, hf]
      simp only [jumpS, hf, Option.isSome_none, Bool.false_eq_true, if_false] at hq
      exact ⟨_, a₁, w₁, hq, fun k' hk => .head h0 gJ (harr.1 k' (by rw [hx]; exact hk)),
        fun hr' hk => let ⟨k₁, h1, h2⟩ := harr.2 hr' (by rw [hx]; exact hk); ⟨k₁, h1, .head h0 gJ h2⟩⟩
  | ret => exact ⟨_, a₁, w₁, hq, .of_steps (.one h0 gJ) harr⟩
  | panic ch => exact ⟨_, a₁, w₁, hq, .of_steps (.one h0 gJ) harr⟩
  | outgrown => exact ⟨_, a₁, w₁, hq, .of_steps (.one h0 gJ) harr⟩

theorem pY {c : Code} (J : Nat → Act → World → Prop) (m₀ : Nat) (h₀ : J m₀ a w)
    (round : ∀ m a w, J m a w → c.wpIn F n P (Exit.then (fun a' w' => ∃ m', m' < m ∧ J m' a' w') Q) a w) : (Code.loop c).wpIn F n P Q a w := by
  intro b k cs hro hb hr
  have key : ∀ m a w, J m a w →
      ∃ e a' w', Q e a' w' ∧ ArrivesIn (Machine.fenced P F) P (lone (b.atR a (.code c :: .inLoop c :: k)) cs w) b k cs e a' w' := by
    intro m
    induction m using Nat.strongRecOn with
    | _ m ih =>
      intro a w hI
      obtain ⟨e, a₁, w₁, hq, harr⟩ := round m a w hI b (.inLoop c :: k) cs hro hb hr
      cases e with
      | normal =>
        obtain ⟨m', hlt, hI₁⟩ := hq
        obtain ⟨e₂, a₂, w₂, hq₂, harr₂⟩ := ih m' hlt a₁ w₁ hI₁
        exact ⟨e₂, a₂, w₂, hq₂, .of_steps (StepsIn.trans harr (.one (fenced_calm hb hr rfl) stepR_inLoop)) harr₂⟩
      | exit id => exact ⟨_, a₁, w₁, hq, .pass (x := .inLoop c) rfl (fun _ _ => .inl (by simp)) harr⟩
      | goto l => exact ⟨_, a₁, w₁, hq, .pass (x := .inLoop c) rfl (fun _ _ => .inl (by simp)) harr⟩
      | ret => exact ⟨_, a₁, w₁, hq, .pass (x := .inLoop c) rfl (fun _ _ => .inl (by simp)) harr⟩
      | panic ch => exact ⟨_, a₁, w₁, hq, .pass (x := .inLoop c) rfl (fun _ _ => .inl (by simp)) harr⟩
      | outgrown => exact ⟨_, a₁, w₁, hq, .pass (x := .inLoop c) rfl (fun _ _ => .inl (by simp)) harr⟩
  obtain ⟨e, a', w', hq, harr⟩ := key _ a w h₀
  exact ⟨e, a', w', hq, .of_steps (.one (fenced_calm hb hr rfl) stepR_loop) harr⟩
end

theorem kO (l : Nat) : ∀ (c : Code), jF c l = (findLabel c l).isSome
  | .seq a b => by
    simp only [jF, findLabel, kO l a, kO l b]
    cases findLabel a l <;> simp
  | .label l' => by
    simp only [jF, findLabel]
    by_cases h : l' = l
    · subst h; simp
    · have : Nat.beq l' l = false := by rw [Bool.eq_false_iff]; intro e; exact h (Nat.eq_of_beq_eq_true e)
      simp [this, h]
  | .skip => rfl
  | .region _ _ _ => rfl
  | .cond _ _ _ => rfl
  | .block _ _ => rfl
  | .loop _ => rfl
  | .rangeFunc _ _ _ _ => rfl
  | .scope _ => rfl
  | .exit _ => rfl
  | .ret => rfl
  | .goto _ => rfl
  | .refuse _ => rfl

/-! ### Values of some temporaries -/
def TV (X : Cx) (a : Act) : List Nat → List AV → Prop
  | [], vs => vs = []
  | i :: L, vs => match vs with
    | [] => False
    | v :: r => VV X v (a.tmps.getD i undef) ∧ TV X a L r

section
variable {X Y : Cx} {a : Act} {n : Nat} {ds : DB} {t : List (Nat × AV)}

theorem TV.ext (E : Ext X Y) : ∀ {L : List Nat} {vs : List AV}, TV X a L vs → TV Y a L vs
  | [], _, h => h
  | i :: L, [], h => h.elim
  | i :: L, v :: r, h => ⟨h.1.ext E, TV.ext E h.2⟩

theorem TV.len : ∀ {L : List Nat} {vs : List AV}, TV X a L vs → vs.length = L.length
  | [], _, h => by rw [show _ = [] from h]; rfl
  | i :: L, [], h => h.elim
  | i :: L, v :: r, h => by simp [TV.len h.2]

theorem TV.of_gets (R : SR n ds X t a) : ∀ (L : List Nat), TV X a L (gets t L)
  | [] => rfl
  | i :: L => ⟨R.v i, TV.of_gets R L⟩

theorem TV.norm (H : HR X) {m : Nat} : ∀ {L : List Nat} {vs : List AV}, TV X a L vs → TV (X.drop m) a L (AV.norms m X.h vs)
  | [], _, h => by rw [show _ = [] from h]; rfl
  | i :: L, [], h => h.elim
  | i :: L, v :: r, h => ⟨normV H h.1, TV.norm H h.2⟩

theorem TV.get {t : List (Nat × AV)} (ht : ∀ i, VV X (get t i) (a.tmps.getD i undef)) : ∀ {L : List Nat} {vs : List AV}, TV X a L vs → ∀ i, VV X (get (zipT L vs ++ t) i) (a.tmps.getD i undef)
  | [], _, h => by rw [show _ = [] from h]; exact ht
  | j :: L, [], h => h.elim
  | j :: L, v :: r, h => fun i => by
    simp only [zipT, List.cons_append]
    have : Lam.get ((j, v) :: (zipT L r ++ t)) i = Lam.get (put j v (zipT L r ++ t)) i := rfl
    rw [this, get_put]
    by_cases e : j = i
    · subst e; rw [if_pos rfl]; exact h.1
    · rw [if_neg e]; exact TV.get ht h.2 i

theorem SR.of_TV {L M : List Nat} {vs us : List AV} (h1 : TV X a L vs) (h2 : TV X a M us) (hs : n ≤ a.tmps.size) (hd : DefOk ds X a.defers) : SR n ds X (zipT L vs ++ zipT M us) a := by
  refine ⟨TV.get (fun i => ?_) h1, hs, hd⟩
  have := TV.get (t := []) (fun i => trivial) h2 i
  simpa using this

theorem SR.of_TV3 {L M N : List Nat} {vs us ws : List AV} (h1 : TV X a L vs) (h2 : TV X a M us) (h3 : TV X a N ws) (hs : n ≤ a.tmps.size) (hd : DefOk ds X a.defers) : SR n ds X (zipT L vs ++ (zipT M us ++ zipT N ws)) a := by
  refine ⟨TV.get (TV.get (fun i => ?_) h2) h1, hs, hd⟩
  have := TV.get (t := []) (fun i => trivial) h3 i
  rwa [List.append_nil] at this

theorem TV.closed (hS : ∀ b, X.S b → Y.S b) (hw : ∀ b, X.S b → Y.w.heap[b]? = X.w.heap[b]?) : ∀ {L : List Nat} {vs : List AV}, AV.closeds vs = true → TV X a L vs → TV Y a L vs
  | [], [], _, h => h
  | i :: L, v :: r, hc, h => by
    simp only [AV.closeds, Bool.and_eq_true] at hc
    exact ⟨closedV hS hw hc.1 h.1, TV.closed hS hw hc.2 h.2⟩

theorem lX : ∀ {L : List Nat} {P : List (Nat × AV) → List AV → Prop}, forallV L P → ∀ vs : List AV, vs.length = L.length → P (zipT L vs) vs
  | [], P, h, vs, hl => by
    have : vs = [] := List.eq_nil_of_length_eq_zero hl
    subst this; exact h
  | i :: L, P, h, [], hl => by simp at hl
  | i :: L, P, h, v :: r, hl => by
    have := lX (h v) r (by simpa using hl)
    exact this

/-- a new empty row -/
theorem qY (H : HR X) {l : Lst} {c : Value} (hl : l.len = 0) (h : SlV X true l c) :
    ∃ Y : Cx, Y.w = X.w ∧ HR Y ∧ Ext X Y ∧ Y.h = X.h ++ [.row .own 0 l] ∧ VV Y (.sref false X.h.length 0 0 0) c := by
  obtain ⟨ad, cap, rfl, h1, h2, h3, _⟩ := h
  have hc : cap = 0 := by rw [h2 rfl, hl]
  subst hc
  obtain ⟨H', E'⟩ := pad_ok H 1
  obtain ⟨Y, hw, hh, HY, EY, hv⟩ := tS H' (s := X.h.length) (a := ad) (by rw [pad_h, if_neg (by omega), if_pos (by omega)]) hl
  refine ⟨Y, hw, HY, E'.trans EY, ?_, by rw [hl]; exact hv⟩
  rw [hh]
  have := mI (h := X.h) [AObj.row .own 0 l]
  simpa [place, Cx.pad] using this

theorem mT : ∀ (fs : List Bool) (vs : List AV) {K : List AV → List AObj → Prop} {X : Cx} {L : List Nat}, HR X → TV X a L vs → promV fs vs X.h K →
    ∃ (Y : Cx) (us : List AV), Y.w = X.w ∧ HR Y ∧ Ext X Y ∧ TV Y a L us ∧ K us Y.h
  | [], vs, K, X, L, H, ht, hp => by
    have hp : K vs X.h := by cases vs <;> simpa [promV] using hp
    exact ⟨X, vs, rfl, H, Ext.refl X, ht, hp⟩
  | f :: fs, [], K, X, L, H, ht, hp => by
    have hp : K [] X.h := by cases f <;> simpa [promV] using hp
    exact ⟨X, [], rfl, H, Ext.refl X, ht, hp⟩
  | f :: fs, v :: vs, K, X, [], H, ht, hp => by cases ht
  | f :: fs, v :: vs, K, X, i :: L, H, ht, hp => by
    have plain : (promV fs vs X.h fun us h' => K (v :: us) h') → ∃ (Y : Cx) (us : List AV), Y.w = X.w ∧ HR Y ∧ Ext X Y ∧ TV Y a (i :: L) us ∧ K us Y.h := by
      intro hp
      obtain ⟨Y, us, h1, h2, h3, h4, h5⟩ := mT fs vs H ht.2 hp
      exact ⟨Y, v :: us, h1, h2, h3, ⟨ht.1.ext h3, h4⟩, h5⟩
    cases f with
    | false => exact plain (by simpa [promV] using hp)
    | true =>
      have hp' := hp
      simp only [promV] at hp
      split at hp
      · rename_i l
        obtain ⟨hl, hp⟩ := hp
        obtain ⟨Y, hw, HY, EY, hh, hv⟩ := qY H hl ht.1
        rw [← hh] at hp
        obtain ⟨Z, us, h1, h2, h3, h4, h5⟩ := mT fs vs HY (ht.2.ext EY) hp
        exact ⟨Z, _ :: us, by rw [h1, hw], h2, EY.trans h3, ⟨hv.ext h3, h4⟩, h5⟩
      · exact plain hp
end

end Lam
