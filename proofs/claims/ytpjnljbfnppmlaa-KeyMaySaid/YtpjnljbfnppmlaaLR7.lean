/- Operations that change nothing: fields, elements, equality. -/
import Derived.Test.YtpjnljbfnppmlaaLR6
set_option linter.unusedVariables false
set_option linter.unnecessarySimpa false
set_option linter.unusedSectionVars false
set_option linter.unusedSimpArgs false
namespace Lam
open Go

section
variable {P : Program} {X : Cx}

theorem fields_at : ∀ {fs : List TyD} {off : Nat} {l : List Field}, fieldsB P fs off l = true → l.length = fs.length ∧ ∀ i d, fs[i]? = some d →
    ∃ f, l[i]? = some f ∧ f.offset = off + TyD.sizes (fs.take i) ∧ f.name ≠ "_" ∧ (∃ inf, P.info? f.type = some inf ∧ inf.size = d.size) ∧ 0 < d.size ∧ tyB P d f.type = true
  | [], off, l, h => by
    simp only [fieldsB, List.isEmpty_iff] at h
    subst h; exact ⟨rfl, fun i d h => by simp at h⟩
  | d :: ds, off, l, h => by
    unfold fieldsB at h
    cases l with
    | nil => cases h
    | cons f l' =>
      simp only [Bool.and_eq_true, bne_iff_ne, ne_eq] at h
      obtain ⟨⟨⟨⟨⟨h1, h2⟩, h3⟩, h4⟩, h5⟩, h6⟩ := h
      obtain ⟨q1, q2⟩ := fields_at h6
      refine ⟨by simp [q1], fun i e hi => ?_⟩
      cases i with
      | zero =>
        simp only [List.getElem?_cons_zero, Option.some.injEq] at hi; subst hi
        refine ⟨f, rfl, by simpa [TyD.sizes] using Nat.eq_of_beq_eq_true h1, h2, ?_, ?_, h5⟩
        · split at h3
          · rename_i inf hinf; exact ⟨inf, hinf, Nat.eq_of_beq_eq_true h3⟩
          · cases h3
        · unfold Nat.blt at h4; exact Nat.le_of_ble_eq_true h4
      | succ i =>
        simp only [List.getElem?_cons_succ] at hi
        obtain ⟨f', g1, g2, g3⟩ := q2 i e hi
        refine ⟨f', by simpa using g1, ?_, g3⟩
        rw [g2]; simp only [List.take_succ_cons, TyD.sizes]; omega

theorem PtV_field {id i off : Nat} {p : List PS} {c : Value} (h : PtV X id p c) : ∃ o, c = .pointer (some o) ∧ PtV X id (p ++ [.f i off]) (.pointer (some (o.add off))) := by
  have e : ∀ q : List PS, offs (q ++ [.f i off]) = offs q + off := fun q => by rw [offs_append]; simp [offs]
  cases p with
  | nil =>
    obtain ⟨b, hb, rfl, hk⟩ := h
    exact ⟨_, rfl, b, hb, by rw [Addr.add_lit]; simp [offs], hk⟩
  | cons x r => cases x with
    | f j o =>
      obtain ⟨b, hb, rfl, hk⟩ := h
      exact ⟨_, rfl, b, hb, by rw [Addr.add_lit]; exact congrArg (fun n => Value.pointer (some ⟨b, n, none⟩)) (e (.f j o :: r)).symm, hk⟩
    | i v j s =>
      obtain ⟨k, ver', l, hl, hle, ⟨o, rfl⟩, h1⟩ := h
      refine ⟨o, rfl, k, ver', l, hl, hle, ⟨_, rfl⟩, fun e' => ?_⟩
      obtain ⟨b, hb, hc⟩ := h1 e'
      cases hc
      exact ⟨b, hb, by rw [Addr.add_lit]; exact congrArg (fun n => Value.pointer (some ⟨b, n, none⟩)) (e (.i v j s :: r)).symm⟩

theorem fieldAddr_sound {T : TypeId} {d : TyD} {x : AV} {c : Value} {f : Nat} {S : Prop} {v : AV} {news : List AObj} (hT : tyB P d T = true) (hx : VV X x c)
    (h : fieldAddrD d x f = some (S, v, news)) (hS : S) : news = [] ∧ Pure P (Instr.fieldAt T c f) X v := by
  unfold fieldAddrD at h
  have key : ∀ (fs : List TyD), d = .strct fs → f < fs.length → ∀ o, (Instr.fieldAt T (.pointer (some o)) f).run P X.w = .ok (.pointer (some (o.add (TyD.sizes (fs.take f))))) X.w := by
    rintro fs rfl hf o
    obtain ⟨_, _, fields, hu, hfs⟩ := ty_strct hT
    obtain ⟨_, hat⟩ := fields_at hfs
    obtain ⟨g, g1, g2, _, ⟨inf, g4, g5⟩, g6, _⟩ := hat f fs[f] (by simp [hf])
    have hg : fields[f]? = some g := by simpa using g1
    have hz : (Go.sizeOf g.type).run P X.w = .ok inf.size X.w := by simp [Go.sizeOf, typeInfo, g4]
    have hne : ¬ inf.size = 0 := by omega
    simp [Instr.fieldAt, run_underlying hu, hg, Instr.sureAddr, fieldPlace, hz, hne, g2]
  split at h
  · rename_i fs id p
    split at h
    · rename_i hf
      obtain ⟨rfl, rfl, rfl⟩ := pD_inv h
      obtain ⟨o, rfl, ho⟩ := PtV_field (i := f) (off := TyD.sizes (fs.take f)) hx
      exact ⟨rfl, _, key fs rfl hf o, ho⟩
    · cases h
  · rename_i fs l i p
    split at h
    · rename_i hf
      obtain ⟨rfl, rfl, rfl⟩ := pD_inv h
      obtain ⟨b, o, rfl, hi, hS, hr⟩ := hx
      refine ⟨rfl, _, key fs rfl hf _, b, o, ?_, hi, hS, hr⟩
      rw [Addr.add_lit, offs_append]; simp [offs, Nat.add_assoc]
    · cases h
  · cases h

/-- a part of a struct's cells -/
theorem run_part {T : TypeId} {d : TyD} {v : AV} {a us b : List Value} {cs : Array Value} (hT : tyB P d T = true) (hf : fitP d v) (hv : VC X v us) (hcs : cs.toList = a ++ (us ++ b)) :
    ∃ r, (part T cs a.length).run P X.w = .ok r X.w ∧ r = loaded d us := by
  obtain ⟨h1, h2⟩ := fit_len hf hv
  refine ⟨_, ?_, rfl⟩
  unfold part
  simp only [Sem.run_bind, run_isAgg hT (fitP_told hf), Result.andThen_ok]
  unfold loaded
  by_cases ha : d.isAgg = true
  · simp only [ha, if_true, Sem.run_bind, run_sizeOf hT (fitP_told hf), Result.andThen_ok, Sem.run_pure]
    congr 2
    apply Array.ext'
    rw [Array.toList_extract, hcs, ← h1]
    simp [List.extract_eq_take_drop]
  · have ha' : d.isAgg = false := by simpa using ha
    obtain ⟨u, rfl⟩ := List.length_eq_one_iff.1 (h2 ha')
    have : cs[a.length]? = some u := by
      rw [← Array.getElem?_toList, hcs, List.getElem?_append_right (Nat.le_refl _)]
      simp
    simp [ha', this]


theorem field_sound {T : TypeId} {d : TyD} {x : AV} {c : Value} {f : Nat} {S : Prop} {v : AV} {news : List AObj} (hT : tyB P d T = true) (hx : VV X x c)
    (h : fieldD d x f = some (S, v, news)) (hS : S) : news = [] ∧ Pure P (Instr.field T c f) X v := by
  unfold fieldD at h
  split at h
  · rename_i fs vs
    split at h
    · rename_i hc
      obtain ⟨h1, h2, h3⟩ := hc
      obtain ⟨rfl, rfl, rfl⟩ := pD_inv h
      simp only [VV] at hx
      obtain ⟨cs, rfl, hv⟩ := hx
      have hg : vs[f]? = some (vs.getD f .top) := by simp [List.getD, h3]
      obtain ⟨a, us, b, hcs, ha, hvu, _, _⟩ := VCs_at hv hg
      obtain ⟨_, _, fields, hu, hfs⟩ := ty_strct hT
      obtain ⟨_, hat⟩ := fields_at hfs
      obtain ⟨g, g1, g2, _, _, _, g7⟩ := hat f (fs.getD f .other) (by simp [List.getD, h2])
      have hfld : fields[f]? = some g := by simpa using g1
      obtain ⟨r, hr, rfl⟩ := run_part g7 hS hvu hcs
      refine ⟨rfl, _, ?_, loaded_VV hS hvu⟩
      have e : g.offset = a.length := by rw [g2, Nat.zero_add, ha, h1]
      simp [Instr.field, run_underlying hu, hfld, asAgg, e, hr]
    · cases h
  · cases h

theorem isSlice_inv {d : TyD} {k : LK} (h : d.isSlice k = true) : d = .slice k := by
  unfold TyD.isSlice at h; split at h
  · simp at h; rw [h]
  · cases h
theorem isArr_inv {d : TyD} {n : Nat} {k : LK} (h : d.isArr n k = true) : d = .arr n k := by
  unfold TyD.isArr at h; split at h
  · simp at h; rw [h.1, h.2]
  · cases h

theorem run_indexAt_slice {T E : TypeId} {e : LK} (hu : P.underlying T = some (.slice E)) (he : elB P E e = true) (w : World) (a : Addr) (len cap : Nat) (k : IntKind) (i : Int) (h0 : 0 ≤ i) (h1 : i < len) :
    (Instr.indexAt T (.slice (some a) len cap) (.int k i)).run P w = .ok (.pointer (some (a.add (i.toNat * e.size)))) w := by
  simp [Instr.indexAt, asIntOf, run_underlying hu, el_size he, h0, h1]

theorem indexAddr_sound {T : TypeId} {d : TyD} {x i : AV} {c ci : Value} {S : Prop} {v : AV} {news : List AObj} (H : HR X) (hT : tyB P d T = true) (hx : VV X x c) (hi : VV X i ci)
    (h : indexAddrD d X.h x i = some (S, v, news)) (hS : S) : news = [] ∧ Pure P (Instr.indexAt T c ci) X v := by
  unfold indexAddrD at h
  split at h
  rotate_left
  · cases h
  rename_i k n
  have hi : ci = .int k n := hi
  subst hi
  split at h
  · rename_i y l
    have hd := (whenD_inv h).1
    have h2 := (whenD_inv h).2
    obtain rfl := isSlice_inv hd
    obtain ⟨E, hu, he⟩ := ty_slice hT
    obtain ⟨rfl, rfl, rfl⟩ := pD_inv h2
    obtain ⟨a, cap, rfl, g1, g2, g3, g4⟩ := hx
    obtain ⟨ad, rfl, hs, hS', hr⟩ := g4 (by omega)
    obtain ⟨blk, off, spot⟩ := ad
    simp only at hs; subst hs
    refine ⟨rfl, _, run_indexAt_slice hu he X.w _ _ _ k n hS.1 hS.2, blk, off + n.toNat * l.kind.size, ?_, by omega, hS', ?_⟩
    · rw [Addr.add_lit]; simp [offs]
    · exact Reads_flat.1 hr _ (by omega)
  · rename_i y id ver off len
    unfold indexArrO at h
    split at h
    · rename_i rk ver' l hrow
      have hd := (whenD_inv h).1
      have h2 := (whenD_inv h).2
      obtain rfl := isSlice_inv hd
      obtain ⟨E, hu, he⟩ := ty_slice hT
      split at h2
      · rename_i hver
        obtain ⟨rfl, rfl, rfl⟩ := pD_inv h2
        obtain ⟨a, m, cap, rfl, rk', ver2, l2, hl2, g0, g⟩ := hx
        rw [hrow] at hl2
        simp only [rowO, Option.some.injEq, Prod.mk.injEq] at hl2
        obtain ⟨rfl, rfl, rfl⟩ := hl2
        obtain ⟨rfl, g1, g2, g3, g4, g5⟩ := g hver
        obtain ⟨b, hb, rfl, hz⟩ := g5 (by omega)
        refine ⟨rfl, _, run_indexAt_slice hu he X.w _ _ _ k n hS.1 hS.2, rk, ver', l, by rw [hrow]; rfl, g0, ⟨_, rfl⟩, fun _ => ⟨b, hb, ?_⟩⟩
        rw [Addr.add_lit]; simp [offs, Nat.add_mul]
      · cases h2
    · cases h
  · rename_i id
    unfold indexPtrO at h
    split at h
    · rename_i ver l hrow
      have hd := (whenD_inv h).1
      have h2 := (whenD_inv h).2
      obtain rfl := isArr_inv hd
      obtain ⟨E, hu, he⟩ := ty_arr hT
      obtain ⟨rfl, rfl, rfl⟩ := pD_inv h2
      obtain ⟨b, hb, rfl, _⟩ : ∃ b, X.μ[id]? = some (some b) ∧ c = .pointer (some ⟨b, 0, none⟩) ∧ _ := hx
      refine ⟨rfl, .pointer (some ((⟨b, 0, none⟩ : Addr).add (n.toNat * l.kind.size))), ?_, .arr, ver, l, by rw [hrow]; rfl, Nat.le_refl _, ⟨_, rfl⟩, fun _ => ⟨b, hb, ?_⟩⟩
      · simp [Instr.indexAt, asIntOf, run_underlying hu, el_size he, hS.1, hS.2, Instr.sureAddr]
      · rw [Addr.add_lit]; simp [offs]
    · cases h
  · cases h

/-- an element as a type -/
theorem el_isAgg {E : TypeId} {e : LK} (h : elB P E e = true) (w : World) : (isAgg E).run P w = .ok e.isAgg w := by
  unfold elB at h
  split at h
  · cases h
  · simp only [Bool.and_eq_true] at h
    have h2 := h.2
    clear h
    unfold isAgg
    split at h2 <;> first | cases h2 | skip
    all_goals (rename_i hu; simp [run_underlying hu, LK.isAgg])

def loadedEl (e : LK) (cs : List Value) : Value := if e.isAgg then .agg cs.toArray else cs.headD undef

theorem loadedEl_VV (l : Lst) (i : Nat) : VV X (l.nth i) (loadedEl l.kind (l.cell i)) := by
  cases l with
  | ints k xs => exact (rfl : _ = _)
  | bools xs => exact (rfl : _ = _)
  | strs xs => exact (rfl : _ = _)
  | pends xs => exact VC_agg_VV (VC_nth X (.pends xs) i) rfl
  | mics xs => exact VC_agg_VV (VC_nth X (.mics xs) i) rfl
  | recs xs => exact VC_agg_VV (VC_nth X (.recs xs) i) rfl
  | pairs xs => exact VC_agg_VV (VC_nth X (.pairs xs) i) rfl
  | slots xs => exact VC_agg_VV (VC_nth X (.slots xs) i) rfl

theorem run_partEl {E : TypeId} {l : Lst} {i : Nat} {a b : List Value} {cs : Array Value} (he : elB P E l.kind = true) (hcs : cs.toList = a ++ (l.cell i ++ b)) (w : World) :
    (part E cs a.length).run P w = .ok (loadedEl l.kind (l.cell i)) w := by
  unfold part loadedEl
  simp only [Sem.run_bind, el_isAgg he, Result.andThen_ok]
  have hl := l.cell_length i
  by_cases ha : l.kind.isAgg = true
  · simp only [ha, if_true, Sem.run_bind, el_size he, Result.andThen_ok, Sem.run_pure]
    congr 2
    apply Array.ext'
    rw [Array.toList_extract, hcs, ← hl]
    simp [List.extract_eq_take_drop]
  · have ha' : l.kind.isAgg = false := by simpa using ha
    have h1 : (l.cell i).length = 1 := by rw [hl]; cases h : l.kind <;> rw [h] at ha' <;> first | rfl | cases ha'
    obtain ⟨u, hu⟩ := List.length_eq_one_iff.1 h1
    rw [hu] at hcs ⊢
    have : cs[a.length]? = some u := by
      rw [← Array.getElem?_toList, hcs, List.getElem?_append_right (Nat.le_refl _)]
      simp
    simp [ha', this]

theorem index_sound {T : TypeId} {d : TyD} {x i : AV} {c ci : Value} {S : Prop} {v : AV} {news : List AObj} (hT : tyB P d T = true) (hx : VV X x c) (hi : VV X i ci)
    (h : indexD d x i = some (S, v, news)) (hS : S) : news = [] ∧ Pure P (Instr.index T c ci) X v := by
  unfold indexD at h
  split at h
  · rename_i s k n
    have hd := (whenD_inv h).1
    have h2 := (whenD_inv h).2
    obtain rfl : d = .str := by cases d <;> first | rfl | cases hd
    obtain ⟨rfl, rfl, rfl⟩ := pD_inv h2
    have hx : c = .string (bstr s) := hx
    have hi : ci = .int k n := hi
    subst hx hi
    refine ⟨rfl, _, ?_, rfl⟩
    rw [run_index_string X.w T (bstr s) k n (ty_str hT), dif_pos (by simpa using hS)]
    congr 3
    have hn : n.toNat < s.length := by omega
    simp [bstr, List.getD, hn]
    rfl
  · rename_i l k n
    have hd := (whenD_inv h).1
    have h2 := (whenD_inv h).2
    obtain rfl := isArr_inv hd
    obtain ⟨E, hu, he⟩ := ty_arr hT
    obtain ⟨rfl, rfl, rfl⟩ := pD_inv h2
    simp only [VV] at hx
    obtain ⟨cs, rfl, hcs⟩ := hx
    have hi : ci = .int k n := hi
    subst hi
    obtain ⟨a, r, hf, ha⟩ := flat_split l (i := n.toNat) (by omega)
    rw [hf] at hcs
    have := run_partEl he hcs X.w
    rw [ha] at this
    refine ⟨rfl, _, ?_, loadedEl_VV l n.toNat⟩
    simp [Instr.index, asIntOf, run_underlying hu, hS.1, hS.2, el_size he, this]
  · cases h

theorem nilCheck_sound {x : AV} {c : Value} {S : Prop} {v : AV} {news : List AObj} {o : Oper} {a : Act} {y : Operand} (ho : o.op = .nilCheck y) (hy : a.eval y = c) (hx : VV X x c)
    (h : nilCheckD x = some (S, v, news)) (hS : S) : news = [] ∧ ∃ c, (execOp a.eval o).run P X.w = .ok (.value c) X.w ∧ VV X v c := by
  unfold nilCheckD at h
  split at h
  · obtain ⟨rfl, rfl, rfl⟩ := pD_inv h
    obtain ⟨q, rfl⟩ := PtV_ptr hx
    exact ⟨rfl, _, by simp [execOp, ho, hy], hx⟩
  · obtain ⟨rfl, rfl, rfl⟩ := pD_inv h
    obtain ⟨b, off, rfl, _⟩ := id hx
    exact ⟨rfl, _, by simp [execOp, ho, hy], hx⟩
  · cases h

end
end Lam
