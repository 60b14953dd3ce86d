/- Operations that change nothing: what they come to. -/
import Derived.Test.YtpjnljbfnppmlaaLR3
set_option linter.unusedVariables false
set_option linter.unnecessarySimpa false
set_option linter.unusedSectionVars false
set_option linter.unusedSimpArgs false
namespace Lam
open Go

section types
variable {P : Program} {T : TypeId}

theorem ty_base {d : TyD} (h : tyB P d T = true) (hd : d ≠ .other) (ht : ∀ ts, d ≠ .tup ts) : Base P d T := by
  cases d <;> simp only [tyB, Bool.and_eq_true] at h
  all_goals first
    | exact absurd rfl hd
    | exact absurd rfl (ht _)
    | exact base_of h.1
    | exact base_of h.1.1.1
    | exact base_of h.1.1

theorem ty_int {k : IntKind} (h : tyB P (.int k) T = true) : P.underlying T = some (.int k) := by
  simp only [tyB, Bool.and_eq_true] at h; have h := h.2; split at h <;> simp_all
theorem ty_bool (h : tyB P .bool T = true) : P.underlying T = some .bool := by
  simp only [tyB, Bool.and_eq_true] at h; have h := h.2; split at h <;> simp_all
theorem ty_str (h : tyB P .str T = true) : P.underlying T = some .string := by
  simp only [tyB, Bool.and_eq_true] at h; have h := h.2; split at h <;> simp_all
theorem ty_slice {e : LK} (h : tyB P (.slice e) T = true) : ∃ E, P.underlying T = some (.slice E) ∧ elB P E e = true := by
  simp only [tyB, Bool.and_eq_true] at h; have h := h.2; split at h <;> simp_all
theorem ty_arr {n : Nat} {e : LK} (h : tyB P (.arr n e) T = true) : ∃ E, P.underlying T = some (.array n E) ∧ elB P E e = true := by
  simp only [tyB, Bool.and_eq_true] at h; have h2 := h.2; clear h; split at h2
  · rename_i m E hu
    simp only [Bool.and_eq_true] at h2
    have := Nat.eq_of_beq_eq_true h2.1
    subst this
    exact ⟨E, hu, h2.2⟩
  · cases h2
theorem ty_arr_guard {n : Nat} {e : LK} (h : tyB P (.arr n e) T = true) : P.eqGuardType P.depth T = false := by
  simp only [tyB, Bool.and_eq_true, Bool.not_eq_true'] at h; exact h.1.2
theorem ty_map {m : MK} (h : tyB P (.map m) T = true) : ∃ K E, P.underlying T = some (.map K E) ∧ mapB P m K E = true := by
  simp only [tyB, Bool.and_eq_true] at h; have h := h.2; split at h
  · rename_i K E hu; exact ⟨K, E, hu, h⟩
  · cases h
theorem ty_ptr (h : tyB P .ptr T = true) : ∃ E, P.underlying T = some (.pointer E) := by
  simp only [tyB, Bool.and_eq_true] at h; have h := h.2; split at h <;> simp_all
theorem ty_func (h : tyB P .func T = true) : ∃ a b c, P.underlying T = some (.func a b c) := by
  simp only [tyB, Bool.and_eq_true] at h; have h := h.2; split at h <;> simp_all
theorem ty_iface (h : tyB P .iface T = true) : ∃ a, P.underlying T = some (.interface a) := by
  simp only [tyB, Bool.and_eq_true] at h; have h := h.2; split at h <;> simp_all
theorem ty_strct {fs : List TyD} (h : tyB P (.strct fs) T = true) : P.stoodInHeld T = false ∧ P.eqGuardType P.depth T = false ∧ ∃ fields, P.underlying T = some (.struct fields) ∧ fieldsB P fs 0 fields.toList = true := by
  simp only [tyB, Bool.and_eq_true, Bool.not_eq_true'] at h
  obtain ⟨⟨⟨_, h1⟩, h2⟩, h3⟩ := h
  refine ⟨h1, h2, ?_⟩
  split at h3
  · rename_i f hf; exact ⟨f, hf, h3⟩
  · cases h3

def TyD.isAgg : TyD → Bool
  | .strct _ | .arr _ _ => true
  | _ => false

def TyD.told : TyD → Bool
  | .other | .tup _ => false
  | _ => true

theorem run_isAgg {d : TyD} (h : tyB P d T = true) (hd : d.told = true) (w : World) : (isAgg T).run P w = .ok d.isAgg w := by
  unfold isAgg
  cases d with
  | int k => simp [run_underlying (ty_int h), TyD.isAgg]
  | bool => simp [run_underlying (ty_bool h), TyD.isAgg]
  | str => simp [run_underlying (ty_str h), TyD.isAgg]
  | slice e => obtain ⟨E, hu, _⟩ := ty_slice h; simp [run_underlying hu, TyD.isAgg]
  | strct fs => obtain ⟨_, _, f, hu, _⟩ := ty_strct h; simp [run_underlying hu, TyD.isAgg]
  | arr n e => obtain ⟨E, hu, _⟩ := ty_arr h; simp [run_underlying hu, TyD.isAgg]
  | ptr => obtain ⟨E, hu⟩ := ty_ptr h; simp [run_underlying hu, TyD.isAgg]
  | map m => obtain ⟨K, E, hu, _⟩ := ty_map h; simp [run_underlying hu, TyD.isAgg]
  | func => obtain ⟨_, _, _, hu⟩ := ty_func h; simp [run_underlying hu, TyD.isAgg]
  | iface => obtain ⟨_, hu⟩ := ty_iface h; simp [run_underlying hu, TyD.isAgg]
  | tup ts => cases hd
  | other => cases hd

theorem run_sizeOf {d : TyD} (h : tyB P d T = true) (hd : d.told = true) (w : World) : (Go.sizeOf T).run P w = .ok d.size w := by
  obtain ⟨i, z, hi, hs, _⟩ := (ty_base h (by rintro rfl; cases hd) (by rintro ts rfl; cases hd)).info
  simp [Go.sizeOf, typeInfo, hi, hs]

theorem run_zero {d : TyD} (h : tyB P d T = true) (hd : d.told = true) (w : World) : ∃ z, (zeroValue T).run P w = .ok z w ∧ ∀ X, VC X d.zero z.cells.toList := by
  obtain ⟨i, z, hi, _, hz, hv⟩ := (ty_base h (by rintro rfl; cases hd) (by rintro ts rfl; cases hd)).info
  exact ⟨z, by simp [zeroValue, typeInfo, hi, hz], hv⟩

theorem el_size {E : TypeId} {e : LK} (h : elB P E e = true) (w : World) : (Go.sizeOf E).run P w = .ok e.size w := by
  obtain ⟨i, z, hi, hs, _⟩ := (elOk h).info
  simp [Go.sizeOf, typeInfo, hi, hs]

theorem fitP_told {d : TyD} {v : AV} (h : fitP d v) : d.told = true := by
  cases d <;> first | rfl | (cases v <;> exact h.elim)

theorem fitP_size {d : TyD} {v : AV} (h : fitP d v) : v.size = d.size ∧ d.isAgg = !v.scalar := by
  cases d with
  | strct fs => cases v <;> first | exact h.elim | exact ⟨h, rfl⟩
  | arr n e =>
    cases v <;> first | exact h.elim | skip
    obtain ⟨h1, h2⟩ := h
    exact ⟨by simp only [AV.size, TyD.size, h1, h2], rfl⟩
  | tup ts => cases v <;> exact h.elim
  | other => cases v <;> exact h.elim
  | _ => cases v <;> first | exact h.elim | exact ⟨rfl, rfl⟩

theorem fitP_solid {d : TyD} {v : AV} (h : fitP d v) : v.solid = true := by
  cases d <;> cases v <;> first | exact h.elim | rfl
end types

theorem solid_tup {v : AV} (h : v.solid = true) : ∀ vs, v ≠ .tup vs := by rintro vs rfl; cases h
theorem solid_top {v : AV} (h : v.solid = true) : v ≠ .top := by rintro rfl; cases h

theorem VC_nth (X : Cx) (l : Lst) (i : Nat) : VC X (l.nth i) (l.cell i) := by
  cases l with
  | ints k xs => exact ⟨_, rfl, rfl⟩
  | bools xs => exact ⟨_, rfl, rfl⟩
  | strs xs => exact ⟨_, rfl, rfl⟩
  | pends xs => exact ⟨[_], [_, _], rfl, ⟨_, rfl, rfl⟩, [_], [_], rfl, ⟨_, rfl, rfl⟩, [_], [], rfl, ⟨_, rfl, rfl⟩, rfl⟩
  | mics xs => exact ⟨[_], [_, _], rfl, ⟨_, rfl, rfl⟩, [_], [_], rfl, ⟨_, rfl, rfl⟩, [_], [], rfl, ⟨_, rfl, rfl⟩, rfl⟩
  | recs xs => exact ⟨[_], [_, _, _], rfl, ⟨_, rfl, rfl⟩, [_], [_, _], rfl, ⟨_, rfl, rfl⟩, [_], [_], rfl, ⟨_, rfl, rfl⟩, [_], [], rfl, ⟨_, rfl, rfl⟩, rfl⟩
  | pairs xs => exact ⟨[_], [_], rfl, ⟨_, rfl, rfl⟩, [_], [], rfl, ⟨_, rfl, rfl⟩, rfl⟩
  | slots xs => exact ⟨[_], [_], rfl, ⟨_, rfl, rfl⟩, [_], [], rfl, ⟨_, rfl, rfl⟩, rfl⟩

/-- a loaded value -/
def loaded (d : TyD) (cs : List Value) : Value := if d.isAgg then .agg cs.toArray else cs.headD undef

theorem run_loadVar {P : Program} {T : TypeId} {d : TyD} (h : tyB P d T = true) (hd : d.told = true) (w : World) (ad : Addr) (cs : List Value) (hl : cs.length = d.size)
    (h1 : d.isAgg = false → cs.length = 1) (hc : ∀ j v, cs[j]? = some v → w.cell? (ad.add j) = some v) : (loadVar T ad).run P w = .ok (loaded d cs) w := by
  unfold loadVar loaded
  simp only [Sem.run_bind, run_isAgg h hd, Result.andThen_ok, Sem.run_ite, run_sizeOf h hd]
  by_cases ha : d.isAgg = true
  · simp only [ha, if_true, run_sizeOf h hd, Result.andThen_ok, Sem.run_bind]
    rw [← hl, run_loadCells_list w ad cs hc]
    rfl
  · have ha' : d.isAgg = false := by simpa using ha
    have h2 := h1 ha'
    obtain ⟨c, rfl⟩ := List.length_eq_one_iff.1 h2
    have := hc 0 c rfl
    rw [Addr.add_zero'] at this
    simp [ha', this]

theorem loaded_VV {X : Cx} {d : TyD} {v : AV} {cs : List Value} (hf : fitP d v) (h : VC X v cs) : VV X v (loaded d cs) := by
  have hs := (fitP_size hf).2
  unfold loaded
  by_cases ha : v.scalar = true
  · obtain ⟨c, rfl, hc⟩ := VC_to_VV h ha
    rw [hs, ha]; simpa using hc
  · have ha' : v.scalar = false := by simpa using ha
    rw [hs, ha']
    exact VC_agg_VV (by simpa using h) ha'

theorem fit_len {X : Cx} {d : TyD} {v : AV} {cs : List Value} (hf : fitP d v) (h : VC X v cs) : cs.length = d.size ∧ (d.isAgg = false → cs.length = 1) := by
  have h1 := VC_len h
  obtain ⟨h2, h3⟩ := fitP_size hf
  refine ⟨h1.trans h2, fun ha => ?_⟩
  rw [ha] at h3
  have : v.scalar = true := by cases hv : v.scalar <;> simp_all
  obtain ⟨c, rfl, _⟩ := VC_to_VV h this
  rfl

/-! ### Reading -/
theorem cell_cells {w : World} {b j : Nat} {cs : Array Value} {e : TypeId} {f : Nat × Nat} (h : w.heap[b]? = some (.cells cs e f)) : w.cell? ⟨b, j, none⟩ = cs.toList[j]? := by
  simp [World.cell?, h]

theorem Reads.sub {w : World} {b off : Nat} {a u r : List Value} (h : Reads w b off (a ++ (u ++ r))) : Reads w b (off + a.length) u := by
  intro j v hj
  have := h (a.length + j) v (by
    rw [List.getElem?_append_right (by omega)]
    rw [List.getElem?_append_left (by have := (List.getElem?_eq_some_iff.1 hj).1; omega)]
    simpa using hj)
  rwa [Nat.add_assoc]

theorem Reads.of_cells {w : World} {b : Nat} {cs : Array Value} {e : TypeId} {f : Nat × Nat} (h : w.heap[b]? = some (.cells cs e f)) : Reads w b 0 cs.toList := by
  intro j v hj
  rw [cell_cells h, Nat.zero_add]; exact hj

theorem Reads.add {w : World} {b o : Nat} {cs : List Value} (h : Reads w b o cs) : ∀ j v, cs[j]? = some v → w.cell? ((⟨b, o, none⟩ : Addr).add j) = some v := by
  intro j v hj
  rw [Addr.add_lit]; exact h j v hj

/-- the cells of element i, from the row's -/
theorem flat_split (l : Lst) {i : Nat} (hi : i < l.len) : ∃ a r, l.flat = a ++ (l.cell i ++ r) ∧ a.length = i * l.kind.size := by
  refine ⟨l.flat.take (i * l.kind.size), l.flat.drop (i * l.kind.size + l.kind.size), ?_, ?_⟩
  · apply List.ext_getElem?
    intro j
    have hlen := l.flat_length
    have hle : i * l.kind.size + l.kind.size ≤ l.len * l.kind.size := by rw [← Nat.succ_mul]; exact Nat.mul_le_mul_right _ hi
    by_cases h1 : j < i * l.kind.size
    · rw [List.getElem?_append_left (by simp; omega), List.getElem?_take]; simp [h1]
    · rw [List.getElem?_append_right (by simp; omega)]
      have e1 : (l.flat.take (i * l.kind.size)).length = i * l.kind.size := by simp; omega
      rw [e1]
      by_cases h2 : j < i * l.kind.size + l.kind.size
      · rw [List.getElem?_append_left (by rw [Lst.cell_length]; omega)]
        have := l.flat_get hi (j := j - i * l.kind.size) (by omega)
        rw [← this]; congr 1; omega
      · rw [List.getElem?_append_right (by rw [Lst.cell_length]; omega), Lst.cell_length, List.getElem?_drop]
        congr 1; omega
  · have hlen := l.flat_length
    have hle : i * l.kind.size + l.kind.size ≤ l.len * l.kind.size := by rw [← Nat.succ_mul]; exact Nat.mul_le_mul_right _ hi
    simp; omega

/-- what an address reads -/
def LoadsAt (X : Cx) (c : Value) (v : AV) : Prop := ∃ ad cs, c = .pointer (some ad) ∧ VC X v cs ∧ ∀ j u, cs[j]? = some u → X.w.cell? (ad.add j) = some u

theorem loadD_sound {X : Cx} (H : HR X) {a v : AV} {c : Value} {S : Prop} {news : List AObj} (h : loadD X.h a = some (S, v, news)) (hS : S) (hv : VV X a c) : news = [] ∧ LoadsAt X c v := by
  unfold loadD at h
  split at h
  · rename_i l i fs
    obtain ⟨b, o, rfl, hi, _, hr⟩ := hv
    cases hat : (l.nth i).at_ fs with
    | none => simp [hat, someD] at h
    | some u =>
      simp only [hat, someD, pD, Option.some.injEq, Prod.mk.injEq] at h
      obtain ⟨_, rfl, rfl⟩ := h
      obtain ⟨x, us, y, hcell, hx, hvc⟩ := VC_at (VC_nth X l i) hat
      refine ⟨rfl, _, us, rfl, hvc, ?_⟩
      rw [hcell] at hr
      have := hr.sub.add
      rwa [hx] at this
  · rename_i id p
    unfold loadO at h
    split at h
    · rename_i u hu
      cases hat : u.at_ p with
      | none => simp [hat, someD] at h
      | some u' =>
        simp only [hat, someD, pD, Option.some.injEq, Prod.mk.injEq] at h
        obtain ⟨_, rfl, rfl⟩ := h
        obtain ⟨b, hb, bb, cs, e, rfl, hheap, hvc⟩ := H.obj _ _ hu
        have hc : c = .pointer (some ⟨bb, offs p, none⟩) := by
          have hv : PtV X id p c := hv
          cases p with
          | nil => obtain ⟨b', hb', rfl, _⟩ := hv; rw [hb] at hb'; cases hb'; rfl
          | cons x r => cases x with
            | f i o => obtain ⟨b', hb', rfl, _⟩ := hv; rw [hb] at hb'; cases hb'; rfl
            | i v j s => exfalso; obtain ⟨k, ver, l, hl, _⟩ := hv; rw [hu] at hl; cases hl
        subst hc
        obtain ⟨x, us, y, hcell, hx, hvc'⟩ := VC_at hvc hat
        refine ⟨rfl, _, us, rfl, hvc', ?_⟩
        have hr := Reads.of_cells hheap
        rw [hcell] at hr
        have := hr.sub.add
        rwa [hx, Nat.zero_add] at this
    · rename_i k ver l hu
      split at h
      · split at h
        · simp only [pD, Option.some.injEq, Prod.mk.injEq] at h
          obtain ⟨_, rfl, rfl⟩ := h
          obtain ⟨b, hb, hor⟩ := H.obj _ _ hu
          obtain ⟨b', hb', rfl, _⟩ : ∃ b, X.μ[id]? = some (some b) ∧ c = .pointer (some ⟨b, 0, none⟩) ∧ _ := hv
          rw [hb] at hb'; cases hb'
          rcases hor with ⟨h1, _⟩ | ⟨bb, cs, e, h1, hheap, ⟨r, hr⟩, _⟩
          · cases h1
          · cases h1
            refine ⟨rfl, _, l.flat, rfl, rfl, ?_⟩
            have hr2 := Reads.of_cells hheap
            rw [hr, show l.flat ++ r = [] ++ (l.flat ++ r) from rfl] at hr2
            have := hr2.sub.add
            simpa using this
        · cases h
      · rename_i vr i sz p'
        split at h
        · rename_i hcond
          obtain ⟨rfl, rfl⟩ := hcond
          cases hat : (l.nth i).at_ p' with
          | none => simp [hat, someD] at h
          | some u =>
            simp only [hat, someD, pD, Option.some.injEq, Prod.mk.injEq] at h
            obtain ⟨rfl, rfl, rfl⟩ := h
            obtain ⟨b, hb, hor⟩ := H.obj _ _ hu
            obtain ⟨k', ver', l', hl', _, _, hpt⟩ := hv
            rw [hu] at hl'; cases hl'
            obtain ⟨b', hb', rfl⟩ := hpt rfl
            rw [hb] at hb'; cases hb'
            rcases hor with ⟨h1, _⟩ | ⟨bb, cs, e, h1, hheap, ⟨r, hr⟩, _⟩
            · cases h1
            · cases h1
              obtain ⟨x, us, y, hcell, hx, hvc⟩ := VC_at (VC_nth X l i) hat
              obtain ⟨x2, y2, hflat, hx2⟩ := flat_split l hS
              refine ⟨rfl, _, us, rfl, hvc, ?_⟩
              have hr2 := Reads.of_cells hheap
              rw [hr, hflat, hcell, show x2 ++ (x ++ (us ++ y) ++ y2) ++ r = (x2 ++ x) ++ (us ++ (y ++ (y2 ++ r))) by simp] at hr2
              have := hr2.sub.add
              simpa [offs, hx, hx2] using this
        · cases h
      · cases h
    · cases h
  · cases h

theorem run_loadAt {P : Program} {X : Cx} {T : TypeId} {d : TyD} {v : AV} {c : Value} (hT : tyB P d T = true) (hf : fitP d v) (h : LoadsAt X c v) :
    ∃ r, (Instr.loadAt T c).run P X.w = .ok r X.w ∧ VV X v r := by
  obtain ⟨ad, cs, rfl, hvc, hc⟩ := h
  obtain ⟨h1, h2⟩ := fit_len hf hvc
  refine ⟨loaded d cs, ?_, loaded_VV hf hvc⟩
  simp only [Instr.loadAt, Instr.sureAddr, pure_bind]
  exact run_loadVar hT (fitP_told hf) X.w ad cs h1 h2 hc

end Lam
