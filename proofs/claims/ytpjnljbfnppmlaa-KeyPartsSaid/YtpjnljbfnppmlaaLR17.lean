/- Maps. -/
import Derived.Test.YtpjnljbfnppmlaaLR16
set_option linter.unusedVariables false
set_option linter.unnecessarySimpa false
set_option linter.unusedSectionVars false
set_option linter.unusedSimpArgs false
namespace Lam
open Go

section
variable {P : Program} {X : Cx}

/-- a key and its type -/
inductive KeyOk (P : Program) (K : TypeId) : Value → Prop where
  | int (n : Int) (hu : P.underlying K = some (.int .i64)) : KeyOk P K (.int .i64 n)
  | str (s : Bytes) (hu : P.underlying K = some .string) : KeyOk P K (.string (bstr s))

/-- of one sort -/
inductive KeysOk : Value → List MapEntry → Prop where
  | int (n : Int) (es : List MapEntry) (h : ∀ e ∈ es, ∃ k, e.key = .int .i64 k) : KeysOk (.int .i64 n) es
  | str (s : Bytes) (es : List MapEntry) (h : ∀ e ∈ es, ∃ k, e.key = .string (bstr k)) : KeysOk (.string (bstr s)) es

def findE (k : Value) : List MapEntry → Nat → Option (Nat × Value)
  | [], _ => none
  | e :: r, i => if keyEq k e.key = true then some (i, e.val) else findE k r (i + 1)

theorem KeysOk.tail {k : Value} {e : MapEntry} {es : List MapEntry} (h : KeysOk k (e :: es)) : KeysOk k es := by
  cases h with
  | int n es h => exact .int _ _ fun e he => h e (by simp [he])
  | str n es h => exact .str _ _ fun e he => h e (by simp [he])

theorem bstr_beq (a b : Bytes) : (bstr a == bstr b) = decide (a = b) := by
  rw [beq_toListBytes, bstr_toList, bstr_toList, Bool.eq_iff_iff]; simp

theorem findNow_eq {K : TypeId} {d : TypeDesc} {k : Value} (hK : KeyOk P K k) (hu : P.underlying K = some d) : ∀ {es : List MapEntry} (i : Nat), KeysOk k es → Instr.findNow d k es i = some (findE k es i)
  | [], i, _ => rfl
  | e :: r, i, h => by
    have ih := findNow_eq hK hu (es := r) (i + 1) h.tail
    have hs : Instr.sameNow d k e.key = some (keyEq k e.key) := by
      cases hK with
      | int n hu' =>
        rw [hu] at hu'; cases hu'
        cases h with
        | int n es h => obtain ⟨j, hj⟩ := h e (by simp); rw [hj]; simp only [Instr.sameNow, keyEq, if_true]; congr 1
      | str s hu' =>
        rw [hu] at hu'; cases hu'
        generalize hq : Value.string (bstr s) = q at h
        cases h with
        | int n es h => cases hq
        | str s' es h =>
          cases hq
          obtain ⟨j, hj⟩ := h e (by simp); rw [hj]
          simp only [Instr.sameNow, keyEq]
          congr 1
          rw [bstr_beq]; rfl
    simp only [Instr.findNow, hs, findE]
    cases keyEq k e.key
    · simpa using ih
    · rfl

theorem lookE_find {k z : Value} : ∀ (es : List MapEntry) (i : Nat), lookE k z es = match findE k es i with | some (_, v) => v | none => z
  | [], _ => rfl
  | e :: r, i => by
    simp only [lookE, findE]
    split
    · rfl
    · exact lookE_find r (i + 1)

theorem checkKey_ok {K : TypeId} {k : Value} (h : KeyOk P K k) (b : Bool) (w : World) : (Instr.checkKey b 10000 K k).run P w = .ok () w := by
  have key : ∀ n, (Instr.checkKey b (n + 1) K k).run P w = .ok () w := fun n => by
    cases h with
    | int n hu => simp only [Instr.checkKey, Sem.run_bind, run_underlying hu, Result.andThen_ok, Sem.run_pure]
    | str s hu => simp only [Instr.checkKey, Sem.run_bind, run_underlying hu, Result.andThen_ok, Sem.run_pure]
  exact key 9999

theorem findKey_ok {K : TypeId} {k : Value} (h : KeyOk P K k) {es : List MapEntry} (he : KeysOk k es) (w : World) : (Instr.findKey K k es).run P w = .ok (findE k es 0) w := by
  have key : ∀ d, P.underlying K = some d → (Instr.findKey K k es).run P w = .ok (findE k es 0) w := fun d hu => by
    simp only [Instr.findKey, Sem.run_bind, run_underlying hu, Result.andThen_ok, findNow_eq h hu 0 he, Sem.run_pure]
  cases h with
  | int n hu => exact key _ hu
  | str s hu => exact key _ hu

theorem run_getObj_map {w : World} {r : Nat} {es : Array MapEntry} {ck : Nat} (h : w.heap[r]? = some (.map es ck)) : (getObj r).run P w = .ok (.map es ck) w := by
  simp [getObj, Sem.run, h]

theorem lookup_run {T K E : TypeId} {k z : Value} {r : Nat} {es : Array MapEntry} {ck : Nat} (hu : P.underlying T = some (.map K E)) (hk : KeyOk P K k) (hE : (zeroValue E).run P X.w = .ok z X.w)
    (hr : X.w.heap[r]? = some (.map es ck)) (he : KeysOk k es.toList) : (Instr.lookup T (.map (some r)) k false).run P X.w = .ok (lookE k z es.toList) X.w := by
  simp only [Instr.lookup, Sem.run_bind, run_underlying hu, Result.andThen_ok, run_getObj_map hr, Sem.run_pure, checkKey_ok hk, findKey_ok hk he]
  rw [lookE_find es.toList 0]
  cases findE k es.toList 0 with
  | none => simp [hE]
  | some p => rfl

theorem mapB_spec {m : MK} {K E : TypeId} (h : mapB P m K E = true) :
    (m = .sb → P.underlying K = some .string) ∧ (m ≠ .sb → P.underlying K = some (.int .i64)) ∧
    ∀ w, (zeroValue E).run P w = .ok (match m with | .ib => .bool false | .sb => .bool false | .ii => .int .i64 0 | .ifn => .nilFunc) w := by
  unfold mapB at h
  simp only [Bool.and_eq_true] at h
  obtain ⟨h1, h2⟩ := h
  refine ⟨?_, ?_, ?_⟩
  · rintro rfl
    split at h1 <;> simp_all
  · intro hm
    split at h1 <;> simp_all
  · intro w
    split at h2
    · cases h2
    · rename_i i hi
      split at h2 <;> first | cases h2 | skip
      all_goals (rename_i hz; simp [zeroValue, typeInfo, hi, hz])

theorem isMap_inv {d : TyD} {m : MK} (h : d.isMap m = true) : d = .map m := by
  unfold TyD.isMap at h
  split at h <;> first | rfl | cases h

theorem map_obj (H : HR X) {id b : Nat} {m : MapC} (h : X.h[id]? = some (.map m)) (hb : X.μ[id]? = some (some b)) : ∃ es ck, X.w.heap[b]? = some (.map es ck) ∧ MapR m es := by
  obtain ⟨b0, hb0, b', es, ck, rfl, h1, h2⟩ := H.obj _ _ h
  rw [hb] at hb0; cases hb0
  exact ⟨es, ck, h1, h2⟩

theorem fnOpt_VV (f : Option FuncId) : VV X (fnOpt f) (fnV f) := by
  cases f with
  | none => exact (rfl : _ = _)
  | some f => simp only [fnOpt, fnV, VV]; exact ⟨#[], #[], rfl, by simp [VVs], by simp [VVs]⟩

theorem lookup_sound (H : HR X) {T : TypeId} {d : TyD} {x k : AV} {c ck : Value} {S : Prop} {v : AV} {news : List AObj} (hT : tyB P d T = true) (hx : VV X x c) (hk : VV X k ck)
    (h : lookupD d X.h x k = some (S, v, news)) (hS : S) : news = [] ∧ Pure P (Instr.lookup T c ck false) X v := by
  unfold lookupD at h
  split at h
  rotate_left
  · cases h
  rename_i id
  obtain ⟨b, hb, rfl, _⟩ : ∃ b, X.μ[id]? = some (some b) ∧ c = .map (some b) ∧ rowO (X.h[id]?) = none := hx
  unfold lookupO at h
  split at h
  · rename_i m n ho
    have h2 := (whenD_inv h).2
    obtain rfl := isMap_inv (whenD_inv h).1
    obtain ⟨rfl, rfl, rfl⟩ := pD_inv h2
    obtain rfl : ck = .int .i64 n := hk
    obtain ⟨K, E, hu, hm⟩ := ty_map hT
    obtain ⟨_, k2, k3⟩ := mapB_spec hm
    obtain ⟨es, ck, hr, hM⟩ := map_obj H ho hb
    exact ⟨rfl, _, lookup_run hu (.int n (k2 (by simp))) (k3 _) hr (.int _ _ hM.1), hM.2 n⟩
  · rename_i m n ho
    have h2 := (whenD_inv h).2
    obtain rfl := isMap_inv (whenD_inv h).1
    obtain ⟨rfl, rfl, rfl⟩ := pD_inv h2
    obtain rfl : ck = .int .i64 n := hk
    obtain ⟨K, E, hu, hm⟩ := ty_map hT
    obtain ⟨_, k2, k3⟩ := mapB_spec hm
    obtain ⟨es, ck, hr, hM⟩ := map_obj H ho hb
    exact ⟨rfl, _, lookup_run hu (.int n (k2 (by simp))) (k3 _) hr (.int _ _ hM.1), hM.2 n⟩
  · rename_i m n ho
    have h2 := (whenD_inv h).2
    obtain rfl := isMap_inv (whenD_inv h).1
    obtain ⟨rfl, rfl, rfl⟩ := pD_inv h2
    obtain rfl : ck = .int .i64 n := hk
    obtain ⟨K, E, hu, hm⟩ := ty_map hT
    obtain ⟨_, k2, k3⟩ := mapB_spec hm
    obtain ⟨es, ck, hr, hM⟩ := map_obj H ho hb
    refine ⟨rfl, _, lookup_run hu (.int n (k2 (by simp))) (k3 _) hr (.int _ _ hM.1), ?_⟩
    rw [hM.2 n]; exact fnOpt_VV _
  · rename_i m n ho
    have h2 := (whenD_inv h).2
    obtain rfl := isMap_inv (whenD_inv h).1
    obtain ⟨rfl, rfl, rfl⟩ := pD_inv h2
    obtain rfl : ck = .string (bstr n) := hk
    obtain ⟨K, E, hu, hm⟩ := ty_map hT
    obtain ⟨k1, _, k3⟩ := mapB_spec hm
    obtain ⟨es, ck, hr, hM⟩ := map_obj H ho hb
    exact ⟨rfl, _, lookup_run hu (.str n (k1 rfl)) (k3 _) hr (.str _ _ hM.1), hM.2 n⟩
  · cases h
end
end Lam
