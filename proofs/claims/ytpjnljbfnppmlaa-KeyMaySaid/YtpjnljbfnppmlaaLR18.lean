/- Maps that are written. -/
import Derived.Test.YtpjnljbfnppmlaaLR17
set_option linter.unusedVariables false
set_option linter.unnecessarySimpa false
set_option linter.unusedSectionVars false
set_option linter.unusedSimpArgs false
namespace Lam
open Go

section
variable {P : Program} {X : Cx}

theorem keyEq_eq {k : Value} {e : MapEntry} {es : List MapEntry} (h : KeysOk k es) (he : e ∈ es) (hk : keyEq k e.key = true) : e.key = k := by
  cases h with
  | int n es h => obtain ⟨j, hj⟩ := h e he; rw [hj] at hk ⊢; simp [keyEq] at hk; rw [hk]
  | str n es h =>
    obtain ⟨j, hj⟩ := h e he; rw [hj] at hk ⊢
    simp only [keyEq, decide_eq_true_eq] at hk
    have : n = j := by simpa [bstr] using hk
    rw [this]

theorem findE_some {k : Value} : ∀ {es : List MapEntry} {i j : Nat} {v : Value}, findE k es i = some (j, v) → ∃ pre e post, es = pre ++ e :: post ∧ j = i + pre.length ∧ keyEq k e.key = true ∧ e.val = v ∧ ∀ p ∈ pre, keyEq k p.key = false
  | [], _, _, _, h => by cases h
  | e :: r, i, j, v, h => by
    simp only [findE] at h
    split at h
    · rename_i hk; cases h; exact ⟨[], e, r, rfl, rfl, hk, rfl, by simp⟩
    · rename_i hk
      obtain ⟨pre, e', post, rfl, h2, h3, h4, h5⟩ := findE_some h
      refine ⟨e :: pre, e', post, rfl, by simp; omega, h3, h4, fun p hp => ?_⟩
      rcases List.mem_cons.1 hp with rfl | hp
      · simpa using hk
      · exact h5 p hp

theorem findE_none {k : Value} : ∀ {es : List MapEntry} {i : Nat}, findE k es i = none → ∀ p ∈ es, keyEq k p.key = false
  | [], _, _ => by simp
  | e :: r, i, h => by
    simp only [findE] at h
    split at h
    · cases h
    · rename_i hk
      intro p hp
      rcases List.mem_cons.1 hp with rfl | hp
      · simpa using hk
      · exact findE_none h p hp

theorem lookE_pre {q z : Value} : ∀ {pre post : List MapEntry}, (∀ p ∈ pre, keyEq q p.key = false) → lookE q z (pre ++ post) = lookE q z post
  | [], _, _ => rfl
  | p :: pre, post, h => by
    simp only [List.cons_append, lookE, h p (by simp), Bool.false_eq_true, if_false]
    exact lookE_pre fun x hx => h x (by simp [hx])

theorem lookE_swap {q z : Value} {e e' : MapEntry} {post : List MapEntry} (h : keyEq q e.key = false) (h' : keyEq q e'.key = false) : ∀ pre : List MapEntry, lookE q z (pre ++ e' :: post) = lookE q z (pre ++ e :: post)
  | [] => by simp [lookE, h, h']
  | p :: pre => by simp only [List.cons_append, lookE, lookE_swap h h' pre]

theorem lookE_push {q z : Value} {e : MapEntry} (h : keyEq q e.key = false) : ∀ es : List MapEntry, lookE q z (es ++ [e]) = lookE q z es
  | [] => by simp [lookE, h]
  | p :: es => by simp only [List.cons_append, lookE, lookE_push h es]

theorem sameBits_self {k : Value} (h : ∃ K, KeyOk P K k) : Instr.sameBits 10000 k k = true := by
  obtain ⟨K, h⟩ := h
  cases h with
  | int n hu => simp [Instr.sameBits]
  | str s hu => simp only [Instr.sameBits, bstr_beq, decide_true]

theorem run_setObj_map {w : World} {r : Nat} {es : Array MapEntry} {ck : Nat} (h : w.heap[r]? = some (.map es ck)) (o : Obj) : (setObj r o).run P w = .ok () { w with heap := w.heap.setIfInBounds r o } := by
  simp [setObj, Sem.run, h]

theorem set_run {T K E : TypeId} {k : Value} {r : Nat} {es : Array MapEntry} {ck : Nat} (val : Value) (hu : P.underlying T = some (.map K E)) (hk : KeyOk P K k)
    (hr : X.w.heap[r]? = some (.map es ck)) (he : KeysOk k es.toList) :
    ∃ es' ck', (Instr.mapUpdate T (.map (some r)) k val).run P X.w = .ok () { X.w with heap := X.w.heap.setIfInBounds r (.map es' ck') } ∧
      (∀ e ∈ es'.toList, e.key = k ∨ ∃ e0 ∈ es.toList, e.key = e0.key) ∧ (∀ z, lookE k z es'.toList = val) ∧ ∀ q z, keyEq q k = false → lookE q z es'.toList = lookE q z es.toList := by
  have hkk : keyEq k k = true := by cases hk <;> simp [keyEq]
  cases hf : findE k es.toList 0 with
  | none =>
    have hno := findE_none hf
    refine ⟨es.push { key := k, val := val, born := ck }, ck + 1, ?_, ?_, ?_⟩
    · simp only [Instr.mapUpdate, Sem.run_bind, run_underlying hu, Result.andThen_ok, run_getObj_map hr, checkKey_ok hk, findKey_ok hk he, hf, run_setObj_map hr]
    · intro e hmem
      rw [Array.toList_push] at hmem
      rcases List.mem_append.1 hmem with h | h
      · exact .inr ⟨e, h, rfl⟩
      · rw [List.mem_singleton.1 h]; exact .inl rfl
    · refine ⟨fun z => ?_, fun q z hq => ?_⟩
      · rw [Array.toList_push, lookE_pre hno]; simp [lookE, hkk]
      · rw [Array.toList_push, lookE_push hq]
  | some p =>
    obtain ⟨j, v⟩ := p
    obtain ⟨pre, e, post, hes, hj, hke, hv, hpre⟩ := findE_some hf
    have hmem : e ∈ es.toList := by rw [hes]; simp
    have hkey := keyEq_eq he hmem hke
    simp only [Nat.zero_add] at hj
    have hget : es[j]? = some e := by rw [← Array.getElem?_toList, hes, hj]; simp
    have hmod : (es.modify j fun e => { e with key := k, val := val }).toList = pre ++ { e with key := k, val := val } :: post := by
      rw [Array.toList_modify, hes, hj]
      apply List.ext_getElem?
      intro m
      rw [List.getElem?_modify]
      by_cases hm : m < pre.length
      · have e1 : ¬ pre.length = m := by omega
        rw [List.getElem?_append_left hm, List.getElem?_append_left hm]; simp [e1]
      · rw [List.getElem?_append_right (by omega), List.getElem?_append_right (by omega)]
        by_cases hm2 : m = pre.length
        · subst hm2; simp
        · have e1 : ¬ pre.length = m := by omega
          obtain ⟨x, hx⟩ : ∃ x, m - pre.length = x + 1 := ⟨m - pre.length - 1, by omega⟩
          rw [hx]; simp [e1]
    refine ⟨es.modify j fun e => { e with key := k, val := val }, ck, ?_, ?_, ?_⟩
    · have hsame := sameBits_self (P := P) (k := k) ⟨K, hk⟩
      simp only [Instr.mapUpdate, Sem.run_bind, run_underlying hu, Result.andThen_ok, run_getObj_map hr, checkKey_ok hk, findKey_ok hk he, hf, hget, Option.map_some, Option.getD_some, hkey, Instr.keyThatStays, hsame, if_true, Sem.run_pure, run_setObj_map hr]
    · intro x hx
      rw [hmod] at hx
      rcases List.mem_append.1 hx with h | h
      · exact .inr ⟨x, by rw [hes]; simp [h], rfl⟩
      · rcases List.mem_cons.1 h with rfl | h
        · exact .inl rfl
        · exact .inr ⟨x, by rw [hes]; simp [h], rfl⟩
    · refine ⟨fun z => ?_, fun q z hq => ?_⟩
      · rw [hmod, lookE_pre hpre]; simp [lookE, hkk]
      · rw [hmod, hes]
        exact lookE_swap (by rw [hkey]; exact hq) hq pre

/-- a map whose object is written -/
theorem setMap_good (H : HR X) {id b : Nat} {m m' : MapC} {es es' : Array MapEntry} {ck ck' : Nat} (ho : X.h[id]? = some (.map m)) (hb : X.μ[id]? = some (some b)) (hg : X.w.heap[b]? = some (.map es ck)) (hM : MapR m' es') :
    Good X (X.h.set id (.map m')) .und undef { X.w with heap := X.w.heap.setIfInBounds b (.map es' ck') } := by
  have hlt : b < X.w.heap.size := (Array.getElem?_eq_some_iff.1 hg).1
  have U : Upd X ⟨X.S, X.μ.set id (some b), X.h.set id (.map m'), { X.w with heap := X.w.heap.setIfInBounds b (.map es' ck') }⟩ id (.map m) (.map m') (some b) (some b) :=
    { S := rfl, hh := rfl, mu := rfl, ho := ho, hb := hb
      heap := fun k _ hk => by
        simp only [Array.getElem?_setIfInBounds]
        rw [if_neg (fun e => hk (by rw [e]))]
      grow := by simp
      blk := .inl rfl
      env := ⟨rfl, rfl, rfl⟩, own := fun k hk hS => by
        cases hk
        obtain ⟨_, _, h⟩ := (H.live _ _ hb).2 hS; rw [ho] at h; cases h
      row := fun k ver l h => by cases h
      oth := fun _ => .inr ⟨rfl, rfl⟩ }
  refine ⟨⟨X.S, X.μ.set id (some b), X.h.set id (.map m'), { X.w with heap := X.w.heap.setIfInBounds b (.map es' ck') }⟩, rfl, rfl, U.hr H fun E => ⟨b, es', ck', rfl, ?_, hM⟩, U.ext H, rfl⟩
  simp [hlt]

theorem setInt {es es' : Array MapEntry} {n : Int} (hkeys : ∀ e ∈ es.toList, ∃ k, e.key = .int .i64 k)
    (h1 : ∀ e ∈ es'.toList, e.key = .int .i64 n ∨ ∃ e0 ∈ es.toList, e.key = e0.key) : ∀ e ∈ es'.toList, ∃ k, e.key = .int .i64 k := by
  intro e he
  rcases h1 e he with h | ⟨e0, h0, h⟩
  · exact ⟨n, h⟩
  · obtain ⟨k, hk⟩ := hkeys e0 h0; exact ⟨k, by rw [h, hk]⟩

theorem mapSet_sound (H : HR X) {T : TypeId} {d : TyD} {x k v : AV} {c ck cv : Value} {S : Prop} {id : Nat} {o' : AObj} (hT : tyB P d T = true) (hx : VV X x c) (hk : VV X k ck) (hv : VV X v cv)
    (h : mapSetH d X.h x k v = some (S, id, o')) (hS : S) : ∃ w', (Instr.mapUpdate T c ck cv).run P X.w = .ok () w' ∧ Good X (X.h.set id o') .und undef w' := by
  unfold mapSetH at h
  split at h
  rotate_left
  · cases h
  rename_i id0
  obtain ⟨b, hb, rfl, _⟩ : ∃ b, X.μ[id0]? = some (some b) ∧ c = .map (some b) ∧ rowO (X.h[id0]?) = none := hx
  split at h
  rotate_left
  · cases h
  rename_i m' hm'
  cases h
  unfold mapSetO at hm'
  split at hm'
  · rename_i m n q ho
    split at hm'
    · rename_i hd
      cases hm'
      obtain rfl := isMap_inv hd
      obtain rfl : ck = .int .i64 n := hk
      obtain rfl : cv = .bool q := hv
      obtain ⟨K, E, hu, hm⟩ := ty_map hT
      obtain ⟨_, k2, k3⟩ := mapB_spec hm
      obtain ⟨es, ck0, hr, hM⟩ := map_obj H ho hb
      obtain ⟨es', ck', g1, g2, g3, g4⟩ := set_run (P := P) (.bool q) hu (.int n (k2 (by simp))) hr (.int _ _ hM.1)
      refine ⟨_, g1, setMap_good H ho hb hr ⟨setInt hM.1 g2, fun j => ?_⟩⟩
      by_cases e : j = n
      · subst e; rw [g3]; dsimp only; rw [if_pos rfl]
      · rw [g4 _ _ (by simpa [keyEq] using e), hM.2 j]; dsimp only; rw [if_neg e]
    · cases hm'
  · rename_i m n q ho
    split at hm'
    · rename_i hd
      cases hm'
      obtain rfl := isMap_inv hd
      obtain rfl : ck = .int .i64 n := hk
      obtain rfl : cv = .int .i64 q := hv
      obtain ⟨K, E, hu, hm⟩ := ty_map hT
      obtain ⟨_, k2, k3⟩ := mapB_spec hm
      obtain ⟨es, ck0, hr, hM⟩ := map_obj H ho hb
      obtain ⟨es', ck', g1, g2, g3, g4⟩ := set_run (P := P) (.int .i64 q) hu (.int n (k2 (by simp))) hr (.int _ _ hM.1)
      refine ⟨_, g1, setMap_good H ho hb hr ⟨setInt hM.1 g2, fun j => ?_⟩⟩
      by_cases e : j = n
      · subst e; rw [g3]; dsimp only; rw [if_pos rfl]
      · rw [g4 _ _ (by simpa [keyEq] using e), hM.2 j]; dsimp only; rw [if_neg e]
    · cases hm'
  · rename_i m n f ho
    split at hm'
    · rename_i hd
      cases hm'
      obtain rfl := isMap_inv hd
      obtain rfl : ck = .int .i64 n := hk
      obtain rfl : cv = fnV (some f) := by
        simp only [VV] at hv
        obtain ⟨a, d, rfl, h1, h2⟩ := hv
        simp only [VVs, Array.toList_eq_nil_iff] at h1 h2
        subst h1 h2; rfl
      obtain ⟨K, E, hu, hm⟩ := ty_map hT
      obtain ⟨_, k2, k3⟩ := mapB_spec hm
      obtain ⟨es, ck0, hr, hM⟩ := map_obj H ho hb
      obtain ⟨es', ck', g1, g2, g3, g4⟩ := set_run (P := P) (fnV (some f)) hu (.int n (k2 (by simp))) hr (.int _ _ hM.1)
      refine ⟨_, g1, setMap_good H ho hb hr ⟨setInt hM.1 g2, fun j => ?_⟩⟩
      by_cases e : j = n
      · subst e; rw [g3]; dsimp only; rw [if_pos rfl]
      · rw [g4 _ _ (by simpa [keyEq] using e), hM.2 j]; dsimp only; rw [if_neg e]
    · cases hm'
  · rename_i m n q ho
    split at hm'
    · rename_i hd
      cases hm'
      obtain rfl := isMap_inv hd
      obtain rfl : ck = .string (bstr n) := hk
      obtain rfl : cv = .bool q := hv
      obtain ⟨K, E, hu, hm⟩ := ty_map hT
      obtain ⟨k1, _, k3⟩ := mapB_spec hm
      obtain ⟨es, ck0, hr, hM⟩ := map_obj H ho hb
      obtain ⟨es', ck', g1, g2, g3, g4⟩ := set_run (P := P) (.bool q) hu (.str n (k1 rfl)) hr (.str _ _ hM.1)
      refine ⟨_, g1, setMap_good H ho hb hr ⟨fun e he => ?_, fun j => ?_⟩⟩
      · rcases g2 e he with h | ⟨e0, h0, h⟩
        · exact ⟨n, h⟩
        · obtain ⟨k, hk⟩ := hM.1 e0 h0; exact ⟨k, by rw [h, hk]⟩
      · by_cases e : j = n
        · subst e; rw [g3]; dsimp only; rw [if_pos rfl]
        · have hq : keyEq (.string (bstr j)) (.string (bstr n)) = false := decide_eq_false (by simpa [bstr] using e)
          rw [g4 _ _ hq, hM.2 j]; dsimp only; rw [if_neg e]
    · cases hm'
  · cases hm'
end
end Lam
