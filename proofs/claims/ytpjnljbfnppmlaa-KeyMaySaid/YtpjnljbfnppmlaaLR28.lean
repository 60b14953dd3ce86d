/- Regions that draw their order: what the checks say. -/
import Derived.Test.YtpjnljbfnppmlaaLR27
import Derived.OrdersIn
set_option linter.unnecessarySimpa false
set_option linter.unusedSectionVars false
set_option linter.unusedSimpArgs false
set_option linter.unusedVariables false
namespace Lam
open Go

/-! ### What an operation writes and reads -/
theorem ofD_mm {x : D} {S : Prop} {v : AV} {news : List AObj} {mm : Option (Nat × AObj)} (h : ofD x = some (S, v, news, mm)) : mm = none := (ofD_inv h).2

theorem storeH_id {d : TyD} {h : List AObj} {a v : AV} {S : Prop} {id : Nat} {o : AObj} (e : storeH d h a v = some (S, id, o)) : id ∈ a.ids := by
  unfold storeH at e
  split at e
  · split at e
    · cases e; simp [AV.ids]
    · cases e
  · cases e

theorem mapSetH_id {d : TyD} {h : List AObj} {a k v : AV} {S : Prop} {id : Nat} {o : AObj} (e : mapSetH d h a k v = some (S, id, o)) : id ∈ a.ids := by
  unfold mapSetH at e
  split at e
  · split at e
    · cases e; simp [AV.ids]
    · cases e
  · cases e

theorem appendH_id {d : TyD} {h : List AObj} {s x : AV} {S : Prop} {v : AV} {id : Nat} {o : AObj} (e : appendH d h s x = some (S, v, id, o)) : id ∈ s.ids := by
  unfold appendH at e
  split at e
  · split at e
    · unfold appendO at e
      split at e
      · split at e
        · split at e
          · cases e; simp [AV.ids]
          · cases e
        · cases e
      · cases e
    · cases e
  · cases e

theorem copyH_id {d : TyD} {h : List AObj} {s x : AV} {S : Prop} {v : AV} {id : Nat} {o : AObj} (e : copyH d h s x = some (S, v, id, o)) : id ∈ s.ids := by
  unfold copyH at e
  split at e
  · split at e
    · unfold copyO at e
      split at e
      · split at e
        · split at e
          · cases e; simp [AV.ids]
          · cases e
        · cases e
      · cases e
    · cases e
  · cases e

theorem clearH_id {d : TyD} {h : List AObj} {s : AV} {S : Prop} {v : AV} {id : Nat} {o : AObj} (e : clearH d h s = some (S, v, id, o)) : id ∈ s.ids := by
  unfold clearH at e
  split at e
  · split at e
    · unfold clearO at e
      split at e
      · split at e
        · split at e
          · cases e; simp [AV.ids]
          · cases e
        · cases e
      · cases e
    · cases e
  · cases e

theorem ofDM_id {x : D} {y : Option (Prop × AV × Nat × AObj)} {S : Prop} {v : AV} {news : List AObj} {id : Nat} {o : AObj} (h : ofDM x y = some (S, v, news, some (id, o))) : ∃ S v, y = some (S, v, id, o) := by
  unfold ofDM at h
  split at h
  · cases ofD_mm h
  · obtain ⟨id', o', e, _, e2⟩ := ofM_inv h
    cases e2; exact ⟨_, _, e⟩

theorem append_id {d e : TyD} {s x : AV} {h : List AObj} {n : Nat} {S : Prop} {v : AV} {news : List AObj} {id : Nat} {o : AObj} (hh : appendDR d e s x h n = some (S, v, news, some (id, o))) : id ∈ s.ids := by
  unfold appendDR at hh
  split at hh
  · obtain ⟨_, _, e⟩ := ofDM_id hh; exact appendH_id e
  · split at hh
    · unfold andDR at hh
      split at hh
      · rename_i e1; cases hh
        obtain ⟨_, _, e⟩ := ofDM_id e1; exact appendH_id e
      · cases hh
    · cases hh
  · cases hh

theorem builtin_id {b : Builtin} {ds : List TyD} {args : List AV} {h : List AObj} {n : Nat} {S : Prop} {v : AV} {news : List AObj} {id : Nat} {o : AObj}
    (hh : builtinDR b ds args h n = some (S, v, news, some (id, o))) : (b = .append ∨ b = .copy ∨ b = .clear) ∧ ∃ x r, args = x :: r ∧ id ∈ x.ids := by
  unfold builtinDR at hh
  split at hh
  · cases ofD_mm hh
  · cases ofD_mm hh
  · cases ofD_mm hh
  · exact ⟨.inl rfl, _, _, rfl, append_id hh⟩
  · obtain ⟨id', o', e, _, e2⟩ := ofM_inv hh; cases e2
    exact ⟨.inr (.inl rfl), _, _, rfl, copyH_id e⟩
  · obtain ⟨id', o', e, _, e2⟩ := ofM_inv hh; cases e2
    exact ⟨.inr (.inr rfl), _, _, rfl, clearH_id e⟩
  · cases hh

theorem callFD_mm {c : Ctx} {s : Nat} {f : AV} {args : List AV} {h : List AObj} {S : Prop} {v : AV} {news : List AObj} {mm : Option (Nat × AObj)} (hh : callFD c s f args h = some (S, v, news, mm)) : mm = none := by
  unfold callFD at hh
  split at hh
  · unfold callDR at hh
    split at hh
    · cases hh; rfl
    · split at hh
      · cases hh; rfl
      · split at hh
        · cases hh; rfl
        · cases hh
    · cases hh
  · cases hh

theorem ids_of_other (t : List (Nat × AV)) (d : TyD) {x : Operand} {id : Nat} (h : id ∈ (ev t d x).ids) : id ∈ (ev t .other x).ids := by rw [ev_ids t .other d]; exact h

theorem opD_mut {c : Ctx} {s : Nat} {t : List (Nat × AV)} {h : List AObj} {oo : Oper} {S : Prop} {v : AV} {news : List AObj} {id : Nat} {o : AObj}
    (hh : opD c s t h oo.op oo.type = some (S, v, news, some (id, o))) : ∃ x, mutOf oo = some x ∧ x ∈ oo.op.operands.toList ∧ id ∈ (ev t .other x).ids ∧ looks oo = true := by
  cases ho : oo.op with
  | store T a y =>
    rw [ho] at hh
    obtain ⟨id', o', e, _, _, e2⟩ := ofH_inv hh; cases e2
    exact ⟨a, by simp [mutOf, ho], by simp [Op.operands], ids_of_other t _ (storeH_id e), by simp [looks, ho]⟩
  | mapUpdate T m k y =>
    rw [ho] at hh
    obtain ⟨id', o', e, _, _, e2⟩ := ofH_inv hh; cases e2
    exact ⟨m, by simp [mutOf, ho], by simp [Op.operands], ids_of_other t _ (mapSetH_id e), by simp [looks, ho]⟩
  | insert T m k y =>
    rw [ho] at hh
    obtain ⟨id', o', e, _, _, e2⟩ := ofH_inv hh; cases e2
    exact ⟨m, by simp [mutOf, ho], by simp [Op.operands], ids_of_other t _ (mapSetH_id e), by simp [looks, ho]⟩
  | call cl =>
    rw [ho] at hh
    simp only [opD] at hh
    split at hh
    · cases hh
    rename_i hl
    have hl := Nat.eq_of_beq_eq_true hl
    split at hh
    · rename_i b hb
      obtain ⟨hb2, x, r, hx, hid⟩ := builtin_id hh
      cases hargs : cl.args.toList with
      | nil => rw [argVs, hargs] at hx; cases hx
      | cons y ys =>
        cases htys : cl.argTypes.toList with
        | nil => rw [argVs, hargs, htys] at hx; cases hx
        | cons T Ts =>
          rw [argVs, hargs, htys] at hx
          simp only [List.zip_cons_cons, List.map_cons, List.cons.injEq] at hx
          rw [← hx.1] at hid
          have h0 : cl.args[0]? = some y := by rw [← Array.getElem?_toList, hargs]; rfl
          obtain ⟨callee, args, argTypes⟩ := cl
          simp only at hb h0
          refine ⟨y, ?_, (call_operands _).1 y (by rw [hargs]; simp), ids_of_other t _ hid, by simp [looks, ho]⟩
          subst hb
          rcases hb2 with rfl | rfl | rfl <;> simp [mutOf, ho, h0]
    · cases callFD_mm hh
    · cases hh
  | lookup T x k b => rw [ho] at hh; cases b <;> first | (cases hh; done) | cases ofD_mm hh
  | makeMap T r => rw [ho] at hh; cases r <;> first | (cases hh; done) | cases ofD_mm hh
  | binOp op xt x y b =>
    rw [ho] at hh
    simp only [opD] at hh
    split at hh
    · cases hh
    · cases ofD_mm hh
  | makeInterface T x =>
    rw [ho] at hh
    simp only [opD, whenDR] at hh
    split at hh <;> cases hh
  | _ => rw [ho] at hh; first | (cases hh; done) | cases ofD_mm hh

/-- who does not look does not hang on the heap -/
theorem opD_nolook {c : Ctx} {s : Nat} {t : List (Nat × AV)} {h h' : List AObj} {oo : Oper} (hl : looks oo = false) : opD c s t h oo.op oo.type = opD c s t h' oo.op oo.type := by
  cases ho : oo.op <;> first | rfl | (simp [looks, ho] at hl; done) | skip
  rename_i T r
  cases r <;> rfl

/-- temporaries count as they are read -/
theorem opD_temps {c : Ctx} {s : Nat} {t t' : List (Nat × AV)} {h : List AObj} {op : Op} {type : TypeId} (a : ∀ x ∈ op.operands.toList, ∀ d, ev t d x = ev t' d x) : opD c s t h op type = opD c s t' h op type := by
  have om : ∀ (z : Option Operand) d, (∀ y, z = some y → y ∈ op.operands.toList) → z.map (ev t d) = z.map (ev t' d) := by
    intro z d hz
    cases z with
    | none => rfl
    | some y => simp [a y (hz y rfl) d]
  cases op with
  | move x => simp only [opD, a x (by simp [Op.operands])]
  | assign x => simp only [opD, a x (by simp [Op.operands])]
  | pick x y z => simp only [opD, a x (by simp [Op.operands]), a y (by simp [Op.operands]), a z (by simp [Op.operands])]
  | box T x => simp only [opD, a x (by simp [Op.operands])]
  | build T ps =>
    have : (ps.toList.map fun p => (p.1, ev t ((c.tab T).field p.1) p.2)) = ps.toList.map fun p => (p.1, ev t' ((c.tab T).field p.1) p.2) := by
      apply List.map_congr_left
      intro p hp
      rw [a p.2 (by simp only [Op.operands]; exact List.mem_map_of_mem hp)]
    simp only [opD, this]
  | buildSlice T n ps =>
    have : (ps.toList.map fun p => (p.1, ev t .other p.2)) = ps.toList.map fun p => (p.1, ev t' .other p.2) := by
      apply List.map_congr_left
      intro p hp
      rw [a p.2 (by simp only [Op.operands]; exact List.mem_map_of_mem hp)]
    simp only [opD, this]
  | load T x => simp only [opD, a x (by simp [Op.operands])]
  | store T x y => simp only [opD, a x (by simp [Op.operands]), a y (by simp [Op.operands])]
  | nilCheck x => simp only [opD, a x (by simp [Op.operands])]
  | binOp op xt x y b => simp only [opD, a x (by simp [Op.operands]), a y (by simp [Op.operands])]
  | unOp op xt x => simp only [opD, a x (by simp [Op.operands])]
  | convert s d x => simp only [opD, a x (by simp [Op.operands])]
  | makeInterface T x => simp only [opD, a x (by simp [Op.operands])]
  | makeFunc fn first cap =>
    have h1 : first.toList.map (ev t .other) = first.toList.map (ev t' .other) := List.map_congr_left fun x hx => a x (by simp only [Op.operands, Array.toList_append]; exact List.mem_append_left _ hx) _
    have h2 : cap.toList.map (ev t .other) = cap.toList.map (ev t' .other) := List.map_congr_left fun x hx => a x (by simp only [Op.operands, Array.toList_append]; exact List.mem_append_right _ hx) _
    simp only [opD, h1, h2]
  | makeSlice T l cp => simp only [opD, a l (by simp [Op.operands]), a cp (by simp [Op.operands])]
  | slice T x lo hi mx =>
    simp only [opD, a x (by simp [Op.operands]), om lo _ (by rintro y rfl; simp [Op.operands]), om hi _ (by rintro y rfl; simp [Op.operands]), om mx _ (by rintro y rfl; simp [Op.operands])]
  | fieldAddr T x f => simp only [opD, a x (by simp [Op.operands])]
  | field T x f => simp only [opD, a x (by simp [Op.operands])]
  | indexAddr T x i => simp only [opD, a x (by simp [Op.operands]), a i (by simp [Op.operands])]
  | index T x i => simp only [opD, a x (by simp [Op.operands]), a i (by simp [Op.operands])]
  | lookup T x k b => cases b <;> simp only [opD, a x (by simp [Op.operands]), a k (by simp [Op.operands])]
  | mapUpdate T m k v => simp only [opD, a m (by simp [Op.operands]), a k (by simp [Op.operands]), a v (by simp [Op.operands])]
  | insert T m k v => simp only [opD, a m (by simp [Op.operands]), a k (by simp [Op.operands]), a v (by simp [Op.operands])]
  | extract x i => simp only [opD, a x (by simp [Op.operands])]
  | call cl =>
    have h1 : argVs c t cl = argVs c t' cl := by
      unfold argVs
      apply List.map_congr_left
      intro p hp
      exact a p.1 ((call_operands cl).1 p.1 (List.of_mem_zip hp).1) _
    have h2 : ∀ f, cl.callee = .value f → ev t .func f = ev t' .func f := fun f hf => a f ((call_operands cl).2 f hf) _
    simp only [opD, h1]
    split
    · rfl
    · split
      · rfl
      · rename_i f hf; rw [h2 f hf]
      · rfl
  | makeMap T r => cases r <;> rfl
  | _ => rfl

/-! ### The order that binds -/
def befVal (acc : List Nat) (o : Oper) : Nat := o.after.foldl (fun s e => match Region.binds .any e with
      | true => s ||| ((1 <<< e.on) ||| acc.getD e.on 0)
      | false => s) 0

theorem befores_cons (o : Oper) (r : List Oper) (acc : List Nat) : befores (o :: r) acc = befores r (acc ++ [befVal acc o]) := rfl

theorem bef_prefix : ∀ (r : List Oper) (acc : List Nat) (k : Nat), k < acc.length → (befores r acc).getD k 0 = acc.getD k 0
  | [], _, _, _ => rfl
  | o :: r, acc, k, h => by
    rw [befores_cons, bef_prefix r _ k (by simp; omega)]
    simp only [List.getD_eq_getElem?_getD, List.getElem?_append_left h]

theorem one_shift_bit (i j : Nat) : (1 <<< i).testBit j = true → j = i := by
  intro h
  rw [Nat.one_shiftLeft, Nat.testBit_two_pow] at h
  have : i = j := by simpa using h
  exact this.symm

theorem befVal_bit (acc : List Nat) (o : Oper) (j : Nat) (h : (befVal acc o).testBit j = true) :
    ∃ e ∈ o.after.toList, Region.binds .any e = true ∧ (e.on = j ∨ (acc.getD e.on 0).testBit j = true) := by
  unfold befVal at h
  rw [← Array.foldl_toList] at h
  have key : ∀ (l : List Edge) (s : Nat), (l.foldl (fun s e => match Region.binds .any e with
      | true => s ||| ((1 <<< e.on) ||| acc.getD e.on 0)
      | false => s) s).testBit j = true → s.testBit j = true ∨ ∃ e ∈ l, Region.binds .any e = true ∧ (e.on = j ∨ (acc.getD e.on 0).testBit j = true) := by
    intro l
    induction l with
    | nil => intro s h; exact .inl h
    | cons e l ih =>
      intro s h
      simp only [List.foldl_cons] at h
      rcases ih _ h with h1 | ⟨e', he', h1⟩
      · cases hb : Region.binds .any e with
        | false => rw [hb] at h1; exact .inl h1
        | true =>
          rw [hb] at h1
          simp only [Nat.testBit_or, Bool.or_eq_true] at h1
          rcases h1 with h1 | h1 | h1
          · exact .inl h1
          · exact .inr ⟨e, by simp, hb, .inl (one_shift_bit _ _ h1).symm⟩
          · exact .inr ⟨e, by simp, hb, .inr h1⟩
      · exact .inr ⟨e', by simp [he'], h1⟩
  rcases key _ 0 h with h | h
  · simp at h
  · exact h

theorem bef_bit : ∀ (r : List Oper) (acc : List Nat) (k j : Nat), acc.length ≤ k → ((befores r acc).getD k 0).testBit j = true →
    ∃ o, r[k - acc.length]? = some o ∧ ∃ e ∈ o.after.toList, Region.binds .any e = true ∧ (e.on = j ∨ ((befores r acc).getD e.on 0).testBit j = true)
  | [], acc, k, j, hk, h => by
    simp only [befores, List.getD_eq_getElem?_getD, List.getElem?_eq_none hk, Option.getD_none] at h
    simp at h
  | o :: r, acc, k, j, hk, h => by
    rw [befores_cons] at h
    by_cases e : k = acc.length
    · subst e
      rw [bef_prefix r _ _ (by simp)] at h
      have hx : (acc ++ [befVal acc o]).getD acc.length 0 = befVal acc o := by simp [List.getD_eq_getElem?_getD]
      rw [hx] at h
      obtain ⟨e, he, hb, h1⟩ := befVal_bit acc o j h
      refine ⟨o, by simp, e, he, hb, h1.imp id fun h1 => ?_⟩
      have hlt : e.on < acc.length := by
        rcases Nat.lt_or_ge e.on acc.length with h2 | h2
        · exact h2
        · simp only [List.getD_eq_getElem?_getD, List.getElem?_eq_none h2, Option.getD_none] at h1
          simp at h1
      rw [bef_prefix (o :: r) acc _ hlt]; exact h1
    · obtain ⟨o', ho', e', he', hb, h1⟩ := bef_bit r _ k j (by simp; omega) h
      simp only [List.length_append, List.length_singleton] at ho'
      have : k - acc.length = (k - (acc.length + 1)) + 1 := by omega
      exact ⟨o', by rw [this, List.getElem?_cons_succ]; exact ho', e', he', hb, h1⟩

/-! ### What the checks say -/
structure DrawFacts (L : List Oper) (b : Nat → Nat → Bool) : Prop where
  bit : ∀ (k j : Nat), b k j = true → ∃ o, L[k]? = some o ∧ ∃ e ∈ o.after.toList, Region.binds .any e = true ∧ (e.on = j ∨ b e.on j = true)
  edge : ∀ (k : Nat) (o : Oper), L[k]? = some o → ∀ e ∈ o.after.toList, Region.binds .any e = true → e.on < k
  guard : ∀ (k : Nat) (o : Oper), L[k]? = some o → ∀ (j : Nat) (want : Bool), o.guard = some (j, want) → b k j = true ∧ j < k
  noNil : ∀ (k : Nat) (o : Oper), L[k]? = some o → nilEqB o.op = false
  once : ∀ (i j : Nat) (o o' : Oper) (d : Nat), L[i]? = some o → L[j]? = some o' → o.dst = some d → o'.dst = some d → i = j
  reads : ∀ (i j : Nat) (o o' : Oper) (d : Nat), L[i]? = some o → L[j]? = some o' → o'.dst = some d → d ∈ tmpsOf o → b i j = true ∨ (i ≠ j ∧ b j i = true) ∨ i = j
  behind : ∀ (i j : Nat) (oi oj : Oper), L[i]? = some oi → L[j]? = some oj → i ≠ j → b i j = false → b j i = false → (mutOf oi).isSome = true → looks oj = true →
    ∀ (k : Nat) (ok : Oper) (d : Nat), L[k]? = some ok → ok.dst = some d → (d ∈ tmpsOf oi → b i k = true) ∧ (d ∈ tmpsOf oj → b j k = true)

theorem mem_pairs {L : List Oper} {b : List Nat} {i j : Nat} {oi oj : Oper} (hi : L[i]? = some oi) (hj : L[j]? = some oj) (hne : i ≠ j) (h1 : (b.getD i 0).testBit j = false) (h2 : (b.getD j 0).testBit i = false)
    (hm : (mutOf oi).isSome = true) (hl : looks oj = true) : (i, j) ∈ pairsOf L b := by
  have hil : i < L.length := (List.getElem?_eq_some_iff.1 hi).1
  have hjl : j < L.length := (List.getElem?_eq_some_iff.1 hj).1
  unfold pairsOf
  rcases Nat.lt_or_gt_of_ne hne with h | h
  · refine List.mem_flatMap.2 ⟨j, List.mem_range.2 hjl, List.mem_flatMap.2 ⟨i, List.mem_range.2 h, ?_⟩⟩
    simp only [h2, hi, hj, hm, hl, Bool.and_self, if_true]
    exact List.mem_append_left _ (by simp)
  · refine List.mem_flatMap.2 ⟨i, List.mem_range.2 hil, List.mem_flatMap.2 ⟨j, List.mem_range.2 h, ?_⟩⟩
    simp only [h1, hi, hj, hm, hl, Bool.and_self, if_true]
    exact List.mem_append_right _ (by simp)

theorem sepW_inv {t : List (Nat × AV)} {A : Prop} : ∀ {l : List (Option Operand × List Operand)}, sepW t l A → A ∧ ∀ p ∈ l, ∃ x, p.1 = some x ∧ sepB (ev t .other x) (p.2.map (ev t .other)) = true
  | [], h => ⟨h, fun p hp => by cases hp⟩
  | (some x, ys) :: r, h => by
    simp only [sepW] at h
    obtain ⟨h1, h2⟩ := sepW_inv h.2
    exact ⟨h1, fun p hp => by
      rcases List.mem_cons.1 hp with rfl | hp
      · exact ⟨x, rfl, h.1⟩
      · exact h2 p hp⟩
  | (none, ys) :: r, h => by simp only [sepW] at h

theorem sepB_inv {v : AV} {vs : List AV} (h : sepB v vs = true) {i : Nat} (h1 : i ∈ v.ids) (h2 : i ∈ AV.idss vs) : False := by
  unfold sepB at h
  rw [List.all_eq_true] at h
  have := h i h1
  rw [List.all_eq_true] at this
  have := this i h2
  simp at this

theorem drawFacts {L : List Oper} (h : drawOk L (befores L []) = true) : DrawFacts L (fun k j => ((befores L []).getD k 0).testBit j) := by
  unfold drawOk at h
  simp only [Bool.and_eq_true, List.all_eq_true, List.mem_range] at h
  obtain ⟨h1, h2⟩ := h
  have per : ∀ (k : Nat) (o : Oper), L[k]? = some o → _ := fun k o ho => by
    have := h1 k (List.getElem?_eq_some_iff.1 ho).1
    rw [ho] at this
    simp only [Bool.and_eq_true, List.all_eq_true, List.mem_range] at this
    exact this
  have two : ∀ (i j : Nat) (o o' : Oper) (d : Nat), L[i]? = some o → L[j]? = some o' → o'.dst = some d → (i = j ∨ o.dst ≠ some d) ∧
      (d ∈ tmpsOf o → ((befores L []).getD i 0).testBit j = true ∨ (i ≠ j ∧ ((befores L []).getD j 0).testBit i = true) ∨ i = j) := by
    intro i j o o' d hi hj hd
    have := (per i o hi).2 j (List.getElem?_eq_some_iff.1 hj).1
    rw [hj] at this
    simp only [hd] at this
    simp only [Bool.and_eq_true, Bool.or_eq_true, Bool.not_eq_true', List.contains_eq_mem, decide_eq_false_iff_not] at this
    obtain ⟨p1, p2⟩ := this
    refine ⟨?_, fun hm => ?_⟩
    · rcases p1 with h | h
      · exact .inl (Nat.eq_of_beq_eq_true h)
      · exact .inr (by simpa using h)
    · rcases p2 with ((h | h) | h) | h
      · exact absurd hm h
      · exact .inl h
      · refine .inr (.inl ⟨fun e => ?_, h.2⟩)
        have := h.1; subst e; simp at this
      · exact .inr (.inr (Nat.eq_of_beq_eq_true h.1))
  refine ⟨fun k j hb => ?_, fun k o ho e he hb => ?_, fun k o ho j want hg => ?_, fun k o ho => ?_, fun i j o o' d hi hj h1 h2 => ?_, fun i j o o' d hi hj hd hm => (two i j o o' d hi hj hd).2 hm, fun i j oi oj hi hj hne b1 b2 hm hl k ok d hk hd => ?_⟩
  · have := bef_bit L [] k j (Nat.zero_le _) hb
    simpa using this
  · have := (per k o ho).1.1.2
    rw [Array.all_eq_true'] at this
    have := this e (by simpa using he)
    rw [hb] at this
    simpa using this
  · have := (per k o ho).1.2
    rw [hg] at this
    simp only [Bool.and_eq_true] at this
    exact ⟨this.1, by simpa using this.2⟩
  · have := (per k o ho).1.1.1
    simpa using this
  · rcases (two i j o o' d hi hj h2).1 with h | h
    · exact h
    · exact absurd h1 h
  · have := h2 _ (mem_pairs hi hj hne b1 b2 hm hl)
    rw [hi, hj] at this
    simp only [List.all_eq_true, List.mem_range] at this
    have := this k (List.getElem?_eq_some_iff.1 hk).1
    rw [hk] at this
    simp only [Option.bind_some, hd, Bool.and_eq_true, Bool.or_eq_true, Bool.not_eq_true', List.contains_eq_mem, decide_eq_false_iff_not] at this
    obtain ⟨p1, p2⟩ := this
    exact ⟨fun h => p1.resolve_left fun x => x h, fun h => p2.resolve_left fun x => x h⟩

end Lam
