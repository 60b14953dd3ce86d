/- What functions of the program come to, each proved from its code. -/
import Derived.Test.YtbgnnkpndkiafaaLm2
import Derived.OrdersIn
import Derived.RangeFuncRecord
import Derived.Below
import Derived.WalkKit
import Derived.ProofKit
import Derived.OpenShut
import Derived.ChangeArms
import Derived.DataReads
import Derived.Attr
set_option linter.unnecessarySimpa false
set_option linter.unusedSectionVars false
set_option linter.unusedSimpArgs false
set_option linter.unusedVariables false
namespace Lam
open Go

/-! ### What an operation writes and reads -/
theorem ofD_mm {x : D} {S : Prop} {v : AV} {news : List AObj} {mm : Option (Nat × AObj)} (h : ofD x = some (S, v, news, mm)) : mm = none := (ofD_inv h).2

theorem storeH_id {d : TyD} {h : List AObj} {a v : AV} {S : Prop} {id : Nat} {o : AObj} (e : storeH d h a v = some (S, id, o)) : id ∈ a.ids := by
  unfold storeH at e
  split at e
  · split at e
    · cases e; simp [AV.ids]
    · cases e
  · cases e

theorem mapSetH_id {d : TyD} {h : List AObj} {a k v : AV} {S : Prop} {id : Nat} {o : AObj} (e : mapSetH d h a k v = some (S, id, o)) : id ∈ a.ids := by
  unfold mapSetH at e
  split at e
  · split at e
    · cases e; simp [AV.ids]
    · cases e
  · cases e

theorem appendH_id {d : TyD} {h : List AObj} {s x : AV} {S : Prop} {v : AV} {id : Nat} {o : AObj} (e : appendH d h s x = some (S, v, id, o)) : id ∈ s.ids := by
  unfold appendH at e
  split at e
  · split at e
    · unfold appendO at e
      split at e
      · split at e
        · split at e
          · cases e; simp [AV.ids]
          · cases e
        · cases e
      · cases e
    · cases e
  · cases e

theorem copyH_id {d : TyD} {h : List AObj} {s x : AV} {S : Prop} {v : AV} {id : Nat} {o : AObj} (e : copyH d h s x = some (S, v, id, o)) : id ∈ s.ids := by
  unfold copyH at e
  split at e
  · split at e
    · unfold copyO at e
      split at e
      · split at e
        · split at e
          · cases e; simp [AV.ids]
          · cases e
        · cases e
      · cases e
    · cases e
  · cases e

theorem clearH_id {d : TyD} {h : List AObj} {s : AV} {S : Prop} {v : AV} {id : Nat} {o : AObj} (e : clearH d h s = some (S, v, id, o)) : id ∈ s.ids := by
  unfold clearH at e
  split at e
  · split at e
    · unfold clearO at e
      split at e
      · split at e
        · split at e
          · cases e; simp [AV.ids]
          · cases e
        · cases e
      · cases e
    · cases e
  · cases e

theorem ofDM_id {x : D} {y : Option (Prop × AV × Nat × AObj)} {S : Prop} {v : AV} {news : List AObj} {id : Nat} {o : AObj} (h : ofDM x y = some (S, v, news, some (id, o))) : ∃ S v, y = some (S, v, id, o) := by
  unfold ofDM at h
  split at h
  · cases ofD_mm h
  · obtain ⟨id', o', e, _, e2⟩ := ofM_inv h
    cases e2; exact ⟨_, _, e⟩

theorem append_id {d e : TyD} {s x : AV} {h : List AObj} {n : Nat} {S : Prop} {v : AV} {news : List AObj} {id : Nat} {o : AObj} (hh : appendDR d e s x h n = some (S, v, news, some (id, o))) : id ∈ s.ids := by
  unfold appendDR at hh
  split at hh
  · obtain ⟨_, _, e⟩ := ofDM_id hh; exact appendH_id e
  · split at hh
    · unfold andDR at hh
      split at hh
      · rename_i e1; cases hh
        obtain ⟨_, _, e⟩ := ofDM_id e1; exact appendH_id e
      · cases hh
    · cases hh
  · cases hh

theorem builtin_id {b : Builtin} {ds : List TyD} {args : List AV} {h : List AObj} {n : Nat} {S : Prop} {v : AV} {news : List AObj} {id : Nat} {o : AObj}
    (hh : builtinDR b ds args h n = some (S, v, news, some (id, o))) : (b = .append ∨ b = .copy ∨ b = .clear) ∧ ∃ x r, args = x :: r ∧ id ∈ x.ids := by
  unfold builtinDR at hh
  split at hh
  · cases ofD_mm hh
  · cases ofD_mm hh
  · cases ofD_mm hh
  · exact ⟨.inl rfl, _, _, rfl, append_id hh⟩
  · obtain ⟨id', o', e, _, e2⟩ := ofM_inv hh; cases e2
    exact ⟨.inr (.inl rfl), _, _, rfl, copyH_id e⟩
  · obtain ⟨id', o', e, _, e2⟩ := ofM_inv hh; cases e2
    exact ⟨.inr (.inr rfl), _, _, rfl, clearH_id e⟩
  · cases hh

theorem callFD_mm {c : Ctx} {s : Nat} {f : AV} {args : List AV} {h : List AObj} {S : Prop} {v : AV} {news : List AObj} {mm : Option (Nat × AObj)} (hh : callFD c s f args h = some (S, v, news, mm)) : mm = none := by
  unfold callFD at hh
  split at hh
  · unfold callDR at hh
    split at hh
    · cases hh; rfl
    · split at hh
      · cases hh; rfl
      · split at hh
        · cases hh; rfl
        · cases hh
    · cases hh
  · cases hh

theorem ids_of_other (t : List (Nat × AV)) (d : TyD) {x : Operand} {id : Nat} (h : id ∈ (ev t d x).ids) : id ∈ (ev t .other x).ids := by rw [ev_ids t .other d]; exact h

theorem opD_mut {c : Ctx} {s : Nat} {t : List (Nat × AV)} {h : List AObj} {oo : Oper} {S : Prop} {v : AV} {news : List AObj} {id : Nat} {o : AObj}
    (hh : opD c s t h oo.op oo.type = some (S, v, news, some (id, o))) : ∃ x, mutOf oo = some x ∧ x ∈ oo.op.operands.toList ∧ id ∈ (ev t .other x).ids ∧ looks oo = true := by
  cases ho : oo.op with
  | store T a y =>
    rw [ho] at hh
    obtain ⟨id', o', e, _, _, e2⟩ := ofH_inv hh; cases e2
    exact ⟨a, by simp [mutOf, ho], by simp [Op.operands], ids_of_other t _ (storeH_id e), by simp [looks, ho]⟩
  | mapUpdate T m k y =>
    rw [ho] at hh
    obtain ⟨id', o', e, _, _, e2⟩ := ofH_inv hh; cases e2
    exact ⟨m, by simp [mutOf, ho], by simp [Op.operands], ids_of_other t _ (mapSetH_id e), by simp [looks, ho]⟩
  | insert T m k y =>
    rw [ho] at hh
    obtain ⟨id', o', e, _, _, e2⟩ := ofH_inv hh; cases e2
    exact ⟨m, by simp [mutOf, ho], by simp [Op.operands], ids_of_other t _ (mapSetH_id e), by simp [looks, ho]⟩
  | call cl =>
    rw [ho] at hh
    simp only [opD] at hh
    split at hh
    · cases hh
    rename_i hl
    have hl := Nat.eq_of_beq_eq_true hl
    split at hh
    · rename_i b hb
      obtain ⟨hb2, x, r, hx, hid⟩ := builtin_id hh
      cases hargs : cl.args.toList with
      | nil => rw [argVs, hargs] at hx; cases hx
      | cons y ys =>
        cases htys : cl.argTypes.toList with
        | nil => rw [argVs, hargs, htys] at hx; cases hx
        | cons T Ts =>
          rw [argVs, hargs, htys] at hx
          simp only [List.zip_cons_cons, List.map_cons, List.cons.injEq] at hx
          rw [← hx.1] at hid
          have h0 : cl.args[0]? = some y := by rw [← Array.getElem?_toList, hargs]; rfl
          obtain ⟨callee, args, argTypes⟩ := cl
          simp only at hb h0
          refine ⟨y, ?_, (call_operands _).1 y (by rw [hargs]; simp), ids_of_other t _ hid, by simp [looks, ho]⟩
          subst hb
          rcases hb2 with rfl | rfl | rfl <;> simp [mutOf, ho, h0]
    · cases callFD_mm hh
    · cases hh
  | lookup T x k b => rw [ho] at hh; cases b <;> first | (cases hh; done) | cases ofD_mm hh
  | makeMap T r => rw [ho] at hh; cases r <;> first | (cases hh; done) | cases ofD_mm hh
  | binOp op xt x y b =>
    rw [ho] at hh
    simp only [opD] at hh
    split at hh
    · cases hh
    · cases ofD_mm hh
  | makeInterface T x =>
    rw [ho] at hh
    simp only [opD, whenDR] at hh
    split at hh <;> cases hh
  | _ => rw [ho] at hh; first | (cases hh; done) | cases ofD_mm hh

/-- who does not look does not hang on the heap -/
theorem opD_nolook {c : Ctx} {s : Nat} {t : List (Nat × AV)} {h h' : List AObj} {oo : Oper} (hl : looks oo = false) : opD c s t h oo.op oo.type = opD c s t h' oo.op oo.type := by
  cases ho : oo.op <;> first | rfl | (simp [looks, ho] at hl; done) | skip
  rename_i T r
  cases r <;> rfl

/-- temporaries count as they are read -/
theorem opD_temps {c : Ctx} {s : Nat} {t t' : List (Nat × AV)} {h : List AObj} {op : Op} {type : TypeId} (a : ∀ x ∈ op.operands.toList, ∀ d, ev t d x = ev t' d x) : opD c s t h op type = opD c s t' h op type := by
  have om : ∀ (z : Option Operand) d, (∀ y, z = some y → y ∈ op.operands.toList) → z.map (ev t d) = z.map (ev t' d) := by
    intro z d hz
    cases z with
    | none => rfl
    | some y => simp [a y (hz y rfl) d]
  cases op with
  | move x => simp only [opD, a x (by simp [Op.operands])]
  | assign x => simp only [opD, a x (by simp [Op.operands])]
  | pick x y z => simp only [opD, a x (by simp [Op.operands]), a y (by simp [Op.operands]), a z (by simp [Op.operands])]
  | box T x => simp only [opD, a x (by simp [Op.operands])]
  | build T ps =>
    have : (ps.toList.map fun p => (p.1, ev t ((c.tab T).field p.1) p.2)) = ps.toList.map fun p => (p.1, ev t' ((c.tab T).field p.1) p.2) := by
      apply List.map_congr_left
      intro p hp
      rw [a p.2 (by simp only [Op.operands]; exact List.mem_map_of_mem hp)]
    simp only [opD, this]
  | buildSlice T n ps =>
    have : (ps.toList.map fun p => (p.1, ev t .other p.2)) = ps.toList.map fun p => (p.1, ev t' .other p.2) := by
      apply List.map_congr_left
      intro p hp
      rw [a p.2 (by simp only [Op.operands]; exact List.mem_map_of_mem hp)]
    simp only [opD, this]
  | load T x => simp only [opD, a x (by simp [Op.operands])]
  | store T x y => simp only [opD, a x (by simp [Op.operands]), a y (by simp [Op.operands])]
  | nilCheck x => simp only [opD, a x (by simp [Op.operands])]
  | binOp op xt x y b => simp only [opD, a x (by simp [Op.operands]), a y (by simp [Op.operands])]
  | unOp op xt x => simp only [opD, a x (by simp [Op.operands])]
  | convert s d x => simp only [opD, a x (by simp [Op.operands])]
  | makeInterface T x => simp only [opD, a x (by simp [Op.operands])]
  | makeFunc fn first cap =>
    have h1 : first.toList.map (ev t .other) = first.toList.map (ev t' .other) := List.map_congr_left fun x hx => a x (by simp only [Op.operands, Array.toList_append]; exact List.mem_append_left _ hx) _
    have h2 : cap.toList.map (ev t .other) = cap.toList.map (ev t' .other) := List.map_congr_left fun x hx => a x (by simp only [Op.operands, Array.toList_append]; exact List.mem_append_right _ hx) _
    simp only [opD, h1, h2]
  | makeSlice T l cp => simp only [opD, a l (by simp [Op.operands]), a cp (by simp [Op.operands])]
  | slice T x lo hi mx =>
    simp only [opD, a x (by simp [Op.operands]), om lo _ (by rintro y rfl; simp [Op.operands]), om hi _ (by rintro y rfl; simp [Op.operands]), om mx _ (by rintro y rfl; simp [Op.operands])]
  | fieldAddr T x f => simp only [opD, a x (by simp [Op.operands])]
  | field T x f => simp only [opD, a x (by simp [Op.operands])]
  | indexAddr T x i => simp only [opD, a x (by simp [Op.operands]), a i (by simp [Op.operands])]
  | index T x i => simp only [opD, a x (by simp [Op.operands]), a i (by simp [Op.operands])]
  | lookup T x k b => cases b <;> simp only [opD, a x (by simp [Op.operands]), a k (by simp [Op.operands])]
  | mapUpdate T m k v => simp only [opD, a m (by simp [Op.operands]), a k (by simp [Op.operands]), a v (by simp [Op.operands])]
  | insert T m k v => simp only [opD, a m (by simp [Op.operands]), a k (by simp [Op.operands]), a v (by simp [Op.operands])]
  | extract x i => simp only [opD, a x (by simp [Op.operands])]
  | call cl =>
    have h1 : argVs c t cl = argVs c t' cl := by
      unfold argVs
      apply List.map_congr_left
      intro p hp
      exact a p.1 ((call_operands cl).1 p.1 (List.of_mem_zip hp).1) _
    have h2 : ∀ f, cl.callee = .value f → ev t .func f = ev t' .func f := fun f hf => a f ((call_operands cl).2 f hf) _
    simp only [opD, h1]
    split
    · rfl
    · split
      · rfl
      · rename_i f hf; rw [h2 f hf]
      · rfl
  | makeMap T r => cases r <;> rfl
  | _ => rfl

/-! ### The order that binds -/
def befVal (acc : List Nat) (o : Oper) : Nat := o.after.foldl (fun s e => match Region.binds .any e with
      | true => s ||| ((1 <<< e.on) ||| acc.getD e.on 0)
      | false => s) 0

theorem befores_cons (o : Oper) (r : List Oper) (acc : List Nat) : befores (o :: r) acc = befores r (acc ++ [befVal acc o]) := rfl

theorem bef_prefix : ∀ (r : List Oper) (acc : List Nat) (k : Nat), k < acc.length → (befores r acc).getD k 0 = acc.getD k 0
  | [], _, _, _ => rfl
  | o :: r, acc, k, h => by
    rw [befores_cons, bef_prefix r _ k (by simp; omega)]
    simp only [List.getD_eq_getElem?_getD, List.getElem?_append_left h]

theorem one_shift_bit (i j : Nat) : (1 <<< i).testBit j = true → j = i := by
  intro h
  rw [Nat.one_shiftLeft, Nat.testBit_two_pow] at h
  have : i = j := by simpa using h
  exact this.symm

theorem befVal_bit (acc : List Nat) (o : Oper) (j : Nat) (h : (befVal acc o).testBit j = true) :
    ∃ e ∈ o.after.toList, Region.binds .any e = true ∧ (e.on = j ∨ (acc.getD e.on 0).testBit j = true) := by
  unfold befVal at h
  rw [← Array.foldl_toList] at h
  have key : ∀ (l : List Edge) (s : Nat), (l.foldl (fun s e => match Region.binds .any e with
      | true => s ||| ((1 <<< e.on) ||| acc.getD e.on 0)
      | false => s) s).testBit j = true → s.testBit j = true ∨ ∃ e ∈ l, Region.binds .any e = true ∧ (e.on = j ∨ (acc.getD e.on 0).testBit j = true) := by
    intro l
    induction l with
    | nil => intro s h; exact .inl h
    | cons e l ih =>
      intro s h
      simp only [List.foldl_cons] at h
      rcases ih _ h with h1 | ⟨e', he', h1⟩
      · cases hb : Region.binds .any e with
        | false => rw [hb] at h1; exact .inl h1
        | true =>
          rw [hb] at h1
          simp only [Nat.testBit_or, Bool.or_eq_true] at h1
          rcases h1 with h1 | h1 | h1
          · exact .inl h1
          · exact .inr ⟨e, by simp, hb, .inl (one_shift_bit _ _ h1).symm⟩
          · exact .inr ⟨e, by simp, hb, .inr h1⟩
      · exact .inr ⟨e', by simp [he'], h1⟩
  rcases key _ 0 h with h | h
  · simp at h
  · exact h

theorem bef_bit : ∀ (r : List Oper) (acc : List Nat) (k j : Nat), acc.length ≤ k → ((befores r acc).getD k 0).testBit j = true →
    ∃ o, r[k - acc.length]? = some o ∧ ∃ e ∈ o.after.toList, Region.binds .any e = true ∧ (e.on = j ∨ ((befores r acc).getD e.on 0).testBit j = true)
  | [], acc, k, j, hk, h => by
    simp only [befores, List.getD_eq_getElem?_getD, List.getElem?_eq_none hk, Option.getD_none] at h
    simp at h
  | o :: r, acc, k, j, hk, h => by
    rw [befores_cons] at h
    by_cases e : k = acc.length
    · subst e
      rw [bef_prefix r _ _ (by simp)] at h
      have hx : (acc ++ [befVal acc o]).getD acc.length 0 = befVal acc o := by simp [List.getD_eq_getElem?_getD]
      rw [hx] at h
      obtain ⟨e, he, hb, h1⟩ := befVal_bit acc o j h
      refine ⟨o, by simp, e, he, hb, h1.imp id fun h1 => ?_⟩
      have hlt : e.on < acc.length := by
        rcases Nat.lt_or_ge e.on acc.length with h2 | h2
        · exact h2
        · simp only [List.getD_eq_getElem?_getD, List.getElem?_eq_none h2, Option.getD_none] at h1
          simp at h1
      rw [bef_prefix (o :: r) acc _ hlt]; exact h1
    · obtain ⟨o', ho', e', he', hb, h1⟩ := bef_bit r _ k j (by simp; omega) h
      simp only [List.length_append, List.length_singleton] at ho'
      have : k - acc.length = (k - (acc.length + 1)) + 1 := by omega
      exact ⟨o', by rw [this, List.getElem?_cons_succ]; exact ho', e', he', hb, h1⟩

/-! ### What the checks say -/
structure DrawFacts (L : List Oper) (b : Nat → Nat → Bool) : Prop where
  bit : ∀ (k j : Nat), b k j = true → ∃ o, L[k]? = some o ∧ ∃ e ∈ o.after.toList, Region.binds .any e = true ∧ (e.on = j ∨ b e.on j = true)
  edge : ∀ (k : Nat) (o : Oper), L[k]? = some o → ∀ e ∈ o.after.toList, Region.binds .any e = true → e.on < k
  guard : ∀ (k : Nat) (o : Oper), L[k]? = some o → ∀ (j : Nat) (want : Bool), o.guard = some (j, want) → b k j = true ∧ j < k
  noNil : ∀ (k : Nat) (o : Oper), L[k]? = some o → nilEqB o.op = false
  once : ∀ (i j : Nat) (o o' : Oper) (d : Nat), L[i]? = some o → L[j]? = some o' → o.dst = some d → o'.dst = some d → i = j
  reads : ∀ (i j : Nat) (o o' : Oper) (d : Nat), L[i]? = some o → L[j]? = some o' → o'.dst = some d → d ∈ tmpsOf o → b i j = true ∨ (i ≠ j ∧ b j i = true) ∨ i = j
  behind : ∀ (i j : Nat) (oi oj : Oper), L[i]? = some oi → L[j]? = some oj → i ≠ j → b i j = false → b j i = false → (mutOf oi).isSome = true → looks oj = true →
    ∀ (k : Nat) (ok : Oper) (d : Nat), L[k]? = some ok → ok.dst = some d → (d ∈ tmpsOf oi → b i k = true) ∧ (d ∈ tmpsOf oj → b j k = true)

theorem mem_pairs {L : List Oper} {b : List Nat} {i j : Nat} {oi oj : Oper} (hi : L[i]? = some oi) (hj : L[j]? = some oj) (hne : i ≠ j) (h1 : (b.getD i 0).testBit j = false) (h2 : (b.getD j 0).testBit i = false)
    (hm : (mutOf oi).isSome = true) (hl : looks oj = true) : (i, j) ∈ pairsOf L b := by
  have hil : i < L.length := (List.getElem?_eq_some_iff.1 hi).1
  have hjl : j < L.length := (List.getElem?_eq_some_iff.1 hj).1
  unfold pairsOf
  rcases Nat.lt_or_gt_of_ne hne with h | h
  · refine List.mem_flatMap.2 ⟨j, List.mem_range.2 hjl, List.mem_flatMap.2 ⟨i, List.mem_range.2 h, ?_⟩⟩
    simp only [h2, hi, hj, hm, hl, Bool.and_self, if_true]
    exact List.mem_append_left _ (by simp)
  · refine List.mem_flatMap.2 ⟨i, List.mem_range.2 hil, List.mem_flatMap.2 ⟨j, List.mem_range.2 h, ?_⟩⟩
    simp only [h1, hi, hj, hm, hl, Bool.and_self, if_true]
    exact List.mem_append_right _ (by simp)

theorem sepW_inv {t : List (Nat × AV)} {A : Prop} : ∀ {l : List (Option Operand × List Operand)}, sepW t l A → A ∧ ∀ p ∈ l, ∃ x, p.1 = some x ∧ sepB (ev t .other x) (p.2.map (ev t .other)) = true
  | [], h => ⟨h, fun p hp => by cases hp⟩
  | (some x, ys) :: r, h => by
    simp only [sepW] at h
    obtain ⟨h1, h2⟩ := sepW_inv h.2
    exact ⟨h1, fun p hp => by
      rcases List.mem_cons.1 hp with rfl | hp
      · exact ⟨x, rfl, h.1⟩
      · exact h2 p hp⟩
  | (none, ys) :: r, h => by simp only [sepW] at h

theorem sepB_inv {v : AV} {vs : List AV} (h : sepB v vs = true) {i : Nat} (h1 : i ∈ v.ids) (h2 : i ∈ AV.idss vs) : False := by
  unfold sepB at h
  rw [List.all_eq_true] at h
  have := h i h1
  rw [List.all_eq_true] at this
  have := this i h2
  simp at this

theorem drawFacts {L : List Oper} (h : drawOk L (befores L []) = true) : DrawFacts L (fun k j => ((befores L []).getD k 0).testBit j) := by
  unfold drawOk at h
  simp only [Bool.and_eq_true, List.all_eq_true, List.mem_range] at h
  obtain ⟨h1, h2⟩ := h
  have per : ∀ (k : Nat) (o : Oper), L[k]? = some o → _ := fun k o ho => by
    have := h1 k (List.getElem?_eq_some_iff.1 ho).1
    rw [ho] at this
    simp only [Bool.and_eq_true, List.all_eq_true, List.mem_range] at this
    exact this
  have two : ∀ (i j : Nat) (o o' : Oper) (d : Nat), L[i]? = some o → L[j]? = some o' → o'.dst = some d → (i = j ∨ o.dst ≠ some d) ∧
      (d ∈ tmpsOf o → ((befores L []).getD i 0).testBit j = true ∨ (i ≠ j ∧ ((befores L []).getD j 0).testBit i = true) ∨ i = j) := by
    intro i j o o' d hi hj hd
    have := (per i o hi).2 j (List.getElem?_eq_some_iff.1 hj).1
    rw [hj] at this
    simp only [hd] at this
    simp only [Bool.and_eq_true, Bool.or_eq_true, Bool.not_eq_true', List.contains_eq_mem, decide_eq_false_iff_not] at this
    obtain ⟨p1, p2⟩ := this
    refine ⟨?_, fun hm => ?_⟩
    · rcases p1 with h | h
      · exact .inl (Nat.eq_of_beq_eq_true h)
      · exact .inr (by simpa using h)
    · rcases p2 with ((h | h) | h) | h
      · exact absurd hm h
      · exact .inl h
      · refine .inr (.inl ⟨fun e => ?_, h.2⟩)
        have := h.1; subst e; simp at this
      · exact .inr (.inr (Nat.eq_of_beq_eq_true h.1))
  refine ⟨fun k j hb => ?_, fun k o ho e he hb => ?_, fun k o ho j want hg => ?_, fun k o ho => ?_, fun i j o o' d hi hj h1 h2 => ?_, fun i j o o' d hi hj hd hm => (two i j o o' d hi hj hd).2 hm, fun i j oi oj hi hj hne b1 b2 hm hl k ok d hk hd => ?_⟩
  · have := bef_bit L [] k j (Nat.zero_le _) hb
    simpa using this
  · have := (per k o ho).1.1.2
    rw [Array.all_eq_true'] at this
    have := this e (by simpa using he)
    rw [hb] at this
    simpa using this
  · have := (per k o ho).1.2
    rw [hg] at this
    simp only [Bool.and_eq_true] at this
    exact ⟨this.1, by simpa using this.2⟩
  · have := (per k o ho).1.1.1
    simpa using this
  · rcases (two i j o o' d hi hj h2).1 with h | h
    · exact h
    · exact absurd h1 h
  · have := h2 _ (mem_pairs hi hj hne b1 b2 hm hl)
    rw [hi, hj] at this
    simp only [List.all_eq_true, List.mem_range] at this
    have := this k (List.getElem?_eq_some_iff.1 hk).1
    rw [hk] at this
    simp only [Option.bind_some, hd, Bool.and_eq_true, Bool.or_eq_true, Bool.not_eq_true', List.contains_eq_mem, decide_eq_false_iff_not] at this
    obtain ⟨p1, p2⟩ := this
    exact ⟨fun h => p1.resolve_left fun x => x h, fun h => p2.resolve_left fun x => x h⟩

end Lam
set_option linter.unnecessarySimpa false
set_option linter.unusedSectionVars false
set_option linter.unusedSimpArgs false
set_option linter.unusedVariables false
namespace Lam
open Go

structure Rec where
  ran : Bool
  v : AV
  news : List AObj
  mm : Option (Nat × AObj)

instance : Inhabited Rec := ⟨⟨false, .und, [], none⟩⟩

structure TS (c : Ctx) (A L : List Oper) (t0 : List (Nat × AV)) (h0 : List AObj) (rs : Nat → Rec) (tk : Nat → List (Nat × AV)) (η : Nat → List AObj) : Prop where
  t0 : ∀ i, get (tk 0) i = get t0 i
  ts : ∀ (k : Nat) (o : Oper), L[k]? = some o → ∀ i, get (tk (k + 1)) i = if o.dst = some i then (rs k).v else get (tk k) i
  h0 : η 0 = h0
  hs : ∀ k, k < L.length → η (k + 1) = mutate (η k ++ (rs k).news) (rs k).mm
  guard : ∀ (k : Nat) (o : Oper), L[k]? = some o → match o.guard with
    | none => (rs k).ran = true
    | some (j, want) => ∃ g, guardTmp A j = some g ∧ ((∃ b, get (tk k) g = .bool b ∧ (rs k).ran = (b == want)) ∨ (get (tk k) g = .und ∧ (rs k).ran = false))
  ran : ∀ (k : Nat) (o : Oper), L[k]? = some o → (rs k).ran = true → (∃ S, S ∧ opD c (η k).length (tk k) (η k) o.op o.type = some (S, (rs k).v, (rs k).news, (rs k).mm)) ∧
    ∀ x ∈ o.op.operands.toList, ∀ id ∈ (ev (tk k) .other x).ids, id < (η k).length
  pass : ∀ (k : Nat) (o : Oper), L[k]? = some o → (rs k).ran = false → (rs k).v = .und ∧ (rs k).news = [] ∧ (rs k).mm = none

def consF {α : Type} (x : α) (f : Nat → α) : Nat → α
  | 0 => x
  | k + 1 => f k

theorem get_putO (d : Option Nat) (v : AV) (t : List (Nat × AV)) (i : Nat) : get (putO d v t) i = if d = some i then v else get t i := by
  cases d with
  | none => simp [putO]
  | some j => simp only [putO, get_put, Option.some.injEq]

section
variable {c : Ctx} {A L : List Oper} {t0 t1 t2 : List (Nat × AV)} {h0 h1 : List AObj} {rs : Nat → Rec} {tk : Nat → List (Nat × AV)} {η : Nat → List AObj} {o : Oper} {r : Rec}

theorem TS.cons (T : TS c A L t1 h1 rs tk η) (e0 : ∀ i, get t2 i = get t0 i) (e1 : ∀ i, get t1 i = if o.dst = some i then r.v else get t2 i) (e2 : h1 = mutate (h0 ++ r.news) r.mm)
    (hg : match o.guard with
      | none => r.ran = true
      | some (j, want) => ∃ g, guardTmp A j = some g ∧ ((∃ b, get t2 g = .bool b ∧ r.ran = (b == want)) ∨ (get t2 g = .und ∧ r.ran = false)))
    (hr : r.ran = true → (∃ S, S ∧ opD c h0.length t2 h0 o.op o.type = some (S, r.v, r.news, r.mm)) ∧ ∀ x ∈ o.op.operands.toList, ∀ id ∈ (ev t2 .other x).ids, id < h0.length)
    (hp : r.ran = false → r.v = .und ∧ r.news = [] ∧ r.mm = none) :
    TS c A (o :: L) t0 h0 (consF r rs) (consF t2 tk) (consF h0 η) := by
  refine ⟨e0, fun k q hq i => ?_, rfl, fun k hk => ?_, fun k q hq => ?_, fun k q hq => ?_, fun k q hq => ?_⟩
  · cases k with
    | zero =>
      simp only [List.getElem?_cons_zero, Option.some.injEq] at hq; subst hq
      show get (tk 0) i = _
      rw [T.t0, e1]; rfl
    | succ k => exact T.ts k q (by simpa using hq) i
  · cases k with
    | zero => show η 0 = _; rw [T.h0, e2]; rfl
    | succ k => exact T.hs k (by simpa using hk)
  · cases k with
    | zero => simp only [List.getElem?_cons_zero, Option.some.injEq] at hq; subst hq; exact hg
    | succ k => exact T.guard k q (by simpa using hq)
  · cases k with
    | zero => simp only [List.getElem?_cons_zero, Option.some.injEq] at hq; subst hq; exact hr
    | succ k => exact T.ran k q (by simpa using hq)
  · cases k with
    | zero => simp only [List.getElem?_cons_zero, Option.some.injEq] at hq; subst hq; exact hp
    | succ k => exact T.pass k q (by simpa using hq)
end

section
variable {P : Program} {n : Nat} {ds : Nat} {c : Ctx}

theorem step_ctx (C : CtxOk P c) {X : Cx} (H : HR X) {t : List (Nat × AV)} {a : Act} (R : SR n ds X t a) {o : Oper} (hd : ∀ i, o.dst = some i → i < n) {S : Prop} {v : AV} {news : List AObj} {mm : Option (Nat × AObj)}
    (e : opD c X.h.length t X.h o.op o.type = some (S, v, news, mm)) (hS : S) : ∃ Y a', HR Y ∧ Y.h = mutate (X.h ++ news) mm ∧ SR n ds Y (putO o.dst v t) a' := by
  obtain ⟨H', E'⟩ := pad_ok H news.length
  have R' := R.ext E'
  have hag : Agree X.h (X.pad news.length).h (AV.idss (opVs t o.op)) := by
    intro id hid
    obtain ⟨v, hv, hj⟩ := mem_idss hid
    obtain ⟨x, _, rfl⟩ := List.mem_map.1 hv
    have := VV_ids H.len (R.ev x .other) id hj
    rw [pad_h, if_pos this]
  rw [opD_local hag] at e
  have hto := opD_sound (ro := none) (a := a) H' C (fun x _ d => R'.ev x d) (fun j hj => by rw [pad_h, if_neg (by omega), if_pos (by omega)]) e hS
  obtain ⟨q, w', Y, rfl, hYh, HY, EY, hv⟩ := hto.get
  refine ⟨Y, a.put o.dst q, HY, ?_, (R'.ext EY).putO hd hv⟩
  rw [hYh, show (X.pad news.length).h = X.h ++ List.replicate news.length .dead from rfl, place_pad]

theorem opsW_trace (C : CtxOk P c) (hdr : c.drawn = true) (hN : ∀ f args h K, ¬ c.envS f args h K) (hYn : ∀ l args h K, ¬ c.envY l args h K) (A : List Oper) {κ : List (Nat × AV) → List AObj → Prop} :
    ∀ (r : List Oper) (kn : List (Nat × Option Bool)) (t : List (Nat × AV)) (X : Cx) (a : Act), (∀ o ∈ r, ∀ i, o.dst = some i → i < n) → (∀ o ∈ r, nilEqB o.op = false) → Kn t kn → HR X → SR n ds X t a →
      opsW c A (fun _ _ => False) κ r kn t X.h → ∃ rs tk η, TS c A r t X.h rs tk η ∧ κ (tk r.length) (η r.length)
  | [], kn, t, X, a, _, _, _, H, R, hw => ⟨fun _ => default, fun _ => t, fun _ => X.h, ⟨fun _ => rfl, fun k o h => by simp at h, rfl, fun k h => by simp at h, fun k o h => by simp at h, fun k o h => by simp at h, fun k o h => by simp at h⟩, hw⟩
  | o :: r, kn, t, X, a, hd, hnil, hkn, H, R, hw => by
    have hdo := hd o (by simp)
    have hdr' : ∀ o ∈ r, ∀ i, o.dst = some i → i < n := fun o' h => hd o' (by simp [h])
    have hnil' : ∀ o ∈ r, nilEqB o.op = false := fun o' h => hnil o' (by simp [h])
    have step : ∀ (t2 : List (Nat × AV)) (kn : List (Nat × Option Bool)), Kn t2 kn → SR n ds X t2 a → (∀ i, get t2 i = get t i) →
        (match o.guard with
          | none => True
          | some (j, want) => ∃ g, guardTmp A j = some g ∧ get t2 g = .bool want) →
        opW c t2 X.h o.op o.type (fun v h' => opsW c A (fun _ _ => False) κ r (unknow o.dst kn) (putO o.dst v t2) h') (fun _ _ => False) →
        ∃ rs tk η, TS c A (o :: r) t X.h rs tk η ∧ κ (tk (o :: r).length) (η (o :: r).length) := by
      intro t2 kn hkn R ht hgd hw
      have hok : OkD (opD c X.h.length t2 X.h o.op o.type) X.h (fun v h' => opsW c A (fun _ _ => False) κ r (unknow o.dst kn) (putO o.dst v t2) h') := by
        rcases opW_D hw with h | h
        · exact h
        · cases h with
          | nilEq xt x y b hop hn hs hk =>
            have := hnil o (by simp)
            simp [hop, nilEqB, hn] at this
          | panic x hop hk =>
            unfold panW at hk; split at hk <;> exact hk.elim
          | call cl f hop hcal hl hk =>
            have h1 := callW_D hdr hN hYn hk
            have hb : Nat.beq cl.args.toList.length cl.argTypes.toList.length = true := by rw [hl]; exact Nat.beq_refl _
            simp only [hop, opD, hcal, hb]
            exact h1
      obtain ⟨S, v, news, mm, e, hS, hk⟩ := hok
      obtain ⟨Y, a', HY, hYh, RY⟩ := step_ctx C H R hdo e hS
      rw [← hYh] at hk
      obtain ⟨rs, tk, η, T, hκ⟩ := opsW_trace C hdr hN hYn A r _ _ Y a' hdr' hnil' (hkn.unknow o.dst v) HY RY hk
      refine ⟨consF ⟨true, v, news, mm⟩ rs, consF t2 tk, consF X.h η, T.cons ht (fun i => get_putO _ _ _ _) hYh ?_ (fun _ => ⟨⟨S, hS, e⟩, fun x hx id hid => VV_ids H.len (R.ev x .other) id hid⟩) (fun h => by cases h), hκ⟩
      revert hgd
      cases o.guard with
      | none => intro _; rfl
      | some p => intro ⟨g, h1, h2⟩; exact ⟨g, h1, .inl ⟨p.2, h2, by simp⟩⟩
    have pass : ∀ (t2 : List (Nat × AV)) (kn : List (Nat × Option Bool)), Kn t2 kn → SR n ds X t2 a → (∀ i, get t2 i = get t i) →
        (match o.guard with
          | none => False
          | some (j, want) => ∃ g, guardTmp A j = some g ∧ (get t2 g = .bool (!want) ∨ get t2 g = .und)) →
        opsW c A (fun _ _ => False) κ r (passed o.dst kn) (putO o.dst .und t2) X.h →
        ∃ rs tk η, TS c A (o :: r) t X.h rs tk η ∧ κ (tk (o :: r).length) (η (o :: r).length) := by
      intro t2 kn hkn R ht hgd hw
      obtain ⟨rs, tk, η, T, hκ⟩ := opsW_trace C hdr hN hYn A r _ _ X (a.put o.dst undef) hdr' hnil' (hkn.passed o.dst) H (R.putO hdo rfl) hw
      refine ⟨consF ⟨false, .und, [], none⟩ rs, consF t2 tk, consF X.h η, T.cons ht (fun i => get_putO _ _ _ _) (by simp [mutate]) ?_ (fun h => by cases h) (fun _ => ⟨rfl, rfl, rfl⟩), hκ⟩
      revert hgd
      cases o.guard with
      | none => intro h; exact h.elim
      | some p => intro ⟨g, h1, h2⟩; exact ⟨g, h1, h2.imp (fun h => ⟨!p.2, h, by simp⟩) (fun h => ⟨h, rfl⟩)⟩
    simp only [opsW] at hw
    split at hw
    · rename_i hg
      exact step t kn hkn R (fun _ => rfl) (by rw [hg]; trivial) hw
    · rename_i j want hg
      split at hw
      · exact hw.elim
      · rename_i g hgt
        split at hw
        · rename_i b hb
          have hv := hkn g _ hb
          split at hw
          · rename_i e
            have e : b = want := by simpa using e
            exact step t kn hkn R (fun _ => rfl) (by rw [hg]; exact ⟨g, hgt, by rw [← e]; exact hv⟩) hw
          · rename_i e
            have e : b = !want := by cases b <;> cases want <;> simp_all
            exact pass t kn hkn R (fun _ => rfl) (by rw [hg]; exact ⟨g, hgt, .inl (by rw [← e]; exact hv)⟩) hw
        · rename_i hb
          have hv := hkn g _ hb
          exact pass t kn hkn R (fun _ => rfl) (by rw [hg]; exact ⟨g, hgt, .inr hv⟩) hw
        · unfold guardW at hw
          split at hw
          rotate_left
          · exact hw.elim
          rename_i b hb
          have hv := R.v g
          rw [hb] at hv
          have same : ∀ i, get (put g (.bool b) t) i = get t i := by
            intro i
            rw [get_put]
            by_cases e : g = i
            · subst e; rw [if_pos rfl, hb]
            · rw [if_neg e]
          by_cases e : b = want
          · subst e
            exact step _ _ (hkn.learn g b) (R.learn hv) same (by rw [hg]; exact ⟨g, hgt, by rw [get_put, if_pos rfl]⟩) (hw.1 rfl)
          · have e' : b = !want := by cases b <;> cases want <;> simp_all
            rw [e'] at same hv
            exact pass _ _ (hkn.learn g (!want)) (R.learn hv) same (by rw [hg]; exact ⟨g, hgt, .inl (by rw [get_put, if_pos rfl])⟩) (hw.2 e')
end

end Lam
set_option linter.unnecessarySimpa false
set_option linter.unusedSimpArgs false
set_option linter.unusedVariables false
set_option linter.unusedSectionVars false
namespace Lam
open Go

theorem mutate_length (h : List AObj) (mm : Option (Nat × AObj)) : (mutate h mm).length = h.length := by
  cases mm <;> simp [mutate]

theorem mutate_get (h : List AObj) (mm : Option (Nat × AObj)) (id : Nat) (hm : ∀ o, mm ≠ some (id, o)) : (mutate h mm)[id]? = h[id]? := by
  cases mm with
  | none => rfl
  | some p =>
    obtain ⟨i, o⟩ := p
    have : i ≠ id := by rintro rfl; exact hm o rfl
    simp [mutate, List.getElem?_set, this]

theorem mutate_congr {h h' : List AObj} (mm : Option (Nat × AObj)) (id : Nat) (he : h[id]? = h'[id]?) : (mutate h mm)[id]? = (mutate h' mm)[id]? := by
  cases mm with
  | none => exact he
  | some p =>
    obtain ⟨i, o⟩ := p
    simp only [mutate, List.getElem?_set]
    by_cases e : i = id
    · subst e
      simp only [if_true]
      have : (i < h.length) ↔ (i < h'.length) := by
        rw [← Nat.not_le, ← Nat.not_le, ← List.getElem?_eq_none_iff, ← List.getElem?_eq_none_iff, he]
      by_cases hl : i < h.length
      · rw [if_pos hl, if_pos (this.1 hl)]
      · rw [if_neg hl, if_neg (fun x => hl (this.2 x))]
    · simp only [if_neg e, he]

section
variable {c : Ctx} {L : List Oper} {t0 : List (Nat × AV)} {h0 : List AObj} {rs : Nat → Rec} {tk : Nat → List (Nat × AV)} {η : Nat → List AObj} {b : Nat → Nat → Bool}

/-- op m makes or changes an object -/
def Touches (rs : Nat → Rec) (η : Nat → List AObj) (m id : Nat) : Prop := ((η m).length ≤ id ∧ id < (η (m + 1)).length) ∨ ∃ o, (rs m).mm = some (id, o)

def hx (η : Nat → List AObj) (k id : Nat) : Option AObj := if id < (η k).length then (η k)[id]? else some .dead

theorem TS.lenS (T : TS c L L t0 h0 rs tk η) {k : Nat} (hk : k < L.length) : (η (k + 1)).length = (η k).length + (rs k).news.length := by
  rw [T.hs k hk, mutate_length, List.length_append]

theorem TS.mono (T : TS c L L t0 h0 rs tk η) : ∀ {k k' : Nat}, k ≤ k' → k' ≤ L.length → (η k).length ≤ (η k').length := by
  intro k k' h
  induction h with
  | refl => intro _; exact Nat.le_refl _
  | @step m hm ih => intro hl; have := ih (by omega); have e := T.lenS (k := m) (by omega); show _ ≤ (η (m + 1)).length; omega

theorem TS.tk_same (T : TS c L L t0 h0 rs tk η) {i k k' : Nat} (h : k ≤ k') (hl : k' ≤ L.length) (hno : ∀ (m : Nat) (o : Oper), k ≤ m → m < k' → L[m]? = some o → o.dst ≠ some i) : get (tk k') i = get (tk k) i := by
  induction h with
  | refl => rfl
  | @step m hm ih =>
    have hm : k ≤ m := hm
    show get (tk (m + 1)) i = _
    have ho : L[m]? = some L[m] := List.getElem?_eq_getElem (by omega)
    rw [T.ts m _ ho, if_neg (hno m _ hm (by omega) ho)]
    exact ih (by omega) fun m' o h1 h2 => hno m' o h1 (by omega)

theorem TS.hx_same (T : TS c L L t0 h0 rs tk η) {id k k' : Nat} (h : k ≤ k') (hl : k' ≤ L.length) (hno : ∀ m, k ≤ m → m < k' → ¬ Touches rs η m id) : hx η k' id = hx η k id := by
  induction h with
  | refl => rfl
  | @step m hm ih =>
    have hm : k ≤ m := hm
    show hx η (m + 1) id = _
    rw [← ih (by omega) fun m' h1 h2 => hno m' h1 (by omega)]
    have hnt := hno m hm (by omega)
    have hs := T.lenS (k := m) (by omega)
    unfold hx
    by_cases h1 : id < (η m).length
    · rw [if_pos h1, if_pos (by omega), T.hs m (by omega), mutate_get _ _ _ (fun o e => hnt (.inr ⟨o, e⟩)), List.getElem?_append_left h1]
    · rw [if_neg h1, if_neg fun h2 => hnt (.inl ⟨by omega, h2⟩)]

theorem TS.mut_lt (T : TS c L L t0 h0 rs tk η) {m id : Nat} {o : AObj} {om : Oper} (hm : L[m]? = some om) (e : (rs m).mm = some (id, o)) :
    id < (η m).length ∧ ∃ x, mutOf om = some x ∧ x ∈ om.op.operands.toList ∧ id ∈ (ev (tk m) .other x).ids ∧ looks om = true := by
  cases hr : (rs m).ran with
  | false => have := (T.pass m om hm hr).2.2; rw [this] at e; cases e
  | true =>
    obtain ⟨⟨S, hS, h1⟩, h2⟩ := T.ran m om hm hr
    rw [e] at h1
    obtain ⟨x, q1, q2, q3, q4⟩ := opD_mut h1
    exact ⟨h2 x q2 id q3, x, q1, q2, q3, q4⟩

theorem DrawFacts.lt (DF : DrawFacts L b) : ∀ {k i : Nat}, b k i = true → i < k := by
  intro k
  induction k using Nat.strongRecOn with
  | _ k ih =>
    intro i h
    obtain ⟨o, ho, e, he, hb, h1⟩ := DF.bit k i h
    have hlt := DF.edge k o ho e he hb
    rcases h1 with rfl | h1
    · exact hlt
    · have := ih e.on hlt h1; omega

theorem mem_tmpsOf {o : Oper} {i : Nat} (h : Operand.tmp i ∈ o.op.operands.toList) : i ∈ tmpsOf o := by
  unfold tmpsOf
  exact List.mem_filterMap.2 ⟨_, h, rfl⟩

theorem ev_congr {t t' : List (Nat × AV)} {x : Operand} (h : ∀ i, x = .tmp i → get t i = get t' i) (d : TyD) : ev t d x = ev t' d x := by
  cases x with
  | tmp i => exact h i rfl
  | _ => rfl

structure Sep (L : List Oper) (b : Nat → Nat → Bool) (t : List (Nat × AV)) : Prop where
  sep : ∀ (i j : Nat) (oi oj : Oper), L[i]? = some oi → L[j]? = some oj → i ≠ j → b i j = false → b j i = false → (mutOf oi).isSome = true → looks oj = true →
    ∃ x, mutOf oi = some x ∧ sepB (ev t .other x) (oj.op.operands.toList.map (ev t .other)) = true

/-- the state, when the operations of D are done -/
structure DI (n : Nat) (ds : Nat) (L : List Oper) (b : Nat → Nat → Bool) (rs : Nat → Rec) (tk : Nat → List (Nat × AV)) (η : Nat → List AObj) (D : Nat → Prop) (X : Cx) (a : Act) : Prop where
  hr : HR X
  len : X.h.length = (η L.length).length
  heap : ∀ id k, k ≤ L.length → id < (η L.length).length → (∀ m, m < L.length → Touches rs η m id → (m < k ↔ D m)) → X.h[id]? = hx η k id
  made : ∀ m id o, m < L.length → D m → (rs m).mm = some (id, o) → ∀ j, j < L.length → (η j).length ≤ id → id < (η (j + 1)).length → D j
  closed : ∀ k, D k → ∀ i, b k i = true → D i
  tmp : ∀ i k, k ≤ L.length → (∀ (m : Nat) (o : Oper), L[m]? = some o → o.dst = some i → (m < k ↔ D m)) → VV X (get (tk k) i) (a.tmps.getD i undef)
  size : n ≤ a.tmps.size
  defers : DefOk ds X a.defers

variable {n : Nat} {ds : Nat} {D : Nat → Prop} {X : Cx} {a : Act} {k : Nat} {o : Oper}

theorem TS.final (T : TS c L L t0 h0 rs tk η) (DF : DrawFacts L b) {i : Nat} {oi : Oper} (hi : L[i]? = some oi) (hb : ∀ (w : Nat) (ow : Oper) (d : Nat), L[w]? = some ow → ow.dst = some d → d ∈ tmpsOf oi → b i w = true)
    {x : Operand} (hx : x ∈ oi.op.operands.toList) (d : TyD) : ev (tk L.length) d x = ev (tk i) d x := by
  have hil : i < L.length := (List.getElem?_eq_some_iff.1 hi).1
  refine ev_congr (fun j hj => ?_) d
  subst hj
  refine T.tk_same (Nat.le_of_lt hil) (Nat.le_refl _) fun m o h1 h2 hm hd => ?_
  have := DF.lt (hb m o j hm hd (mem_tmpsOf hx))
  omega

section ready

theorem ready_bits (T : TS c L L t0 h0 rs tk η) (DF : DrawFacts L b) (I : DI n ds L b rs tk η D X a) (ho : L[k]? = some o) (hk : ¬ D k) (hready : ∀ e ∈ o.after.toList, Region.binds .any e = true → D e.on) : ∀ i, b k i = true → D i := by
  intro i h
  obtain ⟨o', ho', e, he, hb, h1⟩ := DF.bit k i h
  rw [ho] at ho'; cases ho'
  rcases h1 with rfl | h1
  · exact hready e he hb
  · exact I.closed _ (hready e he hb) _ h1

theorem ready_tmp (T : TS c L L t0 h0 rs tk η) (DF : DrawFacts L b) (I : DI n ds L b rs tk η D X a) (ho : L[k]? = some o) (hk : ¬ D k) (hready : ∀ e ∈ o.after.toList, Region.binds .any e = true → D e.on) {i : Nat} (hi : i ∈ tmpsOf o) (m : Nat) (o' : Oper) (hm : L[m]? = some o') (hd : o'.dst = some i) : m < k ↔ D m := by
  rcases DF.reads k m o o' i ho hm hd hi with h | ⟨h1, h2⟩ | h
  · exact ⟨fun _ => ready_bits T DF I ho hk hready m h, fun _ => DF.lt h⟩
  · have := DF.lt h2
    exact ⟨fun h => by omega, fun h => absurd (I.closed m h k h2) hk⟩
  · subst h
    exact ⟨fun h => by omega, fun h => absurd h hk⟩

theorem ready_opd (T : TS c L L t0 h0 rs tk η) (DF : DrawFacts L b) (I : DI n ds L b rs tk η D X a) (ho : L[k]? = some o) (hk : ¬ D k) (hready : ∀ e ∈ o.after.toList, Region.binds .any e = true → D e.on) {x : Operand} (hx : x ∈ o.op.operands.toList) (d : TyD) : VV X (ev (tk k) d x) (a.eval x) := by
  have hkl : k < L.length := (List.getElem?_eq_some_iff.1 ho).1
  cases x with
  | tmp i => exact I.tmp i k (Nat.le_of_lt hkl) fun m o' hm hd => ready_tmp T DF I ho hk hready (mem_tmpsOf hx) m o' hm hd
  | const v => exact const_VV d v
  | global g => trivial
  | func f => exact ⟨#[], #[], rfl, by simp [VVs], by simp [VVs]⟩

theorem ready_guard (T : TS c L L t0 h0 rs tk η) (DF : DrawFacts L b) (I : DI n ds L b rs tk η D X a) (ho : L[k]? = some o) (hk : ¬ D k) (hready : ∀ e ∈ o.after.toList, Region.binds .any e = true → D e.on) {j : Nat} {want : Bool} (hg : o.guard = some (j, want)) {g : Nat} (hgt : guardTmp L j = some g) : VV X (get (tk k) g) (a.tmps.getD g undef) := by
  have hkl : k < L.length := (List.getElem?_eq_some_iff.1 ho).1
  obtain ⟨hb, hjk⟩ := DF.guard k o ho j want hg
  refine I.tmp g k (Nat.le_of_lt hkl) fun m o' hm hd => ?_
  obtain ⟨oj, hoj, hdj⟩ : ∃ oj, L[j]? = some oj ∧ oj.dst = some g := by
    unfold guardTmp at hgt
    cases h : L[j]? with
    | none => rw [h] at hgt; cases hgt
    | some oj => rw [h] at hgt; exact ⟨oj, rfl, hgt⟩
  obtain rfl := DF.once m j o' oj g hm hoj hd hdj
  exact ⟨fun _ => ready_bits T DF I ho hk hready m hb, fun _ => hjk⟩

/-- who made what an operand names is done -/
theorem ready_cre (T : TS c L L t0 h0 rs tk η) (DF : DrawFacts L b) (I : DI n ds L b rs tk η D X a) (ho : L[k]? = some o) (hk : ¬ D k) (hready : ∀ e ∈ o.after.toList, Region.binds .any e = true → D e.on) (hr : (rs k).ran = true) {x : Operand} (hx' : x ∈ o.op.operands.toList) {id : Nat} (hid : id ∈ (ev (tk k) .other x).ids) {j : Nat} (hj : j < L.length) (h1 : (η j).length ≤ id) (h2 : id < (η (j + 1)).length) : j < k ∧ D j := by
  have hkl : k < L.length := (List.getElem?_eq_some_iff.1 ho).1
  have hlt := (T.ran k o ho hr).2 x hx' id hid
  have hjk : j < k := by
    rcases Nat.lt_or_ge j k with h | h
    · exact h
    · have := T.mono h (Nat.le_of_lt hj); omega
  refine ⟨hjk, ?_⟩
  apply Classical.byContradiction
  intro hD
  have hN : id < (η L.length).length := Nat.lt_of_lt_of_le h2 (T.mono (by omega) (Nat.le_refl _))
  have hdead := I.heap id j (Nat.le_of_lt hj) hN fun m hm ht => by
    rcases ht with ⟨h3, h4⟩ | ⟨q, h3⟩
    · have : m = j := by
        rcases Nat.lt_trichotomy m j with h | h | h
        · have := T.mono (k := m + 1) (k' := j) (by omega) (by omega); omega
        · exact h
        · have := T.mono (k := j + 1) (k' := m) (by omega) (by omega); omega
      subst this
      exact ⟨fun h => by omega, fun h => absurd h hD⟩
    · obtain ⟨om, hom⟩ : ∃ om, L[m]? = some om := ⟨_, List.getElem?_eq_getElem hm⟩
      have := (T.mut_lt hom h3).1
      constructor
      · intro h
        have := T.mono (k := m) (k' := j) (by omega) (by omega); omega
      · intro h
        exact absurd (I.made m id q hm h h3 j hj h1 h2) hD
  unfold hx at hdead
  rw [if_neg (by omega)] at hdead
  exact (VV_here (ready_opd T DF I ho hk hready hx' .other) id hid).alive I.hr hdead

/-- what an operand that is looked at names is as in the text's order -/
theorem ready_ids (T : TS c L L t0 h0 rs tk η) (DF : DrawFacts L b) (SP : Sep L b (tk L.length)) (I : DI n ds L b rs tk η D X a) (ho : L[k]? = some o) (hk : ¬ D k) (hready : ∀ e ∈ o.after.toList, Region.binds .any e = true → D e.on) (hr : (rs k).ran = true) (hl : looks o = true) {x : Operand} (hx' : x ∈ o.op.operands.toList) {id : Nat} (hid : id ∈ (ev (tk k) .other x).ids) :
    ∀ m, m < L.length → Touches rs η m id → (m < k ↔ D m) := by
  intro m hm ht
  by_cases hmk : m = k
  · subst hmk; exact ⟨fun h => by omega, fun h => absurd h hk⟩
  obtain ⟨om, hom⟩ : ∃ om, L[m]? = some om := ⟨_, List.getElem?_eq_getElem hm⟩
  rcases ht with ⟨h1, h2⟩ | ⟨q, h1⟩
  · obtain ⟨p1, p2⟩ := ready_cre T DF I ho hk hready hr hx' hid hm h1 h2
    exact ⟨fun _ => p2, fun _ => p1⟩
  · cases hb1 : b k m with
    | true => exact ⟨fun _ => ready_bits T DF I ho hk hready m hb1, fun _ => DF.lt hb1⟩
    | false =>
      cases hb2 : b m k with
      | true =>
        have := DF.lt hb2
        exact ⟨fun h => by omega, fun h => absurd (I.closed m h k hb2) hk⟩
      | false =>
        exfalso
        obtain ⟨_, y, q1, q2, q3, q4⟩ := T.mut_lt hom h1
        have hbh := DF.behind m k om o hom ho hmk hb2 hb1 (by rw [q1]; rfl) hl
        obtain ⟨y', e1, e2⟩ := SP.sep m k om o hom ho hmk hb2 hb1 (by rw [q1]; rfl) hl
        rw [q1] at e1; cases e1
        refine sepB_inv e2 (i := id) ?_ ?_
        · rw [T.final DF hom (fun w ow d hw hd hm' => (hbh w ow d hw hd).1 hm') q2]; exact q3
        · refine idss_mem (List.mem_map_of_mem hx') id ?_
          rw [T.final DF ho (fun w ow d hw hd hm' => (hbh w ow d hw hd).2 hm') hx']; exact hid

theorem ready_star (T : TS c L L t0 h0 rs tk η) (DF : DrawFacts L b) (SP : Sep L b (tk L.length)) (I : DI n ds L b rs tk η D X a) (ho : L[k]? = some o) (hk : ¬ D k) (hready : ∀ e ∈ o.after.toList, Region.binds .any e = true → D e.on) {id : Nat} (ht : Touches rs η k id) : ∀ m, m < L.length → Touches rs η m id → (m < k ↔ D m) := by
  have hkl : k < L.length := (List.getElem?_eq_some_iff.1 ho).1
  rcases ht with ⟨h1, h2⟩ | ⟨q, h1⟩
  · intro m hm htm
    by_cases hmk : m = k
    · subst hmk; exact ⟨fun h => by omega, fun h => absurd h hk⟩
    rcases htm with ⟨h3, h4⟩ | ⟨q, h3⟩
    · exfalso
      rcases Nat.lt_or_gt_of_ne hmk with h | h
      · have := T.mono (k := m + 1) (k' := k) (by omega) (by omega); omega
      · have := T.mono (k := k + 1) (k' := m) (by omega) (by omega); omega
    · obtain ⟨om, hom⟩ : ∃ om, L[m]? = some om := ⟨_, List.getElem?_eq_getElem hm⟩
      have := (T.mut_lt hom h3).1
      constructor
      · intro h
        have := T.mono (k := m) (k' := k) (by omega) (by omega); omega
      · intro h
        exact absurd (I.made m id q hm h h3 k hkl h1 h2) hk
  · have hr : (rs k).ran = true := by
      cases h : (rs k).ran with
      | true => rfl
      | false => rw [(T.pass k o ho h).2.2] at h1; cases h1
    obtain ⟨_, y, q1, q2, q3, q4⟩ := T.mut_lt ho h1
    exact ready_ids T DF SP I ho hk hready hr q4 q2 q3

/-- the state behind an operation -/
theorem ready_next (T : TS c L L t0 h0 rs tk η) (DF : DrawFacts L b) (SP : Sep L b (tk L.length)) (I : DI n ds L b rs tk η D X a) (ho : L[k]? = some o) (hk : ¬ D k) (hready : ∀ e ∈ o.after.toList, Region.binds .any e = true → D e.on) {Y : Cx} {q : Value} (hd : ∀ i, o.dst = some i → i < n) (HY : HR Y) (E : Ext X Y) (hh : Y.h = mutate (place X.h (η k).length (rs k).news) (rs k).mm) (hv : VV Y (rs k).v q) :
    DI n ds L b rs tk η (fun i => D i ∨ i = k) Y (a.put o.dst q) := by
  have hkl : k < L.length := (List.getElem?_eq_some_iff.1 ho).1
  have hsk := T.lenS hkl
  have hmono := T.mono (k := k + 1) (k' := L.length) (by omega) (Nat.le_refl _)
  have hroom : (rs k).news ≠ [] → (η k).length + (rs k).news.length ≤ X.h.length := fun _ => by rw [I.len]; omega
  refine ⟨HY, by rw [hh, mutate_length, place_length, I.len], fun id k' hk' hid hyp => ?_, fun m id q hm hD hmm j hj h1 h2 => ?_, fun m hD i hb => ?_, fun i k' hk' hyp => ?_, by
    cases o.dst <;> simp [Act.put, I.size], by have := I.defers.ext E; cases o.dst <;> exact this⟩
  · by_cases ht : Touches rs η k id
    · have hkk' : k < k' := (hyp k hkl ht).2 (.inr rfl)
      have star := ready_star T DF SP I ho hk hready ht
      have e1 : hx η k' id = hx η (k + 1) id := T.hx_same hkk' hk' fun m h1 h2 htm => by
        have := (hyp m (by omega) htm).1 h2
        rcases this with h | h
        · have := (star m (by omega) htm).2 h; omega
        · omega
      rw [e1]
      have e2 := I.heap id k (Nat.le_of_lt hkl) hid star
      have hid1 : id < (η (k + 1)).length := by
        rcases ht with ⟨_, h⟩ | ⟨q, h⟩
        · exact h
        · have := (T.mut_lt ho h).1; omega
      unfold hx
      rw [if_pos hid1, hh, T.hs k hkl]
      apply mutate_congr
      rw [place_get _ _ _ hroom]
      by_cases h1 : (η k).length ≤ id ∧ id < (η k).length + (rs k).news.length
      · rw [if_pos h1, List.getElem?_append_right h1.1]
      · have h2 : id < (η k).length := by omega
        rw [if_neg h1, List.getElem?_append_left h2, e2]
        unfold hx
        rw [if_pos h2]
    · rw [hh, mutate_get _ _ _ (fun q e => ht (.inr ⟨q, e⟩)), place_get _ _ _ hroom, if_neg fun h => ht (.inl ⟨h.1, by omega⟩)]
      refine I.heap id k' hk' hid fun m hm htm => ?_
      have hmk : m ≠ k := by rintro rfl; exact ht htm
      rw [hyp m hm htm]
      exact ⟨fun h => h.resolve_right hmk, .inl⟩
  · rcases hD with hD | rfl
    · exact .inl (I.made m id q hm hD hmm j hj h1 h2)
    · have hr : (rs m).ran = true := by
        cases h : (rs m).ran with
        | true => rfl
        | false => rw [(T.pass m o ho h).2.2] at hmm; cases hmm
      obtain ⟨_, y, q1, q2, q3, q4⟩ := T.mut_lt ho hmm
      exact .inl (ready_cre T DF I ho hk hready hr q2 q3 hj h1 h2).2
  · rcases hD with hD | rfl
    · exact .inl (I.closed m hD i hb)
    · exact .inl (ready_bits T DF I ho hk hready i hb)
  · by_cases hi : o.dst = some i
    · have hkk' : k < k' := (hyp k o ho hi).2 (.inr rfl)
      have hval : get (tk k') i = (rs k).v := by
        rw [T.tk_same (k := k + 1) (k' := k') hkk' hk' fun m o' h1 h2 hm hdm => by
          have := DF.once m k o' o i hm ho hdm hi; omega]
        rw [T.ts k o ho, if_pos hi]
      rw [hval, hi]
      have hs : i < a.tmps.size := Nat.lt_of_lt_of_le (hd i hi) I.size
      simp [Act.put, Array.getD_eq_getD_getElem?, Array.getElem?_setIfInBounds, hs, hv]
    · have h1 : VV X (get (tk k') i) (a.tmps.getD i undef) := I.tmp i k' hk' fun m o' hm hdm => by
        have hmk : m ≠ k := by rintro rfl; rw [ho] at hm; cases hm; exact hi hdm
        rw [hyp m o' hm hdm]
        exact ⟨fun h => h.resolve_right hmk, .inl⟩
      have h2 : (a.put o.dst q).tmps.getD i undef = a.tmps.getD i undef := by
        cases hdst : o.dst with
        | none => rfl
        | some j =>
          have hji : j ≠ i := by rintro rfl; exact hi hdst
          simp [Act.put, Array.getD_eq_getD_getElem?, Array.getElem?_setIfInBounds, hji]
      rw [h2]; exact h1.ext E

theorem ready_opD (T : TS c L L t0 h0 rs tk η) (DF : DrawFacts L b) (SP : Sep L b (tk L.length)) (I : DI n ds L b rs tk η D X a) (ho : L[k]? = some o) (hk : ¬ D k) (hready : ∀ e ∈ o.after.toList, Region.binds .any e = true → D e.on) (hr : (rs k).ran = true) : ∃ S, S ∧ opD c (η k).length (tk k) X.h o.op o.type = some (S, (rs k).v, (rs k).news, (rs k).mm) := by
  have hkl : k < L.length := (List.getElem?_eq_some_iff.1 ho).1
  obtain ⟨⟨S, hS, e⟩, hb⟩ := T.ran k o ho hr
  refine ⟨S, hS, ?_⟩
  cases hl : looks o with
  | false => rw [opD_nolook hl (h' := η k)]; exact e
  | true =>
    rw [opD_local (h' := η k)]
    · exact e
    · intro id hid
      obtain ⟨v, hv, hj⟩ := mem_idss hid
      obtain ⟨x, hx', rfl⟩ := List.mem_map.1 hv
      have hlt := hb x hx' id hj
      have := I.heap id k (Nat.le_of_lt hkl) (Nat.lt_of_lt_of_le hlt (T.mono (Nat.le_of_lt hkl) (Nat.le_refl _))) (ready_ids T DF SP I ho hk hready hr hl hx' hj)
      rw [this]; unfold hx; rw [if_pos hlt]

theorem ready_dead (T : TS c L L t0 h0 rs tk η) (DF : DrawFacts L b) (SP : Sep L b (tk L.length)) (I : DI n ds L b rs tk η D X a) (ho : L[k]? = some o) (hk : ¬ D k) (hready : ∀ e ∈ o.after.toList, Region.binds .any e = true → D e.on) : ∀ j, j < (rs k).news.length → X.h[(η k).length + j]? = some .dead := by
  have hkl : k < L.length := (List.getElem?_eq_some_iff.1 ho).1
  intro j hj
  have hsk := T.lenS hkl
  have hmono := T.mono (k := k + 1) (k' := L.length) (by omega) (Nat.le_refl _)
  have := I.heap ((η k).length + j) k (Nat.le_of_lt hkl) (by omega) (ready_star T DF SP I ho hk hready (.inl ⟨by omega, by omega⟩))
  rw [this]; unfold hx; rw [if_neg (by omega)]
end ready
end

end Lam
set_option linter.unnecessarySimpa false
set_option linter.unusedSectionVars false
set_option linter.unusedSimpArgs false
set_option linter.unusedVariables false
namespace Lam
open Go

theorem set_false {listed : Array Bool} {i j : Nat} (h : listed.getD j true = false) : (listed.setIfInBounds j true).getD i false = true ↔ (listed.getD i false = true ∨ i = j) := by
  have hj : j < listed.size := by
    rcases Nat.lt_or_ge j listed.size with h1 | h1
    · exact h1
    · rw [Array.getD_eq_getD_getElem?, Array.getElem?_eq_none h1] at h; cases h
  simp only [Array.getD_eq_getD_getElem?, Array.getElem?_setIfInBounds]
  by_cases e : j = i
  · subst e; simp [hj]
  · simp [e, Ne.symm e]

section
variable {ro : Option Nat} {P : Program} {n : Nat} {ds : Nat} {c : Ctx} {ops : Array Oper} {t0 : List (Nat × AV)} {h0 : List AObj} {rs : Nat → Rec} {tk : Nat → List (Nat × AV)} {η : Nat → List AObj} {b : Nat → Nat → Bool}

theorem drawn_any (C : CtxOk P c) (T : TS c ops.toList ops.toList t0 h0 rs tk η) (DF : DrawFacts ops.toList b) (SP : Sep ops.toList b (tk ops.toList.length)) (hd : ∀ o ∈ ops.toList, ∀ i, o.dst = some i → i < n) (nf : Nat) {Q : Exit → Act → World → Prop} {X00 : Cx}
    (hQ : ∀ Y a', HR Y → Ext X00 Y → SR n ds Y (tk ops.toList.length) a' → Y.h = η ops.toList.length → Q .normal a' Y.w) :
    ∀ (fuel : Nat) (listed : Array Bool) (X : Cx) (a : Act), listed.size = ops.size → listed.toList.count false ≤ fuel → Ext X00 X → DI n ds ops.toList b rs tk η (fun i => listed.getD i false = true) X a →
      wpAnyIn (FW ro) nf P .any ops Q fuel listed a X.w := by
  have fin : ∀ (listed : Array Bool) (X : Cx) (a : Act), Ext X00 X → DI n ds ops.toList b rs tk η (fun i => listed.getD i false = true) X a → (∀ i, i < ops.toList.length → listed.getD i false = true) → Q .normal a X.w := by
    intro listed X a E I hall
    refine hQ X a I.hr E ⟨fun i => I.tmp i _ (Nat.le_refl _) fun m o hm _ => ?_, I.size, I.defers⟩ ?_
    · have := (List.getElem?_eq_some_iff.1 hm).1
      exact ⟨fun _ => hall m this, fun _ => this⟩
    · apply List.ext_getElem?
      intro id
      rcases Nat.lt_or_ge id (η ops.toList.length).length with h | h
      · rw [I.heap id _ (Nat.le_refl _) h fun m hm _ => ⟨fun _ => hall m hm, fun _ => hm⟩]
        unfold hx; rw [if_pos h]
      · rw [List.getElem?_eq_none h, List.getElem?_eq_none (by rw [I.len]; exact h)]
  have noready : ∀ (listed : Array Bool), listed.size = ops.size → Region.ready .any ops listed = [] → ∀ i, i < ops.toList.length → listed.getD i false = true := by
    intro listed hsz hr i
    induction i using Nat.strongRecOn with
    | _ i ih =>
      intro hi
      have hi' : i < ops.size := by simpa using hi
      apply Classical.byContradiction
      intro hc
      have : i ∈ Region.ready .any ops listed := by
        rw [mem_ready]
        refine ⟨?_, ops[i], by simp [hi'], fun e he hb => ?_⟩
        · rw [Array.getD_eq_getD_getElem?, Array.getElem?_eq_getElem (by omega)] at hc ⊢
          simpa using hc
        · have hlt := DF.edge i ops[i] (by simp [hi']) e (by simpa using he) hb
          exact ih e.on hlt (by omega)
      rw [hr] at this; cases this
  intro fuel
  induction fuel with
  | zero =>
    intro listed X a hsz hc E I
    have hall : ∀ i, i < ops.toList.length → listed.getD i false = true := by
      intro i hi
      have hi' : i < listed.size := by rw [hsz]; simpa using hi
      have h0 : listed.toList.count false = 0 := by omega
      rw [List.count_eq_zero] at h0
      rw [Array.getD_eq_getD_getElem?, Array.getElem?_eq_getElem hi']
      simp only [Option.getD_some]
      cases hx : listed[i] with
      | true => rfl
      | false => exact absurd (by rw [← hx]; simp) h0
    refine ⟨?_, fin listed X a E I hall⟩
    apply List.eq_nil_iff_forall_not_mem.2
    intro j hj
    rw [mem_ready] at hj
    obtain ⟨h1, o, ho, _⟩ := hj
    have hjl : j < ops.toList.length := by simpa using (Array.getElem?_eq_some_iff.1 ho).1
    have := hall j hjl
    have hjs : j < listed.size := by rw [hsz]; simpa using hjl
    rw [Array.getD_eq_getD_getElem?, Array.getElem?_eq_getElem hjs] at this h1
    simp only [Option.getD_some] at this h1
    rw [this] at h1; cases h1
  | succ fuel ih =>
    intro listed X a hsz hc E I
    refine ⟨fun hr => fin listed X a E I (noready listed hsz hr), fun k hk => ?_⟩
    rw [mem_ready] at hk
    obtain ⟨hkf, o, ho, hedges⟩ := hk
    have hoL : ops.toList[k]? = some o := by simpa using ho
    have hks : k < listed.size := by rw [hsz]; exact (Array.getElem?_eq_some_iff.1 ho).1
    have hkD : ¬ listed.getD k false = true := by
      rw [Array.getD_eq_getD_getElem?, Array.getElem?_eq_getElem hks] at hkf ⊢
      simp only [Option.getD_some] at hkf ⊢
      rw [hkf]; simp
    have hready : ∀ e ∈ o.after.toList, Region.binds .any e = true → listed.getD e.on false = true := fun e he hb => hedges e (by simpa using he) hb
    have hdo : ∀ i, o.dst = some i → i < n := hd o (List.mem_of_getElem? hoL)
    have hset : (fun i => (listed.setIfInBounds k true).getD i false = true) = fun i => listed.getD i false = true ∨ i = k := by
      funext i; exact propext (set_false hkf)
    have hcnt : (listed.setIfInBounds k true).toList.count false ≤ fuel := by
      have hlf : listed.toList[k]'(by simpa using hks) = false := by
        rw [Array.getD_eq_getD_getElem?, Array.getElem?_eq_getElem hks] at hkf
        simpa using hkf
      rw [Array.toList_setIfInBounds, List.count_set (by simpa using hks), hlf]
      have e1 : (false == false) = true := rfl
      have e2 : ¬ (true == false) = true := by decide
      rw [if_pos e1, if_neg e2]; omega
    have next : ∀ (Y : Cx) (q : Value), HR Y → Ext X Y → Y.h = mutate (place X.h (η k).length (rs k).news) (rs k).mm → VV Y (rs k).v q →
        wpAnyIn (FW ro) nf P .any ops Q fuel (listed.setIfInBounds k true) (a.put o.dst q) Y.w := by
      intro Y q HY EY hh hv
      refine ih _ Y _ (by simpa using hsz) hcnt (E.trans EY) ?_
      rw [hset]
      exact ready_next T DF SP I hoL hkD hready hdo HY EY hh hv
    unfold wpOpIn
    rw [ho]
    have pass : (rs k).ran = false → Region.wanted o (yielded ops a.tmps) = false →
        (if Region.wanted o (yielded ops a.tmps) = true then o.wpIn (FW ro) nf P a X.w (wpAnyIn (FW ro) nf P .any ops Q fuel (listed.setIfInBounds k true)) Q
          else (∀ f, o.about P X.w a.eval = some f → (FW ro).fn f) ∧ wpAnyIn (FW ro) nf P .any ops Q fuel (listed.setIfInBounds k true) (a.put o.dst undef) X.w) := by
      intro hr hw
      rw [if_neg (by rw [hw]; simp)]
      obtain ⟨p1, p2, p3⟩ := T.pass k o hoL hr
      exact ⟨fun _ _ => trivial, next X undef I.hr (Ext.refl X) (by rw [p2, p3]; rfl) (by rw [p1]; rfl)⟩
    have run : (rs k).ran = true → Region.wanted o (yielded ops a.tmps) = true →
        (if Region.wanted o (yielded ops a.tmps) = true then o.wpIn (FW ro) nf P a X.w (wpAnyIn (FW ro) nf P .any ops Q fuel (listed.setIfInBounds k true)) Q
          else (∀ f, o.about P X.w a.eval = some f → (FW ro).fn f) ∧ wpAnyIn (FW ro) nf P .any ops Q fuel (listed.setIfInBounds k true) (a.put o.dst undef) X.w) := by
      intro hr hw
      rw [if_pos hw]
      obtain ⟨S, hS, e⟩ := ready_opD T DF SP I hoL hkD hready hr
      have hto := opD_sound (ro := ro) (a := a) I.hr C (fun x hx d => ready_opd T DF I hoL hkD hready hx d) (ready_dead T DF SP I hoL hkD hready) e hS
      refine hto nf _ Q fun q w' hg => ?_
      obtain ⟨Y, rfl, hYh, HY, EY, hv⟩ := hg
      exact next Y q HY EY hYh hv
    have hg := T.guard k o hoL
    show (if Region.wanted o (yielded ops a.tmps) = true then _ else _)
    split at hg
    · rename_i hgn
      exact run hg (by simp [Region.wanted, hgn])
    · rename_i j want hgs
      obtain ⟨g, hgt, hcase⟩ := hg
      have hv := ready_guard T DF I hoL hkD hready hgs hgt
      rcases hcase with ⟨bb, hb, hran⟩ | ⟨hb, hran⟩
      · rw [hb] at hv
        have hy := yield_bool hgt hv
        have hw : Region.wanted o (yielded ops a.tmps) = (bb == want) := by simp [Region.wanted, hgs, hy]
        cases hbw : (bb == want) with
        | true => exact run (by rw [hran, hbw]) (by rw [hw, hbw])
        | false => exact pass (by rw [hran, hbw]) (by rw [hw, hbw])
      · rw [hb] at hv
        have hy := yield_und hgt hv
        exact pass hran (by simp [Region.wanted, hgs, hy])

/-- a world of which the heap is the same -/
theorem same_heap {X : Cx} (H : HR X) {w' : World} (hw : w'.heap = X.w.heap) (hv : SameEnv X.w w') : HR ⟨X.S, X.μ, X.h, w'⟩ ∧ Ext X ⟨X.S, X.μ, X.h, w'⟩ := by
  have E : Ext X ⟨X.S, X.μ, X.h, w'⟩ := by
    refine ⟨fun _ h => h, fun b _ => by rw [hw], fun b hb => .inl hb, fun i b hb => .inl hb, fun b _ _ => by rw [hw], by rw [hw]; exact Nat.le_refl _, fun i k ver l hl => ?_, fun i b h1 h2 => ⟨h2, h1⟩, hv⟩
    exact ⟨k, ver, l, hl, Nat.le_refl _, fun _ => ⟨rfl, rfl, fun b hb => ⟨hb, by simp only [blockSize, hw]; exact Nat.le_refl _⟩⟩, fun h => ⟨h, rfl⟩⟩
  refine ⟨⟨H.len, fun i o ho => ?_, H.apart, fun i b hb => ?_, fun b hb => ?_⟩, E⟩
  · obtain ⟨b, hb, hor⟩ := H.obj i o ho
    exact ⟨b, hb, hor.ext E fun k _ => by rw [hw]⟩
  · have := H.live i b hb
    rw [hw]; exact this
  · rw [hw]; exact H.old b hb

theorem noS_ok (C : CtxOk P c) : CtxOk P c.noS := ⟨C.tab, C.sh, C.fok⟩

theorem region_draw (C : CtxOk P c) (hm : P.follows .mixedOrders = true) (nf : Nat) {X : Cx} {a : Act} {t : List (Nat × AV)} (H : HR X) (R : SR n ds X t a) {id : Nat} (hd : ∀ o ∈ ops.toList, ∀ i, o.dst = some i → i < n)
    {κ : List (Nat × AV) → List AObj → Prop} {Q : Exit → Act → World → Prop} (hok : drawOk ops.toList (befores ops.toList []) = true)
    (hw : opsW c.noS ops.toList (fun _ _ => False) (fun t h => sepW t (sepsOf ops.toList (befores ops.toList [])) (κ t h)) ops.toList [] t X.h)
    (hQ : ∀ Y t' a', HR Y → Ext X Y → SR n ds Y t' a' → κ t' Y.h → Q .normal a' Y.w) : (Code.region id ops true).wpIn (FW ro) nf P Q a X.w := by
  have DF := drawFacts hok
  obtain ⟨rs, tk, η, T, hκ⟩ := opsW_trace (noS_ok C) rfl (fun _ _ _ _ h => h) (fun _ _ _ _ h => h) ops.toList ops.toList [] t X a hd (fun o ho => by
    obtain ⟨k, hk⟩ := List.getElem?_of_mem ho
    exact DF.noNil k o hk) (Kn.nil t) H R hw
  obtain ⟨hκ, hsep⟩ := sepW_inv hκ
  have SP : Sep ops.toList (fun k j => ((befores ops.toList []).getD k 0).testBit j) (tk ops.toList.length) := by
    refine ⟨fun i j oi oj hi hj hne h1 h2 hmu hl => ?_⟩
    have hp := mem_pairs hi hj hne h1 h2 hmu hl
    have hq : (mutOf oi, oj.op.operands.toList) ∈ sepsOf ops.toList (befores ops.toList []) := by
      unfold sepsOf
      refine List.mem_map.2 ⟨_, hp, ?_⟩
      simp only [hi, hj]
    obtain ⟨x, hx, hb⟩ := hsep _ hq
    exact ⟨x, hx, hb⟩
  refine wpIn_region_any hm ?_
  obtain ⟨H1, E1⟩ := same_heap H (w' := { X.w with drawn := X.w.drawn + 1 }) rfl ⟨rfl, rfl, rfl⟩
  obtain ⟨H2, E2⟩ := pad_ok H1 ((η ops.toList.length).length - X.h.length)
  have E3 := E1.trans E2
  have R3 := R.ext E3
  have hs0 : (η 0).length ≤ (η ops.toList.length).length := T.mono (Nat.zero_le _) (Nat.le_refl _)
  have hη0 : η 0 = X.h := T.h0
  rw [hη0] at hs0
  refine drawn_any (noS_ok C) T DF SP hd nf (X00 := X) (fun Y a' HY EY RY hh => hQ Y _ a' HY EY RY (by rw [hh]; exact hκ)) ops.size (Array.replicate ops.size false) _ a (by simp) ?_ E3 ?_
  · simp
  · have hF : ∀ i, ¬ (Array.replicate ops.size false).getD i false = true := by
      intro i
      simp only [Array.getD_eq_getD_getElem?, Array.getElem?_replicate]
      split <;> simp
    refine ⟨H2, ?_, fun id k hk hid hyp => ?_, fun m id o hm hD => absurd hD (hF m), fun k hD => absurd hD (hF k), fun i k hk hyp => ?_, R.size, R3.defers⟩
    · simp only [Cx.pad, List.length_append, List.length_replicate]; omega
    · rw [pad_h, T.hx_same (k := 0) (k' := k) (Nat.zero_le _) hk fun m _ h2 ht => hF m ((hyp m (by omega) ht).1 h2)]
      unfold hx
      rw [hη0]
      by_cases h1 : id < X.h.length
      · simp only [h1, if_true]
      · simp only [h1, if_false]
        rw [if_pos (by show id < X.h.length + _; omega)]
    · rw [T.tk_same (k := 0) (k' := k) (Nat.zero_le _) hk fun m o _ h2 hm' hdm => hF m ((hyp m o hm' hdm).1 h2), T.t0]
      exact R3.v i
end

end Lam
set_option linter.unnecessarySimpa false
set_option linter.unusedSectionVars false
set_option linter.unusedSimpArgs false
set_option linter.unusedVariables false
namespace Lam
open Go

/-- ways out, as they are told -/
def ExR (n : Nat) (ds : Nat) (Y : Cx) : AExit → List (Nat × AV) → Exit → Act → Prop
  | .normal, t, e, a => e = .normal ∧ SR n ds Y t a
  | .exit i, t, e, a => e = .exit i ∧ SR n ds Y t a
  | .goto l, t, e, a => e = .goto l ∧ SR n ds Y t a
  | .ret, t, e, a => e = .ret ∧ SR n ds Y t a
  | .pan v, _, e, a => (∃ q, e = .panic [{ v := q, recovered := false }] ∧ VV Y v q) ∧ n ≤ a.tmps.size ∧ DefOk ds Y a.defers

def QOk (n : Nat) (ds : Nat) (X : Cx) (κ : AExit → St → Prop) (Q : Exit → Act → World → Prop) : Prop :=
  ∀ Y ae t' e a', HR Y → Ext X Y → ExR n ds Y ae t' e a' → κ ae ⟨t', Y.h⟩ → Q e a' Y.w

theorem QOk.ext {n : Nat} {ds : Nat} {X Y : Cx} {κ : AExit → St → Prop} {Q : Exit → Act → World → Prop} (h : QOk n ds X κ Q) (E : Ext X Y) : QOk n ds Y κ Q :=
  fun Z ae t' e a' HZ EZ hx hk => h Z ae t' e a' HZ (E.trans EZ) hx hk

/-- where the run goes on -/
def From (g : Option Nat) (code rest : Code) : Prop :=
  match g with
  | none => rest = code
  | some l => findLabel code l = some rest

section
variable {ro : Option Nat} {P : Program} {n : Nat} {ds : Nat} {c : Ctx}

theorem seq_Q {X : Cx} {κ : AExit → St → Prop} {Q : Exit → Act → World → Prop} {b : Code} {nf : Nat}
    (hQ : QOk n ds X κ Q)
    (hb : ∀ Y t a, HR Y → Ext X Y → SR n ds Y t a → W c none b ⟨t, Y.h⟩ κ → b.wpIn (FW ro) nf P Q a Y.w) :
    QOk n ds X (fun e st' => match e with
      | .normal => W c none b st' κ
      | e => κ e st') (Exit.then (b.wpIn (FW ro) nf P Q) Q) := by
  intro Y ae t' e a' HY EY hx hk
  cases ae with
  | normal => obtain ⟨rfl, R⟩ := hx; exact hb Y t' a' HY EY R hk
  | exit i => obtain ⟨rfl, R⟩ := hx; exact hQ Y (.exit i) t' _ a' HY EY ⟨rfl, R⟩ hk
  | goto i => obtain ⟨rfl, R⟩ := hx; exact hQ Y (.goto i) t' _ a' HY EY ⟨rfl, R⟩ hk
  | ret => obtain ⟨rfl, R⟩ := hx; exact hQ Y .ret t' _ a' HY EY ⟨rfl, R⟩ hk
  | pan v => obtain ⟨⟨q, rfl, hv⟩, h1, h2⟩ := hx; exact hQ Y (.pan v) t' _ a' HY EY ⟨⟨q, rfl, hv⟩, h1, h2⟩ hk


/-! ### Ranges over functions -/
theorem putAll_SR {X : Cx} {n : Nat} : ∀ (L : List Nat) (vs : List AV) (cs : List Value) (t : List (Nat × AV)) (tmps : Array Value), VVs X vs cs → vs.length = L.length → (∀ i ∈ L, i < n) → SR n ds X t { tmps := tmps, defers := [] } →
    SR n ds X (putAll L vs t) { tmps := (L.zip cs).foldl (fun tmps p => tmps.setIfInBounds p.1 p.2) tmps, defers := [] }
  | [], vs, cs, t, tmps, _, _, _, R => by cases vs <;> simpa [putAll] using R
  | i :: L, [], cs, t, tmps, _, hl, _, R => by simp at hl
  | i :: L, v :: vs, cs, t, tmps, hv, hl, hn, R => by
    simp only [VVs] at hv
    obtain ⟨c, d, rfl, h1, h2⟩ := hv
    have := putAll_SR L vs d (put i v t) (tmps.setIfInBounds i c) h2 (by simpa using hl) (fun j hj => hn j (by simp [hj])) (R.put (hn i (by simp)) h1)
    simpa [putAll] using this

theorem argsW_inv : ∀ {L : List Nat} {vs : List AV} {t : List (Nat × AV)} {A : List (Nat × AV) → Prop}, argsW L vs t A → vs.length = L.length ∧ A (putAll L vs t)
  | [], [], t, A, h => ⟨rfl, h⟩
  | [], _ :: _, t, A, h => h.elim
  | i :: L, [], t, A, h => h.elim
  | i :: L, v :: vs, t, A, h => by
    obtain ⟨h1, h2⟩ := argsW_inv (L := L) (vs := vs) (t := put i v t) (A := A) h
    exact ⟨by simp [h1], h2⟩

theorem promL_sound {X : Cx} (H : HR X) {l : Lst} {cs : List Value} (h : VC X (.sl true l) cs) :
    ∃ Y : Cx, Y.w = X.w ∧ HR Y ∧ Ext X Y ∧ Y.h = X.h ++ rowsOf (promL l X.h.length).2 ∧ VC Y (promL l X.h.length).1 cs := by
  unfold promL
  split
  · rename_i hl
    simp only [VC] at h
    obtain ⟨c, hcs, hsl⟩ := h
    obtain ⟨Y, hw, HY, EY, hh, hv⟩ := prom_one H hl hsl
    exact ⟨Y, hw, HY, EY, hh, by simp only [VC]; exact ⟨c, hcs, hv⟩⟩
  · exact ⟨X, rfl, H, Ext.refl X, by simp [rowsOf], h⟩

mutual
theorem promA_sound : ∀ (v : AV) {X : Cx} {cs : List Value}, HR X → VC X v cs → ∃ Y : Cx, Y.w = X.w ∧ HR Y ∧ Ext X Y ∧ Y.h = X.h ++ rowsOf (promA v X.h.length).2 ∧ VC Y (promA v X.h.length).1 cs
  | .sl true l, X, cs, H, h => by simp only [promA]; exact promL_sound H h
  | .sl false l, X, cs, H, h => ⟨X, rfl, H, Ext.refl X, by simp [promA, rowsOf], by simpa only [promA] using h⟩
  | .agg vs, X, cs, H, h => by
    simp only [VC] at h
    obtain ⟨Y, h1, h2, h3, h4, h5⟩ := promAs_sound vs H h
    simp only [promA, VC]
    exact ⟨Y, h1, h2, h3, h4, h5⟩
  | .top, X, cs, H, h | .und, X, cs, H, h | .int _ _, X, cs, H, h | .bool _, X, cs, H, h | .str _, X, cs, H, h | .arr _, X, cs, H, h | .tup _, X, cs, H, h | .sref _ _ _ _ _, X, cs, H, h
  | .ep _ _ _, X, cs, H, h | .nilp, X, cs, H, h | .ptr _ _, X, cs, H, h | .map _, X, cs, H, h | .fn _ _ _, X, cs, H, h | .nilfn, X, cs, H, h | .iface _ _, X, cs, H, h | .niliface, X, cs, H, h =>
    ⟨X, rfl, H, Ext.refl X, by simp [promA, rowsOf], by simpa only [promA] using h⟩
theorem promAs_sound : ∀ (vs : List AV) {X : Cx} {cs : List Value}, HR X → VCs X vs cs → ∃ Y : Cx, Y.w = X.w ∧ HR Y ∧ Ext X Y ∧ Y.h = X.h ++ rowsOf (promAs vs X.h.length).2 ∧ VCs Y (promAs vs X.h.length).1 cs
  | [], X, cs, H, h => ⟨X, rfl, H, Ext.refl X, by simp [promAs, rowsOf], by simpa only [promAs] using h⟩
  | v :: r, X, cs, H, h => by
    simp only [VCs] at h
    obtain ⟨a, b, rfl, h1, h2⟩ := h
    obtain ⟨Y, q1, q2, q3, q4, q5⟩ := promA_sound v H h1
    obtain ⟨Z, r1, r2, r3, r4, r5⟩ := promAs_sound r q2 (VCs.ext q3 h2)
    have hl : Y.h.length = X.h.length + (promA v X.h.length).2.length := by rw [q4]; simp [rowsOf]
    rw [hl] at r4 r5
    simp only [promAs, VCs]
    refine ⟨Z, by rw [r1, q1], r2, q3.trans r3, ?_, a, b, rfl, VC.ext r3 q5, r5⟩
    rw [r4, q4]
    simp [rowsOf]
end

theorem promO_sound {X : Cx} {i : Nat} {o : AObj} (H : HR X) (h0 : X.h[i]? = some o) :
    ∃ Z : Cx, Z.w = X.w ∧ HR Z ∧ Ext X Z ∧ Z.h = promO i o X.h ∧ X.h.length ≤ Z.h.length ∧ ∀ j, j ≠ i → j < X.h.length → Z.h[j]? = X.h[j]? := by
  have triv : ∃ Z : Cx, Z.w = X.w ∧ HR Z ∧ Ext X Z ∧ Z.h = X.h ∧ X.h.length ≤ Z.h.length ∧ ∀ j, j ≠ i → j < X.h.length → Z.h[j]? = X.h[j]? :=
    ⟨X, rfl, H, Ext.refl X, rfl, Nat.le_refl _, fun _ _ _ => rfl⟩
  unfold promO
  split
  rotate_left
  · exact triv
  rename_i v
  unfold promS
  split
  · exact triv
  have hi : i < X.h.length := (List.getElem?_eq_some_iff.1 h0).1
  obtain ⟨b, hb, b', cs, elem, rfl, hc, hvc⟩ := H.obj _ _ h0
  obtain ⟨Y, hw, HY, EY, hh, hv⟩ := promA_sound v H hvc
  have hiY : Y.h[i]? = some (.box v) := by rw [hh, List.getElem?_append_left hi]; exact h0
  have hmY : Y.μ[i]? = some (some b') := (EY.oth i b' (by rw [h0]; rfl) hb).1
  let Z : Cx := ⟨Y.S, Y.μ.set i (some b'), Y.h.set i (.box (promA v X.h.length).1), Y.w⟩
  have U : Upd Y Z i (.box v) (.box (promA v X.h.length).1) (some b') (some b') := by
    refine ⟨rfl, rfl, rfl, hiY, hmY, fun k _ _ => rfl, Nat.le_refl _, .inl rfl, fun k hk hs => ?_, fun k ver l h => (by cases h), fun _ => .inr ⟨rfl, rfl⟩, SameEnv.refl _⟩
    cases hk
    obtain ⟨ver', l', e⟩ := (HY.live i b' hmY).2 hs
    rw [hiY] at e; cases e
  have EZ := U.ext HY
  have HZ : HR Z := U.hr HY fun E => ⟨b', cs, elem, rfl, by show Y.w.heap[b']? = _; rw [hw]; exact hc, VC.ext E hv⟩
  refine ⟨Z, hw, HZ, EY.trans EZ, ?_, ?_, fun j hj hjl => ?_⟩
  · show Y.h.set i _ = _
    rw [hh]
  · show _ ≤ (Y.h.set i _).length
    rw [List.length_set, hh, List.length_append]; omega
  · show (Y.h.set i _)[j]? = _
    rw [List.getElem?_set, if_neg (Ne.symm hj), hh, List.getElem?_append_left hjl]

theorem promB_sound : ∀ (todo : List AObj) (i : Nat) {X : Cx}, HR X → (∀ j o, todo[j]? = some o → X.h[i + j]? = some o) → ∃ Y : Cx, Y.w = X.w ∧ HR Y ∧ Ext X Y ∧ Y.h = promB todo i X.h
  | [], i, X, H, _ => ⟨X, rfl, H, Ext.refl X, rfl⟩
  | o :: r, i, X, H, ht => by
    have h0 := ht 0 o rfl
    rw [Nat.add_zero] at h0
    obtain ⟨Z, h1, h2, h3, h4, h5, h6⟩ := promO_sound H h0
    obtain ⟨V, q1, q2, q3, q4⟩ := promB_sound r (i + 1) h2 fun j q hj => by
      have hq := ht (j + 1) q hj
      rw [show i + (j + 1) = i + 1 + j by omega] at hq
      rw [h6 _ (by omega) (List.getElem?_eq_some_iff.1 hq).1]
      exact hq
    exact ⟨V, by rw [q1, h1], q2, h3.trans q3, by rw [q4, h4]; rfl⟩

theorem promP_sound (a : AV) {X : Cx} (H : HR X) : ∃ Y : Cx, Y.w = X.w ∧ HR Y ∧ Ext X Y ∧ Y.h = promP a X.h := by
  unfold promP
  split
  · rename_i id
    cases ho : X.h[id]? with
    | none =>
      rw [List.getD_eq_getElem?_getD, ho]
      exact ⟨X, rfl, H, Ext.refl X, rfl⟩
    | some o =>
      obtain ⟨Z, h1, h2, h3, h4, _⟩ := promO_sound H ho
      rw [List.getD_eq_getElem?_getD, ho]
      exact ⟨Z, h1, h2, h3, h4⟩
  · exact ⟨X, rfl, H, Ext.refl X, rfl⟩

theorem boxH_sound : ∀ (l : List AV) {X : Cx}, HR X → ∃ Y : Cx, Y.w = X.w ∧ HR Y ∧ Ext X Y ∧ Y.h = boxH l X.h
  | [], X, H => ⟨X, rfl, H, Ext.refl X, rfl⟩
  | a :: r, X, H => by
    obtain ⟨Y, h1, h2, h3, h4⟩ := promP_sound a H
    obtain ⟨Z, q1, q2, q3, q4⟩ := boxH_sound r h2
    exact ⟨Z, by rw [q1, h1], q2, h3.trans q3, by rw [q4, h4]; rfl⟩

/-- the loop's record is laid, and the block for its rounds' deferred calls -/
theorem lp_new {X : Cx} (H : HR X) {r : Loop} (hr : r = { r with state := .ready, pending := none }) :
    ∃ Y : Cx, Y.w = (X.w.alloc (.deferred (some []))).alloc (.loop r) ∧ HR Y ∧ Ext X Y ∧ Y.h = X.h ++ [.lp .ready none r] ∧ Y.μ[X.h.length]? = some (some (X.w.heap.size + 1)) ∧
      (∀ i : Nat, Y.μ[i]? ≠ some (some X.w.heap.size)) ∧ ¬ Y.S X.w.heap.size := by
  obtain ⟨H1, E1⟩ := pad_ok H 1
  have hsz : ((X.w.alloc (.deferred (some []))).alloc (.loop r)).heap = (X.w.heap.push (.deferred (some []))).push (.loop r) := rfl
  have hml : (X.pad 1).μ.length = X.h.length + 1 := by simp [Cx.pad, H.len]
  let Y : Cx := ⟨X.S, (X.pad 1).μ.set X.h.length (some (X.w.heap.size + 1)), (X.pad 1).h.set X.h.length (.lp .ready none r), (X.w.alloc (.deferred (some []))).alloc (.loop r)⟩
  have old : ∀ k, k < X.w.heap.size → Y.w.heap[k]? = X.w.heap[k]? := fun k hk => by
    show ((X.w.heap.push (.deferred (some []))).push (.loop r))[k]? = _
    rw [Array.getElem?_push, Array.getElem?_push, if_neg (by simp; omega), if_neg (by omega)]
  have U : Upd (X.pad 1) Y X.h.length .dead (.lp .ready none r) none (some (X.w.heap.size + 1)) := by
    refine ⟨rfl, rfl, rfl, ?_, ?_, fun k hk _ => old k hk, ?_, .inr ⟨_, rfl, ?_, ?_⟩, fun k h => (by cases h), fun k ver l h => (by cases h), fun _ => .inl rfl, ⟨rfl, rfl, rfl⟩⟩
    · rw [pad_h, if_neg (by omega), if_pos (by omega)]
    · rw [pad_mu H.len, if_neg (by omega), if_pos (by omega)]
    · show X.w.heap.size ≤ ((X.w.heap.push (.deferred (some []))).push (.loop r)).size
      simp; omega
    · show X.w.heap.size ≤ X.w.heap.size + 1; omega
    · show X.w.heap.size + 1 < ((X.w.heap.push (.deferred (some []))).push (.loop r)).size
      simp
  have hnew : Y.w.heap[X.w.heap.size + 1]? = some (.loop r) := by
    show ((X.w.heap.push (.deferred (some []))).push (.loop r))[X.w.heap.size + 1]? = _
    rw [Array.getElem?_push, if_pos (by simp)]
  have HY : HR Y := U.hr H1 fun _ => ⟨_, rfl, by rw [hnew, ← hr]⟩
  have hμ : Y.μ[X.h.length]? = some (some (X.w.heap.size + 1)) := by
    show ((X.pad 1).μ.set X.h.length (some (X.w.heap.size + 1)))[X.h.length]? = _
    rw [List.getElem?_set, if_pos rfl, if_pos (by omega)]
  refine ⟨Y, rfl, HY, E1.trans (U.ext H1), ?_, hμ, fun i hi => ?_, fun hs => ?_⟩
  · show (X.h ++ List.replicate 1 AObj.dead).set X.h.length (.lp .ready none r) = _
    simp
  · by_cases e : X.h.length = i
    · subst e; rw [hμ] at hi; simp at hi
    · have : (X.pad 1).μ[i]? = some (some X.w.heap.size) := by
        have h2 : ((X.pad 1).μ.set X.h.length (some (X.w.heap.size + 1)))[i]? = some (some X.w.heap.size) := hi
        rwa [List.getElem?_set, if_neg e] at h2
      have := (H1.live _ _ this).1
      exact absurd this (Nat.lt_irrefl _)
  · exact absurd (H.old _ hs) (Nat.lt_irrefl _)

/-- the loop's record changes -/
theorem lp_set {Y : Cx} (H : HR Y) {id l : Nat} {st : LoopState} {pd : Option Code} {r : Loop} (hh : Y.h[id]? = some (.lp st pd r)) (hm : Y.μ[id]? = some (some l)) (st' : LoopState) (pd' : Option Code) :
    Y.w.heap[l]? = some (.loop { r with state := st, pending := pd }) ∧ ∃ Z : Cx, Z.w = Y.w.putObj l (.loop { r with state := st', pending := pd' }) ∧ Z.h = Y.h.set id (.lp st' pd' r) ∧ HR Z ∧ Ext Y Z := by
  obtain ⟨b, hb, b', rfl, hl⟩ := H.obj _ _ hh
  rw [hm] at hb
  obtain rfl : l = b' := by simpa using hb
  have hlt : l < Y.w.heap.size := (Array.getElem?_eq_some_iff.1 hl).1
  let Z : Cx := ⟨Y.S, Y.μ.set id (some l), Y.h.set id (.lp st' pd' r), Y.w.putObj l (.loop { r with state := st', pending := pd' })⟩
  have U : Upd Y Z id (.lp st pd r) (.lp st' pd' r) (some l) (some l) := by
    refine ⟨rfl, rfl, rfl, hh, hm, fun k _ hk => ?_, ?_, .inl rfl, fun k hk hs => ?_, fun k ver l h => (by cases h), fun _ => .inr ⟨rfl, rfl⟩, ⟨rfl, rfl, rfl⟩⟩
    · exact World.putObj_heap_other fun e => hk (by rw [e])
    · show _ ≤ (Y.w.putObj l _).heap.size
      simp
    · cases hk
      obtain ⟨ver, l', e⟩ := (H.live _ _ hm).2 hs
      rw [hh] at e; cases e
  exact ⟨hl, Z, rfl, rfl, U.hr H fun _ => ⟨_, rfl, World.putObj_heap_same hlt⟩, U.ext H⟩

/-- the loop's record is where it was laid -/
theorem lp_mu {X Y : Cx} (E : Ext X Y) {id l : Nat} {o : AObj} (hh : X.h[id]? = some o) (ho : rowO (some o) = none) (hm : X.μ[id]? = some (some l)) : Y.μ[id]? = some (some l) :=
  (E.oth id l (by rw [hh]; exact ho) hm).1

theorem round_ok {X1 : Cx} {t : List (Nat × AV)} {r : Loop} {id l : Nat} {o : AObj} (hps : ∀ i ∈ r.params.toList, i < n) (ho : X1.h[id]? = some o) (hro : rowO (some o) = none) (hmu : X1.μ[id]? = some (some l))
    (R1 : SR n ds X1 t { tmps := r.tmps, defers := [] })
    (ihA : ∀ nf κ t X a Q, Ext X1 X → HR X → SR n ds X t a → W c none r.assign ⟨t, X.h⟩ κ → QOk n ds X κ Q → r.assign.wpIn (FW (some l)) nf P Q a X.w)
    (ihB : ∀ nf κ t X a Q, Ext X1 X → HR X → SR n ds X t a → W c none r.body ⟨t, X.h⟩ κ → QOk n ds X κ Q → r.body.wpIn (FW (some l)) nf P Q a X.w) :
    YOk P X1 l (fun args h' K => roundW r.params.toList (fun t h k => W c none r.assign ⟨t, h⟩ fun e s => k e s.t s.h) (fun t h k => W c none r.body ⟨t, h⟩ fun e s => k e s.t s.h) t id r args h' K) := by
  intro args h K hw X cs EX H hXh hv
  subst hXh
  obtain ⟨hlp, hw⟩ := hw
  obtain ⟨hlen, hw⟩ := argsW_inv hw
  have hm := lp_mu EX ho hro hmu
  obtain ⟨hl, _⟩ := lp_set H hlp hm .busy none
  have hsz : cs.size = r.params.size := by
    have := VVs_length hv
    rw [Array.length_toList, hlen, Array.length_toList] at this
    exact this
  refine ⟨_, _, _, _, run_yield hl hsz, fun nf => roundIn_of_wpIn trivial ?_⟩
  have R0 := putAll_SR (ds := ds) r.params.toList args cs.toList t r.tmps hv hlen hps (R1.ext EX)
  have hz : ((r.params.zip cs).foldl (fun tmps (t, a) => tmps.setIfInBounds t a) r.tmps) = (r.params.toList.zip cs.toList).foldl (fun tmps p => tmps.setIfInBounds p.1 p.2) r.tmps := by
    rw [← Array.foldl_toList, Array.toList_zip]
  rw [← hz] at R0
  refine ihA nf _ _ X _ _ EX H R0 hw fun Y ae t' e a' HY EY hx hk => ?_
  cases ae with
  | exit i => exact hk.elim
  | goto i => exact hk.elim
  | ret => exact hk.elim
  | pan v => exact hk.elim
  | normal =>
    obtain ⟨rfl, RY⟩ := hx
    obtain ⟨hlpY, hk⟩ := hk
    have hmY := lp_mu (EX.trans EY) ho hro hmu
    obtain ⟨hlY, Z, hZw, hZh, HZ, EZ⟩ := lp_set HY hlpY hmY .busy none
    refine ⟨_, run_beginRound hlY rfl, ?_⟩
    have e1 : Y.w.putObj l (.loop { { r with state := .ready, pending := none } with state := .busy }) = Z.w := hZw.symm
    rw [e1]
    rw [← hZh] at hk
    refine ihB nf _ t' Z a' _ ((EX.trans EY).trans EZ) HZ (RY.ext EZ) hk fun V ae t'' e a'' HV EV hx hk => ?_
    have EXV : Ext X V := (EY.trans EZ).trans EV
    have hmV := lp_mu (EX.trans EXV) ho hro hmu
    have fin : ∀ (jump : Option Code) (st : LoopState), (if jump.isNone then LoopState.ready else LoopState.done) = st → lpIs V.h id .busy r ∧ K (.ret (.bool jump.isNone)) (V.h.set id (.lp st jump r)) →
        ∃ v w', (Instr.endRound l jump).run P V.w = .ok v w' ∧ ∃ Y ao, Y.w = w' ∧ HR Y ∧ Ext X Y ∧ OutR Y ao (.returned v) ∧ K ao Y.h := by
      rintro jump st hst ⟨hlpV, hk⟩
      obtain ⟨hlV, U, hUw, hUh, HU, EU⟩ := lp_set HV hlpV hmV st jump
      refine ⟨_, _, run_endRound jump hlV, U, .ret (.bool jump.isNone), ?_, HU, EXV.trans EU, ⟨_, rfl, rfl⟩, ?_⟩
      · rw [hUw, ← hst]
      · rw [hUh]; exact hk
    cases ae with
    | normal => obtain ⟨rfl, _⟩ := hx; exact fin none .ready rfl hk
    | ret => obtain ⟨rfl, _⟩ := hx; exact fin (some .ret) .done rfl hk
    | exit i => obtain ⟨rfl, _⟩ := hx; exact fin (some (.exit i)) .done rfl hk
    | goto i => obtain ⟨rfl, _⟩ := hx; exact fin (some (.goto i)) .done rfl hk
    | pan v => exact hk.elim

theorem noI_is : ISOk P c.noI.iterS := ⟨fun _ _ _ _ _ _ h => h.elim⟩

theorem W_sound (hm : P.follows .mixedOrders = true) {B : Cx} (hbase : ds ≤ B.w.heap.size) :
    ∀ (code : Code) (ro : Option Nat) (c : Ctx) (_ : CtxOk P c) (_ : SOk P c.envS) (_ : c.drawn = false) (_ : ∀ l, YOk P B l (c.envY l)) (_ : ISOk P c.iterS) (_ : ro = none ∨ ∀ f Y a h K, ¬ c.iterS f Y a h K) (nf : Nat) (g : Option Nat) (κ : AExit → St → Prop) (t : List (Nat × AV)) (X : Cx) (a : Act) (Q : Exit → Act → World → Prop) (rest : Code),
      dstOk n code = true → Ext B X → HR X → SR n ds X t a → W c g code ⟨t, X.h⟩ κ → QOk n ds X κ Q → From g code rest → rest.wpIn (FW ro) nf P Q a X.w := by
  intro code
  induction code with
  | skip =>
    intro ro c C CS hdr YY CI hI nf g κ t X a Q rest hd EB H R hw hQ hf
    cases g with
    | none => obtain rfl := hf; exact wpIn_skip (hQ X .normal t _ a H (Ext.refl X) ⟨rfl, R⟩ (by simpa only [W] using hw))
    | some l => simp only [W] at hw
  | ret =>
    intro ro c C CS hdr YY CI hI nf g κ t X a Q rest hd EB H R hw hQ hf
    cases g with
    | none => obtain rfl := hf; exact wpIn_ret (hQ X .ret t _ a H (Ext.refl X) ⟨rfl, R⟩ (by simpa only [W] using hw))
    | some l => simp only [W] at hw
  | exit id =>
    intro ro c C CS hdr YY CI hI nf g κ t X a Q rest hd EB H R hw hQ hf
    cases g with
    | none => obtain rfl := hf; exact wpIn_exit (hQ X (.exit id) t _ a H (Ext.refl X) ⟨rfl, R⟩ (by simpa only [W] using hw))
    | some l => simp only [W] at hw
  | goto l =>
    intro ro c C CS hdr YY CI hI nf g κ t X a Q rest hd EB H R hw hQ hf
    cases g with
    | none => obtain rfl := hf; exact wpIn_goto (hQ X (.goto l) t _ a H (Ext.refl X) ⟨rfl, R⟩ (by simpa only [W] using hw))
    | some l => simp only [W] at hw
  | label l =>
    intro ro c C CS hdr YY CI hI nf g κ t X a Q rest hd EB H R hw hQ hf
    cases g with
    | none => obtain rfl := hf; exact wpIn_label (hQ X .normal t _ a H (Ext.refl X) ⟨rfl, R⟩ (by simpa only [W] using hw))
    | some l' =>
      simp only [From, findLabel] at hf
      split at hf
      · cases hf
        exact wpIn_skip (hQ X .normal t _ a H (Ext.refl X) ⟨rfl, R⟩ (by simpa only [W] using hw))
      · cases hf
  | refuse w => intro ro c C CS hdr YY CI hI nf g κ t X a Q rest hd EB H R hw hQ hf; cases g <;> simp only [W] at hw
  | rangeFunc f ps x y ihx ihy =>
    intro ro c C CS hdr YY CI hI nf g κ t X a Q rest hd EB H R hw hQ hf
    cases g with
    | some l => simp only [W] at hw
    | none =>
      obtain rfl := hf
      simp only [W] at hw
      simp only [dstOk, Bool.and_eq_true] at hd
      obtain ⟨⟨hps, hdx⟩, hdy⟩ := hd
      have hps : ∀ i ∈ ps.toList, i < n := by
        intro i hi
        have := List.all_eq_true.1 hps i hi
        simpa using this
      unfold rangeW rangeX rangeY at hw
      split at hw
      rotate_left
      · exact hw.elim
      rename_i q gf cap hg
      obtain ⟨X', hXw, H', E', hXh⟩ := boxH_sound (gets t (c.loop (firstRegion x)).box) H
      rw [← hXh] at hw
      rw [← hXw]
      replace EB := EB.trans E'
      replace R := R.ext E'
      replace hQ := hQ.ext E'
      replace H := H'
      have hro : ro = none := by
        rcases hI with h | h
        · exact h
        · exact (h _ _ _ _ _ (hw 0 default)).elim
      subst hro
      have hv := R.ev f .func
      rw [hg] at hv
      simp only [VV] at hv
      obtain ⟨ca, cd, hfe, hf1, hf2⟩ := hv
      simp only [VVs, Array.toList_eq_nil_iff] at hf1
      subst hf1
      refine wpIn_rangeFunc fun fn _ => ?_
      obtain ⟨X1, hX1w, H1, E1, hX1h, hX1m, hnm, hnS⟩ := lp_new H (r := { state := .ready, pending := none, fn, tmps := a.tmps, params := ps, assign := x, body := y, defers := X'.w.heap.size }) rfl
      have hlp : X1.h[X'.h.length]? = some (.lp .ready none { state := .ready, pending := none, fn, tmps := a.tmps, params := ps, assign := x, body := y, defers := X'.w.heap.size }) := by
        rw [hX1h]; simp
      have R1 := R.ext E1
      have EB1 := EB.trans E1
      have hyok : YOk P X1 (X'.w.heap.size + 1) _ := round_ok (c := c.noI) (n := n) (ds := ds) (t := t) (r := { state := .ready, pending := none, fn, tmps := a.tmps, params := ps, assign := x, body := y, defers := X'.w.heap.size }) hps hlp rfl hX1m
        ⟨R1.v, R1.size, trivial⟩
        (fun nf κ t X a Q E H R hw hQ => ihx (some (_ + 1)) c.noI ⟨C.tab, C.sh, C.fok⟩ CS hdr YY noI_is (.inr fun _ _ _ _ _ h => h) nf none κ t X a Q x hdx (EB1.trans E) H R hw hQ rfl)
        (fun nf κ t X a Q E H R hw hQ => ihy (some (_ + 1)) c.noI ⟨C.tab, C.sh, C.fok⟩ CS hdr YY noI_is (.inr fun _ _ _ _ _ h => h) nf none κ t X a Q y hdy (EB1.trans E) H R hw hQ rfl)
      have hw := hw (X'.w.heap.size + 1) { state := .ready, pending := none, fn, tmps := a.tmps, params := ps, assign := x, body := y, defers := X'.w.heap.size }
      rw [← hX1h] at hw
      have hargs : VVs X1 (.fn (.yield (X'.w.heap.size + 1)) [] [] :: cap) ((#[] ++ #[Value.func (.yield (X'.w.heap.size + 1)) #[] #[]]) ++ cd).toList := by
        have h1 : VVs X1 [AV.fn (.yield (X'.w.heap.size + 1)) [] []] [Value.func (.yield (X'.w.heap.size + 1)) #[] #[]] := ⟨_, _, rfl, ⟨#[], #[], rfl, rfl, rfl⟩, rfl⟩
        have := VVs_append h1 ((VVs.ext E1) hf2)
        simpa using this
      obtain ⟨hent, hcall⟩ := CI.spec _ _ _ _ _ _ hw X1 _ hyok H1 rfl hargs
      have hres : (resolve a.eval (rangeCall f (X'.w.heap.size + 1)) 0).run P X1.w = .ok { target := .fn (.func gf) cd, args := #[] ++ #[Value.func (.yield (X'.w.heap.size + 1)) #[] #[]] } X1.w := by
        simp only [resolve, rangeCall, hfe, Deferred.ofValue, Sem.run_pure, List.map_toArray, List.map_cons, List.map_nil]
        rfl
      refine ⟨X'.w.heap.size + 1, [{ target := .collected X'.w.heap.size, args := #[] }], X1.w, _, _, gf, _, _, by rw [run_enterLoop_outer, hX1w], hres, fun _ _ => trivial, hent _, fun h => (by cases h), CallsIn.mono (calls_In hcall) fun e w'' he => ?_⟩
      obtain ⟨Y, ao, rfl, HY, EY, hor, hk⟩ := he
      have hdef : DefOk ds Y ({ target := .collected X'.w.heap.size, args := #[] } :: a.defers) := by
        refine DefOk.ext EY ⟨⟨_, rfl, Nat.le_trans hbase EB.grow, ?_, hnm, hnS, fun d' hd' e => ?_⟩, R1.defers⟩
        · rw [hX1w]
          show ((X'.w.heap.push (.deferred (some []))).push _)[X'.w.heap.size]? = _
          rw [Array.getElem?_push, Array.getElem?_push, if_neg (by simp), if_pos rfl]
        · have := R.defers.lt d' hd' e
          exact absurd this (Nat.lt_irrefl _)
      have R2 : SR n ds Y t { a with defers := { target := .collected X'.w.heap.size, args := #[] } :: a.defers } := ⟨(R1.ext EY).v, R.size, hdef⟩
      cases ao with
      | pan v =>
        obtain ⟨q, rfl, hvq⟩ := hor
        exact hQ Y (.pan v) t _ _ HY (E1.trans EY) ⟨⟨q, rfl, hvq⟩, R.size, hdef⟩ hk
      | ret v =>
        obtain ⟨q, rfl, hvq⟩ := hor
        have hmY := lp_mu EY hlp rfl hX1m
        have fin : ∀ (st : LoopState) (pd : Option Code) (r' : Loop), Y.h[X'.h.length]? = some (.lp st pd r') → r' = { state := .ready, pending := none, fn, tmps := a.tmps, params := ps, assign := x, body := y, defers := X'.w.heap.size } → st ≠ .busy →
            ∃ Z : Cx, (Instr.endLoop (X'.w.heap.size + 1)).run P Y.w = .ok pd Z.w ∧ HR Z ∧ Ext X' Z ∧ Z.h = Y.h.set X'.h.length (.lp .exhausted pd r') ∧ SR n ds Z t { a with defers := { target := .collected X'.w.heap.size, args := #[] } :: a.defers } := by
          rintro st pd r' hh rfl hst
          obtain ⟨hl, Z, hZw, hZh, HZ, EZ⟩ := lp_set HY hh hmY .exhausted pd
          exact ⟨Z, by rw [run_endLoop hl hst, hZw], HZ, (E1.trans EY).trans EZ, hZh, R2.ext EZ⟩
        unfold rangeEnd endX endO at hk
        simp only at hk
        split at hk
        · rename_i r' hh
          obtain ⟨Z, hend, HZ, EZ, hZh, RZ⟩ := fin _ _ _ hh hk.1 (by simp)
          rw [hk.1] at hZh
          rw [← hZh] at hk
          exact ⟨none, _, hend, hQ Z .normal t _ _ HZ EZ ⟨rfl, RZ⟩ hk.2⟩
        · rename_i r' hh
          obtain ⟨Z, hend, HZ, EZ, hZh, RZ⟩ := fin _ _ _ hh hk.1 (by simp)
          rw [hk.1] at hZh
          rw [← hZh] at hk
          exact ⟨some .ret, _, hend, wpIn_ret (hQ Z .ret t _ _ HZ EZ ⟨rfl, RZ⟩ hk.2)⟩
        · rename_i i r' hh
          obtain ⟨Z, hend, HZ, EZ, hZh, RZ⟩ := fin _ _ _ hh hk.1 (by simp)
          rw [hk.1] at hZh
          rw [← hZh] at hk
          exact ⟨some (.exit i), _, hend, wpIn_exit (hQ Z (.exit i) t _ _ HZ EZ ⟨rfl, RZ⟩ hk.2)⟩
        · rename_i i r' hh
          obtain ⟨Z, hend, HZ, EZ, hZh, RZ⟩ := fin _ _ _ hh hk.1 (by simp)
          rw [hk.1] at hZh
          rw [← hZh] at hk
          exact ⟨some (.goto i), _, hend, wpIn_goto (hQ Z (.goto i) t _ _ HZ EZ ⟨rfl, RZ⟩ hk.2)⟩
        · exact hk.elim
  | seq x y ihx ihy =>
    intro ro c C CS hdr YY CI hI nf g κ t X a Q rest hd EB H R hw hQ hf
    simp only [dstOk, Bool.and_eq_true] at hd
    have hy : ∀ Y t a, HR Y → Ext X Y → SR n ds Y t a → W c none y ⟨t, Y.h⟩ κ → y.wpIn (FW ro) nf P Q a Y.w :=
      fun Y t a HY EY RY hwy => ihy ro c C CS hdr YY CI hI nf none κ t Y a Q y hd.2 (EB.trans EY) HY RY hwy (hQ.ext EY) rfl
    cases g with
    | none =>
      obtain rfl := hf
      simp only [W] at hw
      exact wpIn_seq (ihx ro c C CS hdr YY CI hI nf none _ t X a _ x hd.1 EB H R hw (seq_Q hQ hy) rfl)
    | some l =>
      simp only [W, hasLabel_eq] at hw
      simp only [From, findLabel] at hf
      cases hfx : findLabel x l with
      | some rx =>
        rw [hfx] at hf hw
        cases hf
        simp only [Option.isSome_some] at hw
        exact wpIn_seq (ihx ro c C CS hdr YY CI hI nf (some l) _ t X a _ rx hd.1 EB H R hw (seq_Q hQ hy) hfx)
      | none =>
        rw [hfx] at hf hw
        simp only [Option.isSome_none] at hw
        exact ihy ro c C CS hdr YY CI hI nf (some l) κ t X a Q rest hd.2 EB H R hw hQ hf
  | cond x p q ihp ihq =>
    intro ro c C CS hdr YY CI hI nf g κ t X a Q rest hd EB H R hw hQ hf
    simp only [dstOk, Bool.and_eq_true] at hd
    cases g with
    | some l => simp only [W] at hw
    | none =>
      obtain rfl := hf
      simp only [W] at hw
      unfold condW at hw
      split at hw
      rotate_left
      · exact hw.elim
      rename_i b hb
      have hv : a.eval x = .bool b := by have := R.ev x .bool; rw [hb] at this; exact this
      exact wpIn_cond_split hv (fun h => ihp ro c C CS hdr YY CI hI nf none κ t X a Q p hd.1 EB H R (hw.1 h) hQ rfl) (fun h => ihq ro c C CS hdr YY CI hI nf none κ t X a Q q hd.2 EB H R (hw.2 h) hQ rfl)
  | block id p ih =>
    intro ro c C CS hdr YY CI hI nf g κ t X a Q rest hd EB H R hw hQ hf
    simp only [dstOk] at hd
    cases g with
    | some l => simp only [W] at hw
    | none =>
      obtain rfl := hf
      simp only [W] at hw
      refine wpIn_block (ih ro c C CS hdr YY CI hI nf none _ t X a _ p hd EB H R hw (fun Y ae t' e a' HY EY hx hk => ?_) rfl)
      cases ae with
      | normal => obtain ⟨rfl, R⟩ := hx; exact hQ Y .normal t' _ a' HY EY ⟨rfl, R⟩ hk
      | exit i =>
        obtain ⟨rfl, R⟩ := hx
        simp only [Exit.inBlock]
        simp only at hk
        by_cases e : i = id
        · subst e
          simp only [Nat.beq_refl] at hk
          rw [if_pos rfl]
          exact hQ Y .normal t' _ a' HY EY ⟨rfl, R⟩ hk
        · have : Nat.beq i id = false := by rw [Bool.eq_false_iff]; intro h; exact e (Nat.eq_of_beq_eq_true h)
          simp only [this] at hk
          rw [if_neg e]
          exact hQ Y (.exit i) t' _ a' HY EY ⟨rfl, R⟩ hk
      | goto i => obtain ⟨rfl, R⟩ := hx; exact hQ Y (.goto i) t' _ a' HY EY ⟨rfl, R⟩ hk
      | ret => obtain ⟨rfl, R⟩ := hx; exact hQ Y .ret t' _ a' HY EY ⟨rfl, R⟩ hk
      | pan v => obtain ⟨⟨q, rfl, hv⟩, h1, h2⟩ := hx; exact hQ Y (.pan v) t' _ a' HY EY ⟨⟨q, rfl, hv⟩, h1, h2⟩ hk
  | scope p ih =>
    intro ro c C CS hdr YY CI hI nf g κ t X a Q rest hd EB H R hw hQ hf
    simp only [dstOk] at hd
    cases g with
    | some l => simp only [W] at hw
    | none =>
      obtain rfl := hf
      simp only [W] at hw
      refine wpIn_scope (fun l a w => ∃ Y t', Y.w = w ∧ HR Y ∧ Ext X Y ∧ SR n ds Y t' a ∧ W c (some l) p ⟨t', Y.h⟩ fun e st' => match e with
          | .goto _ => False
          | e => κ e st') (ih ro c C CS hdr YY CI hI nf none _ t X a _ p hd EB H R hw (fun Y ae t' e a' HY EY hx hk => ?_) rfl) ?_
      · cases ae with
        | normal => obtain ⟨rfl, R⟩ := hx; exact hQ Y .normal t' _ a' HY EY ⟨rfl, R⟩ hk
        | exit i => obtain ⟨rfl, R⟩ := hx; exact hQ Y (.exit i) t' _ a' HY EY ⟨rfl, R⟩ hk
        | goto l =>
          obtain ⟨rfl, R⟩ := hx
          simp only [hasLabel_eq] at hk
          simp only [jumpS]
          cases hl : (findLabel p l).isSome with
          | true => rw [hl] at hk; rw [if_pos rfl]; exact ⟨Y, t', rfl, HY, EY, R, hk⟩
          | false => rw [hl] at hk; rw [if_neg (by simp)]; exact hQ Y (.goto l) t' _ a' HY EY ⟨rfl, R⟩ hk
        | ret => obtain ⟨rfl, R⟩ := hx; exact hQ Y .ret t' _ a' HY EY ⟨rfl, R⟩ hk
        | pan v => obtain ⟨⟨q, rfl, hv⟩, h1, h2⟩ := hx; exact hQ Y (.pan v) t' _ a' HY EY ⟨⟨q, rfl, hv⟩, h1, h2⟩ hk
      · rintro l rest a w hl ⟨Y, t', rfl, HY, EY, RY, hwy⟩
        refine ih ro c C CS hdr YY CI hI nf (some l) _ t' Y a _ rest hd (EB.trans EY) HY RY hwy (fun Z ae t'' e a' HZ EZ hx hk => ?_) hl
        cases ae with
        | normal => obtain ⟨rfl, R⟩ := hx; exact hQ Z .normal t'' _ a' HZ (EY.trans EZ) ⟨rfl, R⟩ hk
        | exit i => obtain ⟨rfl, R⟩ := hx; exact hQ Z (.exit i) t'' _ a' HZ (EY.trans EZ) ⟨rfl, R⟩ hk
        | goto l => exact hk.elim
        | ret => obtain ⟨rfl, R⟩ := hx; exact hQ Z .ret t'' _ a' HZ (EY.trans EZ) ⟨rfl, R⟩ hk
        | pan v => obtain ⟨⟨q, rfl, hv⟩, h1, h2⟩ := hx; exact hQ Z (.pan v) t'' _ a' HZ (EY.trans EZ) ⟨⟨q, rfl, hv⟩, h1, h2⟩ hk
  | loop p ih =>
    intro ro c C CS hdr YY CI hI nf g κ t X a Q rest hd EB H R hw hQ hf
    simp only [dstOk] at hd
    cases g with
    | some l => simp only [W] at hw
    | none =>
      obtain rfl := hf
      simp only [W] at hw
      obtain ⟨X', hXw, H', E', hXh⟩ := boxH_sound (gets t (c.loop (firstRegion p)).box) H
      rw [← hXh] at hw
      rw [← hXw]
      replace EB := EB.trans E'
      replace R := R.ext E'
      replace hQ := hQ.ext E'
      clear H
      have H := H'
      obtain ⟨Y, us, hYw, HY, EY, TY, hw⟩ := promV_sound _ _ H (TV.of_gets R (c.loop (firstRegion p)).live) hw
      rw [← hYw]
      obtain ⟨I, ⟨m0, hI0⟩, hround⟩ := hw
      -- the constants
      have TC0 : TV Y a (c.loop (firstRegion p)).const (gets t (c.loop (firstRegion p)).const) := (TV.of_gets R _).ext EY
      have TC : TV (Y.drop Y.h.length) a (c.loop (firstRegion p)).const (AV.norms Y.h.length Y.h (gets t (c.loop (firstRegion p)).const)) := TC0.norm HY
      refine wpIn_loop_n (fun m a w => ∃ Z vs, Z.w = w ∧ HR Z ∧ Ext Y Z ∧ TV Z a (c.loop (firstRegion p)).live vs ∧
          TV Z a (c.loop (firstRegion p)).const (AV.norms Y.h.length Y.h (gets t (c.loop (firstRegion p)).const)) ∧ n ≤ a.tmps.size ∧ DefOk ds Z a.defers ∧ I m vs Z.h) m0
        ⟨Y.drop Y.h.length, _, rfl, drop_hr HY, drop_ext HY (Ext.refl Y) (Nat.le_refl _), TY.norm HY, TC, R.size, (R.defers.ext EY).drop, hI0⟩ ?_
      rintro m a1 w1 ⟨Z, vs, rfl, HZ, EZ, T1, T2, hs, hdf, hIm⟩
      have hb := forallV_inst (hround m Z.h) vs T1.len hIm
      refine ih ro c C CS hdr YY CI hI nf none _ _ Z a1 _ p hd (EB.trans (EY.trans EZ)) HZ (SR.of_TV T1 T2 hs hdf) hb (fun V ae t' e a' HV EV hx hk => ?_) rfl
      cases ae with
      | normal =>
        obtain ⟨rfl, R'⟩ := hx
        obtain ⟨⟨m', hlt, hI'⟩, hconst⟩ := hk
        refine ⟨m', hlt, V.drop Y.h.length, _, rfl, drop_hr HV, drop_ext HY (EZ.trans EV) (Nat.le_refl _), (TV.of_gets R' _).norm HV, ?_, R'.size, R'.defers.drop, hI'⟩
        have := (TV.of_gets R' (c.loop (firstRegion p)).const).norm HV (m := Y.h.length)
        rw [hconst] at this
        exact this
      | exit i => obtain ⟨rfl, R'⟩ := hx; exact hQ V (.exit i) t' _ a' HV (EY.trans (EZ.trans EV)) ⟨rfl, R'⟩ hk
      | goto l => obtain ⟨rfl, R'⟩ := hx; exact hQ V (.goto l) t' _ a' HV (EY.trans (EZ.trans EV)) ⟨rfl, R'⟩ hk
      | ret => obtain ⟨rfl, R'⟩ := hx; exact hQ V .ret t' _ a' HV (EY.trans (EZ.trans EV)) ⟨rfl, R'⟩ hk
      | pan v => obtain ⟨⟨q, rfl, hv⟩, h1, h2⟩ := hx; exact hQ V (.pan v) t' _ a' HV (EY.trans (EZ.trans EV)) ⟨⟨q, rfl, hv⟩, h1, h2⟩ hk
  | region id ops draw =>
    intro ro c C CS hdr YY CI hI nf g κ t X a Q rest hd EB H R hw hQ hf
    cases g with
    | some l => simp only [W] at hw
    | none =>
      obtain rfl := hf
      have hds : ∀ o ∈ ops.toList, ∀ i, o.dst = some i → i < n := by
        intro o ho i hi
        simp only [dstOk, List.all_eq_true] at hd
        have := hd o ho
        rw [hi] at this
        simpa using this
      simp only [W] at hw
      cases draw with
      | false =>
        refine wpIn_region_list (cutsW_sound C CS hdr YY nf ops _ ops.toList t X a hds EB H R hw (fun Y t' a' HY EY RY hk => hQ Y .normal t' _ a' HY EY ⟨rfl, RY⟩ hk)
          (fun Y v q a' HY EY h1 h2 hk hv => hQ Y (.pan v) t _ a' HY EY ⟨⟨q, rfl, hv⟩, h1, h2⟩ hk))
      | true =>
        simp only at hw
        split at hw
        · exact hw.elim
        · rename_i hok
          exact region_draw C hm nf H R hds hok hw fun Y t' a' HY EY RY hk => hQ Y .normal t' _ a' HY EY ⟨rfl, RY⟩ hk
end

end Lam
set_option linter.unnecessarySimpa false
set_option linter.unusedSectionVars false
set_option linter.unusedSimpArgs false
set_option linter.unusedVariables false
namespace Lam
open Go

/-- what the tables and contracts must be -/
structure OkI (P : Program) (c : Ctx) : Prop where
  ok : CtxOk P c
  s : SOk P c.envS
  plain : c.drawn = false
  mixed : P.follows .mixedOrders = true
  i : ISOk P c.iterS

/-- and no call of yield -/
structure Ok (P : Program) (c : Ctx) : Prop extends OkI P c where
  y : ∀ l args h K, ¬ c.envY l args h K

theorem yok_none {P : Program} {X : Cx} {l : Nat} {Y : Con} (h : ∀ args h K, ¬ Y args h K) : YOk P X l Y := fun _ _ _ hw => (h _ _ _ hw).elim

section
variable {P : Program} {c : Ctx}

theorem init_get {X : Cx} : ∀ {i : Nat} {vs : List AV} {cs : List Value} (j : Nat), VVs X vs cs → i ≤ j → VV X (get (init i vs) j) ((cs[j - i]?).getD undef)
  | _, [], _, _, _, _ => trivial
  | i, v :: r, cs, j, h, hj => by
    simp only [VVs] at h
    obtain ⟨c, d, rfl, h1, h2⟩ := h
    have e : get (init i (v :: r)) j = if i = j then v else get (init (i + 1) r) j := get_put (init (i + 1) r) i j v
    rw [e]
    by_cases hij : i = j
    · subst hij; simp [h1]
    · rw [if_neg hij]
      have := init_get (i := i + 1) j h2 (by omega)
      have e2 : j - i = (j - (i + 1)) + 1 := by omega
      rw [e2, List.getElem?_cons_succ]
      exact this

theorem init_SR {X : Cx} {vs : List AV} {cs : Array Value} {n ds : Nat} (h : VVs X vs cs.toList) (hn : vs.length ≤ n) : SR n ds X (init 0 vs) { tmps := cs ++ Array.replicate (n - cs.size) undef, defers := [] } := by
  have hl : cs.size = vs.length := by rw [← Array.length_toList]; exact VVs_length h
  refine ⟨fun i => ?_, by simp; omega, trivial⟩
  have := init_get (i := 0) i h (Nat.zero_le _)
  simp only [Nat.sub_zero] at this
  have e : (cs ++ Array.replicate (n - cs.size) undef).getD i undef = (cs.toList[i]?).getD undef := by
    rw [Array.getD_eq_getD_getElem?, Array.getElem?_append, Array.getElem?_toList]
    by_cases hi : i < cs.size
    · rw [if_pos hi]
    · have h2 : cs[i]? = none := Array.getElem?_eq_none (by omega)
      rw [if_neg hi, h2, Array.getElem?_replicate]
      split <;> rfl
  rw [e]; exact this

theorem loadRes_inv {x : D} {K : AV → Prop} (h : loadRes x K) : ∃ S v news, x = some (S, v, news) ∧ S ∧ K v := by
  unfold loadRes at h
  split at h
  · exact ⟨_, _, _, rfl, h.1, h.2⟩
  · exact h.elim

def resV (tmps : Array Value) : ResultVar → Sem Value
  | .tmp t => pure (tmps.getD t undef)
  | .cell a t => do loadVar t (← asAddr (tmps.getD a undef))

theorem results_eq (fn : Func) (tmps : Array Value) : results fn tmps = (do
    let vs ← fn.results.mapM (resV tmps)
    pure (if h : vs.size = 1 then vs[0] else .tuple vs)) := rfl

theorem res_sound (tab : TabOk P c.tab) {X : Cx} (H : HR X) {n ds : Nat} {t : List (Nat × AV)} {a : Act} (R : SR n ds X t a) : ∀ (l : List ResultVar) {K : List AV → Prop}, resW c X.h t l K →
    ∃ vs cs, K vs ∧ VVs X vs cs ∧ (l.mapM (resV a.tmps)).run P X.w = .ok cs X.w
  | [], K, h => ⟨[], [], h, rfl, rfl⟩
  | .tmp i :: r, K, h => by
    simp only [resW] at h
    obtain ⟨vs, cs, hK, hv, hr⟩ := res_sound tab H R r h
    refine ⟨_, a.tmps.getD i undef :: cs, hK, ⟨_, _, rfl, R.v i, hv⟩, ?_⟩
    have h1 : (resV a.tmps (.tmp i)).run P X.w = .ok (a.tmps.getD i undef) X.w := rfl
    simp only [List.mapM_cons, Sem.run_bind, h1, Sem.run_pure, Result.andThen_ok, hr]
  | .cell b T :: r, K, h => by
    simp only [resW] at h
    obtain ⟨S, v, news, e, hS, h⟩ := loadRes_inv h
    obtain ⟨S', e', rfl⟩ := fitD_inv e
    obtain ⟨vs, cs, hK, hv, hr⟩ := res_sound tab H R r h
    obtain ⟨_, hl⟩ := loadD_sound H e' hS.1 (R.v b)
    obtain ⟨q, hq, hqv⟩ := run_loadAt (P := P) (tab T) hS.2 hl
    obtain ⟨ad, cs', hp, _⟩ := hl
    refine ⟨_, q :: cs, hK, ⟨_, _, rfl, hqv, hv⟩, ?_⟩
    have hq' : (loadVar T ad).run P X.w = .ok q X.w := by
      rw [hp] at hq
      simpa [Instr.loadAt, Instr.sureAddr] using hq
    have h1 : (resV a.tmps (.cell b T)).run P X.w = .ok q X.w := by
      simp only [resV, hp, asAddr, Sem.run_bind, Sem.run_pure, Result.andThen_ok, hq']
    simp only [List.mapM_cons, Sem.run_bind, h1, Sem.run_pure, Result.andThen_ok, hr]

theorem tupled_VV {X : Cx} {vs : List AV} {cs : List Value} (h : VVs X vs cs) : VV X (tupled vs) (if h : cs.toArray.size = 1 then cs.toArray[0] else .tuple cs.toArray) := by
  have hl := VVs_length h
  cases vs with
  | nil => simp only [VVs] at h; subst h; exact ⟨#[], by simp, by simp [VVs]⟩
  | cons v r =>
    cases r with
    | nil =>
      obtain ⟨q, rfl, hv⟩ := VVs1 h
      simpa [tupled] using hv
    | cons u r' =>
      have : ¬ cs.toArray.size = 1 := by simp only [List.size_toArray]; rw [hl]; simp
      rw [dif_neg this]
      show VV X (.tup (v :: u :: r')) _
      exact ⟨cs.toArray, rfl, by simpa using h⟩

/-- the marks among the deferred calls go by: their blocks are shut -/
theorem leave_marks {F : Fence} {nf : Nat} {fn : Func} {tmps : Array Value} {R : Ending → World → Prop} {u : FrameMode} (hu : u ≠ .run) {X0 : Cx} : ∀ (ds : List Deferred) (Y : Cx), DefOk X0.w.heap.size Y ds → HR Y → Ext X0 Y →
    (∀ Z : Cx, HR Z → Ext X0 Z → ExtV Y Z → Z.h = Y.h → LeavesIn F nf P fn tmps R [] u Z.w) → LeavesInM F nf P fn tmps R ds u Y.w
  | [], Y, _, H, E, h => h Y H E (Ext.refl Y).v rfl
  | d :: ds, Y, ⟨⟨r, e, h1, h2, h3, h4, h5⟩, hd⟩, H, E, h => by
    refine ⟨hu, .inl ⟨r, _, by rw [e], run_takeDeferred h2, ?_⟩⟩
    let Z : Cx := ⟨Y.S, Y.μ, Y.h, Y.w.putObj r (.deferred none)⟩
    have hz : ∀ b, b ≠ r → Z.w.heap[b]? = Y.w.heap[b]? := fun b hb => World.putObj_heap_other hb
    have hsz : Z.w.heap.size = Y.w.heap.size := World.putObj_size
    have EV : ExtV Y Z := by
      refine ⟨fun _ h => h, fun b hb => hz b (by rintro rfl; exact h4 hb), fun i k ver l hl => ⟨k, ver, l, hl, Nat.le_refl _, fun _ => ⟨rfl, rfl, fun b hb => ⟨hb, ?_⟩⟩, fun h => ⟨h, rfl⟩⟩, fun i b q1 q2 => ⟨q2, q1⟩⟩
      have : b ≠ r := by rintro rfl; exact h3 i hb
      unfold blockSize; rw [hz b this]; exact Nat.le_refl _
    have HZ : HR Z := by
      refine ⟨H.len, fun i o ho => ?_, H.apart, fun i b hb => ?_, fun b hb => by rw [hsz]; exact H.old b hb⟩
      · obtain ⟨b, hb, hor⟩ := H.obj i o ho
        exact ⟨b, hb, hor.extV EV fun k hk => hz k (by rintro rfl; subst hk; exact h3 i hb)⟩
      · rw [hsz]; exact H.live i b hb
    have EZ : Ext X0 Z := by
      refine ⟨E.S, fun b hb => ?_, E.new, E.muinv, fun b hb hn => ?_, by rw [hsz]; exact E.grow, fun i k ver l hl => ?_, E.oth, E.env⟩
      · rw [hz b (by rintro rfl; exact h4 (E.S _ hb))]; exact E.cells b hb
      · rw [hz b (by omega)]; exact E.keep b hb hn
      · obtain ⟨k', ver', l', q1, q2, q3, q4⟩ := E.row i k ver l hl
        refine ⟨k', ver', l', q1, q2, fun e => ?_, q4⟩
        obtain ⟨p1, p2, p3⟩ := q3 e
        refine ⟨p1, p2, fun b hb => ?_⟩
        obtain ⟨p4, p5⟩ := p3 b hb
        refine ⟨p4, ?_⟩
        have : b ≠ r := by rintro rfl; exact h3 i p4
        have e2 : blockSize Z.w b = blockSize Y.w b := by unfold blockSize; rw [hz b this]
        rw [e2]; exact p5
    have hd' : DefOk X0.w.heap.size Z ds := by
      clear h
      induction ds with
      | nil => trivial
      | cons d' ds ih =>
        obtain ⟨⟨r', e', q1, q2, q3, q4, q5⟩, hd2⟩ := hd
        have hne : r' ≠ r := by
          rintro rfl
          exact h5 d' (by simp) (by rw [e'])
        exact ⟨⟨r', e', q1, by rw [hz r' hne]; exact q2, q3, q4, q5⟩, ih (fun d hd => h5 d (by simp [hd])) hd2⟩
    exact leave_marks hu ds Z hd' HZ EZ fun V HV EV1 EV2 hh => h V HV EV1 (EV.trans EV2) (by rw [hh])

/-- a function's contract -/
theorem fun_soundY (O : OkI P c) {f : FuncId} {fn : Func} (hf : P.funcs[f]? = some fn) {vs : List AV} {cs : Array Value} {X : Cx} (YY : ∀ l, YOk P X l (c.envY l)) (H : HR X) (hv : VVs X vs cs.toList) {K : AOut → List AObj → Prop} (hw : funW c fn vs X.h K) :
    Calls P f cs X.w fun e w' => ∃ Y ao, Y.w = w' ∧ HR Y ∧ Ext X Y ∧ OutR Y ao e ∧ K ao Y.h := by
  unfold funW at hw
  split at hw
  · exact hw.elim
  rename_i body hb
  split at hw
  rotate_left
  · exact hw.elim
  rename_i hok
  simp only [Bool.and_eq_true] at hok
  have hlen : vs.length ≤ fn.ntmps := Nat.le_of_ble_eq_true hok.2
  have fin : ∀ (Y : Cx) (t : List (Nat × AV)) (a : Act), HR Y → Ext X Y → SR fn.ntmps X.w.heap.size Y t a → resW c Y.h t fn.results.toList (fun vs => K (.ret (tupled vs)) Y.h) →
      LeavesInM (FW none) 0 P fn a.tmps (fun e w' => ∃ Y ao, Y.w = w' ∧ HR Y ∧ Ext X Y ∧ OutR Y ao e ∧ K ao Y.h) a.defers .returning Y.w := by
    intro Y t a HY EY R hr
    refine leave_marks (by simp) a.defers Y R.defers HY EY fun Z HZ EZ EV hZh => ?_
    have RZ : SR fn.ntmps X.w.heap.size Z t { tmps := a.tmps, defers := [] } := ⟨fun i => (R.v i).extV EV, R.size, trivial⟩
    rw [← hZh] at hr
    obtain ⟨us, ds, hK, hus, hrun⟩ := res_sound O.ok.tab HZ RZ _ hr
    refine ⟨(if h : ds.toArray.size = 1 then ds.toArray[0] else .tuple ds.toArray), ?_, Z, .ret (tupled us), rfl, HZ, EZ, ⟨_, rfl, tupled_VV hus⟩, hK⟩
    rw [results_eq, Array.mapM_eq_mapM_toList]
    simp only [Sem.run_bind, Sem.run_map, hrun, Result.andThen_ok, Sem.run_pure]
  have hwp := W_sound (n := fn.ntmps) (ds := X.w.heap.size) O.mixed (B := X) (Nat.le_refl _) body none c O.ok O.s O.plain YY O.i (.inl rfl) 0 none _ (init 0 vs) X _ (bodyPostM (FW none) 0 P fn fun e w' => ∃ Y ao, Y.w = w' ∧ HR Y ∧ Ext X Y ∧ OutR Y ao e ∧ K ao Y.h) body hok.1 (Ext.refl X) H (init_SR hv hlen) hw
    (fun Y ae t' e a' HY EY hx hk => by
      cases ae with
      | normal => obtain ⟨rfl, R⟩ := hx; exact fin Y t' a' HY EY R hk
      | ret => obtain ⟨rfl, R⟩ := hx; exact fin Y t' a' HY EY R hk
      | exit i => exact hk.elim
      | goto i => exact hk.elim
      | pan v =>
        obtain ⟨⟨q, rfl, hvq⟩, h1, h2⟩ := hx
        exact leave_marks (by simp) a'.defers Y h2 HY EY fun Z HZ EZ EV hZh => ⟨Z, .pan v, rfl, HZ, EZ, ⟨q, rfl, hvq.extV EV⟩, by rw [hZh]; exact hk⟩) rfl
  exact (callsIn_wide (n := 0)).1 (callsIn_of_wp_marks (F := FW none) hf hb trivial hwp)

theorem fun_sound (O : Ok P c) {f : FuncId} {fn : Func} (hf : P.funcs[f]? = some fn) {vs : List AV} {cs : Array Value} {X : Cx} (H : HR X) (hv : VVs X vs cs.toList) {K : AOut → List AObj → Prop} (hw : funW c fn vs X.h K) :
    Calls P f cs X.w fun e w' => ∃ Y ao, Y.w = w' ∧ HR Y ∧ Ext X Y ∧ OutR Y ao e ∧ K ao Y.h :=
  fun_soundY O.toOkI hf (fun l => yok_none (O.y l)) H hv hw

end

end Lam
set_option linter.unnecessarySimpa false
set_option linter.unusedSectionVars false
set_option linter.unusedSimpArgs false
set_option linter.unusedVariables false
namespace Lam
open Go

/-- a law's outcome -/
def Told (ao : AOut) (h : List AObj) : Prop := ao = .ret (.bool true)

abbrev Contract := List AV → Option (Bool × D)

/-- a function's contract by value -/
structure FSpec (P : Program) (f : FuncId) (C : Contract) : Prop where
  enter : ∀ (args : Array Value) (w : World), (callFunc f args).run P w = .ok (.enter f args) w
  spec : ∀ vs b S v news, C vs = some (b, some (S, v, news)) → S → ∀ (X0 : Cx) (cs : Array Value), X0.h = [] → X0.μ = [] → HR X0 → VVs X0 vs cs.toList →
    Calls P f cs X0.w (Ends X0 b v news)

/-- a function that is looked into -/
structure SSpec (P : Program) (f : FuncId) (C : Con) : Prop where
  spec : ∀ args h K, C args h K → ∀ (X : Cx) (cs : Array Value), HR X → X.h = h → VVs X args cs.toList →
    (∀ w, (callFunc f cs).run P w = .ok (.enter f cs) w) ∧
      Calls P f cs X.w fun e w' => ∃ Y ao, Y.w = w' ∧ HR Y ∧ Ext X Y ∧ OutR Y ao e ∧ K ao Y.h

/-- a function that is ranged over, and looked into -/
structure ISpec (P : Program) (f : FuncId) (C : Con → Con) : Prop where
  spec : ∀ Yc l cap h K, C Yc (.fn (.yield l) [] [] :: cap) h K → ∀ (X : Cx) (cs : Array Value), YOk P X l Yc → HR X → X.h = h → VVs X (.fn (.yield l) [] [] :: cap) cs.toList →
    (∀ w, (callFunc f cs).run P w = .ok (.enter f cs) w) ∧
      Calls P f cs X.w fun e w' => ∃ Y ao, Y.w = w' ∧ HR Y ∧ Ext X Y ∧ OutR Y ao e ∧ K ao Y.h

def lookI : List (FuncId × (Con → Con)) → FuncId → Con → Con
  | [], _ => fun _ _ _ _ => False
  | (g, C) :: r, f => match Nat.beq f g with
    | true => C
    | false => lookI r f

def lookF : List (FuncId × Contract) → FuncId → Contract
  | [], _ => fun _ => none
  | (g, C) :: r, f => match Nat.beq f g with
    | true => C
    | false => lookF r f

def lookS : List (FuncId × Con) → FuncId → Con
  | [], _ => fun _ _ _ => False
  | (g, C) :: r, f => match Nat.beq f g with
    | true => C
    | false => lookS r f

theorem fok_look {P : Program} : ∀ {l : List (FuncId × Contract)}, (∀ p ∈ l, FSpec P p.1 p.2) → FOk P (lookF l)
  | [], _ => ⟨fun f vs r h => by simp [lookF] at h, fun f vs b S v news h => by simp [lookF] at h⟩
  | (g, C) :: r, h => by
    have ih := fok_look (P := P) (l := r) fun p hp => h p (by simp [hp])
    have h0 := h (g, C) (by simp)
    refine ⟨fun f vs q e => ?_, fun f vs b S v news e => ?_⟩
    · cases hb : Nat.beq f g with
      | true =>
        simp only [lookF, hb] at e
        obtain rfl := Nat.eq_of_beq_eq_true hb
        exact h0.enter
      | false =>
        simp only [lookF, hb] at e
        exact ih.enter f vs q e
    · cases hb : Nat.beq f g with
      | true =>
        simp only [lookF, hb] at e
        obtain rfl := Nat.eq_of_beq_eq_true hb
        exact h0.spec vs b S v news e
      | false =>
        simp only [lookF, hb] at e
        exact ih.spec f vs b S v news e

theorem sok_look {P : Program} : ∀ {l : List (FuncId × Con)}, (∀ p ∈ l, SSpec P p.1 p.2) → SOk P (lookS l)
  | [], _ => ⟨fun f args h K e => by simp [lookS] at e⟩
  | (g, C) :: r, h => by
    have ih := sok_look (P := P) (l := r) fun p hp => h p (by simp [hp])
    have h0 := h (g, C) (by simp)
    refine ⟨fun f args hh K e => ?_⟩
    cases hb : Nat.beq f g with
    | true =>
      simp only [lookS, hb] at e
      obtain rfl := Nat.eq_of_beq_eq_true hb
      exact h0.spec args hh K e
    | false =>
      simp only [lookS, hb] at e
      exact ih.spec f args hh K e

theorem isok_look {P : Program} : ∀ {l : List (FuncId × (Con → Con))}, (∀ p ∈ l, ISpec P p.1 p.2) → ISOk P (lookI l)
  | [], _ => ⟨fun f Yc l cap h K e => by simp [lookI] at e⟩
  | (g, C) :: r, h => by
    have ih := isok_look (P := P) (l := r) fun p hp => h p (by simp [hp])
    have h0 := h (g, C) (by simp)
    refine ⟨fun f Yc l cap hh K e => ?_⟩
    cases hb : Nat.beq f g with
    | true =>
      simp only [lookI, hb] at e
      obtain rfl := Nat.eq_of_beq_eq_true hb
      exact h0.spec Yc l cap hh K e
    | false =>
      simp only [lookI, hb] at e
      exact ih.spec f Yc l cap hh K e

theorem is_none {P : Program} : ISOk P fun _ _ _ _ _ => False := ⟨fun _ _ _ _ _ _ h => h.elim⟩

/-- the end of a function, by value, or as a new row -/
def Post (b : Bool) (v : AV) (news : List AObj) (ao : AOut) (h : List AObj) : Prop :=
  ∃ v', ao = .ret v' ∧ match b with
    | false => (v'.val h = some v ∨ v' = v) ∧ v.closed = true
    | true => (∃ x x' id ver len k l, v' = .sref x id ver 0 len ∧ h[id]? = some (.row k ver l) ∧ k ≠ .fro ∧ v = .sref x' 0 0 0 len ∧ (x' = true → x = true) ∧ news = [.row .own 0 l]) ∨
      ∃ l, v' = .sl true l ∧ l.len = 0 ∧ v = .sref false 0 0 0 0 ∧ news = [.row .own 0 l]

theorem post_val {v v' : AV} {h : List AObj} (e : v'.val h = some v) (hc : v.closed = true) : Post false v [] (.ret v') h := ⟨v', rfl, .inl e, hc⟩
theorem post_same {v : AV} {h : List AObj} (hc : v.closed = true) : Post false v [] (.ret v) h := ⟨v, rfl, .inr rfl, hc⟩
theorem post_row {x : Bool} {id ver len : Nat} {k : RK} {l : Lst} {h : List AObj} (hh : h[id]? = some (.row k ver l)) (hk : k ≠ .fro) : Post true (.sref false 0 0 0 len) [.row .own 0 l] (.ret (.sref x id ver 0 len)) h :=
  ⟨_, rfl, .inl ⟨x, false, id, ver, len, k, l, rfl, hh, hk, rfl, fun h => (by cases h), rfl⟩⟩
theorem post_nil {l : Lst} {h : List AObj} (hl : l.len = 0) : Post true (.sref false 0 0 0 0) [.row .own 0 l] (.ret (.sl true l)) h := ⟨_, rfl, .inr ⟨l, rfl, hl, rfl, rfl⟩⟩

section
variable {P : Program}

theorem Post.ends {X0 Y : Cx} (HX : HR X0) (Hh : X0.h = []) (H0 : X0.μ = []) (HY : HR Y) (E : Ext X0 Y) {b : Bool} {v : AV} {news : List AObj} {ao : AOut} {e : Ending} (ho : OutR Y ao e) (hp : Post b v news ao Y.h) : Ends X0 b v news e Y.w := by
  obtain ⟨v', rfl, hp⟩ := hp
  obtain ⟨c, rfl, hv⟩ := ho
  refine ⟨c, rfl, ?_⟩
  cases b with
  | false =>
    obtain ⟨he, hc⟩ := hp
    rcases he with he | rfl
    rotate_left
    · exact ⟨Y, rfl, HY, E, hc, hv⟩
    obtain ⟨H1, E1⟩ := fro_ok HY (ids := v'.rows) (fun id hid => VV_rows hv id hid)
    exact ⟨Y.fro v'.rows, rfl, H1, E.trans E1, hc, valV HY (Y := Y.fro v'.rows) (fun b h => .inl h) (fun _ _ => rfl) (fun id hid b hb => ⟨.inr ⟨id, hid, hb⟩, rfl⟩) he hc hv⟩
  | true =>
    obtain ⟨Y, hYw, HY, E, x, x', id, ver, len, k, l, hv, hh, hk, rfl, hx, rfl⟩ : ∃ Y' : Cx, Y'.w = Y.w ∧ HR Y' ∧ Ext X0 Y' ∧ ∃ x x' id ver len k l, VV Y' (.sref x id ver 0 len) c ∧ Y'.h[id]? = some (.row k ver l) ∧ k ≠ .fro ∧ v = .sref x' 0 0 0 len ∧ (x' = true → x = true) ∧ news = [.row .own 0 l] := by
      rcases hp with ⟨x, x', id, ver, len, k, l, rfl, hh, hk, hv', hx, hn⟩ | ⟨l, rfl, hl, hv', hn⟩
      · exact ⟨Y, rfl, HY, E, x, x', id, ver, len, k, l, hv, hh, hk, hv', hx, hn⟩
      · obtain ⟨Z, hw, HZ, EZ, hh, hz⟩ := prom_one HY hl hv
        exact ⟨Z, hw, HZ, E.trans EZ, false, false, _, 0, 0, .own, l, hz, by rw [hh]; simp, by simp, hv', id, hn⟩
    rw [← hYw]
    obtain ⟨b, hb, hor⟩ := HY.obj _ _ hh
    have hbS : ∀ q, b = some q → ¬ Y.S q := by
      rintro q rfl hs
      obtain ⟨ver', l', e⟩ := (HY.live _ _ hb).2 hs
      rw [hh] at e; cases e; exact hk rfl
    have hOR : ∀ Z : Cx, Z.w = Y.w → OR Z b (.row .own 0 l) := by
      intro Z hZ
      rcases hor with ⟨h1, h2, _⟩ | ⟨b', cs, elem, h1, h2, h3, _⟩
      · exact .inl ⟨h1, h2, by simp⟩
      · exact .inr ⟨b', cs, elem, h1, by rw [hZ]; exact h2, h3, fun h => by cases h⟩
    have hHR : ∀ S : Nat → Prop, (∀ q, S q → X0.S q) → HR ⟨S, [b], [.row .own 0 l], Y.w⟩ := by
      intro S hS
      refine ⟨rfl, fun i o ho => ?_, fun i j q h1 h2 => ?_, fun i q hq => ?_, fun q hq => Nat.lt_of_lt_of_le (HX.old q (hS q hq)) E.grow⟩
      · cases i with
        | zero => simp only [List.getElem?_cons_zero, Option.some.injEq] at ho; subst ho; exact ⟨b, rfl, hOR _ rfl⟩
        | succ i => simp at ho
      · cases i <;> cases j <;> simp at h1 h2 ⊢
      · cases i with
        | zero =>
          simp only [List.getElem?_cons_zero, Option.some.injEq] at hq
          exact ⟨(HY.live id q (by rw [hb, hq])).1, fun hs => (hbS q hq (E.S q (hS q hs))).elim⟩
        | succ i => simp at hq
    have EZ : Ext X0 ⟨X0.S, [b], [.row .own 0 l], Y.w⟩ := by
      refine ⟨fun _ h => h, E.cells, fun b h => .inl h, fun i q hq => ?_, E.keep, E.grow, fun i k ver l hl => ?_, fun i q h1 h2 => ?_, E.env⟩
      · cases i with
        | zero =>
          simp only [List.getElem?_cons_zero, Option.some.injEq] at hq
          rcases E.muinv id q (by rw [hb, hq]) with h | h
          · rw [H0] at h; simp at h
          · exact .inr h
        | succ i => simp at hq
      · rw [Hh] at hl; cases hl
      · rw [H0] at h2; simp at h2
    refine ⟨⟨X0.S, [b], [.row .own 0 l], Y.w⟩, rfl, hHR _ (fun _ h => h), EZ, rfl, fun o ho => ?_, rfl, hHR _ (fun _ h => h.elim), ?_⟩
    · simp only [List.mem_singleton] at ho; subst ho; rfl
    · obtain ⟨a, n, cap, rfl, k', ver', l', hl', hle, g⟩ := hv
      rw [hh] at hl'; cases hl'
      obtain ⟨rfl, g2, g3, g4, g5, g6⟩ := g rfl
      refine ⟨a, n, cap, rfl, .own, 0, l, rfl, Nat.le_refl _, fun _ => ⟨rfl, g2, g3, fun h => g4 (hx h), g5, fun hn => ?_⟩⟩
      obtain ⟨q, q1, q2, q3⟩ := g6 hn
      refine ⟨q, ?_, q2, q3⟩
      rw [hb] at q1
      simpa using q1

theorem enter_of {f : FuncId} {fn : Func} (hf : P.funcs[f]? = some fn) (hn : (fn.name == "runtime.NumGoroutine") = false) (hb : fn.body.isNone = false) (args : Array Value) (w : World) :
    (callFunc f args).run P w = .ok (.enter f args) w := by
  simp only [callFunc, Sem.run_bind, run_program, Result.andThen_ok, hf, hn, hb, Bool.false_eq_true, if_false, Sem.run_pure]

theorem FSpec.of {c : Ctx} (O : Ok P c) {f : FuncId} {fn : Func} {C : Contract} (hf : P.funcs[f]? = some fn) (hn : (fn.name == "runtime.NumGoroutine") = false) (hb : fn.body.isNone = false)
    (h : ∀ vs b S v news, C vs = some (b, some (S, v, news)) → S → funW c fn vs [] (Post b v news)) : FSpec P f C := by
  refine ⟨enter_of hf hn hb, fun vs b S v news e hS X0 cs Hh Hm HX hv => ?_⟩
  have hw := h vs b S v news e hS
  rw [← Hh] at hw
  refine (fun_sound O hf HX hv hw).mono fun en w' he => ?_
  obtain ⟨Y, ao, rfl, HY, EY, ho, hp⟩ := he
  exact hp.ends HX Hh Hm HY EY ho

theorem SSpec.of {c : Ctx} (O : Ok P c) {f : FuncId} {fn : Func} {C : Con} (hf : P.funcs[f]? = some fn) (hn : (fn.name == "runtime.NumGoroutine") = false) (hb : fn.body.isNone = false)
    (h : ∀ args h K, C args h K → funW c fn args h K) : SSpec P f C := by
  refine ⟨fun args hh K hC X cs H hXh hv => ⟨fun w => enter_of hf hn hb cs w, ?_⟩⟩
  have hw := h args hh K hC
  rw [← hXh] at hw
  exact fun_sound O hf H hv hw

theorem ISpec.of {c : Ctx} (O : OkI P c) {f : FuncId} {fn : Func} {C : Con → Con} (hf : P.funcs[f]? = some fn) (hn : (fn.name == "runtime.NumGoroutine") = false) (hb : fn.body.isNone = false)
    (h : ∀ Yc l cap hh K, C Yc (.fn (.yield l) [] [] :: cap) hh K → funW (c.withY l Yc) fn (.fn (.yield l) [] [] :: cap) hh K) : ISpec P f C := by
  refine ⟨fun Yc l cap hh K hC X cs hY H hXh hv => ⟨fun w => enter_of hf hn hb cs w, ?_⟩⟩
  have hw := h Yc l cap hh K hC
  rw [← hXh] at hw
  have O' : OkI P (c.withY l Yc) := ⟨⟨O.ok.tab, O.ok.sh, O.ok.fok⟩, O.s, O.plain, O.mixed, O.i⟩
  refine fun_soundY O' hf (fun l' args h K hq => ?_) H hv hw
  obtain ⟨e, hq⟩ := hq
  rw [e]
  exact hY args h K hq
end

/-! ### Arguments as they may be -/
def w64L (n : Int) : Prop := (Lit.int .i64 n).wf = true
/-- elements are as they may be -/
def wfL : Lst → Prop
  | .ints k xs => ∀ x ∈ xs, (Lit.int k x).wf = true
  | .bools _ => True
  | .strs xs => ∀ s ∈ xs, s.length ≤ maxLen
  | .pends xs => ∀ p ∈ xs, w64L p.at_ ∧ w64L p.val
  | .mics xs => ∀ p ∈ xs, w64L p.kind ∧ w64L p.at_ ∧ w64L p.val
  | .recs xs => ∀ p ∈ xs, w64L p.kind ∧ p.key.length ≤ maxLen ∧ p.val.length ≤ maxLen ∧ w64L p.child
  | .pairs xs => ∀ p ∈ xs, p.key.length ≤ maxLen ∧ p.val.length ≤ maxLen
  | .slots xs => ∀ p ∈ xs, w64L p.at_ ∧ w64L p.val

mutual
def GoodV : TyD → AV → Prop
  | .int k, v => ∃ n, v = .int k n ∧ (Lit.int k n).wf = true
  | .bool, v => ∃ b, v = .bool b
  | .str, v => ∃ s : Bytes, v = .str s ∧ s.length ≤ maxLen
  | .slice e, v => ∃ l, v = .sl false l ∧ l.kind = e ∧ wfL l ∧ l.len ≤ maxLen
  | .strct fs, v => ∃ vs, v = .agg vs ∧ GoodVs fs vs
  | _, _ => False
def GoodVs : List TyD → List AV → Prop
  | [], vs => vs = []
  | d :: ds, vs => ∃ v r, vs = v :: r ∧ GoodV d v ∧ GoodVs ds r
end

theorem gkind_ints {k : IntKind} {l : Lst} (h : l.kind = .int k) : ∃ xs, l = .ints k xs := by cases l <;> first | (simp only [Lst.kind, LK.int.injEq] at h; subst h; exact ⟨_, rfl⟩) | cases h
theorem gkind_bools {l : Lst} (h : l.kind = .bool) : ∃ xs, l = .bools xs := by cases l <;> first | exact ⟨_, rfl⟩ | cases h
theorem gkind_strs {l : Lst} (h : l.kind = .str) : ∃ xs, l = .strs xs := by cases l <;> first | exact ⟨_, rfl⟩ | cases h
theorem gkind_pends {l : Lst} (h : l.kind = .pend) : ∃ xs, l = .pends xs := by cases l <;> first | exact ⟨_, rfl⟩ | cases h
theorem gkind_mics {l : Lst} (h : l.kind = .mic) : ∃ xs, l = .mics xs := by cases l <;> first | exact ⟨_, rfl⟩ | cases h
theorem gkind_recs {l : Lst} (h : l.kind = .rcd) : ∃ xs, l = .recs xs := by cases l <;> first | exact ⟨_, rfl⟩ | cases h
theorem gkind_pairs {l : Lst} (h : l.kind = .pair) : ∃ xs, l = .pairs xs := by cases l <;> first | exact ⟨_, rfl⟩ | cases h
theorem gkind_slots {l : Lst} (h : l.kind = .slot) : ∃ xs, l = .slots xs := by cases l <;> first | exact ⟨_, rfl⟩ | cases h

end Lam
set_option linter.unnecessarySimpa false
set_option linter.unusedSectionVars false
set_option linter.unusedSimpArgs false
set_option linter.unusedVariables false
namespace Lam
open Go

/-- the world of a call, all of it kept -/
def whole (w : World) : Cx := ⟨fun b => b < w.heap.size, [], [], w⟩

def IsRow (k : IntKind) (w : World) (a : Option Addr) (len cap : Nat) (zs : List Int) : Prop :=
  (a = none ∧ len = 0 ∧ cap = 0 ∧ zs = []) ∨
  ∃ x, a = some x ∧ len ≤ cap ∧ cap ≤ maxLen ∧ zs.length = cap ∧ (∀ i, i < zs.length → w.cell? (x.add i) = some (.int k (zs.getD i 0))) ∧ ∀ n ∈ zs, (Lit.int k n).wf = true

theorem ints_flat (k : IntKind) (xs : List Int) : (Lst.ints k xs).flat = xs.map (.int k) := by
  apply List.ext_getElem?
  intro i
  rcases Nat.lt_or_ge i xs.length with h | h
  · have := (Lst.ints k xs).flat_get (i := i) (j := 0) h (by simp [Lst.kind, LK.size])
    simp only [Lst.kind, LK.size, Nat.mul_one, Nat.add_zero] at this
    rw [this]
    simp [Lst.cell, List.getD_eq_getElem?_getD, List.getElem?_eq_getElem h]
  · rw [List.getElem?_eq_none (by rw [Lst.flat_length]; simpa [Lst.len, Lst.kind, LK.size] using h), List.getElem?_eq_none (by simpa using h)]

theorem row_arg {k : IntKind} {w : World} {a : Option Addr} {len cap : Nat} {zs : List Int} (h : IsRow k w a len cap zs) : VV (whole w) (.sl false (.ints k (zs.take len))) (.slice a len cap) ∧ (zs.take len).length = len := by
  rcases h with ⟨rfl, rfl, rfl, rfl⟩ | ⟨x, rfl, h1, h2, h3, h4, h5⟩
  · exact ⟨⟨none, 0, rfl, Nat.le_refl _, fun h => (by cases h), fun _ => rfl, fun h => (h rfl).elim⟩, rfl⟩
  · have hl : (zs.take len).length = len := by simp; omega
    refine ⟨⟨some x, cap, by show _ = Value.slice _ (zs.take len).length _; rw [hl], by show (zs.take len).length ≤ _; omega, fun h => (by cases h), fun h => (by cases h), fun hn => ?_⟩, hl⟩
    have hpos : 0 < len := by
      have : (zs.take len).length ≠ 0 := hn
      omega
    have hc0 := h4 0 (by omega)
    have hsp : x.spot = none := by
      rw [show x.add 0 = x from rfl] at hc0
      unfold World.cell? at hc0
      split at hc0
      · split at hc0
        · cases hc0
        · rename_i hs; simpa using hs
      · cases hc0
    have hb : x.block < w.heap.size := by
      rw [show x.add 0 = x from rfl] at hc0
      unfold World.cell? at hc0
      split at hc0
      · rename_i hx; exact (Array.getElem?_eq_some_iff.1 hx).1
      · cases hc0
    refine ⟨x, rfl, hsp, hb, fun j v hj => ?_⟩
    rw [ints_flat, List.getElem?_map] at hj
    cases hz : (zs.take len)[j]? with
    | none => rw [hz] at hj; cases hj
    | some n =>
      rw [hz] at hj; cases hj
      have hjl : j < len := by have := (List.getElem?_eq_some_iff.1 hz).1; omega
      have := h4 j (by omega)
      have e : x.add j = ⟨x.block, x.off + j, none⟩ := by
        unfold Addr.add
        split
        · rename_i h0; subst h0; cases x; simp_all
        · rfl
      rw [e] at this
      rw [List.getElem?_take, if_pos hjl] at hz
      rw [List.getD_eq_getElem?_getD, hz] at this
      exact this

theorem whole_hr (w : World) : HR (whole w) := hr0 fun _ h => h

open Go.RowKit in
theorem law_calls {P : Program} {c : Ctx} (O : Ok P c) {f : FuncId} {fn : Func} (hf : P.funcs[f]? = some fn) {vs : List AV} {cs : Array Value} {w : World} (hw : funW c fn vs [] Told) (hv : VVs (whole w) vs cs.toList) :
    Calls P f cs w fun e w' => e = .returned (.bool true) ∧ Below w.heap.size w w' := by
  refine (fun_sound (X := whole w) O hf (whole_hr w) hv hw).mono fun e w' he => ?_
  obtain ⟨Y, ao, rfl, HY, EY, ho, hk⟩ := he
  obtain rfl : ao = .ret (.bool true) := hk
  obtain ⟨c', rfl, hc⟩ := ho
  obtain rfl : c' = .bool true := hc
  exact ⟨rfl, EY.env.1, EY.env.2.1, EY.env.2.2, EY.grow, fun k hk => old_kept (w := w) EY hk⟩
end Lam
set_option linter.unnecessarySimpa false
set_option linter.unusedSectionVars false
set_option linter.unusedSimpArgs false
set_option linter.unusedVariables false
namespace Lam
open Go

mutual
/-- a type is as it is told, down to its cells; sl: slices -/
def openG (sl : LK → TypeId → Bool) (P : Program) : TyD → TypeId → Bool
  | .int k, T => match P.underlying T with | some (.int k') => k == k' | _ => false
  | .bool, T => match P.underlying T with | some .bool => true | _ => false
  | .str, T => match P.underlying T with | some .string => true | _ => false
  | .slice e, T => match P.underlying T with | some (.slice E) => sl e E | _ => false
  | .strct fs, T => match P.underlying T with | some (.struct fields) => Nat.beq (P.cellsOf T) (TyD.sizes fs) && openGs sl P fs 0 fields.toList | _ => false
  | _, _ => false
def openGs (sl : LK → TypeId → Bool) (P : Program) : List TyD → Nat → List Field → Bool
  | [], _, fs => fs.isEmpty
  | d :: ds, off, fs => match fs with
    | [] => false
    | f :: fs' => Nat.beq f.offset off && Nat.beq (P.cellsOf f.type) d.size && openG sl P d f.type && openGs sl P ds (off + d.size) fs'
end

def flatB (P : Program) (d : TyD) (T : TypeId) : Bool := openG (fun _ _ => false) P d T
def openB (P : Program) (d : TyD) (T : TypeId) : Bool := openG (fun e E => Nat.beq (P.cellsOf E) e.size && flatB P e.ty E) P d T

section
variable {H : Type} {enc : TypeId × Value → H} {P : Program} {w : World} {spare : Nat → Bool} {held : Bool}

theorem openGs_get {sl : LK → TypeId → Bool} : ∀ {ds : List TyD} {off : Nat} {fs : List Field}, openGs sl P ds off fs = true → fs.length = ds.length
  | [], off, fs, h => by
    simp only [openGs, List.isEmpty_iff] at h; rw [h]; rfl
  | d :: ds, off, [], h => by simp [openGs] at h
  | d :: ds, off, f :: fs, h => by
    simp only [openGs, Bool.and_eq_true] at h
    simp [openGs_get h.2]

theorem list_of {α : Type} (d : α) (Q : Nat → α → Prop) : ∀ (n : Nat), (∀ i, i < n → ∃ x, Q i x) → ∃ xs : List α, xs.length = n ∧ ∀ i, i < n → Q i (xs.getD i d)
  | 0, _ => ⟨[], rfl, fun i hi => by omega⟩
  | n + 1, h => by
    obtain ⟨xs, hl, hx⟩ := list_of d Q n fun i hi => h i (by omega)
    obtain ⟨x, hq⟩ := h n (by omega)
    refine ⟨xs ++ [x], by simp [hl], fun i hi => ?_⟩
    rw [List.getD_eq_getElem?_getD]
    by_cases e : i = n
    · subst e
      rw [List.getElem?_append_right (by omega), hl]
      simpa using hq
    · rw [List.getElem?_append_left (by omega), ← List.getD_eq_getElem?_getD]
      exact hx i (by omega)

mutual
theorem open_gen {sl : LK → TypeId → Bool} (HS : ∀ e T E fuel cs x, P.underlying T = some (.slice E) → sl e E = true → DataW.trod enc P w 0 spare held fuel T cs = some x → ∃ l, l.kind = e ∧ wfL l ∧ l.len ≤ maxLen ∧ VC (whole w) (.sl false l) cs) :
    ∀ (d : TyD) (T : TypeId) (fuel : Nat) (cs : List Value) (x : DataW H × List MemPlace), openG sl P d T = true → DataW.trod enc P w 0 spare held fuel T cs = some x → ∃ v, GoodV d v ∧ VC (whole w) v cs
  | .int k, T, fuel, cs, x, h, ht => by
    simp only [openG] at h
    split at h
    · rename_i k' hu
      obtain rfl : k = k' := by simpa using h
      obtain ⟨n, rfl, _, hw⟩ := DataW.trod_int hu ht
      exact ⟨.int k n, ⟨n, rfl, hw⟩, ⟨_, rfl, rfl⟩⟩
    · cases h
  | .bool, T, fuel, cs, x, h, ht => by
    simp only [openG] at h
    split at h
    · rename_i hu
      obtain ⟨b, rfl, _⟩ := DataW.trod_bool hu ht
      exact ⟨.bool b, ⟨b, rfl⟩, ⟨_, rfl, rfl⟩⟩
    · cases h
  | .str, T, fuel, cs, x, h, ht => by
    simp only [openG] at h
    split at h
    · rename_i hu
      obtain ⟨s, rfl, _, hs⟩ := DataW.trod_string hu ht
      have hl : s.data.toList.length ≤ maxLen := by rw [Array.length_toList]; exact hs
      exact ⟨.str s.data.toList, ⟨_, rfl, hl⟩, ⟨_, rfl, by show Value.string s = _; rw [bstr_data]⟩⟩
    · cases h
  | .slice e, T, fuel, cs, x, h, ht => by
    simp only [openG] at h
    split at h
    · rename_i E hu
      obtain ⟨l, h1, h2, h3, h4⟩ := HS e T E fuel cs x hu h ht
      exact ⟨.sl false l, ⟨l, rfl, h1, h2, h3⟩, h4⟩
    · cases h
  | .strct ds, T, fuel, cs, x, h, ht => by
    simp only [openG] at h
    split at h
    · rename_i fields hu
      simp only [Bool.and_eq_true] at h
      obtain ⟨hc, hg⟩ := h
      have hc := Nat.eq_of_beq_eq_true hc
      obtain ⟨xs, n, rfl, _, hl, hxl, hf⟩ := DataW.trod_struct hu ht
      obtain ⟨vs, g1, g2⟩ := open_gens HS ds 0 fields.toList n cs hg (by rw [hl, hc]; omega) (fun i f hi => by
        have := hf i f (by simpa using hi)
        rw [this]
        have hlt : i < xs.length := by rw [hxl]; simpa using (List.getElem?_eq_some_iff.1 hi).1
        exact ⟨_, List.getElem?_eq_getElem hlt⟩)
      refine ⟨.agg vs, ⟨vs, rfl, g1⟩, ?_⟩
      simp only [VC]
      rw [List.drop_zero] at g2
      exact g2
    · cases h
  | .arr _ _, T, fuel, cs, x, h, ht => by simp only [openG] at h; cases h
  | .ptr, T, fuel, cs, x, h, ht => by simp only [openG] at h; cases h
  | .map _, T, fuel, cs, x, h, ht => by simp only [openG] at h; cases h
  | .func, T, fuel, cs, x, h, ht => by simp only [openG] at h; cases h
  | .iface, T, fuel, cs, x, h, ht => by simp only [openG] at h; cases h
  | .tup _, T, fuel, cs, x, h, ht => by simp only [openG] at h; cases h
  | .other, T, fuel, cs, x, h, ht => by simp only [openG] at h; cases h
theorem open_gens {sl : LK → TypeId → Bool} (HS : ∀ e T E fuel cs x, P.underlying T = some (.slice E) → sl e E = true → DataW.trod enc P w 0 spare held fuel T cs = some x → ∃ l, l.kind = e ∧ wfL l ∧ l.len ≤ maxLen ∧ VC (whole w) (.sl false l) cs) :
    ∀ (ds : List TyD) (off : Nat) (fs : List Field) (fuel : Nat) (cs : List Value), openGs sl P ds off fs = true → cs.length = off + TyD.sizes ds →
      (∀ (i : Nat) (f : Field), fs[i]? = some f → ∃ x, DataW.trod enc P w 0 spare held fuel f.type ((cs.drop f.offset).take (P.cellsOf f.type)) = some x) → ∃ vs, GoodVs ds vs ∧ VCs (whole w) vs (cs.drop off)
  | [], off, fs, fuel, cs, h, hl, hf => by
    refine ⟨[], rfl, ?_⟩
    simp only [TyD.sizes, Nat.add_zero] at hl
    simp only [VCs]
    exact List.drop_eq_nil_of_le (by omega)
  | d :: ds, off, [], fuel, cs, h, hl, hf => by simp [openGs] at h
  | d :: ds, off, f :: fs, fuel, cs, h, hl, hf => by
    simp only [openGs, Bool.and_eq_true] at h
    obtain ⟨⟨⟨h1, h2⟩, h3⟩, h4⟩ := h
    have h1 := Nat.eq_of_beq_eq_true h1
    have h2 := Nat.eq_of_beq_eq_true h2
    simp only [TyD.sizes] at hl
    obtain ⟨x, hx⟩ := hf 0 f rfl
    rw [h1, h2] at hx
    obtain ⟨v, g1, g2⟩ := open_gen HS d f.type fuel _ x h3 hx
    obtain ⟨vs, g3, g4⟩ := open_gens HS ds (off + d.size) fs fuel cs h4 (by omega) fun i f' hi => hf (i + 1) f' (by simpa using hi)
    refine ⟨v :: vs, ⟨v, vs, rfl, g1, g3⟩, ?_⟩
    simp only [VCs]
    refine ⟨_, _, ?_, g2, g4⟩
    rw [← List.drop_drop, List.take_append_drop]
end

theorem flat_open {d : TyD} {T : TypeId} {fuel : Nat} {cs : List Value} {x : DataW H × List MemPlace} (h : flatB P d T = true) (ht : DataW.trod enc P w 0 spare held fuel T cs = some x) : ∃ v, GoodV d v ∧ VC (whole w) v cs :=
  open_gen (fun _ _ _ _ _ _ _ h _ => by cases h) d T fuel cs x h ht

theorem VCs_nil {X : Cx} {cs : List Value} (h : VCs X [] cs) : cs = [] := by simpa only [VCs] using h
theorem VCs_int {X : Cx} {k : IntKind} {n : Int} {r : List AV} {cs : List Value} (h : VCs X (.int k n :: r) cs) : ∃ b, cs = .int k n :: b ∧ VCs X r b := by
  simp only [VCs, VC] at h
  obtain ⟨a, b, rfl, ⟨c, rfl, hc⟩, hr⟩ := h
  exact ⟨b, by rw [show c = _ from hc]; rfl, hr⟩
theorem VCs_bool {X : Cx} {n : Bool} {r : List AV} {cs : List Value} (h : VCs X (.bool n :: r) cs) : ∃ b, cs = .bool n :: b ∧ VCs X r b := by
  simp only [VCs, VC] at h
  obtain ⟨a, b, rfl, ⟨c, rfl, hc⟩, hr⟩ := h
  exact ⟨b, by rw [show c = _ from hc]; rfl, hr⟩
theorem VCs_str {X : Cx} {n : Bytes} {r : List AV} {cs : List Value} (h : VCs X (.str n :: r) cs) : ∃ b, cs = .string (bstr n) :: b ∧ VCs X r b := by
  simp only [VCs, VC] at h
  obtain ⟨a, b, rfl, ⟨c, rfl, hc⟩, hr⟩ := h
  exact ⟨b, by rw [show c = _ from hc]; rfl, hr⟩

/-- an element, as it lies in a list of its kind -/
theorem elems_of (e : LK) {E : TypeId} (hE : flatB P e.ty E = true) {fuel : Nat} {cs : Nat → List Value} {n : Nat} (h : ∀ i, i < n → ∃ x, DataW.trod enc P w 0 spare held fuel E (cs i) = some x) :
    ∃ l : Lst, l.kind = e ∧ wfL l ∧ l.len = n ∧ ∀ i, i < n → cs i = l.cell i := by
  have hh : ∀ i, i < n → ∃ v, GoodV e.ty v ∧ VC (whole w) v (cs i) := fun i hi => by
    obtain ⟨x, hx⟩ := h i hi
    exact flat_open hE hx
  have mem : ∀ {α : Type} (d : α) (xs : List α) (Q : α → Prop), xs.length = n → (∀ i, i < n → Q (xs.getD i d)) → ∀ x ∈ xs, Q x := by
    intro α d xs Q hl hq x hx
    obtain ⟨i, hi, rfl⟩ := List.getElem_of_mem hx
    have := hq i (by omega)
    rwa [List.getD_eq_getElem?_getD, List.getElem?_eq_getElem hi] at this
  cases e with
  | int k =>
    obtain ⟨xs, hl, hx⟩ := list_of (0 : Int) (fun i x => cs i = [.int k x] ∧ (Lit.int k x).wf = true) n fun i hi => by
      obtain ⟨v, hg, hv⟩ := hh i hi
      obtain ⟨m, rfl, hw⟩ := hg
      simp only [VC] at hv
      obtain ⟨c, hc, hc2⟩ := hv
      exact ⟨m, by rw [hc, show c = _ from hc2], hw⟩
    exact ⟨.ints k xs, rfl, mem 0 xs (fun x => (Lit.int k x).wf = true) hl (fun i hi => (hx i hi).2), hl, fun i hi => (hx i hi).1⟩
  | bool =>
    obtain ⟨xs, hl, hx⟩ := list_of false (fun i x => cs i = [.bool x]) n fun i hi => by
      obtain ⟨v, hg, hv⟩ := hh i hi
      obtain ⟨m, rfl⟩ := hg
      simp only [VC] at hv
      obtain ⟨c, hc, hc2⟩ := hv
      exact ⟨m, by rw [hc, show c = _ from hc2]⟩
    exact ⟨.bools xs, rfl, trivial, hl, hx⟩
  | str =>
    obtain ⟨xs, hl, hx⟩ := list_of ([] : Bytes) (fun i x => cs i = [.string (bstr x)] ∧ x.length ≤ maxLen) n fun i hi => by
      obtain ⟨v, hg, hv⟩ := hh i hi
      obtain ⟨m, rfl, hw⟩ := hg
      simp only [VC] at hv
      obtain ⟨c, hc, hc2⟩ := hv
      exact ⟨m, by rw [hc, show c = _ from hc2], hw⟩
    exact ⟨.strs xs, rfl, mem [] xs (fun x => x.length ≤ maxLen) hl (fun i hi => (hx i hi).2), hl, fun i hi => (hx i hi).1⟩
  | pend =>
    obtain ⟨xs, hl, hx⟩ := list_of (⟨0, 0, false⟩ : Pend) (fun i x => cs i = [.int .i64 x.at_, .int .i64 x.val, .bool x.fl] ∧ w64L x.at_ ∧ w64L x.val) n fun i hi => by
      obtain ⟨v, hg, hv⟩ := hh i hi
      simp only [LK.ty, GoodV, GoodVs] at hg
      obtain ⟨_, rfl, _, _, rfl, ⟨a, rfl, ha⟩, _, _, rfl, ⟨b, rfl, hb⟩, _, _, rfl, ⟨c, rfl⟩, rfl⟩ := hg
      simp only [VC] at hv
      obtain ⟨_, e1, hv⟩ := VCs_int hv
      obtain ⟨_, e2, hv⟩ := VCs_int hv
      rw [e2] at e1
      obtain ⟨_, e2, hv⟩ := VCs_bool hv
      rw [e2] at e1
      rw [VCs_nil hv] at e1
      exact ⟨⟨a, b, c⟩, e1, ha, hb⟩
    exact ⟨.pends xs, rfl, mem ⟨0, 0, false⟩ xs (fun x => w64L x.at_ ∧ w64L x.val) hl (fun i hi => (hx i hi).2), hl, fun i hi => (hx i hi).1⟩
  | mic =>
    obtain ⟨xs, hl, hx⟩ := list_of (⟨0, 0, 0⟩ : Mic) (fun i x => cs i = [.int .i64 x.kind, .int .i64 x.at_, .int .i64 x.val] ∧ w64L x.kind ∧ w64L x.at_ ∧ w64L x.val) n fun i hi => by
      obtain ⟨v, hg, hv⟩ := hh i hi
      simp only [LK.ty, GoodV, GoodVs] at hg
      obtain ⟨_, rfl, _, _, rfl, ⟨a, rfl, ha⟩, _, _, rfl, ⟨b, rfl, hb⟩, _, _, rfl, ⟨c, rfl, hc⟩, rfl⟩ := hg
      simp only [VC] at hv
      obtain ⟨_, e1, hv⟩ := VCs_int hv
      obtain ⟨_, e2, hv⟩ := VCs_int hv
      rw [e2] at e1
      obtain ⟨_, e2, hv⟩ := VCs_int hv
      rw [e2] at e1
      rw [VCs_nil hv] at e1
      exact ⟨⟨a, b, c⟩, e1, ha, hb, hc⟩
    exact ⟨.mics xs, rfl, mem ⟨0, 0, 0⟩ xs (fun x => w64L x.kind ∧ w64L x.at_ ∧ w64L x.val) hl (fun i hi => (hx i hi).2), hl, fun i hi => (hx i hi).1⟩
  | rcd =>
    obtain ⟨xs, hl, hx⟩ := list_of (⟨0, [], [], 0⟩ : RecT) (fun i x => cs i = [.int .i64 x.kind, .string (bstr x.key), .string (bstr x.val), .int .i64 x.child] ∧ w64L x.kind ∧ x.key.length ≤ maxLen ∧ x.val.length ≤ maxLen ∧ w64L x.child) n fun i hi => by
      obtain ⟨v, hg, hv⟩ := hh i hi
      simp only [LK.ty, GoodV, GoodVs] at hg
      obtain ⟨_, rfl, _, _, rfl, ⟨a, rfl, ha⟩, _, _, rfl, ⟨b, rfl, hb⟩, _, _, rfl, ⟨c, rfl, hc⟩, _, _, rfl, ⟨d, rfl, hd⟩, rfl⟩ := hg
      simp only [VC] at hv
      obtain ⟨_, e1, hv⟩ := VCs_int hv
      obtain ⟨_, e2, hv⟩ := VCs_str hv
      rw [e2] at e1
      obtain ⟨_, e2, hv⟩ := VCs_str hv
      rw [e2] at e1
      obtain ⟨_, e2, hv⟩ := VCs_int hv
      rw [e2] at e1
      rw [VCs_nil hv] at e1
      exact ⟨⟨a, b, c, d⟩, e1, ha, hb, hc, hd⟩
    exact ⟨.recs xs, rfl, mem ⟨0, [], [], 0⟩ xs (fun x => w64L x.kind ∧ x.key.length ≤ maxLen ∧ x.val.length ≤ maxLen ∧ w64L x.child) hl (fun i hi => (hx i hi).2), hl, fun i hi => (hx i hi).1⟩
  | pair =>
    obtain ⟨xs, hl, hx⟩ := list_of (⟨[], []⟩ : PairT) (fun i x => cs i = [.string (bstr x.key), .string (bstr x.val)] ∧ x.key.length ≤ maxLen ∧ x.val.length ≤ maxLen) n fun i hi => by
      obtain ⟨v, hg, hv⟩ := hh i hi
      simp only [LK.ty, GoodV, GoodVs] at hg
      obtain ⟨_, rfl, _, _, rfl, ⟨b, rfl, hb⟩, _, _, rfl, ⟨c, rfl, hc⟩, rfl⟩ := hg
      simp only [VC] at hv
      obtain ⟨_, e1, hv⟩ := VCs_str hv
      obtain ⟨_, e2, hv⟩ := VCs_str hv
      rw [e2] at e1
      rw [VCs_nil hv] at e1
      exact ⟨⟨b, c⟩, e1, hb, hc⟩
    exact ⟨.pairs xs, rfl, mem ⟨[], []⟩ xs (fun x => x.key.length ≤ maxLen ∧ x.val.length ≤ maxLen) hl (fun i hi => (hx i hi).2), hl, fun i hi => (hx i hi).1⟩
  | slot =>
    obtain ⟨xs, hl, hx⟩ := list_of (⟨0, 0⟩ : SlotT) (fun i x => cs i = [.int .i64 x.at_, .int .i64 x.val] ∧ w64L x.at_ ∧ w64L x.val) n fun i hi => by
      obtain ⟨v, hg, hv⟩ := hh i hi
      simp only [LK.ty, GoodV, GoodVs] at hg
      obtain ⟨_, rfl, _, _, rfl, ⟨a, rfl, ha⟩, _, _, rfl, ⟨b, rfl, hb⟩, rfl⟩ := hg
      simp only [VC] at hv
      obtain ⟨_, e1, hv⟩ := VCs_int hv
      obtain ⟨_, e2, hv⟩ := VCs_int hv
      rw [e2] at e1
      rw [VCs_nil hv] at e1
      exact ⟨⟨a, b⟩, e1, ha, hb⟩
    exact ⟨.slots xs, rfl, mem ⟨0, 0⟩ xs (fun x => w64L x.at_ ∧ w64L x.val) hl (fun i hi => (hx i hi).2), hl, fun i hi => (hx i hi).1⟩

theorem add_add {a : Addr} (h : a.spot = none) (m r : Nat) : (a.add m).add r = ⟨a.block, a.off + m + r, none⟩ := by
  unfold Addr.add
  cases a with
  | mk b o s =>
    simp only at h; subst h
    by_cases h1 : m = 0 <;> by_cases h2 : r = 0 <;> simp [h1, h2]

theorem slice_open {e : LK} {T E : TypeId} {fuel : Nat} {cs : List Value} {x : DataW H × List MemPlace} (hu : P.underlying T = some (.slice E)) (hE : (Nat.beq (P.cellsOf E) e.size && flatB P e.ty E) = true)
    (ht : DataW.trod enc P w 0 spare held fuel T cs = some x) : ∃ l, l.kind = e ∧ wfL l ∧ l.len ≤ maxLen ∧ VC (whole w) (.sl false l) cs := by
  simp only [Bool.and_eq_true] at hE
  obtain ⟨hsz, hE⟩ := hE
  have hsz := Nat.eq_of_beq_eq_true hsz
  rcases DataW.trod_slice hu ht with ⟨rfl, _⟩ | ⟨a, len, cap, elems, rest, n, rfl, rfl, _, _, hle, hmx, hel, hlook, _⟩
  · obtain ⟨l, h1, h2, h3, _⟩ := elems_of (enc := enc) (w := w) (spare := spare) (held := held) e hE (fuel := 0) (cs := fun _ => []) (n := 0) fun i hi => by omega
    refine ⟨l, h1, h2, by omega, _, rfl, none, 0, by rw [h3], by omega, fun h => (by cases h), fun _ => rfl, fun h => absurd h3 h⟩
  · have hcells : ∀ i, i < len → ∃ c, w.cells? 0 (a.add (i * e.size)) e.size = some c ∧ ∃ y, DataW.trod enc P w 0 spare held n E c = some y := by
      intro i hi
      have := hlook i hi
      rw [hsz, List.getElem?_eq_getElem (by omega), Option.bind_eq_some_iff] at this
      obtain ⟨c, h1, h2⟩ := this
      exact ⟨c, h1, _, h2⟩
    obtain ⟨l, h1, h2, h3, h4⟩ := elems_of (enc := enc) (w := w) (spare := spare) (held := held) e hE (fuel := n) (cs := fun i => (w.cells? 0 (a.add (i * e.size)) e.size).getD []) (n := len) fun i hi => by
      obtain ⟨c, q1, q2⟩ := hcells i hi
      rw [q1]; exact q2
    refine ⟨l, h1, h2, by omega, _, rfl, some a, cap, by rw [h3], by omega, fun h => (by cases h), fun h => (by cases h), fun hn => ?_⟩
    have hkp := LK.size_pos e
    have hpos : 0 < len := by omega
    obtain ⟨c0, q0, _⟩ := hcells 0 hpos
    obtain ⟨_, c0l, q1⟩ := World.cells?_some q0
    have q2 := q1 0 hkp
    have hc0 : ∃ u, w.cell? a = some u := by
      rw [Nat.zero_mul, show (a.add 0).add 0 = a from rfl, List.getElem?_eq_getElem (by omega)] at q2
      exact ⟨_, q2⟩
    obtain ⟨u, hu⟩ := hc0
    have hsp : a.spot = none := by
      unfold World.cell? at hu
      split at hu
      · split at hu
        · cases hu
        · rename_i hs; simpa using hs
      · cases hu
    have hb : a.block < w.heap.size := by
      unfold World.cell? at hu
      split at hu
      · rename_i hx; exact (Array.getElem?_eq_some_iff.1 hx).1
      · cases hu
    refine ⟨a, rfl, hsp, hb, fun j v hj => ?_⟩
    have hjl : j < l.flat.length := (List.getElem?_eq_some_iff.1 hj).1
    rw [Lst.flat_length, h3, h1] at hjl
    have hi : j / e.size < len := Nat.div_lt_of_lt_mul (by rw [Nat.mul_comm]; exact hjl)
    have hr : j % e.size < e.size := Nat.mod_lt _ hkp
    have hjd : j = j / e.size * e.size + j % e.size := by rw [Nat.mul_comm]; exact (Nat.div_add_mod _ _).symm
    obtain ⟨c, q3, _⟩ := hcells _ hi
    have h5 := h4 _ hi
    simp only [q3, Option.getD_some] at h5
    obtain ⟨_, _, q5⟩ := World.cells?_some q3
    have q6 := q5 _ hr
    rw [add_add hsp, Nat.add_assoc, ← hjd, h5] at q6
    have h6 := l.flat_get (i := j / e.size) (j := j % e.size) (by omega) (by rw [h1]; exact hr)
    rw [h1, ← hjd] at h6
    show w.cell? ⟨a.block, a.off + j, none⟩ = some v
    rw [q6, ← h6, hj]

theorem open_cells {d : TyD} {T : TypeId} {fuel : Nat} {cs : List Value} {x : DataW H × List MemPlace} (h : openB P d T = true) (ht : DataW.trod enc P w 0 spare held fuel T cs = some x) : ∃ v, GoodV d v ∧ VC (whole w) v cs :=
  open_gen (fun e T E fuel cs x hu h ht => slice_open hu h ht) d T fuel cs x h ht

/-- an argument that is a struct, or a slice -/
theorem open_val {r : Reach} {base : Nat} {d : TyD} {T : TypeId} {v : Value} {dd : DataW H} {ps : List MemPlace} (h : openB P d T = true) (hd : d.isAgg = true) (hok : Value.okWide P w r base T v) (ht : DataW.Trod enc P w 0 spare held T v dd ps) :
    ∃ av, GoodV d av ∧ VV (whole w) av v := by
  obtain ⟨fuel, ht⟩ := ht
  obtain ⟨av, g, hv⟩ := open_cells h ht
  refine ⟨av, g, ?_⟩
  cases d with
  | strct fs =>
    obtain ⟨vs, rfl, _⟩ := g
    unfold openB openG at h
    split at h
    · rename_i fields hu
      simp only [Value.okWide, hu] at hok
      obtain ⟨cs, rfl, _⟩ := hok
      exact ⟨cs, rfl, by simpa only [VC, Value.cells] using hv⟩
    · cases h
  | arr n e => simp only [GoodV] at g
  | _ => cases hd

theorem open_sl {r : Reach} {base : Nat} {e : LK} {T : TypeId} {v : Value} {dd : DataW H} {ps : List MemPlace} (h : openB P (.slice e) T = true) (hok : Value.okWide P w r base T v) (ht : DataW.Trod enc P w 0 spare held T v dd ps) :
    ∃ l, l.kind = e ∧ wfL l ∧ l.len ≤ maxLen ∧ VV (whole w) (.sl false l) v := by
  obtain ⟨fuel, ht⟩ := ht
  obtain ⟨av, ⟨l, rfl, g1, g2, g3⟩, hv⟩ := open_cells h ht
  refine ⟨l, g1, g2, g3, ?_⟩
  unfold openB openG at h
  split at h
  · rename_i E hu
    simp only [Value.okWide, hu, Cell.okWide] at hok
    have hv : ∃ c, v.cells.toList = [c] ∧ VV (whole w) (.sl false l) c := hv
    obtain ⟨c, hc, hv⟩ := hv
    have : v = c := by
      cases v <;> simp_all [Cell.ok, Value.cells]
    rw [this]; exact hv
  · cases h
end

end Lam
set_option linter.unusedVariables false
set_option linter.unusedSimpArgs false
set_option linter.unnecessarySimpa false
set_option linter.unusedSectionVars false
namespace Lam
open Go

/-- bits of whole numbers -/
def xorI (k : IntKind) (a b : Int) : Int := k.wrap (BitVec.ofInt k.bits a ^^^ BitVec.ofInt k.bits b).toNat
def andI (k : IntKind) (a b : Int) : Int := k.wrap (BitVec.ofInt k.bits a &&& BitVec.ofInt k.bits b).toNat
def orI (k : IntKind) (a b : Int) : Int := k.wrap (BitVec.ofInt k.bits a ||| BitVec.ofInt k.bits b).toNat
def andNotI (k : IntKind) (a b : Int) : Int := k.wrap (BitVec.ofInt k.bits a &&& ~~~ BitVec.ofInt k.bits b).toNat
def notI (k : IntKind) (a : Int) : Int := k.wrap (BitVec.ofInt k.bits (if k.signed then -1 else k.max) ^^^ BitVec.ofInt k.bits a).toNat

section runs
variable (S : Prop) (v : AV) (news h : List AObj) (K KP : AV → List AObj → Prop)
@[go_sem] theorem runD_p : runD (pD S v) h K = (S ∧ K v h) := by simp [pD, runD]
@[go_sem] theorem runD_some : runD (some (S, v, news)) h K = (S ∧ K v (h ++ news)) := (rfl)
@[go_sem] theorem runH_some (id : Nat) (o : AObj) : runH (some (S, id, o)) h K = (S ∧ K .und (h.set id o)) := (rfl)
@[go_sem] theorem runM_some (id : Nat) (o : AObj) : runM (some (S, v, id, o)) h K = (S ∧ K v (h.set id o)) := (rfl)
@[go_sem] theorem runDM_p (y) : runDM (pD S v) y h K = (S ∧ K v h) := by simp [pD, runDM]
@[go_sem] theorem runDM_some (y) : runDM (some (S, v, news)) y h K = (S ∧ K v (h ++ news)) := (rfl)
@[go_sem] theorem runDM_none (y) : runDM none y h K = runM y h K := (rfl)
@[go_sem] theorem nilEqO_some (n : Nat) : nilEqO (some n) h K = ∀ b : Bool, (b = true → n = 0) → K (.bool b) h := (rfl)
@[go_sem] theorem allocW_eq (d : TyD) : allocW d h K = (zeroP d ∧ K (.ptr h.length []) (h ++ [boxO d.zero])) := (rfl)
@[go_sem] theorem zeroP_map (m : MK) : zeroP (.map m) = True := (rfl)
@[go_sem] theorem zeroP_int (k : IntKind) : zeroP (.int k) = fitP (.int k) (TyD.int k).zero := (rfl)
@[go_sem] theorem zeroP_bool : zeroP .bool = fitP .bool TyD.bool.zero := (rfl)
@[go_sem] theorem zeroP_str : zeroP .str = fitP .str TyD.str.zero := (rfl)
@[go_sem] theorem zeroP_slice (e : LK) : zeroP (.slice e) = fitP (.slice e) (TyD.slice e).zero := (rfl)
@[go_sem] theorem zeroP_strct (fs : List TyD) : zeroP (.strct fs) = fitP (.strct fs) (TyD.strct fs).zero := (rfl)
@[go_sem] theorem zeroP_arr (n : Nat) (e : LK) : zeroP (.arr n e) = fitP (.arr n e) (TyD.arr n e).zero := (rfl)
@[go_sem] theorem zeroP_ptr : zeroP .ptr = fitP .ptr TyD.ptr.zero := (rfl)
@[go_sem] theorem zeroP_func : zeroP .func = fitP .func TyD.func.zero := (rfl)
@[go_sem] theorem zeroP_iface : zeroP .iface = fitP .iface TyD.iface.zero := (rfl)
@[congr] theorem allocW_congr {d d' : TyD} {h h' : List AObj} {K : AV → List AObj → Prop} (e2 : d = d') (e : h = h') : allocW d h K = allocW d' h' K := by rw [e, e2]
@[go_sem] theorem boxW_eq (d : TyD) : boxW d v h K = (fitP d v ∧ K (.ptr h.length []) (h ++ [boxO v])) := (rfl)
@[go_sem] theorem panW_iface (t : TypeId) (u : AV) : panW (.iface t u) h KP = KP (.iface t u) h := (rfl)
@[go_sem] theorem whenP_true (A : Prop) : whenP true A = A := (rfl)
@[go_sem] theorem whenD_true (x : D) : whenD true x = x := (rfl)
theorem guardW_bool (b w : Bool) (A B : Prop) : guardW (.bool b) w A B = ((b = w → A) ∧ (b = (!w) → B)) := (rfl)
@[go_sem] theorem condW_bool (b : Bool) (A B : Prop) : condW (.bool b) A B = ((b = true → A) ∧ (b = false → B)) := (rfl)
@[go_sem] theorem callW_fn (c : Ctx) (f : FuncId) (first cap args : List AV) : callW c (.fn (.func f) first cap) args h K KP =
    callR c.drawn (callArgs c f (AV.vals h (first ++ args ++ cap))) (AV.rowss (first ++ args ++ cap)) h K (c.envS f (first ++ args ++ cap) h (outW K KP)) := (rfl)
@[go_sem] theorem callArgs_some (c : Ctx) (f : FuncId) (vs : List AV) : callArgs c f (some vs) = if AV.closeds vs = true then c.envF f vs else none := by
  cases h : AV.closeds vs <;> simp [callArgs, h]
@[go_sem] theorem callArgs_none (c : Ctx) (f : FuncId) : callArgs c f none = none := (rfl)
@[go_sem] theorem callR_fresh (dr : Bool) (rows : List Nat) (els : Prop) : callR dr (some (true, some (S, v, news))) rows h K els = (S ∧ K (v.shift h.length) (h ++ news)) := (rfl)
@[go_sem] theorem callR_freshp (dr : Bool) (rows : List Nat) (els : Prop) : callR dr (some (true, pD S v)) rows h K els = (S ∧ K (v.shift h.length) h) := by simp [pD, callR]
@[go_sem] theorem callR_plain (dr : Bool) (rows : List Nat) (els : Prop) (hv : v.noSl = true) : callR dr (some (false, pD S v)) rows h K els = (S ∧ K v h) := by simp [pD, callR, hv]
@[go_sem] theorem callR_valp (rows : List Nat) (els : Prop) (hv : v.noSl = false) : callR false (some (false, pD S v)) rows h K els = (S ∧ K v (freeze rows h)) := by simp [pD, callR, hv]
@[go_sem] theorem callR_none0 (dr : Bool) (els : Prop) : callR dr (some (false, pD S v)) [] h K els = (S ∧ K v h) := by cases hv : v.noSl <;> simp [pD, callR, hv, freeze]
@[go_sem] theorem callR_none (dr : Bool) (rows : List Nat) (els : Prop) : callR dr none rows h K els = els := (rfl)
@[go_sem] theorem freeze_nil : freeze [] h = h := (rfl)
@[go_sem] theorem freeze_cons (id : Nat) (r : List Nat) : freeze (id :: r) h = freeze r (h.modify id froO) := (rfl)
@[go_sem] theorem froO_row (k : RK) (ver : Nat) (l : Lst) : froO (.row k ver l) = .row .fro ver l := (rfl)
@[go_sem] theorem froO_box (u : AV) : froO (.box u) = .box u := (rfl)
@[go_sem] theorem froO_lp (st : LoopState) (pd : Option Code) (r : Loop) : froO (.lp st pd r) = .lp st pd r := (rfl)
@[go_sem] theorem normO_lp (n : Nat) (st : LoopState) (pd : Option Code) (r : Loop) : normO n h (.lp st pd r) = .lp st pd r := (rfl)
@[go_sem] theorem callW_yield (c : Ctx) (l : Nat) (args : List AV) (KP : AV → List AObj → Prop) : callW c (.fn (.yield l) [] []) args h K KP = c.envY l args h (outW K KP) := (rfl)
@[go_sem] theorem noS_envY (c : Ctx) (l : Nat) (a : List AV) (K' : AOut → List AObj → Prop) : c.noS.envY l a h K' = False := (rfl)
@[go_sem] theorem noI_drawn (c : Ctx) : c.noI.drawn = c.drawn := (rfl)
@[go_sem] theorem noI_envF (c : Ctx) : c.noI.envF = c.envF := (rfl)
@[go_sem] theorem noI_envS (c : Ctx) : c.noI.envS = c.envS := (rfl)
@[go_sem] theorem noI_envY (c : Ctx) : c.noI.envY = c.envY := (rfl)
@[go_sem] theorem noI_tab (c : Ctx) : c.noI.tab = c.tab := (rfl)
@[go_sem] theorem withY_drawn (c : Ctx) (l : Nat) (Y : Con) : (c.withY l Y).drawn = c.drawn := (rfl)
@[go_sem] theorem withY_envF (c : Ctx) (l : Nat) (Y : Con) : (c.withY l Y).envF = c.envF := (rfl)
@[go_sem] theorem withY_envS (c : Ctx) (l : Nat) (Y : Con) : (c.withY l Y).envS = c.envS := (rfl)
@[go_sem] theorem withY_envY (c : Ctx) (l l' : Nat) (Y : Con) (a : List AV) (K' : AOut → List AObj → Prop) : (c.withY l Y).envY l' a h K' = (l' = l ∧ Y a h K') := (rfl)
@[go_sem] theorem rangeX_fn (iterS : FuncId → Con → Con) (f : FuncId) (cap : List AV) (rd : Nat → Loop → Con) (fin : Nat → Loop → AOut → List AObj → Prop) :
    rangeX iterS (.fn (.func f) [] cap) h rd fin = rangeY iterS f cap h rd fin := (rfl)
@[go_sem] theorem rangeY_eq (iterS : FuncId → Con → Con) (f : FuncId) (cap : List AV) (rd : Nat → Loop → Con) (fin : Nat → Loop → AOut → List AObj → Prop) :
    rangeY iterS f cap h rd fin = ∀ (l : Nat) (r : Loop), iterS f (rd h.length r) (.fn (.yield l) [] [] :: cap) (h ++ [.lp .ready none r]) (fin h.length r) := (rfl)
@[go_sem] theorem boxH_nil : boxH [] h = h := (rfl)
@[go_sem] theorem boxH_cons (a : AV) (r : List AV) : boxH (a :: r) h = boxH r (promP a h) := (rfl)
@[go_sem] theorem promP_ptr (id : Nat) : promP (.ptr id []) h = promO id (h.getD id .dead) h := (rfl)
@[go_sem] theorem promB_nil (i : Nat) : promB [] i h = h := (rfl)
@[go_sem] theorem promB_cons (o : AObj) (r : List AObj) (i : Nat) : promB (o :: r) i h = promB r (i + 1) (promO i o h) := (rfl)
@[go_sem] theorem promO_box (v : AV) (i : Nat) : promO i (.box v) h = promS i (promA v h.length) h := (rfl)
@[go_sem] theorem promO_row (k : RK) (v i : Nat) (l : Lst) : promO i (.row k v l) h = h := (rfl)
@[go_sem] theorem promO_mp (m : MapC) (i : Nat) : promO i (.map m) h = h := (rfl)
@[go_sem] theorem promO_lp (st : LoopState) (pd : Option Code) (r : Loop) (i : Nat) : promO i (.lp st pd r) h = h := (rfl)
@[go_sem] theorem promO_dead (i : Nat) : promO i .dead h = h := (rfl)
@[go_sem] theorem promS_nil (i : Nat) (v : AV) : promS i (v, []) h = h := (rfl)
@[go_sem] theorem promS_cons (i : Nat) (v : AV) (l : Lst) (r : List Lst) : promS i (v, l :: r) h = (h ++ rowsOf (l :: r)).set i (.box v) := (rfl)
@[go_sem] theorem rowsOf_nil : rowsOf [] = [] := (rfl)
@[go_sem] theorem rowsOf_cons (l : Lst) (r : List Lst) : rowsOf (l :: r) = .row .own 0 l :: rowsOf r := (rfl)
@[go_sem] theorem promAs_nil (i : Nat) : promAs [] i = ([], []) := (rfl)
@[go_sem] theorem promAs_cons (v : AV) (r : List AV) (n : Nat) : promAs (v :: r) n = ((promA v n).1 :: (promAs r (n + (promA v n).2.length)).1, (promA v n).2 ++ (promAs r (n + (promA v n).2.length)).2) := (rfl)
@[go_sem] theorem promA_agg (vs : List AV) (n : Nat) : promA (.agg vs) n = (.agg (promAs vs n).1, (promAs vs n).2) := (rfl)
@[go_sem] theorem promA_slt (l : Lst) (n : Nat) : promA (.sl true l) n = promL l n := (rfl)
@[go_sem] theorem promA_slf (l : Lst) (i : Nat) : promA (.sl false l) i = (.sl false l, []) := (rfl)
@[go_sem] theorem promA_int (k : IntKind) (n : Int) (i : Nat) : promA (.int k n) i = (.int k n, []) := (rfl)
@[go_sem] theorem promA_bool (b : Bool) (i : Nat) : promA (.bool b) i = (.bool b, []) := (rfl)
@[go_sem] theorem promA_str (b : Bytes) (i : Nat) : promA (.str b) i = (.str b, []) := (rfl)
@[go_sem] theorem promA_sref (x : Bool) (a b c d : Nat) (i : Nat) : promA (.sref x a b c d) i = (.sref x a b c d, []) := (rfl)
@[go_sem] theorem promA_map (a : Nat) (i : Nat) : promA (.map a) i = (.map a, []) := (rfl)
@[go_sem] theorem promA_ptr (a : Nat) (p : List PS) (i : Nat) : promA (.ptr a p) i = (.ptr a p, []) := (rfl)
@[go_sem] theorem promA_fn (f : Fn) (a b : List AV) (i : Nat) : promA (.fn f a b) i = (.fn f a b, []) := (rfl)
@[go_sem] theorem promA_nilp (i : Nat) : promA .nilp i = (.nilp, []) := (rfl)
@[go_sem] theorem promA_nilfn (i : Nat) : promA .nilfn i = (.nilfn, []) := (rfl)
@[go_sem] theorem promA_niliface (i : Nat) : promA .niliface i = (.niliface, []) := (rfl)
@[go_sem] theorem promA_iface (t : TypeId) (v : AV) (i : Nat) : promA (.iface t v) i = (.iface t v, []) := (rfl)
@[go_sem] theorem promA_top (i : Nat) : promA .top i = (.top, []) := (rfl)
@[go_sem] theorem promA_und (i : Nat) : promA .und i = (.und, []) := (rfl)
@[go_sem] theorem promA_arr (l : Lst) (i : Nat) : promA (.arr l) i = (.arr l, []) := (rfl)
@[go_sem] theorem promL_ints (k : IntKind) (n : Nat) : promL (.ints k []) n = (.sref false n 0 0 0, [.ints k []]) := (rfl)
@[go_sem] theorem promL_bools (n : Nat) : promL (.bools []) n = (.sref false n 0 0 0, [.bools []]) := (rfl)
@[go_sem] theorem promL_strs (n : Nat) : promL (.strs []) n = (.sref false n 0 0 0, [.strs []]) := (rfl)
@[go_sem] theorem promL_pends (n : Nat) : promL (.pends []) n = (.sref false n 0 0 0, [.pends []]) := (rfl)
@[go_sem] theorem promL_mics (n : Nat) : promL (.mics []) n = (.sref false n 0 0 0, [.mics []]) := (rfl)
@[go_sem] theorem promL_recs (n : Nat) : promL (.recs []) n = (.sref false n 0 0 0, [.recs []]) := (rfl)
@[go_sem] theorem promL_pairs (n : Nat) : promL (.pairs []) n = (.sref false n 0 0 0, [.pairs []]) := (rfl)
@[go_sem] theorem promL_slots (n : Nat) : promL (.slots []) n = (.sref false n 0 0 0, [.slots []]) := (rfl)
@[go_sem] theorem lpIs_eq (id : Nat) (st : LoopState) (r : Loop) : lpIs h id st r = (h[id]? = some (.lp st none r)) := (rfl)
@[go_sem] theorem argX0_nil (A : Prop) : argX0 [] A = A := (rfl)
@[go_sem] theorem argX1_cons (v : AV) (vs : List AV) (A : AV → Prop) : argX1 (v :: vs) A = argX0 vs (A v) := (rfl)
@[go_sem] theorem argX2_cons (v : AV) (vs : List AV) (A : AV → AV → Prop) : argX2 (v :: vs) A = argX1 vs (A v) := (rfl)
section
variable (id : Nat) (r r' : Loop) (kn kr : List AObj → Prop) (ke kg : Nat → List AObj → Prop) (kp : AV → List AObj → Prop)
@[go_sem] theorem endX_ret (v : AV) : endX id r (.ret v) h kn kr ke kg kp = endO (h[id]?) id r h kn kr ke kg := (rfl)
@[go_sem] theorem endX_pan (v : AV) : endX id r (.pan v) h kn kr ke kg kp = kp v h := (rfl)
@[go_sem] theorem endO_ready : endO (some (.lp .ready none r')) id r h kn kr ke kg = (r' = r ∧ kn (h.set id (.lp .exhausted none r))) := (rfl)
@[go_sem] theorem endO_ret : endO (some (.lp .done (some .ret) r')) id r h kn kr ke kg = (r' = r ∧ kr (h.set id (.lp .exhausted (some .ret) r))) := (rfl)
@[go_sem] theorem endO_exit (i : Nat) : endO (some (.lp .done (some (.exit i)) r')) id r h kn kr ke kg = (r' = r ∧ ke i (h.set id (.lp .exhausted (some (.exit i)) r))) := (rfl)
@[go_sem] theorem endO_goto (i : Nat) : endO (some (.lp .done (some (.goto i)) r')) id r h kn kr ke kg = (r' = r ∧ kg i (h.set id (.lp .exhausted (some (.goto i)) r))) := (rfl)
end
@[go_sem] theorem exitW_eq (i id : Nat) (A B : Prop) : exitW i id A B = match Nat.beq i id with
  | true => A
  | false => B := (rfl)
@[go_sem] theorem noS_drawn (c : Ctx) : c.noS.drawn = true := (rfl)
@[go_sem] theorem noS_envF (c : Ctx) : c.noS.envF = c.envF := (rfl)
@[go_sem] theorem noS_tab (c : Ctx) : c.noS.tab = c.tab := (rfl)
@[go_sem] theorem noS_envS (c : Ctx) (f : FuncId) (a : List AV) (K' : AOut → List AObj → Prop) : c.noS.envS f a h K' = False := (rfl)
@[go_sem] theorem outW_ret : outW K KP (.ret v) h = K v h := (rfl)
@[go_sem] theorem outW_pan : outW K KP (.pan v) h = KP v h := (rfl)
@[go_sem] theorem loadRes_p (K : AV → Prop) : loadRes (pD S v) K = (S ∧ K v) := (rfl)
@[go_sem] theorem someD_some {α : Type} (a : α) (f : α → D) : someD (some a) f = f a := (rfl)
@[go_sem] theorem someD_none {α : Type} (f : α → D) : someD (none : Option α) f = none := (rfl)
end runs

section congrs
variable {K KP : AV → List AObj → Prop} {h h' : List AObj}
@[congr] theorem runD_congr {x x' : D} (e : x = x') (e' : h = h') : runD x h K = runD x' h' K := by rw [e, e']
@[congr] theorem runH_congr {x x' : Option (Prop × Nat × AObj)} (e : x = x') (e' : h = h') : runH x h K = runH x' h' K := by rw [e, e']
@[congr] theorem runM_congr {x x' : Option (Prop × AV × Nat × AObj)} (e : x = x') (e' : h = h') : runM x h K = runM x' h' K := by rw [e, e']
@[congr] theorem runDM_congr {x x' : D} {y : Option (Prop × AV × Nat × AObj)} (e : x = x') (e' : h = h') : runDM x y h K = runDM x' y h' K := by rw [e, e']
@[congr] theorem condW_congr {v v' : AV} {A B : Prop} (e : v = v') : condW v A B = condW v' A B := by rw [e]
@[congr] theorem guardW_congr {v v' : AV} {w : Bool} {A B : Prop} (e : v = v') : guardW v w A B = guardW v' w A B := by rw [e]
@[congr] theorem nilEqO_congr {x x' : Option Nat} (e' : x = x') (e : h = h') : nilEqO x h K = nilEqO x' h' K := by rw [e, e']
@[congr] theorem boxW_congr {d d' : TyD} {x x' : AV} (e2 : d = d') (e' : x = x') (e : h = h') : boxW d x h K = boxW d' x' h' K := by rw [e, e', e2]
@[congr] theorem panW_congr {x x' : AV} (e' : x = x') (e : h = h') : panW x h KP = panW x' h' KP := by rw [e, e']
@[congr] theorem whenP_congr {b b' : Bool} {A : Prop} (e : b = b') : whenP b A = whenP b' A := by rw [e]
@[congr] theorem callW_congr {c : Ctx} {f f' : AV} {a a' : List AV} (e2 : f = f') (e' : a = a') (e : h = h') : callW c f a h K KP = callW c f' a' h' K KP := by rw [e, e', e2]
@[congr] theorem callR_congr {dr dr' : Bool} {x x' : Option (Bool × D)} {rows rows' : List Nat} {els : Prop} (e2 : dr = dr') (e : x = x') (e3 : rows = rows') (e' : h = h') : callR dr x rows h K els = callR dr' x' rows' h' K els := by rw [e, e', e2, e3]
@[congr] theorem sepW_congr {t t' : List (Nat × AV)} {l : List (Option Operand × List Operand)} {A : Prop} (e : t = t') : sepW t l A = sepW t' l A := by rw [e]
@[congr] theorem loadRes_congr {x x' : D} {K : AV → Prop} (e : x = x') : loadRes x K = loadRes x' K := by rw [e]
@[congr] theorem promV_congr {fs : List Bool} {vs vs' : List AV} {K : List AV → List AObj → Prop} (e : vs = vs') (e' : h = h') : promV fs vs h K = promV fs vs' h' K := by rw [e, e']
end congrs

section lists
@[go_sem] theorem sizes_nil : AV.sizes [] = 0 := (rfl)
@[go_sem] theorem sizes_cons (v : AV) (r : List AV) : AV.sizes (v :: r) = v.size + AV.sizes r := (rfl)
@[go_sem] theorem size_agg (vs : List AV) : (AV.agg vs).size = AV.sizes vs := (rfl)
@[go_sem] theorem size_int (k : IntKind) (n : Int) : (AV.int k n).size = 1 := (rfl)
@[go_sem] theorem size_bool (b : Bool) : (AV.bool b).size = 1 := (rfl)
@[go_sem] theorem size_str (s : Bytes) : (AV.str s).size = 1 := (rfl)
@[go_sem] theorem size_sl (x : Bool) (l : Lst) : (AV.sl x l).size = 1 := (rfl)
@[go_sem] theorem size_sref (x : Bool) (a b c d : Nat) : (AV.sref x a b c d).size = 1 := (rfl)
@[go_sem] theorem size_ptr (a : Nat) (p : List PS) : (AV.ptr a p).size = 1 := (rfl)
@[go_sem] theorem size_nilp : (AV.nilp).size = 1 := (rfl)
@[go_sem] theorem size_ep (l : Lst) (a : Nat) (p : List PS) : (AV.ep l a p).size = 1 := (rfl)
@[go_sem] theorem size_map (a : Nat) : (AV.map a).size = 1 := (rfl)
@[go_sem] theorem size_fn (f : Fn) (a b : List AV) : (AV.fn f a b).size = 1 := (rfl)
@[go_sem] theorem size_top : (AV.top).size = 1 := (rfl)
@[go_sem] theorem size_nilfn : (AV.nilfn).size = 1 := (rfl)
@[go_sem] theorem size_iface (t : TypeId) (v : AV) : (AV.iface t v).size = 1 := (rfl)
@[go_sem] theorem size_niliface : (AV.niliface).size = 1 := (rfl)
@[go_sem] theorem tsize_int (k : IntKind) : (TyD.int k).size = 1 := (rfl)
@[go_sem] theorem tsize_bool : TyD.bool.size = 1 := (rfl)
@[go_sem] theorem tsize_str : TyD.str.size = 1 := (rfl)
@[go_sem] theorem tsize_slice (e : LK) : (TyD.slice e).size = 1 := (rfl)
@[go_sem] theorem tsize_ptr : TyD.ptr.size = 1 := (rfl)
@[go_sem] theorem tsize_map (m : MK) : (TyD.map m).size = 1 := (rfl)
@[go_sem] theorem tsize_func : TyD.func.size = 1 := (rfl)
@[go_sem] theorem tsize_other : TyD.other.size = 1 := (rfl)
@[go_sem] theorem tsize_strct (fs : List TyD) : (TyD.strct fs).size = TyD.sizes fs := (rfl)
@[go_sem] theorem tsizes_nil : TyD.sizes [] = 0 := (rfl)
@[go_sem] theorem tsizes_cons (t : TyD) (r : List TyD) : TyD.sizes (t :: r) = t.size + TyD.sizes r := (rfl)
@[go_sem] theorem zero_int (k : IntKind) : (TyD.int k).zero = .int k 0 := (rfl)
@[go_sem] theorem zero_bool : TyD.bool.zero = .bool false := (rfl)
@[go_sem] theorem zero_str : TyD.str.zero = .str [] := (rfl)
@[go_sem] theorem zero_slice (e : LK) : (TyD.slice e).zero = .sl true e.empty := (rfl)
@[go_sem] theorem zero_ptr : TyD.ptr.zero = .nilp := (rfl)
@[go_sem] theorem zero_map (m : MK) : (TyD.map m).zero = .top := (rfl)
@[go_sem] theorem zero_func : TyD.func.zero = .nilfn := (rfl)
@[go_sem] theorem zero_arr (n : Nat) (e : LK) : (TyD.arr n e).zero = .arr (e.zeros n) := (rfl)
@[go_sem] theorem zero_strct (fs : List TyD) : (TyD.strct fs).zero = .agg (TyD.zeros fs) := (rfl)
@[go_sem] theorem zeros_nil : TyD.zeros [] = [] := (rfl)
@[go_sem] theorem zeros_cons (t : TyD) (r : List TyD) : TyD.zeros (t :: r) = t.zero :: TyD.zeros r := (rfl)
@[go_sem] theorem empty_int (k : IntKind) : (LK.int k).empty = .ints k [] := (rfl)
@[go_sem] theorem empty_bool : LK.bool.empty = .bools [] := (rfl)
@[go_sem] theorem empty_str : LK.str.empty = .strs [] := (rfl)
@[go_sem] theorem empty_pend : LK.pend.empty = .pends [] := (rfl)
@[go_sem] theorem empty_mic : LK.mic.empty = .mics [] := (rfl)
@[go_sem] theorem empty_rcd : LK.rcd.empty = .recs [] := (rfl)
@[go_sem] theorem empty_pair : LK.pair.empty = .pairs [] := (rfl)
@[go_sem] theorem empty_slot : LK.slot.empty = .slots [] := (rfl)
@[go_sem] theorem zeros_int (n : Nat) (k : IntKind) : (LK.int k).zeros n = .ints k (List.replicate n 0) := (rfl)
@[go_sem] theorem zeros_bool (n : Nat) : LK.bool.zeros n = .bools (List.replicate n false) := (rfl)
@[go_sem] theorem zeros_pend (n : Nat) : LK.pend.zeros n = .pends (List.replicate n ⟨0, 0, false⟩) := (rfl)
@[go_sem] theorem zeros_mic (n : Nat) : LK.mic.zeros n = .mics (List.replicate n ⟨0, 0, 0⟩) := (rfl)
@[go_sem] theorem zeros_slot (n : Nat) : LK.slot.zeros n = .slots (List.replicate n ⟨0, 0⟩) := (rfl)
@[go_sem] theorem zeros_rcd (n : Nat) : LK.rcd.zeros n = .recs (List.replicate n ⟨0, [], [], 0⟩) := (rfl)
@[go_sem] theorem zeros_pair (n : Nat) : LK.pair.zeros n = .pairs (List.replicate n ⟨[], []⟩) := (rfl)
@[go_sem] theorem zeros_str (n : Nat) : LK.str.zeros n = .strs (List.replicate n []) := (rfl)
@[go_sem] theorem lksize_int (k : IntKind) : (LK.int k).size = 1 := (rfl)
@[go_sem] theorem lksize_bool : LK.bool.size = 1 := (rfl)
@[go_sem] theorem lksize_str : LK.str.size = 1 := (rfl)
@[go_sem] theorem lksize_pend : LK.pend.size = 3 := (rfl)
@[go_sem] theorem lksize_mic : LK.mic.size = 3 := (rfl)
@[go_sem] theorem lksize_rcd : LK.rcd.size = 4 := (rfl)
@[go_sem] theorem lksize_pair : LK.pair.size = 2 := (rfl)
@[go_sem] theorem lksize_slot : LK.slot.size = 2 := (rfl)
variable (k : IntKind) (xs ys : List Int) (bs cs : List Bool) (ps qs : List Pend) (ms ns : List Mic) (rs ss : List RecT) (ts us : List PairT) (vs ws : List SlotT) (ys1 ys2 : List Bytes) (i n : Nat)
@[go_sem] theorem len_ints : (Lst.ints k xs).len = xs.length := (rfl)
@[go_sem] theorem len_bools : (Lst.bools bs).len = bs.length := (rfl)
@[go_sem] theorem len_strs : (Lst.strs ys1).len = ys1.length := (rfl)
@[go_sem] theorem len_pends : (Lst.pends ps).len = ps.length := (rfl)
@[go_sem] theorem len_mics : (Lst.mics ms).len = ms.length := (rfl)
@[go_sem] theorem len_recs : (Lst.recs rs).len = rs.length := (rfl)
@[go_sem] theorem len_pairs : (Lst.pairs ts).len = ts.length := (rfl)
@[go_sem] theorem len_slots : (Lst.slots vs).len = vs.length := (rfl)
@[go_sem] theorem kind_ints : (Lst.ints k xs).kind = .int k := (rfl)
@[go_sem] theorem kind_bools : (Lst.bools bs).kind = .bool := (rfl)
@[go_sem] theorem kind_strs : (Lst.strs ys1).kind = .str := (rfl)
@[go_sem] theorem kind_pends : (Lst.pends ps).kind = .pend := (rfl)
@[go_sem] theorem kind_mics : (Lst.mics ms).kind = .mic := (rfl)
@[go_sem] theorem kind_recs : (Lst.recs rs).kind = .rcd := (rfl)
@[go_sem] theorem kind_pairs : (Lst.pairs ts).kind = .pair := (rfl)
@[go_sem] theorem kind_slots : (Lst.slots vs).kind = .slot := (rfl)
@[go_sem] theorem nth_ints : (Lst.ints k xs).nth i = .int k (xs.getD i 0) := (rfl)
@[go_sem] theorem nth_bools : (Lst.bools bs).nth i = .bool (bs.getD i false) := (rfl)
@[go_sem] theorem nth_strs : (Lst.strs ys1).nth i = .str (ys1.getD i []) := (rfl)
@[go_sem] theorem nth_pends : (Lst.pends ps).nth i = .agg [.int .i64 (ps.getD i ⟨0, 0, false⟩).at_, .int .i64 (ps.getD i ⟨0, 0, false⟩).val, .bool (ps.getD i ⟨0, 0, false⟩).fl] := (rfl)
@[go_sem] theorem nth_mics : (Lst.mics ms).nth i = .agg [.int .i64 (ms.getD i ⟨0, 0, 0⟩).kind, .int .i64 (ms.getD i ⟨0, 0, 0⟩).at_, .int .i64 (ms.getD i ⟨0, 0, 0⟩).val] := (rfl)
@[go_sem] theorem nth_recs : (Lst.recs rs).nth i = .agg [.int .i64 (rs.getD i ⟨0, [], [], 0⟩).kind, .str (rs.getD i ⟨0, [], [], 0⟩).key, .str (rs.getD i ⟨0, [], [], 0⟩).val, .int .i64 (rs.getD i ⟨0, [], [], 0⟩).child] := (rfl)
@[go_sem] theorem nth_pairs : (Lst.pairs ts).nth i = .agg [.str (ts.getD i ⟨[], []⟩).key, .str (ts.getD i ⟨[], []⟩).val] := (rfl)
@[go_sem] theorem nth_slots : (Lst.slots vs).nth i = .agg [.int .i64 (vs.getD i ⟨0, 0⟩).at_, .int .i64 (vs.getD i ⟨0, 0⟩).val] := (rfl)
@[go_sem] theorem cut_ints : (Lst.ints k xs).cut i n = .ints k ((xs.drop i).take n) := (rfl)
@[go_sem] theorem cut_bools : (Lst.bools bs).cut i n = .bools ((bs.drop i).take n) := (rfl)
@[go_sem] theorem cut_strs : (Lst.strs ys1).cut i n = .strs ((ys1.drop i).take n) := (rfl)
@[go_sem] theorem cut_pends : (Lst.pends ps).cut i n = .pends ((ps.drop i).take n) := (rfl)
@[go_sem] theorem cut_mics : (Lst.mics ms).cut i n = .mics ((ms.drop i).take n) := (rfl)
@[go_sem] theorem cut_recs : (Lst.recs rs).cut i n = .recs ((rs.drop i).take n) := (rfl)
@[go_sem] theorem cut_pairs : (Lst.pairs ts).cut i n = .pairs ((ts.drop i).take n) := (rfl)
@[go_sem] theorem cut_slots : (Lst.slots vs).cut i n = .slots ((vs.drop i).take n) := (rfl)
@[go_sem] theorem app_ints : (Lst.ints k xs).app (.ints k ys) = some (.ints k (xs ++ ys)) := by simp [Lst.app]
@[go_sem] theorem app_bools : (Lst.bools bs).app (.bools cs) = some (.bools (bs ++ cs)) := (rfl)
@[go_sem] theorem app_strs : (Lst.strs ys1).app (.strs ys2) = some (.strs (ys1 ++ ys2)) := (rfl)
@[go_sem] theorem app_pends : (Lst.pends ps).app (.pends qs) = some (.pends (ps ++ qs)) := (rfl)
@[go_sem] theorem app_mics : (Lst.mics ms).app (.mics ns) = some (.mics (ms ++ ns)) := (rfl)
@[go_sem] theorem app_recs : (Lst.recs rs).app (.recs ss) = some (.recs (rs ++ ss)) := (rfl)
@[go_sem] theorem app_pairs : (Lst.pairs ts).app (.pairs us) = some (.pairs (ts ++ us)) := (rfl)
@[go_sem] theorem app_slots : (Lst.slots vs).app (.slots ws) = some (.slots (vs ++ ws)) := (rfl)
variable (a b : Int) (x y : Bytes) (p q : Bool)
@[go_sem] theorem set_ints : (Lst.ints k xs).set i (.int k a) = some (.ints k (xs.set i a)) := by simp [Lst.set]
@[go_sem] theorem set_bools : (Lst.bools bs).set i (.bool p) = some (.bools (bs.set i p)) := (rfl)
@[go_sem] theorem set_strs : (Lst.strs ys1).set i (.str x) = some (.strs (ys1.set i x)) := (rfl)
@[go_sem] theorem set_pends : (Lst.pends ps).set i (.agg [.int .i64 a, .int .i64 b, .bool p]) = some (.pends (ps.set i ⟨a, b, p⟩)) := (rfl)
@[go_sem] theorem set_mics (c : Int) : (Lst.mics ms).set i (.agg [.int .i64 a, .int .i64 b, .int .i64 c]) = some (.mics (ms.set i ⟨a, b, c⟩)) := (rfl)
@[go_sem] theorem set_recs : (Lst.recs rs).set i (.agg [.int .i64 a, .str x, .str y, .int .i64 b]) = some (.recs (rs.set i ⟨a, x, y, b⟩)) := (rfl)
@[go_sem] theorem set_pairs : (Lst.pairs ts).set i (.agg [.str x, .str y]) = some (.pairs (ts.set i ⟨x, y⟩)) := (rfl)
@[go_sem] theorem set_slots : (Lst.slots vs).set i (.agg [.int .i64 a, .int .i64 b]) = some (.slots (vs.set i ⟨a, b⟩)) := (rfl)
end lists

section ops
variable (k : IntKind) (a b : Int) (x y : Bytes) (p q : Bool) (h : List AObj) (op : BinOp) (vs ws : List AV) (l l' : Lst) (S : Prop)
@[go_sem] theorem at_nil (v : AV) : v.at_ [] = some v := by cases v <;> exact (rfl)
@[go_sem] theorem at_agg (i off : Nat) (ps : List PS) : (AV.agg vs).at_ (.f i off :: ps) = if AV.sizes (vs.take i) = off then (vs[i]?).bind fun v => v.at_ ps else none := (rfl)
@[go_sem] theorem setAt_nil (u v : AV) : u.setAt [] v = if u.size = v.size then some v else none := by cases u <;> exact (rfl)
@[go_sem] theorem setAt_agg (i off : Nat) (ps : List PS) (v : AV) : (AV.agg vs).setAt (.f i off :: ps) v = if AV.sizes (vs.take i) = off then (vs[i]?).bind fun u => (u.setAt ps v).map fun u' => .agg (vs.set i u') else none := (rfl)
@[go_sem] theorem binD_int (d : TyD) : binD d op (.int k a) (.int k b) = intBinD op k a b := by simp [binD]
@[go_sem] theorem binD_shl (d : TyD) (k' : IntKind) : binD d .shl (.int k a) (.int k' b) = intBinD .shl k a b := by simp [binD, isShift]
@[go_sem] theorem binD_shr (d : TyD) (k' : IntKind) : binD d .shr (.int k a) (.int k' b) = intBinD .shr k a b := by simp [binD, isShift]
@[go_sem] theorem binD_str (d : TyD) : binD d op (.str x) (.str y) = strBinD op x y := (rfl)
@[go_sem] theorem binD_bool (d : TyD) : binD d op (.bool p) (.bool q) = eqOpD op (AV.eqD d (.bool p) (.bool q)) := (rfl)
@[go_sem] theorem binD_agg (d : TyD) : binD d op (.agg vs) (.agg ws) = eqOpD op (AV.eqD d (.agg vs) (.agg ws)) := (rfl)
@[go_sem] theorem binD_arr (d : TyD) : binD d op (.arr l) (.arr l') = eqOpD op (AV.eqD d (.arr l) (.arr l')) := (rfl)
@[go_sem] theorem binD_nilfn (d : TyD) : binD d op .nilfn .nilfn = eqOpD op (AV.eqD d .nilfn .nilfn) := (rfl)
@[go_sem] theorem eqOpD_eql : eqOpD .eql (some p) = pD True (.bool p) := (rfl)
@[go_sem] theorem eqOpD_neq : eqOpD .neq (some p) = pD True (.bool (!p)) := (rfl)
@[go_sem] theorem eqD_int (k' : IntKind) : AV.eqD (.int k') (.int k a) (.int k b) = some (decide (a = b)) := by simp [AV.eqD, scalEq]
@[go_sem] theorem eqD_str : AV.eqD .str (.str x) (.str y) = some (decide (x = y)) := by simp [AV.eqD, scalEq]
@[go_sem] theorem eqD_bool : AV.eqD .bool (.bool p) (.bool q) = some (p == q) := by simp [AV.eqD, scalEq]
@[go_sem] theorem eqD_nilfn : AV.eqD .func .nilfn .nilfn = some true := by simp [AV.eqD, scalEq]
@[go_sem] theorem eqD_agg (fs : List TyD) : AV.eqD (.strct fs) (.agg vs) (.agg ws) = AV.eqsD fs vs ws := by simp [AV.eqD]
@[go_sem] theorem eqD_arr (n : Nat) (xs ys : List Int) : AV.eqD (.arr n (.int k)) (.arr (.ints k xs)) (.arr (.ints k ys)) = if xs.length = n ∧ ys.length = n then some (decide (xs = ys)) else none := by simp [AV.eqD, scalEq]
@[go_sem] theorem eqsD_nil : AV.eqsD [] [] [] = some true := by simp [AV.eqsD]
def bothO : Option Bool → Option Bool → Option Bool
  | some a, some b => some (a && b)
  | _, _ => none
@[go_sem] theorem eqsD_cons (d : TyD) (ds : List TyD) (v w : AV) (r r' : List AV) : AV.eqsD (d :: ds) (v :: r) (w :: r') = bothO (AV.eqD d v w) (AV.eqsD ds r r') := by
  simp only [AV.eqsD]; cases AV.eqD d v w <;> cases AV.eqsD ds r r' <;> rfl
@[go_sem] theorem bothO_some : bothO (some p) (some q) = some (p && q) := (rfl)
@[go_sem] theorem ib_add : intBinD .add k a b = pD True (.int k (k.wrap (a + b))) := (rfl)
@[go_sem] theorem ib_sub : intBinD .sub k a b = pD True (.int k (k.wrap (a - b))) := (rfl)
@[go_sem] theorem ib_mul : intBinD .mul k a b = pD True (.int k (k.wrap (a * b))) := (rfl)
@[go_sem] theorem ib_quo : intBinD .quo k a b = pD (b ≠ 0) (.int k (k.wrap (a.tdiv b))) := (rfl)
@[go_sem] theorem ib_rem : intBinD .rem k a b = pD (b ≠ 0) (.int k (a.tmod b)) := (rfl)
@[go_sem] theorem ib_and : intBinD .and k a b = pD True (.int k (andI k a b)) := (rfl)
@[go_sem] theorem ib_or : intBinD .or k a b = pD True (.int k (orI k a b)) := (rfl)
@[go_sem] theorem ib_xor : intBinD .xor k a b = pD True (.int k (xorI k a b)) := (rfl)
@[go_sem] theorem ib_andNot : intBinD .andNot k a b = pD True (.int k (andNotI k a b)) := (rfl)
@[go_sem] theorem ib_shl : intBinD .shl k a b = pD (0 ≤ b) (.int k (k.wrap (a * 2 ^ (min b.toNat k.bits)))) := (rfl)
@[go_sem] theorem ib_shr : intBinD .shr k a b = pD (0 ≤ b) (.int k (a.fdiv (2 ^ (min b.toNat k.bits)))) := (rfl)
@[go_sem] theorem ib_eql : intBinD .eql k a b = pD True (.bool (decide (a = b))) := (rfl)
@[go_sem] theorem ib_neq : intBinD .neq k a b = pD True (.bool (!decide (a = b))) := (rfl)
@[go_sem] theorem ib_lss : intBinD .lss k a b = pD True (.bool (decide (a < b))) := (rfl)
@[go_sem] theorem ib_leq : intBinD .leq k a b = pD True (.bool (decide (a ≤ b))) := (rfl)
@[go_sem] theorem ib_gtr : intBinD .gtr k a b = pD True (.bool (decide (b < a))) := (rfl)
@[go_sem] theorem ib_geq : intBinD .geq k a b = pD True (.bool (decide (b ≤ a))) := (rfl)
@[go_sem] theorem sb_add : strBinD .add x y = pD (x.length + y.length ≤ 1099511627776) (.str (x ++ y)) := (rfl)
@[go_sem] theorem sb_eql : strBinD .eql x y = pD True (.bool (decide (x = y))) := (rfl)
@[go_sem] theorem sb_neq : strBinD .neq x y = pD True (.bool (!decide (x = y))) := (rfl)
@[go_sem] theorem sb_lss : strBinD .lss x y = pD True (.bool (ltB x y)) := (rfl)
@[go_sem] theorem sb_gtr : strBinD .gtr x y = pD True (.bool (ltB y x)) := (rfl)
@[go_sem] theorem sb_leq : strBinD .leq x y = pD True (.bool (!ltB y x)) := (rfl)
@[go_sem] theorem sb_geq : strBinD .geq x y = pD True (.bool (!ltB x y)) := (rfl)
@[go_sem] theorem listO_row (rk : RK) (ver ver' off len : Nat) : listO (some (.row rk ver' l)) ver off len = if ver = ver' then some (l.cut off len) else none := (rfl)
@[go_sem] theorem list_sl (x : Bool) : (AV.sl x l).list h = some l := (rfl)
@[go_sem] theorem list_sref (x : Bool) (id ver off len : Nat) : (AV.sref x id ver off len).list h = listO (h[id]?) ver off len := (rfl)
@[go_sem] theorem lenO_row (rk : RK) (ver ver' len : Nat) : lenO (some (.row rk ver' l)) ver len = if ver = ver' then some len else none := (rfl)
@[go_sem] theorem avlen_sl (e : LK) (x : Bool) : (AV.sl x l).len (.slice e) h = some l.len := (rfl)
@[go_sem] theorem avlen_sref (e : LK) (x : Bool) (id ver off len : Nat) : (AV.sref x id ver off len).len (.slice e) h = lenO (h[id]?) ver len := (rfl)
@[go_sem] theorem avlen_str : (AV.str x).len .str h = some x.length := (rfl)
@[go_sem] theorem avlen_arr (n : Nat) (e : LK) (v : AV) : v.len (.arr n e) h = some n := (rfl)
@[go_sem] theorem lenD_eq (d : TyD) (v : AV) : lenD d h v = someD (v.len d h) fun n => pD True (.int .i64 n) := (rfl)
@[go_sem] theorem slc_slice (e : LK) : (TyD.slice e).slc = true := (rfl)
@[go_sem] theorem isSlice_slice (e e' : LK) : (TyD.slice e).isSlice e' = decide (e = e') := (rfl)
@[go_sem] theorem isArr_arr (n m : Nat) (e e' : LK) : (TyD.arr n e).isArr m e' = (decide (n = m) && decide (e = e')) := (rfl)
@[go_sem] theorem isStr_str : TyD.str.isStr = true := (rfl)
@[go_sem] theorem rowKind_row (rk : RK) (ver : Nat) : rowKind (some (.row rk ver l)) = some l.kind := (rfl)
@[go_sem] theorem fitsRow_slice (e e' : LK) : (TyD.slice e).fitsRow (some e') = decide (e = e') := (rfl)
@[go_sem] theorem verB_row (rk : RK) (ver ver' : Nat) : verB (some (.row rk ver' l)) ver = decide (ver = ver') := (rfl)
@[go_sem] theorem isMap_ib : (TyD.map .ib).isMap .ib = true := (rfl)
@[go_sem] theorem isMap_ii : (TyD.map .ii).isMap .ii = true := (rfl)
@[go_sem] theorem isMap_sb : (TyD.map .sb).isMap .sb = true := (rfl)
@[go_sem] theorem isMap_ifn : (TyD.map .ifn).isMap .ifn = true := (rfl)
@[go_sem] theorem known_int : (TyD.int k).known = true := (rfl)
@[go_sem] theorem known_bool : TyD.bool.known = true := (rfl)
@[go_sem] theorem known_str : TyD.str.known = true := (rfl)
@[go_sem] theorem known_strct (fs : List TyD) : (TyD.strct fs).known = true := (rfl)
@[go_sem] theorem loadD_ptr (id : Nat) (ps : List PS) : loadD h (.ptr id ps) = loadO (h[id]?) ps := (rfl)
@[go_sem] theorem loadD_ep (i : Nat) (fs : List PS) : loadD h (.ep l i fs) = someD ((l.nth i).at_ fs) fun v => pD True v := (rfl)
@[go_sem] theorem loadO_box (v : AV) (ps : List PS) : loadO (some (.box v)) ps = someD (v.at_ ps) fun u => pD True u := (rfl)
@[go_sem] theorem loadO_arr (ver : Nat) : loadO (some (.row .arr ver l)) [] = pD True (.arr l) := (rfl)
@[go_sem] theorem loadO_row_i (rk : RK) (ver v i sz : Nat) (ps : List PS) : loadO (some (.row rk ver l)) (.i v i sz :: ps) = if v = ver ∧ sz = l.kind.size then someD ((l.nth i).at_ ps) fun v => pD (i < l.len) v else none := by cases rk <;> rfl
@[go_sem] theorem storeH_ptr (d : TyD) (id : Nat) (ps : List PS) (v : AV) : storeH d h (.ptr id ps) v = (storeO (h[id]?) ps v).map fun r => (r.1 ∧ fitP d v, id, r.2) := by
  show (match storeO (h[id]?) ps v with | some (S, o) => some (S ∧ fitP d v, id, o) | none => none) = _
  cases storeO (h[id]?) ps v <;> rfl
@[go_sem] theorem storeO_box (u v : AV) (ps : List PS) : storeO (some (.box u)) ps v = (u.setAt ps v).map fun u' => (True, .box u') := by
  show (match u.setAt ps v with | some u' => some (True, AObj.box u') | none => none) = _
  cases u.setAt ps v <;> rfl
@[go_sem] theorem storeO_arr (ver : Nat) : storeO (some (.row .arr ver l)) [] (.arr l') = if l'.kind = l.kind then some (l'.len = l.len, .row .arr ver l') else none := (rfl)
theorem storeO_row_i (rk : RK) (hk : rk ≠ .fro) (ver vr i sz : Nat) (ps : List PS) (v : AV) : storeO (some (.row rk ver l)) (.i vr i sz :: ps) v = if vr = ver ∧ sz = l.kind.size then ((l.nth i).setAt ps v).bind fun u => (l.set i u).map fun l' => (i < l.len, .row rk ver l') else none := by
  have : storeO (some (.row rk ver l)) (.i vr i sz :: ps) v = if vr = ver ∧ sz = l.kind.size ∧ rk ≠ .fro then (match (l.nth i).setAt ps v with
        | some u => match l.set i u with
          | some l' => some (i < l.len, AObj.row rk ver l')
          | none => none
        | none => none) else none := by cases rk <;> rfl
  rw [this]
  have e : (vr = ver ∧ sz = l.kind.size ∧ rk ≠ .fro) ↔ (vr = ver ∧ sz = l.kind.size) := by simp [hk]
  simp only [e]
  congr 1
  cases (l.nth i).setAt ps v with
  | none => rfl
  | some u => show (match l.set i u with | some l' => some (i < l.len, AObj.row rk ver l') | none => none) = _; cases h0 : l.set i u <;> simp [h0]
@[go_sem] theorem storeO_own_i (ver vr i sz : Nat) (ps : List PS) (v : AV) : storeO (some (.row .own ver l)) (.i vr i sz :: ps) v = if vr = ver ∧ sz = l.kind.size then ((l.nth i).setAt ps v).bind fun u => (l.set i u).map fun l' => (i < l.len, .row .own ver l') else none := storeO_row_i l _ (by simp) _ _ _ _ _ _
@[go_sem] theorem storeO_arr_i (ver vr i sz : Nat) (ps : List PS) (v : AV) : storeO (some (.row .arr ver l)) (.i vr i sz :: ps) v = if vr = ver ∧ sz = l.kind.size then ((l.nth i).setAt ps v).bind fun u => (l.set i u).map fun l' => (i < l.len, .row .arr ver l') else none := storeO_row_i l _ (by simp) _ _ _ _ _ _
@[go_sem] theorem mapSetH_map (d : TyD) (id : Nat) (kk v : AV) : mapSetH d h (.map id) kk v = (mapSetO d (h[id]?) kk v).map fun m => (True, id, .map m) := by
  show (match mapSetO d (h[id]?) kk v with | some m => some (True, id, AObj.map m) | none => none) = _
  cases mapSetO d (h[id]?) kk v <;> rfl
@[go_sem] theorem mapSetO_ib (m : Int → Bool) : mapSetO (.map .ib) (some (.map (.ib m))) (.int .i64 a) (.bool p) = some (.ib fun j => if j = a then p else m j) := (rfl)
@[go_sem] theorem mapSetO_ii (m : Int → Int) : mapSetO (.map .ii) (some (.map (.ii m))) (.int .i64 a) (.int .i64 b) = some (.ii fun j => if j = a then b else m j) := (rfl)
@[go_sem] theorem mapSetO_ifn (m : Int → Option FuncId) (f : FuncId) : mapSetO (.map .ifn) (some (.map (.ifn m))) (.int .i64 a) (.fn (.func f) [] []) = some (.ifn fun j => if j = a then some f else m j) := (rfl)
@[go_sem] theorem mapSetO_sb (m : Bytes → Bool) : mapSetO (.map .sb) (some (.map (.sb m))) (.str x) (.bool p) = some (.sb fun j => if j = x then p else m j) := (rfl)
@[go_sem] theorem lookupD_map (d : TyD) (id : Nat) (kk : AV) : lookupD d h (.map id) kk = lookupO d (h[id]?) kk := (rfl)
@[go_sem] theorem lookupO_ib (m : Int → Bool) : lookupO (.map .ib) (some (.map (.ib m))) (.int .i64 a) = pD True (.bool (m a)) := (rfl)
@[go_sem] theorem lookupO_ii (m : Int → Int) : lookupO (.map .ii) (some (.map (.ii m))) (.int .i64 a) = pD True (.int .i64 (m a)) := (rfl)
@[go_sem] theorem lookupO_ifn (m : Int → Option FuncId) : lookupO (.map .ifn) (some (.map (.ifn m))) (.int .i64 a) = pD True (fnOpt (m a)) := (rfl)
@[go_sem] theorem lookupO_sb (m : Bytes → Bool) : lookupO (.map .sb) (some (.map (.sb m))) (.str x) = pD True (.bool (m x)) := (rfl)
@[go_sem] theorem fnOpt_some (f : FuncId) : fnOpt (some f) = .fn (.func f) [] [] := (rfl)
@[go_sem] theorem appendW_sl (d : TyD) (e : LK) (s x : AV) (K : AV → List AObj → Prop) : appendW d (.slice e) s x h K = runDM (appendD d h s x h.length) (appendH d h s x) h K := (rfl)
@[go_sem] theorem appendW_int (d : TyD) (kk : IntKind) (s : AV) (n : Int) (K : AV → List AObj → Prop) : appendW d (.int kk) s (.int .i64 n) h K = ((0 ≤ n ∧ n ≤ 1099511627776) ∧ runDM (appendD d h s (zeroSl d n) h.length) (appendH d h s (zeroSl d n)) h K) := (rfl)
@[go_sem] theorem zeroSl_slice (e : LK) (n : Int) : zeroSl (.slice e) n = .sl true (e.zeros n.toNat) := (rfl)
@[go_sem] theorem appendD_ex (d : TyD) (xs : Lst) (v : AV) (n : Nat) : appendD d h (.sl true xs) v n = whenD (d.isSlice xs.kind) (someD (v.list h) fun ys => appendExD xs ys n) := (rfl)
@[go_sem] theorem appendD_rx (d : TyD) (v : AV) (n id ver off len : Nat) : appendD d h (.sref true id ver off len) v n = whenD (d.fitsRow (rowKind (h[id]?))) (someD (listO (h[id]?) ver off len) fun xs => someD (v.list h) fun ys => appendExD xs ys n) := (rfl)
@[go_sem] theorem appendD_ro (d : TyD) (v : AV) (n id ver off len : Nat) : appendD d h (.sref false id ver off len) v n = none := (rfl)
@[go_sem] theorem appendExD_eq (xs ys : Lst) (s : Nat) : appendExD xs ys s = someD (xs.app ys) fun zs => some ((0 < ys.len ∨ xs.len = 0) ∧ roomy zs.len, .sref false s 0 0 zs.len, [.row .own 0 zs]) := (rfl)
@[go_sem] theorem appendH_ro (d : TyD) (v : AV) (id ver off len : Nat) : appendH d h (.sref false id ver off len) v = if d.fitsRow (rowKind (h[id]?)) = true then appendO (h[id]?) id ver off len (v.list h) else none := (rfl)
@[go_sem] theorem appendO_row (ver ver' id off len : Nat) (ys : Lst) : appendO (some (.row .own ver' l)) id ver off len (some ys) =
    if ver = ver' then (l.app ys).map fun zs => (off = 0 ∧ len = l.len ∧ roomy zs.len, .sref false id (ver + 1) 0 zs.len, id, .row .own (ver + 1) zs) else none := by
  show (if ver = ver' then (match l.app ys with
      | some zs => some (off = 0 ∧ len = l.len ∧ roomy zs.len, AV.sref false id (ver + 1) 0 zs.len, id, AObj.row .own (ver + 1) zs)
      | none => none) else none) = _
  congr 1; cases l.app ys <;> rfl
@[go_sem] theorem copyH_eq (d : TyD) (x : Bool) (id ver off len : Nat) (s : AV) : copyH d h (.sref x id ver off len) s = if d.fitsRow (rowKind (h[id]?)) = true then copyO (h[id]?) id ver off len (s.list h) else none := (rfl)
theorem copyO_row (rk : RK) (hk : rk ≠ .fro) (ver ver' id off len : Nat) (ys : Lst) : copyO (some (.row rk ver' l)) id ver off len (some ys) =
    if ver = ver' then (l.over off len ys).map fun l' => (True, .int .i64 (min len ys.len : Nat), id, .row rk ver' l') else none := by
  show (if ver = ver' ∧ rk ≠ .fro then (match l.over off len ys with
      | some l' => some (True, AV.int .i64 (min len ys.len : Nat), id, AObj.row rk ver' l')
      | none => none) else none) = _
  have e : (ver = ver' ∧ rk ≠ .fro) ↔ ver = ver' := by simp [hk]
  simp only [e]
  congr 1; cases l.over off len ys <;> rfl
@[go_sem] theorem copyO_own (ver ver' id off len : Nat) (ys : Lst) : copyO (some (.row .own ver' l)) id ver off len (some ys) =
    if ver = ver' then (l.over off len ys).map fun l' => (True, .int .i64 (min len ys.len : Nat), id, .row .own ver' l') else none := copyO_row l _ (by simp) _ _ _ _ _ _
@[go_sem] theorem copyO_arr (ver ver' id off len : Nat) (ys : Lst) : copyO (some (.row .arr ver' l)) id ver off len (some ys) =
    if ver = ver' then (l.over off len ys).map fun l' => (True, .int .i64 (min len ys.len : Nat), id, .row .arr ver' l') else none := copyO_row l _ (by simp) _ _ _ _ _ _
@[go_sem] theorem over_ints (xs ys : List Int) (off len : Nat) : (Lst.ints k xs).over off len (.ints k ys) =
    some (.ints k (xs.take off ++ ys.take len ++ (xs.drop (off + min len ys.length)).take (xs.length - (off + min len ys.length)))) := by
  simp [Lst.over, Lst.cut, Lst.app, Lst.len]
@[go_sem] theorem indexAddrD_sl (d : TyD) (x : Bool) (k : IntKind) : indexAddrD d h (.sl x l) (.int k a) = whenD (d.isSlice l.kind) (pD (0 ≤ a ∧ a < l.len) (.ep l a.toNat [])) := (rfl)
@[go_sem] theorem indexAddrD_sref (d : TyD) (x : Bool) (id ver off len : Nat) (k : IntKind) : indexAddrD d h (.sref x id ver off len) (.int k a) = indexArrO (h[id]?) d id ver off len a := (rfl)
@[go_sem] theorem indexAddrD_ptr (d : TyD) (id : Nat) (k : IntKind) : indexAddrD d h (.ptr id []) (.int k a) = indexPtrO (h[id]?) d id a := (rfl)
@[go_sem] theorem indexArrO_row (d : TyD) (rk : RK) (ver ver' id off len : Nat) : indexArrO (some (.row rk ver' l)) d id ver off len a = whenD (d.isSlice l.kind) (if ver = ver' then pD (0 ≤ a ∧ a < len) (.ptr id [.i ver (off + a.toNat) l.kind.size]) else none) := (rfl)
@[go_sem] theorem indexPtrO_arr (d : TyD) (ver id : Nat) : indexPtrO (some (.row .arr ver l)) d id a = whenD (d.isArr l.len l.kind) (pD (0 ≤ a ∧ a < l.len) (.ptr id [.i ver a.toNat l.kind.size])) := (rfl)
@[go_sem] theorem indexD_str (k : IntKind) : indexD .str (.str x) (.int k a) = pD (0 ≤ a ∧ a < x.length) (.int .u8 (x.getD a.toNat 0).toNat) := (rfl)
@[go_sem] theorem indexD_arr (d : TyD) (k : IntKind) : indexD d (.arr l) (.int k a) = whenD (d.isArr l.len l.kind) (pD (0 ≤ a ∧ a < l.len) (l.nth a.toNat)) := (rfl)
@[go_sem] theorem unD_not : unD .not (.bool p) = pD True (.bool (!p)) := (rfl)
@[go_sem] theorem unD_neg : unD .neg (.int k a) = pD True (.int k (k.wrap (0 - a))) := (rfl)
@[go_sem] theorem unD_xor : unD .xor (.int k a) = pD True (.int k (notI k a)) := (rfl)
@[go_sem] theorem convD_int (k1 k' k2 : IntKind) : convD h (.int k1) (.int k') (.int k2 a) = pD True (.int k' (k'.wrap a)) := (rfl)
@[go_sem] theorem convD_str : convD h .str .str (.str x) = pD True (.str x) := (rfl)
@[go_sem] theorem convD_sl (x : Bool) : convD h (.slice (.int .u8)) .str (.sl x l) = bytesD (some l) := (rfl)
@[go_sem] theorem convD_sref (x : Bool) (id ver off len : Nat) : convD h (.slice (.int .u8)) .str (.sref x id ver off len) = bytesD (listO (h[id]?) ver off len) := (rfl)
@[go_sem] theorem bytesD_some (xs : List Int) : bytesD (some (.ints .u8 xs)) = pD True (.str (xs.map fun n => UInt8.ofNat n.toNat)) := (rfl)
@[go_sem] theorem fieldD_eq (fs : List TyD) (f : Nat) : fieldD (.strct fs) (.agg vs) f = if AV.sizes (vs.take f) = TyD.sizes (fs.take f) ∧ f < fs.length ∧ f < vs.length then pD (fitP (fs.getD f .other) (vs.getD f .top)) (vs.getD f .top) else none := (rfl)
@[go_sem] theorem fieldAddrD_ptr (fs : List TyD) (id f : Nat) (ps : List PS) : fieldAddrD (.strct fs) (.ptr id ps) f = if f < fs.length then pD True (.ptr id (ps ++ [.f f (TyD.sizes (fs.take f))])) else none := (rfl)
@[go_sem] theorem fieldAddrD_ep (fs : List TyD) (i f : Nat) (ps : List PS) : fieldAddrD (.strct fs) (.ep l i ps) f = if f < fs.length then pD True (.ep l i (ps ++ [.f f (TyD.sizes (fs.take f))])) else none := (rfl)
@[go_sem] theorem makeSliceD_eq (e : LK) (s : Nat) : makeSliceD (.slice e) (.int .i64 a) (.int .i64 b) s = some (0 ≤ a ∧ a ≤ b ∧ roomy b.toNat, .sref (decide (a = b)) s 0 0 a.toNat, [.row .own 0 (e.zeros a.toNat)]) := (rfl)
@[go_sem] theorem makeMapD_ib (s : Nat) : makeMapD (.map .ib) s = some (True, .map s, [.map (.ib fun _ => false)]) := (rfl)
@[go_sem] theorem makeMapD_ii (s : Nat) : makeMapD (.map .ii) s = some (True, .map s, [.map (.ii fun _ => 0)]) := (rfl)
@[go_sem] theorem makeMapD_sb (s : Nat) : makeMapD (.map .sb) s = some (True, .map s, [.map (.sb fun _ => false)]) := (rfl)
@[go_sem] theorem makeMapD_ifn (s : Nat) : makeMapD (.map .ifn) s = some (True, .map s, [.map (.ifn fun _ => none)]) := (rfl)
@[go_sem] theorem nilCheckD_ptr (id : Nat) (ps : List PS) : nilCheckD (.ptr id ps) = pD True (.ptr id ps) := (rfl)
@[go_sem] theorem nilCheckD_ep (i : Nat) (ps : List PS) : nilCheckD (.ep l i ps) = pD True (.ep l i ps) := (rfl)
@[go_sem] theorem extractD_eq (i : Nat) : extractD (.tup vs) i = if i < vs.length then pD True (vs.getD i .top) else none := (rfl)
@[go_sem] theorem pickD_true (v w : AV) : pickD (.bool true) v w = pD True v := (rfl)
@[go_sem] theorem pickD_false (v w : AV) : pickD (.bool false) v w = pD True w := (rfl)
@[go_sem] theorem minD_int : minD (.int k a) (.int k b) = pD True (.int k (if b < a then b else a)) := by simp [minD]
@[go_sem] theorem maxD_int : maxD (.int k a) (.int k b) = pD True (.int k (if b > a then b else a)) := by simp [maxD]
@[go_sem] theorem maxD_str' : maxD (.str x) (.str y) = pD True (.str (if ltB x y then y else x)) := (rfl)
@[go_sem] theorem buildD_strct (fs : List TyD) (parts : List (Nat × AV)) : buildD (.strct fs) parts = someD (fillAgg (TyD.zeros fs) parts) fun vs => pD True (.agg vs) := (rfl)
@[go_sem] theorem buildD_arr (n : Nat) (e : LK) (parts : List (Nat × AV)) : buildD (.arr n e) parts = someD (fillLst (e.zeros n) parts) fun l => pD True (.arr l) := (rfl)
@[go_sem] theorem buildSliceD_eq (e : LK) (n s : Nat) (parts : List (Nat × AV)) : buildSliceD (.slice e) n parts s = someD (fillLst (e.zeros n) parts) fun l => some (n ≤ 1048576, .sref true s 0 0 n, [.row .own 0 l]) := (rfl)
@[go_sem] theorem fillAgg_nil : fillAgg vs [] = some vs := (rfl)
@[go_sem] theorem fillAgg_cons (i : Nat) (v : AV) (r : List (Nat × AV)) : fillAgg vs ((i, v) :: r) = if i < vs.length ∧ (vs.getD i .top).size = v.size ∧ v.solid = true then fillAgg (vs.set i v) r else none := (rfl)
@[go_sem] theorem fillLst_nil : fillLst l [] = some l := (rfl)
@[go_sem] theorem fillLst_cons (i : Nat) (v : AV) (r : List (Nat × AV)) : fillLst l ((i, v) :: r) = if i < l.len then (l.set i v).bind fun l' => fillLst l' r else none := by
  show (if i < l.len then (match l.set i v with | some l' => fillLst l' r | none => none) else none) = _
  congr 1; cases l.set i v <;> rfl
@[go_sem] theorem boxO_arr : boxO (.arr l) = .row .arr 0 l := (rfl)
@[go_sem] theorem boxO_int : boxO (.int k a) = .box (.int k a) := (rfl)
@[go_sem] theorem boxO_bool : boxO (.bool p) = .box (.bool p) := (rfl)
@[go_sem] theorem boxO_str : boxO (.str x) = .box (.str x) := (rfl)
@[go_sem] theorem boxO_agg : boxO (.agg vs) = .box (.agg vs) := (rfl)
@[go_sem] theorem boxO_sl (x : Bool) : boxO (.sl x l) = .box (.sl x l) := (rfl)
@[go_sem] theorem boxO_sref (x : Bool) (id ver off len : Nat) : boxO (.sref x id ver off len) = .box (.sref x id ver off len) := (rfl)
@[go_sem] theorem boxO_ptr (id : Nat) (ps : List PS) : boxO (.ptr id ps) = .box (.ptr id ps) := (rfl)
@[go_sem] theorem boxO_map (id : Nat) : boxO (.map id) = .box (.map id) := (rfl)
@[go_sem] theorem boxO_nilp : boxO .nilp = .box .nilp := (rfl)
@[go_sem] theorem boxO_top : boxO .top = .box .top := (rfl)
@[go_sem] theorem boxO_fn (f : Fn) : boxO (.fn f vs ws) = .box (.fn f vs ws) := (rfl)
@[go_sem] theorem boxO_nilfn : boxO .nilfn = .box .nilfn := (rfl)
@[go_sem] theorem fitD_p (d : TyD) (v : AV) : fitD d (pD S v) = pD (S ∧ fitP d v) v := (rfl)
@[go_sem] theorem fitP_strct (fs : List TyD) : fitP (.strct fs) (.agg vs) = (AV.sizes vs = TyD.sizes fs) := (rfl)
@[go_sem] theorem fitP_arr (n : Nat) (e : LK) : fitP (.arr n e) (.arr l) = (l.len = n ∧ l.kind = e) := (rfl)
@[go_sem] theorem fitP_int (k' : IntKind) : fitP (.int k') (.int k a) = True := (rfl)
@[go_sem] theorem fitP_bool : fitP .bool (.bool p) = True := (rfl)
@[go_sem] theorem fitP_str : fitP .str (.str x) = True := (rfl)
@[go_sem] theorem fitP_sl (e : LK) (x : Bool) : fitP (.slice e) (.sl x l) = True := (rfl)
@[go_sem] theorem fitP_sref (e : LK) (x : Bool) (id ver off len : Nat) : fitP (.slice e) (.sref x id ver off len) = True := (rfl)
@[go_sem] theorem fitP_ptr (id : Nat) (ps : List PS) : fitP .ptr (.ptr id ps) = True := (rfl)
@[go_sem] theorem fitP_nilp : fitP .ptr .nilp = True := (rfl)
@[go_sem] theorem fitP_ep (i : Nat) (ps : List PS) : fitP .ptr (.ep l i ps) = True := (rfl)
@[go_sem] theorem fitP_map (m : MK) (id : Nat) : fitP (.map m) (.map id) = True := (rfl)
@[go_sem] theorem fitP_fn (f : Fn) : fitP .func (.fn f vs ws) = True := (rfl)
@[go_sem] theorem fitP_nilfn : fitP .func .nilfn = True := (rfl)
end ops

section slices
variable (h : List AObj) (x : Bool) (l : Lst) (s : Bytes) (a b c : Int) (k k' k'' : IntKind) (id ver off len : Nat) (lo hi mx : Option AV)
variable (d : TyD)
@[go_sem] theorem slice_s1 : sliceD .str h (.str s) none (some (.int k b)) none = pD (0 ≤ b ∧ b ≤ s.length) (.str (s.take b.toNat)) := (rfl)
@[go_sem] theorem slice_s2 : sliceD .str h (.str s) (some (.int k a)) none none = pD (0 ≤ a ∧ a ≤ s.length) (.str (s.drop a.toNat)) := (rfl)
@[go_sem] theorem slice_s3 : sliceD .str h (.str s) (some (.int k a)) (some (.int k' b)) none = pD (0 ≤ a ∧ a ≤ b ∧ b ≤ s.length) (.str ((s.drop a.toNat).take (b.toNat - a.toNat))) := (rfl)
@[go_sem] theorem slice_l0 : sliceD d h (.sl x l) none none none = whenD (d.isSlice l.kind) (pD True (.sl x l)) := (rfl)
@[go_sem] theorem slice_l1 : sliceD d h (.sl x l) none (some (.int k b)) none = whenD (d.isSlice l.kind) (pD (0 ≤ b ∧ b ≤ l.len) (.sl false (l.cut 0 b.toNat))) := (rfl)
@[go_sem] theorem slice_l2 : sliceD d h (.sl x l) (some (.int k a)) none none = whenD (d.isSlice l.kind) (pD (0 ≤ a ∧ a ≤ l.len) (.sl x (l.cut a.toNat (l.len - a.toNat)))) := (rfl)
@[go_sem] theorem slice_l3 : sliceD d h (.sl x l) (some (.int k a)) (some (.int k' b)) none = whenD (d.isSlice l.kind) (pD (0 ≤ a ∧ a ≤ b ∧ b ≤ l.len) (.sl false (l.cut a.toNat (b.toNat - a.toNat)))) := (rfl)
@[go_sem] theorem slice_l4 : sliceD d h (.sl x l) none (some (.int k' b)) (some (.int k'' c)) = whenD (d.isSlice l.kind) (pD (0 ≤ b ∧ b ≤ l.len ∧ b = c) (.sl true (l.cut 0 b.toNat))) := (rfl)
@[go_sem] theorem slice_l5 : sliceD d h (.sl x l) (some (.int k a)) (some (.int k' b)) (some (.int k'' c)) = whenD (d.isSlice l.kind) (pD (0 ≤ a ∧ a ≤ b ∧ b ≤ l.len ∧ b = c) (.sl true (l.cut a.toNat (b.toNat - a.toNat)))) := (rfl)
theorem slice_r : sliceD d h (.sref x id ver off len) lo hi mx = whenD (d.fitsRow (rowKind (h[id]?))) (whenD (verB (h[id]?) ver) (sliceSrD x id ver off len lo hi mx)) := (rfl)
@[go_sem] theorem slice_r1 : sliceD d h (.sref x id ver off len) none (some (.int k b)) none = whenD (d.fitsRow (rowKind (h[id]?))) (whenD (verB (h[id]?) ver) (pD (0 ≤ b ∧ b ≤ len) (.sref false id ver off b.toNat))) := by
  simp [sliceD, sliceSrD]
@[go_sem] theorem slice_r2 : sliceD d h (.sref x id ver off len) (some (.int k a)) none none = whenD (d.fitsRow (rowKind (h[id]?))) (whenD (verB (h[id]?) ver) (pD (0 ≤ a ∧ a ≤ len) (.sref x id ver (off + a.toNat) (len - a.toNat)))) := by
  simp [sliceD, sliceSrD]
@[go_sem] theorem slice_r3 : sliceD d h (.sref x id ver off len) (some (.int k a)) (some (.int k' b)) none = whenD (d.fitsRow (rowKind (h[id]?))) (whenD (verB (h[id]?) ver) (pD (0 ≤ a ∧ a ≤ b ∧ b ≤ len) (.sref false id ver (off + a.toNat) (b.toNat - a.toNat)))) := by
  simp [sliceD, sliceSrD]
@[go_sem] theorem slice_r4 : sliceD d h (.sref x id ver off len) none (some (.int k' b)) (some (.int k'' c)) = whenD (d.fitsRow (rowKind (h[id]?))) (whenD (verB (h[id]?) ver) (pD (0 ≤ b ∧ b ≤ len ∧ b = c) (.sref true id ver off b.toNat))) := by
  simp [sliceD, sliceSrD]
@[go_sem] theorem slice_r5 : sliceD d h (.sref x id ver off len) (some (.int k a)) (some (.int k' b)) (some (.int k'' c)) = whenD (d.fitsRow (rowKind (h[id]?))) (whenD (verB (h[id]?) ver) (pD (0 ≤ a ∧ a ≤ b ∧ b ≤ len ∧ b = c) (.sref true id ver (off + a.toNat) (b.toNat - a.toNat)))) := by
  simp [sliceD, sliceSrD]
@[go_sem] theorem slice_p (lo hi mx : Option AV) : sliceD d h (.ptr id []) lo hi mx = sliceArrD (h[id]?) id d lo hi mx := (rfl)
@[go_sem] theorem sliceArr_0 : sliceArrD (some (.row .arr ver l)) id d none none none = whenD (d.isArr l.len l.kind) (pD True (.sref true id ver 0 l.len)) := by
  simp [sliceArrD]
@[go_sem] theorem sliceArr_2 : sliceArrD (some (.row .arr ver l)) id d (some (.int k a)) none none = whenD (d.isArr l.len l.kind) (pD (0 ≤ a ∧ a ≤ l.len) (.sref true id ver a.toNat (l.len - a.toNat))) := by
  simp [sliceArrD]
@[go_sem] theorem sliceArr_1 : sliceArrD (some (.row .arr ver l)) id d none (some (.int k' b)) none = whenD (d.isArr l.len l.kind) (pD (0 ≤ b ∧ b ≤ l.len) (.sref false id ver 0 b.toNat)) := by
  simp [sliceArrD]
@[go_sem] theorem sliceArr_3 : sliceArrD (some (.row .arr ver l)) id d (some (.int k a)) (some (.int k' b)) none = whenD (d.isArr l.len l.kind) (pD (0 ≤ a ∧ a ≤ b ∧ b ≤ l.len) (.sref false id ver a.toNat (b.toNat - a.toNat))) := by
  simp [sliceArrD]
end slices

section vals
variable (h : List AObj) (x : Bool) (l : Lst) (vs ws : List AV) (n : Nat)
@[go_sem] theorem vals_nil : AV.vals h [] = some [] := (rfl)
def consO : Option AV → Option (List AV) → Option (List AV)
  | some a, some b => some (a :: b)
  | _, _ => none
@[go_sem] theorem vals_cons (v : AV) (r : List AV) : AV.vals h (v :: r) = consO (v.val h) (AV.vals h r) := by
  show (match v.val h, AV.vals h r with | some a, some b => some (a :: b) | _, _ => none) = _
  cases v.val h <;> cases AV.vals h r <;> rfl
@[go_sem] theorem consO_some (a : AV) (b : List AV) : consO (some a) (some b) = some (a :: b) := (rfl)
@[go_sem] theorem val_sref (id ver off len : Nat) : (AV.sref x id ver off len).val h = (listO (h[id]?) ver off len).map fun l => .sl false l := (rfl)
@[go_sem] theorem val_sl : (AV.sl x l).val h = some (.sl false l) := (rfl)
@[go_sem] theorem val_agg : (AV.agg vs).val h = (AV.vals h vs).map .agg := (rfl)
@[go_sem] theorem val_tup : (AV.tup vs).val h = (AV.vals h vs).map .tup := (rfl)
@[go_sem] theorem val_int (k : IntKind) (a : Int) : (AV.int k a).val h = some (.int k a) := (rfl)
@[go_sem] theorem val_bool (b : Bool) : (AV.bool b).val h = some (.bool b) := (rfl)
@[go_sem] theorem val_str (s : Bytes) : (AV.str s).val h = some (.str s) := (rfl)
@[go_sem] theorem val_ptr (id : Nat) (p : List PS) : (AV.ptr id p).val h = some (.ptr id p) := (rfl)
@[go_sem] theorem val_map (id : Nat) : (AV.map id).val h = some (.map id) := (rfl)
@[go_sem] theorem val_fn (f : Fn) : (AV.fn f vs ws).val h = some (.fn f vs ws) := (rfl)
@[go_sem] theorem val_arr : (AV.arr l).val h = some (.arr l) := (rfl)
@[go_sem] theorem val_nilp : AV.nilp.val h = some .nilp := (rfl)
@[go_sem] theorem val_top : AV.top.val h = some .top := (rfl)
@[go_sem] theorem shift_int (k : IntKind) (a : Int) : (AV.int k a).shift n = .int k a := (rfl)
@[go_sem] theorem shift_bool (b : Bool) : (AV.bool b).shift n = .bool b := (rfl)
@[go_sem] theorem shift_str (s : Bytes) : (AV.str s).shift n = .str s := (rfl)
@[go_sem] theorem shift_sl : (AV.sl x l).shift n = .sl x l := (rfl)
@[go_sem] theorem shift_arr : (AV.arr l).shift n = .arr l := (rfl)
@[go_sem] theorem shift_fn (f : Fn) : (AV.fn f vs ws).shift n = .fn f vs ws := (rfl)
@[go_sem] theorem shift_sref (id ver off len : Nat) : (AV.sref x id ver off len).shift n = .sref x (n + id) ver off len := (rfl)
@[go_sem] theorem shift_map (id : Nat) : (AV.map id).shift n = .map (n + id) := (rfl)
@[go_sem] theorem shift_ptr (id : Nat) (p : List PS) : (AV.ptr id p).shift n = .ptr (n + id) p := (rfl)
@[go_sem] theorem shift_agg : (AV.agg vs).shift n = .agg (AV.shifts n vs) := (rfl)
@[go_sem] theorem shift_tup : (AV.tup vs).shift n = .tup (AV.shifts n vs) := (rfl)
@[go_sem] theorem shifts_nil : AV.shifts n [] = [] := (rfl)
@[go_sem] theorem shifts_cons (v : AV) (r : List AV) : AV.shifts n (v :: r) = v.shift n :: AV.shifts n r := (rfl)
@[go_sem] theorem rows_sref (id ver off len : Nat) : (AV.sref x id ver off len).rows = [id] := (rfl)
@[go_sem] theorem rows_sl : (AV.sl x l).rows = [] := (rfl)
@[go_sem] theorem rows_agg : (AV.agg vs).rows = AV.rowss vs := (rfl)
@[go_sem] theorem rows_tup : (AV.tup vs).rows = AV.rowss vs := (rfl)
@[go_sem] theorem rows_int (k : IntKind) (a : Int) : (AV.int k a).rows = [] := (rfl)
@[go_sem] theorem rows_bool (b : Bool) : (AV.bool b).rows = [] := (rfl)
@[go_sem] theorem rows_str (s : Bytes) : (AV.str s).rows = [] := (rfl)
@[go_sem] theorem rows_arr : (AV.arr l).rows = [] := (rfl)
@[go_sem] theorem rows_ptr (id : Nat) (p : List PS) : (AV.ptr id p).rows = [] := (rfl)
@[go_sem] theorem rows_map (id : Nat) : (AV.map id).rows = [] := (rfl)
@[go_sem] theorem rows_fn (f : Fn) : (AV.fn f vs ws).rows = [] := (rfl)
@[go_sem] theorem rows_nilfn : AV.nilfn.rows = [] := (rfl)
@[go_sem] theorem rows_nilp : AV.nilp.rows = [] := (rfl)
@[go_sem] theorem rows_ep (i : Nat) (fs : List PS) : (AV.ep l i fs).rows = [] := (rfl)
@[go_sem] theorem rows_top : AV.top.rows = [] := (rfl)
@[go_sem] theorem rows_iface (t : TypeId) (v : AV) : (AV.iface t v).rows = [] := (rfl)
@[go_sem] theorem rows_niliface : AV.niliface.rows = [] := (rfl)
@[go_sem] theorem rowss_nil : AV.rowss [] = [] := (rfl)
@[go_sem] theorem rowss_cons (v : AV) (r : List AV) : AV.rowss (v :: r) = v.rows ++ AV.rowss r := (rfl)
@[go_sem] theorem noSl_int (k : IntKind) (a : Int) : (AV.int k a).noSl = true := (rfl)
@[go_sem] theorem noSl_bool (b : Bool) : (AV.bool b).noSl = true := (rfl)
@[go_sem] theorem noSl_str (s : Bytes) : (AV.str s).noSl = true := (rfl)
@[go_sem] theorem noSl_arr : (AV.arr l).noSl = true := (rfl)
@[go_sem] theorem noSl_nilp : AV.nilp.noSl = true := (rfl)
@[go_sem] theorem noSl_nilfn : AV.nilfn.noSl = true := (rfl)
@[go_sem] theorem noSl_sl : (AV.sl x l).noSl = false := (rfl)
@[go_sem] theorem noSl_agg : (AV.agg vs).noSl = AV.noSls vs := (rfl)
@[go_sem] theorem noSl_tup : (AV.tup vs).noSl = AV.noSls vs := (rfl)
@[go_sem] theorem noSl_fn (f : Fn) : (AV.fn f vs ws).noSl = (AV.noSls vs && AV.noSls ws) := (rfl)
@[go_sem] theorem noSls_nil : AV.noSls [] = true := (rfl)
@[go_sem] theorem noSls_cons (v : AV) (r : List AV) : AV.noSls (v :: r) = (v.noSl && AV.noSls r) := (rfl)
@[go_sem] theorem noSl_ite (p : Prop) [Decidable p] (v w : AV) : (if p then v else w).noSl = (if p then v.noSl else w.noSl) := by split <;> rfl
@[go_sem] theorem closed_sref (id ver off len : Nat) : (AV.sref x id ver off len).closed = false := (rfl)
@[go_sem] theorem closed_ptr (id : Nat) (p : List PS) : (AV.ptr id p).closed = false := (rfl)
@[go_sem] theorem closed_map (id : Nat) : (AV.map id).closed = false := (rfl)
@[go_sem] theorem closed_nilp : AV.nilp.closed = true := (rfl)
@[go_sem] theorem closed_nilfn : AV.nilfn.closed = true := (rfl)
@[go_sem] theorem solid_int (k : IntKind) (a : Int) : (AV.int k a).solid = true := (rfl)
@[go_sem] theorem solid_bool (b : Bool) : (AV.bool b).solid = true := (rfl)
@[go_sem] theorem solid_str (s : Bytes) : (AV.str s).solid = true := (rfl)
@[go_sem] theorem solid_sl : (AV.sl x l).solid = true := (rfl)
@[go_sem] theorem solid_sref (id ver off len : Nat) : (AV.sref x id ver off len).solid = true := (rfl)
@[go_sem] theorem solid_agg : (AV.agg vs).solid = true := (rfl)
@[go_sem] theorem solid_arr : (AV.arr l).solid = true := (rfl)
@[go_sem] theorem solid_ptr (id : Nat) (p : List PS) : (AV.ptr id p).solid = true := (rfl)
@[go_sem] theorem solid_map (id : Nat) : (AV.map id).solid = true := (rfl)
@[go_sem] theorem solid_nilp : AV.nilp.solid = true := (rfl)
@[go_sem] theorem solid_nilfn : AV.nilfn.solid = true := (rfl)
@[go_sem] theorem solid_fn (f : Fn) : (AV.fn f vs ws).solid = true := (rfl)
@[go_sem] theorem ids_sref (id ver off len : Nat) : (AV.sref x id ver off len).ids = [id] := (rfl)
@[go_sem] theorem ids_sl : (AV.sl x l).ids = [] := (rfl)
@[go_sem] theorem ids_agg : (AV.agg vs).ids = AV.idss vs := (rfl)
@[go_sem] theorem ids_tup : (AV.tup vs).ids = AV.idss vs := (rfl)
@[go_sem] theorem ids_int (k : IntKind) (a : Int) : (AV.int k a).ids = [] := (rfl)
@[go_sem] theorem ids_bool (b : Bool) : (AV.bool b).ids = [] := (rfl)
@[go_sem] theorem ids_str (s : Bytes) : (AV.str s).ids = [] := (rfl)
@[go_sem] theorem ids_arr : (AV.arr l).ids = [] := (rfl)
@[go_sem] theorem ids_ptr (id : Nat) (p : List PS) : (AV.ptr id p).ids = [id] := (rfl)
@[go_sem] theorem ids_map (id : Nat) : (AV.map id).ids = [id] := (rfl)
@[go_sem] theorem ids_fn (f : Fn) : (AV.fn f vs ws).ids = AV.idss vs ++ AV.idss ws := (rfl)
@[go_sem] theorem ids_nilp : AV.nilp.ids = [] := (rfl)
@[go_sem] theorem ids_nilfn : AV.nilfn.ids = [] := (rfl)
@[go_sem] theorem ids_ep (i : Nat) (fs : List PS) : (AV.ep l i fs).ids = [] := (rfl)
@[go_sem] theorem ids_top : AV.top.ids = [] := (rfl)
@[go_sem] theorem idss_nil : AV.idss [] = [] := (rfl)
@[go_sem] theorem idss_cons (v : AV) (r : List AV) : AV.idss (v :: r) = v.ids ++ AV.idss r := (rfl)
@[go_sem] theorem norm_nilfn : AV.nilfn.norm n h = .nilfn := (rfl)
@[go_sem] theorem closeds_nil : AV.closeds [] = true := (rfl)
@[go_sem] theorem closeds_cons (v : AV) (r : List AV) : AV.closeds (v :: r) = (v.closed && AV.closeds r) := (rfl)
@[go_sem] theorem closed_int (k : IntKind) (a : Int) : (AV.int k a).closed = true := (rfl)
@[go_sem] theorem closed_bool (b : Bool) : (AV.bool b).closed = true := (rfl)
@[go_sem] theorem closed_str (s : Bytes) : (AV.str s).closed = true := (rfl)
@[go_sem] theorem closed_sl : (AV.sl x l).closed = true := (rfl)
@[go_sem] theorem closed_arr : (AV.arr l).closed = true := (rfl)
@[go_sem] theorem closed_agg : (AV.agg vs).closed = AV.closeds vs := (rfl)
@[go_sem] theorem closed_fn (f : Fn) : (AV.fn f vs ws).closed = (AV.closeds vs && AV.closeds ws) := (rfl)
@[go_sem] theorem norms_nil : AV.norms n h [] = [] := (rfl)
@[go_sem] theorem norms_cons (v : AV) (r : List AV) : AV.norms n h (v :: r) = v.norm n h :: AV.norms n h r := (rfl)
@[go_sem] theorem norm_int (k : IntKind) (a : Int) : (AV.int k a).norm n h = .int k a := (rfl)
@[go_sem] theorem norm_bool (b : Bool) : (AV.bool b).norm n h = .bool b := (rfl)
@[go_sem] theorem norm_str (s : Bytes) : (AV.str s).norm n h = .str s := (rfl)
@[go_sem] theorem norm_sl : (AV.sl x l).norm n h = .sl false l := (rfl)
@[go_sem] theorem norm_arr : (AV.arr l).norm n h = .arr l := (rfl)
@[go_sem] theorem norm_nilp : AV.nilp.norm n h = .nilp := (rfl)
@[go_sem] theorem norm_top : AV.top.norm n h = .top := (rfl)
@[go_sem] theorem norm_und : AV.und.norm n h = .und := (rfl)
@[go_sem] theorem norm_ptr (id : Nat) (p : List PS) : (AV.ptr id p).norm n h = if id < n then .ptr id p else .top := (rfl)
@[go_sem] theorem norm_map (id : Nat) : (AV.map id).norm n h = if id < n then .map id else .top := (rfl)
@[go_sem] theorem norm_agg : (AV.agg vs).norm n h = .agg (AV.norms n h vs) := (rfl)
@[go_sem] theorem norm_tup : (AV.tup vs).norm n h = .tup (AV.norms n h vs) := (rfl)
@[go_sem] theorem norm_fn (f : Fn) : (AV.fn f vs ws).norm n h = .fn f (AV.norms n h vs) (AV.norms n h ws) := (rfl)
@[go_sem] theorem norm_ep (i : Nat) (fs : List PS) : (AV.ep l i fs).norm n h = .ep l i fs := (rfl)
@[go_sem] theorem norm_sref (id ver off len : Nat) : (AV.sref x id ver off len).norm n h = normR n (h[id]?) id ver off len := (rfl)
@[go_sem] theorem normR_row (rk : RK) (id ver ver' off len : Nat) : normR n (some (.row rk ver' l)) id ver off len = if ver = ver' then (if id < n then .sref false id ver off len else .sl false (l.cut off len)) else .top := (rfl)
@[go_sem] theorem normH_eq : normH n h = (h.take n).map (normO n h) := (rfl)
@[go_sem] theorem normO_box (v : AV) : normO n h (.box v) = .box (v.norm n h) := (rfl)
@[go_sem] theorem normO_row (rk : RK) (ver : Nat) : normO n h (.row rk ver l) = .row rk ver l := (rfl)
@[go_sem] theorem normO_map (m : MapC) : normO n h (.map m) = .map m := (rfl)
@[go_sem] theorem normO_dead : normO n h .dead = .dead := (rfl)
@[go_sem] theorem promV_nil (K : List AV → List AObj → Prop) : promV [] vs h K = K vs h := by cases vs <;> rfl
@[go_sem] theorem promV_nil' (fs : List Bool) (K : List AV → List AObj → Prop) : promV fs [] h K = K [] h := by
  cases fs with
  | nil => rfl
  | cons f r => cases f <;> rfl
@[go_sem] theorem promV_false (fs : List Bool) (v : AV) (K : List AV → List AObj → Prop) : promV (false :: fs) (v :: vs) h K = promV fs vs h fun us h' => K (v :: us) h' := (rfl)
@[go_sem] theorem promV_true (fs : List Bool) (l : Lst) (K : List AV → List AObj → Prop) : promV (true :: fs) (.sl true l :: vs) h K = (l.len = 0 ∧ promV fs vs (h ++ [.row .own 0 l]) fun us h' => K (.sref false h.length 0 0 0 :: us) h') := (rfl)
end vals

@[go_sem] theorem cast_lit (n : Nat) : ((no_index (OfNat.ofNat n) : Nat) : Int) = OfNat.ofNat n := (rfl)
attribute [go_sem] Bool.and_false Bool.false_and ite_self List.take_length false_imp_iff true_imp_iff not_true_eq_false decide_true decide_false List.length_replicate List.length_set Int.toNat_natCast Bool.and_self List.modify_zero_cons List.modify_succ_cons eq_self and_self implies_true List.getElem?_cons_zero List.getElem?_cons_succ List.set_cons_zero List.set_cons_succ List.cons_append List.nil_append List.append_nil List.length_cons List.length_nil
  List.take_succ_cons List.take_zero List.take_nil List.getD_cons_zero List.getD_cons_succ List.map_cons List.map_nil Option.bind_some Option.bind_none Option.map_some Option.map_none true_and and_true Nat.add_zero Nat.zero_add
  if_true if_false Bool.true_eq_false Bool.false_eq_true Bool.not_true Bool.not_false Bool.and_true Bool.true_and or_true true_or reduceCtorEq reduceIte List.drop_zero List.append_assoc decide_eq_true_eq decide_eq_false_iff_not
  Bool.not_eq_true' Bool.not_eq_false' ne_eq not_false_eq_true forall_const
end Lam
set_option linter.unusedVariables false
set_option linter.unusedSimpArgs false
set_option linter.unnecessarySimpa false
set_option linter.unusedSectionVars false
namespace Lam
open Go
@[go_sem] theorem lookF_nil (f : FuncId) (vs : List AV) : lookF [] f vs = none := (rfl)
@[go_sem] theorem lookI_nil (f : FuncId) (Y : Con) (a : List AV) (h : List AObj) (K' : AOut → List AObj → Prop) : lookI [] f Y a h K' = False := (rfl)
@[go_sem] theorem lookI_cons (f g : FuncId) (C : Con → Con) (r : List (FuncId × (Con → Con))) : lookI ((g, C) :: r) f = if f = g then C else lookI r f := by
  by_cases h : f = g
  · subst h; simp [lookI]
  · have : Nat.beq f g = false := by rw [Bool.eq_false_iff]; intro e; exact h (Nat.eq_of_beq_eq_true e)
    simp [lookI, this, h]
@[go_sem] theorem lookF_cons (g f : FuncId) (C : Contract) (r : List (FuncId × Contract)) : lookF ((g, C) :: r) f = if f = g then C else lookF r f := by
  by_cases h : f = g
  · subst h; simp [lookF]
  · have : Nat.beq f g = false := by rw [Bool.eq_false_iff]; intro e; exact h (Nat.eq_of_beq_eq_true e)
    simp [lookF, this, h]
@[go_sem] theorem lookS_nil (f : FuncId) (vs : List AV) (h : List AObj) (K : AOut → List AObj → Prop) : lookS [] f vs h K = False := (rfl)
@[go_sem] theorem lookS_cons (g f : FuncId) (C : Con) (r : List (FuncId × Con)) : lookS ((g, C) :: r) f = if f = g then C else lookS r f := by
  by_cases h : f = g
  · subst h; simp [lookS]
  · have : Nat.beq f g = false := by rw [Bool.eq_false_iff]; intro e; exact h (Nat.eq_of_beq_eq_true e)
    simp [lookS, this, h]
theorem w64 {n : Int} (h1 : -9223372036854775808 ≤ n) (h2 : n < 9223372036854775808) : IntKind.i64.wrap n = n := by rw [IntKind.wrap_i64]; omega
theorem u8_range (n : Int) : 0 ≤ IntKind.u8.wrap n ∧ IntKind.u8.wrap n < 256 := by simp [IntKind.wrap, IntKind.bits, IntKind.signed]; omega
theorem u32_range (n : Int) : 0 ≤ IntKind.u32.wrap n ∧ IntKind.u32.wrap n < 4294967296 := by simp [IntKind.wrap, IntKind.bits, IntKind.signed]; omega
theorem u64_range (n : Int) : 0 ≤ IntKind.u64.wrap n ∧ IntKind.u64.wrap n < 18446744073709551616 := by simp [IntKind.wrap, IntKind.bits, IntKind.signed]; omega
theorem u8_id {n : Int} (h1 : 0 ≤ n) (h2 : n < 256) : IntKind.u8.wrap n = n := by simp [IntKind.wrap, IntKind.bits, IntKind.signed]; omega
theorem u32_id {n : Int} (h1 : 0 ≤ n) (h2 : n < 4294967296) : IntKind.u32.wrap n = n := by simp [IntKind.wrap, IntKind.bits, IntKind.signed]; omega
theorem u64_id {n : Int} (h1 : 0 ≤ n) (h2 : n < 18446744073709551616) : IntKind.u64.wrap n = n := by simp [IntKind.wrap, IntKind.bits, IntKind.signed]; omega
theorem i64_range (n : Int) : -9223372036854775808 ≤ IntKind.i64.wrap n ∧ IntKind.i64.wrap n < 9223372036854775808 := by rw [IntKind.wrap_i64]; omega

abbrev J2 := AV → AV → List AObj → Prop
@[congr] theorem joinW_congr {α : Type} {A A' : α → Prop} {k : α} (e : ∀ J, A J = A' J) : joinW A k = joinW A' k := by unfold joinW; exact e k
theorem joinW_eq {α : Type} (A : α → Prop) (k : α) : joinW A k = A k := (rfl)
section
variable (p q : Bool) (S : Prop) (h : List AObj) (F : AV → List AObj → Prop)
@[go_sem] theorem join_and : joinW (fun J : J2 => guardW (.bool p) true (J (.bool true) (.bool q) h) (J (.bool false) .und h)) (fun t v h' => runD (pickD t v (.bool false)) h' F) = F (.bool (p && q)) h := by
  cases p <;> simp [joinW, guardW, pickD, pD, runD]
@[go_sem] theorem join_and_s : joinW (fun J : J2 => guardW (.bool p) true (S ∧ J (.bool true) (.bool q) h) (J (.bool false) .und h)) (fun t v h' => runD (pickD t v (.bool false)) h' F) = ((p = true → S) ∧ F (.bool (p && q)) h) := by
  cases p <;> simp [joinW, guardW, pickD, pD, runD]
@[go_sem] theorem join_or : joinW (fun J : J2 => guardW (.bool p) false (J (.bool false) (.bool q) h) (J (.bool true) .und h)) (fun t v h' => runD (pickD t (.bool true) v) h' F) = F (.bool (p || q)) h := by
  cases p <;> simp [joinW, guardW, pickD, pD, runD]
@[go_sem] theorem join_or_s : joinW (fun J : J2 => guardW (.bool p) false (S ∧ J (.bool false) (.bool q) h) (J (.bool true) .und h)) (fun t v h' => runD (pickD t (.bool true) v) h' F) = ((p = false → S) ∧ F (.bool (p || q)) h) := by
  cases p <;> simp [joinW, guardW, pickD, pD, runD]
variable (S2 S3 S4 S5 : Prop)
@[go_sem] theorem join_and_s2 : joinW (fun J : J2 => guardW (.bool p) true (S ∧ S2 ∧ J (.bool true) (.bool q) h) (J (.bool false) .und h)) (fun t v h' => runD (pickD t v (.bool false)) h' F) = ((p = true → S ∧ S2) ∧ F (.bool (p && q)) h) := by
  cases p <;> simp [joinW, guardW, pickD, pD, runD, and_assoc]
@[go_sem] theorem join_or_s2 : joinW (fun J : J2 => guardW (.bool p) false (S ∧ S2 ∧ J (.bool false) (.bool q) h) (J (.bool true) .und h)) (fun t v h' => runD (pickD t (.bool true) v) h' F) = ((p = false → S ∧ S2) ∧ F (.bool (p || q)) h) := by
  cases p <;> simp [joinW, guardW, pickD, pD, runD, and_assoc]
@[go_sem] theorem join_and_s3 : joinW (fun J : J2 => guardW (.bool p) true (S ∧ S2 ∧ S3 ∧ J (.bool true) (.bool q) h) (J (.bool false) .und h)) (fun t v h' => runD (pickD t v (.bool false)) h' F) = ((p = true → S ∧ S2 ∧ S3) ∧ F (.bool (p && q)) h) := by
  cases p <;> simp [joinW, guardW, pickD, pD, runD, and_assoc]
@[go_sem] theorem join_or_s3 : joinW (fun J : J2 => guardW (.bool p) false (S ∧ S2 ∧ S3 ∧ J (.bool false) (.bool q) h) (J (.bool true) .und h)) (fun t v h' => runD (pickD t (.bool true) v) h' F) = ((p = false → S ∧ S2 ∧ S3) ∧ F (.bool (p || q)) h) := by
  cases p <;> simp [joinW, guardW, pickD, pD, runD, and_assoc]
@[go_sem] theorem join_and_s4 : joinW (fun J : J2 => guardW (.bool p) true (S ∧ S2 ∧ S3 ∧ S4 ∧ J (.bool true) (.bool q) h) (J (.bool false) .und h)) (fun t v h' => runD (pickD t v (.bool false)) h' F) = ((p = true → S ∧ S2 ∧ S3 ∧ S4) ∧ F (.bool (p && q)) h) := by
  cases p <;> simp [joinW, guardW, pickD, pD, runD, and_assoc]
@[go_sem] theorem join_or_s4 : joinW (fun J : J2 => guardW (.bool p) false (S ∧ S2 ∧ S3 ∧ S4 ∧ J (.bool false) (.bool q) h) (J (.bool true) .und h)) (fun t v h' => runD (pickD t (.bool true) v) h' F) = ((p = false → S ∧ S2 ∧ S3 ∧ S4) ∧ F (.bool (p || q)) h) := by
  cases p <;> simp [joinW, guardW, pickD, pD, runD, and_assoc]
@[go_sem] theorem join_and_s5 : joinW (fun J : J2 => guardW (.bool p) true (S ∧ S2 ∧ S3 ∧ S4 ∧ S5 ∧ J (.bool true) (.bool q) h) (J (.bool false) .und h)) (fun t v h' => runD (pickD t v (.bool false)) h' F) = ((p = true → S ∧ S2 ∧ S3 ∧ S4 ∧ S5) ∧ F (.bool (p && q)) h) := by
  cases p <;> simp [joinW, guardW, pickD, pD, runD, and_assoc]
@[go_sem] theorem join_or_s5 : joinW (fun J : J2 => guardW (.bool p) false (S ∧ S2 ∧ S3 ∧ S4 ∧ S5 ∧ J (.bool false) (.bool q) h) (J (.bool true) .und h)) (fun t v h' => runD (pickD t (.bool true) v) h' F) = ((p = false → S ∧ S2 ∧ S3 ∧ S4 ∧ S5) ∧ F (.bool (p || q)) h) := by
  cases p <;> simp [joinW, guardW, pickD, pD, runD, and_assoc]
end
theorem take_next {α : Type} (l : List α) (k : Nat) (d : α) (h : k < l.length) : l.take (k + 1) = l.take k ++ [l.getD k d] := by
  rw [List.take_add_one, List.getD_eq_getElem?_getD, List.getElem?_eq_getElem h]; rfl
theorem getD_mem {α : Type} (l : List α) (k : Nat) (d : α) (h : k < l.length) : l.getD k d ∈ l := by
  rw [List.getD_eq_getElem?_getD, List.getElem?_eq_getElem h]; exact List.getElem_mem h
theorem tdiv16 (n : Nat) : (n : Int).tdiv 16 = ((n / 16 : Nat) : Int) := rfl
theorem tdiv8 (n : Nat) : (n : Int).tdiv 8 = ((n / 8 : Nat) : Int) := rfl
attribute [go_sem] Bool.true_or Bool.false_or Bool.or_false Bool.or_true Bool.and_false Bool.false_and beq_self_eq_true
theorem wf_u8 {n : Int} (h : (Lit.int .u8 n).wf = true) : 0 ≤ n ∧ n < 256 := by
  simp [Lit.wf, IntKind.min, IntKind.max, IntKind.signed, IntKind.bits] at h; omega
theorem wf_64 {n : Int} (h : (Lit.int .i64 n).wf = true) : -9223372036854775808 ≤ n ∧ n < 9223372036854775808 := by
  simp [Lit.wf, IntKind.min, IntKind.max, IntKind.signed, IntKind.bits] at h; omega
end Lam
