/- What functions of the program come to, each proved from its code. -/
import Derived.Test.YtpjnljbfnppmlaaLK4
namespace Lam
open Go Go.Proofs
set_option linter.unusedVariables false
set_option linter.unnecessarySimpa false
set_option linter.unusedSimpArgs false

def lamplighterref02_Numbers.C : Contract
  | [.sl _ (.ints .i64 a), .sl _ (.ints .i64 b)] => some (false, pD (roomy a.length) (.bool (decide (a = b))))
  | _ => none
theorem lamplighterref02_Numbers.spec : FSpec Try.prog 10 lamplighterref02_Numbers.C := by
  refine FSpec.of (ctx_ok (F := []) (S := []) (by simp) (by simp) lamplighterref02_Numbers.loops) lamplighterref02_Numbers.at lamplighterref02_Numbers.nm lamplighterref02_Numbers.bd ?_
  intro vs b S v news e hS
  unfold lamplighterref02_Numbers.C at e
  split at e
  rotate_left
  · cases e
  cases e
  rw [lamplighterref02_Numbers.eq]
  unfold lamplighterref02_Numbers.H
  simp only [go_sem, Nat.reduceEqDiff, Nat.reduceLT, Nat.reduceAdd, Nat.reduceSub, Nat.reduceLeDiff, List.reduceReplicate, Int.reduceToNat]
  rename_i a _ b
  unfold roomy at hS
  refine ⟨fun hne => ?_, fun heq => ?_⟩
  · have : decide (a = b) = false := by rw [decide_eq_false_iff_not]; rintro rfl; exact hne rfl
    rw [this]; exact post_val rfl rfl
  rw [joinW_eq]
  unfold lamplighterref02_Numbers.L1
  have hlen : a.length = b.length := by omega
  refine ⟨fun m lv h' => ∃ k : Nat, k + m = a.length ∧ lv = [.int .i64 k] ∧ h' = [] ∧ ∀ i, i < k → a.getD i 0 = b.getD i 0, ⟨a.length, 0, by omega, rfl, rfl, fun i hi => by omega⟩, ?_⟩
  rintro m h' t8 ⟨k, hk, hlv, rfl, hall⟩
  simp only [List.cons.injEq, and_true] at hlv
  subst hlv
  simp only [go_sem, Nat.reduceEqDiff, Nat.reduceLT, Nat.reduceAdd, Nat.reduceSub, Nat.reduceLeDiff, List.reduceReplicate, Int.reduceToNat]
  refine ⟨fun hlt => ⟨by omega, by omega, fun h0 => ?_, fun h0 => ?_⟩, fun hge => ?_⟩
  · have : decide (a = b) = false := by rw [decide_eq_false_iff_not]; rintro rfl; exact h0 rfl
    rw [this]; exact post_val rfl rfl
  · refine ⟨m - 1, by omega, k + 1, by omega, by rw [w64 (by omega) (by omega)]; rfl, ?_⟩
    intro i hi
    by_cases e : i = k
    · subst e; exact h0
    · exact hall i (by omega)
  · have : a = b := by
      apply List.ext_getElem hlen
      intro i h1 h2
      have := hall i (by omega)
      rw [List.getD_eq_getElem?_getD, List.getD_eq_getElem?_getD, List.getElem?_eq_getElem h1, List.getElem?_eq_getElem h2] at this
      exact this
    rw [decide_eq_true this]; exact post_val rfl rfl

theorem or_false_parts {a b : Prop} [Decidable a] [Decidable b] (h : (decide a || decide b) = false) : ¬ a ∧ ¬ b := by
  rw [Bool.or_eq_false_iff, decide_eq_false_iff_not, decide_eq_false_iff_not] at h; exact h

abbrev KeyBack_ctx : Ctx := ctx [(7, lamplighterlaw02_awake.C), (9, key_Words.C), (8, key_Text.C), (10, lamplighterref02_Numbers.C)] [] lamplighterlaw02_KeyBack.loops
theorem KeyBack_vc (s : Bytes) (l : List Int) : lamplighterlaw02_KeyBack.H KeyBack_ctx (.str s) (.sl false (.ints .i64 l)) [] Told := by
  unfold lamplighterlaw02_KeyBack.H
  simp only [go_sem, Nat.reduceEqDiff, Nat.reduceLT, Nat.reduceAdd, Nat.reduceSub, Nat.reduceLeDiff, List.reduceReplicate, Int.reduceToNat, lamplighterlaw02_awake.C, key_Words.C, key_Text.C, lamplighterref02_Numbers.C, textV]
  refine ⟨fun _ => rfl, fun hb => ?_⟩
  obtain ⟨b1, b2⟩ := or_false_parts hb
  obtain ⟨h1, h2⟩ := text_words s (by omega)
  have hwl := wordsOf_len s
  have hnp : nPieces s = (s.length + 6) / 7 := rfl
  have r1 : roomy s.length := by unfold roomy; omega
  refine ⟨r1, ⟨by unfold roomy; omega, by omega⟩, ⟨by unfold roomy; omega, by omega⟩, fun _ _ => ⟨r1, by unfold roomy; omega⟩, ?_⟩
  simp only [h1, h2, if_true]
  cases hB : textB l s.length with
  | false => rfl
  | true =>
    have := text_only (s := s) (l := l) (by omega) hB
    by_cases e : l = wordsOf s
    · have e2 := this.2 e
      simp only [if_true, e2, decide_eq_true e]; rfl
    · have e2 : ¬ textS l s.length = s := fun h => e (this.1 h)
      simp only [if_true, decide_eq_false e, decide_eq_false e2]; rfl
theorem KeyBack_ok : Ok Try.prog KeyBack_ctx := ctx_ok (by simpa using ⟨lamplighterlaw02_awake.spec, key_Words.spec, key_Text.spec, lamplighterref02_Numbers.spec⟩) (by simp) _
theorem KeyBack_law (s : Bytes) (l : List Int) : funW KeyBack_ctx Try.f3 [(.str s), (.sl false (.ints .i64 l))] [] Told := by
  rw [KeyBack_ctx, lamplighterlaw02_KeyBack.eq]
  exact KeyBack_vc s l

theorem words_append : ∀ (n : Nat) (u t : Bytes), u.length = 7 * n → wordsOf (u ++ t) = wordsOf u ++ wordsOf t
  | 0, u, t, h => by
    have : u = [] := List.eq_nil_of_length_eq_zero (by omega)
    subst this; rfl
  | n + 1, u, t, h => by
    have hne : u ≠ [] := by rintro rfl; simp at h
    rw [wordsOf_cons (s := u ++ t) (by simp [hne]), wordsOf_cons hne, List.take_append_of_le_length (by omega), List.drop_append_of_le_length (by omega), words_append n (u.drop 7) t (by simp; omega)]
    rfl

abbrev KeyParts_ctx : Ctx := ctx [(7, lamplighterlaw02_awake.C), (9, key_Words.C), (10, lamplighterref02_Numbers.C)] [] lamplighterlaw02_KeyParts.loops
theorem KeyParts_vc (s : Bytes) (t : Bytes) : lamplighterlaw02_KeyParts.H KeyParts_ctx (.str s) (.str t) [] Told := by
  unfold lamplighterlaw02_KeyParts.H
  simp only [go_sem, Nat.reduceEqDiff, Nat.reduceLT, Nat.reduceAdd, Nat.reduceSub, Nat.reduceLeDiff, List.reduceReplicate, Int.reduceToNat, lamplighterlaw02_awake.C, key_Words.C, lamplighterref02_Numbers.C]
  refine ⟨fun _ => rfl, fun hb => ?_⟩
  obtain ⟨b1, b2⟩ := or_false_parts hb
  have e1 : (s.length : Int).tmod 7 = ((s.length % 7 : Nat) : Int) := rfl
  have e2 : IntKind.i64.wrap ((s.length : Int) - ((s.length % 7 : Nat) : Int)) = ((7 * (s.length / 7) : Nat) : Int) := by rw [w64 (by omega) (by omega)]; omega
  rw [e1, e2, Int.toNat_natCast]
  have hl : (s.take (7 * (s.length / 7))).length = 7 * (s.length / 7) := by simp; omega
  have hw := words_append (s.length / 7) (s.take (7 * (s.length / 7))) t hl
  have n1 := wordsOf_len (s.take (7 * (s.length / 7)))
  have n2 := wordsOf_len t
  have n3 : nPieces (s.take (7 * (s.length / 7))) = s.length / 7 := by unfold nPieces; rw [hl]; omega
  have n4 : nPieces t ≤ 44 := by unfold nPieces; omega
  have e3 : (((s.take (7 * (s.length / 7))).length : Nat) : Int).tdiv 7 = ((s.length / 7 : Nat) : Int) := by rw [hl]; show (((7 * (s.length / 7)) / 7 : Nat) : Int) = _; congr 1; omega
  rw [hw, e3, n1, n3, w64 (by omega) (by omega), decide_eq_true rfl, decide_eq_true rfl]
  refine ⟨by decide, by omega, by unfold roomy; omega, by unfold roomy; omega, by unfold roomy; omega, by unfold roomy; rw [List.length_append, n1, n2, n3]; omega,
    ⟨by rw [hl]; omega, by unfold roomy; rw [List.length_append, hl]; omega, by unfold roomy; rw [List.length_append, n1, n2, n3]; omega⟩, fun _ => ⟨by unfold roomy; omega, by decide⟩, rfl⟩
theorem KeyParts_ok : Ok Try.prog KeyParts_ctx := ctx_ok (by simpa using ⟨lamplighterlaw02_awake.spec, key_Words.spec, lamplighterref02_Numbers.spec⟩) (by simp) _
theorem KeyParts_law (s : Bytes) (t : Bytes) : funW KeyParts_ctx Try.f5 [(.str s), (.str t)] [] Told := by
  rw [KeyParts_ctx, lamplighterlaw02_KeyParts.eq]
  exact KeyParts_vc s t

/-! ### Order -/
theorem pv_cons (a : UInt8) (x : Bytes) : pv (a :: x) = a.toNat * 256 ^ x.length + pv x := by
  have := pv_append [a] x
  simpa [pv] using this

theorem ltB_pv : ∀ (p q : Bytes), p.length = q.length → ltB p q = decide (pv p < pv q)
  | [], [], _ => rfl
  | [], b :: y, h => by simp at h
  | a :: x, [], h => by simp at h
  | a :: x, b :: y, h => by
    have hl : x.length = y.length := by simpa using h
    simp only [ltB]
    rw [ltB_pv x y hl, pv_cons, pv_cons, hl]
    have hx := pv_lt x
    have hy := pv_lt y
    rw [hl] at hx
    generalize 256 ^ y.length = M at *
    generalize pv x = X at *
    generalize pv y = Y at *
    rcases Nat.lt_trichotomy a.toNat b.toNat with hab | hab | hab
    · have h1 : a < b := hab
      have h2 : (a.toNat + 1) * M ≤ b.toNat * M := Nat.mul_le_mul_right _ hab
      rw [Nat.add_mul] at h2
      rw [decide_eq_true h1, Bool.true_or]
      symm; rw [decide_eq_true_eq]; omega
    · have h1 : a = b := UInt8.toNat_inj.1 hab
      subst h1
      have h2 : ¬ a < a := Nat.lt_irrefl _
      rw [decide_eq_false h2, Bool.false_or, beq_self_eq_true, Bool.true_and]
      apply decide_eq_decide.2; omega
    · have h1 : ¬ a < b := by intro h; have : a.toNat < b.toNat := h; omega
      have h2 : (b.toNat + 1) * M ≤ a.toNat * M := Nat.mul_le_mul_right _ hab
      rw [Nat.add_mul] at h2
      have h3 : (a == b) = false := by rw [beq_eq_false_iff_ne]; rintro rfl; omega
      rw [decide_eq_false h1, Bool.false_or, h3, Bool.false_and]
      symm; rw [decide_eq_false_iff_not]; omega

theorem pv_inj : ∀ {p q : Bytes}, p.length = q.length → pv p = pv q → p = q
  | [], [], _, _ => rfl
  | [], b :: y, h, _ => by simp at h
  | a :: x, [], h, _ => by simp at h
  | a :: x, b :: y, h, e => by
    have hl : x.length = y.length := by simpa using h
    rw [pv_cons, pv_cons, hl] at e
    have hx := pv_lt x
    have hy := pv_lt y
    rw [hl] at hx
    have hM : 0 < 256 ^ y.length := Nat.pow_pos (by omega)
    have h1 : a.toNat = b.toNat := by
      have e1 : (a.toNat * 256 ^ y.length + pv x) / 256 ^ y.length = a.toNat := by rw [Nat.mul_comm, Nat.mul_add_div hM, Nat.div_eq_of_lt hx, Nat.add_zero]
      have e2 : (b.toNat * 256 ^ y.length + pv y) / 256 ^ y.length = b.toNat := by rw [Nat.mul_comm, Nat.mul_add_div hM, Nat.div_eq_of_lt hy, Nat.add_zero]
      rw [← e1, ← e2, e]
    rw [UInt8.toNat_inj.1 h1]
    rw [h1] at e
    rw [pv_inj hl (by omega)]

theorem ltB_same : ∀ (x p q : Bytes), ltB (x ++ p) (x ++ q) = ltB p q
  | [], p, q => rfl
  | a :: x, p, q => by
    have h2 : ¬ a < a := Nat.lt_irrefl _
    simp only [List.cons_append, ltB]
    rw [ltB_same x p q, decide_eq_false h2, Bool.false_or, beq_self_eq_true, Bool.true_and]

theorem ltB_front : ∀ {p q : Bytes} (y z : Bytes), p.length = q.length → p ≠ q → ltB (p ++ y) (q ++ z) = ltB p q
  | [], [], y, z, _, h => (h rfl).elim
  | [], b :: _, y, z, h, _ => by simp at h
  | a :: _, [], y, z, h, _ => by simp at h
  | a :: x, b :: x', y, z, h, hne => by
    simp only [List.cons_append, ltB]
    by_cases e : a = b
    · subst e
      rw [ltB_front y z (by simpa using h) (fun e => hne (by rw [e]))]
    · have : (a == b) = false := by rw [beq_eq_false_iff_ne]; exact e
      rw [this, Bool.false_and, Bool.false_and]

theorem words_order : ∀ (k : Nat) (s t : Bytes), s.length = t.length → k < nPieces s → (∀ i, i < k → (wordsOf s).getD i 0 = (wordsOf t).getD i 0) → (wordsOf s).getD k 0 ≠ (wordsOf t).getD k 0 →
    decide ((wordsOf s).getD k 0 < (wordsOf t).getD k 0) = ltB s t := by
  intro k
  have hcut : ∀ (s : Bytes), s ≠ [] → wordsOf s = (pw (s.take 7) : Int) :: wordsOf (s.drop 7) := fun s h => wordsOf_cons h
  have hpw : ∀ (s t : Bytes), s.length = t.length → (pw (s.take 7) < pw (t.take 7) ↔ pv (s.take 7) < pv (t.take 7)) ∧ (pw (s.take 7) = pw (t.take 7) → s.take 7 = t.take 7) := by
    intro s t h
    have hl : (s.take 7).length = (t.take 7).length := by simp [h]
    have hM : 0 < 256 ^ (7 - (t.take 7).length) := Nat.pow_pos (by omega)
    unfold pw
    rw [hl]
    exact ⟨Nat.mul_lt_mul_right hM, fun e => pv_inj hl (Nat.eq_of_mul_eq_mul_right hM e)⟩
  induction k with
  | zero =>
    intro s t hst hk _ hne
    have hs : s ≠ [] := by rintro rfl; simp [nPieces] at hk
    have ht : t ≠ [] := by rintro rfl; simp at hst; exact hs hst
    rw [hcut s hs, hcut t ht] at hne ⊢
    simp only [List.getD_cons_zero] at hne ⊢
    obtain ⟨p1, p2⟩ := hpw s t hst
    have hl : (s.take 7).length = (t.take 7).length := by simp [hst]
    have hpq : s.take 7 ≠ t.take 7 := by intro e; rw [e] at hne; exact hne rfl
    have : ltB s t = ltB (s.take 7) (t.take 7) := by
      conv => lhs; rw [← List.take_append_drop 7 s, ← List.take_append_drop 7 t]
      exact ltB_front _ _ hl hpq
    rw [this, ltB_pv _ _ hl]
    apply decide_eq_decide.2
    rw [Int.ofNat_lt]; exact p1
  | succ k ih =>
    intro s t hst hk hall hne
    have hs : s ≠ [] := by rintro rfl; simp [nPieces] at hk
    have ht : t ≠ [] := by rintro rfl; simp at hst; exact hs hst
    have h0 := hall 0 (by omega)
    rw [hcut s hs, hcut t ht] at hne h0 hall ⊢
    simp only [List.getD_cons_zero, List.getD_cons_succ] at hne h0 ⊢
    obtain ⟨p1, p2⟩ := hpw s t hst
    have e := p2 (Int.natCast_inj.1 h0)
    have := ih (s.drop 7) (t.drop 7) (by simp [hst]) (by unfold nPieces at hk ⊢; simp; omega) (fun i hi => by
      have := hall (i + 1) (by omega)
      simpa only [List.getD_cons_succ] using this) hne
    rw [this]
    conv => rhs; rw [← List.take_append_drop 7 s, ← List.take_append_drop 7 t, e]
    rw [ltB_same]

theorem words_inj {s t : Bytes} (hst : s.length = t.length) (h : wordsOf s = wordsOf t) : s = t := by
  have h1 := flatI_words s.length s (Nat.le_refl _)
  have h2 := flatI_words t.length t (Nat.le_refl _)
  rw [h, h2] at h1
  exact (natsI_inj (List.append_inj h1 (by simp [natsI, hst])).1).symm

abbrev KeyOrder_ctx : Ctx := ctx [(7, lamplighterlaw02_awake.C), (9, key_Words.C)] [] lamplighterlaw02_KeyOrder.loops
theorem KeyOrder_vc (s : Bytes) (t : Bytes) : lamplighterlaw02_KeyOrder.H KeyOrder_ctx (.str s) (.str t) [] Told := by
  unfold lamplighterlaw02_KeyOrder.H
  simp only [go_sem, Nat.reduceEqDiff, Nat.reduceLT, Nat.reduceAdd, Nat.reduceSub, Nat.reduceLeDiff, List.reduceReplicate, Int.reduceToNat, lamplighterlaw02_awake.C, key_Words.C]
  refine ⟨fun _ => rfl, fun hb => ?_⟩
  rw [Bool.or_eq_false_iff, decide_eq_false_iff_not, Bool.not_eq_false', decide_eq_true_eq] at hb
  obtain ⟨b1, b2⟩ := hb
  have hst : s.length = t.length := by omega
  have hnn : nPieces s = nPieces t := by unfold nPieces; rw [hst]
  have hnp : nPieces s = (s.length + 6) / 7 := rfl
  have hws := wordsOf_len s
  have hwt := wordsOf_len t
  have e1 : IntKind.i64.wrap ((IntKind.i64.wrap ((s.length : Int) + 6)).tdiv 7) = ((nPieces s : Nat) : Int) := by
    rw [w64 (n := (s.length : Int) + 6) (by omega) (by omega)]
    have : ((s.length : Int) + 6).tdiv 7 = (((s.length + 6) / 7 : Nat) : Int) := rfl
    rw [this, w64 (by omega) (by omega), hnp]
  rw [e1, hws, hwt, ← hnn, decide_eq_true rfl]
  refine ⟨by unfold roomy; omega, by unfold roomy; omega, fun _ => by decide, fun h => by simp at h, fun _ => ?_⟩
  rw [joinW_eq]
  unfold lamplighterlaw02_KeyOrder.L1
  refine ⟨fun m lv h' => ∃ k : Nat, k + m = nPieces s ∧ lv = [.int .i64 k] ∧ h' = [] ∧ ∀ i, i < k → (wordsOf s).getD i 0 = (wordsOf t).getD i 0, ⟨nPieces s, 0, by omega, rfl, rfl, fun i hi => by omega⟩, ?_⟩
  rintro m h' t8 ⟨k, hk, hlv, rfl, hall⟩
  simp only [List.cons.injEq, and_true] at hlv
  subst hlv
  simp only [go_sem, Nat.reduceEqDiff, Nat.reduceLT, Nat.reduceAdd, Nat.reduceSub, Nat.reduceLeDiff, List.reduceReplicate, Int.reduceToNat, hws, hwt]
  refine ⟨fun hlt => ⟨by omega, by omega, fun hne => ?_, fun heq => ?_⟩, fun hge => ?_⟩
  · refine ⟨by omega, ?_⟩
    have := words_order k s t hst (by omega) hall hne
    rw [this, beq_self_eq_true]; rfl
  · refine ⟨m - 1, by omega, k + 1, by omega, by rw [w64 (by omega) (by omega)]; rfl, fun i hi => ?_⟩
    by_cases e : i = k
    · subst e; exact heq
    · exact hall i (by omega)
  · have : wordsOf s = wordsOf t := by
      apply List.ext_getElem (by rw [hws, hwt, hnn])
      intro i h1 h2
      have := hall i (by omega)
      rw [List.getD_eq_getElem?_getD, List.getD_eq_getElem?_getD, List.getElem?_eq_getElem h1, List.getElem?_eq_getElem h2] at this
      exact this
    have := words_inj hst this
    subst this
    rw [decide_eq_true rfl]; rfl
theorem KeyOrder_ok : Ok Try.prog KeyOrder_ctx := ctx_ok (by simpa using ⟨lamplighterlaw02_awake.spec, key_Words.spec⟩) (by simp) _
theorem KeyOrder_law (s : Bytes) (t : Bytes) : funW KeyOrder_ctx Try.f4 [(.str s), (.str t)] [] Told := by
  rw [KeyOrder_ctx, lamplighterlaw02_KeyOrder.eq]
  exact KeyOrder_vc s t
end Lam
