/- What functions of the program come to, each proved from its code. -/
import Derived.Test.YtdnhjeoacanbcaaLV2
namespace Lam
open Go Go.Proofs
set_option linter.unusedVariables false
set_option linter.unnecessarySimpa false
set_option linter.unusedSimpArgs false

theorem first16 (words rest : List Int) (h : 16 ≤ words.length) : (∀ i, i < 16 → (words.take 16 ++ rest).getD i 0 = words.getD i 0) ∧ ((words.take 16 ++ rest).drop 4).take 12 = (words.drop 4).take 12 ∧ (words.take 16 ++ rest).length = 16 + rest.length := by
  have h16 : (words.take 16).length = 16 := by simp; omega
  refine ⟨fun i hi => ?_, ?_, by simp; omega⟩
  · rw [List.getD_eq_getElem?_getD, List.getD_eq_getElem?_getD, List.getElem?_append_left (by omega), List.getElem?_take, if_pos hi]
  · rw [List.drop_append_of_le_length (by omega), List.take_append_of_le_length (by simp; omega), List.drop_take, List.take_take]; simp

theorem readB_parts {l : List Int} (h : readB l = true) : 32 ≤ l.length ∧ l.getD 0 0 = 7015 ∧ l.getD 2 0 = sumOf [7015, l.getD 1 0] ∧ mayB (l.getD 1 0) (l.getD 3 0) = true ∧ l.getD 1 0 = ((l.length / 16 : Nat) : Int) ∧ ∀ w ∈ (l.drop 4).take 12, w = 0 := by
  simp only [readB, headB, Bool.and_eq_true, decide_eq_true_eq, List.all_eq_true] at h
  obtain ⟨⟨h1, ⟨⟨h2, h3⟩, h4⟩, h5⟩, h6⟩ := h
  exact ⟨h1, h2, h3, h4, h5, h6⟩

theorem mayB_parts {b r : Int} (h : mayB b r = true) : 2 ≤ b ∧ b ≤ 256 ∧ 1 ≤ r ∧ r < b := by
  simp only [mayB, Bool.and_eq_true, decide_eq_true_eq] at h
  omega

theorem superW_take {l : List Int} (h : readB l = true) : superW (l.getD 1 0) (l.getD 3 0) = l.take 16 := by
  obtain ⟨h1, h2, h3, h4, h5, h6⟩ := readB_parts h
  apply List.ext_getElem
  · simp [superW]; omega
  intro i hi hi2
  have hi16 : i < 16 := by simp [superW] at hi; omega
  have hil : i < l.length := by omega
  rw [List.getElem_take]
  have hd : ∀ k (hk : k < l.length), l[k] = l.getD k 0 := fun k hk => by rw [List.getD_eq_getElem?_getD, List.getElem?_eq_getElem hk]; rfl
  by_cases h0 : i < 4
  · rcases i with _ | _ | _ | _ | i
    · rw [hd, h2]; rfl
    · rw [hd]; rfl
    · rw [hd, h3]; rfl
    · rw [hd]; rfl
    · omega
  · have hz : l[i] = 0 := by
      apply h6
      obtain ⟨k, rfl⟩ : ∃ k, i = 4 + k := ⟨i - 4, by omega⟩
      have hk : k < ((l.drop 4).take 12).length := by simp; omega
      have : ((l.drop 4).take 12)[k] = l[4 + k] := by rw [List.getElem_take, List.getElem_drop]
      rw [← this]; exact List.getElem_mem hk
    rw [hz]
    have e : (superW (l.getD 1 0) (l.getD 3 0))[i]? = some 0 := by
      unfold superW
      rw [List.getElem?_append_right (by simp only [List.length_cons, List.length_nil]; omega), List.getElem?_replicate, if_pos (by simp only [List.length_cons, List.length_nil]; omega)]
    rw [List.getElem?_eq_getElem hi] at e
    exact Option.some.inj e

theorem readB_same {words rest : List Int} (h : readB words = true) : readB (words.take 16 ++ rest) = decide ((((16 + rest.length) / 16 : Nat) : Int) = words.getD 1 0) := by
  obtain ⟨h1, h2, h3, h4, h5, h6⟩ := readB_parts h
  obtain ⟨a1, a2, a3⟩ := first16 words rest (by omega)
  have hm := mayB_parts h4
  have ha : ((words.drop 4).take 12).all (fun w => decide (w = 0)) = true := by rw [List.all_eq_true]; intro w hw; simpa using h6 w hw
  simp only [readB, headB, a1 0 (by omega), a1 1 (by omega), a1 2 (by omega), a1 3 (by omega), a2, a3, ha, h2, h4, h3, decide_true, Bool.and_true, Bool.true_and]
  by_cases e : (((16 + rest.length) / 16 : Nat) : Int) = words.getD 1 0
  · rw [decide_eq_true e, decide_eq_true e.symm, decide_eq_true (by omega)]; rfl
  · rw [decide_eq_false e, decide_eq_false (Ne.symm e), Bool.and_false]

theorem superOnly_vc (words rest : List Int) : lamplighterlaw08_SuperOnly.H (ctx [(15, lamplighterlaw08_awake.C), (16, super_Words.C), (18, super_Read.C), (22, lamplighterref02_Numbers.C)] [] lamplighterlaw08_SuperOnly.loops) (.sl false (.ints .i64 words)) (.sl false (.ints .i64 rest)) [] Told := by
  unfold lamplighterlaw08_SuperOnly.H
  simp only [go_sem, Nat.reduceEqDiff, Nat.reduceLT, Nat.reduceAdd, Nat.reduceSub, Nat.reduceLeDiff, List.reduceReplicate, Int.reduceToNat, lamplighterlaw08_awake.C]
  refine ⟨fun hbig => rfl, fun hbig => ?_⟩
  have hb : words.length ≤ 5000 ∧ rest.length ≤ 5000 := by simp at hbig; omega
  simp only [go_sem, Nat.reduceEqDiff, Nat.reduceLT, Nat.reduceAdd, Nat.reduceSub, Nat.reduceLeDiff, List.reduceReplicate, Int.reduceToNat, super_Read.C]
  refine ⟨by unfold roomy; omega, ?_⟩
  cases hr : readB words with
  | false =>
    have : readV words = .tup [.int .i64 0, .int .i64 0, .int .i64 80] := by unfold readV; rw [hr]; rfl
    simp only [this, go_sem, Nat.reduceEqDiff, Nat.reduceLT, Nat.reduceAdd, Nat.reduceSub, Nat.reduceLeDiff, List.reduceReplicate, Int.reduceToNat]
    exact ⟨fun _ => rfl, fun h => absurd h (by decide)⟩
  | true =>
    have : readV words = .tup [.int .i64 (words.getD 1 0), .int .i64 (words.getD 3 0), .int .i64 0] := by unfold readV; rw [if_pos hr]
    simp only [this, go_sem, Nat.reduceEqDiff, Nat.reduceLT, Nat.reduceAdd, Nat.reduceSub, Nat.reduceLeDiff, List.reduceReplicate, Int.reduceToNat, super_Words.C]
    have hm : mayB (words.getD 1 0) (words.getD 3 0) = true := by
      simp only [readB, headB, Bool.and_eq_true] at hr
      exact hr.1.2.1.2
    obtain ⟨h1, h2, h3, h4, h5, h6⟩ := readB_parts hr
    obtain ⟨a1, a2, a3⟩ := first16 words rest (by omega)
    have hW := superW_take hr
    have e1 : IntKind.i64.wrap ((words.length : Int).tdiv 16) = words.getD 1 0 := by rw [tdiv16, h5]; apply w64 <;> omega
    have e2 : IntKind.i64.wrap ((IntKind.i64.wrap (16 + (rest.length : Int))).tdiv 16) = (((16 + rest.length) / 16 : Nat) : Int) := by
      rw [w64 (n := 16 + (rest.length : Int)) (by omega) (by omega)]
      have : (16 + (rest.length : Int)) = ((16 + rest.length : Nat) : Int) := by omega
      rw [this, tdiv16]; apply w64 <;> omega
    have hB := readB_same (rest := rest) hr
    simp only [hm, if_true, go_sem, Nat.reduceEqDiff, Nat.reduceLT, Nat.reduceAdd, Nat.reduceSub, Nat.reduceLeDiff, List.reduceReplicate, Int.reduceToNat, super_Read.C, hW, lamplighterref02_Numbers.C, e1, e2]
    have hr4 : roomy (List.take 16 words).length := by unfold roomy; simp; omega
    have hr5 : roomy (List.take 16 words ++ rest).length := by unfold roomy; rw [a3]; omega
    refine ⟨by omega, hr4, hr5, hr5, ?_⟩
    by_cases hs : (((16 + rest.length) / 16 : Nat) : Int) = words.getD 1 0
    · have hB2 : readB (words.take 16 ++ rest) = true := by rw [hB, decide_eq_true hs]
      have : readV (words.take 16 ++ rest) = .tup [.int .i64 (words.getD 1 0), .int .i64 (words.getD 3 0), .int .i64 0] := by unfold readV; rw [if_pos hB2, a1 1 (by omega), a1 3 (by omega)]
      simp only [this, go_sem, Nat.reduceEqDiff, Nat.reduceLT, Nat.reduceAdd, Nat.reduceSub, Nat.reduceLeDiff, List.reduceReplicate, Int.reduceToNat, hs]
      exact ⟨by decide, ⟨by omega, hr4⟩, by decide, rfl⟩
    · have hB2 : readB (words.take 16 ++ rest) = false := by rw [hB, decide_eq_false hs]
      have : readV (words.take 16 ++ rest) = .tup [.int .i64 0, .int .i64 0, .int .i64 80] := by unfold readV; rw [hB2]; rfl
      simp only [this, go_sem, Nat.reduceEqDiff, Nat.reduceLT, Nat.reduceAdd, Nat.reduceSub, Nat.reduceLeDiff, List.reduceReplicate, Int.reduceToNat, hs]
      exact ⟨by decide, ⟨by omega, hr4⟩, by decide, rfl⟩
abbrev superOnly_ctx : Ctx := ctx [(15, lamplighterlaw08_awake.C), (16, super_Words.C), (18, super_Read.C), (22, lamplighterref02_Numbers.C)] [] lamplighterlaw08_SuperOnly.loops
theorem SuperOnly_ok : Ok Try.prog superOnly_ctx := ctx_ok (by simpa using ⟨lamplighterlaw08_awake.spec, super_Words.spec, super_Read.spec, lamplighterref02_Numbers.spec⟩) (by simp) _
theorem SuperOnly_law (words rest : List Int) : funW superOnly_ctx Try.f5 [.sl false (.ints .i64 words), .sl false (.ints .i64 rest)] [] Told := by
  rw [superOnly_ctx, lamplighterlaw08_SuperOnly.eq]
  exact superOnly_vc words rest
end Lam
