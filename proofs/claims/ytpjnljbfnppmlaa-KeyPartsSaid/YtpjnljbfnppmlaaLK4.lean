/- What functions of the program come to, each proved from its code. -/
import Derived.Test.YtpjnljbfnppmlaaLK3
namespace Lam
open Go Go.Proofs
set_option linter.unusedVariables false
set_option linter.unnecessarySimpa false
set_option linter.unusedSimpArgs false

def key_Check.C : Contract
  | [.str s] => some (false, pD True (.bool (decide (s ≠ []) && decide ((s.length : Int) ≤ 21))))
  | _ => none
theorem key_Check.spec : FSpec Try.prog 11 key_Check.C := by
  refine FSpec.of (ctx_ok (F := []) (S := []) (by simp) (by simp) key_Check.loops) key_Check.at key_Check.nm key_Check.bd ?_
  intro vs b S v news e hS
  unfold key_Check.C at e
  split at e
  rotate_left
  · cases e
  cases e
  rw [key_Check.eq]
  unfold key_Check.H
  simp only [go_sem, Nat.reduceEqDiff, Nat.reduceLT, Nat.reduceAdd, Nat.reduceSub, Nat.reduceLeDiff, List.reduceReplicate, Int.reduceToNat]
  rename_i s
  have : (decide ¬s = []) = !decide (s = []) := by by_cases h : s = [] <;> simp [h]
  rw [this]
  exact post_val rfl rfl
def key_CheckVal.C : Contract
  | [.str s] => some (false, pD True (.bool (decide ((s.length : Int) ≤ 21))))
  | _ => none
theorem key_CheckVal.spec : FSpec Try.prog 12 key_CheckVal.C := by
  refine FSpec.of (ctx_ok (F := []) (S := []) (by simp) (by simp) key_CheckVal.loops) key_CheckVal.at key_CheckVal.nm key_CheckVal.bd ?_
  intro vs b S v news e hS
  unfold key_CheckVal.C at e
  split at e
  rotate_left
  · cases e
  cases e
  rw [key_CheckVal.eq]
  unfold key_CheckVal.H
  simp only [go_sem, Nat.reduceEqDiff, Nat.reduceLT, Nat.reduceAdd, Nat.reduceSub, Nat.reduceLeDiff, List.reduceReplicate, Int.reduceToNat]
  exact post_val rfl rfl
def lamplighterlaw02_awake.C : Contract
  | [] => some (false, pD True (.bool true))
  | _ => none
theorem lamplighterlaw02_awake.spec : FSpec Try.prog 7 lamplighterlaw02_awake.C := by
  refine FSpec.of (ctx_ok (F := [(9, key_Words.C), (8, key_Text.C), (11, key_Check.C), (12, key_CheckVal.C)]) (S := []) (by simpa using ⟨key_Words.spec, key_Text.spec, key_Check.spec, key_CheckVal.spec⟩) (by simp) lamplighterlaw02_awake.loops) lamplighterlaw02_awake.at lamplighterlaw02_awake.nm lamplighterlaw02_awake.bd ?_
  intro vs b S v news e hS
  unfold lamplighterlaw02_awake.C at e
  split at e
  rotate_left
  · cases e
  cases e
  rw [lamplighterlaw02_awake.eq]
  unfold lamplighterlaw02_awake.H
  simp only [go_sem, Nat.reduceEqDiff, Nat.reduceLT, Nat.reduceAdd, Nat.reduceSub, Nat.reduceLeDiff, List.reduceReplicate, Int.reduceToNat, key_Words.C, key_Text.C, key_Check.C, key_CheckVal.C, textV]
  have h1 : textB (wordsOf [97, 98, 99, 100, 101, 102, 103, 104]) 8 = true ∧ textS (wordsOf [97, 98, 99, 100, 101, 102, 103, 104]) 8 = [97, 98, 99, 100, 101, 102, 103, 104] := text_words [97, 98, 99, 100, 101, 102, 103, 104] (by decide)
  have h2 : (wordsOf [97, 98, 99, 100, 101, 102, 103, 104]).length = 2 := by decide
  have h3 : (wordsOf [97, 98, 99, 100, 101, 102, 103, 104]).getD 1 0 = 29273397577908224 := by decide
  have h4 : textB [1] 1 = false := by decide
  simp only [h1.1, h1.2, h2, h3, h4]
  refine ⟨by unfold roomy; decide, ⟨by unfold roomy; decide, by decide⟩, ⟨by unfold roomy; decide, by decide⟩, fun _ => by decide, ?_⟩
  simp only [go_sem, Nat.reduceEqDiff, Nat.reduceLT, Nat.reduceAdd, Nat.reduceSub, Nat.reduceLeDiff, List.reduceReplicate, Int.reduceToNat, if_true, if_false, Bool.false_eq_true, Int.reduceLE, Int.reduceEq, Bool.and_true, Bool.and_self]
  exact post_val rfl rfl
abbrev KeyMay_ctx : Ctx := ctx [(7, lamplighterlaw02_awake.C), (8, key_Text.C), (11, key_Check.C), (12, key_CheckVal.C)] [] lamplighterlaw02_KeyMay.loops
theorem KeyMay_vc (s : Bytes) (n : Int) (w : Int) (w_n : (Lit.int .u8 n).wf = true) (w_w : (Lit.int .i64 w).wf = true) : lamplighterlaw02_KeyMay.H KeyMay_ctx (.str s) (.int .u8 n) (.int .i64 w) [] Told := by
  unfold lamplighterlaw02_KeyMay.H
  simp only [go_sem, Nat.reduceEqDiff, Nat.reduceLT, Nat.reduceAdd, Nat.reduceSub, Nat.reduceLeDiff, List.reduceReplicate, Int.reduceToNat, lamplighterlaw02_awake.C, key_Text.C, key_Check.C, key_CheckVal.C, textV]
  refine ⟨fun _ => rfl, fun hlen => ?_⟩
  have hn := wf_u8 w_n
  have e1 : IntKind.i64.wrap ((s.length : Int) + 1) = ((s.length + 1 : Nat) : Int) := by rw [w64 (by omega) (by omega)]; omega
  obtain ⟨m, rfl⟩ : ∃ m : Nat, n = m := ⟨n.toNat, by omega⟩
  have e2 : IntKind.i64.wrap ((m : Nat) : Int) = (m : Int) := w64 (by omega) (by omega)
  have e3 : (m : Int).tmod ((s.length + 1 : Nat) : Int) = ((m % (s.length + 1) : Nat) : Int) := rfl
  have hm : m % (s.length + 1) < s.length + 1 := Nat.mod_lt _ (by omega)
  rw [e1, e2, e3, Int.toNat_natCast, List.length_take, Nat.min_eq_left (by omega)]
  refine ⟨by omega, ⟨by unfold roomy; decide, by decide⟩, fun _ h => by omega, ?_⟩
  have f1 : ((decide (s ≠ []) && decide ((s.length : Int) ≤ 21)) == (decide ((s.length : Int) ≤ 21) && decide (0 < (s.length : Int)))) = true := by
    have : decide (s ≠ []) = decide (0 < (s.length : Int)) := by
      apply decide_eq_decide.2
      rw [← List.length_pos_iff]; omega
    rw [this, Bool.and_comm, beq_self_eq_true]
  have f2 : (!decide ((s.length : Int) ≤ 21) || decide (((m % (s.length + 1) : Nat) : Int) ≤ 21)) = true := by
    by_cases h : (s.length : Int) ≤ 21
    · have : ((m % (s.length + 1) : Nat) : Int) ≤ 21 := by omega
      rw [decide_eq_true this, Bool.or_true]
    · rw [decide_eq_false h]; rfl
  have f3 : textB [w] 7 = (decide (0 ≤ w) && decide (w < 72057594037927936)) := by
    have h1 : lenT 7 = 1 := by decide
    have h2 : (flatI [w]).drop 7 = [] := List.drop_eq_nil_of_le (by rw [flatI_len]; simp)
    show (!decide ((7 : Int) < 0) && decide ((([w] : List Int).length : Int) = lenT 7) && [w].all wMay && ((flatI [w]).drop 7).all (fun b => decide (b = 0))) = _
    rw [h1, h2]
    simp [wMay]
  have f1' : ((decide ¬s = [] && decide ((s.length : Int) ≤ 21)) == (decide ((s.length : Int) ≤ 21) && decide (0 < (s.length : Int)))) = true := f1
  rw [f1', f2, f3]
  cases (decide (0 ≤ w) && decide (w < 72057594037927936)) <;> rfl
theorem KeyMay_ok : Ok Try.prog KeyMay_ctx := ctx_ok (by simpa using ⟨lamplighterlaw02_awake.spec, key_Text.spec, key_Check.spec, key_CheckVal.spec⟩) (by simp) _
theorem KeyMay_law (s : Bytes) (n : Int) (w : Int) (w_n : (Lit.int .u8 n).wf = true) (w_w : (Lit.int .i64 w).wf = true) : funW KeyMay_ctx Try.f6 [(.str s), (.int .u8 n), (.int .i64 w)] [] Told := by
  rw [KeyMay_ctx, lamplighterlaw02_KeyMay.eq]
  exact KeyMay_vc s n w w_n w_w
end Lam
