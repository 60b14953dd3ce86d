/- What functions of the program come to, each proved from its code. -/
import Derived.Test.YtdnhjeoacanbcabLm5
namespace Lam
open Go Go.Proofs
set_option linter.unusedVariables false
set_option linter.unnecessarySimpa false
set_option linter.unusedSimpArgs false
abbrev FastBack_ctx : Ctx := ctx [(35, lamplighterlaw06_awake.C), (37, fast_Insert.C), (39, fast_Delete.C), (36, lamplighterlaw06_unlike.C), (38, lamplighterref06_With.C), (17, micro_Run.C), (40, lamplighterlaw06_laid.C), (41, fast_Slots.C), (22, lamplighterref02_Numbers.C)] [] lamplighterlaw06_FastBack.loops
set_option maxRecDepth 20000 in
theorem FastBack_vc (l : List Int) (pos : Int) (ref : Int) (w_pos : (Lit.int .i64 pos).wf = true) (w_ref : (Lit.int .i64 ref).wf = true) : lamplighterlaw06_FastBack.H FastBack_ctx (.sl false (.ints .i64 l)) (.int .i64 pos) (.int .i64 ref) [] Told := by
  unfold lamplighterlaw06_FastBack.H
  simp (maxSteps := 4000000) only [go_sem, Nat.reduceEqDiff, Nat.reduceLT, Nat.reduceAdd, Nat.reduceSub, Nat.reduceLeDiff, List.reduceReplicate, Int.reduceToNat, lamplighterlaw06_awake.C, fast_Insert.C, fast_Delete.C, lamplighterlaw06_unlike.C, lamplighterref06_With.C, micro_Run.C, lamplighterlaw06_laid.C, fast_Slots.C, lamplighterref02_Numbers.C]
  refine ⟨fun hg => ?_, fun _ => rfl, fun hg => ?_⟩
  · unfold roomy; omega
  simp only [Bool.or_eq_false_iff, Bool.not_eq_false', decide_eq_false_iff_not] at hg
  obtain ⟨hl, hu⟩ := hg
  have hrl : roomy l.length := by unfold roomy; omega
  refine ⟨hrl, ?_⟩
  rcases ins_cases l pos ref with ⟨e, he, h1⟩ | ⟨h0, h1, h2, h3, h4, h5⟩
  · simp only [h1, he, decide_true, decide_false, List.length_nil, joinW_eq, guard_tt, guard_tf, guard_ft, guard_ff, Int.reduceEq, Int.reduceLT, Int.reduceLE, decide_false, decide_true, Bool.not_false, Bool.not_true, Bool.not_not, not_true_eq_false, not_false_eq_true, true_implies, false_implies, implies_true, and_true, true_and, reduceCtorEq, Bool.and_self, Bool.or_self, Bool.and_true, Bool.true_and, Bool.false_eq_true, if_true, if_false, go_sem, Nat.reduceEqDiff, Nat.reduceLT, Nat.reduceAdd, Nat.reduceSub, Nat.reduceLeDiff, List.reduceReplicate, Int.reduceToNat]
    rfl
  · obtain ⟨p, rfl⟩ := Int.eq_ofNat_of_zero_le h0
    have hp : p ≤ l.length := by omega
    rw [h5]
    simp only [Int.ofNat_eq_natCast, Int.toNat_natCast] at *
    have hin := insS_in h2 hp ref
    have hWl := with_len l ref hp
    have hWin := delS_in (l := withL l p ref) (p := p) (by omega) (by omega)
    have hWpos : ∀ x ∈ withL l p ref, 0 < x := fun x hx => by
      rcases with_mem hx with h | h
      · omega
      · exact h4 x h
    have hdv := del_ok (l := withL l p ref) (p := p) (by omega) (by omega) hWpos
    have r1 := node_run (z := l) (by omega) hin _ (insS_words h2 hp ref)
    have r2 := node_run (z := withL l p ref) (by omega) hWin _ (delS_words (by omega) (by omega))
    rw [without_with l ref hp] at r2
    have hl0 : nodeW (l ++ [0]) = nodeW l := by
      refine nodeW_ext (by omega) (nodeW_len (by simp; omega)) (fun k hk => nodeW_low hk) fun k hk => ?_
      rw [nodeW_at, getD_app2]
      split
      · rfl
      · rw [getD_none (l := l) (by omega)]
        exact getD_rep 1 _
    rw [hl0] at r2
    have s1 := node_sound' (z := l) (by omega) hin
    have s2 := node_sound' (z := withL l p ref) (by omega) hWin
    have sl1 : (storedN 16 (insS l p ref) (insS l p ref).length).length ≤ 100 := by
      have h1 := storedN_len 16 (insS l p ref) (insS l p ref).length
      have h2 := insS_len l p ref
      omega
    have sl2 : (storedN 16 (delS (withL l p ref) p) (delS (withL l p ref) p).length).length ≤ 100 := by
      have h1 := storedN_len 16 (delS (withL l p ref) p) (delS (withL l p ref) p).length
      have h2 := delS_len (l := withL l p ref) (p := p) (by omega)
      omega
    have t1 := slots_node (z := l) (by omega)
    have t2 := slots_node (z := withL l p ref) (by omega)
    rw [upTo_all h4] at t1
    rw [upTo_all hWpos] at t2
    have hm1 := small_node (l := l) (by omega)
    have hm2 := small_node (l := withL l p ref) (by omega)
    have n1 := nodeW_len (z := l) (by omega)
    have n2 := nodeW_len (z := withL l p ref) (by omega)
    have tk1 : l.take 13 = l := take_len l (by omega)
    have tk2 : (withL l p ref).take 13 = withL l p ref := take_len _ (by omega)
    have s1' := s1
    have s2' := s2
    generalize storedN 16 (insS l p ref) (insS l p ref).length = A at *
    generalize storedN 16 (delS (withL l p ref) p) (delS (withL l p ref) p).length = B at *
    have e1 : runS ⟨nodeW l, nodeW l, []⟩ (A ++ B) = ⟨nodeW l, nodeW l, []⟩ := by rw [runS_append, r1, r2]
    have e2 : runS ⟨nodeW (withL l p ref), nodeW (withL l p ref), []⟩ (B ++ A) = ⟨nodeW (withL l p ref), nodeW (withL l p ref), []⟩ := by rw [runS_append, r2, r1]
    have q1 : soundB ⟨nodeW l, nodeW l, []⟩ (A ++ B) = true := by
      refine sound_iff.2 ⟨(sound_iff.1 s1).1, fun x hx => ?_⟩
      rcases List.mem_append.1 hx with hx | hx
      · exact (sound_iff.1 s1).2 x hx
      · have := (sound_iff.1 s2).2 x hx
        simp only [n1, n2] at this ⊢; exact this
    have q2 : soundB ⟨nodeW (withL l p ref), nodeW (withL l p ref), []⟩ (B ++ A) = true := by
      refine sound_iff.2 ⟨(sound_iff.1 s2).1, fun x hx => ?_⟩
      rcases List.mem_append.1 hx with hx | hx
      · exact (sound_iff.1 s2).2 x hx
      · have := (sound_iff.1 s1).2 x hx
        simp only [n1, n2] at this ⊢; exact this
    generalize withL l p ref = W at *
    simp only [hdv, tk1, tk2, decide_true, decide_false, List.length_nil, Int.toNat_natCast, joinW_eq, guard_tt, guard_tf, guard_ft, guard_ff, Int.reduceEq, Int.reduceLT, Int.reduceLE, decide_false, decide_true, Bool.not_false, Bool.not_true, Bool.not_not, not_true_eq_false, not_false_eq_true, true_implies, false_implies, implies_true, and_true, true_and, reduceCtorEq, Bool.and_self, Bool.or_self, Bool.and_true, Bool.true_and, Bool.false_eq_true, if_true, if_false, go_sem, Nat.reduceEqDiff, Nat.reduceLT, Nat.reduceAdd, Nat.reduceSub, Nat.reduceLeDiff, List.reduceReplicate, Int.reduceToNat]
    simp only [micro_Run.C, runV_ok q1, runV_ok q2, e1, e2, t1, t2, fast_Slots.C, lamplighterref02_Numbers.C, decide_self, List.length_nil, joinW_eq, guard_tt, guard_tf, guard_ft, guard_ff, Int.reduceEq, Int.reduceLT, Int.reduceLE, decide_false, decide_true, Bool.not_false, Bool.not_true, Bool.not_not, not_true_eq_false, not_false_eq_true, true_implies, false_implies, implies_true, and_true, true_and, reduceCtorEq, Bool.and_self, Bool.or_self, Bool.and_true, Bool.true_and, Bool.false_eq_true, if_true, if_false, go_sem, Nat.reduceEqDiff, Nat.reduceLT, Nat.reduceAdd, Nat.reduceSub, Nat.reduceLeDiff, List.reduceReplicate, Int.reduceToNat]
    have hab : (A ++ B).length = A.length + B.length := List.length_append
    have hba : (B ++ A).length = B.length + A.length := List.length_append
    rw [hab, hba, n1, n2, show decide (IntKind.i64.wrap (0 + 0) = 0) = true from by decide]
    unfold roomy at *
    exact ⟨by omega, by omega, by omega, by omega, by omega, ⟨hm1, by omega⟩, by omega, by omega, by omega, ⟨hm2, by omega⟩, by omega, by omega, by omega, by omega, rfl⟩
theorem FastBack_ok : Ok Try.prog FastBack_ctx := ctx_ok (by simpa using ⟨lamplighterlaw06_awake.spec, fast_Insert.spec, fast_Delete.spec, lamplighterlaw06_unlike.spec, lamplighterref06_With.spec, micro_Run.spec, lamplighterlaw06_laid.spec, fast_Slots.spec, lamplighterref02_Numbers.spec⟩) (by simp) _
theorem FastBack_law (l : List Int) (pos : Int) (ref : Int) (w_pos : (Lit.int .i64 pos).wf = true) (w_ref : (Lit.int .i64 ref).wf = true) : funW FastBack_ctx Try.f9 [(.sl false (.ints .i64 l)), (.int .i64 pos), (.int .i64 ref)] [] Told := by
  rw [FastBack_ctx, lamplighterlaw06_FastBack.eq]
  exact FastBack_vc l pos ref w_pos w_ref
end Lam
