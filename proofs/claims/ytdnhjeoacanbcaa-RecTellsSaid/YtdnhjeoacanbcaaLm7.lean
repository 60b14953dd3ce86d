/- What functions of the program come to, each proved from its code. -/
import Derived.Test.YtdnhjeoacanbcaaLm6
namespace Lam
open Go Go.Proofs
set_option linter.unusedVariables false
set_option linter.unnecessarySimpa false
set_option linter.unusedSimpArgs false
def lamplighterref05_may.C : Contract
  | [.agg [.int .i64 k, .int .i64 a, .int .i64 w], .int .i64 n] => some (false, pD True (.bool (mmay ⟨k, a, w⟩ n)))
  | _ => none
set_option maxRecDepth 20000 in
theorem lamplighterref05_may.spec : FSpec Try.prog 107 lamplighterref05_may.C := by
  refine FSpec.of (ctx_ok (F := []) (S := []) (by simp) (by simp) lamplighterref05_may.loops) lamplighterref05_may.at lamplighterref05_may.nm lamplighterref05_may.bd ?_
  intro vs b S v news e hS
  unfold lamplighterref05_may.C at e
  split at e
  rotate_left
  · cases e
  cases e
  rw [lamplighterref05_may.eq]
  unfold lamplighterref05_may.H
  simp (maxSteps := 4000000) only [go_sem, Nat.reduceEqDiff, Nat.reduceLT, Nat.reduceAdd, Nat.reduceSub, Nat.reduceLeDiff, List.reduceReplicate, Int.reduceToNat]
  rename_i k a w n
  have key : mmay ⟨k, a, w⟩ n = if k = 1 then (decide (0 ≤ a) && decide (a < n)) else (decide (k = 2) && decide (0 ≤ a) && decide (a < IntKind.i64.wrap (n.tdiv 8)) && decide (w = 0)) := by
    unfold mmay
    simp only []
    by_cases h1 : k = 1
    · subst h1; simp
    · rw [if_neg h1, if_neg h1]
      by_cases h2 : k = 2
      · subst h2; simp
      · rw [if_neg h2]
        rw [Bool.eq_iff_iff]; simp only [Bool.and_eq_true, Bool.or_eq_true, Bool.not_eq_true', Bool.not_eq_false', Bool.not_eq_true, decide_eq_true_eq, decide_eq_false_iff_not, Bool.or_eq_false_iff, Bool.and_eq_false_iff, beq_iff_eq]; simp [h2]; omega
  refine ⟨fun h => ?_, fun h => ⟨fun _ => by decide, ?_⟩⟩
  · rw [key, if_pos h]; exact post_val rfl rfl
  · rw [key, if_neg h]; exact post_val rfl rfl
def lamplighterref05_Check.C : Contract
  | [.sl _ (.mics l), .int .i64 n] => some (false, pD (roomy l.length) (.bool (stepsB l n)))
  | _ => none
set_option maxRecDepth 20000 in
theorem lamplighterref05_Check.spec : FSpec Try.prog 71 lamplighterref05_Check.C := by
  refine FSpec.of (ctx_ok (F := [(107, lamplighterref05_may.C)]) (S := []) (by simpa using lamplighterref05_may.spec) (by simp) lamplighterref05_Check.loops) lamplighterref05_Check.at lamplighterref05_Check.nm lamplighterref05_Check.bd ?_
  intro vs b S v news e hS
  unfold lamplighterref05_Check.C at e
  split at e
  rotate_left
  · cases e
  cases e
  rw [lamplighterref05_Check.eq]
  unfold lamplighterref05_Check.H
  simp (maxSteps := 4000000) only [go_sem, Nat.reduceEqDiff, Nat.reduceLT, Nat.reduceAdd, Nat.reduceSub, Nat.reduceLeDiff, List.reduceReplicate, Int.reduceToNat, lamplighterref05_may.C]
  rename_i _ l n
  have e : (decide (n < 0) || decide (4096 < n) || !decide (n.tmod 8 = 0)) = !sizedB n := by
    unfold sizedB; rw [Bool.eq_iff_iff]; simp only [Bool.and_eq_true, Bool.or_eq_true, Bool.not_eq_true', Bool.not_eq_false', Bool.not_eq_true, decide_eq_true_eq, decide_eq_false_iff_not, Bool.or_eq_false_iff, Bool.and_eq_false_iff, beq_iff_eq]; omega
  rw [e]
  unfold roomy at hS
  refine ⟨fun _ => by decide, fun h => ?_, fun h => ?_⟩
  · rw [Bool.not_eq_true'] at h
    unfold stepsB; rw [h]; exact post_val rfl rfl
  rw [Bool.not_eq_false'] at h
  rw [joinW_eq]
  unfold lamplighterref05_Check.L1
  refine loop1 (σ := Nat) (fun k => .int .i64 k) (fun k => []) (fun k => l.length - k) (fun k => k ≤ l.length ∧ ∀ x ∈ l.take k, mmay x n = true) 0 rfl rfl ⟨Nat.zero_le _, by simp⟩ ?_
  rintro I back k ⟨hk, hall⟩
  simp only [lamplighterref05_may.C, go_sem, Nat.reduceEqDiff, Nat.reduceLT, Nat.reduceAdd, Nat.reduceSub, Nat.reduceLeDiff, List.reduceReplicate, Int.reduceToNat]
  refine ⟨fun hlt => ⟨by omega, fun hm => ?_, fun hm => ?_⟩, fun hge => ?_⟩
  · have : stepsB l n = false := by
      unfold stepsB
      rw [Bool.and_eq_false_iff]; right
      rw [List.all_eq_false]
      exact ⟨_, getD_mem l k ⟨0, 0, 0⟩ (by omega), by simpa using hm⟩
    rw [this]; exact post_val rfl rfl
  · refine back (k + 1) (by omega) (by rw [wnext (by omega)]) rfl ⟨by omega, fun x hx => ?_⟩
    rw [take_next l k ⟨0, 0, 0⟩ (by omega), List.mem_append, List.mem_singleton] at hx
    rcases hx with hx | rfl
    · exact hall x hx
    · exact hm
  · obtain rfl : k = l.length := by omega
    rw [List.take_length] at hall
    have : stepsB l n = true := by unfold stepsB; rw [h, Bool.true_and, List.all_eq_true]; exact hall
    rw [this]; exact post_val rfl rfl
def lamplighterref05_Do.C : Contract
  | [.agg [.sl false (.ints .i64 vol), .sl false (.ints .i64 per), .sl false (.pends pend)], .agg [.int .i64 a, .int .i64 b, .int .i64 c]] => some (false, pD (smallM vol per pend ∧ pend.length + 1 ≤ 1000000) (runV ⟨vol, per, pend⟩ [⟨a, b, c⟩]))
  | _ => none
set_option maxRecDepth 20000 in
theorem lamplighterref05_Do.spec : FSpec Try.prog 66 lamplighterref05_Do.C := by
  refine FSpec.of (ctx_ok (F := [(106, lamplighterref04_Check.C), (107, lamplighterref05_may.C), (108, lamplighterref04_Put.C), (109, lamplighterref04_Flush.C), (110, lamplighterref04_Fence.C)]) (S := []) (by simpa using ⟨lamplighterref04_Check.spec, lamplighterref05_may.spec, lamplighterref04_Put.spec, lamplighterref04_Flush.spec, lamplighterref04_Fence.spec⟩) (by simp) lamplighterref05_Do.loops) lamplighterref05_Do.at lamplighterref05_Do.nm lamplighterref05_Do.bd ?_
  intro vs b S v news e hS
  unfold lamplighterref05_Do.C at e
  split at e
  rotate_left
  · cases e
  cases e
  rw [lamplighterref05_Do.eq]
  unfold lamplighterref05_Do.H
  simp (maxSteps := 4000000) only [go_sem, Nat.reduceEqDiff, Nat.reduceLT, Nat.reduceAdd, Nat.reduceSub, Nat.reduceLeDiff, List.reduceReplicate, Int.reduceToNat, lamplighterref04_Check.C, lamplighterref05_may.C, lamplighterref04_Put.C, lamplighterref04_Flush.C, lamplighterref04_Fence.C]
  rename_i vol per pend a b c
  obtain ⟨hs, hz⟩ := hS
  have key : (!checkB vol per pend || !mmay ⟨a, b, c⟩ vol.length) = !soundB ⟨vol, per, pend⟩ [⟨a, b, c⟩] := by
    rw [← Bool.not_and]
    congr 1
    rw [Bool.eq_iff_iff, sound_iff, Bool.and_eq_true, check_iff]
    constructor
    · rintro ⟨h1, h2⟩
      exact ⟨h1, fun x hx => by rw [List.mem_singleton] at hx; subst hx; exact (mmay_iff h1.sz).1 h2⟩
    · rintro ⟨h1, h2⟩
      exact ⟨h1, (mmay_iff (OkM.sz h1)).2 (h2 _ (by simp))⟩
  rw [key]
  refine ⟨hs, fun h => ?_, fun h => ?_⟩
  · rw [Bool.not_eq_true'] at h
    rw [runV_no h]; exact post_val rfl rfl
  rw [Bool.not_eq_false'] at h
  obtain ⟨ok, hx⟩ := sound_iff.1 h
  have hx := hx _ (List.mem_singleton.2 rfl)
  have ok : OkM vol per pend := ok
  rw [runV_ok h]
  refine ⟨fun ha => ⟨⟨hs, by unfold roomy; omega⟩, ?_⟩, fun ha => ⟨hs, ?_⟩⟩
  · rcases hx with ⟨hkd, h0, h1⟩ | ⟨hkd, h0, h1, _⟩
    · have hp : placeB vol per pend b = true := place_iff.2 ⟨⟨h0, h1⟩, ok⟩
      simp only [putM_ok hp, go_sem, Nat.reduceEqDiff, Nat.reduceLT, Nat.reduceAdd, Nat.reduceSub, Nat.reduceLeDiff, List.reduceReplicate, Int.reduceToNat]
      subst ha
      exact post_val rfl rfl
    · simp only [] at hkd; omega
  · rcases hx with ⟨hkd, h0, h1⟩ | ⟨hkd, h0, h1, _⟩
    · exact absurd hkd ha
    · have hp : placeB vol per pend (firstI vol b) = true := (OkM.first ok h0 (by simp only [] at h1; omega)).2
      have okf := ok.flush b
      simp only [flushM_ok hp, lamplighterref04_Fence.C, fenceM_ok, check_iff.2 okf, go_sem, Nat.reduceEqDiff, Nat.reduceLT, Nat.reduceAdd, Nat.reduceSub, Nat.reduceLeDiff, List.reduceReplicate, Int.reduceToNat]
      refine ⟨okf.small (by rw [flushP_len]; omega), post_val ?_ rfl⟩
      have hkd : a = 2 := hkd
      subst hkd
      rfl
def lamplighterref05_Run.C : Contract
  | [.agg [.sl false (.ints .i64 vol), .sl false (.ints .i64 per), .sl false (.pends pend)], .sl _ (.mics l)] => some (false, pD (smallM vol per pend ∧ pend.length + l.length ≤ 1000000) (runV ⟨vol, per, pend⟩ l))
  | _ => none
set_option maxRecDepth 20000 in
theorem lamplighterref05_Run.spec : FSpec Try.prog 64 lamplighterref05_Run.C := by
  refine FSpec.of (ctx_ok (F := [(106, lamplighterref04_Check.C), (71, lamplighterref05_Check.C), (66, lamplighterref05_Do.C)]) (S := []) (by simpa using ⟨lamplighterref04_Check.spec, lamplighterref05_Check.spec, lamplighterref05_Do.spec⟩) (by simp) lamplighterref05_Run.loops) lamplighterref05_Run.at lamplighterref05_Run.nm lamplighterref05_Run.bd ?_
  intro vs b S v news e hS
  unfold lamplighterref05_Run.C at e
  split at e
  rotate_left
  · cases e
  cases e
  rw [lamplighterref05_Run.eq]
  unfold lamplighterref05_Run.H
  simp (maxSteps := 4000000) only [go_sem, Nat.reduceEqDiff, Nat.reduceLT, Nat.reduceAdd, Nat.reduceSub, Nat.reduceLeDiff, List.reduceReplicate, Int.reduceToNat, lamplighterref04_Check.C, lamplighterref05_Check.C, lamplighterref05_Do.C]
  rename_i vol per pend _ l
  obtain ⟨hs, hz⟩ := hS
  have key : (!checkB vol per pend || !stepsB l vol.length) = !soundB ⟨vol, per, pend⟩ l := by
    rw [← Bool.not_and]; rfl
  rw [key]
  refine ⟨hs, by unfold roomy; omega, fun h => ?_, fun h => ?_⟩
  · rw [Bool.not_eq_true'] at h
    rw [runV_no h]; exact post_val rfl rfl
  rw [Bool.not_eq_false'] at h
  obtain ⟨ok, hl⟩ := sound_iff.1 h
  rw [runV_ok h, joinW_eq]
  unfold lamplighterref05_Run.L1
  refine loop1 (σ := Nat) (fun k => .int .i64 k) (fun k => [.box (runS ⟨vol, per, pend⟩ (l.take k)).V, .box (memV [] [] [])]) (fun k => l.length - k) (fun k => k ≤ l.length) 0 rfl rfl (Nat.zero_le _) ?_
  intro I back k hk
  have okk := runS_ok (l.take k) ok fun x hx => hl x ((List.take_sublist _ _).subset hx)
  have lenk := runS_len (l.take k) ⟨vol, per, pend⟩
  have pendk := runS_pend_le (l.take k) ⟨vol, per, pend⟩
  rw [List.length_take] at pendk
  simp only [] at lenk pendk
  simp only [go_sem, Nat.reduceEqDiff, Nat.reduceLT, Nat.reduceAdd, Nat.reduceSub, Nat.reduceLeDiff, List.reduceReplicate, Int.reduceToNat]
  refine ⟨fun hlt => ?_, fun hge => ?_⟩
  · have hkl : k < l.length := by omega
    have hnx : runS ⟨vol, per, pend⟩ (l.take (k + 1)) = stepM (runS ⟨vol, per, pend⟩ (l.take k)) (l.getD k ⟨0, 0, 0⟩) := by
      rw [take_next l k ⟨0, 0, 0⟩ hkl, runS_append]; rfl
    have hx := hl _ (getD_mem l k ⟨0, 0, 0⟩ hkl)
    generalize l.getD k ⟨0, 0, 0⟩ = x at *
    generalize runS ⟨vol, per, pend⟩ (l.take k) = m at *
    have hsm : smallM m.vol m.per m.pend := OkM.small okk (by omega)
    have hso : soundB ⟨m.vol, m.per, m.pend⟩ [⟨x.kind, x.at_, x.val⟩] = true := sound_iff.2 ⟨okk, fun y hy => by
      rw [List.mem_singleton] at hy; subst hy
      show MayN x m.vol.length
      rw [lenk]; exact hx⟩
    simp only [lamplighterref05_Do.C, runV_ok hso, go_sem, Nat.reduceEqDiff, Nat.reduceLT, Nat.reduceAdd, Nat.reduceSub, Nat.reduceLeDiff, List.reduceReplicate, Int.reduceToNat]
    refine ⟨by omega, ⟨hsm, by omega⟩, back (k + 1) (by omega) (by rw [wnext (by omega)]) ?_ (by omega)⟩
    rw [hnx]; rfl
  · obtain rfl : k = l.length := by omega
    rw [List.take_length]
    exact post_val rfl rfl
def lamplighterref05_Crash.C : Contract
  | [.agg [.sl false (.ints .i64 vol), .sl false (.ints .i64 per), .sl false (.pends pend)], .sl _ (.mics l), .int .i64 n, .sl _ (.ints .i64 keep)] => some (false, pD (smallM vol per pend ∧ pend.length + l.length ≤ 1000000 ∧ roomy keep.length) (mcrashV ⟨vol, per, pend⟩ l n keep))
  | _ => none
set_option maxRecDepth 20000 in
theorem lamplighterref05_Crash.spec : FSpec Try.prog 68 lamplighterref05_Crash.C := by
  refine FSpec.of (ctx_ok (F := [(64, lamplighterref05_Run.C), (112, lamplighterref04_Crash.C)]) (S := []) (by simpa using ⟨lamplighterref05_Run.spec, lamplighterref04_Crash.spec⟩) (by simp) lamplighterref05_Crash.loops) lamplighterref05_Crash.at lamplighterref05_Crash.nm lamplighterref05_Crash.bd ?_
  intro vs b S v news e hS
  unfold lamplighterref05_Crash.C at e
  split at e
  rotate_left
  · cases e
  cases e
  rw [lamplighterref05_Crash.eq]
  unfold lamplighterref05_Crash.H
  simp (maxSteps := 4000000) only [go_sem, Nat.reduceEqDiff, Nat.reduceLT, Nat.reduceAdd, Nat.reduceSub, Nat.reduceLeDiff, List.reduceReplicate, Int.reduceToNat, lamplighterref05_Run.C, lamplighterref04_Crash.C]
  rename_i vol per pend _ l n _ keep
  obtain ⟨hs, hz, hk1⟩ := hS
  refine ⟨⟨hs, hz⟩, ?_⟩
  have hfold : (if (if (l.length : Int) < n then (l.length : Int) else n) > 0 then (if (l.length : Int) < n then (l.length : Int) else n) else 0) = cutI n l.length := rfl
  rw [hfold]
  have hc := cutI_range n l.length
  cases h : soundB ⟨vol, per, pend⟩ l with
  | false =>
    simp only [runV_no h, mcrash_no h, joinW_eq, guard_tt, guard_tf, guard_ft, guard_ff, Int.reduceEq, Int.reduceLT, Int.reduceLE, decide_false, decide_true, Bool.not_false, Bool.not_true, Bool.not_not, not_true_eq_false, not_false_eq_true, true_implies, false_implies, implies_true, and_true, true_and, reduceCtorEq, Bool.and_self, Bool.or_self, Bool.and_true, Bool.true_and, Bool.false_eq_true, if_true, if_false, go_sem, Nat.reduceEqDiff, Nat.reduceLT, Nat.reduceAdd, Nat.reduceSub, Nat.reduceLeDiff, List.reduceReplicate, Int.reduceToNat]
    exact post_val rfl rfl
  | true =>
    obtain ⟨ok, hl⟩ := sound_iff.1 h
    have hso : soundB ⟨vol, per, pend⟩ (l.take (cutI n l.length).toNat) = true := sound_iff.2 ⟨ok, fun x hx => hl x ((List.take_sublist _ _).subset hx)⟩
    have okk := runS_ok (l.take (cutI n l.length).toNat) ok fun x hx => hl x ((List.take_sublist _ _).subset hx)
    have pendk := runS_pend_le (l.take (cutI n l.length).toNat) ⟨vol, per, pend⟩
    have hlt : (l.take (cutI n l.length).toNat).length ≤ l.length := by rw [List.length_take]; omega
    simp only [] at pendk
    simp only [runV_ok h, mcrash_ok h, runV_ok hso, lamplighterref05_Run.C, joinW_eq, guard_tt, guard_tf, guard_ft, guard_ff, Int.reduceEq, Int.reduceLT, Int.reduceLE, decide_false, decide_true, Bool.not_false, Bool.not_true, Bool.not_not, not_true_eq_false, not_false_eq_true, true_implies, false_implies, implies_true, and_true, true_and, reduceCtorEq, Bool.and_self, Bool.or_self, Bool.and_true, Bool.true_and, Bool.false_eq_true, if_true, if_false, go_sem, Nat.reduceEqDiff, Nat.reduceLT, Nat.reduceAdd, Nat.reduceSub, Nat.reduceLeDiff, List.reduceReplicate, Int.reduceToNat]
    generalize runS ⟨vol, per, pend⟩ (l.take (cutI n l.length).toNat) = m at *
    have hsm : smallM m.vol m.per m.pend := OkM.small okk (by omega)
    have hck : checkB m.vol m.per m.pend = true := check_iff.2 okk
    simp only [hck, crashM_ok, lamplighterref04_Crash.C, joinW_eq, guard_tt, guard_tf, guard_ft, guard_ff, Int.reduceEq, Int.reduceLT, Int.reduceLE, decide_false, decide_true, Bool.not_false, Bool.not_true, Bool.not_not, not_true_eq_false, not_false_eq_true, true_implies, false_implies, implies_true, and_true, true_and, reduceCtorEq, Bool.and_self, Bool.or_self, Bool.and_true, Bool.true_and, Bool.false_eq_true, if_true, if_false, go_sem, Nat.reduceEqDiff, Nat.reduceLT, Nat.reduceAdd, Nat.reduceSub, Nat.reduceLeDiff, List.reduceReplicate, Int.reduceToNat]
    exact ⟨hc, ⟨hs, by omega⟩, ⟨hsm, hk1⟩, post_val rfl rfl⟩
def lamplighterref05_Same.C : Contract
  | [.sl _ (.mics a), .sl _ (.mics b)] => some (false, pD (roomy a.length) (.bool (decide (a = b))))
  | _ => none
set_option maxRecDepth 20000 in
theorem lamplighterref05_Same.spec : FSpec Try.prog 23 lamplighterref05_Same.C := by
  refine FSpec.of (ctx_ok (F := []) (S := []) (by simp) (by simp) lamplighterref05_Same.loops) lamplighterref05_Same.at lamplighterref05_Same.nm lamplighterref05_Same.bd ?_
  intro vs b S v news e hS
  unfold lamplighterref05_Same.C at e
  split at e
  rotate_left
  · cases e
  cases e
  rw [lamplighterref05_Same.eq]
  unfold lamplighterref05_Same.H
  simp (maxSteps := 4000000) only [go_sem, Nat.reduceEqDiff, Nat.reduceLT, Nat.reduceAdd, Nat.reduceSub, Nat.reduceLeDiff, List.reduceReplicate, Int.reduceToNat]
  rename_i _ a _ b
  unfold roomy at hS
  refine ⟨fun hne => ?_, fun heq => ?_⟩
  · have : decide (a = b) = false := by rw [decide_eq_false_iff_not]; rintro rfl; exact hne rfl
    rw [this]; exact post_val rfl rfl
  rw [joinW_eq]
  unfold lamplighterref05_Same.L1
  have hlen : a.length = b.length := by omega
  refine loop1 (fun k : Nat => .int .i64 k) (fun _ => []) (fun k => a.length - k) (fun k => k ≤ a.length ∧ ∀ i, i < k → a.getD i ⟨0, 0, 0⟩ = b.getD i ⟨0, 0, 0⟩) 0 rfl rfl ⟨Nat.zero_le _, fun i hi => absurd hi (Nat.not_lt_zero i)⟩ ?_
  rintro I back k ⟨hk, hall⟩
  have hd : ∀ a b : Mic, (decide (a.kind = b.kind) && (decide (a.at_ = b.at_) && (decide (a.val = b.val)))) = decide (a = b) := fun a b => by
    cases a; cases b; rw [Bool.eq_iff_iff]; simp only [Bool.and_eq_true, Bool.or_eq_true, Bool.not_eq_true', Bool.not_eq_false', Bool.not_eq_true, decide_eq_true_eq, decide_eq_false_iff_not, Bool.or_eq_false_iff, Bool.and_eq_false_iff, beq_iff_eq]; simp
  simp only [go_sem, Nat.reduceEqDiff, Nat.reduceLT, Nat.reduceAdd, Nat.reduceSub, Nat.reduceLeDiff, List.reduceReplicate, Int.reduceToNat, Bool.and_true]
  rw [hd]
  refine ⟨fun hlt => ⟨by omega, by omega, fun h0 => ?_, fun h0 => ?_⟩, fun hge => ?_⟩
  · rw [decide_eq_false_iff_not] at h0
    have : decide (a = b) = false := by rw [decide_eq_false_iff_not]; rintro rfl; exact h0 rfl
    rw [this]; exact post_val rfl rfl
  · rw [decide_eq_true_eq] at h0
    refine back (k + 1) (by omega) (by rw [wnext (by omega)]) rfl ⟨by omega, fun i hi => ?_⟩
    by_cases e : i = k
    · subst e; exact h0
    · exact hall i (by omega)
  · rw [decide_eq_true (ext_d _ hlen fun i hi => hall i (by omega))]; exact post_val rfl rfl
end Lam
namespace Lam
open Go Go.Proofs
set_option linter.unusedVariables false
def lamplighterlaw07_RecTells.loops : Nat → LInfo
  | 2 => ⟨[], [], [], [(5, none), (4, some [25, 29]), (2, none), (3, some [31, 34])], []⟩
  | _ => ⟨[], [], [], [], []⟩
def lamplighterlaw07_RecTells.H (c : Ctx) (t0 : AV) (t1 : AV) (t2 : AV) (h : List AObj) (K : AOut → List AObj → Prop) : Prop :=
  boxW T_api_Rec t0 h fun t3 h =>
  callW false c (.fn (.func 52) [] []) [] h (fun t20 h =>
  runD (fieldAddrD T_api_Rec t3 1) h fun t21 h =>
  runD (fitD T_string (loadD h t21)) h fun t22 h =>
  runD (lenD T_string h t22) h fun t23 h =>
  runD (binD T_int .gtr t23 (.int .i64 100)) h fun t24 h =>
  joinW (fun (J1 : AV → AV → List AObj → Prop) =>
  guardW t24 false
  (runD (fieldAddrD T_api_Rec t3 2) h fun t26 h =>
    runD (fitD T_string (loadD h t26)) h fun t27 h =>
    runD (lenD T_string h t27) h fun t28 h =>
    runD (binD T_int .gtr t28 (.int .i64 100)) h fun t29 h =>
    J1 (.bool false) t29 h)
  (J1 (.bool true) .und h))
  (fun t25 t29 h => runD (pickD t25 (.bool true) t29) h fun t30 h =>
  joinW (fun (J2 : AV → AV → List AObj → Prop) =>
  guardW t30 false
  (runD (lenD T_sl_int h t1) h fun t33 h =>
    runD (binD T_int .gtr t33 (.int .i64 300)) h fun t34 h =>
    J2 (.bool false) t34 h)
  (J2 (.bool true) .und h))
  (fun t31 t34 h => runD (pickD t31 (.bool true) t34) h fun t35 h =>
  condW t35
  (K (.ret t20) h)
  (runD (fitD T_api_Rec (loadD h t3)) h fun t38 h =>
  callW false c (.fn (.func 53) [] []) [t38] h (fun t39 h =>
  runD (extractD t39 0) h fun t40 h =>
  runD (extractD t39 1) h fun t41 h =>
  runD (fitD T_api_Rec (loadD h t3)) h fun t43 h =>
  callW false c (.fn (.func 54) [] []) [t43] h (fun t44 h =>
  runD (extractD t44 0) h fun t45 h =>
  runD (extractD t44 1) h fun t46 h =>
  callW false c (.fn (.func 55) [] []) [t1, t2] h (fun t50 h =>
  runD (extractD t50 0) h fun t51 h =>
  runD (extractD t50 1) h fun t52 h =>
  allocW T_api_Rec h fun t12 h =>
  runH (storeH T_api_Rec h t12 t51) h fun _ h =>
  callW false c (.fn (.func 56) [] []) [t1, t2] h (fun t56 h =>
  runD (extractD t56 0) h fun t57 h =>
  runD (extractD t56 1) h fun t58 h =>
  allocW T_api_Rec h fun t14 h =>
  runH (storeH T_api_Rec h t14 t57) h fun _ h =>
  callW false c (.fn (.func 57) [] []) [t2, t1] h (fun t62 h =>
  runD (extractD t62 0) h fun t63 h =>
  runD (extractD t62 1) h fun t64 h =>
  callW false c (.fn (.func 58) [] []) [t2, t1] h (fun t68 h =>
  runD (extractD t68 0) h fun t69 h =>
  runD (extractD t68 1) h fun t70 h =>
  joinW (fun (J3 : AV → AV → List AObj → Prop) =>
  guardW t20 true
  (runD (fitD T_api_Rec (loadD h t3)) h fun t73 h =>
    callW false c.noS (.fn (.func 59) [] []) [t73] h (fun t74 h =>
    runD (fitD T_api_Rec (loadD h t3)) h fun t75 h =>
    callW false c.noS (.fn (.func 60) [] []) [t75] h (fun t76 h =>
    runD (binD T_bool .eql t74 t76) h fun t77 h =>
    J3 (.bool true) t77 h)
    (fun _ _ => False))
    (fun _ _ => False))
  (J3 (.bool false) .und h))
  (fun t72 t77 h => runD (pickD t72 t77 (.bool false)) h fun t78 h =>
  joinW (fun (J4 : AV → AV → List AObj → Prop) =>
  guardW t78 true
  (callW false c.noS (.fn (.func 22) [] []) [t40, t45] h (fun t82 h =>
    J4 (.bool true) t82 h)
    (fun _ _ => False))
  (J4 (.bool false) .und h))
  (fun t79 t82 h => runD (pickD t79 t82 (.bool false)) h fun t83 h =>
  joinW (fun (J5 : AV → AV → List AObj → Prop) =>
  guardW t83 true
  (runD (binD T_api_Errno .eql t41 t46) h fun t87 h =>
    J5 (.bool true) t87 h)
  (J5 (.bool false) .und h))
  (fun t84 t87 h => runD (pickD t84 t87 (.bool false)) h fun t88 h =>
  joinW (fun (J6 : AV → AV → List AObj → Prop) =>
  guardW t88 true
  (runD (fitD T_api_Rec (loadD h t12)) h fun t90 h =>
    runD (fitD T_api_Rec (loadD h t14)) h fun t91 h =>
    runD (binD T_api_Rec .eql t90 t91) h fun t92 h =>
    J6 (.bool true) t92 h)
  (J6 (.bool false) .und h))
  (fun t89 t92 h => runD (pickD t89 t92 (.bool false)) h fun t93 h =>
  joinW (fun (J7 : AV → AV → List AObj → Prop) =>
  guardW t93 true
  (runD (binD T_api_Errno .eql t52 t58) h fun t97 h =>
    J7 (.bool true) t97 h)
  (J7 (.bool false) .und h))
  (fun t94 t97 h => runD (pickD t94 t97 (.bool false)) h fun t98 h =>
  joinW (fun (J8 : AV → AV → List AObj → Prop) =>
  guardW t98 true
  (callW false c.noS (.fn (.func 23) [] []) [t63, t69] h (fun t102 h =>
    J8 (.bool true) t102 h)
    (fun _ _ => False))
  (J8 (.bool false) .und h))
  (fun t99 t102 h => runD (pickD t99 t102 (.bool false)) h fun t103 h =>
  joinW (fun (J9 : AV → AV → List AObj → Prop) =>
  guardW t103 true
  (runD (binD T_api_Errno .eql t64 t70) h fun t107 h =>
    J9 (.bool true) t107 h)
  (J9 (.bool false) .und h))
  (fun t104 t107 h => runD (pickD t104 t107 (.bool false)) h fun t108 h =>
  K (.ret t108) h))))))))
  (fun v h => K (.pan v) h))
  (fun v h => K (.pan v) h))
  (fun v h => K (.pan v) h))
  (fun v h => K (.pan v) h))
  (fun v h => K (.pan v) h))
  (fun v h => K (.pan v) h)))))
  (fun v h => K (.pan v) h)
theorem lamplighterlaw07_RecTells.eq (F : List (FuncId × Contract)) (S : List (FuncId × Con)) (t0 t1 t2 : AV) (h : List AObj) (K : AOut → List AObj → Prop) : funW (ctx F S lamplighterlaw07_RecTells.loops) Try.f11 [t0, t1, t2] h K = lamplighterlaw07_RecTells.H (ctx F S lamplighterlaw07_RecTells.loops) t0 t1 t2 h K := by kernel_rfl
theorem lamplighterlaw07_RecTells.at : Try.prog.funcs[11]? = some Try.f11 := by kernel_rfl
theorem lamplighterlaw07_RecTells.nm : (Try.f11.name == "runtime.NumGoroutine") = false := by kernel_rfl
theorem lamplighterlaw07_RecTells.bd : Try.f11.body.isNone = false := by kernel_rfl
end Lam
namespace Lam
open Go Go.Proofs
set_option linter.unusedVariables false
set_option linter.unnecessarySimpa false
set_option linter.unusedSimpArgs false
theorem decide_self {α : Type} [DecidableEq α] (a : α) : decide (a = a) = true := decide_eq_true rfl
abbrev RecTells_ctx : Ctx := ctx [(52, lamplighterlaw07_awake.C), (53, rec_Words.C), (55, rec_Read.C), (57, rec_Steps.C), (59, rec_Check.C), (54, lamplighterref07_Words.C), (56, lamplighterref07_Read.C), (58, lamplighterref07_Steps.C), (60, lamplighterref07_Check.C), (22, lamplighterref02_Numbers.C), (23, lamplighterref05_Same.C)] [] lamplighterlaw07_RecTells.loops
set_option maxRecDepth 20000 in
theorem RecTells_vc (x_kind : Int) (x_key : Bytes) (x_val : Bytes) (x_child : Int) (words : List Int) (block : Int) (w_x_kind : (Lit.int .i64 x_kind).wf = true) (w_x_key : x_key.length ≤ maxLen) (w_x_val : x_val.length ≤ maxLen) (w_x_child : (Lit.int .i64 x_child).wf = true) (w_words : wfL (.ints .i64 words)) (n_words : words.length ≤ maxLen) (w_block : (Lit.int .i64 block).wf = true) : lamplighterlaw07_RecTells.H RecTells_ctx (.agg [(.int .i64 x_kind), (.str x_key), (.str x_val), (.int .i64 x_child)]) (.sl false (.ints .i64 words)) (.int .i64 block) [] Told := by
  unfold lamplighterlaw07_RecTells.H
  simp (maxSteps := 4000000) only [go_sem, Nat.reduceEqDiff, Nat.reduceLT, Nat.reduceAdd, Nat.reduceSub, Nat.reduceLeDiff, List.reduceReplicate, Int.reduceToNat, lamplighterlaw07_awake.C, rec_Words.C, rec_Read.C, rec_Steps.C, rec_Check.C, lamplighterref07_Words.C, lamplighterref07_Read.C, lamplighterref07_Steps.C, lamplighterref07_Check.C, lamplighterref02_Numbers.C, lamplighterref05_Same.C]
  refine ⟨fun _ => rfl, fun hg => ?_⟩
  simp only [Bool.or_eq_false_iff, decide_eq_false_iff_not] at hg
  have hrw : roomy words.length := by unfold roomy; omega
  have hi64 := wf_i64s w_words
  obtain ⟨A, e, hA, hAl⟩ : ∃ (A : List Int) (e : Int), rwordsV ⟨x_kind, x_key, x_val, x_child⟩ = .tup [.sl false (.ints .i64 A), .int .i64 e] ∧ A.length ≤ 16 := by
    unfold rwordsV; split
    · rename_i h; exact ⟨_, _, rfl, Nat.le_of_eq (form_len (rec_iff.1 h))⟩
    · exact ⟨_, _, rfl, by simp⟩
  have hrA : roomy A.length := by unfold roomy; omega
  obtain ⟨y, f, hY⟩ : ∃ (y : Rc) (f : Int), rreadV words block = .tup [y.V, .int .i64 f] := by
    unfold rreadV; split
    · exact ⟨_, _, rfl⟩
    · split
      · exact ⟨_, _, rfl⟩
      · exact ⟨_, _, rfl⟩
  obtain ⟨B, g, hB, hBl⟩ : ∃ (B : List Mic) (g : Int), rstepsV block words = .tup [.sl false (.mics B), .int .i64 g] ∧ B.length ≤ 18 := by
    unfold rstepsV; split
    · exact ⟨_, _, rfl, Nat.le_of_eq (steps_len _ _)⟩
    · exact ⟨_, _, rfl, by simp⟩
  have hrB : roomy B.length := by unfold roomy; omega
  simp only [hA, hY, hB, rec_Check.C, lamplighterref07_Words.C, lamplighterref07_Check.C, lamplighterref02_Numbers.C, lamplighterref05_Same.C, decide_self, beq_self_eq_true, joinW_eq, guard_tt, guard_tf, guard_ft, guard_ff, Int.reduceEq, Int.reduceLT, Int.reduceLE, decide_false, decide_true, Bool.not_false, Bool.not_true, Bool.not_not, not_true_eq_false, not_false_eq_true, true_implies, false_implies, implies_true, and_true, true_and, reduceCtorEq, Bool.and_self, Bool.or_self, Bool.and_true, Bool.true_and, Bool.false_eq_true, if_true, if_false, go_sem, Nat.reduceEqDiff, Nat.reduceLT, Nat.reduceAdd, Nat.reduceSub, Nat.reduceLeDiff, List.reduceReplicate, Int.reduceToNat]
  exact ⟨hrw, ⟨by omega, hi64⟩, hrA, hrB, rfl⟩
theorem RecTells_ok : Ok Try.prog RecTells_ctx := ctx_ok (by simpa using ⟨lamplighterlaw07_awake.spec, rec_Words.spec, rec_Read.spec, rec_Steps.spec, rec_Check.spec, lamplighterref07_Words.spec, lamplighterref07_Read.spec, lamplighterref07_Steps.spec, lamplighterref07_Check.spec, lamplighterref02_Numbers.spec, lamplighterref05_Same.spec⟩) (by simp) _
theorem RecTells_law (x : AV) (words : Lst) (block : Int) (g_x : GoodV T_api_Rec x) (k_words : words.kind = (.int .i64)) (w_words : wfL words) (n_words : words.len ≤ maxLen) (w_block : (Lit.int .i64 block).wf = true) : funW RecTells_ctx Try.f11 [x, (.sl false words), (.int .i64 block)] [] Told := by
  obtain ⟨_, rfl, _, _, rfl, ⟨x_kind, rfl, w_x_kind⟩, _, _, rfl, ⟨x_key, rfl, w_x_key⟩, _, _, rfl, ⟨x_val, rfl, w_x_val⟩, _, _, rfl, ⟨x_child, rfl, w_x_child⟩, rfl⟩ := g_x
  obtain ⟨words, rfl⟩ := gkind_ints k_words
  rw [RecTells_ctx, lamplighterlaw07_RecTells.eq]
  exact RecTells_vc x_kind x_key x_val x_child words block w_x_kind w_x_key w_x_val w_x_child w_words n_words w_block
end Lam
