/- What functions of the program come to, each proved from its code. -/
import Derived.Test.YtdnhjeoacanbcabLm5
namespace Lam
open Go Go.Proofs
set_option linter.unusedVariables false
def lamplighterlaw06_FastDeletes.loops : Nat → LInfo
  | 2 => ⟨[], [], [], [(4, none), (3, some [24, 27]), (2, none), (3, some [29, 32])], []⟩
  | 6 => ⟨[], [], [], [(2, none), (3, some [44, 47])], []⟩
  | 13 => ⟨[], [], [], [(2, none), (2, some [84, 86]), (2, none), (2, some [88, 90]), (2, none), (8, some [92, 100]), (2, none), (7, some [102, 109]), (2, none), (7, some [111, 118]), (2, none), (9, some [120, 129])], []⟩
  | _ => ⟨[], [], [], [], []⟩
def lamplighterlaw06_FastDeletes.H (c : Ctx) (t0 : AV) (t1 : AV) (t2 : AV) (t3 : AV) (h : List AObj) (K : AOut → List AObj → Prop) : Prop :=
  callW c (.fn (.func 35) [] []) [] h (fun t20 h =>
  runD (lenD T_sl_int h t0) h fun t22 h =>
  runD (binD T_int .gtr t22 (.int .i64 20)) h fun t23 h =>
  joinW (fun (J1 : AV → AV → List AObj → Prop) =>
  guardW t23 false
  (runD (lenD T_sl_int h t3) h fun t26 h =>
    runD (binD T_int .gtr t26 (.int .i64 20)) h fun t27 h =>
    J1 (.bool false) t27 h)
  (J1 (.bool true) .und h))
  (fun t24 t27 h => runD (pickD t24 (.bool true) t27) h fun t28 h =>
  joinW (fun (J2 : AV → AV → List AObj → Prop) =>
  guardW t28 false
  (callW c (.fn (.func 36) [] []) [t0, (.int .i64 0)] h (fun t31 h =>
    runD (unD .not t31) h fun t32 h =>
    J2 (.bool false) t32 h)
    (fun v h => K (.pan v) h))
  (J2 (.bool true) .und h))
  (fun t29 t32 h => runD (pickD t29 (.bool true) t32) h fun t33 h =>
  condW t33
  (K (.ret t20) h)
  (callW c (.fn (.func 39) [] []) [(.int .i64 16), t0, t1] h (fun t38 h =>
  runD (extractD t38 0) h fun t39 h =>
  runD (extractD t38 1) h fun t40 h =>
  runD (binD T_api_Errno .neq t40 (.int .i64 0)) h fun t42 h =>
  condW t42
  (joinW (fun (J3 : AV → AV → List AObj → Prop) =>
    guardW t20 true
    (runD (lenD T_sl_api_Micro h t39) h fun t46 h =>
      runD (binD T_int .eql t46 (.int .i64 0)) h fun t47 h =>
      J3 (.bool true) t47 h)
    (J3 (.bool false) .und h))
    (fun t44 t47 h => runD (pickD t44 t47 (.bool false)) h fun t48 h =>
    K (.ret t48) h))
  (callW c (.fn (.func 45) [] []) [t0, t1] h (fun t51 h =>
  runD (convD h T_uint8 T_int t2) h fun t53 h =>
  runD (lenD T_sl_api_Micro h t39) h fun t55 h =>
  runD (binD T_int .add t55 (.int .i64 1)) h fun t56 h =>
  runD (binD T_int .rem t53 t56) h fun t57 h =>
  callW c (.fn (.func 40) [] []) [t0] h (fun t60 h =>
  callW c (.fn (.func 20) [] []) [t60, t39, t57, t3] h (fun t64 h =>
  runD (extractD t64 0) h fun t65 h =>
  runD (extractD t64 1) h fun t66 h =>
  callW c.noS (.fn (.func 40) [] []) [t0] h (fun t69 h =>
  runD (sliceD T_sl_api_Micro h t39 none (some t57) none) h fun t72 h =>
  callW c.noS (.fn (.func 17) [] []) [t69, t72] h (fun t73 h =>
  runD (extractD t73 0) h fun t74 h =>
  runD (extractD t73 1) h fun t75 h =>
  allocW T_api_Mem h fun t16 h =>
  runH (storeH T_api_Mem h t16 t74) h fun _ h =>
  callW c (.fn (.func 41) [] []) [t65, (.int .i64 16)] h (fun t77 h =>
  callW c (.fn (.func 44) [] []) [t77] h (fun t78 h =>
  runD (fieldAddrD T_api_Mem t16 0) h fun t79 h =>
  runD (fitD T_sl_int (loadD h t79)) h fun t80 h =>
  callW c (.fn (.func 41) [] []) [t80, (.int .i64 16)] h (fun t81 h =>
  callW c (.fn (.func 44) [] []) [t81] h (fun t82 h =>
  joinW (fun (J4 : AV → AV → List AObj → Prop) =>
  guardW t20 true
  (runD (binD T_api_Errno .eql t66 (.int .i64 0)) h fun t86 h =>
    J4 (.bool true) t86 h)
  (J4 (.bool false) .und h))
  (fun t84 t86 h => runD (pickD t84 t86 (.bool false)) h fun t87 h =>
  joinW (fun (J5 : AV → AV → List AObj → Prop) =>
  guardW t87 true
  (runD (binD T_api_Errno .eql t75 (.int .i64 0)) h fun t90 h =>
    J5 (.bool true) t90 h)
  (J5 (.bool false) .und h))
  (fun t88 t90 h => runD (pickD t88 t90 (.bool false)) h fun t91 h =>
  joinW (fun (J6 : AV → AV → List AObj → Prop) =>
  guardW t91 true
  (callW c (.fn (.func 22) [] []) [t78, t0] h (fun t95 h =>
    joinW (fun (J7 : AV → AV → List AObj → Prop) =>
    guardW t95 false
    (callW c (.fn (.func 22) [] []) [t78, t51] h (fun t99 h =>
      J7 (.bool false) t99 h)
      (fun v h => K (.pan v) h))
    (J7 (.bool true) .und h))
    (fun t96 t99 h => runD (pickD t96 (.bool true) t99) h fun t100 h =>
    J6 (.bool true) t100 h))
    (fun v h => K (.pan v) h))
  (J6 (.bool false) .und h))
  (fun t92 t100 h => runD (pickD t92 t100 (.bool false)) h fun t101 h =>
  joinW (fun (J8 : AV → AV → List AObj → Prop) =>
  guardW t101 true
  (runD (binD T_int .eql t57 (.int .i64 0)) h fun t104 h =>
    joinW (fun (J9 : AV → AV → List AObj → Prop) =>
    guardW t104 false
    (callW c (.fn (.func 22) [] []) [t82, t51] h (fun t108 h =>
      J9 (.bool false) t108 h)
      (fun v h => K (.pan v) h))
    (J9 (.bool true) .und h))
    (fun t105 t108 h => runD (pickD t105 (.bool true) t108) h fun t109 h =>
    J8 (.bool true) t109 h))
  (J8 (.bool false) .und h))
  (fun t102 t109 h => runD (pickD t102 t109 (.bool false)) h fun t110 h =>
  joinW (fun (J10 : AV → AV → List AObj → Prop) =>
  guardW t110 true
  (runD (binD T_int .gtr t57 (.int .i64 0)) h fun t113 h =>
    joinW (fun (J11 : AV → AV → List AObj → Prop) =>
    guardW t113 false
    (callW c (.fn (.func 22) [] []) [t82, t0] h (fun t117 h =>
      J11 (.bool false) t117 h)
      (fun v h => K (.pan v) h))
    (J11 (.bool true) .und h))
    (fun t114 t117 h => runD (pickD t114 (.bool true) t117) h fun t118 h =>
    J10 (.bool true) t118 h))
  (J10 (.bool false) .und h))
  (fun t111 t118 h => runD (pickD t111 t118 (.bool false)) h fun t119 h =>
  joinW (fun (J12 : AV → AV → List AObj → Prop) =>
  guardW t119 true
  (runD (lenD T_sl_api_Micro h t39) h fun t123 h =>
    runD (binD T_int .lss t57 t123) h fun t124 h =>
    joinW (fun (J13 : AV → AV → List AObj → Prop) =>
    guardW t124 false
    (callW c (.fn (.func 22) [] []) [t78, t51] h (fun t128 h =>
      J13 (.bool false) t128 h)
      (fun v h => K (.pan v) h))
    (J13 (.bool true) .und h))
    (fun t125 t128 h => runD (pickD t125 (.bool true) t128) h fun t129 h =>
    J12 (.bool true) t129 h))
  (J12 (.bool false) .und h))
  (fun t120 t129 h => runD (pickD t120 t129 (.bool false)) h fun t130 h =>
  K (.ret t130) h)))))))
  (fun v h => K (.pan v) h))
  (fun v h => K (.pan v) h))
  (fun v h => K (.pan v) h))
  (fun v h => K (.pan v) h))
  (fun _ _ => False))
  (fun _ _ => False))
  (fun v h => K (.pan v) h))
  (fun v h => K (.pan v) h))
  (fun v h => K (.pan v) h)))
  (fun v h => K (.pan v) h)))))
  (fun v h => K (.pan v) h)
theorem lamplighterlaw06_FastDeletes.eq (F : List (FuncId × Contract)) (S : List (FuncId × Con)) (t0 t1 t2 t3 : AV) (h : List AObj) (K : AOut → List AObj → Prop) : funW (ctx F S lamplighterlaw06_FastDeletes.loops) Try.f12 [t0, t1, t2, t3] h K = lamplighterlaw06_FastDeletes.H (ctx F S lamplighterlaw06_FastDeletes.loops) t0 t1 t2 t3 h K := by kernel_rfl
theorem lamplighterlaw06_FastDeletes.at : Try.prog.funcs[12]? = some Try.f12 := by kernel_rfl
theorem lamplighterlaw06_FastDeletes.nm : (Try.f12.name == "runtime.NumGoroutine") = false := by kernel_rfl
theorem lamplighterlaw06_FastDeletes.bd : Try.f12.body.isNone = false := by kernel_rfl
end Lam
namespace Lam
open Go Go.Proofs
set_option linter.unusedVariables false
set_option linter.unnecessarySimpa false
set_option linter.unusedSimpArgs false
abbrev FastDeletes_ctx : Ctx := ctx [(35, lamplighterlaw06_awake.C), (39, fast_Delete.C), (36, lamplighterlaw06_unlike.C), (45, lamplighterref06_Without.C), (20, micro_Crash.C), (17, micro_Run.C), (40, lamplighterlaw06_laid.C), (44, fast_Plain.C), (41, fast_Slots.C), (22, lamplighterref02_Numbers.C)] [] lamplighterlaw06_FastDeletes.loops
set_option maxRecDepth 20000 in
theorem FastDeletes_vc (l : List Int) (pos : Int) (n : Int) (keep : List Int) (w_pos : (Lit.int .i64 pos).wf = true) (w_n : (Lit.int .u8 n).wf = true) (w_keep : wfL (.ints .i64 keep)) (n_keep : keep.length ≤ maxLen) : lamplighterlaw06_FastDeletes.H FastDeletes_ctx (.sl false (.ints .i64 l)) (.int .i64 pos) (.int .u8 n) (.sl false (.ints .i64 keep)) [] Told := by
  unfold lamplighterlaw06_FastDeletes.H
  simp (maxSteps := 4000000) only [go_sem, Nat.reduceEqDiff, Nat.reduceLT, Nat.reduceAdd, Nat.reduceSub, Nat.reduceLeDiff, List.reduceReplicate, Int.reduceToNat, lamplighterlaw06_awake.C, fast_Delete.C, lamplighterlaw06_unlike.C, lamplighterref06_Without.C, micro_Crash.C, micro_Run.C, lamplighterlaw06_laid.C, fast_Plain.C, fast_Slots.C, lamplighterref02_Numbers.C]
  have hn := wf_u8 w_n
  refine ⟨fun hg => ?_, fun _ => rfl, fun hg => ?_⟩
  · simp only [Bool.or_eq_false_iff, decide_eq_false_iff_not] at hg
    unfold roomy; omega
  simp only [Bool.or_eq_false_iff, Bool.not_eq_false', decide_eq_false_iff_not] at hg
  obtain ⟨⟨hl, hkp⟩, hu⟩ := hg
  refine ⟨by unfold roomy; omega, ?_⟩
  rcases del_cases l pos with ⟨e, he, h1⟩ | ⟨h0, h1, h2, h4, h5⟩
  · simp only [h1, he, decide_true, decide_false, List.length_nil, joinW_eq, guard_tt, guard_tf, guard_ft, guard_ff, Int.reduceEq, Int.reduceLT, Int.reduceLE, decide_false, decide_true, Bool.not_false, Bool.not_true, Bool.not_not, not_true_eq_false, not_false_eq_true, true_implies, false_implies, implies_true, and_true, true_and, reduceCtorEq, Bool.and_self, Bool.or_self, Bool.and_true, Bool.true_and, Bool.false_eq_true, if_true, if_false, go_sem, Nat.reduceEqDiff, Nat.reduceLT, Nat.reduceAdd, Nat.reduceSub, Nat.reduceLeDiff, List.reduceReplicate, Int.reduceToNat]
    rfl
  · obtain ⟨p, rfl⟩ := Int.eq_ofNat_of_zero_le h0
    have hp : p < l.length := by omega
    rw [h5]
    simp only [Int.ofNat_eq_natCast, Int.toNat_natCast] at *
    have hin := delS_in h2 hp
    have hpl := fun j => del_plain (j := j) h2 hp hu
    have hlen := delS_len hp
    have hsl := storedN_len 16 (delS l p) (delS l p).length
    have hfar := fun j k => far_first (b := 16) (l := delS l p) (by omega) (k := k) (j := j)
    have hsd := fun k => node_sound (z := l) (by omega) hin k
    have hsd' := node_sound' (z := l) (by omega) hin
    have hcr := fun k => node_crash (z := l) (by omega) hin k keep
    generalize delS l p = L at *
    have hwne : ¬ IntKind.i64.wrap (((storedN 16 L L.length).length : Int) + 1) = 0 := by rw [wnext (by omega)]; omega
    rw [show l.take 13 = l from take_len l (by omega)]
    have hs2 : 2 ≤ (storedN 16 L L.length).length := by
      obtain ⟨r, hr, _⟩ := stored_last (b := 16) (l := L) (by omega)
      rw [hr]; simp
    have hk := mod_le n.toNat (storedN 16 L L.length).length
    simp only [hwne, joinW_eq, guard_tt, guard_tf, guard_ft, guard_ff, Int.reduceEq, Int.reduceLT, Int.reduceLE, decide_false, decide_true, Bool.not_false, Bool.not_true, Bool.not_not, not_true_eq_false, not_false_eq_true, true_implies, false_implies, implies_true, and_true, true_and, reduceCtorEq, Bool.and_self, Bool.or_self, Bool.and_true, Bool.true_and, Bool.false_eq_true, if_true, if_false, go_sem, Nat.reduceEqDiff, Nat.reduceLT, Nat.reduceAdd, Nat.reduceSub, Nat.reduceLeDiff, List.reduceReplicate, Int.reduceToNat]
    rw [modN hn.1 hn.2 (show (storedN 16 L L.length).length < 1099511627776 by omega)]
    generalize n.toNat % ((storedN 16 L L.length).length + 1) = k at *
    simp only [Int.toNat_natCast, micro_Crash.C, mcrash_ok hsd', cutI_nat hk, micro_Run.C, runV_ok (hsd k), fast_Slots.C, fast_Plain.C, lamplighterref02_Numbers.C, joinW_eq, guard_tt, guard_tf, guard_ft, guard_ff, Int.reduceEq, Int.reduceLT, Int.reduceLE, decide_false, decide_true, Bool.not_false, Bool.not_true, Bool.not_not, not_true_eq_false, not_false_eq_true, true_implies, false_implies, implies_true, and_true, true_and, reduceCtorEq, Bool.and_self, Bool.or_self, Bool.and_true, Bool.true_and, Bool.false_eq_true, if_true, if_false, go_sem, Nat.reduceEqDiff, Nat.reduceLT, Nat.reduceAdd, Nat.reduceSub, Nat.reduceLeDiff, List.reduceReplicate, Int.reduceToNat]
    obtain ⟨⟨j1, hj1, hc1, hc2⟩, j2, hj2, hv1, hv2⟩ := hcr k
    have hfk := hfar j2 k hj2 hv2
    have p1 := hpl j1 hj1
    have p2 := hpl j2 hj2
    simp only [wordsOf] at p1 p2
    rw [hc1, hv1, p1, p2]
    have d1 : decide ((k : Int) = 0) = decide (j2 = 0) := decide_eq_decide.2 (by rw [hfk]; omega)
    have d3 : decide (0 < (k : Int)) = !decide (j2 = 0) := by rw [← decide_not]; exact decide_eq_decide.2 (by rw [hfk]; omega)
    have hW : withoutL l p ≠ l := fun e => by have := without_len l hp; rw [e] at this; omega
    have hWl := without_len l hp
    have hrw : roomy (withoutL l p).length := by unfold roomy; omega
    have hrl : roomy l.length := by unfold roomy; omega
    have hi64 := wf_i64s w_keep
    have hrk : roomy keep.length := by unfold roomy; omega
    have hsm := small_node (l := l) (by omega)
    rw [d1, d3]
    refine ⟨⟨hrl, by omega, by omega, by omega⟩, by omega, ⟨hsm, by omega, hrk, hi64⟩, by omega, ⟨by omega, by omega⟩, ⟨hsm, by rw [List.length_take]; omega⟩, words_roomy (by omega) _, slots_roomy _ _, words_roomy (by omega) _, slots_roomy _ _, ?_⟩
    generalize withoutL l p = W at *
    have hW' : ¬ l = W := fun e => hW e.symm
    have hc4 : j1 = 0 → decide ((k : Int) < ((storedN 16 L L.length).length : Int)) = true := fun h => decide_eq_true (by
      rcases Nat.lt_or_ge k (storedN 16 L L.length).length with h' | h'
      · omega
      · have := hc2 h'; omega)
    generalize decide ((k : Int) < ((storedN 16 L L.length).length : Int)) = D at *
    by_cases a1 : j1 = 0 <;> by_cases a2 : j2 = 0 <;> cases D
    all_goals first | (exact absurd (hc4 a1) Bool.false_ne_true) | skip
    all_goals
      simp only [if_pos, if_neg, a1, a2, hW, hW', decide_true, decide_false, ite_self, if_true, if_false, guard_tt, guard_tf, guard_ft, guard_ff, Bool.not_true, Bool.not_false]
      and_intros
      all_goals first | rfl | assumption
theorem FastDeletes_ok : Ok Try.prog FastDeletes_ctx := ctx_ok (by simpa using ⟨lamplighterlaw06_awake.spec, fast_Delete.spec, lamplighterlaw06_unlike.spec, lamplighterref06_Without.spec, micro_Crash.spec, micro_Run.spec, lamplighterlaw06_laid.spec, fast_Plain.spec, fast_Slots.spec, lamplighterref02_Numbers.spec⟩) (by simp) _
theorem FastDeletes_law (l : List Int) (pos : Int) (n : Int) (keep : Lst) (w_pos : (Lit.int .i64 pos).wf = true) (w_n : (Lit.int .u8 n).wf = true) (k_keep : keep.kind = (.int .i64)) (w_keep : wfL keep) (n_keep : keep.len ≤ maxLen) : funW FastDeletes_ctx Try.f12 [(.sl false (.ints .i64 l)), (.int .i64 pos), (.int .u8 n), (.sl false keep)] [] Told := by
  obtain ⟨keep, rfl⟩ := gkind_ints k_keep
  rw [FastDeletes_ctx, lamplighterlaw06_FastDeletes.eq]
  exact FastDeletes_vc l pos n keep w_pos w_n w_keep n_keep
end Lam
