/- What functions of the program come to, each proved from its code. -/
import Derived.Test.YtdnhjeoacanbcabLm5
namespace Lam
open Go Go.Proofs
set_option linter.unusedVariables false
def lamplighterlaw06_FastInserts.loops : Nat → LInfo
  | 2 => ⟨[], [], [], [(4, none), (3, some [27, 30]), (2, none), (4, some [32, 36])], []⟩
  | 6 => ⟨[], [], [], [(2, none), (3, some [49, 52])], []⟩
  | 14 => ⟨[], [], [], [(2, none), (2, some [95, 97]), (2, none), (2, some [99, 101]), (2, none), (8, some [103, 111]), (2, none), (7, some [113, 120]), (2, none), (6, some [122, 128]), (2, none), (9, some [130, 139])], []⟩
  | _ => ⟨[], [], [], [], []⟩
def lamplighterlaw06_FastInserts.H (c : Ctx) (t0 : AV) (t1 : AV) (t2 : AV) (t3 : AV) (t4 : AV) (h : List AObj) (K : AOut → List AObj → Prop) : Prop :=
  callW c (.fn (.func 35) [] []) [] h (fun t23 h =>
  runD (lenD T_sl_int h t0) h fun t25 h =>
  runD (binD T_int .gtr t25 (.int .i64 20)) h fun t26 h =>
  joinW (fun (J1 : AV → AV → List AObj → Prop) =>
  guardW t26 false
  (runD (lenD T_sl_int h t4) h fun t29 h =>
    runD (binD T_int .gtr t29 (.int .i64 20)) h fun t30 h =>
    J1 (.bool false) t30 h)
  (J1 (.bool true) .und h))
  (fun t27 t30 h => runD (pickD t27 (.bool true) t30) h fun t31 h =>
  joinW (fun (J2 : AV → AV → List AObj → Prop) =>
  guardW t31 false
  (callW c (.fn (.func 36) [] []) [t0, t2] h (fun t35 h =>
    runD (unD .not t35) h fun t36 h =>
    J2 (.bool false) t36 h)
    (fun v h => K (.pan v) h))
  (J2 (.bool true) .und h))
  (fun t32 t36 h => runD (pickD t32 (.bool true) t36) h fun t37 h =>
  condW t37
  (K (.ret t23) h)
  (callW c (.fn (.func 37) [] []) [(.int .i64 16), t0, t1, t2] h (fun t43 h =>
  runD (extractD t43 0) h fun t44 h =>
  runD (extractD t43 1) h fun t45 h =>
  runD (binD T_api_Errno .neq t45 (.int .i64 0)) h fun t47 h =>
  condW t47
  (joinW (fun (J3 : AV → AV → List AObj → Prop) =>
    guardW t23 true
    (runD (lenD T_sl_api_Micro h t44) h fun t51 h =>
      runD (binD T_int .eql t51 (.int .i64 0)) h fun t52 h =>
      J3 (.bool true) t52 h)
    (J3 (.bool false) .und h))
    (fun t49 t52 h => runD (pickD t49 t52 (.bool false)) h fun t53 h =>
    K (.ret t53) h))
  (callW c (.fn (.func 38) [] []) [t0, t1, t2] h (fun t57 h =>
  runD (convD h T_uint8 T_int t3) h fun t59 h =>
  runD (lenD T_sl_api_Micro h t44) h fun t61 h =>
  runD (binD T_int .add t61 (.int .i64 1)) h fun t62 h =>
  runD (binD T_int .rem t59 t62) h fun t63 h =>
  callW c (.fn (.func 40) [] []) [t0] h (fun t66 h =>
  callW c (.fn (.func 20) [] []) [t66, t44, t63, t4] h (fun t70 h =>
  runD (extractD t70 0) h fun t71 h =>
  runD (extractD t70 1) h fun t72 h =>
  callW c.noS (.fn (.func 40) [] []) [t0] h (fun t75 h =>
  runD (sliceD T_sl_api_Micro h t44 none (some t63) none) h fun t78 h =>
  callW c.noS (.fn (.func 17) [] []) [t75, t78] h (fun t79 h =>
  runD (extractD t79 0) h fun t80 h =>
  runD (extractD t79 1) h fun t81 h =>
  allocW T_api_Mem h fun t18 h =>
  runH (storeH T_api_Mem h t18 t80) h fun _ h =>
  callW c (.fn (.func 41) [] []) [t71, (.int .i64 16)] h (fun t83 h =>
  callW c (.fn (.func 44) [] []) [t83] h (fun t84 h =>
  runD (fieldAddrD T_api_Mem t18 0) h fun t85 h =>
  runD (fitD T_sl_int (loadD h t85)) h fun t86 h =>
  callW c (.fn (.func 41) [] []) [t86, (.int .i64 16)] h (fun t87 h =>
  callW c (.fn (.func 44) [] []) [t87] h (fun t88 h =>
  runD (lenD T_sl_api_Micro h t44) h fun t91 h =>
  runD (binD T_int .sub t91 (.int .i64 1)) h fun t92 h =>
  runD (binD T_int .geq t63 t92) h fun t93 h =>
  joinW (fun (J4 : AV → AV → List AObj → Prop) =>
  guardW t23 true
  (runD (binD T_api_Errno .eql t72 (.int .i64 0)) h fun t97 h =>
    J4 (.bool true) t97 h)
  (J4 (.bool false) .und h))
  (fun t95 t97 h => runD (pickD t95 t97 (.bool false)) h fun t98 h =>
  joinW (fun (J5 : AV → AV → List AObj → Prop) =>
  guardW t98 true
  (runD (binD T_api_Errno .eql t81 (.int .i64 0)) h fun t101 h =>
    J5 (.bool true) t101 h)
  (J5 (.bool false) .und h))
  (fun t99 t101 h => runD (pickD t99 t101 (.bool false)) h fun t102 h =>
  joinW (fun (J6 : AV → AV → List AObj → Prop) =>
  guardW t102 true
  (callW c (.fn (.func 22) [] []) [t84, t0] h (fun t106 h =>
    joinW (fun (J7 : AV → AV → List AObj → Prop) =>
    guardW t106 false
    (callW c (.fn (.func 22) [] []) [t84, t57] h (fun t110 h =>
      J7 (.bool false) t110 h)
      (fun v h => K (.pan v) h))
    (J7 (.bool true) .und h))
    (fun t107 t110 h => runD (pickD t107 (.bool true) t110) h fun t111 h =>
    J6 (.bool true) t111 h))
    (fun v h => K (.pan v) h))
  (J6 (.bool false) .und h))
  (fun t103 t111 h => runD (pickD t103 t111 (.bool false)) h fun t112 h =>
  joinW (fun (J8 : AV → AV → List AObj → Prop) =>
  guardW t112 true
  (runD (unD .not t93) h fun t115 h =>
    joinW (fun (J9 : AV → AV → List AObj → Prop) =>
    guardW t115 false
    (callW c (.fn (.func 22) [] []) [t88, t57] h (fun t119 h =>
      J9 (.bool false) t119 h)
      (fun v h => K (.pan v) h))
    (J9 (.bool true) .und h))
    (fun t116 t119 h => runD (pickD t116 (.bool true) t119) h fun t120 h =>
    J8 (.bool true) t120 h))
  (J8 (.bool false) .und h))
  (fun t113 t120 h => runD (pickD t113 t120 (.bool false)) h fun t121 h =>
  joinW (fun (J10 : AV → AV → List AObj → Prop) =>
  guardW t121 true
  (joinW (fun (J11 : AV → AV → List AObj → Prop) =>
    guardW t93 false
    (callW c (.fn (.func 22) [] []) [t88, t0] h (fun t127 h =>
      J11 (.bool false) t127 h)
      (fun v h => K (.pan v) h))
    (J11 (.bool true) .und h))
    (fun t124 t127 h => runD (pickD t124 (.bool true) t127) h fun t128 h =>
    J10 (.bool true) t128 h))
  (J10 (.bool false) .und h))
  (fun t122 t128 h => runD (pickD t122 t128 (.bool false)) h fun t129 h =>
  joinW (fun (J12 : AV → AV → List AObj → Prop) =>
  guardW t129 true
  (runD (lenD T_sl_api_Micro h t44) h fun t133 h =>
    runD (binD T_int .lss t63 t133) h fun t134 h =>
    joinW (fun (J13 : AV → AV → List AObj → Prop) =>
    guardW t134 false
    (callW c (.fn (.func 22) [] []) [t84, t57] h (fun t138 h =>
      J13 (.bool false) t138 h)
      (fun v h => K (.pan v) h))
    (J13 (.bool true) .und h))
    (fun t135 t138 h => runD (pickD t135 (.bool true) t138) h fun t139 h =>
    J12 (.bool true) t139 h))
  (J12 (.bool false) .und h))
  (fun t130 t139 h => runD (pickD t130 t139 (.bool false)) h fun t140 h =>
  K (.ret t140) h)))))))
  (fun v h => K (.pan v) h))
  (fun v h => K (.pan v) h))
  (fun v h => K (.pan v) h))
  (fun v h => K (.pan v) h))
  (fun _ _ => False))
  (fun _ _ => False))
  (fun v h => K (.pan v) h))
  (fun v h => K (.pan v) h))
  (fun v h => K (.pan v) h)))
  (fun v h => K (.pan v) h)))))
  (fun v h => K (.pan v) h)
theorem lamplighterlaw06_FastInserts.eq (F : List (FuncId × Contract)) (S : List (FuncId × Con)) (t0 t1 t2 t3 t4 : AV) (h : List AObj) (K : AOut → List AObj → Prop) : funW (ctx F S lamplighterlaw06_FastInserts.loops) Try.f11 [t0, t1, t2, t3, t4] h K = lamplighterlaw06_FastInserts.H (ctx F S lamplighterlaw06_FastInserts.loops) t0 t1 t2 t3 t4 h K := by kernel_rfl
theorem lamplighterlaw06_FastInserts.at : Try.prog.funcs[11]? = some Try.f11 := by kernel_rfl
theorem lamplighterlaw06_FastInserts.nm : (Try.f11.name == "runtime.NumGoroutine") = false := by kernel_rfl
theorem lamplighterlaw06_FastInserts.bd : Try.f11.body.isNone = false := by kernel_rfl
end Lam
namespace Lam
open Go Go.Proofs
set_option linter.unusedVariables false
set_option linter.unnecessarySimpa false
set_option linter.unusedSimpArgs false
abbrev FastInserts_ctx : Ctx := ctx [(35, lamplighterlaw06_awake.C), (37, fast_Insert.C), (36, lamplighterlaw06_unlike.C), (38, lamplighterref06_With.C), (20, micro_Crash.C), (17, micro_Run.C), (40, lamplighterlaw06_laid.C), (44, fast_Plain.C), (41, fast_Slots.C), (22, lamplighterref02_Numbers.C)] [] lamplighterlaw06_FastInserts.loops
set_option maxRecDepth 20000 in
theorem FastInserts_vc (l : List Int) (pos : Int) (ref : Int) (n : Int) (keep : List Int) (w_pos : (Lit.int .i64 pos).wf = true) (w_ref : (Lit.int .i64 ref).wf = true) (w_n : (Lit.int .u8 n).wf = true) (w_keep : wfL (.ints .i64 keep)) (n_keep : keep.length ≤ maxLen) : lamplighterlaw06_FastInserts.H FastInserts_ctx (.sl false (.ints .i64 l)) (.int .i64 pos) (.int .i64 ref) (.int .u8 n) (.sl false (.ints .i64 keep)) [] Told := by
  unfold lamplighterlaw06_FastInserts.H
  simp (maxSteps := 4000000) only [go_sem, Nat.reduceEqDiff, Nat.reduceLT, Nat.reduceAdd, Nat.reduceSub, Nat.reduceLeDiff, List.reduceReplicate, Int.reduceToNat, lamplighterlaw06_awake.C, fast_Insert.C, lamplighterlaw06_unlike.C, lamplighterref06_With.C, micro_Crash.C, micro_Run.C, lamplighterlaw06_laid.C, fast_Plain.C, fast_Slots.C, lamplighterref02_Numbers.C]
  have hn := wf_u8 w_n
  refine ⟨fun hg => ?_, fun _ => rfl, fun hg => ?_⟩
  · simp only [Bool.or_eq_false_iff, decide_eq_false_iff_not] at hg
    unfold roomy; omega
  simp only [Bool.or_eq_false_iff, Bool.not_eq_false', decide_eq_false_iff_not] at hg
  obtain ⟨⟨hl, hkp⟩, hu⟩ := hg
  refine ⟨by unfold roomy; omega, ?_⟩
  rcases ins_cases l pos ref with ⟨e, he, h1⟩ | ⟨h0, h1, h2, h3, h4, h5⟩
  · simp only [h1, he, decide_true, decide_false, List.length_nil, joinW_eq, guard_tt, guard_tf, guard_ft, guard_ff, Int.reduceEq, Int.reduceLT, Int.reduceLE, decide_false, decide_true, Bool.not_false, Bool.not_true, Bool.not_not, not_true_eq_false, not_false_eq_true, true_implies, false_implies, implies_true, and_true, true_and, reduceCtorEq, Bool.and_self, Bool.or_self, Bool.and_true, Bool.true_and, Bool.false_eq_true, if_true, if_false, go_sem, Nat.reduceEqDiff, Nat.reduceLT, Nat.reduceAdd, Nat.reduceSub, Nat.reduceLeDiff, List.reduceReplicate, Int.reduceToNat]
    rfl
  · obtain ⟨p, rfl⟩ := Int.eq_ofNat_of_zero_le h0
    have hp : p ≤ l.length := by omega
    rw [h5]
    simp only [Int.ofNat_eq_natCast, Int.toNat_natCast] at *
    have hin := insS_in h2 hp ref
    have hpl := fun j => ins_plain (j := j) h2 hp h3 hu
    have hlen := insS_len l p ref
    have hsl := storedN_len 16 (insS l p ref) (insS l p ref).length
    have hfar := fun j k => far_last (b := 16) (by decide) (by decide) hin (by omega) (k := k) (j := j)
    have hsd := fun k => node_sound (z := l) (by omega) hin k
    have hsd' := node_sound' (z := l) (by omega) hin
    have hcr := fun k => node_crash (z := l) (by omega) hin k keep
    generalize insS l p ref = L at *
    have hwne : ¬ IntKind.i64.wrap (((storedN 16 L L.length).length : Int) + 1) = 0 := by rw [wnext (by omega)]; omega
    rw [show l.take 13 = l from take_len l (by omega)]
    have hs2 : 2 ≤ (storedN 16 L L.length).length := by
      obtain ⟨r, hr, _⟩ := stored_last (b := 16) (l := L) (by omega)
      rw [hr]; simp
    have hk := mod_le n.toNat (storedN 16 L L.length).length
    simp only [hwne, joinW_eq, guard_tt, guard_tf, guard_ft, guard_ff, Int.reduceEq, Int.reduceLT, Int.reduceLE, decide_false, decide_true, Bool.not_false, Bool.not_true, Bool.not_not, not_true_eq_false, not_false_eq_true, true_implies, false_implies, implies_true, and_true, true_and, reduceCtorEq, Bool.and_self, Bool.or_self, Bool.and_true, Bool.true_and, Bool.false_eq_true, if_true, if_false, go_sem, Nat.reduceEqDiff, Nat.reduceLT, Nat.reduceAdd, Nat.reduceSub, Nat.reduceLeDiff, List.reduceReplicate, Int.reduceToNat]
    rw [modN hn.1 hn.2 (show (storedN 16 L L.length).length < 1099511627776 by omega)]
    generalize n.toNat % ((storedN 16 L L.length).length + 1) = k at *
    have e1 : IntKind.i64.wrap (((storedN 16 L L.length).length : Int) - 1) = (((storedN 16 L L.length).length - 1 : Nat) : Int) := by rw [w64 (by omega) (by omega)]; omega
    rw [e1]
    simp only [Int.toNat_natCast, micro_Crash.C, mcrash_ok hsd', cutI_nat hk, micro_Run.C, runV_ok (hsd k), fast_Slots.C, fast_Plain.C, lamplighterref02_Numbers.C, joinW_eq, guard_tt, guard_tf, guard_ft, guard_ff, Int.reduceEq, Int.reduceLT, Int.reduceLE, decide_false, decide_true, Bool.not_false, Bool.not_true, Bool.not_not, not_true_eq_false, not_false_eq_true, true_implies, false_implies, implies_true, and_true, true_and, reduceCtorEq, Bool.and_self, Bool.or_self, Bool.and_true, Bool.true_and, Bool.false_eq_true, if_true, if_false, go_sem, Nat.reduceEqDiff, Nat.reduceLT, Nat.reduceAdd, Nat.reduceSub, Nat.reduceLeDiff, List.reduceReplicate, Int.reduceToNat]
    obtain ⟨⟨j1, hj1, hc1, hc2⟩, j2, hj2, hv1, hv2⟩ := hcr k
    have hfk := hfar j2 k hj2 hv2
    have p1 := hpl j1 hj1
    have p2 := hpl j2 hj2
    simp only [wordsOf] at p1 p2
    rw [hc1, hv1, p1, p2]
    have d1 : decide ((((storedN 16 L L.length).length - 1 : Nat) : Int) ≤ (k : Int)) = decide (j2 = L.length) := decide_eq_decide.2 (by rw [hfk]; omega)
    have hW : withL l p ref ≠ l := fun e => by have := with_len l ref hp; rw [e] at this; omega
    have hWl := with_len l ref hp
    have hrw : roomy (withL l p ref).length := by unfold roomy; omega
    have hrl : roomy l.length := by unfold roomy; omega
    have hi64 := wf_i64s w_keep
    have hrk : roomy keep.length := by unfold roomy; omega
    have hsm := small_node (l := l) (by omega)
    rw [d1]
    refine ⟨⟨hrl, by omega, by omega, by omega⟩, by omega, ⟨hsm, by omega, hrk, hi64⟩, by omega, ⟨by omega, by omega⟩, ⟨hsm, by rw [List.length_take]; omega⟩, words_roomy (by omega) _, slots_roomy _ _, words_roomy (by omega) _, slots_roomy _ _, ?_⟩
    generalize withL l p ref = W at *
    have hc3 : k < (storedN 16 L L.length).length ∨ j1 = L.length := by
      rcases Nat.lt_or_ge k (storedN 16 L L.length).length with h | h
      · exact .inl h
      · exact .inr (hc2 h)
    have hW' : ¬ l = W := fun e => hW e.symm
    have hc4 : j1 ≠ L.length → decide ((k : Int) < ((storedN 16 L L.length).length : Int)) = true := fun h => decide_eq_true (by omega)
    generalize decide ((k : Int) < ((storedN 16 L L.length).length : Int)) = D at *
    by_cases a1 : j1 = L.length <;> by_cases a2 : j2 = L.length <;> cases D
    all_goals first | (exact absurd (hc4 a1) Bool.false_ne_true) | skip
    all_goals
      simp only [if_pos, if_neg, a1, a2, hW, hW', decide_true, decide_false, ite_self, if_true, if_false, guard_tt, guard_tf, guard_ft, guard_ff, Bool.not_true, Bool.not_false]
      and_intros
      all_goals first | rfl | assumption
theorem FastInserts_ok : Ok Try.prog FastInserts_ctx := ctx_ok (by simpa using ⟨lamplighterlaw06_awake.spec, fast_Insert.spec, lamplighterlaw06_unlike.spec, lamplighterref06_With.spec, micro_Crash.spec, micro_Run.spec, lamplighterlaw06_laid.spec, fast_Plain.spec, fast_Slots.spec, lamplighterref02_Numbers.spec⟩) (by simp) _
theorem FastInserts_law (l : List Int) (pos : Int) (ref : Int) (n : Int) (keep : Lst) (w_pos : (Lit.int .i64 pos).wf = true) (w_ref : (Lit.int .i64 ref).wf = true) (w_n : (Lit.int .u8 n).wf = true) (k_keep : keep.kind = (.int .i64)) (w_keep : wfL keep) (n_keep : keep.len ≤ maxLen) : funW FastInserts_ctx Try.f11 [(.sl false (.ints .i64 l)), (.int .i64 pos), (.int .i64 ref), (.int .u8 n), (.sl false keep)] [] Told := by
  obtain ⟨keep, rfl⟩ := gkind_ints k_keep
  rw [FastInserts_ctx, lamplighterlaw06_FastInserts.eq]
  exact FastInserts_vc l pos ref n keep w_pos w_ref w_n w_keep n_keep
end Lam
