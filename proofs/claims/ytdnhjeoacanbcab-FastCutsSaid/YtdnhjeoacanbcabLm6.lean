/- What functions of the program come to, each proved from its code. -/
import Derived.Test.YtdnhjeoacanbcabLm5
namespace Lam
open Go Go.Proofs
set_option linter.unusedVariables false
def lamplighterlaw06_FastCuts.loops : Nat → LInfo
  | 2 => ⟨[], [], [], [(4, none), (3, some [28, 31]), (2, none), (4, some [33, 37])], []⟩
  | 7 => ⟨[], [], [], [(2, none), (3, some [56, 59]), (2, none), (2, some [61, 63])], []⟩
  | 11 => ⟨[], [], [], [(3, none), (4, some [84, 88]), (2, none), (5, some [90, 95]), (2, none), (7, some [97, 104]), (2, none), (10, some [106, 116])], []⟩
  | 14 => ⟨[], [], [], [(2, none), (8, some [121, 129])], []⟩
  | 19 => ⟨[], [], [], [(2, none), (2, some [155, 157]), (2, none), (8, some [159, 167])], []⟩
  | _ => ⟨[], [], [], [], []⟩
def lamplighterlaw06_FastCuts.H (c : Ctx) (t0 : AV) (t1 : AV) (t2 : AV) (t3 : AV) (t4 : AV) (h : List AObj) (K : AOut → List AObj → Prop) : Prop :=
  callW c (.fn (.func 35) [] []) [] h (fun t24 h =>
  runD (lenD T_sl_int h t0) h fun t26 h =>
  runD (binD T_int .gtr t26 (.int .i64 20)) h fun t27 h =>
  joinW (fun (J1 : AV → AV → List AObj → Prop) =>
  guardW t27 false
  (runD (lenD T_sl_int h t4) h fun t30 h =>
    runD (binD T_int .gtr t30 (.int .i64 20)) h fun t31 h =>
    J1 (.bool false) t31 h)
  (J1 (.bool true) .und h))
  (fun t28 t31 h => runD (pickD t28 (.bool true) t31) h fun t32 h =>
  joinW (fun (J2 : AV → AV → List AObj → Prop) =>
  guardW t32 false
  (callW c (.fn (.func 36) [] []) [t0, t2] h (fun t36 h =>
    runD (unD .not t36) h fun t37 h =>
    J2 (.bool false) t37 h)
    (fun v h => K (.pan v) h))
  (J2 (.bool true) .und h))
  (fun t33 t37 h => runD (pickD t33 (.bool true) t37) h fun t38 h =>
  condW t38
  (K (.ret t24) h)
  (callW c (.fn (.func 42) [] []) [(.int .i64 16), t0, t1] h (fun t43 h =>
  runD (extractD t43 0) h fun t44 h =>
  runD (extractD t43 1) h fun t45 h =>
  callW c (.fn (.func 43) [] []) [(.int .i64 16), t0, t1, t2] h (fun t50 h =>
  runD (extractD t50 0) h fun t51 h =>
  runD (extractD t50 1) h fun t52 h =>
  runD (binD T_api_Errno .neq t45 (.int .i64 0)) h fun t54 h =>
  condW t54
  (joinW (fun (J3 : AV → AV → List AObj → Prop) =>
    guardW t24 true
    (runD (lenD T_sl_api_Micro h t44) h fun t58 h =>
      runD (binD T_int .eql t58 (.int .i64 0)) h fun t59 h =>
      J3 (.bool true) t59 h)
    (J3 (.bool false) .und h))
    (fun t56 t59 h => runD (pickD t56 t59 (.bool false)) h fun t60 h =>
    joinW (fun (J4 : AV → AV → List AObj → Prop) =>
    guardW t60 true
    (runD (binD T_api_Errno .neq t52 (.int .i64 0)) h fun t63 h =>
      J4 (.bool true) t63 h)
    (J4 (.bool false) .und h))
    (fun t61 t63 h => runD (pickD t61 t63 (.bool false)) h fun t64 h =>
    K (.ret t64) h)))
  (runD (convD h T_uint8 T_int t3) h fun t66 h =>
  runD (lenD T_sl_api_Micro h t44) h fun t68 h =>
  runD (binD T_int .add t68 (.int .i64 1)) h fun t69 h =>
  runD (binD T_int .rem t66 t69) h fun t70 h =>
  callW c (.fn (.func 40) [] []) [t0] h (fun t73 h =>
  callW c (.fn (.func 20) [] []) [t73, t44, t70, t4] h (fun t77 h =>
  runD (extractD t77 0) h fun t78 h =>
  runD (extractD t77 1) h fun t79 h =>
  callW c (.fn (.func 41) [] []) [t78, (.int .i64 16)] h (fun t81 h =>
  runD (binD T_api_Errno .neq t79 (.int .i64 0)) h fun t83 h =>
  joinW (fun (J5 : AV → AV → List AObj → Prop) =>
  guardW t83 false
  (runD (lenD T_sl_int h t81) h fun t86 h =>
    runD (binD T_int .lss t86 t1) h fun t88 h =>
    J5 (.bool false) t88 h)
  (J5 (.bool true) .und h))
  (fun t84 t88 h => runD (pickD t84 (.bool true) t88) h fun t89 h =>
  joinW (fun (J6 : AV → AV → List AObj → Prop) =>
  guardW t89 false
  (runD (lenD T_sl_int h t81) h fun t92 h =>
    runD (lenD T_sl_int h t0) h fun t94 h =>
    runD (binD T_int .gtr t92 t94) h fun t95 h =>
    J6 (.bool false) t95 h)
  (J6 (.bool true) .und h))
  (fun t90 t95 h => runD (pickD t90 (.bool true) t95) h fun t96 h =>
  joinW (fun (J7 : AV → AV → List AObj → Prop) =>
  guardW t96 false
  (runD (lenD T_sl_int h t81) h fun t101 h =>
    runD (sliceD T_sl_int h t0 none (some t101) none) h fun t102 h =>
    callW c (.fn (.func 22) [] []) [t81, t102] h (fun t103 h =>
    runD (unD .not t103) h fun t104 h =>
    J7 (.bool false) t104 h)
    (fun v h => K (.pan v) h))
  (J7 (.bool true) .und h))
  (fun t97 t104 h => runD (pickD t97 (.bool true) t104) h fun t105 h =>
  joinW (fun (J8 : AV → AV → List AObj → Prop) =>
  guardW t105 false
  (runD (lenD T_sl_api_Micro h t44) h fun t109 h =>
    runD (binD T_int .eql t70 t109) h fun t110 h =>
    joinW (fun (J9 : AV → AV → List AObj → Prop) =>
    guardW t110 true
    (runD (lenD T_sl_int h t81) h fun t113 h =>
      runD (binD T_int .neq t113 t1) h fun t115 h =>
      J9 (.bool true) t115 h)
    (J9 (.bool false) .und h))
    (fun t111 t115 h => runD (pickD t111 t115 (.bool false)) h fun t116 h =>
    J8 (.bool false) t116 h))
  (J8 (.bool true) .und h))
  (fun t106 t116 h => runD (pickD t106 (.bool true) t116) h fun t117 h =>
  condW t117
  (K (.ret (.bool false)) h)
  (runD (binD T_api_Errno .neq t52 (.int .i64 0)) h fun t119 h =>
  condW t119
  (joinW (fun (J10 : AV → AV → List AObj → Prop) =>
    guardW t24 true
    (runD (binD T_int .leq t2 (.int .i64 0)) h fun t123 h =>
      joinW (fun (J11 : AV → AV → List AObj → Prop) =>
      guardW t123 false
      (runD (lenD T_sl_int h t0) h fun t127 h =>
        runD (binD T_int .eql t1 t127) h fun t128 h =>
        J11 (.bool false) t128 h)
      (J11 (.bool true) .und h))
      (fun t124 t128 h => runD (pickD t124 (.bool true) t128) h fun t129 h =>
      J10 (.bool true) t129 h))
    (J10 (.bool false) .und h))
    (fun t121 t129 h => runD (pickD t121 t129 (.bool false)) h fun t130 h =>
    K (.ret t130) h))
  (callW c.noS (.fn (.func 40) [] []) [t0] h (fun t133 h =>
  runD (convD h T_uint8 T_int t3) h fun t136 h =>
  runD (lenD T_sl_api_Micro h t51) h fun t138 h =>
  runD (binD T_int .add t138 (.int .i64 1)) h fun t139 h =>
  runD (binD T_int .rem t136 t139) h fun t140 h =>
  callW c.noS (.fn (.func 20) [] []) [t133, t51, t140, t4] h (fun t142 h =>
  runD (extractD t142 0) h fun t143 h =>
  runD (extractD t142 1) h fun t144 h =>
  runD (buildSliceD T_sl_int 0 [] h.length) h fun t145 h =>
  runDM (appendD T_sl_int h t145 t0 h.length) (appendH T_sl_int h t145 t0) h fun t147 h =>
  runD (indexAddrD T_sl_int h t147 t1) h fun t151 h =>
  runH (storeH T_int h t151 t2) h fun _ h =>
  callW c (.fn (.func 41) [] []) [t143, (.int .i64 16)] h (fun t153 h =>
  joinW (fun (J12 : AV → AV → List AObj → Prop) =>
  guardW t24 true
  (runD (binD T_api_Errno .eql t144 (.int .i64 0)) h fun t157 h =>
    J12 (.bool true) t157 h)
  (J12 (.bool false) .und h))
  (fun t155 t157 h => runD (pickD t155 t157 (.bool false)) h fun t158 h =>
  joinW (fun (J13 : AV → AV → List AObj → Prop) =>
  guardW t158 true
  (callW c (.fn (.func 22) [] []) [t153, t0] h (fun t162 h =>
    joinW (fun (J14 : AV → AV → List AObj → Prop) =>
    guardW t162 false
    (callW c (.fn (.func 22) [] []) [t153, t147] h (fun t166 h =>
      J14 (.bool false) t166 h)
      (fun v h => K (.pan v) h))
    (J14 (.bool true) .und h))
    (fun t163 t166 h => runD (pickD t163 (.bool true) t166) h fun t167 h =>
    J13 (.bool true) t167 h))
    (fun v h => K (.pan v) h))
  (J13 (.bool false) .und h))
  (fun t159 t167 h => runD (pickD t159 t167 (.bool false)) h fun t168 h =>
  K (.ret t168) h)))
  (fun v h => K (.pan v) h))
  (fun _ _ => False))
  (fun _ _ => False))))))))
  (fun v h => K (.pan v) h))
  (fun v h => K (.pan v) h))
  (fun v h => K (.pan v) h)))
  (fun v h => K (.pan v) h))
  (fun v h => K (.pan v) h)))))
  (fun v h => K (.pan v) h)
theorem lamplighterlaw06_FastCuts.eq (F : List (FuncId × Contract)) (S : List (FuncId × Con)) (t0 t1 t2 t3 t4 : AV) (h : List AObj) (K : AOut → List AObj → Prop) : funW (ctx F S lamplighterlaw06_FastCuts.loops) Try.f10 [t0, t1, t2, t3, t4] h K = lamplighterlaw06_FastCuts.H (ctx F S lamplighterlaw06_FastCuts.loops) t0 t1 t2 t3 t4 h K := by kernel_rfl
theorem lamplighterlaw06_FastCuts.at : Try.prog.funcs[10]? = some Try.f10 := by kernel_rfl
theorem lamplighterlaw06_FastCuts.nm : (Try.f10.name == "runtime.NumGoroutine") = false := by kernel_rfl
theorem lamplighterlaw06_FastCuts.bd : Try.f10.body.isNone = false := by kernel_rfl
end Lam
namespace Lam
open Go Go.Proofs
set_option linter.unusedVariables false
set_option linter.unnecessarySimpa false
set_option linter.unusedSimpArgs false
abbrev FastCuts_ctx : Ctx := ctx [(35, lamplighterlaw06_awake.C), (42, fast_Cut.C), (43, fast_Swap.C), (36, lamplighterlaw06_unlike.C), (20, micro_Crash.C), (40, lamplighterlaw06_laid.C), (41, fast_Slots.C), (22, lamplighterref02_Numbers.C)] [] lamplighterlaw06_FastCuts.loops
set_option maxRecDepth 20000 in
theorem FastCuts_vc (l : List Int) (pos : Int) (ref : Int) (n : Int) (keep : List Int) (w_pos : (Lit.int .i64 pos).wf = true) (w_ref : (Lit.int .i64 ref).wf = true) (w_n : (Lit.int .u8 n).wf = true) (w_keep : wfL (.ints .i64 keep)) (n_keep : keep.length ≤ maxLen) : lamplighterlaw06_FastCuts.H FastCuts_ctx (.sl false (.ints .i64 l)) (.int .i64 pos) (.int .i64 ref) (.int .u8 n) (.sl false (.ints .i64 keep)) [] Told := by
  unfold lamplighterlaw06_FastCuts.H
  simp (maxSteps := 4000000) only [go_sem, Nat.reduceEqDiff, Nat.reduceLT, Nat.reduceAdd, Nat.reduceSub, Nat.reduceLeDiff, List.reduceReplicate, Int.reduceToNat, lamplighterlaw06_awake.C, fast_Cut.C, fast_Swap.C, lamplighterlaw06_unlike.C, micro_Crash.C, lamplighterlaw06_laid.C, fast_Slots.C, lamplighterref02_Numbers.C]
  have hn := wf_u8 w_n
  refine ⟨fun hg => ?_, fun _ => rfl, fun hg => ?_⟩
  · simp only [Bool.or_eq_false_iff, decide_eq_false_iff_not] at hg
    unfold roomy; omega
  simp only [Bool.or_eq_false_iff, Bool.not_eq_false', decide_eq_false_iff_not] at hg
  obtain ⟨⟨hl, hkp⟩, hu⟩ := hg
  have hrl : roomy l.length := by unfold roomy; omega
  refine ⟨hrl, ?_⟩
  have hsw := swap_cases l pos ref
  rcases cut_cases l pos with ⟨e, he, h1, hno⟩ | ⟨h0, h1, h2, h4, hm, h5⟩
  · rcases hsw with ⟨e2, he2, h2, _⟩ | ⟨q0, q1, q2, q3, q4, q5⟩
    · simp only [h1, h2, he, he2, decide_true, decide_false, List.length_nil, joinW_eq, guard_tt, guard_tf, guard_ft, guard_ff, Int.reduceEq, Int.reduceLT, Int.reduceLE, decide_false, decide_true, Bool.not_false, Bool.not_true, Bool.not_not, not_true_eq_false, not_false_eq_true, true_implies, false_implies, implies_true, and_true, true_and, reduceCtorEq, Bool.and_self, Bool.or_self, Bool.and_true, Bool.true_and, Bool.false_eq_true, if_true, if_false, go_sem, Nat.reduceEqDiff, Nat.reduceLT, Nat.reduceAdd, Nat.reduceSub, Nat.reduceLeDiff, List.reduceReplicate, Int.reduceToNat]
      exact ⟨hrl, rfl⟩
    · exfalso
      refine hno ⟨?_, q0, by omega⟩
      simp only [Bool.and_eq_true, decide_eq_true_eq, fmayB, Bool.not_eq_true', List.any_eq_false, lt1]
      exact ⟨⟨by decide, q2⟩, fun x hx => by have := q4 x hx; omega⟩
  · obtain ⟨p, rfl⟩ := Int.eq_ofNat_of_zero_le h0
    have hp : p ≤ l.length := by omega
    rw [h5]
    simp only [Int.ofNat_eq_natCast, Int.toNat_natCast] at *
    have hin := cutK_in h2 (k := l.length - p) (by omega)
    have hpl := fun j => cutK_slots (j := j) h2 h4 (k := l.length - p) (by omega)
    have hlen := cutK_len l (l.length - p)
    have hsl := storedN_len 16 (cutK l (l.length - p)) (cutK l (l.length - p)).length
    have hsd' := node_sound' (z := l) (by omega) hin
    have hcr := fun k => node_crash (z := l) (by omega) hin k keep
    generalize cutK l (l.length - p) = L at *
    have hwne : ¬ IntKind.i64.wrap (((storedN 16 L L.length).length : Int) + 1) = 0 := by rw [wnext (by omega)]; omega
    rw [show l.take 13 = l from take_len l (by omega)]
    have hk := mod_le n.toNat (storedN 16 L L.length).length
    have hi64 := wf_i64s w_keep
    have hrk : roomy keep.length := by unfold roomy; omega
    have hsm := small_node (l := l) (by omega)
    simp only [hwne, joinW_eq, guard_tt, guard_tf, guard_ft, guard_ff, Int.reduceEq, Int.reduceLT, Int.reduceLE, decide_false, decide_true, Bool.not_false, Bool.not_true, Bool.not_not, not_true_eq_false, not_false_eq_true, true_implies, false_implies, implies_true, and_true, true_and, reduceCtorEq, Bool.and_self, Bool.or_self, Bool.and_true, Bool.true_and, Bool.false_eq_true, if_true, if_false, go_sem, Nat.reduceEqDiff, Nat.reduceLT, Nat.reduceAdd, Nat.reduceSub, Nat.reduceLeDiff, List.reduceReplicate, Int.reduceToNat]
    rw [modN hn.1 hn.2 (show (storedN 16 L L.length).length < 1099511627776 by omega)]
    generalize hK : n.toNat % ((storedN 16 L L.length).length + 1) = k at *
    simp only [Int.toNat_natCast, micro_Crash.C, mcrash_ok hsd', cutI_nat hk, fast_Slots.C, lamplighterref02_Numbers.C, joinW_eq, guard_tt, guard_tf, guard_ft, guard_ff, Int.reduceEq, Int.reduceLT, Int.reduceLE, decide_false, decide_true, Bool.not_false, Bool.not_true, Bool.not_not, not_true_eq_false, not_false_eq_true, true_implies, false_implies, implies_true, and_true, true_and, reduceCtorEq, Bool.and_self, Bool.or_self, Bool.and_true, Bool.true_and, Bool.false_eq_true, if_true, if_false, go_sem, Nat.reduceEqDiff, Nat.reduceLT, Nat.reduceAdd, Nat.reduceSub, Nat.reduceLeDiff, List.reduceReplicate, Int.reduceToNat]
    obtain ⟨⟨j1, hj1, hc1, hc2⟩, _⟩ := hcr k
    have p1 := hpl j1 (by omega)
    simp only [wordsOf] at p1
    rw [hc1, p1]
    obtain ⟨q, hq⟩ : ∃ q, q = l.length - j1 := ⟨_, rfl⟩
    rw [← hq]
    have hql : (l.take q).length = q := by rw [List.length_take]; omega
    have d1 : decide ((q : Int) < (p : Int)) = false := decide_eq_false (by omega)
    have d2 : decide ((l.length : Int) < (q : Int)) = false := decide_eq_false (by omega)
    have hD : decide ((k : Int) = ((storedN 16 L L.length).length : Int)) = true → (q : Int) = p := fun h => by
      have := hc2 (by have := of_decide_eq_true h; omega); omega
    have hrq : roomy q := by unfold roomy; omega
    generalize decide ((k : Int) = ((storedN 16 L L.length).length : Int)) = D at *
    have hwr := words_roomy (l := l) (by omega) ((L.take j1).map (pendOf 16))
    rcases hsw with ⟨e2, he2, s2, sno⟩ | ⟨q0, q1, q2, q3, q4, q5⟩
    · have dr : (decide (ref ≤ 0) || decide ((p : Int) = (l.length : Int))) = true := by
        rw [Bool.or_eq_true, decide_eq_true_eq, decide_eq_true_eq]
        refine Classical.byContradiction fun hh => sno ⟨hm, by omega, by omega, by omega⟩
      cases D with
      | true =>
        obtain rfl : q = p := by have := hD rfl; omega
        simp only [s2, hql, d1, d2, he2, dr, decide_self, decide_false, eq_self, joinW_eq, guard_tt, guard_tf, guard_ft, guard_ff, Int.reduceEq, Int.reduceLT, Int.reduceLE, decide_false, decide_true, Bool.not_false, Bool.not_true, Bool.not_not, not_true_eq_false, not_false_eq_true, true_implies, false_implies, implies_true, and_true, true_and, reduceCtorEq, Bool.and_self, Bool.or_self, Bool.and_true, Bool.true_and, Bool.false_eq_true, if_true, if_false, go_sem, Nat.reduceEqDiff, Nat.reduceLT, Nat.reduceAdd, Nat.reduceSub, Nat.reduceLeDiff, List.reduceReplicate, Int.reduceToNat]
        refine ⟨hrl, by omega, ⟨hsm, by omega, hrk, hi64⟩, hwr, by omega, hrq, rfl⟩
      | false =>
        simp only [s2, hql, d1, d2, he2, dr, decide_self, decide_false, joinW_eq, guard_tt, guard_tf, guard_ft, guard_ff, Int.reduceEq, Int.reduceLT, Int.reduceLE, decide_false, decide_true, Bool.not_false, Bool.not_true, Bool.not_not, not_true_eq_false, not_false_eq_true, true_implies, false_implies, implies_true, and_true, true_and, reduceCtorEq, Bool.and_self, Bool.or_self, Bool.and_true, Bool.true_and, Bool.false_eq_true, if_true, if_false, go_sem, Nat.reduceEqDiff, Nat.reduceLT, Nat.reduceAdd, Nat.reduceSub, Nat.reduceLeDiff, List.reduceReplicate, Int.reduceToNat]
        refine ⟨hrl, by omega, ⟨hsm, by omega, hrk, hi64⟩, hwr, by omega, hrq, rfl⟩
    · have hin2 : inSlots [(⟨(p : Int), ref⟩ : SlotT)] := fun s hs => by
        rw [List.mem_singleton] at hs; subst hs; exact ⟨q0, by simp only; omega⟩
      have hsl2 := storedN_len 16 [(⟨(p : Int), ref⟩ : SlotT)] 1
      have hsd2 := node_sound' (z := l) (by omega) hin2
      have hcr2 := fun k => node_crash (z := l) (by omega) hin2 k keep
      have hpl2 := fun j => swap_slots (j := j) q2 q4 (p := p) (by omega) q3
      have hl2 : [(⟨(p : Int), ref⟩ : SlotT)].length = 1 := rfl
      rw [q5]
      generalize [(⟨(p : Int), ref⟩ : SlotT)] = L2 at *
      rw [hl2] at hsd2 hcr2 ⊢
      have hk2 := mod_le n.toNat (storedN 16 L2 1).length
      have hm2 := modN hn.1 hn.2 (show (storedN 16 L2 1).length < 1099511627776 by omega)
      have hwne2 : ¬ IntKind.i64.wrap (((storedN 16 L2 1).length : Int) + 1) = 0 := by rw [wnext (by omega)]; omega
      generalize n.toNat % ((storedN 16 L2 1).length + 1) = k2 at *
      obtain ⟨⟨j2, hj2, hc3, _⟩, _⟩ := hcr2 k2
      have p2 := hpl2 j2 hj2
      simp only [wordsOf] at p2
      have hwr2 := words_roomy (l := l) (by omega) ((L2.take j2).map (pendOf 16))
      have hsr2 := slots_roomy (app ((L2.take j2).map (pendOf 16)) (nodeW l)) 16
      rw [p2] at hsr2
      have hset : (l.set p ref).take l.length = l.set p ref := take_len _ (Nat.le_of_eq List.length_set)
      cases D with
      | true =>
        obtain rfl : q = p := by have := hD rfl; omega
        simp only [hql, d1, d2, eq_self, decide_self, decide_false, joinW_eq, guard_tt, guard_tf, guard_ft, guard_ff, Int.reduceEq, Int.reduceLT, Int.reduceLE, decide_false, decide_true, Bool.not_false, Bool.not_true, Bool.not_not, not_true_eq_false, not_false_eq_true, true_implies, false_implies, implies_true, and_true, true_and, reduceCtorEq, Bool.and_self, Bool.or_self, Bool.and_true, Bool.true_and, Bool.false_eq_true, if_true, if_false, go_sem, Nat.reduceEqDiff, Nat.reduceLT, Nat.reduceAdd, Nat.reduceSub, Nat.reduceLeDiff, List.reduceReplicate, Int.reduceToNat, hm2, hwne2]
        simp only [Int.toNat_natCast, micro_Crash.C, mcrash_ok hsd2, cutI_nat hk2, hc3, fast_Slots.C, lamplighterref02_Numbers.C, p2, hset, joinW_eq, guard_tt, guard_tf, guard_ft, guard_ff, Int.reduceEq, Int.reduceLT, Int.reduceLE, decide_false, decide_true, Bool.not_false, Bool.not_true, Bool.not_not, not_true_eq_false, not_false_eq_true, true_implies, false_implies, implies_true, and_true, true_and, reduceCtorEq, Bool.and_self, Bool.or_self, Bool.and_true, Bool.true_and, Bool.false_eq_true, if_true, if_false, go_sem, Nat.reduceEqDiff, Nat.reduceLT, Nat.reduceAdd, Nat.reduceSub, Nat.reduceLeDiff, List.reduceReplicate, Int.reduceToNat]
        refine ⟨hrl, by omega, ⟨hsm, by omega, hrk, hi64⟩, hwr, by omega, hrq, by omega, ⟨hsm, by omega, hrk, hi64⟩, hrl, by omega, by omega, hwr2, hsr2, ?_⟩
        by_cases a : j2 = 0
        · simp only [a, if_true, eq_self, decide_true, guard_tf]; rfl
        · rw [if_neg a] at hsr2
          simp only [a, if_false, decide_self, guardW_bool]
          exact ⟨fun _ => ⟨hsr2, rfl⟩, fun _ => rfl⟩
      | false =>
        simp only [hql, d1, d2, decide_self, decide_false, joinW_eq, guard_tt, guard_tf, guard_ft, guard_ff, Int.reduceEq, Int.reduceLT, Int.reduceLE, decide_false, decide_true, Bool.not_false, Bool.not_true, Bool.not_not, not_true_eq_false, not_false_eq_true, true_implies, false_implies, implies_true, and_true, true_and, reduceCtorEq, Bool.and_self, Bool.or_self, Bool.and_true, Bool.true_and, Bool.false_eq_true, if_true, if_false, go_sem, Nat.reduceEqDiff, Nat.reduceLT, Nat.reduceAdd, Nat.reduceSub, Nat.reduceLeDiff, List.reduceReplicate, Int.reduceToNat, hm2, hwne2]
        simp only [Int.toNat_natCast, micro_Crash.C, mcrash_ok hsd2, cutI_nat hk2, hc3, fast_Slots.C, lamplighterref02_Numbers.C, p2, hset, joinW_eq, guard_tt, guard_tf, guard_ft, guard_ff, Int.reduceEq, Int.reduceLT, Int.reduceLE, decide_false, decide_true, Bool.not_false, Bool.not_true, Bool.not_not, not_true_eq_false, not_false_eq_true, true_implies, false_implies, implies_true, and_true, true_and, reduceCtorEq, Bool.and_self, Bool.or_self, Bool.and_true, Bool.true_and, Bool.false_eq_true, if_true, if_false, go_sem, Nat.reduceEqDiff, Nat.reduceLT, Nat.reduceAdd, Nat.reduceSub, Nat.reduceLeDiff, List.reduceReplicate, Int.reduceToNat]
        refine ⟨hrl, by omega, ⟨hsm, by omega, hrk, hi64⟩, hwr, by omega, hrq, by omega, ⟨hsm, by omega, hrk, hi64⟩, hrl, by omega, by omega, hwr2, hsr2, ?_⟩
        by_cases a : j2 = 0
        · simp only [a, if_true, eq_self, decide_true, guard_tf]; rfl
        · rw [if_neg a] at hsr2
          simp only [a, if_false, decide_self, guardW_bool]
          exact ⟨fun _ => ⟨hsr2, rfl⟩, fun _ => rfl⟩
theorem FastCuts_ok : Ok Try.prog FastCuts_ctx := ctx_ok (by simpa using ⟨lamplighterlaw06_awake.spec, fast_Cut.spec, fast_Swap.spec, lamplighterlaw06_unlike.spec, micro_Crash.spec, lamplighterlaw06_laid.spec, fast_Slots.spec, lamplighterref02_Numbers.spec⟩) (by simp) _
theorem FastCuts_law (l : List Int) (pos : Int) (ref : Int) (n : Int) (keep : Lst) (w_pos : (Lit.int .i64 pos).wf = true) (w_ref : (Lit.int .i64 ref).wf = true) (w_n : (Lit.int .u8 n).wf = true) (k_keep : keep.kind = (.int .i64)) (w_keep : wfL keep) (n_keep : keep.len ≤ maxLen) : funW FastCuts_ctx Try.f10 [(.sl false (.ints .i64 l)), (.int .i64 pos), (.int .i64 ref), (.int .u8 n), (.sl false keep)] [] Told := by
  obtain ⟨keep, rfl⟩ := gkind_ints k_keep
  rw [FastCuts_ctx, lamplighterlaw06_FastCuts.eq]
  exact FastCuts_vc l pos ref n keep w_pos w_ref w_n w_keep n_keep
end Lam
