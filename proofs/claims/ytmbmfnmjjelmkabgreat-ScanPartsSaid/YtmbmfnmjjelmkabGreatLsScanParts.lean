/- What functions of the program come to, each proved from its code. -/
import Derived.Test.YtmbmfnmjjelmkabGreatLm7
set_option linter.unusedVariables false
set_option linter.unusedSimpArgs false
set_option linter.unnecessarySimpa false
set_option linter.unusedSectionVars false
open Nat (reduceEqDiff reduceAdd reduceSub reduceLeDiff)
open Int (reduceToNat reduceEq reduceLE reduceLT)
open List (reduceReplicate)
set_option maxRecDepth 20000
namespace Lam
open Go Go.Proofs
def eX.loops : Nat → bX
 | 2 => ⟨[], [], [], [(4, none), (4, some [19, 23]), (2, none), (3, some [25, 28]), (2, none), (3, some [30, 33]), (2, none), (3, some [35, 38]), (2, none), (3, some [40, 43]), (2, none), (3, some [45, 48]), (2, none), (2, some [50, 52])], [], []⟩
 | 5 => ⟨[], [], [], [(3, none), (3, some [62, 65]), (2, none), (4, some [67, 71]), (2, none), (4, some [73, 77])], [], []⟩
 | 10 => ⟨[], [], [], [(2, none), (7, some [93, 100])], [], []⟩
 | _ => ⟨[], [], [], [], [], []⟩
def eX.H (c : Ctx) (t0 : AV) (t1 : AV) (t2 : AV) (t3 : AV) (h : List AObj) (K : AOut → List AObj → Prop) : Prop :=
 aQ false c (.fn (.func 17) [] []) [] h (fun t15 h =>
 runD (lenD aM h t0) h fun t17 h =>
 runD (binD aB .gtr t17 (.int .i64 1000)) h fun t18 h =>
 aJ (fun (J1 : AV → AV → List AObj → Prop) =>
 aT t18 false
 (runD (lenD aM h t0) h fun t21 h =>
 runD (binD aB .rem t21 (.int .i64 16)) h fun t22 h =>
 runD (binD aB .neq t22 (.int .i64 0)) h fun t23 h =>
 J1 (.bool false) t23 h)
 (J1 (.bool true) .und h))
 (fun t19 t23 h => runD (bK t19 (.bool true) t23) h fun t24 h =>
 aJ (fun (J2 : AV → AV → List AObj → Prop) =>
 aT t24 false
 (runD (lenD bP h t1) h fun t27 h =>
 runD (binD aB .gtr t27 (.int .i64 21)) h fun t28 h =>
 J2 (.bool false) t28 h)
 (J2 (.bool true) .und h))
 (fun t25 t28 h => runD (bK t25 (.bool true) t28) h fun t29 h =>
 aJ (fun (J3 : AV → AV → List AObj → Prop) =>
 aT t29 false
 (runD (lenD bP h t2) h fun t32 h =>
 runD (binD aB .gtr t32 (.int .i64 21)) h fun t33 h =>
 J3 (.bool false) t33 h)
 (J3 (.bool true) .und h))
 (fun t30 t33 h => runD (bK t30 (.bool true) t33) h fun t34 h =>
 aJ (fun (J4 : AV → AV → List AObj → Prop) =>
 aT t34 false
 (runD (lenD bP h t3) h fun t37 h =>
 runD (binD aB .gtr t37 (.int .i64 21)) h fun t38 h =>
 J4 (.bool false) t38 h)
 (J4 (.bool true) .und h))
 (fun t35 t38 h => runD (bK t35 (.bool true) t38) h fun t39 h =>
 aJ (fun (J5 : AV → AV → List AObj → Prop) =>
 aT t39 false
 (runD (binD bP .gtr t1 t2) h fun t43 h =>
 J5 (.bool false) t43 h)
 (J5 (.bool true) .und h))
 (fun t40 t43 h => runD (bK t40 (.bool true) t43) h fun t44 h =>
 aJ (fun (J6 : AV → AV → List AObj → Prop) =>
 aT t44 false
 (runD (binD bP .gtr t2 t3) h fun t48 h =>
 J6 (.bool false) t48 h)
 (J6 (.bool true) .und h))
 (fun t45 t48 h => runD (bK t45 (.bool true) t48) h fun t49 h =>
 aJ (fun (J7 : AV → AV → List AObj → Prop) =>
 aT t49 false
 (runD (binD bP .eql t2 (.str [])) h fun t52 h =>
 J7 (.bool false) t52 h)
 (J7 (.bool true) .und h))
 (fun t50 t52 h => runD (bK t50 (.bool true) t52) h fun t53 h =>
 aW t53
 (K (.ret t15) h)
 (aQ false c (.fn (.func 26) [] []) [t0] h (fun t57 h =>
 runD (aV t57 0) h fun t58 h =>
 runD (aV t57 1) h fun t59 h =>
 runD (binD cM .neq t59 (.int .i64 0)) h fun t61 h =>
 aJ (fun (J8 : AV → AV → List AObj → Prop) =>
 aT t61 false
 (runD (lenD bW h t58) h fun t64 h =>
 runD (binD aB .gtr t64 (.int .i64 100)) h fun t65 h =>
 J8 (.bool false) t65 h)
 (J8 (.bool true) .und h))
 (fun t62 t65 h => runD (bK t62 (.bool true) t65) h fun t66 h =>
 aJ (fun (J9 : AV → AV → List AObj → Prop) =>
 aT t66 false
 (aQ false c (.fn (.func 23) [] []) [t0, t1] h (fun t70 h =>
 runD (binD aB .eql t70 (.int .i64 0)) h fun t71 h =>
 J9 (.bool false) t71 h)
 (fun v h => K (.pan v) h))
 (J9 (.bool true) .und h))
 (fun t67 t71 h => runD (bK t67 (.bool true) t71) h fun t72 h =>
 aJ (fun (J10 : AV → AV → List AObj → Prop) =>
 aT t72 false
 (aQ false c (.fn (.func 23) [] []) [t0, t2] h (fun t76 h =>
 runD (binD aB .eql t76 (.int .i64 0)) h fun t77 h =>
 J10 (.bool false) t77 h)
 (fun v h => K (.pan v) h))
 (J10 (.bool true) .und h))
 (fun t73 t77 h => runD (bK t73 (.bool true) t77) h fun t78 h =>
 aW t78
 (K (.ret t15) h)
 (aQ false c (.fn (.func 31) [] []) [t0, t1, t2] h (fun t83 h =>
 aQ false c (.fn (.func 31) [] []) [t0, t2, t3] h (fun t87 h =>
 aQ false c (.fn (.func 31) [] []) [t0, t1, t3] h (fun t91 h =>
 aJ (fun (J11 : AV → AV → List AObj → Prop) =>
 aT t15 true
 (runD (eN bW 0 [] h.length) h fun t94 h =>
 jC (fI bW h t94 t83 h.length) (fW bW h t94 t83) h fun t96 h =>
 jC (fI bW h t96 t87 h.length) (fW bW h t96 t87) h fun t98 h =>
 aQ false c (.fn (.func 20) [] []) [t98, t91] h (fun t100 h =>
 J11 (.bool true) t100 h)
 (fun v h => K (.pan v) h))
 (J11 (.bool false) .und h))
 (fun t93 t100 h => runD (bK t93 t100 (.bool false)) h fun t101 h =>
 K (.ret t101) h))
 (fun v h => K (.pan v) h))
 (fun v h => K (.pan v) h))
 (fun v h => K (.pan v) h))))))
 (fun v h => K (.pan v) h))))))))))
 (fun v h => K (.pan v) h)
theorem eX.eq (F : List (FuncId × aE)) (S : List (FuncId × Con)) (t0 t1 t2 t3 : AV) (h : List AObj) (K : AOut → List AObj → Prop) : funW (ctx F S eX.loops) Tryz.f9 [t0, t1, t2, t3] h K = eX.H (ctx F S eX.loops) t0 t1 t2 t3 h K := by kernel_rfl
end Lam
namespace Lam
open Go Go.Proofs
abbrev qQ : Ctx := ctx [(17, cD.C), (26, eI.C), (23, cA.C), (31, cC.C), (20, bZ.C)] [] eX.loops
set_option maxHeartbeats 1000000 in
theorem aHf (words : List Int) (a : aY) (b : aY) (c : aY) (w_words : wfL (.ints .i64 words)) (n_words : words.length ≤ maxLen) : eX.H qQ (.sl false (.ints .i64 words)) (.str a) (.str b) (.str c) [] Told := by
 unfold eX.H
 simp (maxSteps := 4000000) only [go_sem, reduceEqDiff, Nat.reduceLT, reduceAdd, reduceSub, reduceLeDiff, reduceReplicate, reduceToNat, cD.C, eI.C, cA.C, cC.C, bZ.C]
 have hi64 := aIl w_words
 have hs : ¬ 1000 < (words.length : Int) → iE words := fun h => ⟨by omega, hi64⟩
 refine ⟨fun _ => by decide, fun _ => rfl, fun hg => ?_⟩
 simp only [Bool.or_eq_false_iff, decide_eq_false_iff_not, Bool.not_eq_false', decide_eq_true_eq] at hg
 obtain ⟨⟨⟨⟨⟨⟨⟨g1, g2⟩, g3⟩, g4⟩, g5⟩, g6⟩, g7⟩, g8⟩ := hg
 have hS := hs g1
 have hw : words.length ≤ 1000 := by omega
 have h16 : words.length % 16 = 0 := by rw [Int.tmod_eq_emod_of_nonneg (by omega)] at g2; omega
 refine ⟨hS, ?_⟩
 obtain ⟨P, e, hp, hrP, hl⟩ := aFi hw
 by_cases h1 : e = 0
 rotate_left
 · simp only [hp, h1, decide_false, aA, aA, gq, reduceEq, reduceLT, reduceLE, implies_true, reduceCtorEq, if_true, if_false, go_sem, reduceEqDiff, Nat.reduceLT, reduceAdd, reduceSub, reduceLeDiff, reduceReplicate, reduceToNat]
   exact rfl
 subst h1
 by_cases h2 : P.length ≤ 100
 rotate_left
 · have d1 : decide (100 < (P.length : Int)) = true := decide_eq_true (by omega)
   simp only [hp, d1, decide_false, decide_true, aA, aA, gq, reduceEq, reduceLT, reduceLE, implies_true, reduceCtorEq, if_true, if_false, go_sem, reduceEqDiff, Nat.reduceLT, reduceAdd, reduceSub, reduceLeDiff, reduceReplicate, reduceToNat]
   exact rfl
 have d1 : decide (100 < (P.length : Int)) = false := decide_eq_false (by omega)
 by_cases h4 : sB words a = 0
 · simp only [hp, d1, h4, decide_false, decide_true, aA, aA, gq, reduceEq, reduceLT, reduceLE, implies_true, reduceCtorEq, if_true, if_false, go_sem, reduceEqDiff, Nat.reduceLT, reduceAdd, reduceSub, reduceLeDiff, reduceReplicate, reduceToNat]
   exact ⟨hS, rfl⟩
 by_cases h5 : sB words b = 0
 · simp only [hp, d1, h4, h5, decide_false, decide_true, aA, aA, gq, reduceEq, reduceLT, reduceLE, implies_true, reduceCtorEq, if_true, if_false, go_sem, reduceEqDiff, Nat.reduceLT, reduceAdd, reduceSub, reduceLeDiff, reduceReplicate, reduceToNat]
   exact ⟨hS, hS, rfl⟩
 obtain ⟨l, hlA, hPl⟩ := hl rfl
 have e1 := wB (hi := b) hw hlA h4
 have e2 := wB (hi := c) hw hlA h5
 have e3 := wB (hi := c) hw hlA h4
 rw [← hPl] at e1 e2 e3
 rw [xG h2] at e1 e2 e3
 have hcat : pT words a b ++ pT words b c = pT words a c := by
   rw [e1, e2, e3]
   refine aBR g6 g7 g8 ?_
   rw [hPl]; exact aJQ hlA
 have l1 := wV words a b
 have l2 := wV words b c
 have l3 := wV words a c
 clear e1 e2 e3
 generalize pT words a b = A at *
 generalize pT words b c = B at *
 generalize pT words a c = C at *
 have hrA : roomy A.length := by unfold roomy; omega
 have hrAB : roomy (A ++ B).length := by rw [hcat]; unfold roomy; omega
 have hrC : roomy C.length := by unfold roomy; omega
 simp only [hp, d1, h4, h5, bZ.C, hcat, decide_false, decide_true, aA, aA, gq, reduceEq, reduceLT, reduceLE, implies_true, reduceCtorEq, if_true, if_false, go_sem, reduceEqDiff, Nat.reduceLT, reduceAdd, reduceSub, reduceLeDiff, reduceReplicate, reduceToNat]
 exact ⟨hS, hS, ⟨hw, h16, hi64, by omega, by omega⟩, ⟨hw, h16, hi64, by omega, by omega⟩, ⟨hw, h16, hi64, by omega, by omega⟩, hrA, hrC, hrC, rfl⟩
theorem ScanParts_ok : Ok Tryz.prog qQ := bR (by simpa using ⟨cD.spec, eI.spec, cA.spec, cC.spec, bZ.spec⟩) (by simp) _
theorem ScanParts_law (words : Lst) (a : aY) (b : aY) (c : aY) (k_words : words.kind = (.int .i64)) (w_words : wfL words) (n_words : words.len ≤ maxLen) : funW qQ Tryz.f9 [(.sl false words), (.str a), (.str b), (.str c)] [] Told := by
 obtain ⟨words, rfl⟩ := aDr k_words
 rw [qQ, eX.eq]
 exact aHf words a b c w_words n_words
end Lam
