/- What functions of the program come to, each proved from its code. -/
import Derived.Test.YtmbmfnmjjelmkabGreatLm7
set_option linter.unusedVariables false
set_option linter.unusedSimpArgs false
set_option linter.unnecessarySimpa false
set_option linter.unusedSectionVars false
open Nat (reduceEqDiff reduceAdd reduceSub reduceLeDiff)
open Int (reduceToNat reduceEq reduceLE reduceLT)
open List (reduceReplicate)
set_option maxRecDepth 20000
namespace Lam
open Go Go.Proofs
def dQ.loops : Nat → bX
 | 2 => ⟨[], [], [], [(4, none), (4, some [24, 28]), (2, none), (3, some [30, 33]), (2, none), (3, some [35, 38])], [], []⟩
 | 5 => ⟨[], [], [], [(3, none), (3, some [48, 51]), (2, none), (4, some [53, 57]), (2, none), (3, some [59, 62])], [], []⟩
 | 11 => ⟨[17], [false], [0, 1, 2, 9, 10, 12, 13, 14, 15], [(3, none), (3, some [84, 87])], [], []⟩
 | _ => ⟨[], [], [], [], [], []⟩
def dQ.L1 (c : Ctx) (J7 : AV → AV → AV → AV → AV → AV → AV → AV → List AObj → Prop) (K : AOut → List AObj → Prop) (lv : List AV) (h0 : List AObj) (n0 : Nat) (c0 : AV) (c1 : AV) (c2 : AV) (c9 : AV) (c10 : AV) (c12 : AV) (c13 : AV) (c14 : AV) (c15 : AV) : Prop :=
 ∃ I : Nat → List AV → List AObj → Prop, (∃ n, I n lv h0) ∧ ∀ n h, ∀ t17, I n [t17] h →
 runD (binD aB .lss t17 (.int .i64 2000)) h fun t83 h =>
 aJ (fun (J8 : AV → AV → List AObj → Prop) =>
 aT t83 true
 (runD (aC aI c13 3) h fun t85 h =>
 runD (fitD aB (aD h t85)) h fun t86 h =>
 runD (binD aB .neq t86 (.int .i64 8)) h fun t87 h =>
 J8 (.bool true) t87 h)
 (J8 (.bool false) .und h))
 (fun t84 t87 h => runD (bK t84 t87 (.bool false)) h fun t88 h =>
 aW t88
 (runD (fitD aN (aD h c15)) h fun t92 h =>
 runD (fitD aI (aD h c13)) h fun t93 h =>
 aQ false c (.fn (.func 19) [] []) [t92, t93] h (fun t94 h =>
 runD (aV t94 0) h fun t95 h =>
 runD (aV t94 1) h fun t96 h =>
 runH (aO aN h c15 t95) h fun _ h =>
 runH (aO aI h c13 t96) h fun _ h =>
 runD (binD aB .add t17 (.int .i64 1)) h fun t90 h =>
 (∃ m, m < n ∧ I m (AV.norms n0 h [t90]) (cJ n0 h)) ∧ AV.norms n0 h [c0, c1, c2, c9, c10, c12, c13, c14, c15] = [c0, c1, c2, c9, c10, c12, c13, c14, c15])
 (fun v h => K (.pan v) h))
 (J7 c0 c1 c2 c9 c10 c12 c13 c14 h))
def dQ.H (c : Ctx) (t0 : AV) (t1 : AV) (t2 : AV) (t3 : AV) (h : List AObj) (K : AOut → List AObj → Prop) : Prop :=
 aQ false c (.fn (.func 17) [] []) [] h (fun t20 h =>
 runD (lenD aM h t0) h fun t22 h =>
 runD (binD aB .gtr t22 (.int .i64 1000)) h fun t23 h =>
 aJ (fun (J1 : AV → AV → List AObj → Prop) =>
 aT t23 false
 (runD (lenD aM h t0) h fun t26 h =>
 runD (binD aB .rem t26 (.int .i64 16)) h fun t27 h =>
 runD (binD aB .neq t27 (.int .i64 0)) h fun t28 h =>
 J1 (.bool false) t28 h)
 (J1 (.bool true) .und h))
 (fun t24 t28 h => runD (bK t24 (.bool true) t28) h fun t29 h =>
 aJ (fun (J2 : AV → AV → List AObj → Prop) =>
 aT t29 false
 (runD (lenD bP h t1) h fun t32 h =>
 runD (binD aB .gtr t32 (.int .i64 21)) h fun t33 h =>
 J2 (.bool false) t33 h)
 (J2 (.bool true) .und h))
 (fun t30 t33 h => runD (bK t30 (.bool true) t33) h fun t34 h =>
 aJ (fun (J3 : AV → AV → List AObj → Prop) =>
 aT t34 false
 (runD (lenD bP h t2) h fun t37 h =>
 runD (binD aB .gtr t37 (.int .i64 21)) h fun t38 h =>
 J3 (.bool false) t38 h)
 (J3 (.bool true) .und h))
 (fun t35 t38 h => runD (bK t35 (.bool true) t38) h fun t39 h =>
 aW t39
 (K (.ret t20) h)
 (aQ false c (.fn (.func 26) [] []) [t0] h (fun t43 h =>
 runD (aV t43 0) h fun t44 h =>
 runD (aV t43 1) h fun t45 h =>
 runD (binD cM .neq t45 (.int .i64 0)) h fun t47 h =>
 aJ (fun (J4 : AV → AV → List AObj → Prop) =>
 aT t47 false
 (runD (lenD bW h t44) h fun t50 h =>
 runD (binD aB .gtr t50 (.int .i64 100)) h fun t51 h =>
 J4 (.bool false) t51 h)
 (J4 (.bool true) .und h))
 (fun t48 t51 h => runD (bK t48 (.bool true) t51) h fun t52 h =>
 aJ (fun (J5 : AV → AV → List AObj → Prop) =>
 aT t52 false
 (aQ false c (.fn (.func 23) [] []) [t0, t1] h (fun t56 h =>
 runD (binD aB .eql t56 (.int .i64 0)) h fun t57 h =>
 J5 (.bool false) t57 h)
 (fun v h => K (.pan v) h))
 (J5 (.bool true) .und h))
 (fun t53 t57 h => runD (bK t53 (.bool true) t57) h fun t58 h =>
 aJ (fun (J6 : AV → AV → List AObj → Prop) =>
 aT t58 false
 (aQ false c (.fn (.func 23) [] []) [t0, (.str [])] h (fun t61 h =>
 runD (binD aB .eql t61 (.int .i64 0)) h fun t62 h =>
 J6 (.bool false) t62 h)
 (fun v h => K (.pan v) h))
 (J6 (.bool true) .und h))
 (fun t59 t62 h => runD (bK t59 (.bool true) t62) h fun t63 h =>
 aW t63
 (K (.ret t20) h)
 (runD (binD lX .rem t3 (.int .u8 30)) h fun t66 h =>
 runD (jK h lX aB t66) h fun t67 h =>
 runD (binD aB .add (.int .i64 1) t67) h fun t68 h =>
 aQ false c (.fn (.func 18) [] []) [t0, t1, t2, t68] h (fun t74 h =>
 runD (aV t74 0) h fun t75 h =>
 runD (aV t74 1) h fun t76 h =>
 cP aI h fun t13 h =>
 runH (aO aI h t13 t75) h fun _ h =>
 aQ false c (.fn (.func 28) [] []) [t0] h (fun t79 h =>
 runD (aV t79 0) h fun t80 h =>
 runD (aV t79 1) h fun t81 h =>
 cP aN h fun t15 h =>
 runH (aO aN h t15 t80) h fun _ h =>
 aJ (fun (J7 : AV → AV → AV → AV → AV → AV → AV → AV → List AObj → Prop) =>
 dC [false] [(.int .i64 0)] h fun lv h => dQ.L1 c J7 K (AV.norms h.length h lv) (cJ h.length h) h.length (AV.norm h.length h t0) (AV.norm h.length h t1) (AV.norm h.length h t2) (AV.norm h.length h t20) (AV.norm h.length h t44) (AV.norm h.length h t68) (AV.norm h.length h t13) (AV.norm h.length h t76) (AV.norm h.length h t15))
 (fun t0 t1 t2 t9 t10 t12 t13 t14 h => aQ false c (.fn (.func 31) [] []) [t0, t1, t2] h (fun t100 h =>
 aQ false c (.fn (.func 31) [] []) [t0, (.str []), (.str [])] h (fun t102 h =>
 aJ (fun (J9 : AV → AV → List AObj → Prop) =>
 aT t9 true
 (runD (binD cM .eql t14 (.int .i64 0)) h fun t106 h =>
 J9 (.bool true) t106 h)
 (J9 (.bool false) .und h))
 (fun t104 t106 h => runD (bK t104 t106 (.bool false)) h fun t107 h =>
 aJ (fun (J10 : AV → AV → List AObj → Prop) =>
 aT t107 true
 (runD (aC aI t13 8) h fun t109 h =>
 runD (fitD bW (aD h t109)) h fun t110 h =>
 runD (lenD bW h t100) h fun t114 h =>
 runD (minD t12 t114) h fun t115 h =>
 runD (dX bW h t100 none (some t115) none) h fun t116 h =>
 aQ false c.noS (.fn (.func 20) [] []) [t110, t116] h (fun t117 h =>
 J10 (.bool true) t117 h)
 (fun _ _ => False))
 (J10 (.bool false) .und h))
 (fun t108 t117 h => runD (bK t108 t117 (.bool false)) h fun t118 h =>
 aJ (fun (J11 : AV → AV → List AObj → Prop) =>
 aT t118 true
 (aQ false c.noS (.fn (.func 30) [] []) [t102, t1, t2, (.int .i64 100)] h (fun t124 h =>
 aQ false c.noS (.fn (.func 20) [] []) [t100, t124] h (fun t125 h =>
 J11 (.bool true) t125 h)
 (fun _ _ => False))
 (fun _ _ => False))
 (J11 (.bool false) .und h))
 (fun t119 t125 h => runD (bK t119 t125 (.bool false)) h fun t126 h =>
 aJ (fun (J12 : AV → AV → List AObj → Prop) =>
 aT t126 true
 (aQ false c.noS (.fn (.func 20) [] []) [t102, t10] h (fun t130 h =>
 J12 (.bool true) t130 h)
 (fun _ _ => False))
 (J12 (.bool false) .und h))
 (fun t127 t130 h => runD (bK t127 t130 (.bool false)) h fun t131 h =>
 K (.ret t131) h)))))
 (fun v h => K (.pan v) h))
 (fun v h => K (.pan v) h)))
 (fun v h => K (.pan v) h))
 (fun v h => K (.pan v) h))))))
 (fun v h => K (.pan v) h))))))
 (fun v h => K (.pan v) h)
theorem dQ.eq (F : List (FuncId × aE)) (S : List (FuncId × Con)) (t0 t1 t2 t3 : AV) (h : List AObj) (K : AOut → List AObj → Prop) : funW (ctx F S dQ.loops) Tryz.f10 [t0, t1, t2, t3] h K = dQ.H (ctx F S dQ.loops) t0 t1 t2 t3 h K := by kernel_rfl
end Lam
namespace Lam
open Go Go.Proofs
abbrev sC : Ctx := ctx [(17, cD.C), (26, eI.C), (18, eE.C), (23, cA.C), (28, fV.C), (19, eK.C), (31, cC.C), (30, cF.C), (20, bZ.C)] [] dQ.loops
set_option maxHeartbeats 1000000 in
theorem aHW (words : List Int) (lo : aY) (hi : aY) (limit : Int) (w_words : wfL (.ints .i64 words)) (n_words : words.length ≤ maxLen) (w_limit : (Lit.int .u8 limit).wf = true) : dQ.H sC (.sl false (.ints .i64 words)) (.str lo) (.str hi) (.int .u8 limit) [] Told := by
 unfold dQ.H
 simp (maxSteps := 4000000) only [go_sem, reduceEqDiff, Nat.reduceLT, reduceAdd, reduceSub, reduceLeDiff, reduceReplicate, reduceToNat, cD.C, eI.C, eE.C, cA.C, fV.C, eK.C, cC.C, cF.C, bZ.C]
 have hi64 := aIl w_words
 have hu := aSe w_limit
 have hs : ¬ 1000 < (words.length : Int) → iE words := fun h => ⟨by omega, hi64⟩
 refine ⟨fun _ => by decide, fun _ => rfl, fun hg => ?_⟩
 simp only [Bool.or_eq_false_iff, decide_eq_false_iff_not, Bool.not_eq_false', decide_eq_true_eq] at hg
 obtain ⟨⟨⟨g1, g2⟩, g3⟩, g4⟩ := hg
 have hS := hs g1
 have hw : words.length ≤ 1000 := by omega
 have h16 : words.length % 16 = 0 := by rw [Int.tmod_eq_emod_of_nonneg (by omega)] at g2; omega
 have hr := iE.roomy hS
 refine ⟨hS, ?_⟩
 obtain ⟨P, e, hp, hrP, hl⟩ := aFi hw
 by_cases h1 : e = 0
 rotate_left
 · simp only [hp, h1, decide_false, aA, aA, gq, reduceEq, reduceLT, reduceLE, implies_true, reduceCtorEq, if_true, if_false, go_sem, reduceEqDiff, Nat.reduceLT, reduceAdd, reduceSub, reduceLeDiff, reduceReplicate, reduceToNat]
   exact rfl
 subst h1
 by_cases h2 : P.length ≤ 100
 rotate_left
 · have d1 : decide (100 < (P.length : Int)) = true := decide_eq_true (by omega)
   simp only [hp, d1, decide_false, decide_true, aA, aA, gq, reduceEq, reduceLT, reduceLE, implies_true, reduceCtorEq, if_true, if_false, go_sem, reduceEqDiff, Nat.reduceLT, reduceAdd, reduceSub, reduceLeDiff, reduceReplicate, reduceToNat]
   exact rfl
 have d1 : decide (100 < (P.length : Int)) = false := decide_eq_false (by omega)
 by_cases h4 : sB words lo = 0
 · simp only [hp, d1, h4, decide_false, decide_true, aA, aA, gq, reduceEq, reduceLT, reduceLE, implies_true, reduceCtorEq, if_true, if_false, go_sem, reduceEqDiff, Nat.reduceLT, reduceAdd, reduceSub, reduceLeDiff, reduceReplicate, reduceToNat]
   exact ⟨hS, rfl⟩
 by_cases h5 : sB words [] = 0
 · simp only [hp, d1, h4, h5, decide_false, decide_true, aA, aA, gq, reduceEq, reduceLT, reduceLE, implies_true, reduceCtorEq, if_true, if_false, go_sem, reduceEqDiff, Nat.reduceLT, reduceAdd, reduceSub, reduceLeDiff, reduceReplicate, reduceToNat]
   exact ⟨hS, hS, rfl⟩
 obtain ⟨l, hlA, hPl⟩ := hl rfl
 obtain ⟨K, hK, hK1, hK2⟩ : ∃ K : Nat, IntKind.i64.wrap (1 + IntKind.i64.wrap (limit.tmod 30)) = (K : Int) ∧ 1 ≤ K ∧ K ≤ 30 := by
   rw [Int.tmod_eq_emod_of_nonneg hu.1, w64 (n := limit % 30) (by omega) (by omega), w64 (by omega) (by omega)]
   exact ⟨(1 + limit % 30).toNat, by omega, by omega, by omega⟩
 have hbg : jW words lo hi K = .tup [(sc0 words lo hi K).V, .int .i64 0] := by unfold jW; rw [if_neg (by omega), if_neg (by omega)]
 have e1 := wB (hi := hi) hw hlA h4
 have e2 := wB (hi := []) hw hlA h5
 rw [← hPl] at e1 e2
 rw [aLv h2] at e2
 have hll := (lU (nZ hlA).1).2.2.2.1
 have hfound := aDO (hi := hi) (limit := (K : Int)) hlA (by omega) (aDM hlA h4) (by omega) 2000 (by omega)
 rw [← hPl] at hfound
 have hcut : nJ P lo hi K = (nJ P lo hi 100).take K := by
   rw [xG h2]; rfl
 have hfew := aEk words lo hi (limit := (K : Int)) (by omega)
 have hst : ∀ k, _ := fun k => aFm hw hi64 _ (zM (w := words) hfew k)
 have hnx : ∀ k, gX words (seqC words (sc0 words lo hi K) k) = seqC words (sc0 words lo hi K) (k + 1) := fun _ => rfl
 obtain ⟨N, hN⟩ : ∃ N : Nat, N = 2000 := ⟨_, rfl⟩
 rw [← hN] at hfound
 have hend : ∀ k, k ≤ N → (seqC words (sc0 words lo hi K) k).phase = 8 → seqC words (sc0 words lo hi K) N = seqC words (sc0 words lo hi K) k := fun k hk h => zL h hk
 have h0 : seqC words (sc0 words lo hi K) 0 = sc0 words lo hi K := rfl
 have hnm := aIA hw h16
 have hX : (pT words lo hi).length ≤ 100 := wV words lo hi
 have hXr : nJ P lo hi 100 = pT words lo hi := e1.symm
 rw [hXr] at hcut
 rw [hcut] at hfound
 generalize seqC words (sc0 words lo hi K) = f at *
 generalize sc0 words lo hi K = r0 at *
 generalize hXd : pT words lo hi = X at *
 clear hfew e1
 obtain ⟨Z, hZ⟩ : ∃ Z, f N = Z := ⟨_, rfl⟩
 rw [hZ] at hend hfound
 obtain ⟨z1, z2, z3, z4, z5, z6, ⟨v1, v2, v3, v4, v5⟩, z7, z8⟩ := Z
 simp only at hfound
 obtain ⟨rfl, rfl⟩ := hfound
 obtain ⟨r1, r2, r3, r4, r5, r6, ⟨s1, s2, s3, s4, s5⟩, r7, r8⟩ := r0
 simp only [hp, d1, h4, h5, hK, hbg, hnm, memV, Sc.V, Sk.V, decide_false, decide_true, aA, aA, gq, reduceEq, reduceLT, reduceLE, implies_true, reduceCtorEq, if_true, if_false, go_sem, reduceEqDiff, Nat.reduceLT, reduceAdd, reduceSub, reduceLeDiff, reduceReplicate, reduceToNat]
 refine ⟨hS, hS, hr, hr, ?_⟩
 have hmn : decide (List.take K X = List.take (if (X.length : Int) < (K : Int) then (X.length : Int) else (K : Int)).toNat X) = true := decide_eq_true (by
   split
   · rw [List.take_of_length_le (by omega), Int.toNat_natCast, List.take_length]
   · rfl)
 unfold dQ.L1
 refine kV (σ := Nat) (fun k => .int .i64 k) (fun k => [.box (f k).V, .box (memV words words [])]) (fun k => N - k) (fun k => k ≤ N) 0 rfl (by rw [h0]; rfl) (Nat.zero_le _) ?_
 intro I back k hk
 simp only
 obtain ⟨hst, hsv⟩ := hst k
 have hb : k < N → _ := fun h => @back (N - k) _ _ (k + 1) (by omega) rfl rfl (by omega)
 have hend := hend k hk
 rw [hnx] at hsv
 clear back hnx
 by_cases hkN : k < N
 · have d2 : decide ((k : Int) < 2000) = true := decide_eq_true (by omega)
   generalize f (k + 1) = y at *
   generalize f k = x at *
   obtain ⟨x1, x2, x3, x4, x5, x6, ⟨y1, y2, y3, y4, y5⟩, x7, x8⟩ := x
   simp only at hst hend
   by_cases h8 : x4 = 8
   · subst h8
     have hend := hend rfl
     clear hb hst hsv
     simp only [Sc.mk.injEq, Sk.mk.injEq] at hend
     obtain ⟨rfl, rfl, rfl, _, rfl, rfl, ⟨rfl, rfl, rfl, rfl, rfl⟩, rfl, rfl⟩ := hend
     simp only [cC.C, cF.C, bZ.C, hXd, e2, hXr, Sc.V, Sk.V, memV, d2, decide_false, decide_true, aA, aA, gq, reduceEq, reduceLT, reduceLE, implies_true, reduceCtorEq, if_true, if_false, go_sem, reduceEqDiff, Nat.reduceLT, reduceAdd, reduceSub, reduceLeDiff, reduceReplicate, reduceToNat]
     refine ⟨⟨hw, h16, hi64, by omega, by omega⟩, ⟨hw, h16, hi64⟩, ⟨by split <;> omega, by split <;> omega⟩, by unfold roomy; rw [List.length_take]; omega, ?_⟩
     rw [hmn, sR]
     exact ⟨by omega, by unfold roomy; omega, hrP, rfl⟩
   · have hb := hb hkN
     obtain ⟨a1, a2, a3, a4, a5, a6, ⟨b1, b2, b3, b4, b5⟩, a7, a8⟩ := y
     simp only [eK.C, hsv, Mm.V, Sc.V, Sk.V, memV, d2, h8, eH (show k < 4611686018427387904 by omega), decide_false, decide_true, aA, aA, gq, reduceEq, reduceLT, reduceLE, implies_true, reduceCtorEq, if_true, if_false, go_sem, reduceEqDiff, Nat.reduceLT, reduceAdd, reduceSub, reduceLeDiff, reduceReplicate, reduceToNat] at hb ⊢
     exact ⟨hst, hb⟩
 · obtain rfl : k = N := by omega
   have d2 : decide ((k : Int) < 2000) = false := decide_eq_false (by omega)
   clear hb hend hst hsv
   rw [hZ]
   simp only [cC.C, cF.C, bZ.C, hXd, e2, hXr, Sc.V, Sk.V, memV, d2, decide_false, decide_true, aA, aA, gq, reduceEq, reduceLT, reduceLE, implies_true, reduceCtorEq, if_true, if_false, go_sem, reduceEqDiff, Nat.reduceLT, reduceAdd, reduceSub, reduceLeDiff, reduceReplicate, reduceToNat]
   refine ⟨⟨hw, h16, hi64, by omega, by omega⟩, ⟨hw, h16, hi64⟩, ⟨by split <;> omega, by split <;> omega⟩, by unfold roomy; rw [List.length_take]; omega, ?_⟩
   rw [hmn, sR]
   exact ⟨by omega, by unfold roomy; omega, hrP, rfl⟩
theorem ScanMore_ok : Ok Tryz.prog sC := bR (by simpa using ⟨cD.spec, eI.spec, eE.spec, cA.spec, fV.spec, eK.spec, cC.spec, cF.spec, bZ.spec⟩) (by simp) _
theorem ScanMore_law (words : Lst) (lo : aY) (hi : aY) (limit : Int) (k_words : words.kind = (.int .i64)) (w_words : wfL words) (n_words : words.len ≤ maxLen) (w_limit : (Lit.int .u8 limit).wf = true) : funW sC Tryz.f10 [(.sl false words), (.str lo), (.str hi), (.int .u8 limit)] [] Told := by
 obtain ⟨words, rfl⟩ := aDr k_words
 rw [sC, dQ.eq]
 exact aHW words lo hi limit w_words n_words w_limit
end Lam
