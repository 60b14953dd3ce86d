/- What functions of the program come to, each proved from its code. -/
import Derived.Test.YtmbmfnmjjelmkabGreatLm5
set_option linter.unusedVariables false
set_option linter.unusedSimpArgs false
set_option linter.unnecessarySimpa false
set_option linter.unusedSectionVars false
open Nat (reduceEqDiff reduceAdd reduceSub reduceLeDiff)
open Int (reduceToNat reduceEq reduceLE reduceLT)
open List (reduceReplicate)
set_option maxRecDepth 20000
namespace Lam
open Go Go.Proofs
def gE.loops : Nat → bW
 | 2 => ⟨[], [], [], [(3, none), (2, some [17, 19])], [], []⟩
 | _ => ⟨[], [], [], [], [], []⟩
def gE.H (c : Ctx) (t0 : AV) (t1 : AV) (h : List AObj) (K : AOut → List AObj → Prop) : Prop :=
 cQ bZ h fun t4 h =>
 aR false c (.fn (.func 46) [] []) [t0, t1] h (fun t12 h =>
 runD (aW t12 0) h fun t13 h =>
 runD (aW t12 1) h fun t14 h =>
 cQ bA h fun t6 h =>
 runH (aP bA h t6 t13) h fun _ h =>
 runD (binD cN .neq t14 (.int .i64 0)) h fun t16 h =>
 aM (fun (J1 : AV → AV → List AObj → Prop) =>
 aX t16 false
 (runD (binD aB .geq t1 (.int .i64 256)) h fun t19 h =>
 J1 (.bool false) t19 h)
 (J1 (.bool true) .und h))
 (fun t17 t19 h => runD (bO t17 (.bool true) t19) h fun t20 h =>
 aU t20
 (runD (gS bZ []) h fun t21 h =>
 runH (aP bZ h t4 t21) h fun _ h =>
 cT (fitD bZ (aD h t4)) fun r0 => K (.ret (.tup [r0, (.int .i64 90)])) h)
 (runD (aC bA t6 1) h fun t23 h =>
 runD (fitD aB (aD h t23)) h fun t24 h =>
 runD (gS bZ [(0, t1), (1, t24)]) h fun t25 h =>
 cQ bZ h fun t8 h =>
 runH (aP bZ h t8 t25) h fun _ h =>
 runD (fitD bZ (aD h t8)) h fun t26 h =>
 aR false c (.fn (.func 67) [] []) [t26] h (fun t27 h =>
 aM (fun (J2 : List AObj → Prop) =>
 aU t27
 (runD (aC bZ t8 2) h fun t28 h =>
 runH (aP aB h t28 (.int .i64 12)) h fun _ h =>
 J2 h)
 (J2 h))
 (fun h => runD (fitD bZ (aD h t8)) h fun t29 h =>
 runH (aP bZ h t4 t29) h fun _ h =>
 cT (fitD bZ (aD h t4)) fun r0 => K (.ret (.tup [r0, (.int .i64 0)])) h))
 (fun v h => K (.pan v) h))))
 (fun v h => K (.pan v) h)
def hG.loops : Nat → bW
 | 2 => ⟨[], [], [], [(4, none), (3, some [12, 15]), (2, none), (6, some [17, 23])], [], []⟩
 | 4 => ⟨[], [], [], [(3, none), (2, some [33, 35])], [], []⟩
 | _ => ⟨[], [], [], [], [], []⟩
def hG.H (c : Ctx) (t0 : AV) (t1 : AV) (h : List AObj) (K : AOut → List AObj → Prop) : Prop :=
 boxW bZ t1 h fun t3 h =>
 cQ bZ h fun t4 h =>
 runD (aC bZ t3 0) h fun t9 h =>
 runD (fitD aB (aD h t9)) h fun t10 h =>
 runD (binD aB .geq t10 (.int .i64 0)) h fun t11 h =>
 aM (fun (J1 : AV → AV → List AObj → Prop) =>
 aX t11 true
 (runD (aC bZ t3 0) h fun t13 h =>
 runD (fitD aB (aD h t13)) h fun t14 h =>
 runD (binD aB .lss t14 (.int .i64 256)) h fun t15 h =>
 J1 (.bool true) t15 h)
 (J1 (.bool false) .und h))
 (fun t12 t15 h => runD (bO t12 t15 (.bool false)) h fun t16 h =>
 aM (fun (J2 : AV → AV → List AObj → Prop) =>
 aX t16 true
 (runD (aC bZ t3 0) h fun t18 h =>
 runD (fitD aB (aD h t18)) h fun t19 h =>
 runD (lenD aK h t0) h fun t21 h =>
 runD (binD aB .quo t21 (.int .i64 16)) h fun t22 h =>
 runD (binD aB .lss t19 t22) h fun t23 h =>
 J2 (.bool true) t23 h)
 (J2 (.bool false) .und h))
 (fun t17 t23 h => runD (bO t17 t23 (.bool false)) h fun t24 h =>
 aM (fun (J3 : AV → List AObj → Prop) =>
 aU t24
 (runD (aC bZ t3 0) h fun t25 h =>
 runD (fitD aB (aD h t25)) h fun t26 h =>
 runD (binD aB .mul (.int .i64 16) t26) h fun t27 h =>
 runD (aC bZ t3 2) h fun t28 h =>
 runD (fitD aB (aD h t28)) h fun t29 h =>
 aR false c (.fn (.func 68) [] []) [t27, t29] h (fun t30 h =>
 J3 t30 h)
 (fun v h => K (.pan v) h))
 (J3 (.int .i64 (-1)) h))
 (fun t5 h => runD (aC bZ t3 4) h fun t31 h =>
 runD (fitD mP (aD h t31)) h fun t32 h =>
 aM (fun (J4 : AV → AV → List AObj → Prop) =>
 aX t32 false
 (runD (binD aB .lss t5 (.int .i64 0)) h fun t35 h =>
 J4 (.bool false) t35 h)
 (J4 (.bool true) .und h))
 (fun t33 t35 h => runD (bO t33 (.bool true) t35) h fun t36 h =>
 aU t36
 (runD (fitD bZ (aD h t3)) h fun t37 h =>
 runH (aP bZ h t4 t37) h fun _ h =>
 cT (fitD bZ (aD h t4)) fun r0 => K (.ret r0) h)
 (runD (fitD bZ (aD h t3)) h fun t38 h =>
 runD (aH aK h t0 t5) h fun t41 h =>
 runD (fitD aB (aD h t41)) h fun t42 h =>
 runD (gS eW [(0, t38), (1, t42)]) h fun t43 h =>
 boxW eW t43 h fun t44 h =>
 runD (aC bZ t3 3) h fun t46 h =>
 runD (fitD aK (aD h t46)) h fun t47 h =>
 aR false c (.fn (.func 34) [] []) [t47] h (fun t48 h =>
 runD (cV t44) h fun t49 h =>
 runD (aC eW t49 0) h fun t50 h =>
 runD (aC bZ t50 3) h fun t51 h =>
 runH (aP aK h t51 t48) h fun _ h =>
 runD (aC bZ t3 3) h fun t52 h =>
 runD (fitD aK (aD h t52)) h fun t53 h =>
 runD (lenD aK h t53) h fun t54 h =>
 runD (cV t44) h fun t56 h =>
 runD (aC eW t56 1) h fun t57 h =>
 runD (fitD aB (aD h t57)) h fun t58 h =>
 runD (binD aB .gtr t58 (.int .i64 0)) h fun t59 h =>
 aM (fun (J5 : AV → AV → List AObj → Prop) =>
 aX t59 true
 (runD (binD aB .eql t54 (.int .i64 0)) h fun t62 h =>
 aM (fun (J6 : AV → AV → List AObj → Prop) =>
 aX t62 false
 (runD (aC bZ t3 3) h fun t64 h =>
 runD (fitD aK (aD h t64)) h fun t65 h =>
 runD (binD aB .sub t54 (.int .i64 1)) h fun t67 h =>
 runD (aH aK h t65 t67) h fun t68 h =>
 runD (fitD aB (aD h t68)) h fun t69 h =>
 runD (cV t44) h fun t71 h =>
 runD (aC eW t71 1) h fun t72 h =>
 runD (fitD aB (aD h t72)) h fun t73 h =>
 runD (binD aB .neq t69 t73) h fun t74 h =>
 J6 (.bool false) t74 h)
 (J6 (.bool true) .und h))
 (fun t63 t74 h => runD (bO t63 (.bool true) t74) h fun t75 h =>
 J5 (.bool true) t75 h))
 (J5 (.bool false) .und h))
 (fun t60 t75 h => runD (bO t60 t75 (.bool false)) h fun t76 h =>
 aM (fun (J7 : List AObj → Prop) =>
 aU t76
 (runD (cV t44) h fun t79 h =>
 runD (aC eW t79 0) h fun t80 h =>
 runD (aC bZ t80 3) h fun t81 h =>
 runD (fitD aK (aD h t81)) h fun t82 h =>
 runD (cV t44) h fun t84 h =>
 runD (aC eW t84 1) h fun t85 h =>
 runD (fitD aB (aD h t85)) h fun t86 h =>
 runD (eO aK 1 [(0, t86)] h.length) h fun t87 h =>
 jM (fT aK h t82 t87 h.length) (gH aK h t82 t87) h fun t88 h =>
 runD (cV t44) h fun t89 h =>
 runD (aC eW t89 0) h fun t90 h =>
 runD (aC bZ t90 3) h fun t91 h =>
 runH (aP aK h t91 t88) h fun _ h =>
 J7 h)
 (J7 h))
 (fun h => runD (fitD bZ (aD h t3)) h fun t94 h =>
 aR false c (.fn (.func 67) [] []) [t94] h (fun t95 h =>
 aM (fun (J8 : AV → List AObj → Prop) =>
 aU t95
 (J8 (.fn (.func 70) [t44] []) h)
 (J8 (.fn (.func 69) [t44] []) h))
 (fun t8 h => aR false c t8 [] h (fun t99 h =>
 runD (cV t44) h fun t101 h =>
 runD (aC eW t101 0) h fun t102 h =>
 runD (fitD bZ (aD h t102)) h fun t103 h =>
 runH (aP bZ h t4 t103) h fun _ h =>
 cT (fitD bZ (aD h t4)) fun r0 => K (.ret r0) h)
 (fun v h => K (.pan v) h)))
 (fun v h => K (.pan v) h))))
 (fun v h => K (.pan v) h))))))
def eN.loops : Nat → bW
 | _ => ⟨[], [], [], [], [], []⟩
def eN.H (c : Ctx) (t0 : AV) (h : List AObj) (K : AOut → List AObj → Prop) : Prop :=
 boxW bZ t0 h fun t1 h =>
 runD (aC bZ t1 1) h fun t3 h =>
 runD (fitD aB (aD h t3)) h fun t4 h =>
 runD (binD aB .and t4 (.int .i64 1)) h fun t5 h =>
 runD (binD aB .eql t5 (.int .i64 1)) h fun t6 h =>
 K (.ret t6) h
def dG.loops : Nat → bW
 | 0 => ⟨[], [], [], [(7, none), (6, some [8, 14])], [], []⟩
 | _ => ⟨[], [], [], [], [], []⟩
def dG.H (c : Ctx) (t0 : AV) (h : List AObj) (K : AOut → List AObj → Prop) : Prop :=
 runD (cV t0) h fun t4 h =>
 runD (aC eW t4 1) h fun t5 h =>
 runD (fitD aB (aD h t5)) h fun t6 h =>
 runD (binD aB .lss t6 (.int .i64 1)) h fun t7 h =>
 aM (fun (J1 : AV → AV → List AObj → Prop) =>
 aX t7 false
 (runD (cV t0) h fun t10 h =>
 runD (aC eW t10 0) h fun t11 h =>
 runD (aC bZ t11 2) h fun t12 h =>
 runD (fitD aB (aD h t12)) h fun t13 h =>
 runD (binD aB .eql t13 (.int .i64 12)) h fun t14 h =>
 J1 (.bool false) t14 h)
 (J1 (.bool true) .und h))
 (fun t8 t14 h => runD (bO t8 (.bool true) t14) h fun t15 h =>
 runD (cV t0) h fun t16 h =>
 runD (aC eW t16 0) h fun t17 h =>
 runD (aC bZ t17 4) h fun t18 h =>
 runH (aP mP h t18 t15) h fun _ h =>
 runD (cV t0) h fun t20 h =>
 runD (aC eW t20 0) h fun t21 h =>
 runD (aC bZ t21 4) h fun t22 h =>
 runD (fitD mP (aD h t22)) h fun t23 h =>
 runD (unD .not t23) h fun t24 h =>
 aM (fun (J2 : List AObj → Prop) =>
 aU t24
 (runD (cV t0) h fun t26 h =>
 runD (aC eW t26 0) h fun t27 h =>
 runD (aC bZ t27 2) h fun t28 h =>
 runD (fitD aB (aD h t28)) h fun t29 h =>
 runD (binD aB .add t29 (.int .i64 1)) h fun t30 h =>
 runD (cV t0) h fun t31 h =>
 runD (aC eW t31 0) h fun t32 h =>
 runD (aC bZ t32 2) h fun t33 h =>
 runH (aP aB h t33 t30) h fun _ h =>
 J2 h)
 (J2 h))
 (fun h => K (.ret (.tup [])) h))
def cU.loops : Nat → bW
 | _ => ⟨[], [], [], [], [], []⟩
def cU.H (c : Ctx) (t0 : AV) (h : List AObj) (K : AOut → List AObj → Prop) : Prop :=
 runD (cV t0) h fun t4 h =>
 runD (aC eW t4 0) h fun t5 h =>
 runD (aC bZ t5 2) h fun t6 h =>
 runD (fitD aB (aD h t6)) h fun t7 h =>
 runD (binD aB .eql t7 (.int .i64 0)) h fun t8 h =>
 runD (cV t0) h fun t9 h =>
 runD (aC eW t9 0) h fun t10 h =>
 runD (aC bZ t10 4) h fun t11 h =>
 runH (aP mP h t11 t8) h fun _ h =>
 runD (cV t0) h fun t13 h =>
 runD (aC eW t13 0) h fun t14 h =>
 runD (aC bZ t14 4) h fun t15 h =>
 runD (fitD mP (aD h t15)) h fun t16 h =>
 runD (unD .not t16) h fun t17 h =>
 aM (fun (J1 : List AObj → Prop) =>
 aU t17
 (runD (cV t0) h fun t19 h =>
 runD (aC eW t19 0) h fun t20 h =>
 runD (aC bZ t20 2) h fun t21 h =>
 runD (fitD aB (aD h t21)) h fun t22 h =>
 runD (binD aB .sub t22 (.int .i64 1)) h fun t23 h =>
 runD (cV t0) h fun t24 h =>
 runD (aC eW t24 0) h fun t25 h =>
 runD (aC bZ t25 2) h fun t26 h =>
 runH (aP aB h t26 t23) h fun _ h =>
 J1 h)
 (J1 h))
 (fun h => K (.ret (.tup [])) h)
def gF.loops : Nat → bW
 | 2 => ⟨[], [], [], [(3, none), (5, some [16, 21])], [], []⟩
 | _ => ⟨[], [], [], [], [], []⟩
def gF.H (c : Ctx) (t0 : AV) (t1 : AV) (h : List AObj) (K : AOut → List AObj → Prop) : Prop :=
 boxW bZ t1 h fun t3 h =>
 runD (aC bZ t3 0) h fun t9 h =>
 runD (fitD aB (aD h t9)) h fun t10 h =>
 aR false c (.fn (.func 46) [] []) [t0, t10] h (fun t11 h =>
 runD (aW t11 0) h fun t12 h =>
 runD (aW t11 1) h fun t13 h =>
 cQ bA h fun t5 h =>
 runH (aP bA h t5 t12) h fun _ h =>
 runD (binD cN .eql t13 (.int .i64 0)) h fun t15 h =>
 aM (fun (J1 : AV → AV → List AObj → Prop) =>
 aX t15 true
 (runD (aC bA t5 1) h fun t17 h =>
 runD (fitD aB (aD h t17)) h fun t18 h =>
 runD (aC bZ t3 1) h fun t19 h =>
 runD (fitD aB (aD h t19)) h fun t20 h =>
 runD (binD aB .eql t18 t20) h fun t21 h =>
 J1 (.bool true) t21 h)
 (J1 (.bool false) .und h))
 (fun t16 t21 h => runD (bO t16 t21 (.bool false)) h fun t22 h =>
 K (.ret t22) h))
 (fun v h => K (.pan v) h)
def fR.loops : Nat → bW
 | 3 => ⟨[4, 14], [true, false], [0, 5, 12, 13], [], [], []⟩
 | 6 => ⟨[], [], [], [(3, none), (5, some [26, 31])], [], []⟩
 | _ => ⟨[], [], [], [], [], []⟩
def fR.L1 (c : Ctx) (J1 : AV → List AObj → Prop) (K : AOut → List AObj → Prop) (lv : List AV) (h0 : List AObj) (n0 : Nat) (c0 : AV) (c5 : AV) (c12 : AV) (c13 : AV) : Prop :=
 ∃ I : Nat → List AV → List AObj → Prop, (∃ n, I n lv h0) ∧ ∀ n h, ∀ t4, ∀ t14, I n [t4, t14] h →
 runD (binD aB .lss t14 c13) h fun t15 h =>
 aU t15
 (runD (aH aK h c12 t14) h fun t16 h =>
 runD (fitD aB (aD h t16)) h fun t17 h =>
 aR false c (.fn (.func 79) [] []) [c0, t17] h (fun t21 h =>
 runD (aW t21 0) h fun t22 h =>
 runD (aW t21 1) h fun t23 h =>
 cQ aI h fun t8 h =>
 runH (aP aI h t8 t22) h fun _ h =>
 runD (binD cN .eql t23 (.int .i64 0)) h fun t25 h =>
 aM (fun (J2 : AV → AV → List AObj → Prop) =>
 aX t25 true
 (runD (aC aI t8 1) h fun t28 h =>
 runD (fitD bT (aD h t28)) h fun t29 h =>
 runD (lS lM h c5 t29) h fun t30 h =>
 runD (unD .not t30) h fun t31 h =>
 J2 (.bool true) t31 h)
 (J2 (.bool false) .und h))
 (fun t26 t31 h => runD (bO t26 t31 (.bool false)) h fun t32 h =>
 aM (fun (J3 : AV → List AObj → Prop) =>
 aU t32
 (runD (aC aI t8 1) h fun t34 h =>
 runD (fitD bT (aD h t34)) h fun t35 h =>
 runH (jO lM h c5 t35 (.bool true)) h fun _ h =>
 runD (fitD aI (aD h t8)) h fun t37 h =>
 runD (eO aT 1 [(0, t37)] h.length) h fun t38 h =>
 jM (fT aT h t4 t38 h.length) (gH aT h t4 t38) h fun t39 h =>
 J3 t39 h)
 (J3 t4 h))
 (fun t4 h => runD (binD aB .add t14 (.int .i64 1)) h fun t40 h =>
 (∃ m, m < n ∧ I m (AV.norms n0 h [t4, t40]) (cH n0 h)) ∧ AV.norms n0 h [c0, c5, c12, c13] = [c0, c5, c12, c13])))
 (fun v h => K (.pan v) h))
 (J1 t4 h)
def fR.H (c : Ctx) (t0 : AV) (t1 : AV) (h : List AObj) (K : AOut → List AObj → Prop) : Prop :=
 boxW bZ t1 h fun t3 h =>
 runD (kO lM h.length) h fun t10 h =>
 runD (aC bZ t3 3) h fun t11 h =>
 runD (fitD aK (aD h t11)) h fun t12 h =>
 runD (lenD aK h t12) h fun t13 h =>
 aM (fun (J1 : AV → List AObj → Prop) =>
 dC [true, false] [(.sl true (.recs [])), (.int .i64 0)] h fun lv h => fR.L1 c J1 K (AV.norms h.length h lv) (cH h.length h) h.length (AV.norm h.length h t0) (AV.norm h.length h t10) (AV.norm h.length h t12) (AV.norm h.length h t13))
 (fun t4 h => aR false c (.fn (.func 108) [] []) [t4, (.fn (.func 109) [] [])] h (fun t42 h =>
 K (.ret t4) h)
 (fun v h => K (.pan v) h))
def bX.loops : Nat → bW
 | _ => ⟨[], [], [], [], [], []⟩
def bX.H (c : Ctx) (t0 : AV) (t1 : AV) (h : List AObj) (K : AOut → List AObj → Prop) : Prop :=
 boxW aI t0 h fun t2 h =>
 boxW aI t1 h fun t3 h =>
 runD (aC aI t2 1) h fun t5 h =>
 runD (fitD bT (aD h t5)) h fun t6 h =>
 runD (aC aI t3 1) h fun t7 h =>
 runD (fitD bT (aD h t7)) h fun t8 h =>
 aR false c (.fn (.func 110) [] []) [t6, t8] h (fun t9 h =>
 K (.ret t9) h)
 (fun v h => K (.pan v) h)
theorem gE.eq (F : List (FuncId × aE)) (S : List (FuncId × Con)) (t0 t1 : AV) (h : List AObj) (K : AOut → List AObj → Prop) : funW (ctx F S gE.loops) Tryz.f40 [t0, t1] h K = gE.H (ctx F S gE.loops) t0 t1 h K := by kernel_rfl
theorem hG.eq (F : List (FuncId × aE)) (S : List (FuncId × Con)) (t0 t1 : AV) (h : List AObj) (K : AOut → List AObj → Prop) : funW (ctx F S hG.loops) Tryz.f41 [t0, t1] h K = hG.H (ctx F S hG.loops) t0 t1 h K := by kernel_rfl
theorem eN.eq (F : List (FuncId × aE)) (S : List (FuncId × Con)) (t0 : AV) (h : List AObj) (K : AOut → List AObj → Prop) : funW (ctx F S eN.loops) Tryz.f67 [t0] h K = eN.H (ctx F S eN.loops) t0 h K := by kernel_rfl
theorem dG.eq (F : List (FuncId × aE)) (S : List (FuncId × Con)) (t0 : AV) (h : List AObj) (K : AOut → List AObj → Prop) : funW (ctx F S dG.loops) Tryz.f69 [t0] h K = dG.H (ctx F S dG.loops) t0 h K := by kernel_rfl
theorem cU.eq (F : List (FuncId × aE)) (S : List (FuncId × Con)) (t0 : AV) (h : List AObj) (K : AOut → List AObj → Prop) : funW (ctx F S cU.loops) Tryz.f70 [t0] h K = cU.H (ctx F S cU.loops) t0 h K := by kernel_rfl
theorem gF.eq (F : List (FuncId × aE)) (S : List (FuncId × Con)) (t0 t1 : AV) (h : List AObj) (K : AOut → List AObj → Prop) : funW (ctx F S gF.loops) Tryz.f71 [t0, t1] h K = gF.H (ctx F S gF.loops) t0 t1 h K := by kernel_rfl
theorem fR.eq (F : List (FuncId × aE)) (S : List (FuncId × Con)) (t0 t1 : AV) (h : List AObj) (K : AOut → List AObj → Prop) : funW (ctx F S fR.loops) Tryz.f89 [t0, t1] h K = fR.H (ctx F S fR.loops) t0 t1 h K := by kernel_rfl
theorem bX.eq (F : List (FuncId × aE)) (S : List (FuncId × Con)) (t0 t1 : AV) (h : List AObj) (K : AOut → List AObj → Prop) : funW (ctx F S bX.loops) Tryz.f109 [t0, t1] h K = bX.H (ctx F S bX.loops) t0 t1 h K := by kernel_rfl
theorem gE.at : Tryz.prog.funcs[40]? = some Tryz.f40 := by kernel_rfl
theorem gE.nm : (Tryz.f40.name == "runtime.NumGoroutine") = false := by kernel_rfl
theorem gE.bd : Tryz.f40.body.isNone = false := by kernel_rfl
theorem hG.at : Tryz.prog.funcs[41]? = some Tryz.f41 := by kernel_rfl
theorem hG.nm : (Tryz.f41.name == "runtime.NumGoroutine") = false := by kernel_rfl
theorem hG.bd : Tryz.f41.body.isNone = false := by kernel_rfl
theorem eN.at : Tryz.prog.funcs[67]? = some Tryz.f67 := by kernel_rfl
theorem eN.nm : (Tryz.f67.name == "runtime.NumGoroutine") = false := by kernel_rfl
theorem eN.bd : Tryz.f67.body.isNone = false := by kernel_rfl
theorem dG.at : Tryz.prog.funcs[69]? = some Tryz.f69 := by kernel_rfl
theorem dG.nm : (Tryz.f69.name == "runtime.NumGoroutine") = false := by kernel_rfl
theorem dG.bd : Tryz.f69.body.isNone = false := by kernel_rfl
theorem cU.at : Tryz.prog.funcs[70]? = some Tryz.f70 := by kernel_rfl
theorem cU.nm : (Tryz.f70.name == "runtime.NumGoroutine") = false := by kernel_rfl
theorem cU.bd : Tryz.f70.body.isNone = false := by kernel_rfl
theorem gF.at : Tryz.prog.funcs[71]? = some Tryz.f71 := by kernel_rfl
theorem gF.nm : (Tryz.f71.name == "runtime.NumGoroutine") = false := by kernel_rfl
theorem gF.bd : Tryz.f71.body.isNone = false := by kernel_rfl
theorem fR.at : Tryz.prog.funcs[89]? = some Tryz.f89 := by kernel_rfl
theorem fR.nm : (Tryz.f89.name == "runtime.NumGoroutine") = false := by kernel_rfl
theorem fR.bd : Tryz.f89.body.isNone = false := by kernel_rfl
theorem bX.at : Tryz.prog.funcs[109]? = some Tryz.f109 := by kernel_rfl
theorem bX.nm : (Tryz.f109.name == "runtime.NumGoroutine") = false := by kernel_rfl
theorem bX.bd : Tryz.f109.body.isNone = false := by kernel_rfl
end Lam
namespace Lam
open Go Go.Proofs
def cmpI (a b : bD) : Int := if ltB a b = true then -1 else if ltB b a = true then 1 else 0
theorem jE {a b : bD} : (cmpI a b < 0) ↔ ltB a b = true := by
  unfold cmpI
  split
  · rename_i h; simp [h]
  · rename_i h
    split
    · simp [h]
    · simp [h]
def dI.C : aE
  | [.str _] => some (false, pD True (.bool false))
  | _ => none
theorem dI.spec : bI Tryz.prog 121 dI.C := by
  refine bI.of (bQ (F := []) (S := []) (by simp) (by simp) dI.loops) dI.at dI.nm dI.bd ?_
  intro vs b S v news e hS
  unfold dI.C at e
  split at e
  rotate_left
  · cases e
  cases e
  rw [dI.eq]
  unfold dI.H
  simp (maxSteps := 4000000) only [go_sem, reduceEqDiff, Nat.reduceLT, reduceAdd, reduceSub, reduceLeDiff, reduceReplicate, reduceToNat]
  exact aG rfl rfl
def cW.C : aE
  | [.str a, .str b] => some (false, pD True (.int .i64 (cmpI a b)))
  | _ => none
theorem cW.spec : bI Tryz.prog 110 cW.C := by
  refine bI.of (bQ (F := [(121, dI.C)]) (S := []) (by simpa using dI.spec) (by simp) cW.loops) cW.at cW.nm cW.bd ?_
  intro vs b S v news e hS
  unfold cW.C at e
  split at e
  rotate_left
  · cases e
  cases e
  rw [cW.eq]
  unfold cW.H
  simp (maxSteps := 4000000) only [go_sem, reduceEqDiff, Nat.reduceLT, reduceAdd, reduceSub, reduceLeDiff, reduceReplicate, reduceToNat, dI.C]
  rename_i a b
  unfold cmpI
  refine ⟨fun h => ?_, fun h => ⟨fun h2 => ?_, fun h2 => ?_⟩⟩
  · rw [h]; exact aG rfl rfl
  · rw [h, h2]; exact aG rfl rfl
  · rw [h, h2]; exact aG rfl rfl
def bX.C : aE
  | [.agg [.int .i64 a, .str b, .str c, .int .i64 d], .agg [.int .i64 e, .str f, .str g, .int .i64 i]] => some (false, pD True (.int .i64 (cmpI b f)))
  | _ => none
theorem bX.spec : bI Tryz.prog 109 bX.C := by
  refine bI.of (bQ (F := [(110, cW.C)]) (S := []) (by simpa using cW.spec) (by simp) bX.loops) bX.at bX.nm bX.bd ?_
  intro vs b S v news e hS
  unfold bX.C at e
  split at e
  rotate_left
  · cases e
  cases e
  rw [bX.eq]
  unfold bX.H
  simp (maxSteps := 4000000) only [go_sem, reduceEqDiff, Nat.reduceLT, reduceAdd, reduceSub, reduceLeDiff, reduceReplicate, reduceToNat, cW.C]
  exact aG rfl rfl
structure SkT where
  block : Int
  turn : Int
  at_ : Int
  refs : List Int
  over : Bool
def SkT.V (s : SkT) : AV := .agg [.int .i64 s.block, .int .i64 s.turn, .int .i64 s.at_, .sl false (.ints .i64 s.refs), .bool s.over]
theorem SkT.norm (s : SkT) (n : Nat) (h : List AObj) : AV.norm n h s.V = s.V := by simp only [SkT.V, go_sem, reduceEqDiff, Nat.reduceLT, reduceAdd, reduceSub, reduceLeDiff, reduceReplicate, reduceToNat]
def hpS (A : SkT) (m : bD → Bool) (v : Nat) (l : List RecT) (T : List AObj) : List AObj := .box A.V :: .map (.sb m) :: .row .own v (.recs l) :: T
def OkT (T : List AObj) : Prop := ∀ k h, T.map (rF k h) = T
theorem OkT.nil : OkT [] := fun _ _ => rfl
theorem OkT.snoc {T : List AObj} (h : OkT T) (k : IntKind) (n : Int) : OkT (T ++ [.box (.int k n)]) := fun i g => by
  rw [List.map_append, h i g]; rfl
theorem qS (T : List AObj) (y : AObj) : (T ++ [y])[T.length]? = some y := by simp
theorem yZ : ∀ (T : List AObj) (y z : AObj), (T ++ [y]).set T.length z = T ++ [z]
  | [], _, _ => rfl
  | a :: T, y, z => congrArg (a :: ·) (yZ T y z)
abbrev hitF : AV := .fn (.func 109) [] []
theorem iS : (⟨0, [], [], 0⟩ : RecT) = d0 := rfl
theorem jP (l : List RecT) (i : Nat) : (⟨(l.getD i d0).kind, kyL l i, (l.getD i d0).val, (l.getD i d0).child⟩ : RecT) = l.getD i d0 := rfl
theorem iP (l : List RecT) (i : Nat) : (l.getD i d0).key = kyL l i := rfl
theorem iK (l : List RecT) (i j : Nat) : (l.set i (l.getD j d0)).set j (l.getD i d0) = gR l i j := rfl
def bR.K : Con := fun args h K => match args with
  | [a0, a1, a2, a3, a4] => bR.H (ctx [(109, bX.C)] [] bR.loops) a0 a1 a2 a3 a4 h K
  | _ => False
theorem bR.spec : dH Tryz.prog 151 bR.K := by
  refine dH.of (bQ (F := [(109, bX.C)]) (S := []) (by simpa using bX.spec) (by simp) bR.loops) bR.at bR.nm bR.bd ?_
  intro args h K hC
  unfold bR.K at hC
  split at hC
  · rw [bR.eq]; exact hC
  · exact hC.elim
theorem aCi (A : SkT) (m : bD → Bool) (v : Nat) (l : List RecT) (T : List AObj) (hT : OkT T) (s : Nat) (n a b : Nat) (hs : s < 100000) (hn : n = l.length) (ha : a < n) (hb : b < n) (hr : roomy n) (K : AOut → List AObj → Prop)
    (hK : ∀ (a' b' : Nat) (s' : Nat), a' < n → b' < n → (s' = s ∨ s' = s + 1) → (a' = a ∨ a' = b) → (b' = a ∨ b' = b) → K (.ret (.tup [.int .i64 a', .int .i64 b'])) (hpS A m v l (T ++ [.box (.int .i64 (s' : Int))]))) :
    bR.K [.sref false 2 v 0 n, .int .i64 a, .int .i64 b, .ptr (T.length + 1 + 1 + 1) [], hitF] (hpS A m v l (T ++ [.box (.int .i64 (s : Int))])) K := by
  unfold bR.K bR.H hpS
  simp only [qS, yZ, List.map_cons, List.map_nil, bX.C, iS, iP, jE, aA, gq, reduceEq, reduceLT, reduceLE, implies_true, reduceCtorEq, if_true, if_false, go_sem, reduceEqDiff, Nat.reduceLT, reduceAdd, reduceSub, reduceLeDiff, reduceReplicate, reduceToNat]
  refine ⟨⟨by omega, by omega⟩, by omega, ⟨by omega, by omega⟩, by omega, fun h => ?_, fun h => ?_⟩
  · rw [eG (by omega)]
    exact hK b a (s + 1) hb ha (.inr rfl) (.inr rfl) (.inl rfl)
  · exact hK a b s ha hb (.inl rfl) (.inl rfl) (.inr rfl)
def bL.K : Con := fun args h K => match args with
  | [a0, a1, a2, a3, a4, a5] => bL.H (ctx [(109, bX.C)] [(151, bR.K)] bL.loops) a0 a1 a2 a3 a4 a5 h K
  | _ => False
theorem bL.spec : dH Tryz.prog 146 bL.K := by
  refine dH.of (bQ (F := [(109, bX.C)]) (S := [(151, bR.K)]) (by simpa using bX.spec) (by simpa using bR.spec) bL.loops) bL.at bL.nm bL.bd ?_
  intro args h K hC
  unfold bL.K at hC
  split at hC
  · rw [bL.eq]; exact hC
  · exact hC.elim
theorem aCj (A : SkT) (m : bD → Bool) (v : Nat) (l : List RecT) (T : List AObj) (hT : OkT T) (s : Nat) (n a b d : Nat) (hs : s < 90000) (hn : n = l.length) (ha : a < n) (hb : b < n) (hd : d < n) (hr : roomy n) (K : AOut → List AObj → Prop)
    (hK : ∀ (a' : Nat) (s' : Nat), (a' = a ∨ a' = b ∨ a' = d) → s' ≤ s + 3 → K (.ret (.int .i64 a')) (hpS A m v l (T ++ [.box (.int .i64 (s' : Int))]))) :
    bL.K [.sref false 2 v 0 n, .int .i64 a, .int .i64 b, .int .i64 d, .ptr (T.length + 1 + 1 + 1) [], hitF] (hpS A m v l (T ++ [.box (.int .i64 (s : Int))])) K := by
  unfold bL.K bL.H
  simp only [hpS, List.map_cons, List.map_nil, aA, gq, reduceEq, reduceLT, reduceLE, implies_true, reduceCtorEq, if_true, if_false, go_sem, reduceEqDiff, Nat.reduceLT, reduceAdd, reduceSub, reduceLeDiff, reduceReplicate, reduceToNat]
  refine aCi A m v l T hT s n a b (by omega) hn ha hb hr _ fun a1 b1 s1 h1 h2 h3 h4 h5 => ?_
  simp only [hpS, List.map_cons, List.map_nil, aA, gq, reduceEq, reduceLT, reduceLE, implies_true, reduceCtorEq, if_true, if_false, go_sem, reduceEqDiff, Nat.reduceLT, reduceAdd, reduceSub, reduceLeDiff, reduceReplicate, reduceToNat]
  refine aCi A m v l T hT s1 n b1 d (by omega) hn h2 hd hr _ fun b2 d2 s2 g1 g2 g3 g4 g5 => ?_
  simp only [hpS, List.map_cons, List.map_nil, aA, gq, reduceEq, reduceLT, reduceLE, implies_true, reduceCtorEq, if_true, if_false, go_sem, reduceEqDiff, Nat.reduceLT, reduceAdd, reduceSub, reduceLeDiff, reduceReplicate, reduceToNat]
  refine aCi A m v l T hT s2 n a1 b2 (by omega) hn h1 g1 hr _ fun a3 b3 s3 k1 k2 k3 k4 k5 => ?_
  simp only [hpS, List.map_cons, List.map_nil, aA, gq, reduceEq, reduceLT, reduceLE, implies_true, reduceCtorEq, if_true, if_false, go_sem, reduceEqDiff, Nat.reduceLT, reduceAdd, reduceSub, reduceLeDiff, reduceReplicate, reduceToNat]
  exact hK b3 s3 (by omega) (by omega)
def bB.K : Con := fun args h K => match args with
  | [a0, a1, a2, a3] => bB.H (ctx [] [(146, bL.K)] bB.loops) a0 a1 a2 a3 h K
  | _ => False
theorem bB.spec : dH Tryz.prog 145 bB.K := by
  refine dH.of (bQ (F := []) (S := [(146, bL.K)]) (by simp) (by simpa using bL.spec) bB.loops) bB.at bB.nm bB.bd ?_
  intro args h K hC
  unfold bB.K at hC
  split at hC
  · rw [bB.eq]; exact hC
  · exact hC.elim
theorem zA (A : SkT) (m : bD → Bool) (v : Nat) (l : List RecT) (T : List AObj) (hT : OkT T) (s : Nat) (n a : Nat) (hs : s < 80000) (hn : n = l.length) (ha : 0 < a) (ha2 : a + 1 < n) (hr : roomy n) (K : AOut → List AObj → Prop)
    (hK : ∀ (a' : Nat) (s' : Nat), a ≤ a' + 1 → a' ≤ a + 1 → s' ≤ s + 3 → K (.ret (.int .i64 a')) (hpS A m v l (T ++ [.box (.int .i64 (s' : Int))]))) :
    bB.K [.sref false 2 v 0 n, .int .i64 a, .ptr (T.length + 1 + 1 + 1) [], hitF] (hpS A m v l (T ++ [.box (.int .i64 (s : Int))])) K := by
  have hr' := hr
  unfold roomy at hr'
  have e1 : IntKind.i64.wrap ((a : Int) - 1) = ((a - 1 : Nat) : Int) := by rw [w64 (by omega) (by omega)]; omega
  unfold bB.K bB.H
  simp only [hpS, List.map_cons, List.map_nil, e1, eG (show a < 4611686018427387904 by omega), aA, gq, reduceEq, reduceLT, reduceLE, implies_true, reduceCtorEq, if_true, if_false, go_sem, reduceEqDiff, Nat.reduceLT, reduceAdd, reduceSub, reduceLeDiff, reduceReplicate, reduceToNat]
  refine aCj A m v l T hT s n _ _ _ (by omega) hn (by omega) (by omega) (by omega) hr _ fun a1 s1 h1 h2 => ?_
  simp only [hpS, List.map_cons, List.map_nil, aA, gq, reduceEq, reduceLT, reduceLE, implies_true, reduceCtorEq, if_true, if_false, go_sem, reduceEqDiff, Nat.reduceLT, reduceAdd, reduceSub, reduceLeDiff, reduceReplicate, reduceToNat]
  exact hK a1 s1 (by omega) (by omega) h2
def bK.K : Con := fun args h K => match args with
  | [a0, a1, a2, a3] => bK.H (ctx [] [(145, bB.K), (146, bL.K)] bK.loops) a0 a1 a2 a3 h K
  | _ => False
theorem bK.spec : dH Tryz.prog 129 bK.K := by
  refine dH.of (bQ (F := []) (S := [(145, bB.K), (146, bL.K)]) (by simp) (by simpa using ⟨bB.spec, bL.spec⟩) bK.loops) bK.at bK.nm bK.bd ?_
  intro args h K hC
  unfold bK.K at hC
  split at hC
  · rw [bK.eq]; exact hC
  · exact hC.elim
theorem aLQ (A : SkT) (m : bD → Bool) (v : Nat) (l : List RecT) (T : List AObj) (hT : OkT T) (n a b : Nat) (hn : n = l.length) (hab : a < b) (hbn : b ≤ n) (hr : roomy n) (K : AOut → List AObj → Prop)
    (hK : ∀ (p : Nat) (e : Nat) (s : Int), a ≤ p → p < b → e ≤ 2 → K (.ret (.tup [.int .i64 p, .int .i64 e])) (hpS A m v l (T ++ [.box (.int .i64 s)]))) :
    bK.K [.sref false 2 v 0 n, .int .i64 a, .int .i64 b, hitF] (hpS A m v l T) K := by
  unfold bK.K bK.H
  have hr' := hr
  unfold roomy at hr'
  have e0 : IntKind.i64.wrap ((b : Int) - a) = ((b - a : Nat) : Int) := by rw [w64 (by omega) (by omega)]; omega
  have e1 : ((b - a : Nat) : Int).tdiv 4 = (((b - a) / 4 : Nat) : Int) := by rw [Int.tdiv_eq_ediv_of_nonneg (by omega)]; omega
  obtain ⟨q, hq⟩ : ∃ q, (b - a) / 4 = q := ⟨_, rfl⟩
  have e2 : IntKind.i64.wrap (q : Int) = q := w64 (by omega) (by omega)
  have e3 : ∀ k : Nat, k ≤ 3 → IntKind.i64.wrap ((a : Int) + IntKind.i64.wrap ((q : Int) * k)) = ((a + q * k : Nat) : Int) := fun k hk => by
    have : q * k ≤ q * 3 := Nat.mul_le_mul_left q hk
    rw [w64 (n := (q : Int) * k) (by rw [← Int.natCast_mul]; omega) (by rw [← Int.natCast_mul]; omega), ← Int.natCast_mul, w64 (by omega) (by omega)]; omega
  have e31 := e3 1 (by decide)
  have e32 := e3 2 (by decide)
  have e33 := e3 3 (by decide)
  simp only [Int.natCast_one, Int.cast_ofNat_Int] at e31 e32 e33
  simp only [hpS, List.map_cons, List.map_nil, List.cons_append, e0, e1, hq, e2, e31, e32, e33, aA, gq, reduceEq, reduceLT, reduceLE, implies_true, reduceCtorEq, if_true, if_false, go_sem, reduceEqDiff, Nat.reduceLT, reduceAdd, reduceSub, reduceLeDiff, reduceReplicate, reduceToNat]
  have hfin : ∀ (p : Nat) (s : Int), a ≤ p → p < b → ((s = 0 → K (.ret (.tup [.int .i64 p, .int .i64 1])) (hpS A m v l (T ++ [.box (.int .i64 s)]))) ∧ (¬ s = 0 → (s = 12 → K (.ret (.tup [.int .i64 p, .int .i64 2])) (hpS A m v l (T ++ [.box (.int .i64 s)]))) ∧ (¬ s = 12 → K (.ret (.tup [.int .i64 p, .int .i64 0])) (hpS A m v l (T ++ [.box (.int .i64 s)]))))) := fun p s h1 h2 => ⟨fun _ => hK p 1 s h1 h2 (by decide), fun _ => ⟨fun _ => hK p 2 s h1 h2 (by decide), fun _ => hK p 0 s h1 h2 (by decide)⟩⟩
  refine ⟨fun h8 => ⟨fun h50 => ?_, fun _ => ?_⟩, fun h8 => ?_⟩
  · refine zA A m v l T hT 0 n _ (by decide) hn (by omega) (by omega) hr _ fun p1 s1 h1 h2 h3 => ?_
    simp only [hpS, aA, gq, reduceEq, reduceLT, reduceLE, implies_true, reduceCtorEq, if_true, if_false, go_sem, reduceEqDiff, Nat.reduceLT, reduceAdd, reduceSub, reduceLeDiff, reduceReplicate, reduceToNat]
    refine zA A m v l T hT s1 n _ (by omega) hn (by omega) (by omega) hr _ fun p2 s2 g1 g2 g3 => ?_
    simp only [hpS, aA, gq, reduceEq, reduceLT, reduceLE, implies_true, reduceCtorEq, if_true, if_false, go_sem, reduceEqDiff, Nat.reduceLT, reduceAdd, reduceSub, reduceLeDiff, reduceReplicate, reduceToNat]
    refine zA A m v l T hT s2 n _ (by omega) hn (by omega) (by omega) hr _ fun p3 s3 k1 k2 k3 => ?_
    simp only [hpS, aA, gq, reduceEq, reduceLT, reduceLE, implies_true, reduceCtorEq, if_true, if_false, go_sem, reduceEqDiff, Nat.reduceLT, reduceAdd, reduceSub, reduceLeDiff, reduceReplicate, reduceToNat]
    refine aCj A m v l T hT s3 n _ _ _ (by omega) hn (by omega) (by omega) (by omega) hr _ fun p s hp hs => ?_
    simp only [hpS, qS, aA, gq, reduceEq, reduceLT, reduceLE, implies_true, reduceCtorEq, if_true, if_false, go_sem, reduceEqDiff, Nat.reduceLT, reduceAdd, reduceSub, reduceLeDiff, reduceReplicate, reduceToNat]
    exact hfin p s (by omega) (by omega)
  · refine aCj A m v l T hT 0 n _ _ _ (by decide) hn (by omega) (by omega) (by omega) hr _ fun p s hp hs => ?_
    simp only [hpS, qS, aA, gq, reduceEq, reduceLT, reduceLE, implies_true, reduceCtorEq, if_true, if_false, go_sem, reduceEqDiff, Nat.reduceLT, reduceAdd, reduceSub, reduceLeDiff, reduceReplicate, reduceToNat]
    exact hfin p s (by omega) (by omega)
  · simp only [hpS, qS, aA, gq, reduceEq, reduceLT, reduceLE, implies_true, reduceCtorEq, if_true, if_false, go_sem, reduceEqDiff, Nat.reduceLT, reduceAdd, reduceSub, reduceLeDiff, reduceReplicate, reduceToNat]
    exact hK (a + q * 2) 1 0 (by omega) (by omega) (by decide)
def aQ.K : Con := fun args h K => match args with
  | [a0, a1, a2, a3] => aQ.H (ctx [(109, bX.C)] [] aQ.loops) a0 a1 a2 a3 h K
  | _ => False
theorem aQ.spec : dH Tryz.prog 126 aQ.K := by
  refine dH.of (bQ (F := [(109, bX.C)]) (S := []) (by simpa using bX.spec) (by simp) aQ.loops) aQ.at aQ.nm aQ.bd ?_
  intro args h K hC
  unfold aQ.K at hC
  split at hC
  · rw [aQ.eq]; exact hC
  · exact hC.elim
theorem aSc (A : SkT) (m : bD → Bool) (v : Nat) (l : List RecT) (T : List AObj) (hTn : OkT T) (n a b : Nat) (hn : n = l.length) (hab : a ≤ b) (hbn : b ≤ n) (hr : roomy n) (K : AOut → List AObj → Prop)
    (hK : ∀ l', SegP a b l l' → SegS a b l' → K (.ret (.tup [])) (hpS A m v l' T)) :
    aQ.K [.sref false 2 v 0 n, .int .i64 a, .int .i64 b, hitF] (hpS A m v l T) K := by
  have hr' := hr
  unfold roomy at hr'
  have h2 : 2 < T.length + 1 + 1 + 1 := by omega
  unfold aQ.K aQ.H
  simp only [hpS, hTn _ _, SkT.norm, h2, aA, gq, reduceEq, reduceLT, reduceLE, implies_true, reduceCtorEq, if_true, if_false, go_sem, reduceEqDiff, Nat.reduceLT, reduceAdd, reduceSub, reduceLeDiff, reduceReplicate, reduceToNat] at hK ⊢
  rw [eG (by omega)]
  unfold aQ.L1
  refine kT (σ := List RecT × Nat) (fun s => .int .i64 s.2) (fun s => .box A.V :: .map (.sb m) :: .row .own v (.recs s.1) :: T) (fun s => n + 1 - s.2) (fun s => a + 1 ≤ s.2 ∧ (s.2 ≤ b ∨ s.2 = a + 1) ∧ SegP a b l s.1 ∧ SegS a s.2 s.1) (l, a + 1) rfl rfl ⟨by simp, by simp, SegP.refl, SegS.one (by simp)⟩ ?_
  rintro I back ⟨l1, i⟩ ⟨hi1, hi2, hp, hs⟩
  simp only at hi1 hi2 hp hs ⊢
  have hl1 := hp.len
  simp only [hTn _ _, SkT.norm, h2, aA, aA, gq, reduceEq, reduceLT, reduceLE, implies_true, reduceCtorEq, if_true, if_false, go_sem, reduceEqDiff, Nat.reduceLT, reduceAdd, reduceSub, reduceLeDiff, reduceReplicate, reduceToNat]
  refine ⟨fun hlt => ?_, fun hge => hK l1 hp fun p q h1 h2 h3 => hs p q h1 h2 (by omega)⟩
  unfold aQ.L2
  refine kT (σ := List RecT × Nat) (fun s => .int .i64 s.2) (fun s => .box A.V :: .map (.sb m) :: .row .own v (.recs s.1) :: T) (fun s => s.2) (fun s => a ≤ s.2 ∧ s.2 ≤ i ∧ SegP a b l s.1 ∧ InsS a s.2 (i + 1) s.1) (l1, i) rfl rfl ⟨by simp only; omega, by simp, hp, InsS.begin hs⟩ ?_
  rintro I2 back2 ⟨l2, j⟩ ⟨hj1, hj2, hp2, hs2⟩
  simp only at hj1 hj2 hp2 hs2 ⊢
  have hl2 := hp2.len
  have hnx : SegS a (i + 1) l2 → ∃ m1, m1 < n + 1 - i ∧ I m1 [.int .i64 (IntKind.i64.wrap ((i : Int) + 1))] (.box A.V :: .map (.sb m) :: .row .own v (.recs l2) :: T) := fun h => back (l2, i + 1) (by simp only; omega) (by simp only; rw [eG (by omega)]) rfl ⟨by simp only; omega, .inl (by simp only; omega), hp2, h⟩
  by_cases hja : a < j
  · have e1 : IntKind.i64.wrap ((j : Int) - 1) = ((j - 1 : Nat) : Int) := by rw [w64 (by omega) (by omega)]; omega
    have d1 : decide ((a : Int) < (j : Int)) = true := decide_eq_true (by omega)
    simp only [hTn _ _, SkT.norm, h2, aA, d1, e1, Int.toNat_natCast, bX.C, iS, iP, jE, jP, iK, List.length_set, aA, gq, reduceEq, reduceLT, reduceLE, implies_true, reduceCtorEq, if_true, if_false, go_sem, reduceEqDiff, Nat.reduceLT, reduceAdd, reduceSub, reduceLeDiff, reduceReplicate, reduceToNat]
    refine ⟨⟨by omega, by omega⟩, by omega, ⟨by omega, by omega⟩, by omega, fun h => ⟨⟨by omega, by omega⟩, by omega, ⟨by omega, by omega⟩, by omega, ⟨by omega, by omega⟩, by omega, ⟨by omega, by omega⟩, by omega, back2 (gR l2 j (j - 1), j - 1) (by simp only; omega) rfl rfl ⟨by simp only; omega, by simp only; omega, hp2.trans (SegP.swap (by omega) (by omega) (by omega) (by omega) (by omega)), hs2.step hja (by omega) (by omega) h⟩⟩, fun h => hnx (hs2.done hj1 (by omega) (.inr (by unfold leB; simpa using h)))⟩
  · obtain rfl : j = a := by omega
    have d1 : decide ((j : Int) < (j : Int)) = false := decide_eq_false (by omega)
    simp only [hTn _ _, SkT.norm, h2, aA, d1, aA, gq, reduceEq, reduceLT, reduceLE, implies_true, reduceCtorEq, if_true, if_false, go_sem, reduceEqDiff, Nat.reduceLT, reduceAdd, reduceSub, reduceLeDiff, reduceReplicate, reduceToNat]
    exact hnx (hs2.done (Nat.le_refl _) (by omega) (.inl rfl))
def aF.K : Con := fun args h K => match args with
  | [a0, a1, a2, a3] => aF.H (ctx [(109, bX.C)] [] aF.loops) a0 a1 a2 a3 h K
  | _ => False
theorem aF.spec : dH Tryz.prog 131 aF.K := by
  refine dH.of (bQ (F := [(109, bX.C)]) (S := []) (by simpa using bX.spec) (by simp) aF.loops) aF.at aF.nm aF.bd ?_
  intro args h K hC
  unfold aF.K at hC
  split at hC
  · rw [aF.eq]; exact hC
  · exact hC.elim
def PreS (a b : Nat) (l : List RecT) : Prop := a = 0 ∨ ∀ k, a ≤ k → k < b → leB (kyL l (a - 1)) (kyL l k)
theorem PreS.keep {a b : Nat} {l l' : List RecT} (h : PreS a b l) (s : SegP a b l l') : PreS a b l' := by
  rcases Nat.eq_zero_or_pos a with h0 | h0
  · exact .inl h0
  · rcases h with h | h
    · exact .inl h
    · refine .inr fun k h1 h2 => ?_
      rw [s.same (k := a - 1) (by omega)]
      exact s.le (x := kyL l (a - 1)) h k h1 h2
theorem aKJ (c : Ctx) (hd : c.drawn = false) (hf : c.envF 109 = bX.C) (A : SkT) (m : bD → Bool) (v : Nat) (l : List RecT) (T : List AObj) (n a b i jc : Nat) (hTn : OkT T) (hn : n = l.length) (ha : a + 1 < i) (hi : i < n) (hp : PreS a i l) (hr : roomy n) (h0 : InsS a (i - 1) i l)
    (J : AV → AV → AV → AV → AV → AV → List AObj → Prop) (K : AOut → List AObj → Prop)
    (hJ : ∀ l', SegP a i l l' → SegS a i l' → J (.sref false 2 v 0 n) (.int .i64 a) (.int .i64 b) hitF (.int .i64 i) (.int .i64 jc) (.box A.V :: .map (.sb m) :: .row .own v (.recs l') :: T)) :
    aF.L3 c J K [.int .i64 ((i - 1 : Nat) : Int)] (.box A.V :: .map (.sb m) :: .row .own v (.recs l) :: T) (T.length + 1 + 1 + 1) (.sref false 2 v 0 n) (.int .i64 a) (.int .i64 b) hitF (.int .i64 i) (.int .i64 jc) := by
  have hr' := hr
  unfold roomy at hr'
  have h2 : 2 < T.length + 1 + 1 + 1 := by omega
  unfold aF.L3
  refine kT (σ := List RecT × Nat) (fun s => .int .i64 s.2) (fun s => .box A.V :: .map (.sb m) :: .row .own v (.recs s.1) :: T) (fun s => s.2) (fun s => a ≤ s.2 ∧ s.2 < i ∧ SegP a i l s.1 ∧ InsS a s.2 i s.1) (l, i - 1) rfl rfl ⟨by simp only; omega, by simp only; omega, SegP.refl, h0⟩ ?_
  rintro I back ⟨l2, j⟩ ⟨hj1, hj2, hp2, hs2⟩
  simp only at hj1 hj2 hp2 hs2 ⊢
  have hl2 := hp2.len
  by_cases hj0 : 1 ≤ j
  · have e1 : IntKind.i64.wrap ((j : Int) - 1) = ((j - 1 : Nat) : Int) := by rw [w64 (by omega) (by omega)]; omega
    have d1 : decide ((1 : Int) ≤ (j : Int)) = true := decide_eq_true (by omega)
    cases hlt : ltB (kyL l2 j) (kyL l2 (j - 1)) with
    | false =>
      simp only [hTn _ _, SkT.norm, h2, aA, d1, e1, hd, hf, hlt, Int.toNat_natCast, bX.C, iS, iP, jE, aA, gq, reduceEq, reduceLT, reduceLE, implies_true, reduceCtorEq, if_true, if_false, go_sem, reduceEqDiff, Nat.reduceLT, reduceAdd, reduceSub, reduceLeDiff, reduceReplicate, reduceToNat]
      refine ⟨⟨by omega, by omega⟩, by omega, ⟨by omega, by omega⟩, by omega, hJ l2 hp2 (hs2.done hj1 hj2 ?_)⟩
      rcases Nat.eq_or_lt_of_le hj1 with h | h
      · exact .inl h.symm
      · exact .inr hlt
    | true =>
      have hja : a < j := by
        rcases Nat.eq_or_lt_of_le hj1 with h | h
        · subst h
          rcases hp.keep hp2 with h | h
          · omega
          · have := h a (Nat.le_refl _) hj2
            unfold leB at this
            rw [hlt] at this; cases this
        · exact h
      simp only [hTn _ _, SkT.norm, h2, aA, d1, e1, hd, hf, hlt, Int.toNat_natCast, bX.C, iS, iP, jE, jP, iK, List.length_set, aA, gq, reduceEq, reduceLT, reduceLE, implies_true, reduceCtorEq, if_true, if_false, go_sem, reduceEqDiff, Nat.reduceLT, reduceAdd, reduceSub, reduceLeDiff, reduceReplicate, reduceToNat]
      refine ⟨⟨by omega, by omega⟩, by omega, ⟨by omega, by omega⟩, by omega, ⟨by omega, by omega⟩, by omega, ⟨by omega, by omega⟩, by omega, ⟨by omega, by omega⟩, by omega, ⟨by omega, by omega⟩, by omega, back (gR l2 j (j - 1), j - 1) (by simp only; omega) rfl rfl ⟨by simp only; omega, by simp only; omega, hp2.trans (SegP.swap (by omega) (by omega) (by omega) (by omega) (by omega)), hs2.step hja hj2 (by omega) hlt⟩⟩
  · have d1 : decide ((1 : Int) ≤ (j : Int)) = false := decide_eq_false (by omega)
    simp only [hTn _ _, SkT.norm, h2, aA, d1, aA, gq, reduceEq, reduceLT, reduceLE, implies_true, reduceCtorEq, if_true, if_false, go_sem, reduceEqDiff, Nat.reduceLT, reduceAdd, reduceSub, reduceLeDiff, reduceReplicate, reduceToNat]
    exact hJ l2 hp2 (hs2.done hj1 hj2 (.inl (by omega)))
theorem aJn (c : Ctx) (hd : c.drawn = false) (hf : c.envF 109 = bX.C) (A : SkT) (m : bD → Bool) (v : Nat) (l : List RecT) (T : List AObj) (n a b i jc : Nat) (hTn : OkT T) (hn : n = l.length) (hi : i + 1 < b) (hb : b ≤ n) (hr : roomy n)
    (J : AV → AV → AV → AV → AV → AV → List AObj → Prop) (K : AOut → List AObj → Prop)
    (hJ : ∀ l', SegP i b l l' → J (.sref false 2 v 0 n) (.int .i64 a) (.int .i64 b) hitF (.int .i64 i) (.int .i64 jc) (.box A.V :: .map (.sb m) :: .row .own v (.recs l') :: T)) :
    aF.L4 c J K [.int .i64 ((i + 1 : Nat) : Int)] (.box A.V :: .map (.sb m) :: .row .own v (.recs l) :: T) (T.length + 1 + 1 + 1) (.sref false 2 v 0 n) (.int .i64 a) (.int .i64 b) hitF (.int .i64 i) (.int .i64 jc) := by
  have hr' := hr
  unfold roomy at hr'
  have h2 : 2 < T.length + 1 + 1 + 1 := by omega
  unfold aF.L4
  refine kT (σ := List RecT × Nat) (fun s => .int .i64 s.2) (fun s => .box A.V :: .map (.sb m) :: .row .own v (.recs s.1) :: T) (fun s => b - s.2) (fun s => i + 1 ≤ s.2 ∧ s.2 ≤ b ∧ SegP i b l s.1) (l, i + 1) rfl rfl ⟨Nat.le_refl _, by simp only; omega, SegP.refl⟩ ?_
  rintro I back ⟨l2, j⟩ ⟨hj1, hj2, hp2⟩
  simp only at hj1 hj2 hp2 ⊢
  have hl2 := hp2.len
  by_cases hj0 : j < b
  · have e1 : IntKind.i64.wrap ((j : Int) - 1) = ((j - 1 : Nat) : Int) := by rw [w64 (by omega) (by omega)]; omega
    have d1 : decide ((j : Int) < (b : Int)) = true := decide_eq_true (by omega)
    cases hlt : ltB (kyL l2 j) (kyL l2 (j - 1)) with
    | false =>
      simp only [hTn _ _, SkT.norm, h2, aA, d1, e1, hd, hf, hlt, Int.toNat_natCast, bX.C, iS, iP, jE, aA, gq, reduceEq, reduceLT, reduceLE, implies_true, reduceCtorEq, if_true, if_false, go_sem, reduceEqDiff, Nat.reduceLT, reduceAdd, reduceSub, reduceLeDiff, reduceReplicate, reduceToNat]
      exact ⟨⟨by omega, by omega⟩, by omega, ⟨by omega, by omega⟩, by omega, hJ l2 hp2⟩
    | true =>
      simp only [hTn _ _, SkT.norm, h2, aA, d1, e1, hd, hf, hlt, Int.toNat_natCast, bX.C, iS, iP, jE, jP, iK, List.length_set, aA, gq, reduceEq, reduceLT, reduceLE, implies_true, reduceCtorEq, if_true, if_false, go_sem, reduceEqDiff, Nat.reduceLT, reduceAdd, reduceSub, reduceLeDiff, reduceReplicate, reduceToNat]
      refine ⟨⟨by omega, by omega⟩, by omega, ⟨by omega, by omega⟩, by omega, ⟨by omega, by omega⟩, by omega, ⟨by omega, by omega⟩, by omega, ⟨by omega, by omega⟩, by omega, ⟨by omega, by omega⟩, by omega, back (gR l2 j (j - 1), j + 1) (by simp only; omega) (by rw [eG (by omega)]) rfl ⟨by simp only; omega, by simp only; omega, hp2.trans (SegP.swap (by omega) (by omega) (by omega) (by omega) (by omega))⟩⟩
  · have d1 : decide ((j : Int) < (b : Int)) = false := decide_eq_false (by omega)
    simp only [hTn _ _, SkT.norm, h2, aA, d1, aA, gq, reduceEq, reduceLT, reduceLE, implies_true, reduceCtorEq, if_true, if_false, go_sem, reduceEqDiff, Nat.reduceLT, reduceAdd, reduceSub, reduceLeDiff, reduceReplicate, reduceToNat]
    exact hJ l2 hp2
theorem aNQ (A : SkT) (m : bD → Bool) (v : Nat) (l : List RecT) (T : List AObj) (hTn : OkT T) (n a b : Nat) (hn : n = l.length) (hab : a < b) (hbn : b ≤ n) (hpre : PreS a b l) (hr : roomy n) (K : AOut → List AObj → Prop)
    (hK1 : ∀ l', SegP a b l l' → SegS a b l' → K (.ret (.bool true)) (hpS A m v l' T)) (hK2 : ∀ l', SegP a b l l' → K (.ret (.bool false)) (hpS A m v l' T)) :
    aF.K [.sref false 2 v 0 n, .int .i64 a, .int .i64 b, hitF] (hpS A m v l T) K := by
  have hr' := hr
  unfold roomy at hr'
  have h2 : 2 < T.length + 1 + 1 + 1 := by omega
  unfold aF.K aF.H
  simp only [hpS, hTn _ _, SkT.norm, h2, aA, gq, reduceEq, reduceLT, reduceLE, implies_true, reduceCtorEq, if_true, if_false, go_sem, reduceEqDiff, Nat.reduceLT, reduceAdd, reduceSub, reduceLeDiff, reduceReplicate, reduceToNat] at hK1 hK2 ⊢
  rw [eG (by omega)]
  unfold aF.L1
  refine oI (σ := List RecT × Nat × Nat) (fun s => .int .i64 s.2.1) (fun s => .int .i64 s.2.2) (fun s => .box A.V :: .map (.sb m) :: .row .own v (.recs s.1) :: T) (fun s => 5 - s.2.2) (fun s => s.2.2 ≤ 5 ∧ a + 1 ≤ s.2.1 ∧ s.2.1 ≤ b ∧ SegP a b l s.1 ∧ SegS a s.2.1 s.1) (l, a + 1, 0) rfl rfl ⟨Nat.zero_le _, Nat.le_refl _, by simp only; omega, SegP.refl, SegS.one (Nat.le_refl _)⟩ ?_
  rintro I back ⟨l1, i0, jc⟩ ⟨hjc, hi1, hi2, hp, hs⟩
  simp only at hjc hi1 hi2 hp hs ⊢
  have hl1 := hp.len
  by_cases hj5 : jc < 5
  rotate_left
  · have d1 : decide ((jc : Int) < 5) = false := decide_eq_false (by omega)
    simp only [hTn _ _, SkT.norm, h2, aA, d1, aA, gq, reduceEq, reduceLT, reduceLE, implies_true, reduceCtorEq, if_true, if_false, go_sem, reduceEqDiff, Nat.reduceLT, reduceAdd, reduceSub, reduceLeDiff, reduceReplicate, reduceToNat]
    exact hK2 l1 hp
  have d0 : decide ((jc : Int) < 5) = true := decide_eq_true (by omega)
  simp only [hTn _ _, SkT.norm, h2, aA, d0, aA, gq, reduceEq, reduceLT, reduceLE, implies_true, reduceCtorEq, if_true, if_false, go_sem, reduceEqDiff, Nat.reduceLT, reduceAdd, reduceSub, reduceLeDiff, reduceReplicate, reduceToNat]
  unfold aF.L2
  refine kT (σ := Nat) (fun i => .int .i64 i) (fun s => .box A.V :: .map (.sb m) :: .row .own v (.recs l1) :: T) (fun i => b - i) (fun i => a + 1 ≤ i ∧ i ≤ b ∧ SegS a i l1) i0 rfl rfl ⟨hi1, hi2, hs⟩ ?_
  rintro I2 back2 i ⟨hi1, hi2, hs⟩
  have e1 : IntKind.i64.wrap ((i : Int) - 1) = ((i - 1 : Nat) : Int) := by rw [w64 (by omega) (by omega)]; omega
  have e2 : IntKind.i64.wrap ((b : Int) - a) = ((b - a : Nat) : Int) := by rw [w64 (by omega) (by omega)]; omega
  have e3 : IntKind.i64.wrap ((i : Int) - a) = ((i - a : Nat) : Int) := by rw [w64 (by omega) (by omega)]; omega
  have e4 : IntKind.i64.wrap ((b : Int) - i) = ((b - i : Nat) : Int) := by rw [w64 (by omega) (by omega)]; omega
  by_cases hib : i < b
  · have d1 : decide ((i : Int) < (b : Int)) = true := decide_eq_true (by omega)
    have d2 : decide ((i : Int) = (b : Int)) = false := decide_eq_false (by omega)
    cases hlt : ltB (kyL l1 i) (kyL l1 (i - 1)) with
    | false =>
      simp only [hTn _ _, SkT.norm, h2, aA, d1, e1, e2, hlt, Int.toNat_natCast, bX.C, iS, iP, jE, jP, iK, List.length_set, aA, gq, reduceEq, reduceLT, reduceLE, implies_true, reduceCtorEq, if_true, if_false, go_sem, reduceEqDiff, Nat.reduceLT, reduceAdd, reduceSub, reduceLeDiff, reduceReplicate, reduceToNat]
      refine ⟨⟨by omega, by omega⟩, by omega, ⟨by omega, by omega⟩, by omega, ?_⟩
      refine back2 (i + 1) (by omega) (by rw [eG (by omega)]) rfl ⟨by omega, by omega, ?_⟩
      intro p q h1 h2 h3
      by_cases hq : q = i
      · subst hq
        by_cases hp : p = q - 1
        · subst hp; exact hlt
        · exact nI (hs p (q - 1) h1 (by omega) (by omega)) hlt
      · exact hs p q h1 h2 (by omega)
    | true =>
      have hsw : SegP a b l (gR l1 i (i - 1)) := hp.trans (SegP.swap (by omega) (by omega) (by omega) (by omega) (by omega))
      have hins : InsS a (i - 1) i (gR l1 i (i - 1)) := fun p q h1 h2 h3 h4 => by
        rw [jJ (by omega) (by omega), jJ (by omega) (by omega), if_neg (by omega), if_neg (by omega), if_neg (by omega), if_neg (by omega)]
        exact hs p q h1 h2 (by omega)
      have hsl : (gR l1 i (i - 1)).length = n := by rw [nJ]; omega
      simp only [hTn _ _, SkT.norm, h2, aA, d1, d2, e1, e2, e3, e4, hlt, Int.toNat_natCast, bX.C, iS, iP, jE, jP, iK, List.length_set, eG (show i < 4611686018427387904 by omega), aA, gq, reduceEq, reduceLT, reduceLE, implies_true, reduceCtorEq, if_true, if_false, go_sem, reduceEqDiff, Nat.reduceLT, reduceAdd, reduceSub, reduceLeDiff, reduceReplicate, reduceToNat]
      generalize gR l1 i (i - 1) = l2 at *
      have hend : ∀ l3, SegP a b l l3 → SegS a i l3 → ∃ m_1, m_1 < 5 - jc ∧ I m_1 [.int .i64 i, .int .i64 ((jc + 1 : Nat) : Int)] (.box A.V :: .map (.sb m) :: .row .own v (.recs l3) :: T) := fun l3 p3 s3 => back (l3, i, jc + 1) (by simp only; omega) rfl rfl ⟨by simp only; omega, hi1, hi2, p3, s3⟩
      have hright : ∀ (c : Ctx), c.drawn = false → c.envF 109 = bX.C → ∀ l3, SegP a b l l3 → SegS a i l3 → ∀ (J : AV → AV → AV → AV → AV → AV → List AObj → Prop) (K : AOut → List AObj → Prop), i + 1 < b → (∀ l4, SegP a b l l4 → SegS a i l4 → J (.sref false 2 v 0 n) (.int .i64 a) (.int .i64 b) hitF (.int .i64 i) (.int .i64 jc) (.box A.V :: .map (.sb m) :: .row .own v (.recs l4) :: T)) → aF.L4 c J K [.int .i64 ((i + 1 : Nat) : Int)] (.box A.V :: .map (.sb m) :: .row .own v (.recs l3) :: T) (T.length + 1 + 1 + 1) (.sref false 2 v 0 n) (.int .i64 a) (.int .i64 b) hitF (.int .i64 i) (.int .i64 jc) := fun c hd hf l3 p3 s3 J K h1 hJ =>
        aJn c hd hf A m v l3 T n a b i jc hTn (by rw [p3.len]; exact hn) h1 hbn hr J K fun l4 p4 => hJ l4 (p3.trans (p4.mono (by omega) (Nat.le_refl _))) (s3.keep p4 (.inl (Nat.le_refl _)))
      refine ⟨⟨by omega, by omega⟩, by omega, ⟨by omega, by omega⟩, by omega, fun h50 => hK2 l1 hp, fun h50 => ⟨⟨by omega, by omega⟩, by omega, ⟨by omega, by omega⟩, by omega, ⟨by omega, by omega⟩, by omega, ⟨by omega, by omega⟩, by omega, fun hge => ?_, fun hge => ?_⟩⟩
      · have hpr : PreS a i l2 := (hpre.keep hsw).imp id fun h k k1 k2 => h k k1 (by omega)
        refine aKJ _ rfl rfl A m v l2 T n a b i jc hTn hsl.symm (by omega) (by omega) hpr hr hins _ _ fun l3 p3 s3 => ?_
        have p3' : SegP a b l l3 := hsw.trans (p3.mono (Nat.le_refl _) (by omega))
        simp only [hTn _ _, SkT.norm, h2, e4, eG (show i < 4611686018427387904 by omega), eG (show jc < 4611686018427387904 by omega), aA, gq, reduceEq, reduceLT, reduceLE, implies_true, reduceCtorEq, if_true, if_false, go_sem, reduceEqDiff, Nat.reduceLT, reduceAdd, reduceSub, reduceLeDiff, reduceReplicate, reduceToNat]
        refine ⟨fun hge2 => hright _ rfl rfl l3 p3' s3 _ _ (by omega) fun l4 p4 s4 => ?_, fun _ => hend l3 p3' s3⟩
        simp only [hTn _ _, SkT.norm, h2, eG (show jc < 4611686018427387904 by omega), aA, gq, reduceEq, reduceLT, reduceLE, implies_true, reduceCtorEq, if_true, if_false, go_sem, reduceEqDiff, Nat.reduceLT, reduceAdd, reduceSub, reduceLeDiff, reduceReplicate, reduceToNat]
        exact hend l4 p4 s4
      · refine ⟨fun hge2 => hright _ rfl rfl l2 hsw (SegS.one (by omega)) _ _ (by omega) fun l4 p4 s4 => ?_, fun _ => by rw [eG (by omega)]; exact hend l2 hsw (SegS.one (by omega))⟩
        simp only [hTn _ _, SkT.norm, h2, eG (show jc < 4611686018427387904 by omega), aA, gq, reduceEq, reduceLT, reduceLE, implies_true, reduceCtorEq, if_true, if_false, go_sem, reduceEqDiff, Nat.reduceLT, reduceAdd, reduceSub, reduceLeDiff, reduceReplicate, reduceToNat]
        exact hend l4 p4 s4
  · obtain rfl : i = b := by omega
    have d1 : decide ((i : Int) < (i : Int)) = false := decide_eq_false (by omega)
    simp only [hTn _ _, SkT.norm, h2, aA, d1, decide_true, aA, gq, reduceEq, reduceLT, reduceLE, implies_true, reduceCtorEq, if_true, if_false, go_sem, reduceEqDiff, Nat.reduceLT, reduceAdd, reduceSub, reduceLeDiff, reduceReplicate, reduceToNat]
    exact hK1 l1 hp hs
def aL.K : Con := fun args h K => match args with
  | [a0, a1, a2, a3, a4] => aL.H (ctx [(109, bX.C)] [] aL.loops) a0 a1 a2 a3 a4 h K
  | _ => False
theorem aL.spec : dH Tryz.prog 133 aL.K := by
  refine dH.of (bQ (F := [(109, bX.C)]) (S := []) (by simpa using bX.spec) (by simp) aL.loops) aL.at aL.nm aL.bd ?_
  intro args h K hC
  unfold aL.K at hC
  split at hC
  · rw [aL.eq]; exact hC
  · exact hC.elim
def wK (a b i j : Nat) (l : List RecT) : Prop := a + 1 ≤ i ∧ i ≤ j + 1 ∧ j < b ∧ a ≤ j ∧ (∀ k, a < k → k < i → leB (kyL l k) (kyL l a)) ∧ ∀ k, j < k → k < b → leB (kyL l a) (kyL l k)
theorem wK.swap {a b i j : Nat} {l : List RecT} (h : wK a b i j l) (hij : i < j) (hb : b ≤ l.length) (h1 : leB (kyL l a) (kyL l i)) (h2 : leB (kyL l j) (kyL l a)) : wK a b (i + 1) (j - 1) (gR l i j) := by
  obtain ⟨q1, q2, q3, q4, q5, q6⟩ := h
  have hil : i < l.length := by omega
  have hjl : j < l.length := by omega
  have ea : kyL (gR l i j) a = kyL l a := by rw [jJ hil hjl, if_neg (by omega), if_neg (by omega)]
  refine ⟨by omega, by omega, by omega, by omega, fun k k1 k2 => ?_, fun k k1 k2 => ?_⟩
  · rw [ea, jJ hil hjl, if_neg (by omega)]
    by_cases e : k = i
    · rw [if_pos e]; exact h2
    · rw [if_neg e]; exact q5 k k1 (by omega)
  · rw [ea, jJ hil hjl]
    by_cases e : k = j
    · rw [if_pos e]; exact h1
    · rw [if_neg e, if_neg (by omega)]; exact q6 k (by omega) k2
theorem wK.fin {a b i j : Nat} {l : List RecT} (h : wK a b i j l) (hij : j < i) (hb : b ≤ l.length) : pW a j b (gR l a j) := by
  obtain ⟨q1, q2, q3, q4, q5, q6⟩ := h
  have hal : a < l.length := by omega
  have hjl : j < l.length := by omega
  have ej : kyL (gR l a j) j = kyL l a := by rw [jJ hal hjl, if_pos rfl]
  refine ⟨fun k k1 k2 => ?_, fun k k1 k2 => ?_⟩
  · rw [ej, jJ hal hjl, if_neg (by omega)]
    by_cases e : k = a
    · rw [if_pos e]; exact q5 j (by omega) (by omega)
    · rw [if_neg e]; exact q5 k (by omega) (by omega)
  · rw [ej, jJ hal hjl, if_neg (by omega), if_neg (by omega)]; exact q6 k k1 k2
theorem aDv {l : List RecT} {i j : Nat} (hi : i < l.length) (hj : j < l.length) : gR l i j = gR l j i := by
  refine List.ext_getElem? fun k => ?_
  have h : ∀ k, (gR l i j).getD k d0 = (gR l j i).getD k d0 := fun k => by
    rw [tJ hi hj, tJ hj hi]
    by_cases e1 : k = j
    · by_cases e2 : k = i
      · rw [if_pos e1, if_pos e2, ← e1, ← e2]
      · rw [if_pos e1, if_neg e2, if_pos e1]
    · rw [if_neg e1, if_neg e1]
  rcases Nat.lt_or_ge k l.length with hk | hk
  · have := h k
    rw [List.getD_eq_getElem?_getD, List.getD_eq_getElem?_getD, List.getElem?_eq_getElem (by rw [nJ]; exact hk), List.getElem?_eq_getElem (by rw [nJ]; exact hk)] at this
    rw [List.getElem?_eq_getElem (by rw [nJ]; exact hk), List.getElem?_eq_getElem (by rw [nJ]; exact hk)]
    exact congrArg some this
  · rw [List.getElem?_eq_none (by rw [nJ]; exact hk), List.getElem?_eq_none (by rw [nJ]; exact hk)]
theorem aGz : aL.L4 = aL.L1 := rfl
theorem aGA : aL.L5 = aL.L2 := rfl
theorem aAH (c : Ctx) (hd : c.drawn = false) (hf : c.envF 109 = bX.C) (A : SkT) (m : bD → Bool) (v : Nat) (l : List RecT) (T : List AObj) (n a j i0 : Nat) (hTn : OkT T) (hn : n = l.length) (ha : a < i0) (hj : j < n) (hij : i0 ≤ j + 1) (hr : roomy n)
    (J : AV → AV → AV → AV → AV → List AObj → Prop) (K : AOut → List AObj → Prop)
    (hJ : ∀ i : Nat, i0 ≤ i → i ≤ j + 1 → (∀ k, i0 ≤ k → k < i → leB (kyL l k) (kyL l a)) → (i ≤ j → leB (kyL l a) (kyL l i)) → J (.sref false 2 v 0 n) (.int .i64 a) hitF (.int .i64 i) (.int .i64 j) (.box A.V :: .map (.sb m) :: .row .own v (.recs l) :: T)) :
    aL.L1 c J K [.int .i64 i0] (.box A.V :: .map (.sb m) :: .row .own v (.recs l) :: T) (T.length + 1 + 1 + 1) (.sref false 2 v 0 n) (.int .i64 a) hitF (.int .i64 j) := by
  have hr' := hr
  unfold roomy at hr'
  have h2 : 2 < T.length + 1 + 1 + 1 := by omega
  unfold aL.L1
  refine kT (σ := Nat) (fun i => .int .i64 i) (fun s => .box A.V :: .map (.sb m) :: .row .own v (.recs l) :: T) (fun i => j + 1 - i) (fun i => i0 ≤ i ∧ i ≤ j + 1 ∧ ∀ k, i0 ≤ k → k < i → leB (kyL l k) (kyL l a)) i0 rfl rfl ⟨Nat.le_refl _, hij, fun k h1 h2 => by omega⟩ ?_
  rintro I back i ⟨hi1, hi2, hall⟩
  by_cases hle : i ≤ j
  · have d1 : decide ((i : Int) ≤ (j : Int)) = true := decide_eq_true (by omega)
    simp only [hTn _ _, SkT.norm, h2, aA, d1, hd, hf, Int.toNat_natCast, bX.C, iS, iP, jE, aA, gq, reduceEq, reduceLT, reduceLE, implies_true, reduceCtorEq, if_true, if_false, go_sem, reduceEqDiff, Nat.reduceLT, reduceAdd, reduceSub, reduceLeDiff, reduceReplicate, reduceToNat]
    refine ⟨⟨by omega, by omega⟩, by omega, ⟨by omega, by omega⟩, by omega, fun h => ?_, fun h => hJ i hi1 hi2 hall fun _ => by unfold leB; simpa using h⟩
    refine back (i + 1) (by omega) (by rw [eG (by omega)]) rfl ⟨by omega, by omega, fun k k1 k2 => ?_⟩
    by_cases e : k = i
    · subst e; exact qY h
    · exact hall k k1 (by omega)
  · have d1 : decide ((i : Int) ≤ (j : Int)) = false := decide_eq_false (by omega)
    simp only [hTn _ _, SkT.norm, h2, aA, d1, aA, gq, reduceEq, reduceLT, reduceLE, implies_true, reduceCtorEq, if_true, if_false, go_sem, reduceEqDiff, Nat.reduceLT, reduceAdd, reduceSub, reduceLeDiff, reduceReplicate, reduceToNat]
    exact hJ i hi1 hi2 hall fun h => absurd h hle
theorem xW (c : Ctx) (hd : c.drawn = false) (hf : c.envF 109 = bX.C) (A : SkT) (m : bD → Bool) (v : Nat) (l : List RecT) (T : List AObj) (n a i j0 : Nat) (hTn : OkT T) (hn : n = l.length) (ha : a < i) (hj : j0 < n) (hij : i ≤ j0 + 1) (hr : roomy n)
    (J : AV → AV → AV → AV → AV → List AObj → Prop) (K : AOut → List AObj → Prop)
    (hJ : ∀ j : Nat, j ≤ j0 → i ≤ j + 1 → (∀ k, j < k → k ≤ j0 → leB (kyL l a) (kyL l k)) → (i ≤ j → ltB (kyL l j) (kyL l a) = true) → J (.sref false 2 v 0 n) (.int .i64 a) hitF (.int .i64 i) (.int .i64 j) (.box A.V :: .map (.sb m) :: .row .own v (.recs l) :: T)) :
    aL.L2 c J K [.int .i64 j0] (.box A.V :: .map (.sb m) :: .row .own v (.recs l) :: T) (T.length + 1 + 1 + 1) (.sref false 2 v 0 n) (.int .i64 a) hitF (.int .i64 i) := by
  have hr' := hr
  unfold roomy at hr'
  have h2 : 2 < T.length + 1 + 1 + 1 := by omega
  unfold aL.L2
  refine kT (σ := Nat) (fun i => .int .i64 i) (fun s => .box A.V :: .map (.sb m) :: .row .own v (.recs l) :: T) (fun j => j) (fun j => j ≤ j0 ∧ i ≤ j + 1 ∧ ∀ k, j < k → k ≤ j0 → leB (kyL l a) (kyL l k)) j0 rfl rfl ⟨Nat.le_refl _, hij, fun k h1 h2 => by omega⟩ ?_
  rintro I back j ⟨hj1, hj2, hall⟩
  by_cases hle : i ≤ j
  · have d1 : decide ((i : Int) ≤ (j : Int)) = true := decide_eq_true (by omega)
    have e1 : IntKind.i64.wrap ((j : Int) - 1) = ((j - 1 : Nat) : Int) := by rw [w64 (by omega) (by omega)]; omega
    simp only [hTn _ _, SkT.norm, h2, aA, d1, e1, hd, hf, Int.toNat_natCast, bX.C, iS, iP, jE, aA, gq, reduceEq, reduceLT, reduceLE, implies_true, reduceCtorEq, if_true, if_false, go_sem, reduceEqDiff, Nat.reduceLT, reduceAdd, reduceSub, reduceLeDiff, reduceReplicate, reduceToNat]
    refine ⟨⟨by omega, by omega⟩, by omega, ⟨by omega, by omega⟩, by omega, ?_⟩
    cases hlt : ltB (kyL l j) (kyL l a) with
    | false =>
      simp only [aA, gq, reduceEq, reduceLT, reduceLE, implies_true, reduceCtorEq, if_true, if_false, go_sem, reduceEqDiff, Nat.reduceLT, reduceAdd, reduceSub, reduceLeDiff, reduceReplicate, reduceToNat]
      refine back (j - 1) (by omega) rfl rfl ⟨by omega, by omega, fun k k1 k2 => ?_⟩
      by_cases e : k = j
      · subst e; exact hlt
      · exact hall k (by omega) k2
    | true =>
      simp only [aA, gq, reduceEq, reduceLT, reduceLE, implies_true, reduceCtorEq, if_true, if_false, go_sem, reduceEqDiff, Nat.reduceLT, reduceAdd, reduceSub, reduceLeDiff, reduceReplicate, reduceToNat]
      exact hJ j hj1 hj2 hall fun _ => hlt
  · have d1 : decide ((i : Int) ≤ (j : Int)) = false := decide_eq_false (by omega)
    simp only [hTn _ _, SkT.norm, h2, aA, d1, aA, gq, reduceEq, reduceLT, reduceLE, implies_true, reduceCtorEq, if_true, if_false, go_sem, reduceEqDiff, Nat.reduceLT, reduceAdd, reduceSub, reduceLeDiff, reduceReplicate, reduceToNat]
    exact hJ j hj1 hj2 hall fun h => absurd h hle
theorem aHE (A : SkT) (m : bD → Bool) (v : Nat) (l : List RecT) (T : List AObj) (hTn : OkT T) (n a b p : Nat) (hn : n = l.length) (hab : a + 1 < b) (hbn : b ≤ n) (hp : a ≤ p) (hpb : p < b) (hr : roomy n) (K : AOut → List AObj → Prop)
    (hK : ∀ l' q al, SegP a b l l' → a ≤ q → q < b → pW a q b l' → K (.ret (.tup [.int .i64 q, .bool al])) (hpS A m v l' T)) :
    aL.K [.sref false 2 v 0 n, .int .i64 a, .int .i64 b, .int .i64 p, hitF] (hpS A m v l T) K := by
  have hr' := hr
  unfold roomy at hr'
  have h2 : 2 < T.length + 1 + 1 + 1 := by omega
  have e1 : IntKind.i64.wrap ((b : Int) - 1) = ((b - 1 : Nat) : Int) := by rw [w64 (by omega) (by omega)]; omega
  unfold aL.K aL.H
  simp only [hpS, hTn _ _, SkT.norm, h2, e1, eG (show a < 4611686018427387904 by omega), aA, Int.toNat_natCast, iS, iP, jP, iK, List.length_set, aA, gq, reduceEq, reduceLT, reduceLE, implies_true, reduceCtorEq, if_true, if_false, go_sem, reduceEqDiff, Nat.reduceLT, reduceAdd, reduceSub, reduceLeDiff, reduceReplicate, reduceToNat] at hK ⊢
  refine ⟨⟨by omega, by omega⟩, by omega, ⟨by omega, by omega⟩, by omega, ⟨by omega, by omega⟩, by omega, ⟨by omega, by omega⟩, by omega, ?_⟩
  have hp1 : SegP a b l (gR l a p) := SegP.swap (by omega) (by omega) (by omega) (by omega) (by omega)
  generalize gR l a p = l1 at *
  have hl1 := hp1.len
  refine aAH _ rfl rfl A m v l1 T n a (b - 1) (a + 1) hTn (by omega) (by omega) (by omega) (by omega) hr _ _ fun i hi1 hi2 hi3 hi4 => ?_
  simp only [hTn _ _, SkT.norm, h2, aA, gq, reduceEq, reduceLT, reduceLE, implies_true, reduceCtorEq, if_true, if_false, go_sem, reduceEqDiff, Nat.reduceLT, reduceAdd, reduceSub, reduceLeDiff, reduceReplicate, reduceToNat]
  refine xW _ rfl rfl A m v l1 T n a i (b - 1) hTn (by omega) (by omega) (by omega) (by omega) hr _ _ fun j hj1 hj2 hj3 hj4 => ?_
  have hS : wK a b i j l1 := ⟨hi1, hj2, by omega, by omega, fun k k1 k2 => hi3 k (by omega) k2, fun k k1 k2 => hj3 k k1 (by omega)⟩
  have e2 : j ≠ 0 → IntKind.i64.wrap ((j : Int) - 1) = ((j - 1 : Nat) : Int) := fun h => by rw [w64 (by omega) (by omega)]; omega
  simp only [hTn _ _, SkT.norm, h2, eG (show i < 4611686018427387904 by omega), aA, Int.toNat_natCast, iS, iP, jP, iK, List.length_set, aA, gq, reduceEq, reduceLT, reduceLE, implies_true, reduceCtorEq, if_true, if_false, go_sem, reduceEqDiff, Nat.reduceLT, reduceAdd, reduceSub, reduceLeDiff, reduceReplicate, reduceToNat]
  refine ⟨fun hgt => ⟨⟨by omega, by omega⟩, by omega, ⟨by omega, by omega⟩, by omega, ⟨by omega, by omega⟩, by omega, ⟨by omega, by omega⟩, by omega, ?_⟩, fun hle => ⟨⟨by omega, by omega⟩, by omega, ⟨by omega, by omega⟩, by omega, ⟨by omega, by omega⟩, by omega, ⟨by omega, by omega⟩, by omega, ?_⟩⟩
  · rw [aDv (by omega) (by omega)]
    exact hK _ j true (hp1.trans (SegP.swap (by omega) (by omega) (by omega) (by omega) (by omega))) (by omega) (by omega) (hS.fin (by omega) (by omega))
  have hij : i < j := by
    rcases Nat.lt_or_ge i j with h | h
    · exact h
    · exfalso
      obtain rfl : i = j := by omega
      have := hj4 (Nat.le_refl _)
      have h' := hi4 (by omega)
      unfold leB at h'
      rw [this] at h'; cases h'
  have hS2 := hS.swap hij (by omega) (hi4 (by omega)) (qY (hj4 (by omega)))
  have hp2 : SegP a b l (gR l1 i j) := hp1.trans (SegP.swap (by omega) (by omega) (by omega) (by omega) (by omega))
  generalize gR l1 i j = l2 at *
  rw [e2 (by omega)]
  unfold aL.L3
  refine oI (σ := List RecT × Nat × Nat) (fun s => .int .i64 s.2.1) (fun s => .int .i64 s.2.2) (fun s => .box A.V :: .map (.sb m) :: .row .own v (.recs s.1) :: T) (fun s => s.2.2) (fun s => SegP a b l s.1 ∧ wK a b s.2.1 s.2.2 s.1) (l2, i + 1, j - 1) rfl rfl ⟨hp2, hS2⟩ ?_
  rintro I back ⟨l3, i3, j3⟩ ⟨hp3, q1, q2, q3, q4, q5, q6⟩
  simp only at hp3 q1 q2 q3 q4 q5 q6 ⊢
  have hl3 := hp3.len
  simp only [hTn _ _, SkT.norm, h2, aA, aGz, aGA, aA, gq, reduceEq, reduceLT, reduceLE, implies_true, reduceCtorEq, if_true, if_false, go_sem, reduceEqDiff, Nat.reduceLT, reduceAdd, reduceSub, reduceLeDiff, reduceReplicate, reduceToNat]
  refine aAH _ rfl rfl A m v l3 T n a j3 i3 hTn (by omega) (by omega) (by omega) (by omega) hr _ _ fun i4 g1 g2 g3 g4 => ?_
  simp only [hTn _ _, SkT.norm, h2, aA, gq, reduceEq, reduceLT, reduceLE, implies_true, reduceCtorEq, if_true, if_false, go_sem, reduceEqDiff, Nat.reduceLT, reduceAdd, reduceSub, reduceLeDiff, reduceReplicate, reduceToNat]
  refine xW _ rfl rfl A m v l3 T n a i4 j3 hTn (by omega) (by omega) (by omega) (by omega) hr _ _ fun j4 k1 k2 k3 k4 => ?_
  have hS4 : wK a b i4 j4 l3 := ⟨by omega, k2, by omega, by omega, fun k z1 z2 => by
    by_cases e : k < i3
    · exact q5 k z1 e
    · exact g3 k (by omega) z2, fun k z1 z2 => by
    by_cases e : j3 < k
    · exact q6 k e z2
    · exact k3 k z1 (by omega)⟩
  have e4 : j4 ≠ 0 → IntKind.i64.wrap ((j4 : Int) - 1) = ((j4 - 1 : Nat) : Int) := fun h => by rw [w64 (by omega) (by omega)]; omega
  simp only [hTn _ _, SkT.norm, h2, eG (show i4 < 4611686018427387904 by omega), aA, Int.toNat_natCast, iS, iP, jP, iK, List.length_set, aA, gq, reduceEq, reduceLT, reduceLE, implies_true, reduceCtorEq, if_true, if_false, go_sem, reduceEqDiff, Nat.reduceLT, reduceAdd, reduceSub, reduceLeDiff, reduceReplicate, reduceToNat]
  refine ⟨fun hgt => ⟨⟨by omega, by omega⟩, by omega, ⟨by omega, by omega⟩, by omega, ⟨by omega, by omega⟩, by omega, ⟨by omega, by omega⟩, by omega, ?_⟩, fun hle => ⟨⟨by omega, by omega⟩, by omega, ⟨by omega, by omega⟩, by omega, ⟨by omega, by omega⟩, by omega, ⟨by omega, by omega⟩, by omega, ?_⟩⟩
  · rw [aDv (by omega) (by omega)]
    exact hK _ j4 false (hp3.trans (SegP.swap (by omega) (by omega) (by omega) (by omega) (by omega))) (by omega) (by omega) (hS4.fin (by omega) (by omega))
  · have hij4 : i4 < j4 := by
      rcases Nat.lt_or_ge i4 j4 with h | h
      · exact h
      · exfalso
        obtain rfl : i4 = j4 := by omega
        have := k4 (Nat.le_refl _)
        have h' := g4 (by omega)
        unfold leB at h'
        rw [this] at h'; cases h'
    rw [e4 (by omega)]
    exact back (gR l3 i4 j4, i4 + 1, j4 - 1) (by simp only; omega) rfl rfl ⟨hp3.trans (SegP.swap (by omega) (by omega) (by omega) (by omega) (by omega)), hS4.swap hij4 (by omega) (g4 (by omega)) (qY (k4 (by omega)))⟩
end Lam
namespace Lam
open Go Go.Proofs
def aY.K : Con := fun args h K => match args with
  | [a0, a1, a2, a3] => aY.H (ctx [] [] aY.loops) a0 a1 a2 a3 h K
  | _ => False
theorem aY.spec : dH Tryz.prog 130 aY.K := by
  refine dH.of (bQ (F := []) (S := []) (by simp) (by simp) aY.loops) aY.at aY.nm aY.bd ?_
  intro args h K hC
  unfold aY.K at hC
  split at hC
  · rw [aY.eq]; exact hC
  · exact hC.elim
theorem aKK (A : SkT) (m : bD → Bool) (v : Nat) (l : List RecT) (T : List AObj) (hTn : OkT T) (n a b : Nat) (hn : n = l.length) (hab : a < b) (hbn : b ≤ n) (hr : roomy n) (K : AOut → List AObj → Prop)
    (hK : ∀ l', SegP a b l l' → K (.ret (.tup [])) (hpS A m v l' T)) :
    aY.K [.sref false 2 v 0 n, .int .i64 a, .int .i64 b, hitF] (hpS A m v l T) K := by
  have hr' := hr
  unfold roomy at hr'
  have h2 : 2 < T.length + 1 + 1 + 1 := by omega
  have e1 : IntKind.i64.wrap ((b : Int) - 1) = ((b - 1 : Nat) : Int) := by rw [w64 (by omega) (by omega)]; omega
  unfold aY.K aY.H
  simp only [hpS, hTn _ _, SkT.norm, h2, e1, aA, gq, reduceEq, reduceLT, reduceLE, implies_true, reduceCtorEq, if_true, if_false, go_sem, reduceEqDiff, Nat.reduceLT, reduceAdd, reduceSub, reduceLeDiff, reduceReplicate, reduceToNat] at hK ⊢
  unfold aY.L1
  refine oI (σ := List RecT × Nat × Nat) (fun s => .int .i64 s.2.1) (fun s => .int .i64 s.2.2) (fun s => .box A.V :: .map (.sb m) :: .row .own v (.recs s.1) :: T) (fun s => s.2.2) (fun s => a ≤ s.2.1 ∧ s.2.2 < b ∧ s.2.1 ≤ n ∧ SegP a b l s.1) (l, a, b - 1) rfl rfl ⟨Nat.le_refl _, by simp only; omega, by simp only; omega, SegP.refl⟩ ?_
  rintro I back ⟨l1, i, j⟩ ⟨hi, hj, hin, hp⟩
  simp only at hi hj hin hp ⊢
  have hl1 := hp.len
  by_cases hij : i < j
  · have e2 : IntKind.i64.wrap ((j : Int) - 1) = ((j - 1 : Nat) : Int) := by rw [w64 (by omega) (by omega)]; omega
    have d1 : decide ((i : Int) < (j : Int)) = true := decide_eq_true (by omega)
    simp only [hTn _ _, SkT.norm, h2, aA, d1, e2, eG (show i < 4611686018427387904 by omega), Int.toNat_natCast, iS, jP, iK, List.length_set, aA, gq, reduceEq, reduceLT, reduceLE, implies_true, reduceCtorEq, if_true, if_false, go_sem, reduceEqDiff, Nat.reduceLT, reduceAdd, reduceSub, reduceLeDiff, reduceReplicate, reduceToNat]
    exact ⟨⟨by omega, by omega⟩, by omega, ⟨by omega, by omega⟩, by omega, ⟨by omega, by omega⟩, by omega, ⟨by omega, by omega⟩, by omega, back (gR l1 i j, i + 1, j - 1) (by simp only; omega) rfl rfl ⟨by simp only; omega, by simp only; omega, by simp only; omega, hp.trans (SegP.swap (by omega) (by omega) (by omega) (by omega) (by omega))⟩⟩
  · have d1 : decide ((i : Int) < (j : Int)) = false := decide_eq_false (by omega)
    simp only [hTn _ _, SkT.norm, h2, aA, d1, aA, gq, reduceEq, reduceLT, reduceLE, implies_true, reduceCtorEq, if_true, if_false, go_sem, reduceEqDiff, Nat.reduceLT, reduceAdd, reduceSub, reduceLeDiff, reduceReplicate, reduceToNat]
    exact hK l1 hp
def bG.K : Con := fun args h K => match args with
  | [a0, a1, a2, a3, a4] => bG.H (ctx [(109, bX.C)] [] bG.loops) a0 a1 a2 a3 a4 h K
  | _ => False
theorem bG.spec : dH Tryz.prog 142 bG.K := by
  refine dH.of (bQ (F := [(109, bX.C)]) (S := []) (by simpa using bX.spec) (by simp) bG.loops) bG.at bG.nm bG.bd ?_
  intro args h K hC
  unfold bG.K at hC
  split at hC
  · rw [bG.eq]; exact hC
  · exact hC.elim
theorem aKL (A : SkT) (m : bD → Bool) (v : Nat) (l : List RecT) (T : List AObj) (hTn : OkT T) (n lo hi a : Nat) (hn : n = l.length) (hlo : lo ≤ n) (hah : a + hi ≤ n) (hr : roomy n) (hh : qJ a (lo + 1) hi l) (K : AOut → List AObj → Prop)
    (hK : ∀ l', SegP a (a + hi) l l' → qJ a lo hi l' → K (.ret (.tup [])) (hpS A m v l' T)) :
    bG.K [.sref false 2 v 0 n, .int .i64 lo, .int .i64 hi, .int .i64 a, hitF] (hpS A m v l T) K := by
  have hr' := hr
  unfold roomy at hr'
  have h2 : 2 < T.length + 1 + 1 + 1 := by omega
  unfold bG.K bG.H
  simp only [hpS, hTn _ _, SkT.norm, h2, aA, gq, reduceEq, reduceLT, reduceLE, implies_true, reduceCtorEq, if_true, if_false, go_sem, reduceEqDiff, Nat.reduceLT, reduceAdd, reduceSub, reduceLeDiff, reduceReplicate, reduceToNat] at hK ⊢
  unfold bG.L1
  refine kT (σ := List RecT × Nat) (fun s => .int .i64 s.2) (fun s => .box A.V :: .map (.sb m) :: .row .own v (.recs s.1) :: T) (fun s => n + 1 - s.2) (fun s => lo ≤ s.2 ∧ s.2 ≤ n ∧ SegP a (a + hi) l s.1 ∧ uM a lo s.2 hi s.1) (l, lo) rfl rfl ⟨Nat.le_refl _, hlo, SegP.refl, uM.begin hh⟩ ?_
  rintro I back ⟨l1, r⟩ ⟨hr1, hr2, hp, hs⟩
  simp only at hr1 hr2 hp hs ⊢
  have hl1 := hp.len
  have e1 : IntKind.i64.wrap (2 * (r : Int)) = ((2 * r : Nat) : Int) := by rw [w64 (by omega) (by omega)]; omega
  have e2 : ∀ k : Nat, k ≤ 4 * n + 4 → IntKind.i64.wrap ((a : Int) + (k : Int)) = ((a + k : Nat) : Int) := fun k hk => by rw [w64 (by omega) (by omega)]; omega
  simp only [hTn _ _, SkT.norm, h2, aA, e1, eG (show 2 * r < 4611686018427387904 by omega), eG (show 2 * r + 1 < 4611686018427387904 by omega), e2 (2 * r + 1) (by omega), e2 r (by omega), eG (show a + (2 * r + 1) < 4611686018427387904 by omega), aA, gq, reduceEq, reduceLT, reduceLE, implies_true, reduceCtorEq, if_true, if_false, go_sem, reduceEqDiff, Nat.reduceLT, reduceAdd, reduceSub, reduceLeDiff, reduceReplicate, reduceToNat]
  refine ⟨fun hge => hK l1 hp (hs.done fun c hc hch => by omega), fun hlt => ?_⟩
  have e3 : ∀ c : Nat, c ≤ 2 * r + 2 → IntKind.i64.wrap ((a : Int) + (c : Int)) = ((a + c : Nat) : Int) := fun c hc => e2 c (by omega)
  have hfin : ∀ c : Nat, (c = 2 * r + 1 ∨ c = 2 * r + 2) → c < hi → (∀ d, (d = 2 * r + 1 ∨ d = 2 * r + 2) → d < hi → leB (kyL l1 (a + d)) (kyL l1 (a + c))) → ltB (kyL l1 (a + r)) (kyL l1 (a + c)) = true →
      ∃ m_1, m_1 < n + 1 - r ∧ I m_1 [.int .i64 c] (.box A.V :: .map (.sb m) :: .row .own v (.recs (gR l1 (a + r) (a + c))) :: T) := fun c h1 h3 h4 h5 =>
    back (gR l1 (a + r) (a + c), c) (by simp only; omega) rfl rfl ⟨by simp only; omega, by simp only; omega, hp.trans (SegP.swap (by omega) (by omega) (by omega) (by omega) (by omega)), hs.step hr1 h1 h3 (by omega) (qY h5) h4⟩
  have hstop : ∀ c : Nat, (c = 2 * r + 1 ∨ c = 2 * r + 2) → c < hi → (∀ d, (d = 2 * r + 1 ∨ d = 2 * r + 2) → d < hi → leB (kyL l1 (a + d)) (kyL l1 (a + c))) → ltB (kyL l1 (a + r)) (kyL l1 (a + c)) = false → qJ a lo hi l1 := fun c h1 h3 h4 h5 =>
    hs.done fun d q1 q2 => nI (h4 d q1 q2) h5
  by_cases h22 : 2 * r + 2 < hi
  rotate_left
  · have d1 : decide (((2 * r + 1 + 1 : Nat) : Int) < (hi : Int)) = false := decide_eq_false (by omega)
    have hle : ∀ d, (d = 2 * r + 1 ∨ d = 2 * r + 2) → d < hi → leB (kyL l1 (a + d)) (kyL l1 (a + (2 * r + 1))) := fun d q1 q2 => by
      obtain rfl : d = 2 * r + 1 := by omega
      exact yY _
    cases hlt2 : ltB (kyL l1 (a + r)) (kyL l1 (a + (2 * r + 1))) with
    | false =>
      simp only [hTn _ _, SkT.norm, h2, aA, d1, hlt2, e3 (2 * r + 1) (by omega), Int.toNat_natCast, bX.C, iS, iP, jE, jP, iK, List.length_set, aA, gq, reduceEq, reduceLT, reduceLE, implies_true, reduceCtorEq, if_true, if_false, go_sem, reduceEqDiff, Nat.reduceLT, reduceAdd, reduceSub, reduceLeDiff, reduceReplicate, reduceToNat]
      exact ⟨⟨by omega, by omega⟩, by omega, ⟨by omega, by omega⟩, by omega, hK l1 hp (hstop _ (.inl rfl) (by omega) hle hlt2)⟩
    | true =>
      simp only [hTn _ _, SkT.norm, h2, aA, d1, hlt2, e3 (2 * r + 1) (by omega), Int.toNat_natCast, bX.C, iS, iP, jE, jP, iK, List.length_set, aA, gq, reduceEq, reduceLT, reduceLE, implies_true, reduceCtorEq, if_true, if_false, go_sem, reduceEqDiff, Nat.reduceLT, reduceAdd, reduceSub, reduceLeDiff, reduceReplicate, reduceToNat]
      exact ⟨⟨by omega, by omega⟩, by omega, ⟨by omega, by omega⟩, by omega, ⟨by omega, by omega⟩, by omega, ⟨by omega, by omega⟩, by omega, ⟨by omega, by omega⟩, by omega, ⟨by omega, by omega⟩, by omega, hfin _ (.inl rfl) (by omega) hle hlt2⟩
  · have d1 : decide (((2 * r + 1 + 1 : Nat) : Int) < (hi : Int)) = true := decide_eq_true (by omega)
    cases hch : ltB (kyL l1 (a + (2 * r + 1))) (kyL l1 (a + (2 * r + 1) + 1)) with
    | false =>
      have hle : ∀ d, (d = 2 * r + 1 ∨ d = 2 * r + 2) → d < hi → leB (kyL l1 (a + d)) (kyL l1 (a + (2 * r + 1))) := fun d q1 q2 => by
        rcases q1 with rfl | rfl
        · exact yY _
        · exact hch
      cases hlt2 : ltB (kyL l1 (a + r)) (kyL l1 (a + (2 * r + 1))) with
      | false =>
        simp only [hTn _ _, SkT.norm, h2, aA, d1, hch, hlt2, e3 (2 * r + 1) (by omega), Int.toNat_natCast, bX.C, iS, iP, jE, jP, iK, List.length_set, aA, gq, reduceEq, reduceLT, reduceLE, implies_true, reduceCtorEq, if_true, if_false, go_sem, reduceEqDiff, Nat.reduceLT, reduceAdd, reduceSub, reduceLeDiff, reduceReplicate, reduceToNat]
        exact ⟨⟨by omega, by omega⟩, by omega, ⟨by omega, by omega⟩, by omega, ⟨by omega, by omega⟩, by omega, ⟨by omega, by omega⟩, by omega, hK l1 hp (hstop _ (.inl rfl) (by omega) hle hlt2)⟩
      | true =>
        simp only [hTn _ _, SkT.norm, h2, aA, d1, hch, hlt2, e3 (2 * r + 1) (by omega), Int.toNat_natCast, bX.C, iS, iP, jE, jP, iK, List.length_set, aA, gq, reduceEq, reduceLT, reduceLE, implies_true, reduceCtorEq, if_true, if_false, go_sem, reduceEqDiff, Nat.reduceLT, reduceAdd, reduceSub, reduceLeDiff, reduceReplicate, reduceToNat]
        exact ⟨⟨by omega, by omega⟩, by omega, ⟨by omega, by omega⟩, by omega, ⟨by omega, by omega⟩, by omega, ⟨by omega, by omega⟩, by omega, ⟨by omega, by omega⟩, by omega, ⟨by omega, by omega⟩, by omega, ⟨by omega, by omega⟩, by omega, ⟨by omega, by omega⟩, by omega, hfin _ (.inl rfl) (by omega) hle hlt2⟩
    | true =>
      have hle : ∀ d, (d = 2 * r + 1 ∨ d = 2 * r + 2) → d < hi → leB (kyL l1 (a + d)) (kyL l1 (a + (2 * r + 1 + 1))) := fun d q1 q2 => by
        rcases q1 with rfl | rfl
        · exact qY hch
        · exact yY _
      cases hlt2 : ltB (kyL l1 (a + r)) (kyL l1 (a + (2 * r + 1 + 1))) with
      | false =>
        simp only [hTn _ _, SkT.norm, h2, aA, d1, hch, hlt2, e3 (2 * r + 1 + 1) (by omega), Int.toNat_natCast, bX.C, iS, iP, jE, jP, iK, List.length_set, aA, gq, reduceEq, reduceLT, reduceLE, implies_true, reduceCtorEq, if_true, if_false, go_sem, reduceEqDiff, Nat.reduceLT, reduceAdd, reduceSub, reduceLeDiff, reduceReplicate, reduceToNat]
        exact ⟨⟨by omega, by omega⟩, by omega, ⟨by omega, by omega⟩, by omega, ⟨by omega, by omega⟩, by omega, ⟨by omega, by omega⟩, by omega, hK l1 hp (hstop _ (.inr rfl) (by omega) hle hlt2)⟩
      | true =>
        simp only [hTn _ _, SkT.norm, h2, aA, d1, hch, hlt2, e3 (2 * r + 1 + 1) (by omega), Int.toNat_natCast, bX.C, iS, iP, jE, jP, iK, List.length_set, aA, gq, reduceEq, reduceLT, reduceLE, implies_true, reduceCtorEq, if_true, if_false, go_sem, reduceEqDiff, Nat.reduceLT, reduceAdd, reduceSub, reduceLeDiff, reduceReplicate, reduceToNat]
        exact ⟨⟨by omega, by omega⟩, by omega, ⟨by omega, by omega⟩, by omega, ⟨by omega, by omega⟩, by omega, ⟨by omega, by omega⟩, by omega, ⟨by omega, by omega⟩, by omega, ⟨by omega, by omega⟩, by omega, ⟨by omega, by omega⟩, by omega, ⟨by omega, by omega⟩, by omega, hfin _ (.inr rfl) (by omega) hle hlt2⟩
def bC.K : Con := fun args h K => match args with
  | [a0, a1, a2, a3] => bC.H (ctx [] [(142, bG.K)] bC.loops) a0 a1 a2 a3 h K
  | _ => False
theorem bC.spec : dH Tryz.prog 127 bC.K := by
  refine dH.of (bQ (F := []) (S := [(142, bG.K)]) (by simp) (by simpa using bG.spec) bC.loops) bC.at bC.nm bC.bd ?_
  intro args h K hC
  unfold bC.K at hC
  split at hC
  · rw [bC.eq]; exact hC
  · exact hC.elim
theorem aNR (A : SkT) (m : bD → Bool) (v : Nat) (l : List RecT) (T : List AObj) (hTn : OkT T) (n a b : Nat) (hn : n = l.length) (hab : a < b) (hbn : b ≤ n) (hr : roomy n) (K : AOut → List AObj → Prop)
    (hK : ∀ l', SegP a b l l' → SegS a b l' → K (.ret (.tup [])) (hpS A m v l' T)) :
    bC.K [.sref false 2 v 0 n, .int .i64 a, .int .i64 b, hitF] (hpS A m v l T) K := by
  have hr' := hr
  unfold roomy at hr'
  have h2 : 2 < T.length + 1 + 1 + 1 := by omega
  have e0 : IntKind.i64.wrap ((b : Int) - a) = ((b - a : Nat) : Int) := by rw [w64 (by omega) (by omega)]; omega
  have e1 : IntKind.i64.wrap (((b - a : Nat) : Int) - 1) = ((b - a - 1 : Nat) : Int) := by rw [w64 (by omega) (by omega)]; omega
  have e2 : IntKind.i64.wrap (((b - a - 1 : Nat) : Int).tdiv 2) = (((b - a - 1) / 2 + 1 : Nat) : Int) - 1 := by
    rw [Int.tdiv_eq_ediv_of_nonneg (by omega), w64 (by omega) (by omega)]; omega
  unfold bC.K bC.H
  simp only [hpS, hTn _ _, SkT.norm, h2, e0, e1, e2, aA, gq, reduceEq, reduceLT, reduceLE, implies_true, reduceCtorEq, if_true, if_false, go_sem, reduceEqDiff, Nat.reduceLT, reduceAdd, reduceSub, reduceLeDiff, reduceReplicate, reduceToNat] at hK ⊢
  unfold bC.L1
  refine kT (σ := List RecT × Nat) (fun s => .int .i64 ((s.2 : Int) - 1)) (fun s => .box A.V :: .map (.sb m) :: .row .own v (.recs s.1) :: T) (fun s => s.2) (fun s => s.2 ≤ n ∧ SegP a b l s.1 ∧ qJ a s.2 (b - a) s.1) (l, (b - a - 1) / 2 + 1) rfl rfl ⟨by simp only; omega, SegP.refl, fun i c q1 q2 q3 => by simp only at q1; omega⟩ ?_
  rintro I back ⟨l1, k⟩ ⟨hk, hp, hh⟩
  simp only at hk hp hh ⊢
  have hl1 := hp.len
  have e3 : IntKind.i64.wrap ((k : Int) - 1 - 1) = ((k - 1 : Nat) : Int) - 1 ∨ k = 0 := by
    rcases Nat.eq_zero_or_pos k with h | h
    · exact .inr h
    · left; rw [w64 (by omega) (by omega)]; omega
  by_cases hk0 : k = 0
  rotate_left
  · have e3 := e3.resolve_right hk0
    have d1 : decide ((0 : Int) ≤ (k : Int) - 1) = true := decide_eq_true (by omega)
    have e4 : (k : Int) - 1 = ((k - 1 : Nat) : Int) := by omega
    rw [e4] at e3 d1 ⊢
    simp only [hTn _ _, SkT.norm, h2, aA, d1, aA, gq, reduceEq, reduceLT, reduceLE, implies_true, reduceCtorEq, if_true, if_false, go_sem, reduceEqDiff, Nat.reduceLT, reduceAdd, reduceSub, reduceLeDiff, reduceReplicate, reduceToNat]
    refine aKL A m v l1 T hTn n (k - 1) (b - a) a (by omega) (by omega) (by omega) hr (by rw [show k - 1 + 1 = k by omega]; exact hh) _ fun l2 p2 h2' => ?_
    simp only [hpS, hTn _ _, SkT.norm, h2, e3, aA, gq, reduceEq, reduceLT, reduceLE, implies_true, reduceCtorEq, if_true, if_false, go_sem, reduceEqDiff, Nat.reduceLT, reduceAdd, reduceSub, reduceLeDiff, reduceReplicate, reduceToNat]
    exact back (l2, k - 1) (by simp only; omega) rfl rfl ⟨by simp only; omega, hp.trans (p2.mono (Nat.le_refl _) (by omega)), h2'⟩
  subst hk0
  have e5 : IntKind.i64.wrap (((b - a : Nat) : Int) - 1) = ((b - a : Nat) : Int) - 1 := w64 (by omega) (by omega)
  simp only [hTn _ _, SkT.norm, h2, aA, e5, aA, gq, reduceEq, reduceLT, reduceLE, implies_true, reduceCtorEq, if_true, if_false, go_sem, reduceEqDiff, Nat.reduceLT, reduceAdd, reduceSub, reduceLeDiff, reduceReplicate, reduceToNat]
  refine ⟨fun h => absurd h (by omega), fun _ => ?_⟩
  unfold bC.L2
  refine kT (σ := List RecT × Nat) (fun s => .int .i64 ((s.2 : Int) - 1)) (fun s => .box A.V :: .map (.sb m) :: .row .own v (.recs s.1) :: T) (fun s => s.2) (fun s => s.2 ≤ b - a ∧ SegP a b l s.1 ∧ qK a s.2 b s.1) (l1, b - a) rfl rfl ⟨Nat.le_refl _, hp, qK.begin (by omega) hh⟩ ?_
  rintro I2 back2 ⟨l2, k⟩ ⟨hk, hp2, hd⟩
  simp only at hk hp2 hd ⊢
  have hl2 := hp2.len
  by_cases hk0 : k = 0
  · subst hk0
    simp only [hTn _ _, SkT.norm, h2, aA, aA, gq, reduceEq, reduceLT, reduceLE, implies_true, reduceCtorEq, if_true, if_false, go_sem, reduceEqDiff, Nat.reduceLT, reduceAdd, reduceSub, reduceLeDiff, reduceReplicate, reduceToNat]
    exact ⟨fun h => absurd h (by omega), fun _ => hK l2 hp2 hd.fin⟩
  · have d1 : decide ((0 : Int) ≤ (k : Int) - 1) = true := decide_eq_true (by omega)
    have e3 : IntKind.i64.wrap ((k : Int) - 1 - 1) = ((k - 1 : Nat) : Int) - 1 := by rw [w64 (by omega) (by omega)]; omega
    have e4 : (k : Int) - 1 = ((k - 1 : Nat) : Int) := by omega
    have e6 : IntKind.i64.wrap ((a : Int) + ((k - 1 : Nat) : Int)) = ((a + (k - 1) : Nat) : Int) := by rw [w64 (by omega) (by omega)]; omega
    rw [e4] at e3 d1 ⊢
    have hd' : qK a (k - 1 + 1) b l2 := by rw [show k - 1 + 1 = k by omega]; exact hd
    simp only [hTn _ _, SkT.norm, h2, aA, d1, e6, Int.toNat_natCast, iS, jP, iK, List.length_set, aA, gq, reduceEq, reduceLT, reduceLE, implies_true, reduceCtorEq, if_true, if_false, go_sem, reduceEqDiff, Nat.reduceLT, reduceAdd, reduceSub, reduceLeDiff, reduceReplicate, reduceToNat]
    refine ⟨⟨by omega, by omega⟩, by omega, ⟨by omega, by omega⟩, by omega, ⟨by omega, by omega⟩, by omega, ⟨by omega, by omega⟩, by omega, ?_⟩
    refine aKL A m v (gR l2 a (a + (k - 1))) T hTn n 0 (k - 1) a (by rw [nJ]; omega) (Nat.zero_le _) (by omega) hr (hd'.heap (by omega) (by omega)) _ fun l3 p3 h3 => ?_
    simp only [hpS, hTn _ _, SkT.norm, h2, e3, aA, gq, reduceEq, reduceLT, reduceLE, implies_true, reduceCtorEq, if_true, if_false, go_sem, reduceEqDiff, Nat.reduceLT, reduceAdd, reduceSub, reduceLeDiff, reduceReplicate, reduceToNat]
    exact back2 (l3, k - 1) (by simp only; omega) rfl rfl ⟨by simp only; omega, hp2.trans ((SegP.swap (Nat.le_refl _) (by omega) (by omega) (by omega) (by omega)).trans (p3.mono (Nat.le_refl _) (by omega))), hd'.next (by omega) (by omega) p3 h3⟩
theorem aNS {a b : Int} (h0 : 0 ≤ b) (h1 : b < 18446744073709551616) : 0 ≤ andI .u64 a b ∧ andI .u64 a b ≤ b := by
  unfold andI
  have h := aKn ((BitVec.ofInt IntKind.u64.bits a &&& BitVec.ofInt IntKind.u64.bits b).toNat : Int)
  refine ⟨h.1, ?_⟩
  have e : (BitVec.ofInt IntKind.u64.bits b).toNat = b.toNat := by
    show (BitVec.ofInt 64 b).toNat = _
    rw [BitVec.toNat_ofInt]; omega
  have hle : (BitVec.ofInt IntKind.u64.bits a &&& BitVec.ofInt IntKind.u64.bits b).toNat ≤ b.toNat := by
    rw [BitVec.toNat_and, e]; exact Nat.and_le_right
  rw [aAo (by omega) (by omega)]
  omega
def cL.K : Con := fun args h K => match args with
  | [a0] => cL.H (ctx [] [] cL.loops) a0 h K
  | _ => False
theorem cL.spec : dH Tryz.prog 144 cL.K := by
  refine dH.of (bQ (F := []) (S := []) (by simp) (by simp) cL.loops) cL.at cL.nm cL.bd ?_
  intro args h K hC
  unfold cL.K at hC
  split at hC
  · rw [cL.eq]; exact hC
  · exact hC.elim
theorem aNT (A : SkT) (m : bD → Bool) (v : Nat) (l : List RecT) (T : List AObj) (hTn : OkT T) (x : Int) (K : AOut → List AObj → Prop)
    (hK : ∀ y : Int, K (.ret (.int .u64 y)) (hpS A m v l (T ++ [.box (.int .u64 y)]))) :
    cL.K [.ptr (T.length + 1 + 1 + 1) []] (hpS A m v l (T ++ [.box (.int .u64 x)])) K := by
  unfold cL.K cL.H
  simp only [hpS, qS, yZ, List.map_cons, List.map_nil, aA, gq, reduceEq, reduceLT, reduceLE, implies_true, reduceCtorEq, if_true, if_false, go_sem, reduceEqDiff, Nat.reduceLT, reduceAdd, reduceSub, reduceLeDiff, reduceReplicate, reduceToNat] at hK ⊢
  exact hK _
end Lam
namespace Lam
open Go Go.Proofs
def lenN (n : Nat) : Nat := if n = 0 then 0 else if n < 2 then 1 else if n < 4 then 2 else if n < 8 then 3 else if n < 16 then 4 else if n < 32 then 5 else if n < 64 then 6 else if n < 128 then 7 else 8
def aMv : bD := [0, 1, 2, 2, 3, 3, 3, 3, 4, 4, 4, 4, 4, 4, 4, 4, 5, 5, 5, 5, 5, 5, 5, 5, 5, 5, 5, 5, 5, 5, 5, 5, 6, 6, 6, 6, 6, 6, 6, 6, 6, 6, 6, 6, 6, 6, 6, 6, 6, 6, 6, 6, 6, 6, 6, 6, 6, 6, 6, 6, 6, 6, 6, 6, 7, 7, 7, 7, 7, 7, 7, 7, 7, 7, 7, 7, 7, 7, 7, 7, 7, 7, 7, 7, 7, 7, 7, 7, 7, 7, 7, 7, 7, 7, 7, 7, 7, 7, 7, 7, 7, 7, 7, 7, 7, 7, 7, 7, 7, 7, 7, 7, 7, 7, 7, 7, 7, 7, 7, 7, 7, 7, 7, 7, 7, 7, 7, 7, 8, 8, 8, 8, 8, 8, 8, 8, 8, 8, 8, 8, 8, 8, 8, 8, 8, 8, 8, 8, 8, 8, 8, 8, 8, 8, 8, 8, 8, 8, 8, 8, 8, 8, 8, 8, 8, 8, 8, 8, 8, 8, 8, 8, 8, 8, 8, 8, 8, 8, 8, 8, 8, 8, 8, 8, 8, 8, 8, 8, 8, 8, 8, 8, 8, 8, 8, 8, 8, 8, 8, 8, 8, 8, 8, 8, 8, 8, 8, 8, 8, 8, 8, 8, 8, 8, 8, 8, 8, 8, 8, 8, 8, 8, 8, 8, 8, 8, 8, 8, 8, 8, 8, 8, 8, 8, 8, 8, 8, 8, 8, 8, 8, 8, 8, 8, 8, 8, 8, 8, 8, 8, 8, 8, 8, 8, 8, 8]
theorem aLR : ∀ k, k < 256 → (aMv.getD k 0).toNat = lenN k := by decide +kernel
theorem aLS : ∀ k, k < 256 → 8 ≤ k → 1 ≤ 2 ^ lenN k ∧ 2 ^ lenN k ≤ 2 * k ∧ lenN k ≤ 8 := by decide +kernel
theorem aIe : ∀ k, k < 256 → lenN k ≤ 8 := by decide +kernel
def dR.C : aE
  | [.int .u64 n] => some (false, pD (0 ≤ n ∧ n < 256) (.int .i64 (lenN n.toNat)))
  | _ => none
theorem dR.spec : bI Tryz.prog 135 dR.C := by
  refine bI.of (bQ (F := []) (S := []) (by simp) (by simp) dR.loops) dR.at dR.nm dR.bd ?_
  intro vs b S v news e hS
  unfold dR.C at e
  split at e
  rotate_left
  · cases e
  cases e
  rw [dR.eq]
  unfold dR.H
  simp (maxSteps := 4000000) only [go_sem, reduceEqDiff, Nat.reduceLT, reduceAdd, reduceSub, reduceLeDiff, reduceReplicate, reduceToNat]
  rename_i n
  have d1 : decide ((4294967296 : Int) ≤ n) = false := decide_eq_false (by omega)
  have d2 : decide ((65536 : Int) ≤ n) = false := decide_eq_false (by omega)
  have d3 : decide ((256 : Int) ≤ n) = false := decide_eq_false (by omega)
  have g1 : ¬ (4294967296 : Int) ≤ n := by omega
  have g2 : IntKind.u8.wrap n = n := by simp [IntKind.wrap, IntKind.bits, IntKind.signed]; omega
  simp only [g1, d1, d2, d3, g2, aA, aA, gq, reduceEq, reduceLT, reduceLE, implies_true, reduceCtorEq, if_true, if_false, go_sem, reduceEqDiff, Nat.reduceLT, reduceAdd, reduceSub, reduceLeDiff, reduceReplicate, reduceToNat]
  refine ⟨hS, ?_⟩
  show Post false (.int .i64 (lenN n.toNat)) [] (.ret (.int .i64 (IntKind.i64.wrap (0 + IntKind.i64.wrap ((aMv.getD n.toNat 0).toNat : Int))))) []
  have h8 := aIe n.toNat (by omega)
  rw [aLR n.toNat (by omega), w64 (n := (lenN n.toNat : Int)) (by omega) (by omega), Int.zero_add, w64 (by omega) (by omega)]
  exact aG rfl rfl
def dJ.C : aE
  | [.int .u64 n] => some (false, pD (0 ≤ n ∧ n < 256) (.int .i64 (lenN n.toNat)))
  | _ => none
theorem dJ.spec : bI Tryz.prog 120 dJ.C := by
  refine bI.of (bQ (F := [(135, dR.C)]) (S := []) (by simpa using dR.spec) (by simp) dJ.loops) dJ.at dJ.nm dJ.bd ?_
  intro vs b S v news e hS
  unfold dJ.C at e
  split at e
  rotate_left
  · cases e
  cases e
  rw [dJ.eq]
  unfold dJ.H
  simp (maxSteps := 4000000) only [go_sem, reduceEqDiff, Nat.reduceLT, reduceAdd, reduceSub, reduceLeDiff, reduceReplicate, reduceToNat, dR.C]
  rename_i n
  exact ⟨hS, aG rfl rfl⟩
def cO.C : aE
  | [.int .i64 n] => some (false, pD (0 ≤ n ∧ n < 256) (.int .u64 (2 ^ lenN n.toNat : Nat)))
  | _ => none
theorem cO.spec : bI Tryz.prog 143 cO.C := by
  refine bI.of (bQ (F := [(120, dJ.C)]) (S := []) (by simpa using dJ.spec) (by simp) cO.loops) cO.at cO.nm cO.bd ?_
  intro vs b S v news e hS
  unfold cO.C at e
  split at e
  rotate_left
  · cases e
  cases e
  rw [cO.eq]
  unfold cO.H
  simp (maxSteps := 4000000) only [go_sem, reduceEqDiff, Nat.reduceLT, reduceAdd, reduceSub, reduceLeDiff, reduceReplicate, reduceToNat, dJ.C]
  rename_i n
  have g2 : IntKind.u64.wrap n = n := aAo (by omega) (by omega)
  have h8 := aIe n.toNat (by omega)
  simp only [g2, dJ.C, aA, gq, reduceEq, reduceLT, reduceLE, implies_true, reduceCtorEq, if_true, if_false, go_sem, reduceEqDiff, Nat.reduceLT, reduceAdd, reduceSub, reduceLeDiff, reduceReplicate, reduceToNat]
  refine ⟨hS.2, by omega, ?_⟩
  have h2 : 2 ^ lenN n.toNat ≤ 2 ^ 8 := Nat.pow_le_pow_right (by decide) h8
  have e : (2 : Int) ^ lenN n.toNat = ((2 ^ lenN n.toNat : Nat) : Int) := by rw [Int.natCast_pow]; rfl
  rw [Nat.min_eq_left (by omega), Int.one_mul, e]
  generalize 2 ^ lenN n.toNat = P at *
  rw [aAo (n := (P : Int)) (by omega) (by omega)]
  exact aG rfl rfl
def aV.K : Con := fun args h K => match args with
  | [a0, a1, a2, a3] => aV.H (ctx [(143, cO.C)] [(144, cL.K)] aV.loops) a0 a1 a2 a3 h K
  | _ => False
theorem aV.spec : dH Tryz.prog 128 aV.K := by
  refine dH.of (bQ (F := [(143, cO.C)]) (S := [(144, cL.K)]) (by simpa using cO.spec) (by simpa using cL.spec) aV.loops) aV.at aV.nm aV.bd ?_
  intro args h K hC
  unfold aV.K at hC
  split at hC
  · rw [aV.eq]; exact hC
  · exact hC.elim
theorem aMS (A : SkT) (m : bD → Bool) (v : Nat) (l : List RecT) (T : List AObj) (hTn : OkT T) (n a b : Nat) (hn : n = l.length) (hab : a + 8 ≤ b) (hbn : b ≤ n) (h255 : b < a + 256) (hr : roomy n) (K : AOut → List AObj → Prop)
    (hK : ∀ l' y, SegP a b l l' → K (.ret (.tup [])) (hpS A m v l' (T ++ [.box (.int .u64 y)]))) :
    aV.K [.sref false 2 v 0 n, .int .i64 a, .int .i64 b, hitF] (hpS A m v l T) K := by
  have hr' := hr
  unfold roomy at hr'
  have h2 : 2 < T.length + 1 + 1 + 1 := by omega
  obtain ⟨len, hlen⟩ : ∃ len, b - a = len := ⟨_, rfl⟩
  have hl8 : 8 ≤ len := by omega
  have hpw := aLS len (by omega) hl8
  obtain ⟨P, hP⟩ : ∃ P, 2 ^ lenN len = P := ⟨_, rfl⟩
  rw [hP] at hpw
  have e0 : IntKind.i64.wrap ((b : Int) - a) = (len : Int) := by rw [w64 (by omega) (by omega)]; omega
  have e1 : IntKind.i64.wrap ((len : Int).tdiv 4) = ((len / 4 : Nat) : Int) := by rw [Int.tdiv_eq_ediv_of_nonneg (by omega), w64 (by omega) (by omega)]; omega
  obtain ⟨q, hq⟩ : ∃ q, len / 4 = q := ⟨_, rfl⟩
  rw [hq] at e1
  have e2 : IntKind.i64.wrap ((q : Int) * 2) = ((q * 2 : Nat) : Int) := by rw [w64 (by omega) (by omega)]; omega
  have e3 : IntKind.i64.wrap ((a : Int) + ((q * 2 : Nat) : Int)) = ((a + q * 2 : Nat) : Int) := by rw [w64 (by omega) (by omega)]; omega
  have e4 : IntKind.i64.wrap (((a + q * 2 : Nat) : Int) - 1) = ((a + q * 2 - 1 : Nat) : Int) := by rw [w64 (by omega) (by omega)]; omega
  have e5 : IntKind.u64.wrap ((P : Int) - 1) = (P : Int) - 1 := aAo (by omega) (by omega)
  have d1 : decide ((8 : Int) ≤ (len : Int)) = true := decide_eq_true (by omega)
  unfold aV.K aV.H
  have hT1 : ∀ y k h, (T ++ [AObj.box (.int .u64 y)]).map (rF k h) = T ++ [AObj.box (.int .u64 y)] := fun y => hTn.snoc .u64 y
  have hL1 : ∀ y : AObj, (T ++ [y]).length = T.length + 1 := fun y => by simp
  have hTk : ∀ y : AObj, (T ++ [y]).take (T.length + 1) = T ++ [y] := fun y => List.take_of_length_le (by simp)
  have h3 : T.length + 1 + 1 + 1 < T.length + 1 + 1 + 1 + 1 := by omega
  have h4 : 2 < T.length + 1 + 1 + 1 + 1 := by omega
  simp only [hpS, hTn _ _, hT1, hL1, qS, yZ, SkT.norm, h2, h3, h4, e0, e1, e2, e3, e4, d1, aA, cO.C, Int.toNat_natCast, hP, aA, gq, reduceEq, reduceLT, reduceLE, implies_true, reduceCtorEq, if_true, if_false, go_sem, reduceEqDiff, Nat.reduceLT, reduceAdd, reduceSub, reduceLeDiff, reduceReplicate, reduceToNat] at hK ⊢
  refine ⟨⟨by omega, by omega⟩, ?_⟩
  unfold aV.L1
  refine kT (σ := List RecT × Nat × Int) (fun s => .int .i64 s.2.1) (fun s => .box A.V :: .map (.sb m) :: .row .own v (.recs s.1) :: (T ++ [.box (.int .u64 s.2.2)])) (fun s => a + q * 2 + 2 - s.2.1) (fun s => a + q * 2 - 1 ≤ s.2.1 ∧ s.2.1 ≤ a + q * 2 + 2 ∧ SegP a b l s.1) (l, a + q * 2 - 1, IntKind.u64.wrap len) rfl rfl ⟨Nat.le_refl _, by simp only; omega, SegP.refl⟩ ?_
  rintro I back ⟨l1, i, x⟩ ⟨hi1, hi2, hp⟩
  simp only at hi1 hi2 hp ⊢
  have hl1 := hp.len
  simp only [e1, e2, e3, eG (show a + q * 2 < 4611686018427387904 by omega), hT1, hL1, SkT.norm, h2, h3, h4, aA, aA, gq, reduceEq, reduceLT, reduceLE, implies_true, reduceCtorEq, if_true, if_false, go_sem, reduceEqDiff, Nat.reduceLT, reduceAdd, reduceSub, reduceLeDiff, reduceReplicate, reduceToNat]
  refine ⟨fun hle => ?_, fun hgt => hK l1 x hp⟩
  refine aNT A m v l1 T hTn x _ fun y => ?_
  obtain ⟨z0, z1⟩ := aNS (a := y) (b := (P : Int) - 1) (by omega) (by omega)
  have hlt : ∀ c : Nat, c < len → ∃ m_1, m_1 < a + q * 2 + 2 - i ∧ I m_1 [.int .i64 ((i + 1 : Nat) : Int)] (.box A.V :: .map (.sb m) :: .row .own v (.recs (gR l1 i (a + c))) :: (T ++ [.box (.int .u64 y)])) := fun c hc =>
    back (gR l1 i (a + c), i + 1, y) (by simp only; omega) rfl rfl ⟨by simp only; omega, by simp only; omega, hp.trans (SegP.swap (by omega) (by omega) (by omega) (by omega) (by omega))⟩
  obtain ⟨c, hc⟩ : ∃ c : Nat, andI .u64 y ((P : Int) - 1) = c := ⟨(andI .u64 y ((P : Int) - 1)).toNat, by omega⟩
  have e6 : IntKind.i64.wrap (c : Int) = c := w64 (by omega) (by omega)
  have e7 : ∀ c : Nat, c < len → IntKind.i64.wrap ((a : Int) + (c : Int)) = ((a + c : Nat) : Int) := fun c hc => by rw [w64 (by omega) (by omega)]; omega
  have e8 : len ≤ c → IntKind.i64.wrap ((c : Int) - (len : Int)) = ((c - len : Nat) : Int) := fun h => by rw [w64 (by omega) (by omega)]; omega
  rw [hc] at z0 z1
  simp only [hpS, hT1, hL1, qS, SkT.norm, h2, h3, h4, e5, hc, e6, aA, eG (show i < 4611686018427387904 by omega), aA, gq, reduceEq, reduceLT, reduceLE, implies_true, reduceCtorEq, if_true, if_false, go_sem, reduceEqDiff, Nat.reduceLT, reduceAdd, reduceSub, reduceLeDiff, reduceReplicate, reduceToNat]
  refine ⟨fun hge => ?_, fun hnge => ?_⟩
  · have hcl : c - len < len := by omega
    simp only [hpS, hT1, hL1, SkT.norm, h2, h3, h4, e8 (by omega), e7 _ hcl, aA, Int.toNat_natCast, iS, iP, jP, iK, List.length_set, hTk, eG (show i < 4611686018427387904 by omega), aA, gq, reduceEq, reduceLT, reduceLE, implies_true, reduceCtorEq, if_true, if_false, go_sem, reduceEqDiff, Nat.reduceLT, reduceAdd, reduceSub, reduceLeDiff, reduceReplicate, reduceToNat]
    exact ⟨⟨by omega, by omega⟩, by omega, ⟨by omega, by omega⟩, by omega, ⟨by omega, by omega⟩, by omega, ⟨by omega, by omega⟩, by omega, hlt _ hcl⟩
  · have hcl : c < len := by omega
    simp only [hpS, hT1, hL1, SkT.norm, h2, h3, h4, e7 _ hcl, aA, Int.toNat_natCast, iS, iP, jP, iK, List.length_set, hTk, eG (show i < 4611686018427387904 by omega), aA, gq, reduceEq, reduceLT, reduceLE, implies_true, reduceCtorEq, if_true, if_false, go_sem, reduceEqDiff, Nat.reduceLT, reduceAdd, reduceSub, reduceLeDiff, reduceReplicate, reduceToNat]
    exact ⟨⟨by omega, by omega⟩, by omega, ⟨by omega, by omega⟩, by omega, ⟨by omega, by omega⟩, by omega, ⟨by omega, by omega⟩, by omega, hlt _ hcl⟩
end Lam
namespace Lam
open Go Go.Proofs
theorem aCk {w : List Int} {b : Int} {n : Nd} (h : dF w b = some n) : qI w b = .tup [n.V, .int .i64 0] := by
  unfold dF at h
  unfold qI
  split at h
  · cases h
  · rename_i hb; rw [if_neg hb, h]
theorem aGB {w : List Int} {b : Int} (h : dF w b = none) : ∃ e, e ≠ 0 ∧ qI w b = .tup [jH.V, .int .i64 e] := by
  unfold dF at h
  unfold qI
  split at h
  · rename_i hb; rw [if_pos hb]; exact ⟨1, by decide, rfl⟩
  · rename_i hb; rw [if_neg hb, h]; exact ⟨90, by decide, rfl⟩
theorem aEO {w : List Int} {b : Int} {n : Rc} (h : recO w b = some n) : pC w b = .tup [n.V, .int .i64 0] := by
  unfold recO at h
  unfold pC
  split at h
  · cases h
  · rename_i hb; rw [if_neg hb, h]
theorem aKM {w : List Int} {b : Int} (h : recO w b = none) : ∃ e, e ≠ 0 ∧ pC w b = .tup [kB.V, .int .i64 e] := by
  unfold recO at h
  unfold pC
  split at h
  · rename_i hb; rw [if_pos hb]; exact ⟨1, by decide, rfl⟩
  · rename_i hb; rw [if_neg hb, h]; exact ⟨70, by decide, rfl⟩
structure Sk where
  block : Int
  turn : Int
  at_ : Int
  refs : List Int
  over : Bool
def Sk.V (s : Sk) : AV := .agg [.int .i64 s.block, .int .i64 s.turn, .int .i64 s.at_, .sl false (.ints .i64 s.refs), .bool s.over]
def mB (t : Int) : Bool := decide (andI .i64 t 1 = 1)
def eN.C : aE
  | [.agg [.int .i64 _, .int .i64 t, .int .i64 _, .sl _ (.ints .i64 _), .bool _]] => some (false, pD True (.bool (mB t)))
  | _ => none
theorem eN.spec : bI Tryz.prog 67 eN.C := by
  refine bI.of (bQ (F := []) (S := []) (by simp) (by simp) eN.loops) eN.at eN.nm eN.bd ?_
  intro vs b S v news e hS
  unfold eN.C at e
  split at e
  rotate_left
  · cases e
  cases e
  rw [eN.eq]
  unfold eN.H
  simp (maxSteps := 4000000) only [go_sem, reduceEqDiff, Nat.reduceLT, reduceAdd, reduceSub, reduceLeDiff, reduceReplicate, reduceToNat]
  exact aG rfl rfl
def skZ : Sk := ⟨0, 0, 0, [], false⟩
def qB (w : List Int) (b : Int) : Option Sk := match dF w b with
  | some n => if 256 ≤ b then none else some ⟨b, n.turn, if mB n.turn = true then 12 else 0, [], false⟩
  | none => none
def xX (w : List Int) (b : Int) : AV := match qB w b with
  | some s => .tup [s.V, .int .i64 0]
  | none => .tup [skZ.V, .int .i64 90]
def gE.C : aE
  | [.sl _ (.ints .i64 w), .int .i64 b] => some (false, pD (roomy w.length) (xX w b))
  | _ => none
theorem gE.spec : bI Tryz.prog 40 gE.C := by
  refine bI.of (bQ (F := [(46, cM.C), (67, eN.C)]) (S := []) (by simpa using ⟨cM.spec, eN.spec⟩) (by simp) gE.loops) gE.at gE.nm gE.bd ?_
  intro vs b S v news e hS
  unfold gE.C at e
  split at e
  rotate_left
  · cases e
  cases e
  rw [gE.eq]
  unfold gE.H
  simp (maxSteps := 4000000) only [go_sem, reduceEqDiff, Nat.reduceLT, reduceAdd, reduceSub, reduceLeDiff, reduceReplicate, reduceToNat, cM.C, eN.C]
  rename_i w b
  unfold xX qB
  cases hn : dF w b with
  | none =>
    obtain ⟨e, he, hr⟩ := aGB hn
    simp only [hr, jH, he, decide_true, decide_false, aA, skZ, Sk.V, aA, gq, reduceEq, reduceLT, reduceLE, implies_true, reduceCtorEq, if_true, if_false, go_sem, reduceEqDiff, Nat.reduceLT, reduceAdd, reduceSub, reduceLeDiff, reduceReplicate, reduceToNat]
    exact ⟨hS, aG rfl rfl⟩
  | some n =>
    obtain ⟨n1, n2, n3, n4, n5⟩ := n
    by_cases hb : 256 ≤ b
    · simp only [aCk hn, hb, if_true, decide_true, aA, skZ, Sk.V, aA, gq, reduceEq, reduceLT, reduceLE, implies_true, reduceCtorEq, if_true, if_false, go_sem, reduceEqDiff, Nat.reduceLT, reduceAdd, reduceSub, reduceLeDiff, reduceReplicate, reduceToNat]
      exact ⟨hS, aG rfl rfl⟩
    · simp only [aCk hn, hb, if_false, decide_false, eN.C, aA, Sk.V, aA, gq, reduceEq, reduceLT, reduceLE, implies_true, reduceCtorEq, if_true, if_false, go_sem, reduceEqDiff, Nat.reduceLT, reduceAdd, reduceSub, reduceLeDiff, reduceReplicate, reduceToNat]
      cases hd : mB n2 with
      | true => simp only [if_true, aA, gq, reduceEq, reduceLT, reduceLE, implies_true, reduceCtorEq, if_true, if_false, go_sem, reduceEqDiff, Nat.reduceLT, reduceAdd, reduceSub, reduceLeDiff, reduceReplicate, reduceToNat]; exact ⟨hS, aG rfl rfl⟩
      | false => simp only [if_false, aA, gq, reduceEq, reduceLT, reduceLE, implies_true, reduceCtorEq, if_true, if_false, go_sem, reduceEqDiff, Nat.reduceLT, reduceAdd, reduceSub, reduceLeDiff, reduceReplicate, reduceToNat]; exact ⟨hS, aG rfl rfl⟩
def tN (w : List Int) (b t : Int) : Bool := match dF w b with
  | some n => decide (n.turn = t)
  | none => false
def gF.C : aE
  | [.sl _ (.ints .i64 w), .agg [.int .i64 b, .int .i64 t, .int .i64 _, .sl _ (.ints .i64 _), .bool _]] => some (false, pD (roomy w.length) (.bool (tN w b t)))
  | _ => none
theorem gF.spec : bI Tryz.prog 71 gF.C := by
  refine bI.of (bQ (F := [(46, cM.C)]) (S := []) (by simpa using cM.spec) (by simp) gF.loops) gF.at gF.nm gF.bd ?_
  intro vs b S v news e hS
  unfold gF.C at e
  split at e
  rotate_left
  · cases e
  cases e
  rw [gF.eq]
  unfold gF.H
  simp (maxSteps := 4000000) only [go_sem, reduceEqDiff, Nat.reduceLT, reduceAdd, reduceSub, reduceLeDiff, reduceReplicate, reduceToNat, cM.C]
  rename_i _ w b t _ _ _ _
  unfold tN
  cases hn : dF w b with
  | none =>
    obtain ⟨e, he, hr⟩ := aGB hn
    simp only [hr, jH, he, decide_true, decide_false, aA, aA, gq, reduceEq, reduceLT, reduceLE, implies_true, reduceCtorEq, if_true, if_false, go_sem, reduceEqDiff, Nat.reduceLT, reduceAdd, reduceSub, reduceLeDiff, reduceReplicate, reduceToNat]
    exact ⟨hS, aG rfl rfl⟩
  | some n =>
    obtain ⟨n1, n2, n3, n4, n5⟩ := n
    simp only [aCk hn, decide_true, aA, aA, gq, reduceEq, reduceLT, reduceLE, implies_true, reduceCtorEq, if_true, if_false, go_sem, reduceEqDiff, Nat.reduceLT, reduceAdd, reduceSub, reduceLeDiff, reduceReplicate, reduceToNat]
    exact ⟨hS, aG rfl rfl⟩
def dG.K : Con := fun args h K => match args with
  | [a0] => dG.H (ctx [] [] dG.loops) a0 h K
  | _ => False
theorem dG.spec : dH Tryz.prog 69 dG.K := by
  refine dH.of (bQ (F := []) (S := []) (by simp) (by simp) dG.loops) dG.at dG.nm dG.bd ?_
  intro args h K hC
  unfold dG.K at hC
  split at hC
  · rw [dG.eq]; exact hC
  · exact hC.elim
def cU.K : Con := fun args h K => match args with
  | [a0] => cU.H (ctx [] [] cU.loops) a0 h K
  | _ => False
theorem cU.spec : dH Tryz.prog 70 cU.K := by
  refine dH.of (bQ (F := []) (S := []) (by simp) (by simp) cU.loops) cU.at cU.nm cU.bd ?_
  intro args h K hC
  unfold cU.K at hC
  split at hC
  · rw [cU.eq]; exact hC
  · exact hC.elim
def kF (w : Int) (s : Sk) : Bool := if mB s.turn = true then decide (s.at_ = 0) else decide (w < 1) || decide (s.at_ = 12)
def goOn (w : Int) (s : Sk) : Sk :=
  { s with
    refs := if (decide (0 < w) && (decide (s.refs.length = 0) || !decide (s.refs.getD (s.refs.length - 1) 0 = w))) = true then s.refs ++ [w] else s.refs
    over := kF w s
    at_ := if kF w s = true then s.at_ else if mB s.turn = true then IntKind.i64.wrap (s.at_ - 1) else IntKind.i64.wrap (s.at_ + 1) }
def mR (w : List Int) (s : Sk) : Int := if (decide (0 ≤ s.block) && decide (s.block < 256) && decide (s.block < ((w.length / 16 : Nat) : Int))) = true then oX (16 * s.block) s.at_ else -1
def kU (w : List Int) (s : Sk) : Sk := if (s.over || decide (mR w s < 0)) = true then s else goOn (w.getD (mR w s).toNat 0) s
def hG.C : aE
  | [.sl _ (.ints .i64 w), .agg [.int .i64 b, .int .i64 t, .int .i64 a, .sl _ (.ints .i64 l), .bool o]] => some (false, pD (w.length ≤ 65536 ∧ l.length ≤ 65536) (kU w ⟨b, t, a, l, o⟩).V)
  | _ => none
theorem hG.spec : bI Tryz.prog 41 hG.C := by
  refine bI.of (bQ (F := [(68, fZ.C), (34, aZ.C), (67, eN.C)]) (S := [(69, dG.K), (70, cU.K)]) (by simpa using ⟨fZ.spec, aZ.spec, eN.spec⟩) (by simpa using ⟨dG.spec, cU.spec⟩) hG.loops) hG.at hG.nm hG.bd ?_
  intro vs b S v news e hS
  unfold hG.C at e
  split at e
  rotate_left
  · cases e
  cases e
  rw [hG.eq]
  unfold hG.H
  simp (maxSteps := 4000000) only [go_sem, reduceEqDiff, Nat.reduceLT, reduceAdd, reduceSub, reduceLeDiff, reduceReplicate, reduceToNat, fZ.C, aZ.C, eN.C]
  rename_i _ w b t a x l o
  obtain ⟨hw, hl⟩ := hS
  have e0 : IntKind.i64.wrap ((w.length : Int).tdiv 16) = ((w.length / 16 : Nat) : Int) := by
    rw [Int.tdiv_eq_ediv_of_nonneg (by omega)]; exact w64 (by omega) (by omega)
  have hst : ∀ s : Sk, (s.over || decide (mR w s < 0)) = true → kU w s = s := fun s h => by unfold kU; rw [if_pos h]
  have hgo : ∀ s : Sk, (s.over || decide (mR w s < 0)) = false → kU w s = goOn (w.getD (mR w s).toNat 0) s := fun s h => by unfold kU; rw [if_neg (by rw [h]; decide)]
  refine ⟨fun _ => by decide, ?_⟩
  cases hin : (decide (0 ≤ b) && decide (b < 256) && decide (b < ((w.length / 16 : Nat) : Int))) with
  | false =>
    have hs : mR w ⟨b, t, a, l, o⟩ = -1 := by unfold mR; rw [if_neg (by rw [hin]; decide)]
    rw [hst _ (by rw [hs]; cases o <;> rfl)]
    simp only [e0, hin, aA, Sk.V, aA, gq, reduceEq, reduceLT, reduceLE, implies_true, reduceCtorEq, if_true, if_false, go_sem, reduceEqDiff, Nat.reduceLT, reduceAdd, reduceSub, reduceLeDiff, reduceReplicate, reduceToNat]
    cases o with
    | true => simp only [aA, gq, reduceEq, reduceLT, reduceLE, implies_true, reduceCtorEq, if_true, if_false, go_sem, reduceEqDiff, Nat.reduceLT, reduceAdd, reduceSub, reduceLeDiff, reduceReplicate, reduceToNat]; exact aG rfl rfl
    | false => simp only [aA, gq, reduceEq, reduceLT, reduceLE, implies_true, reduceCtorEq, if_true, if_false, go_sem, reduceEqDiff, Nat.reduceLT, reduceAdd, reduceSub, reduceLeDiff, reduceReplicate, reduceToNat]; exact aG rfl rfl
  | true =>
    have hin' := hin
    simp only [Bool.and_eq_true, decide_eq_true_eq] at hin'
    obtain ⟨⟨h0, h1⟩, h2⟩ := hin'
    have e1 : IntKind.i64.wrap (16 * b) = 16 * b := w64 (by omega) (by omega)
    have hs : mR w ⟨b, t, a, l, o⟩ = oX (16 * b) a := by unfold mR; rw [if_pos hin]
    by_cases hp : oX (16 * b) a < 0
    · rw [hst _ (by rw [hs, decide_eq_true hp, Bool.or_true])]
      simp only [e0, e1, hin, hp, decide_true, aA, Sk.V, aA, gq, reduceEq, reduceLT, reduceLE, implies_true, reduceCtorEq, if_true, if_false, go_sem, reduceEqDiff, Nat.reduceLT, reduceAdd, reduceSub, reduceLeDiff, reduceReplicate, reduceToNat]
      cases o with
      | true => simp only [aA, gq, reduceEq, reduceLT, reduceLE, implies_true, reduceCtorEq, if_true, if_false, go_sem, reduceEqDiff, Nat.reduceLT, reduceAdd, reduceSub, reduceLeDiff, reduceReplicate, reduceToNat]; exact aG rfl rfl
      | false => simp only [aA, gq, reduceEq, reduceLT, reduceLE, implies_true, reduceCtorEq, if_true, if_false, go_sem, reduceEqDiff, Nat.reduceLT, reduceAdd, reduceSub, reduceLeDiff, reduceReplicate, reduceToNat]; exact aG rfl rfl
    · cases o with
      | true =>
        rw [hst _ rfl]
        simp only [e0, e1, hin, hp, decide_true, decide_false, aA, Sk.V, aA, gq, reduceEq, reduceLT, reduceLE, implies_true, reduceCtorEq, if_true, if_false, go_sem, reduceEqDiff, Nat.reduceLT, reduceAdd, reduceSub, reduceLeDiff, reduceReplicate, reduceToNat]
        exact aG rfl rfl
      | false =>
        rw [hgo _ (by rw [hs, decide_eq_false hp]; rfl), hs]
        have hnb : rK (16 * b) = true := (yV (by omega)).2 ⟨by omega, by omega, by omega⟩
        have ha : 0 ≤ a ∧ a < 13 ∧ oX (16 * b) a = 16 * b + 3 + a := by
          by_cases h : 0 ≤ a ∧ a < 13
          · exact ⟨h.1, h.2, aGl hnb (by omega) h.1 h.2⟩
          · exfalso
            apply hp
            unfold oX
            rw [if_neg (by simp only [Bool.and_eq_true, decide_eq_true_eq]; rintro ⟨⟨_, h1⟩, h2⟩; exact h ⟨h1, h2⟩)]
            decide
        obtain ⟨a0, a1, hpl⟩ := ha
        obtain ⟨P, hP⟩ : ∃ P : Nat, 16 * b + 3 + a = P := ⟨(16 * b + 3 + a).toNat, by omega⟩
        have hPl : P < w.length := by omega
        rw [hpl, hP, Int.toNat_natCast]
        rw [hP] at hpl
        have hpn : ¬ ((P : Nat) : Int) < 0 := by omega
        have hrl : roomy l.length := by unfold roomy; omega
        have e3 : l.length ≠ 0 → IntKind.i64.wrap ((l.length : Int) - 1) = ((l.length - 1 : Nat) : Int) := fun h => by rw [w64 (by omega) (by omega)]; omega
        simp only [e0, e1, hin, hpl, hpn, decide_true, decide_false, aA, Int.toNat_natCast, aZ.C, aA, gq, reduceEq, reduceLT, reduceLE, implies_true, reduceCtorEq, if_true, if_false, go_sem, reduceEqDiff, Nat.reduceLT, reduceAdd, reduceSub, reduceLeDiff, reduceReplicate, reduceToNat]
        refine ⟨⟨by omega, by omega⟩, hrl, ?_⟩
        generalize w.getD P 0 = W
        have hra : roomy (l ++ [W]).length := by unfold roomy; simp; omega
        have hgo2 : ∀ (R : List Int), (goOn W ⟨b, t, a, l, false⟩).refs = R → ∀ (o : Bool) (a' : Int), kF W ⟨b, t, a, l, false⟩ = o → (a' = if o = true then a else if mB t = true then IntKind.i64.wrap (a - 1) else IntKind.i64.wrap (a + 1)) → goOn W ⟨b, t, a, l, false⟩ = ⟨b, t, a', R, o⟩ := by
          rintro _ rfl _ _ rfl rfl; rfl
        by_cases hW : 0 < W
        · have hW1 : decide (W < 1) = false := decide_eq_false (by omega)
          have happ : ∀ K : Nat → Prop, True := fun _ => trivial
          by_cases hl0 : l.length = 0
          · have hd0 : decide ((l.length : Int) = 0) = true := decide_eq_true (by omega)
            have hgr : (goOn W ⟨b, t, a, l, false⟩).refs = l ++ [W] := by unfold goOn; simp [hW, hl0]
            simp only [hW, hW1, hd0, decide_true, eN.C, dG.K, dG.H, cU.K, cU.H, aA, aA, gq, reduceEq, reduceLT, reduceLE, implies_true, reduceCtorEq, if_true, if_false, go_sem, reduceEqDiff, Nat.reduceLT, reduceAdd, reduceSub, reduceLeDiff, reduceReplicate, reduceToNat]
            refine ⟨hra, fun hd => ⟨fun h => ?_, fun h => ?_⟩, fun hd => ⟨fun h => ?_, fun h => ?_⟩⟩
            · rw [hgo2 _ hgr false _ (by simp [kF, hd, h]) (by simp [hd]; rfl), decide_eq_false h]
              refine aG ?_ rfl
              simp only [Sk.V, List.take_length, go_sem, reduceEqDiff, Nat.reduceLT, reduceAdd, reduceSub, reduceLeDiff, reduceReplicate, reduceToNat]
            · rw [hgo2 _ hgr true _ (by simp [kF, hd, h]) (by simp; rfl), decide_eq_true h]
              refine aG ?_ rfl
              simp only [Sk.V, List.take_length, go_sem, reduceEqDiff, Nat.reduceLT, reduceAdd, reduceSub, reduceLeDiff, reduceReplicate, reduceToNat]
            · rw [hgo2 _ hgr false _ (by simp [kF, hd, h]; omega) (by simp [hd]; rfl), decide_eq_false h]
              refine aG ?_ rfl
              simp only [Sk.V, List.take_length, go_sem, reduceEqDiff, Nat.reduceLT, reduceAdd, reduceSub, reduceLeDiff, reduceReplicate, reduceToNat]
            · rw [hgo2 _ hgr true _ (by simp [kF, hd, h]) (by simp; rfl), decide_eq_true h]
              refine aG ?_ rfl
              simp only [Sk.V, List.take_length, go_sem, reduceEqDiff, Nat.reduceLT, reduceAdd, reduceSub, reduceLeDiff, reduceReplicate, reduceToNat]
          · have hd0 : decide ((l.length : Int) = 0) = false := decide_eq_false (by omega)
            by_cases hla : l.getD (l.length - 1) 0 = W
            · have hgr : (goOn W ⟨b, t, a, l, false⟩).refs = l := by
                unfold goOn
                simp only [hla, decide_true, Bool.not_true, Bool.or_false, decide_eq_false hl0, Bool.and_false]
                rw [if_neg (by decide)]
              simp only [hW, hW1, hd0, e3 hl0, hla, Int.toNat_natCast, decide_true, eN.C, dG.K, dG.H, cU.K, cU.H, aA, aA, gq, reduceEq, reduceLT, reduceLE, implies_true, reduceCtorEq, if_true, if_false, go_sem, reduceEqDiff, Nat.reduceLT, reduceAdd, reduceSub, reduceLeDiff, reduceReplicate, reduceToNat]
              refine ⟨⟨by omega, by omega⟩, fun hd => ⟨fun h => ?_, fun h => ?_⟩, fun hd => ⟨fun h => ?_, fun h => ?_⟩⟩
              · rw [hgo2 _ hgr false _ (by simp [kF, hd, h]) (by simp [hd]; rfl), decide_eq_false h]
                refine aG ?_ rfl
                simp only [Sk.V, List.take_length, go_sem, reduceEqDiff, Nat.reduceLT, reduceAdd, reduceSub, reduceLeDiff, reduceReplicate, reduceToNat]
              · rw [hgo2 _ hgr true _ (by simp [kF, hd, h]) (by simp; rfl), decide_eq_true h]
                refine aG ?_ rfl
                simp only [Sk.V, List.take_length, go_sem, reduceEqDiff, Nat.reduceLT, reduceAdd, reduceSub, reduceLeDiff, reduceReplicate, reduceToNat]
              · rw [hgo2 _ hgr false _ (by simp [kF, hd, h]; omega) (by simp [hd]; rfl), decide_eq_false h]
                refine aG ?_ rfl
                simp only [Sk.V, List.take_length, go_sem, reduceEqDiff, Nat.reduceLT, reduceAdd, reduceSub, reduceLeDiff, reduceReplicate, reduceToNat]
              · rw [hgo2 _ hgr true _ (by simp [kF, hd, h]) (by simp; rfl), decide_eq_true h]
                refine aG ?_ rfl
                simp only [Sk.V, List.take_length, go_sem, reduceEqDiff, Nat.reduceLT, reduceAdd, reduceSub, reduceLeDiff, reduceReplicate, reduceToNat]
            · have hgr : (goOn W ⟨b, t, a, l, false⟩).refs = l ++ [W] := by
                unfold goOn
                simp only [decide_eq_false hla, Bool.not_false, Bool.or_true, Bool.and_true, decide_eq_true hW, if_true]
              simp only [hW, hW1, hd0, e3 hl0, hla, Int.toNat_natCast, decide_true, decide_false, eN.C, dG.K, dG.H, cU.K, cU.H, aA, aA, gq, reduceEq, reduceLT, reduceLE, implies_true, reduceCtorEq, if_true, if_false, go_sem, reduceEqDiff, Nat.reduceLT, reduceAdd, reduceSub, reduceLeDiff, reduceReplicate, reduceToNat]
              refine ⟨⟨by omega, by omega⟩, hra, fun hd => ⟨fun h => ?_, fun h => ?_⟩, fun hd => ⟨fun h => ?_, fun h => ?_⟩⟩
              · rw [hgo2 _ hgr false _ (by simp [kF, hd, h]) (by simp [hd]; rfl), decide_eq_false h]
                refine aG ?_ rfl
                simp only [Sk.V, List.take_length, go_sem, reduceEqDiff, Nat.reduceLT, reduceAdd, reduceSub, reduceLeDiff, reduceReplicate, reduceToNat]
              · rw [hgo2 _ hgr true _ (by simp [kF, hd, h]) (by simp; rfl), decide_eq_true h]
                refine aG ?_ rfl
                simp only [Sk.V, List.take_length, go_sem, reduceEqDiff, Nat.reduceLT, reduceAdd, reduceSub, reduceLeDiff, reduceReplicate, reduceToNat]
              · rw [hgo2 _ hgr false _ (by simp [kF, hd, h]; omega) (by simp [hd]; rfl), decide_eq_false h]
                refine aG ?_ rfl
                simp only [Sk.V, List.take_length, go_sem, reduceEqDiff, Nat.reduceLT, reduceAdd, reduceSub, reduceLeDiff, reduceReplicate, reduceToNat]
              · rw [hgo2 _ hgr true _ (by simp [kF, hd, h]) (by simp; rfl), decide_eq_true h]
                refine aG ?_ rfl
                simp only [Sk.V, List.take_length, go_sem, reduceEqDiff, Nat.reduceLT, reduceAdd, reduceSub, reduceLeDiff, reduceReplicate, reduceToNat]
        · have hW1 : decide (W < 1) = true := decide_eq_true (by omega)
          have hgr : (goOn W ⟨b, t, a, l, false⟩).refs = l := by
            unfold goOn
            simp only [decide_eq_false hW, Bool.false_and]
            rw [if_neg (by decide)]
          simp only [hW, hW1, decide_true, decide_false, eN.C, dG.K, dG.H, cU.K, cU.H, aA, aA, gq, reduceEq, reduceLT, reduceLE, implies_true, reduceCtorEq, if_true, if_false, go_sem, reduceEqDiff, Nat.reduceLT, reduceAdd, reduceSub, reduceLeDiff, reduceReplicate, reduceToNat]
          refine ⟨fun hd => ⟨fun h => ?_, fun h => ?_⟩, fun hd => ?_⟩
          · rw [hgo2 _ hgr false _ (by simp [kF, hd, h]) (by simp [hd]; rfl), decide_eq_false h]
            refine aG ?_ rfl
            simp only [Sk.V, List.take_length, go_sem, reduceEqDiff, Nat.reduceLT, reduceAdd, reduceSub, reduceLeDiff, reduceReplicate, reduceToNat]
          · rw [hgo2 _ hgr true _ (by simp [kF, hd, h]) (by simp; rfl), decide_eq_true h]
            refine aG ?_ rfl
            simp only [Sk.V, List.take_length, go_sem, reduceEqDiff, Nat.reduceLT, reduceAdd, reduceSub, reduceLeDiff, reduceReplicate, reduceToNat]
          · rw [hgo2 _ hgr true _ (by simp [kF, hd]; omega) (by simp; rfl)]
            refine aG ?_ rfl
            simp only [Sk.V, List.take_length, go_sem, reduceEqDiff, Nat.reduceLT, reduceAdd, reduceSub, reduceLeDiff, reduceReplicate, reduceToNat]
end Lam
namespace Lam
open Go Go.Proofs
def ExtT (T T1 : List AObj) : Prop := OkT T1 ∧ T1.take T.length = T
theorem ExtT.refl {T : List AObj} (h : OkT T) : ExtT T T := ⟨h, List.take_of_length_le (Nat.le_refl _)⟩
theorem ExtT.len {T T1 : List AObj} (h : ExtT T T1) : T.length ≤ T1.length := by
  have := congrArg List.length h.2
  rw [List.length_take] at this; omega
theorem ExtT.trans {T T1 T2 : List AObj} (h : ExtT T T1) (h' : ExtT T1 T2) : ExtT T T2 :=
  ⟨h'.1, by
    have e : T2.take T.length = (T2.take T1.length).take T.length := by rw [List.take_take, Nat.min_eq_left h.len]
    rw [e, h'.2, h.2]⟩
theorem ExtT.snoc {T T1 : List AObj} (h : ExtT T T1) (k : IntKind) (n : Int) : ExtT T (T1 ++ [.box (.int k n)]) :=
  ⟨h.1.snoc k n, by rw [List.take_append_of_le_length h.len]; exact h.2⟩
abbrev aIf (C : Con) : Ctx := ctx [(109, bX.C)] [(126, aQ.K), (127, bC.K), (128, aV.K), (129, bK.K), (130, aY.K), (131, aF.K), (133, aL.K), (119, C)] bS.loops
def pdqD : Nat → Con
  | 0 => fun _ _ _ => False
  | d + 1 => fun args h K => match args with
    | [a0, a1, a2, a3, a4] => bS.H (aIf (pdqD d)) a0 a1 a2 a3 a4 h K
    | _ => False
theorem pdqD.spec : ∀ d, dH Tryz.prog 119 (pdqD d)
  | 0 => by
    refine dH.of (c := ctx [] [] bS.loops) (bQ (by simp) (by simp) bS.loops) bS.at bS.nm bS.bd ?_
    intro args h K hC
    exact hC.elim
  | d + 1 => by
    refine dH.of (c := aIf (pdqD d)) (bQ (by simpa using bX.spec) (by simpa using ⟨aQ.spec, bC.spec, aV.spec, bK.spec, aY.spec, aF.spec, aL.spec, pdqD.spec d⟩) bS.loops) bS.at bS.nm bS.bd ?_
    intro args h K hC
    unfold pdqD at hC
    split at hC
    · rw [bS.eq]; exact hC
    · exact hC.elim
theorem aMw (A : SkT) (m : bD → Bool) (v : Nat) (n : Nat) (hr : roomy n) (h255 : n < 256) : ∀ (d : Nat) (l : List RecT) (T : List AObj) (hTn : OkT T) (a b : Nat) (lim : Int) (hn : n = l.length) (hab : a ≤ b) (hbn : b ≤ n) (hd : b < a + d) (hpre : PreS a b l) (hnd : (l.map (·.key)).Nodup) (K : AOut → List AObj → Prop)
    (hK : ∀ l' T', ExtT T T' → SegP a b l l' → SegS a b l' → K (.ret (.tup [])) (hpS A m v l' T')),
    pdqD d [.sref false 2 v 0 n, .int .i64 a, .int .i64 b, .int .i64 lim, hitF] (hpS A m v l T) K
  | 0, l, T, hTn, a, b, lim, hn, hab, hbn, hd, hpre, hnd, K, hK => by omega
  | d + 1, l, T, hTn, a0, b0, lim0, hn, hab0, hbn0, hd, hpre0, hnd, K, hK => by
    have ih := aMw A m v n hr h255 d
    have hr' := hr
    unfold roomy at hr'
    have h2 : 2 < T.length + 1 + 1 + 1 := by omega
    unfold pdqD bS.H
    simp only [hpS, hTn _ _, SkT.norm, h2, aA, aA, gq, reduceEq, reduceLT, reduceLE, implies_true, reduceCtorEq, if_true, if_false, go_sem, reduceEqDiff, Nat.reduceLT, reduceAdd, reduceSub, reduceLeDiff, reduceReplicate, reduceToNat]
    unfold bS.L1
    refine aRW (σ := List RecT × Nat × Nat × Int × Bool × Bool) (fun s => .int .i64 s.2.1) (fun s => .int .i64 s.2.2.1) (fun s => .int .i64 s.2.2.2.1) (fun s => .bool s.2.2.2.2.1) (fun s => .bool s.2.2.2.2.2) (fun s => .box A.V :: .map (.sb m) :: .row .own v (.recs s.1) :: T) (fun s => s.2.2.1 - s.2.1)
      (fun s => a0 ≤ s.2.1 ∧ s.2.1 ≤ s.2.2.1 ∧ s.2.2.1 ≤ b0 ∧ SegP a0 b0 l s.1 ∧ PreS s.2.1 s.2.2.1 s.1 ∧ ∀ l', SegP s.2.1 s.2.2.1 s.1 l' → SegS s.2.1 s.2.2.1 l' → SegS a0 b0 l') (l, a0, b0, lim0, true, true) rfl rfl ⟨Nat.le_refl _, hab0, Nat.le_refl _, SegP.refl, hpre0, fun l' _ h => h⟩ ?_
    rintro I back ⟨l1, a, b, lim, t10, t11⟩ ⟨g1, g2, g3, g4, g5, g6⟩
    simp only at g1 g2 g3 g4 g5 g6 ⊢
    have hl1 := g4.len
    obtain ⟨len, hlen⟩ : ∃ len, b - a = len := ⟨_, rfl⟩
    have e2 : IntKind.i64.wrap ((b : Int) - a) = (len : Int) := by rw [w64 (by omega) (by omega)]; omega
    have hlt : ∀ (l2 : List RecT) (p : Nat), SegP a b l1 l2 → a ≤ p → p < b → 0 < a → ltB (kyL l2 (a - 1)) (kyL l2 p) = true := fun l2 p h1 h3 h4 h5 => by
      rcases g5.keep h1 with h | h
      · omega
      · refine wU (h p h3 h4) fun e => ?_
        have hnd2 : (l2.map (·.key)).Nodup := ((g4.trans (h1.mono g1 g3)).1.map _).nodup_iff.2 hnd
        have hl2 := h1.len
        have h6 := List.pairwise_iff_getElem.1 hnd2 (a - 1) p (by simp; omega) (by simp; omega) (by omega)
        apply h6
        unfold kyL at e
        rw [List.getD_eq_getElem?_getD, List.getD_eq_getElem?_getD, List.getElem?_eq_getElem (by omega), List.getElem?_eq_getElem (by omega)] at e
        simpa using e
    have ea1 : 0 < a → IntKind.i64.wrap ((a : Int) - 1) = ((a - 1 : Nat) : Int) := fun h => by rw [w64 (by omega) (by omega)]; omega
    have eb1 : 0 < b → IntKind.i64.wrap ((b : Int) - 1) = ((b - 1 : Nat) : Int) := fun h => by rw [w64 (by omega) (by omega)]; omega
    have ep1 : ∀ p : Nat, a ≤ p → p < b → IntKind.i64.wrap (((b - 1 : Nat) : Int) - IntKind.i64.wrap ((p : Int) - (a : Int))) = ((b - 1 - (p - a) : Nat) : Int) := fun p h1 h3 => by
      rw [w64 (n := (p : Int) - a) (by omega) (by omega), w64 (n := ((b - 1 : Nat) : Int) - ((p : Int) - (a : Int))) (by omega) (by omega)]; omega
    refine nH fun kb hkb => ?_
    rw [aA]
    simp only [SkT.norm, e2, gq, reduceEq, reduceLT, reduceLE, implies_true, reduceCtorEq, if_true, if_false, go_sem, reduceEqDiff, Nat.reduceLT, reduceAdd, reduceSub, reduceLeDiff, reduceReplicate, reduceToNat]
    refine ⟨fun h12 => ?_, fun h12 => ⟨fun hz => ?_, fun hz => ?_⟩⟩
    · exact aSc A m v l1 T hTn n a b (by omega) g2 (by omega) hr _ fun l' p s => hK l' T (ExtT.refl hTn) (g4.trans (p.mono g1 g3)) (g6 l' p s)
    · exact aNR A m v l1 T hTn n a b (by omega) (by omega) (by omega) hr _ fun l' p s => hK l' T (ExtT.refl hTn) (g4.trans (p.mono g1 g3)) (g6 l' p s)
    have backb : ∀ (l6 : List RecT) (T6 : List AObj) (a' b' : Nat) (lim' : Int) (x y : Bool), ExtT T T6 → a ≤ a' → a' ≤ b' → b' ≤ b → b' - a' < b - a → SegP a b l1 l6 → PreS a' b' l6 → (∀ l7, SegP a' b' l6 l7 → SegS a' b' l7 → SegS a b l7) → kb (.int .i64 a') (.int .i64 b') (.int .i64 lim') (.bool x) (.bool y) (hpS A m v l6 T6) := by
      intro l6 T6 a' b' lim' x y x6 q1 q2 q3 q4 q5 q6 q7
      have hT6 := x6.1
      have hx6 := x6.2
      rw [hkb]
      simp only [hpS, hT6 _ _, hx6, hTn _ _, SkT.norm, h2, gq, reduceEq, reduceLT, reduceLE, implies_true, reduceCtorEq, if_true, if_false, go_sem, reduceEqDiff, Nat.reduceLT, reduceAdd, reduceSub, reduceLeDiff, reduceReplicate, reduceToNat]
      exact back (l6, a', b', lim', x, y) q4 rfl rfl ⟨by simp only; omega, q2, by simp only; omega, g4.trans (q5.mono g1 g3), q6, fun l7 p7 s7 => g6 l7 (q5.trans (p7.mono q1 q3)) (q7 l7 p7 s7)⟩
    clear hkb
    refine nH fun k3 hk3 => ?_
    have rest3 : ∀ (l2 : List RecT) (T2 : List AObj) (lim2 : Int), ExtT T T2 → SegP a b l1 l2 → k3 (.int .i64 lim2) (hpS A m v l2 T2) := by
      intro l2 T2 lim2 x2 p2
      have hT2 := x2.1
      rw [hk3]
      simp only [hpS, hT2 _ _, SkT.norm, gq, reduceEq, reduceLT, reduceLE, implies_true, reduceCtorEq, if_true, if_false, go_sem, reduceEqDiff, Nat.reduceLT, reduceAdd, reduceSub, reduceLeDiff, reduceReplicate, reduceToNat]
      refine aLQ A m v l2 T2 hT2 n a b (by rw [p2.len]; omega) (by omega) (by omega) hr _ fun p e s hp1 hp2 he => ?_
      have x3 := x2.snoc .i64 s
      generalize T2 ++ [AObj.box (.int .i64 s)] = T3 at *
      have hT3 := x3.1
      simp only [hpS, hT3 _ _, SkT.norm, gq, reduceEq, reduceLT, reduceLE, implies_true, reduceCtorEq, if_true, if_false, go_sem, reduceEqDiff, Nat.reduceLT, reduceAdd, reduceSub, reduceLeDiff, reduceReplicate, reduceToNat]
      refine nH fun k4 hk4 => ?_
      have rest4 : ∀ (l3 : List RecT) (p : Nat) (e : Int), SegP a b l1 l3 → a ≤ p → p < b → k4 (.int .i64 p) (.int .i64 e) (hpS A m v l3 T3) := by
        intro l3 p e p3 hp1 hp2
        have hl3 := p3.len
        rw [hk4]
        cases t10 <;> cases t11 <;> simp only [hpS, hT3 _ _, SkT.norm, gq, reduceEq, reduceLT, reduceLE, implies_true, reduceCtorEq, if_true, if_false, go_sem, reduceEqDiff, Nat.reduceLT, reduceAdd, reduceSub, reduceLeDiff, reduceReplicate, reduceToNat]
        all_goals (rw [aA]; simp only [gq, reduceEq, reduceLT, reduceLE, implies_true, reduceCtorEq, if_true, if_false, go_sem, reduceEqDiff, Nat.reduceLT, reduceAdd, reduceSub, reduceLeDiff, reduceReplicate, reduceToNat])
        all_goals
          refine nH fun k7 hk7 => ?_
          have rest7 : ∀ l4, SegP a b l1 l4 → k7 (hpS A m v l4 T3) := by
            intro l4 p4
            have hl4 := p4.len
            rw [hk7]
            refine nH fun k8 hk8 => ?_
            have rest8 : ∀ x y, ((x = .bool true ∧ y = .bool false) ∨ (x = .bool false ∧ y = .und)) → k8 x y (hpS A m v l4 T3) := by
              rintro x y hxy
              rw [hk8]
              rcases hxy with ⟨rfl, rfl⟩ | ⟨rfl, rfl⟩ <;> simp only [hpS, hT3 _ _, SkT.norm, gq, reduceEq, reduceLT, reduceLE, implies_true, reduceCtorEq, if_true, if_false, go_sem, reduceEqDiff, Nat.reduceLT, reduceAdd, reduceSub, reduceLeDiff, reduceReplicate, reduceToNat]
              all_goals
                refine aHE A m v l4 T3 hT3 n a b p (by omega) (by omega) (by omega) hp1 hp2 hr _ fun l5 q al p5 hq1 hq2 hpt => ?_
                have hl5 := p5.len
                have P5 := p4.trans p5
                have f1 : IntKind.i64.wrap ((q : Int) - a) = ((q - a : Nat) : Int) := by rw [w64 (by omega) (by omega)]; omega
                have f2 : IntKind.i64.wrap ((b : Int) - q) = ((b - q : Nat) : Int) := by rw [w64 (by omega) (by omega)]; omega
                have hnd5 : (l5.map (·.key)).Nodup := ((g4.trans (P5.mono g1 g3)).1.map _).nodup_iff.2 hnd
                simp only [hpS, hT3 _ _, SkT.norm, f1, f2, eG (show q < 4611686018427387904 by omega), gq, reduceEq, reduceLT, reduceLE, implies_true, reduceCtorEq, if_true, if_false, go_sem, reduceEqDiff, Nat.reduceLT, reduceAdd, reduceSub, reduceLeDiff, reduceReplicate, reduceToNat]
                refine nH fun k9 hk9 => ?_
                have rest9 : ∀ (l6 : List RecT) (T6 : List AObj) (a' b' : Nat) (x : Bool), ExtT T T6 → a ≤ a' → a' ≤ b' → b' ≤ b → b' - a' < b - a → SegP a b l1 l6 → PreS a' b' l6 → (∀ l7, SegP a' b' l6 l7 → SegS a' b' l7 → SegS a b l7) → k9 (.int .i64 a') (.int .i64 b') (.bool x) (hpS A m v l6 T6) := fun l6 T6 a' b' x q0 q1 q2 q3 q4 q5 q6 q7 => by
                  rw [hk9]; exact backb l6 T6 a' b' lim2 x al q0 q1 q2 q3 q4 q5 q6 q7
                clear hk9
                rw [aA]
                refine ⟨fun hlt1 => ?_, fun hge => ?_⟩
                · refine ih l5 T3 hT3 a q lim2 (by omega) hq1 (by omega) (by omega) ((g5.keep P5).imp id fun h k k1 k2 => h k k1 (by omega)) hnd5 _ fun l6 T6 x6 p6 s6 => ?_
                  have hT6 := x6.1
                  have hl := hpt.left p6
                  simp only [hpS, hT6 _ _, SkT.norm, eG (show q < 4611686018427387904 by omega), gq, reduceEq, reduceLT, reduceLE, implies_true, reduceCtorEq, if_true, if_false, go_sem, reduceEqDiff, Nat.reduceLT, reduceAdd, reduceSub, reduceLeDiff, reduceReplicate, reduceToNat]
                  exact rest9 l6 T6 (q + 1) b _ (x3.trans x6) (by omega) (by omega) (Nat.le_refl _) (by omega) (P5.trans (p6.mono (Nat.le_refl _) (by omega))) (.inr fun k k1 k2 => hl.2 k (by omega) k2) fun l7 p7 s7 => (hl.right p7).sorted (s6.keep p7 (.inl (by omega))) s7
                · refine ih l5 T3 hT3 (q + 1) b lim2 (by omega) (by omega) (by omega) (by omega) (.inr fun k k1 k2 => hpt.2 k (by omega) k2) hnd5 _ fun l6 T6 x6 p6 s6 => ?_
                  have hT6 := x6.1
                  have hl := hpt.right p6
                  have P6 := P5.trans (p6.mono (by omega) (Nat.le_refl _))
                  simp only [hpS, hT6 _ _, SkT.norm, eG (show q < 4611686018427387904 by omega), gq, reduceEq, reduceLT, reduceLE, implies_true, reduceCtorEq, if_true, if_false, go_sem, reduceEqDiff, Nat.reduceLT, reduceAdd, reduceSub, reduceLeDiff, reduceReplicate, reduceToNat]
                  exact rest9 l6 T6 a q _ (x3.trans x6) (Nat.le_refl _) (by omega) (by omega) (by omega) P6 ((g5.keep P6).imp id fun h k k1 k2 => h k k1 (by omega)) fun l7 p7 s7 => (hl.left p7).sorted s7 (s6.keep p7 (.inr (by omega)))
            clear hk8
            rw [aA]
            by_cases ha0 : 0 < a
            · have hlt0 := hlt l4 p p4 hp1 hp2 ha0
              have da : decide ((0 : Int) < (a : Int)) = true := decide_eq_true (by omega)
              simp only [hpS, hT3 _ _, SkT.norm, da, hlt0, ea1 ha0, Int.toNat_natCast, bX.C, iS, iP, jE, gq, reduceEq, reduceLT, reduceLE, implies_true, reduceCtorEq, if_true, if_false, go_sem, reduceEqDiff, Nat.reduceLT, reduceAdd, reduceSub, reduceLeDiff, reduceReplicate, reduceToNat]
              refine ⟨⟨by omega, by omega⟩, by omega, ⟨by omega, by omega⟩, by omega, ?_⟩
              exact rest8 _ _ (.inl ⟨rfl, rfl⟩)
            · have da : decide ((0 : Int) < (a : Int)) = false := decide_eq_false (by omega)
              simp only [hpS, da, gq, reduceEq, reduceLT, reduceLE, implies_true, reduceCtorEq, if_true, if_false, go_sem, reduceEqDiff, Nat.reduceLT, reduceAdd, reduceSub, reduceLeDiff, reduceReplicate, reduceToNat]
              exact rest8 _ _ (.inr ⟨rfl, rfl⟩)
          clear hk7
          rw [aA]
          first
            | exact rest7 l3 p3
            | refine ⟨fun _ => aNQ A m v l3 T3 hT3 n a b (by omega) (by omega) (by omega) (g5.keep p3) hr _ (fun l4 p4 s4 => ?_) fun l4 p4 => ?_, fun _ => rest7 l3 p3⟩
              · simp only [hpS, gq, reduceEq, reduceLT, reduceLE, implies_true, reduceCtorEq, if_true, if_false, go_sem, reduceEqDiff, Nat.reduceLT, reduceAdd, reduceSub, reduceLeDiff, reduceReplicate, reduceToNat]
                exact hK l4 T3 x3 (g4.trans ((p3.trans p4).mono g1 g3)) (g6 l4 (p3.trans p4) s4)
              · simp only [hpS, gq, reduceEq, reduceLT, reduceLE, implies_true, reduceCtorEq, if_true, if_false, go_sem, reduceEqDiff, Nat.reduceLT, reduceAdd, reduceSub, reduceLeDiff, reduceReplicate, reduceToNat]
                exact rest7 l4 (p3.trans p4)
      rw [aA]
      simp only [eb1 (by omega), ep1 p hp1 hp2, gq, reduceEq, reduceLT, reduceLE, implies_true, reduceCtorEq, if_true, if_false, go_sem, reduceEqDiff, Nat.reduceLT, reduceAdd, reduceSub, reduceLeDiff, reduceReplicate, reduceToNat]
      refine ⟨fun he2 => aKK A m v l2 T3 hT3 n a b (by rw [p2.len]; omega) (by omega) (by omega) hr _ fun l3 p3 => ?_, fun _ => rest4 l2 p e p2 hp1 hp2⟩
      simp only [hpS, hT3 _ _, SkT.norm, gq, reduceEq, reduceLT, reduceLE, implies_true, reduceCtorEq, if_true, if_false, go_sem, reduceEqDiff, Nat.reduceLT, reduceAdd, reduceSub, reduceLeDiff, reduceReplicate, reduceToNat]
      exact rest4 l3 (b - 1 - (p - a)) 1 (p2.trans p3) (by omega) (by omega)
    rw [aA]
    cases t10 with
    | false =>
      simp only [gq, reduceEq, reduceLT, reduceLE, implies_true, reduceCtorEq, if_true, if_false, go_sem, reduceEqDiff, Nat.reduceLT, reduceAdd, reduceSub, reduceLeDiff, reduceReplicate, reduceToNat]
      refine aMS A m v l1 T hTn n a b (by omega) (by omega) (by omega) (by omega) hr _ fun l2 y p2 => ?_
      have x2 := (ExtT.refl hTn).snoc .u64 y
      have hT2 := x2.1
      simp only [hpS, gq, reduceEq, reduceLT, reduceLE, implies_true, reduceCtorEq, if_true, if_false, go_sem, reduceEqDiff, Nat.reduceLT, reduceAdd, reduceSub, reduceLeDiff, reduceReplicate, reduceToNat]
      exact rest3 l2 _ _ x2 p2
    | true =>
      simp only [gq, reduceEq, reduceLT, reduceLE, implies_true, reduceCtorEq, if_true, if_false, go_sem, reduceEqDiff, Nat.reduceLT, reduceAdd, reduceSub, reduceLeDiff, reduceReplicate, reduceToNat]
      exact rest3 l1 T lim (ExtT.refl hTn) SegP.refl
def bF.K : Con := fun args h K => match args with
  | [a0, a1] => bF.H (ctx [(120, dJ.C)] [(119, pdqD 256)] bF.loops) a0 a1 h K
  | _ => False
theorem bF.spec : dH Tryz.prog 108 bF.K := by
  refine dH.of (c := ctx [(120, dJ.C)] [(119, pdqD 256)] bF.loops) (bQ (by simpa using dJ.spec) (by simpa using pdqD.spec 256) bF.loops) bF.at bF.nm bF.bd ?_
  intro args h K hC
  unfold bF.K at hC
  split at hC
  · rw [bF.eq]; exact hC
  · exact hC.elim
theorem aNU (A : SkT) (m : bD → Bool) (v : Nat) (l : List RecT) (n : Nat) (hn : n = l.length) (h255 : n < 256) (hnd : (l.map (·.key)).Nodup) (K : AOut → List AObj → Prop)
    (hK : ∀ l' T, l'.Perm l → SegS 0 n l' → K (.ret (.tup [])) (hpS A m v l' T)) :
    bF.K [.sref false 2 v 0 n, hitF] (hpS A m v l []) K := by
  have hr : roomy n := by unfold roomy; omega
  have e1 : IntKind.u64.wrap (n : Int) = n := aAo (by omega) (by omega)
  unfold bF.K bF.H
  simp only [hpS, dJ.C, e1, Int.toNat_natCast, aA, gq, reduceEq, reduceLT, reduceLE, implies_true, reduceCtorEq, if_true, if_false, go_sem, reduceEqDiff, Nat.reduceLT, reduceAdd, reduceSub, reduceLeDiff, reduceReplicate, reduceToNat]
  exact ⟨⟨by omega, by omega⟩, aMw A m v n hr h255 256 l [] OkT.nil 0 n _ hn (Nat.zero_le _) (Nat.le_refl _) (by omega) (.inl rfl) hnd _ fun l' T' _ s1 s2 => hK l' T' s1.1 s2⟩
end Lam
namespace Lam
open Go Go.Proofs
def rcT (x : Rc) : RecT := ⟨x.kind, x.key, x.val, x.child⟩
def hitS (w : List Int) (out : List RecT) (r : Int) : List RecT := match recO w r with
  | none => out
  | some x => if x.key ∈ out.map (·.key) then out else out ++ [rcT x]
def iX (w refs : List Int) : List RecT := refs.foldl (hitS w) []
theorem aLT (w : List Int) (out : List RecT) (r : Int) : (hitS w out r).length ≤ out.length + 1 := by
  unfold hitS
  split
  · omega
  · split
    · omega
    · simp
theorem aJo {w : List Int} {out : List RecT} {r : Int} (h : (out.map (·.key)).Nodup) : ((hitS w out r).map (·.key)).Nodup := by
  unfold hitS
  split
  · exact h
  · split
    · exact h
    · rename_i x _ hx
      rw [List.map_append, List.nodup_append]
      refine ⟨h, by simp, fun a ha b hb => ?_⟩
      simp only [List.map_cons, List.map_nil, List.mem_singleton] at hb
      subst hb
      rintro rfl
      exact hx ha
theorem aAI {w : List Int} : ∀ {refs : List Int} {out : List RecT}, (out.map (·.key)).Nodup → ((refs.foldl (hitS w) out).map (·.key)).Nodup ∧ (refs.foldl (hitS w) out).length ≤ out.length + refs.length
  | [], out, h => ⟨h, by simp⟩
  | r :: refs, out, h => by
    obtain ⟨h1, h2⟩ := aAI (refs := refs) (aJo (r := r) (w := w) h)
    have := aLT w out r
    exact ⟨h1, by simp only [List.foldl_cons, List.length_cons]; omega⟩
def insR (x : RecT) : List RecT → List RecT
  | [] => [x]
  | y :: l => if ltB x.key y.key = true then x :: y :: l else y :: insR x l
def uN (l : List RecT) : List RecT := l.foldr insR []
theorem aAJ (x : RecT) : ∀ l : List RecT, (insR x l).Perm (x :: l)
  | [] => .refl _
  | y :: l => by
    unfold insR
    split
    · exact .refl _
    · exact ((aAJ x l).cons y).trans (.swap x y l)
theorem rW : ∀ l : List RecT, (uN l).Perm l
  | [] => .refl _
  | x :: l => (aAJ x _).trans ((rW l).cons x)
def ltR (x y : RecT) : Prop := ltB x.key y.key = true
theorem aDw {x : RecT} : ∀ {l : List RecT}, l.Pairwise ltR → (∀ y ∈ l, y.key ≠ x.key) → (insR x l).Pairwise ltR
  | [], _, _ => by simp [insR]
  | y :: l, h, hx => by
    rw [List.pairwise_cons] at h
    unfold insR
    split
    · rename_i hl
      rw [List.pairwise_cons]
      refine ⟨fun z hz => ?_, List.pairwise_cons.2 h⟩
      rcases List.mem_cons.1 hz with rfl | hz
      · exact hl
      · exact kK hl (h.1 z hz)
    · rename_i hl
      rw [List.pairwise_cons]
      refine ⟨fun z hz => ?_, aDw h.2 fun z hz => hx z (by simp [hz])⟩
      rcases List.mem_cons.1 ((aAJ x l).mem_iff.1 hz) with rfl | hz
      · exact wU (by unfold leB; simpa using hl) (hx y (by simp))
      · exact h.1 z hz
theorem wV : ∀ {l : List RecT}, (l.map (·.key)).Nodup → (uN l).Pairwise ltR
  | [], _ => List.Pairwise.nil
  | x :: l, h => by
    rw [List.map_cons, List.nodup_cons] at h
    refine aDw (wV h.2) fun y hy he => h.1 ?_
    rw [← he]
    exact List.mem_map_of_mem (f := (·.key)) ((rW l).mem_iff.1 hy)
theorem aCl : ∀ {l l' : List RecT}, l.Pairwise ltR → l'.Pairwise ltR → l.Perm l' → l = l'
  | [], l', _, _, p => p.nil_eq
  | x :: l, [], _, _, p => by have := p.length_eq; simp at this
  | x :: l, y :: l', h, h', p => by
    rw [List.pairwise_cons] at h h'
    have e : x = y := by
      rcases List.mem_cons.1 (p.mem_iff.1 (List.mem_cons_self (a := x))) with e | hx
      · exact e
      · rcases List.mem_cons.1 (p.mem_iff.2 (List.mem_cons_self (a := y))) with e | hy
        · exact e.symm
        · have := kK (h.1 y hy) (h'.1 x hx)
          rw [qR] at this; cases this
    subst e
    rw [aCl h.2 h'.2 (List.Perm.cons_inv p)]
theorem aKN {l l' : List RecT} (hp : l'.Perm l) (hs : SegS 0 l.length l') (hn : (l.map (·.key)).Nodup) : l' = uN l := by
  refine aCl ?_ (wV hn) (hp.trans (rW l).symm)
  have hn' : (l'.map (·.key)).Nodup := (hp.map _).nodup_iff.2 hn
  rw [List.pairwise_iff_getElem]
  intro i j hi hj hij
  have h1 := hs i j (Nat.zero_le _) hij (by rw [← hp.length_eq]; exact hj)
  unfold kyL at h1
  rw [List.getD_eq_getElem?_getD, List.getD_eq_getElem?_getD, List.getElem?_eq_getElem hi, List.getElem?_eq_getElem hj] at h1
  refine wU h1 fun e => ?_
  have := List.pairwise_iff_getElem.1 hn' i j (by simpa using hi) (by simpa using hj) hij
  apply this
  simpa using e
def fR.C : aE
  | [.sl _ (.ints .i64 w), .agg [.int .i64 b, .int .i64 t, .int .i64 a, .sl _ (.ints .i64 l), .bool o]] => some (false, pD (roomy w.length ∧ l.length ≤ 200) (.sl false (.recs (uN (iX w l)))))
  | _ => none
theorem fR.spec : bI Tryz.prog 89 fR.C := by
  refine bI.of (bQ (F := [(79, dQ.C)]) (S := [(108, bF.K)]) (by simpa using dQ.spec) (by simpa using bF.spec) fR.loops) fR.at fR.nm fR.bd ?_
  intro vs b S v news e hS
  unfold fR.C at e
  split at e
  rotate_left
  · cases e
  cases e
  rw [fR.eq]
  unfold fR.H
  simp (maxSteps := 4000000) only [go_sem, reduceEqDiff, Nat.reduceLT, reduceAdd, reduceSub, reduceLeDiff, reduceReplicate, reduceToNat, dQ.C]
  rename_i _ w b t a x l o
  obtain ⟨hw, hl⟩ := hS
  rw [aA]
  unfold fR.L1
  refine oI (σ := Nat) (fun k => .sref false 2 (iX w (l.take k)).length 0 (iX w (l.take k)).length) (fun k => .int .i64 k) (fun k => [.box (Sk.V ⟨b, t, a, l, o⟩), .map (.sb fun s => decide (s ∈ (iX w (l.take k)).map (·.key))), .row .own (iX w (l.take k)).length (.recs (iX w (l.take k)))]) (fun k => l.length - k) (fun k => k ≤ l.length) 0 rfl (by simp [iX, Sk.V]) (Nat.zero_le _) ?_
  intro I back k hk
  have hnext : k < l.length → iX w (l.take (k + 1)) = hitS w (iX w (l.take k)) (l.getD k 0) := fun h => by
    unfold iX; rw [gP l k 0 h, List.foldl_append]; rfl
  obtain ⟨hnd, hol⟩ := aAI (w := w) (refs := l.take k) (out := []) (by simp)
  have hnd : ((iX w (l.take k)).map (·.key)).Nodup := hnd
  have hol : (iX w (l.take k)).length ≤ k := by
    have : (iX w (l.take k)).length ≤ 0 + (l.take k).length := hol
    rw [List.length_take] at this; omega
  by_cases hlt : k < l.length
  · have hb : ∀ (n : Nat) (lv : List AV) (h : List AObj), _ := fun n lv h => @back n lv h (k + 1)
    rw [hnext hlt] at hb
    clear back hnext
    generalize iX w (l.take k) = out at *
    cases hx : recO w (l.getD k 0) with
    | none =>
      obtain ⟨e, he, hr⟩ := aKM hx
      have hs : hitS w out (l.getD k 0) = out := by unfold hitS; rw [hx]
      rw [hs] at hb
      simp only [dQ.C, hr, kB, he, decide_false, aA, Sk.V, aA, gq, reduceEq, reduceLT, reduceLE, implies_true, reduceCtorEq, if_true, if_false, go_sem, reduceEqDiff, Nat.reduceLT, reduceAdd, reduceSub, reduceLeDiff, reduceReplicate, reduceToNat]
      exact ⟨fun _ => ⟨⟨by omega, by omega⟩, hw, hb _ _ _ (by omega) (by rw [eG (by omega)]) rfl (by omega)⟩, fun h => absurd h (by omega)⟩
    | some y =>
      obtain ⟨y1, y2, y3, y4⟩ := y
      by_cases hin : y2 ∈ out.map (·.key)
      · have hs : hitS w out (l.getD k 0) = out := by unfold hitS; rw [hx]; simp only [hin, if_true]
        rw [hs] at hb
        simp only [dQ.C, aEO hx, hin, decide_true, aA, Sk.V, aA, gq, reduceEq, reduceLT, reduceLE, implies_true, reduceCtorEq, if_true, if_false, go_sem, reduceEqDiff, Nat.reduceLT, reduceAdd, reduceSub, reduceLeDiff, reduceReplicate, reduceToNat]
        exact ⟨fun _ => ⟨⟨by omega, by omega⟩, hw, hb _ _ _ (by omega) (by rw [eG (by omega)]) rfl (by omega)⟩, fun h => absurd h (by omega)⟩
      · have hs : hitS w out (l.getD k 0) = out ++ [⟨y1, y2, y3, y4⟩] := by unfold hitS; rw [hx]; simp only [hin, if_false]; rfl
        rw [hs] at hb
        have hmap : (fun j => if j = y2 then true else decide (j ∈ out.map (·.key))) = fun j => decide (j ∈ (out ++ [(⟨y1, y2, y3, y4⟩ : RecT)]).map (·.key)) := by
          funext j
          rw [List.map_append, show decide (j ∈ out.map (·.key) ++ [(⟨y1, y2, y3, y4⟩ : RecT)].map (·.key)) = decide (j ∈ out.map (·.key) ∨ j = y2) from decide_eq_decide.2 (by simp)]
          by_cases e : j = y2
          · simp [e]
          · simp [e]
        simp only [dQ.C, aEO hx, hin, decide_false, aA, Sk.V, aA, gq, reduceEq, reduceLT, reduceLE, implies_true, reduceCtorEq, if_true, if_false, go_sem, reduceEqDiff, Nat.reduceLT, reduceAdd, reduceSub, reduceLeDiff, reduceReplicate, reduceToNat]
        have hl1 : (out ++ [(⟨y1, y2, y3, y4⟩ : RecT)]).length = out.length + 1 := by simp
        refine ⟨fun _ => ⟨⟨by omega, by omega⟩, hw, by rw [hl1]; unfold roomy; omega, hb _ _ _ (by omega) (by rw [eG (by omega), hl1]) (by rw [hmap, hl1]; rfl) (by omega)⟩, fun h => absurd h (by omega)⟩
  · obtain rfl : k = l.length := by omega
    rw [List.take_length] at hnd hol ⊢
    clear back hnext
    simp only [Sk.V, aA, gq, reduceEq, reduceLT, reduceLE, implies_true, reduceCtorEq, if_true, if_false, go_sem, reduceEqDiff, Nat.reduceLT, reduceAdd, reduceSub, reduceLeDiff, reduceReplicate, reduceToNat]
    refine ⟨fun h => absurd h (by omega), fun _ => ?_⟩
    refine aNU ⟨b, t, a, l, o⟩ _ _ (iX w l) _ rfl (by omega) hnd _ fun l' tl hp hs => ?_
    simp only [hpS, SkT.V, aA, gq, reduceEq, reduceLT, reduceLE, implies_true, reduceCtorEq, if_true, if_false, go_sem, reduceEqDiff, Nat.reduceLT, reduceAdd, reduceSub, reduceLeDiff, reduceReplicate, reduceToNat]
    have e := aKN hp hs hnd
    rw [← e]
    refine aG ?_ rfl
    simp only [List.take_of_length_le (Nat.le_of_eq hp.length_eq), go_sem, reduceEqDiff, Nat.reduceLT, reduceAdd, reduceSub, reduceLeDiff, reduceReplicate, reduceToNat]
end Lam
namespace Lam
open Go Go.Proofs
end Lam
namespace Lam
open Go Go.Proofs
structure Rd where
  key : bD
  phase : Int
  block : Int
  to_ : Int
  seek : Sk
  val : bD
  found : Bool
def Rd.V (r : Rd) : AV := .agg [.str r.key, .int .i64 r.phase, .int .i64 r.block, .int .i64 r.to_, r.seek.V, .str r.val, .bool r.found]
def doM (m : Mm) (x : Mic) : Mm := if xU m [x] = true then runS m [x] else m
theorem aMT (m : Mm) (x : Mic) : ∃ e, runV m [x] = .tup [(doM m x).V, .int .i64 e] := by
  unfold runV doM
  split
  · exact ⟨_, rfl⟩
  · exact ⟨_, rfl⟩
def nU (m : Mm) (block line : Int) : Mm := if 0 ≤ block ∧ block < 256 then doM m ⟨2, 2 * block + line, 0⟩ else m
def vQ (w : List Int) (b : Int) : Option (Int × bD) := match dF w b with
  | none => none
  | some n => if n.next = 0 then none else match (dF w n.next).bind (lowO w) with
    | none => none
    | some l => some (n.next, l)
def aBh (w : List Int) : Int := if eF w = true then w.getD 3 0 else 1
theorem aKO (w : List Int) (b : Int) : ∃ (n1 n2 n3 n4 : Int) (n5 : List Int) (e : Int) (lo : bD) (e2 : Int), qI w b = .tup [.agg [.int .i64 n1, .int .i64 n2, .int .i64 n3, .int .i64 n4, .sl false (.ints .i64 n5)], .int .i64 e] ∧ lowV w n3 = .tup [.str lo, .int .i64 e2] ∧ vQ w b = if n3 ≠ 0 ∧ e2 = 0 then some (n3, lo) else none := by
  have hlow : ∀ x : Int, ∃ lo e2, lowV w x = .tup [.str lo, .int .i64 e2] ∧ (dF w x).bind (lowO w) = if e2 = 0 then some lo else none := fun x => by
    unfold lowV
    cases h : (dF w x).bind (lowO w) with
    | none => exact ⟨_, _, rfl, (if_neg (by decide)).symm⟩
    | some l => exact ⟨_, _, rfl, (if_pos rfl).symm⟩
  unfold vQ
  cases hn : dF w b with
  | none =>
    obtain ⟨e, _, hv⟩ := nT hn
    obtain ⟨lo, e2, hl, _⟩ := hlow 0
    exact ⟨0, 0, 0, 0, [], e, lo, e2, hv, hl, (if_neg (fun h => h.1 rfl)).symm⟩
  | some n =>
    obtain ⟨n1, n2, n3, n4, n5⟩ := n
    obtain ⟨lo, e2, hl, hb⟩ := hlow n3
    refine ⟨n1, n2, n3, n4, n5, 0, lo, e2, iM hn, hl, ?_⟩
    simp only
    by_cases h0 : n3 = 0
    · rw [if_pos h0, if_neg (fun h => h.1 h0)]
    · rw [if_neg h0, hb]
      by_cases h2 : e2 = 0
      · rw [if_pos h2, if_pos ⟨h0, h2⟩]
      · rw [if_neg h2, if_neg (fun h => h2 h.2)]
end Lam
namespace Lam
open Go Go.Proofs
def eU.loops : Nat → bW
 | 3 => ⟨[], [], [], [(3, none), (2, some [24, 26])], [], []⟩
 | _ => ⟨[], [], [], [], [], []⟩
def eU.H (c : Ctx) (t0 : AV) (t1 : AV) (t2 : AV) (t3 : AV) (h : List AObj) (K : AOut → List AObj → Prop) : Prop :=
 cQ aJ h fun t8 h =>
 runD (lenD bT h t1) h fun t15 h =>
 runD (lenD bT h t2) h fun t17 h =>
 runD (maxD t15 t17) h fun t18 h =>
 runD (binD aB .gtr t18 (.int .i64 21)) h fun t19 h =>
 aU t19
 (runD (gS aJ []) h fun t20 h =>
 runH (aP aJ h t8 t20) h fun _ h =>
 cT (fitD aJ (aD h t8)) fun r0 => K (.ret (.tup [r0, (.int .i64 20)])) h)
 (runD (binD aB .lss t3 (.int .i64 1)) h fun t23 h =>
 aM (fun (J1 : AV → AV → List AObj → Prop) =>
 aX t23 false
 (runD (binD aB .gtr t3 (.int .i64 100)) h fun t26 h =>
 J1 (.bool false) t26 h)
 (J1 (.bool true) .und h))
 (fun t24 t26 h => runD (bO t24 (.bool true) t26) h fun t27 h =>
 aU t27
 (runD (gS aJ []) h fun t28 h =>
 runH (aP aJ h t8 t28) h fun _ h =>
 cT (fitD aJ (aD h t8)) fun r0 => K (.ret (.tup [r0, (.int .i64 1)])) h)
 (aR false c (.fn (.func 38) [] []) [t0] h (fun t31 h =>
 runD (aW t31 0) h fun t32 h =>
 runD (aW t31 1) h fun t33 h =>
 runD (aW t31 2) h fun t34 h =>
 runD (binD cN .neq t34 (.int .i64 0)) h fun t36 h =>
 aM (fun (J2 : AV → List AObj → Prop) =>
 aU t36
 (J2 (.int .i64 1) h)
 (J2 t33 h))
 (fun t11 h => runD (gS aJ [(0, t1), (1, t2), (2, t3), (3, (.int .i64 1)), (4, t11), (7, t1)]) h fun t42 h =>
 runH (aP aJ h t8 t42) h fun _ h =>
 cT (fitD aJ (aD h t8)) fun r0 => K (.ret (.tup [r0, (.int .i64 0)])) h))
 (fun v h => K (.pan v) h))))
def fJ.loops : Nat → bW
 | 24 => ⟨[], [], [], [(4, none), (3, some [76, 79])], [], []⟩
 | _ => ⟨[], [], [], [], [], []⟩
def fJ.H (c : Ctx) (t0 : AV) (t1 : AV) (h : List AObj) (K : AOut → List AObj → Prop) : Prop :=
 boxW aN t0 h fun t2 h =>
 boxW aJ t1 h fun t3 h =>
 cQ aN h fun t4 h =>
 cQ aJ h fun t5 h =>
 runD (aC aJ t3 3) h fun t9 h =>
 runD (fitD aB (aD h t9)) h fun t10 h =>
 aM (fun (J1 : List AObj → Prop) =>
 aM (fun (J2 : AV → List AObj → Prop) =>
 runD (binD aB .eql t10 (.int .i64 1)) h fun t12 h =>
 aU t12
 (runD (fitD aN (aD h t2)) h fun t24 h =>
 runD (aC aN t2 0) h fun t25 h =>
 runD (fitD aK (aD h t25)) h fun t26 h =>
 runD (fitD aJ (aD h t3)) h fun t27 h =>
 aR false c.noS (.fn (.func 39) [] []) [t26, t27] h (fun t28 h =>
 runH (aP aN h t4 t24) h fun _ h =>
 runH (aP aJ h t5 t28) h fun _ h =>
 cT (fitD aN (aD h t4)) fun r0 => cT (fitD aJ (aD h t5)) fun r1 => K (.ret (.tup [r0, r1])) h)
 (fun _ _ => False))
 (runD (binD aB .eql t10 (.int .i64 2)) h fun t14 h =>
 aU t14
 (runD (aC aN t2 0) h fun t30 h =>
 runD (fitD aK (aD h t30)) h fun t31 h =>
 runD (aC aJ t3 4) h fun t32 h =>
 runD (fitD aB (aD h t32)) h fun t33 h =>
 aR false c (.fn (.func 40) [] []) [t31, t33] h (fun t34 h =>
 runD (aW t34 0) h fun t35 h =>
 runD (aW t34 1) h fun t36 h =>
 cQ bZ h fun t7 h =>
 runH (aP bZ h t7 t35) h fun _ h =>
 runD (aC aJ t3 3) h fun t37 h =>
 runH (aP aB h t37 (.int .i64 8)) h fun _ h =>
 runD (binD cN .eql t36 (.int .i64 0)) h fun t39 h =>
 aM (fun (J3 : List AObj → Prop) =>
 aU t39
 (runD (fitD bZ (aD h t7)) h fun t40 h =>
 runD (aC aJ t3 6) h fun t41 h =>
 runH (aP bZ h t41 t40) h fun _ h =>
 runD (aC aJ t3 3) h fun t42 h =>
 runH (aP aB h t42 (.int .i64 3)) h fun _ h =>
 J3 h)
 (J3 h))
 (fun h => J1 h))
 (fun v h => K (.pan v) h))
 (runD (binD aB .eql t10 (.int .i64 3)) h fun t16 h =>
 aU t16
 (runD (aC aN t2 0) h fun t43 h =>
 runD (fitD aK (aD h t43)) h fun t44 h =>
 runD (aC aJ t3 6) h fun t45 h =>
 runD (fitD bZ (aD h t45)) h fun t46 h =>
 aR false c (.fn (.func 41) [] []) [t44, t46] h (fun t47 h =>
 runD (aC aJ t3 6) h fun t48 h =>
 runH (aP bZ h t48 t47) h fun _ h =>
 runD (aC aJ t3 6) h fun t49 h =>
 runD (aC bZ t49 4) h fun t50 h =>
 runD (fitD mP (aD h t50)) h fun t51 h =>
 aM (fun (J4 : List AObj → Prop) =>
 aU t51
 (runD (aC aJ t3 3) h fun t52 h =>
 runH (aP aB h t52 (.int .i64 4)) h fun _ h =>
 J4 h)
 (J4 h))
 (fun h => J1 h))
 (fun v h => K (.pan v) h))
 (runD (binD aB .eql t10 (.int .i64 4)) h fun t18 h =>
 aU t18
 (runD (fitD aN (aD h t2)) h fun t53 h =>
 runD (aC aN t2 0) h fun t54 h =>
 runD (fitD aK (aD h t54)) h fun t55 h =>
 runD (fitD aJ (aD h t3)) h fun t56 h =>
 aR false c.noS (.fn (.func 42) [] []) [t55, t56] h (fun t57 h =>
 runH (aP aN h t4 t53) h fun _ h =>
 runH (aP aJ h t5 t57) h fun _ h =>
 cT (fitD aN (aD h t4)) fun r0 => cT (fitD aJ (aD h t5)) fun r1 => K (.ret (.tup [r0, r1])) h)
 (fun _ _ => False))
 (runD (binD aB .eql t10 (.int .i64 7)) h fun t20 h =>
 aU t20
 (J2 (.int .i64 1) h)
 (runD (binD aB .eql t10 (.int .i64 5)) h fun t22 h =>
 aM (fun (J5 : AV → List AObj → Prop) =>
 aU t22
 (J5 t22 h)
 (runD (binD aB .eql t10 (.int .i64 6)) h fun t23 h =>
 J5 t23 h))
 (fun t21 h => aU t21
 (J2 (.int .i64 0) h)
 (J1 h))))))))
 (fun t6 h => runD (fitD aN (aD h t2)) h fun t58 h =>
 runD (aC aJ t3 4) h fun t59 h =>
 runD (fitD aB (aD h t59)) h fun t60 h =>
 aR false c (.fn (.func 43) [] []) [t58, t60, t6] h (fun t62 h =>
 runH (aP aN h t2 t62) h fun _ h =>
 runD (aC aJ t3 3) h fun t68 h =>
 runD (fitD aB (aD h t68)) h fun t69 h =>
 runD (binD aB .eql t69 (.int .i64 6)) h fun t70 h =>
 aM (fun (J6 : List AObj → Prop) =>
 aU t70
 (runD (aC aJ t3 3) h fun t71 h =>
 runH (aP aB h t71 (.int .i64 7)) h fun _ h =>
 J6 h)
 (runD (aC aJ t3 3) h fun t73 h =>
 runD (fitD aB (aD h t73)) h fun t74 h =>
 runD (binD aB .eql t74 (.int .i64 7)) h fun t75 h =>
 aM (fun (J7 : AV → AV → List AObj → Prop) =>
 aX t75 true
 (runD (aC aJ t3 5) h fun t77 h =>
 runD (fitD aB (aD h t77)) h fun t78 h =>
 runD (binD aB .eql t78 (.int .i64 0)) h fun t79 h =>
 J7 (.bool true) t79 h)
 (J7 (.bool false) .und h))
 (fun t76 t79 h => runD (bO t76 t79 (.bool false)) h fun t80 h =>
 aM (fun (J8 : List AObj → Prop) =>
 aU t80
 (runD (aC aJ t3 3) h fun t81 h =>
 runH (aP aB h t81 (.int .i64 8)) h fun _ h =>
 J8 h)
 (runD (aC aJ t3 5) h fun t63 h =>
 runD (fitD aB (aD h t63)) h fun t64 h =>
 runD (aC aJ t3 4) h fun t65 h =>
 runH (aP aB h t65 t64) h fun _ h =>
 runD (aC aJ t3 3) h fun t66 h =>
 runH (aP aB h t66 (.int .i64 2)) h fun _ h =>
 J8 h))
 (fun h => J6 h))))
 (fun h => J1 h))
 (fun v h => K (.pan v) h)))
 (fun h => runD (fitD aN (aD h t2)) h fun t82 h =>
 runD (fitD aJ (aD h t3)) h fun t83 h =>
 runH (aP aN h t4 t82) h fun _ h =>
 runH (aP aJ h t5 t83) h fun _ h =>
 sepB t4 [t3] = true ∧ cT (fitD aN (aD h t4)) fun r0 => cT (fitD aJ (aD h t5)) fun r1 => K (.ret (.tup [r0, r1])) h)
def hH.loops : Nat → bW
 | 4 => ⟨[], [], [], [(3, none), (3, some [30, 33])], [], []⟩
 | 6 => ⟨[], [], [], [(3, none), (2, some [39, 41])], [], []⟩
 | _ => ⟨[], [], [], [], [], []⟩
def hH.H (c : Ctx) (t0 : AV) (t1 : AV) (h : List AObj) (K : AOut → List AObj → Prop) : Prop :=
 boxW aJ t1 h fun t3 h =>
 cQ aJ h fun t4 h =>
 runD (aC aJ t3 4) h fun t11 h =>
 runD (fitD aB (aD h t11)) h fun t12 h =>
 aR false c (.fn (.func 46) [] []) [t0, t12] h (fun t13 h =>
 runD (aW t13 0) h fun t14 h =>
 runD (aW t13 1) h fun t15 h =>
 cQ bA h fun t5 h =>
 runH (aP bA h t5 t14) h fun _ h =>
 runD (aC aJ t3 4) h fun t18 h =>
 runD (fitD aB (aD h t18)) h fun t19 h =>
 runD (aC aJ t3 7) h fun t20 h =>
 runD (fitD bT (aD h t20)) h fun t21 h =>
 aR false c (.fn (.func 49) [] []) [t0, t19, t21, (.int .i64 0)] h (fun t22 h =>
 runD (aW t22 0) h fun t23 h =>
 runD (aW t22 1) h fun t24 h =>
 runD (binD cN .eql t15 (.int .i64 0)) h fun t29 h =>
 aM (fun (J1 : AV → AV → List AObj → Prop) =>
 aX t29 true
 (runD (aC bA t5 0) h fun t31 h =>
 runD (fitD aB (aD h t31)) h fun t32 h =>
 runD (binD aB .eql t32 (.int .i64 0)) h fun t33 h =>
 J1 (.bool true) t33 h)
 (J1 (.bool false) .und h))
 (fun t30 t33 h => runD (bO t30 t33 (.bool false)) h fun t34 h =>
 aM (fun (J2 : List AObj → Prop) =>
 aU t34
 (runD (aC aJ t3 3) h fun t35 h =>
 runH (aP aB h t35 (.int .i64 2)) h fun _ h =>
 J2 h)
 (runD (binD cN .neq t15 (.int .i64 0)) h fun t38 h =>
 aM (fun (J3 : AV → AV → List AObj → Prop) =>
 aX t38 false
 (runD (binD cN .neq t24 (.int .i64 0)) h fun t41 h =>
 J3 (.bool false) t41 h)
 (J3 (.bool true) .und h))
 (fun t39 t41 h => runD (bO t39 (.bool true) t41) h fun t42 h =>
 aM (fun (J4 : List AObj → Prop) =>
 aU t42
 (runD (aC aJ t3 4) h fun t43 h =>
 runH (aP aB h t43 (.int .i64 1)) h fun _ h =>
 runD (aC aJ t3 3) h fun t44 h =>
 runH (aP aB h t44 (.int .i64 2)) h fun _ h =>
 J4 h)
 (runD (aC aJ t3 4) h fun t26 h =>
 runH (aP aB h t26 t23) h fun _ h =>
 J4 h))
 (fun h => J2 h))))
 (fun h => runD (fitD aJ (aD h t3)) h fun t45 h =>
 runH (aP aJ h t4 t45) h fun _ h =>
 cT (fitD aJ (aD h t4)) fun r0 => K (.ret r0) h)))
 (fun v h => K (.pan v) h))
 (fun v h => K (.pan v) h)
def gG.loops : Nat → bW
 | 6 => ⟨[], [], [], [(4, none), (2, some [36, 38])], [], []⟩
 | 7 => ⟨[], [], [], [(2, none), (4, some [41, 45])], [], []⟩
 | 12 => ⟨[], [], [], [], [10], []⟩
 | 16 => ⟨[], [], [], [(2, none), (5, some [75, 80]), (2, none), (9, some [82, 91])], [], []⟩
 | _ => ⟨[], [], [], [], [], []⟩
def gG.H (c : Ctx) (t0 : AV) (t1 : AV) (h : List AObj) (K : AOut → List AObj → Prop) : Prop :=
 boxW aJ t1 h fun t3 h =>
 cQ aJ h fun t4 h =>
 runD (aC aJ t3 6) h fun t13 h =>
 runD (fitD bZ (aD h t13)) h fun t14 h =>
 aR false c (.fn (.func 71) [] []) [t0, t14] h (fun t15 h =>
 runD (unD .not t15) h fun t16 h =>
 aU t16
 (runD (aC aJ t3 3) h fun t17 h =>
 runH (aP aB h t17 (.int .i64 2)) h fun _ h =>
 runD (fitD aJ (aD h t3)) h fun t18 h =>
 runH (aP aJ h t4 t18) h fun _ h =>
 cT (fitD aJ (aD h t4)) fun r0 => K (.ret r0) h)
 (runD (aC aJ t3 4) h fun t21 h =>
 runD (fitD aB (aD h t21)) h fun t22 h =>
 aR false c (.fn (.func 46) [] []) [t0, t22] h (fun t23 h =>
 runD (aW t23 0) h fun t24 h =>
 runD (aW t23 1) h fun t25 h =>
 cQ bA h fun t5 h =>
 runH (aP bA h t5 t24) h fun _ h =>
 runD (aC bA t5 2) h fun t28 h =>
 runD (fitD aB (aD h t28)) h fun t29 h =>
 aR false c (.fn (.func 47) [] []) [t0, t29] h (fun t30 h =>
 runD (aW t30 0) h fun t31 h =>
 runD (aW t30 1) h fun t32 h =>
 runD (aC bA t5 2) h fun t33 h =>
 runD (fitD aB (aD h t33)) h fun t34 h =>
 runD (binD aB .neq t34 (.int .i64 0)) h fun t35 h =>
 aM (fun (J1 : AV → AV → List AObj → Prop) =>
 aX t35 true
 (runD (binD cN .eql t32 (.int .i64 0)) h fun t38 h =>
 J1 (.bool true) t38 h)
 (J1 (.bool false) .und h))
 (fun t36 t38 h => runD (bO t36 t38 (.bool false)) h fun t39 h =>
 aM (fun (J2 : AV → AV → List AObj → Prop) =>
 aX t39 true
 (runD (aC aJ t3 7) h fun t43 h =>
 runD (fitD bT (aD h t43)) h fun t44 h =>
 runD (binD bT .leq t31 t44) h fun t45 h =>
 J2 (.bool true) t45 h)
 (J2 (.bool false) .und h))
 (fun t41 t45 h => runD (bO t41 t45 (.bool false)) h fun t46 h =>
 aU t46
 (runD (aC bA t5 2) h fun t47 h =>
 runD (fitD aB (aD h t47)) h fun t48 h =>
 runD (aC aJ t3 5) h fun t49 h =>
 runH (aP aB h t49 t48) h fun _ h =>
 runD (aC aJ t3 3) h fun t50 h =>
 runH (aP aB h t50 (.int .i64 5)) h fun _ h =>
 runD (fitD aJ (aD h t3)) h fun t51 h =>
 runH (aP aJ h t4 t51) h fun _ h =>
 cT (fitD aJ (aD h t4)) fun r0 => K (.ret r0) h)
 (runD (aC aJ t3 8) h fun t52 h =>
 runD (fitD cJ (aD h t52)) h fun t53 h =>
 aR false c (.fn (.func 72) [] []) [t53] h (fun t54 h =>
 cQ cJ h fun t10 h =>
 runH (aP cJ h t10 t54) h fun _ h =>
 runD (fitD aJ (aD h t3)) h fun t56 h =>
 aR false c (.fn (.func 73) [] []) [t0, t56, t31, t39] h (fun t59 h =>
 aM (fun (J3 : AV → AV → AV → AV → AV → AV → List AObj → Prop) =>
 vA c.iterS t59 (boxH [t10] h)
 (fun id r args h K => lpIs h id .ready r ∧ yC args fun t60 =>
 cQ iR h fun t11 h =>
 runH (aP iR h t11 t60) h fun _ h =>
 lpIs h id .ready r ∧
 runD (fitD cJ (aD (List.set h id (.lp .busy none r)) t10)) (List.set h id (.lp .busy none r)) fun t61 h =>
 runD (lenD cJ h t61) h fun t62 h =>
 runD (aC aJ t3 2) h fun t63 h =>
 runD (fitD aB (aD h t63)) h fun t64 h =>
 runD (binD aB .geq t62 t64) h fun t65 h =>
 aU t65
 (lpIs h id .busy r ∧ K (.ret (.bool false)) (List.set h id (.lp .done (some (.exit 0)) r)))
 (runD (fitD cJ (aD h t10)) h fun t66 h =>
 runD (fitD iR (aD h t11)) h fun t67 h =>
 runD (eO cJ 1 [(0, t67)] h.length) h fun t68 h =>
 jM (fT cJ h t66 t68 h.length) (gH cJ h t66 t68) h fun t69 h =>
 runH (aP cJ h t10 t69) h fun _ h =>
 lpIs h id .busy r ∧ K (.ret (.bool true)) (List.set h id (.lp .ready none r))))
 (fun id r ao h => endX id r ao h
 (fun h => J3 t3 t4 t5 t31 t39 t10 h)
 (fun h => cT (fitD aJ (aD h t4)) fun r0 => K (.ret r0) h)
 (fun i h => aCt i 0 (J3 t3 t4 t5 t31 t39 t10 h) (False))
 (fun l h => False)
 (fun v h => K (.pan v) h)))
 (fun t3 t4 t5 t7 t9 t10 h => runD (fitD cJ (aD h t10)) h fun t70 h =>
 runD (aC aJ t3 8) h fun t71 h =>
 runH (aP cJ h t71 t70) h fun _ h =>
 runD (aC aJ t3 5) h fun t72 h =>
 runH (aP aB h t72 (.int .i64 0)) h fun _ h =>
 runD (aC aJ t3 3) h fun t73 h =>
 runH (aP aB h t73 (.int .i64 6)) h fun _ h =>
 aM (fun (J4 : AV → AV → List AObj → Prop) =>
 aX t9 true
 (runD (fitD cJ (aD h t10)) h fun t76 h =>
 runD (lenD cJ h t76) h fun t77 h =>
 runD (aC aJ t3 2) h fun t78 h =>
 runD (fitD aB (aD h t78)) h fun t79 h =>
 runD (binD aB .lss t77 t79) h fun t80 h =>
 J4 (.bool true) t80 h)
 (J4 (.bool false) .und h))
 (fun t75 t80 h => runD (bO t75 t80 (.bool false)) h fun t81 h =>
 aM (fun (J5 : AV → AV → List AObj → Prop) =>
 aX t81 true
 (runD (aC aJ t3 1) h fun t83 h =>
 runD (fitD bT (aD h t83)) h fun t84 h =>
 runD (binD bT .eql t84 (.str [])) h fun t85 h =>
 aM (fun (J6 : AV → AV → List AObj → Prop) =>
 aX t85 false
 (runD (aC aJ t3 1) h fun t88 h =>
 runD (fitD bT (aD h t88)) h fun t89 h =>
 runD (binD bT .lss t7 t89) h fun t90 h =>
 J6 (.bool false) t90 h)
 (J6 (.bool true) .und h))
 (fun t86 t90 h => runD (bO t86 (.bool true) t90) h fun t91 h =>
 J5 (.bool true) t91 h))
 (J5 (.bool false) .und h))
 (fun t82 t91 h => runD (bO t82 t91 (.bool false)) h fun t92 h =>
 aM (fun (J7 : List AObj → Prop) =>
 aU t92
 (runD (aC bA t5 2) h fun t93 h =>
 runD (fitD aB (aD h t93)) h fun t94 h =>
 runD (aC aJ t3 5) h fun t96 h =>
 runH (aP aB h t96 t94) h fun _ h =>
 runD (aC aJ t3 7) h fun t97 h =>
 runH (aP bT h t97 t7) h fun _ h =>
 J7 h)
 (J7 h))
 (fun h => runD (fitD aJ (aD h t3)) h fun t98 h =>
 runH (aP aJ h t4 t98) h fun _ h =>
 cT (fitD aJ (aD h t4)) fun r0 => K (.ret r0) h)))))
 (fun v h => K (.pan v) h))
 (fun v h => K (.pan v) h)))))
 (fun v h => K (.pan v) h))
 (fun v h => K (.pan v) h)))
 (fun v h => K (.pan v) h)
def fS.loops : Nat → bW
 | 1 => ⟨[], [], [], [(3, none), (2, some [9, 11])], [], []⟩
 | _ => ⟨[], [], [], [], [], []⟩
def fS.H (c : Ctx) (t0 : AV) (t1 : AV) (t2 : AV) (h : List AObj) (K : AOut → List AObj → Prop) : Prop :=
 boxW aN t0 h fun t3 h =>
 cQ aN h fun t6 h =>
 runD (binD aB .geq t1 (.int .i64 0)) h fun t8 h =>
 aM (fun (J1 : AV → AV → List AObj → Prop) =>
 aX t8 true
 (runD (binD aB .lss t1 (.int .i64 256)) h fun t11 h =>
 J1 (.bool true) t11 h)
 (J1 (.bool false) .und h))
 (fun t9 t11 h => runD (bO t9 t11 (.bool false)) h fun t12 h =>
 aM (fun (J2 : List AObj → Prop) =>
 aU t12
 (runD (fitD aN (aD h t3)) h fun t14 h =>
 runD (binD aB .mul (.int .i64 2) t1) h fun t16 h =>
 runD (binD aB .add t16 t2) h fun t18 h =>
 runD (gS fK [(0, (.int .i64 2)), (1, t18)]) h fun t19 h =>
 aR false c (.fn (.func 74) [] []) [t14, t19] h (fun t20 h =>
 runD (aW t20 0) h fun t21 h =>
 runD (aW t20 1) h fun t22 h =>
 runH (aP aN h t3 t21) h fun _ h =>
 J2 h)
 (fun v h => K (.pan v) h))
 (J2 h))
 (fun h => runD (fitD aN (aD h t3)) h fun t23 h =>
 runH (aP aN h t6 t23) h fun _ h =>
 cT (fitD aN (aD h t6)) fun r0 => K (.ret r0) h))
def gK.loops : Nat → bW
 | _ => ⟨[], [], [], [], [], []⟩
def gK.H (c : Ctx) (t0 : AV) (t1 : AV) (t2 : AV) (t3 : AV) (h : List AObj) (K : AOut → List AObj → Prop) : Prop :=
 boxW aK t0 h fun t4 h =>
 boxW aJ t1 h fun t5 h =>
 boxW bT t2 h fun t6 h =>
 boxW mP t3 h fun t7 h =>
 K (.ret (.fn (.func 95) [] [t4, t5, t7, t6])) h
def eA.loops : Nat → bW
 | 1 => ⟨[14], [false], [0, 2, 3, 4, 12, 13], [], [], []⟩
 | 4 => ⟨[], [], [], [(2, none), (10, some [27, 37]), (2, none), (8, some [39, 47]), (2, none), (8, some [49, 57])], [], []⟩
 | _ => ⟨[], [], [], [], [], []⟩
def eA.L1 (c : Ctx) (J1 : List AObj → Prop) (K : AOut → List AObj → Prop) (lv : List AV) (h0 : List AObj) (n0 : Nat) (c0 : AV) (c2 : AV) (c3 : AV) (c4 : AV) (c12 : AV) (c13 : AV) : Prop :=
 ∃ I : Nat → List AV → List AObj → Prop, (∃ n, I n lv h0) ∧ ∀ n h, ∀ t14, I n [t14] h →
 runD (binD aB .lss t14 c13) h fun t15 h =>
 aU t15
 (runD (aH aT h c12 t14) h fun t16 h =>
 runD (fitD aI (aD h t16)) h fun t17 h =>
 cQ aI h fun t7 h =>
 runH (aP aI h t7 t17) h fun _ h =>
 runD (aC aI t7 1) h fun t18 h =>
 runD (fitD bT (aD h t18)) h fun t19 h =>
 runD (aC aJ c2 0) h fun t20 h =>
 runD (fitD bT (aD h t20)) h fun t21 h =>
 runD (aC aJ c2 7) h fun t22 h =>
 runD (fitD bT (aD h t22)) h fun t23 h =>
 runD (maxD t21 t23) h fun t24 h =>
 runD (binD bT .geq t19 t24) h fun t25 h =>
 aM (fun (J2 : AV → AV → List AObj → Prop) =>
 aX t25 true
 (runD (aC aJ c2 1) h fun t28 h =>
 runD (fitD bT (aD h t28)) h fun t29 h =>
 runD (binD bT .eql t29 (.str [])) h fun t30 h =>
 aM (fun (J3 : AV → AV → List AObj → Prop) =>
 aX t30 false
 (runD (aC aI t7 1) h fun t32 h =>
 runD (fitD bT (aD h t32)) h fun t33 h =>
 runD (aC aJ c2 1) h fun t34 h =>
 runD (fitD bT (aD h t34)) h fun t35 h =>
 runD (binD bT .lss t33 t35) h fun t36 h =>
 J3 (.bool false) t36 h)
 (J3 (.bool true) .und h))
 (fun t31 t36 h => runD (bO t31 (.bool true) t36) h fun t37 h =>
 J2 (.bool true) t37 h))
 (J2 (.bool false) .und h))
 (fun t27 t37 h => runD (bO t27 t37 (.bool false)) h fun t38 h =>
 aM (fun (J4 : AV → AV → List AObj → Prop) =>
 aX t38 true
 (runD (fitD mP (aD h c3)) h fun t40 h =>
 runD (unD .not t40) h fun t41 h =>
 aM (fun (J5 : AV → AV → List AObj → Prop) =>
 aX t41 false
 (runD (aC aI t7 1) h fun t43 h =>
 runD (fitD bT (aD h t43)) h fun t44 h =>
 runD (fitD bT (aD h c4)) h fun t45 h =>
 runD (binD bT .lss t44 t45) h fun t46 h =>
 J5 (.bool false) t46 h)
 (J5 (.bool true) .und h))
 (fun t42 t46 h => runD (bO t42 (.bool true) t46) h fun t47 h =>
 J4 (.bool true) t47 h))
 (J4 (.bool false) .und h))
 (fun t39 t47 h => runD (bO t39 t47 (.bool false)) h fun t48 h =>
 aM (fun (J6 : AV → AV → List AObj → Prop) =>
 aX t48 true
 (runD (aC aI t7 1) h fun t51 h =>
 runD (fitD bT (aD h t51)) h fun t52 h =>
 runD (aC aI t7 2) h fun t53 h =>
 runD (fitD bT (aD h t53)) h fun t54 h =>
 runD (gS iR [(0, t52), (1, t54)]) h fun t55 h =>
 aR false c c0 [t55] h (fun t56 h =>
 runD (unD .not t56) h fun t57 h =>
 J6 (.bool true) t57 h)
 (fun v h => K (.pan v) h))
 (J6 (.bool false) .und h))
 (fun t49 t57 h => runD (bO t49 t57 (.bool false)) h fun t58 h =>
 aU t58
 (K (.ret (.tup [])) h)
 (runD (binD aB .add t14 (.int .i64 1)) h fun t59 h =>
 (∃ m, m < n ∧ I m (AV.norms n0 h [t59]) (cH n0 h)) ∧ AV.norms n0 h [c0, c2, c3, c4, c12, c13] = [c0, c2, c3, c4, c12, c13])))))
 (J1 h)
def eA.H (c : Ctx) (t0 : AV) (t1 : AV) (t2 : AV) (t3 : AV) (t4 : AV) (h : List AObj) (K : AOut → List AObj → Prop) : Prop :=
 runD (fitD aK (aD h t1)) h fun t9 h =>
 runD (aC aJ t2 6) h fun t10 h =>
 runD (fitD bZ (aD h t10)) h fun t11 h =>
 aR false c (.fn (.func 89) [] []) [t9, t11] h (fun t12 h =>
 runD (lenD aT h t12) h fun t13 h =>
 aM (fun (J1 : List AObj → Prop) =>
 dC [false] [(.int .i64 0)] h fun lv h => eA.L1 c J1 K (AV.norms h.length h lv) (cH h.length h) h.length (AV.norm h.length h t0) (AV.norm h.length h t2) (AV.norm h.length h t3) (AV.norm h.length h t4) (AV.norm h.length h t12) (AV.norm h.length h t13))
 (fun h => K (.ret (.tup [])) h))
 (fun v h => K (.pan v) h)
theorem eU.eq (F : List (FuncId × aE)) (S : List (FuncId × Con)) (t0 t1 t2 t3 : AV) (h : List AObj) (K : AOut → List AObj → Prop) : funW (ctx F S eU.loops) Tryz.f18 [t0, t1, t2, t3] h K = eU.H (ctx F S eU.loops) t0 t1 t2 t3 h K := by kernel_rfl
theorem fJ.eq (F : List (FuncId × aE)) (S : List (FuncId × Con)) (t0 t1 : AV) (h : List AObj) (K : AOut → List AObj → Prop) : funW (ctx F S fJ.loops) Tryz.f19 [t0, t1] h K = fJ.H (ctx F S fJ.loops) t0 t1 h K := by kernel_rfl
theorem hH.eq (F : List (FuncId × aE)) (S : List (FuncId × Con)) (t0 t1 : AV) (h : List AObj) (K : AOut → List AObj → Prop) : funW (ctx F S hH.loops) Tryz.f39 [t0, t1] h K = hH.H (ctx F S hH.loops) t0 t1 h K := by kernel_rfl
theorem gG.eq (F : List (FuncId × aE)) (S : List (FuncId × Con)) (Is : List (FuncId × (Con → Con))) (t0 t1 : AV) (h : List AObj) (K : AOut → List AObj → Prop) : funW (ctxI F S Is gG.loops) Tryz.f42 [t0, t1] h K = gG.H (ctxI F S Is gG.loops) t0 t1 h K := by kernel_rfl
theorem fS.eq (F : List (FuncId × aE)) (S : List (FuncId × Con)) (t0 t1 t2 : AV) (h : List AObj) (K : AOut → List AObj → Prop) : funW (ctx F S fS.loops) Tryz.f43 [t0, t1, t2] h K = fS.H (ctx F S fS.loops) t0 t1 t2 h K := by kernel_rfl
theorem gK.eq (F : List (FuncId × aE)) (S : List (FuncId × Con)) (t0 t1 t2 t3 : AV) (h : List AObj) (K : AOut → List AObj → Prop) : funW (ctx F S gK.loops) Tryz.f73 [t0, t1, t2, t3] h K = gK.H (ctx F S gK.loops) t0 t1 t2 t3 h K := by kernel_rfl
theorem eA.eq (F : List (FuncId × aE)) (S : List (FuncId × Con)) (l : Nat) (Y : Con) (t0 t1 t2 t3 t4 : AV) (h : List AObj) (K : AOut → List AObj → Prop) : funW ((ctx F S eA.loops).withY l Y) Tryz.f95 [t0, t1, t2, t3, t4] h K = eA.H ((ctx F S eA.loops).withY l Y) t0 t1 t2 t3 t4 h K := by kernel_rfl
theorem eU.at : Tryz.prog.funcs[18]? = some Tryz.f18 := by kernel_rfl
theorem eU.nm : (Tryz.f18.name == "runtime.NumGoroutine") = false := by kernel_rfl
theorem eU.bd : Tryz.f18.body.isNone = false := by kernel_rfl
theorem fJ.at : Tryz.prog.funcs[19]? = some Tryz.f19 := by kernel_rfl
theorem fJ.nm : (Tryz.f19.name == "runtime.NumGoroutine") = false := by kernel_rfl
theorem fJ.bd : Tryz.f19.body.isNone = false := by kernel_rfl
theorem hH.at : Tryz.prog.funcs[39]? = some Tryz.f39 := by kernel_rfl
theorem hH.nm : (Tryz.f39.name == "runtime.NumGoroutine") = false := by kernel_rfl
theorem hH.bd : Tryz.f39.body.isNone = false := by kernel_rfl
theorem gG.at : Tryz.prog.funcs[42]? = some Tryz.f42 := by kernel_rfl
theorem gG.nm : (Tryz.f42.name == "runtime.NumGoroutine") = false := by kernel_rfl
theorem gG.bd : Tryz.f42.body.isNone = false := by kernel_rfl
theorem fS.at : Tryz.prog.funcs[43]? = some Tryz.f43 := by kernel_rfl
theorem fS.nm : (Tryz.f43.name == "runtime.NumGoroutine") = false := by kernel_rfl
theorem fS.bd : Tryz.f43.body.isNone = false := by kernel_rfl
theorem gK.at : Tryz.prog.funcs[73]? = some Tryz.f73 := by kernel_rfl
theorem gK.nm : (Tryz.f73.name == "runtime.NumGoroutine") = false := by kernel_rfl
theorem gK.bd : Tryz.f73.body.isNone = false := by kernel_rfl
theorem eA.at : Tryz.prog.funcs[95]? = some Tryz.f95 := by kernel_rfl
theorem eA.nm : (Tryz.f95.name == "runtime.NumGoroutine") = false := by kernel_rfl
theorem eA.bd : Tryz.f95.body.isNone = false := by kernel_rfl
end Lam
namespace Lam
open Go Go.Proofs
structure Sc where
  lo : bD
  hi : bD
  limit : Int
  phase : Int
  block : Int
  to_ : Int
  seek : Sk
  from_ : bD
  out : List jK
def Sc.V (s : Sc) : AV := .agg [.str s.lo, .str s.hi, .int .i64 s.limit, .int .i64 s.phase, .int .i64 s.block, .int .i64 s.to_, s.seek.V, .str s.from_, .sl false (.pairs s.out)]
def scZ : Sc := ⟨[], [], 0, 0, 0, 0, skZ, [], []⟩
def sc0 (w : List Int) (lo hi : bD) (limit : Int) : Sc := ⟨lo, hi, limit, 1, aBh w, 0, skZ, lo, []⟩
def iY (w : List Int) (lo hi : bD) (limit : Int) : AV := if 21 < lo.length ∨ 21 < hi.length then .tup [scZ.V, .int .i64 20] else if limit < 1 ∨ 100 < limit then .tup [scZ.V, .int .i64 1] else .tup [(sc0 w lo hi limit).V, .int .i64 0]
def eU.C : aE
  | [.sl _ (.ints .i64 w), .str lo, .str hi, .int .i64 limit] => some (false, pD (roomy w.length) (iY w lo hi limit))
  | _ => none
theorem eU.spec : bI Tryz.prog 18 eU.C := by
  refine bI.of (bQ (F := [(38, dV.C)]) (S := []) (by simpa using dV.spec) (by simp) eU.loops) eU.at eU.nm eU.bd ?_
  intro vs b S v news e hS
  unfold eU.C at e
  split at e
  rotate_left
  · cases e
  cases e
  rw [eU.eq]
  unfold eU.H
  simp (maxSteps := 4000000) only [go_sem, reduceEqDiff, Nat.reduceLT, reduceAdd, reduceSub, reduceLeDiff, reduceReplicate, reduceToNat, dV.C]
  rename_i w lo hi limit
  unfold iY
  have hz : roomy ([] : List jK).length := by unfold roomy; decide
  refine ⟨fun h => ?_, fun h => ⟨fun h2 => ?_, fun h2 => ?_⟩⟩
  · rw [if_pos (by split at h <;> omega)]
    exact aG rfl rfl
  · rw [if_neg (by split at h <;> omega)]
    simp only [Bool.or_eq_true, decide_eq_true_eq] at h2
    rw [if_pos h2]
    exact aG rfl rfl
  · rw [if_neg (by split at h <;> omega)]
    simp only [Bool.or_eq_false_iff, decide_eq_false_iff_not] at h2
    rw [if_neg (by omega)]
    refine ⟨hS, ?_⟩
    unfold sc0 aBh
    cases hb : eF w with
    | true =>
      have hv : kN w = .tup [.int .i64 (w.getD 1 0), .int .i64 (w.getD 3 0), .int .i64 0] := by unfold kN; rw [hb]; rfl
      simp only [hv, Sc.V, Sk.V, skZ, if_true, decide_true, decide_false, aA, aA, gq, reduceEq, reduceLT, reduceLE, implies_true, reduceCtorEq, if_true, if_false, go_sem, reduceEqDiff, Nat.reduceLT, reduceAdd, reduceSub, reduceLeDiff, reduceReplicate, reduceToNat]
      exact aG rfl rfl
    | false =>
      have hv : kN w = .tup [.int .i64 0, .int .i64 0, .int .i64 80] := by unfold kN; rw [hb]; rfl
      simp only [hv, Sc.V, Sk.V, skZ, if_false, decide_true, decide_false, aA, aA, gq, reduceEq, reduceLT, reduceLE, implies_true, reduceCtorEq, if_true, if_false, go_sem, reduceEqDiff, Nat.reduceLT, reduceAdd, reduceSub, reduceLeDiff, reduceReplicate, reduceToNat]
      exact aG rfl rfl
def fS.C : aE
  | [.agg [.sl false (.ints .i64 vol), .sl false (.ints .i64 per), .sl false (.pends pend)], .int .i64 block, .int .i64 line] => some (false, pD (lW vol per pend ∧ pend.length + 1 ≤ 1000000 ∧ 0 ≤ line ∧ line ≤ 1) (nU ⟨vol, per, pend⟩ block line).V)
  | _ => none
theorem fS.spec : bI Tryz.prog 43 fS.C := by
  refine bI.of (bQ (F := [(74, iD.C)]) (S := []) (by simpa using iD.spec) (by simp) fS.loops) fS.at fS.nm fS.bd ?_
  intro vs b S v news e hS
  unfold fS.C at e
  split at e
  rotate_left
  · cases e
  cases e
  rw [fS.eq]
  unfold fS.H
  simp (maxSteps := 4000000) only [go_sem, reduceEqDiff, Nat.reduceLT, reduceAdd, reduceSub, reduceLeDiff, reduceReplicate, reduceToNat, iD.C]
  rename_i vol per pend block line
  obtain ⟨hsm, hpe, h0, h1⟩ := hS
  unfold nU
  by_cases hb : 0 ≤ block ∧ block < 256
  · rw [if_pos hb]
    have e1 : IntKind.i64.wrap (2 * block) = 2 * block := w64 (by omega) (by omega)
    have e2 : IntKind.i64.wrap (2 * block + line) = 2 * block + line := w64 (by omega) (by omega)
    have d1 : decide (0 ≤ block) = true := decide_eq_true hb.1
    have d2 : decide (block < 256) = true := decide_eq_true hb.2
    obtain ⟨e, he⟩ := aMT ⟨vol, per, pend⟩ ⟨2, 2 * block + line, 0⟩
    generalize doM ⟨vol, per, pend⟩ ⟨2, 2 * block + line, 0⟩ = m' at *
    obtain ⟨vol', per', pend'⟩ := m'
    simp only [Mm.V, memV, d1, d2, e1, e2, he, iD.C, aA, aA, gq, reduceEq, reduceLT, reduceLE, implies_true, reduceCtorEq, if_true, if_false, go_sem, reduceEqDiff, Nat.reduceLT, reduceAdd, reduceSub, reduceLeDiff, reduceReplicate, reduceToNat]
    exact ⟨⟨hsm, by omega⟩, aG rfl rfl⟩
  · rw [if_neg hb]
    by_cases hb0 : 0 ≤ block
    · have d1 : decide (0 ≤ block) = true := decide_eq_true hb0
      have d2 : decide (block < 256) = false := decide_eq_false (by omega)
      simp only [Mm.V, memV, d1, d2, aA, aA, gq, reduceEq, reduceLT, reduceLE, implies_true, reduceCtorEq, if_true, if_false, go_sem, reduceEqDiff, Nat.reduceLT, reduceAdd, reduceSub, reduceLeDiff, reduceReplicate, reduceToNat]
      exact aG rfl rfl
    · have d1 : decide (0 ≤ block) = false := decide_eq_false hb0
      simp only [Mm.V, memV, d1, aA, aA, gq, reduceEq, reduceLT, reduceLE, implies_true, reduceCtorEq, if_true, if_false, go_sem, reduceEqDiff, Nat.reduceLT, reduceAdd, reduceSub, reduceLeDiff, reduceReplicate, reduceToNat]
      exact aG rfl rfl
def qL (w : List Int) (s : Sc) : Sc := match dF w s.block with
  | none => { s with block := 1, phase := 2 }
  | some n => if n.level = 0 then { s with phase := 2 } else match lG w s.block s.from_ 0 with
    | none => { s with block := 1, phase := 2 }
    | some t => { s with block := t }
def hH.C : aE
  | [.sl _ (.ints .i64 w), .agg [.str lo, .str hi, .int .i64 limit, .int .i64 phase, .int .i64 block, .int .i64 to_, .agg [.int .i64 sb, .int .i64 st, .int .i64 sa, .sl false (.ints .i64 sr), .bool so], .str from_, .sl false (.pairs out)]] => some (false, pD (iG w) (qL w ⟨lo, hi, limit, phase, block, to_, ⟨sb, st, sa, sr, so⟩, from_, out⟩).V)
  | _ => none
theorem hH.spec : bI Tryz.prog 39 hH.C := by
  refine bI.of (bQ (F := [(46, cM.C), (49, dW.C)]) (S := []) (by simpa using ⟨cM.spec, dW.spec⟩) (by simp) hH.loops) hH.at hH.nm hH.bd ?_
  intro vs b S v news e hS
  unfold hH.C at e
  split at e
  rotate_left
  · cases e
  cases e
  rw [hH.eq]
  unfold hH.H
  simp (maxSteps := 4000000) only [go_sem, reduceEqDiff, Nat.reduceLT, reduceAdd, reduceSub, reduceLeDiff, reduceReplicate, reduceToNat, cM.C, dW.C]
  rename_i w lo hi limit phase block to_ sb st sa sr so from_ out
  have hr := iG.roomy hS
  unfold qL
  simp only
  cases hn : dF w block with
  | none =>
    obtain ⟨e, he, hv⟩ := nT hn
    have hd : mQ w block from_ 0 = .tup [.int .i64 0, .int .i64 90] := by unfold mQ lG; rw [hn]
    simp only [dW.C, Sc.V, Sk.V, jH, hv, he, hd, decide_false, decide_true, aA, aA, gq, reduceEq, reduceLT, reduceLE, implies_true, reduceCtorEq, if_true, if_false, go_sem, reduceEqDiff, Nat.reduceLT, reduceAdd, reduceSub, reduceLeDiff, reduceReplicate, reduceToNat]
    exact ⟨hr, hS, aG rfl rfl⟩
  | some n =>
    obtain ⟨n1, n2, n3, n4, n5⟩ := n
    by_cases h0 : n1 = 0
    · obtain ⟨t, e, hd⟩ : ∃ t e, mQ w block from_ 0 = .tup [.int .i64 t, .int .i64 e] := by
        unfold mQ
        cases lG w block from_ 0 with
        | none => exact ⟨_, _, rfl⟩
        | some t => exact ⟨_, _, rfl⟩
      simp only [dW.C, Sc.V, Sk.V, Nd.V, iM hn, h0, hd, decide_false, decide_true, aA, aA, gq, reduceEq, reduceLT, reduceLE, implies_true, reduceCtorEq, if_true, if_false, go_sem, reduceEqDiff, Nat.reduceLT, reduceAdd, reduceSub, reduceLeDiff, reduceReplicate, reduceToNat]
      exact ⟨hr, hS, aG rfl rfl⟩
    · cases hd : lG w block from_ 0 with
      | none =>
        have hdv : mQ w block from_ 0 = .tup [.int .i64 0, .int .i64 90] := by unfold mQ; rw [hd]
        simp only [dW.C, Sc.V, Sk.V, Nd.V, iM hn, h0, hdv, decide_false, decide_true, aA, aA, gq, reduceEq, reduceLT, reduceLE, implies_true, reduceCtorEq, if_true, if_false, go_sem, reduceEqDiff, Nat.reduceLT, reduceAdd, reduceSub, reduceLeDiff, reduceReplicate, reduceToNat]
        exact ⟨hr, hS, aG rfl rfl⟩
      | some t =>
        have hdv : mQ w block from_ 0 = .tup [.int .i64 t, .int .i64 0] := by unfold mQ; rw [hd]
        simp only [dW.C, Sc.V, Sk.V, Nd.V, iM hn, h0, hdv, decide_false, decide_true, aA, aA, gq, reduceEq, reduceLT, reduceLE, implies_true, reduceCtorEq, if_true, if_false, go_sem, reduceEqDiff, Nat.reduceLT, reduceAdd, reduceSub, reduceLeDiff, reduceReplicate, reduceToNat]
        exact ⟨hr, hS, aG rfl rfl⟩
end Lam
namespace Lam
open Go Go.Proofs
def eA.I : Con → Con := fun Y args h K => match args with
  | [.fn (.yield l) [] [], a0, a1, a2, a3] => eA.H ((ctx [(89, fR.C)] [] eA.loops).withY l Y) (.fn (.yield l) [] []) a0 a1 a2 a3 h K
  | _ => False
theorem eA.spec : qG Tryz.prog 95 eA.I := by
  refine qG.of (bQ (F := [(89, fR.C)]) (S := []) (by simpa using fR.spec) (by simp) eA.loops).toOkI eA.at eA.nm eA.bd ?_
  intro Yc l cap h K hC
  unfold eA.I at hC
  split at hC
  · rename_i e
    simp only [List.cons.injEq, AV.fn.injEq, Fn.yield.injEq, and_true, true_and] at e
    obtain ⟨rfl, rfl⟩ := e
    rw [eA.eq]; exact hC
  · exact hC.elim
def gK.K : Con := fun args h K => match args with
  | [a0, a1, a2, a3] => gK.H (ctx [] [] gK.loops) a0 a1 a2 a3 h K
  | _ => False
theorem gK.spec : dH Tryz.prog 73 gK.K := by
  refine dH.of (bQ (F := []) (S := []) (by simp) (by simp) gK.loops) gK.at gK.nm gK.bd ?_
  intro args h K hC
  unfold gK.K at hC
  split at hC
  · rw [gK.eq]; exact hC
  · exact hC.elim
def bP.C : aE
  | [.sl _ (.pairs l)] => some (true, some (roomy l.length, .sref false 0 0 0 l.length, [.row .own 0 (.pairs l)]))
  | _ => none
theorem bP.spec : bI Tryz.prog 72 bP.C := by
  refine bI.of (bQ (F := []) (S := []) (by simp) (by simp) bP.loops) bP.at bP.nm bP.bd ?_
  intro vs b S v news e hS
  unfold bP.C at e
  split at e
  rotate_left
  · cases e
  cases e
  rw [bP.eq]
  unfold bP.H
  simp (maxSteps := 4000000) only [go_sem, reduceEqDiff, Nat.reduceLT, reduceAdd, reduceSub, reduceLeDiff, reduceReplicate, reduceToNat]
  rename_i l
  intro b hb
  refine ⟨fun h => ?_, fun h => ⟨hS, vL rfl (by simp)⟩⟩
  have : l = [] := List.eq_nil_of_length_eq_zero (hb h)
  subst this
  exact aCa rfl
def sIn (s : Sc) (high : bD) (bound : Bool) (x : RecT) : Bool := !ltB x.key (if ltB s.lo s.from_ = true then s.from_ else s.lo) && (decide (s.hi = []) || ltB x.key s.hi) && (!bound || ltB x.key high)
def kV (x : RecT) : jK := ⟨x.key, x.val⟩
def sOut (w : List Int) (s : Sc) (high : bD) (bound : Bool) : List jK := s.out ++ (((uN (iX w s.seek.refs)).filter (sIn s high bound)).map kV).take (s.limit - s.out.length).toNat
def nZ (w : List Int) (s : Sc) (bnd : Bool) (high : bD) (to : Int) : Sc := if (bnd && decide (((sOut w s high bnd).length : Int) < s.limit) && (decide (s.hi = []) || ltB high s.hi)) = true then { s with out := sOut w s high bnd, to_ := to, phase := 6, from_ := high } else { s with out := sOut w s high bnd, to_ := 0, phase := 6 }
def lA (w : List Int) (s : Sc) : Sc := if tN w s.seek.block s.seek.turn = false then { s with phase := 2 } else match vQ w s.block with
  | none => nZ w s false [] 0
  | some (to, high) => if ltB s.from_ high = false then { s with to_ := to, phase := 5 } else nZ w s true high to
def gG.C : aE
  | [.sl _ (.ints .i64 w), .agg [.str lo, .str hi, .int .i64 limit, .int .i64 phase, .int .i64 block, .int .i64 to_, .agg [.int .i64 sb, .int .i64 st, .int .i64 sa, .sl false (.ints .i64 sr), .bool so], .str from_, .sl false (.pairs out)]] => some (false, pD (iG w ∧ sr.length ≤ 200 ∧ out.length ≤ 1000) (lA w ⟨lo, hi, limit, phase, block, to_, ⟨sb, st, sa, sr, so⟩, from_, out⟩).V)
  | _ => none
theorem gG.spec : bI Tryz.prog 42 gG.C := by
  refine bI.of (aBe (F := [(71, gF.C), (46, cM.C), (47, dB.C), (72, bP.C)]) (S := [(73, gK.K)]) (Is := [(95, eA.I)]) (by simpa using ⟨gF.spec, cM.spec, dB.spec, bP.spec⟩) (by simpa using gK.spec) (by simpa using eA.spec) gG.loops) gG.at gG.nm gG.bd ?_
  intro vs b S v news e hS
  unfold gG.C at e
  split at e
  rotate_left
  · cases e
  cases e
  rw [gG.eq]
  unfold gG.H
  simp (maxSteps := 4000000) only [go_sem, reduceEqDiff, Nat.reduceLT, reduceAdd, reduceSub, reduceLeDiff, reduceReplicate, reduceToNat, gF.C, cM.C, dB.C, bP.C]
  rename_i w lo hi limit phase block to_ sb st sa sr so from_ out
  obtain ⟨hsw, hsr, hout⟩ := hS
  have hr := iG.roomy hsw
  cases hh : tN w sb st with
  | false =>
    have hF : lA w ⟨lo, hi, limit, phase, block, to_, ⟨sb, st, sa, sr, so⟩, from_, out⟩ = ⟨lo, hi, limit, 2, block, to_, ⟨sb, st, sa, sr, so⟩, from_, out⟩ := by unfold lA; rw [if_pos hh]
    rw [hF]
    simp only [Sc.V, Sk.V, hh, decide_false, decide_true, aA, aA, gq, reduceEq, reduceLT, reduceLE, implies_true, reduceCtorEq, if_true, if_false, go_sem, reduceEqDiff, Nat.reduceLT, reduceAdd, reduceSub, reduceLeDiff, reduceReplicate, reduceToNat]
    exact ⟨hr, aG rfl rfl⟩
  | true =>
    obtain ⟨n1, n2, n3, n4, n5, e, lw, e2, hrv, hlv, hright⟩ := aKO w block
    have hF : lA w ⟨lo, hi, limit, phase, block, to_, ⟨sb, st, sa, sr, so⟩, from_, out⟩ = if (!decide (n3 = 0) && decide (e2 = 0) && !ltB from_ lw) = true then ⟨lo, hi, limit, 5, block, n3, ⟨sb, st, sa, sr, so⟩, from_, out⟩ else nZ w ⟨lo, hi, limit, phase, block, to_, ⟨sb, st, sa, sr, so⟩, from_, out⟩ (!decide (n3 = 0) && decide (e2 = 0)) lw n3 := by
      unfold lA
      simp only
      rw [if_neg (by rw [hh]; decide), hright]
      by_cases hc : n3 ≠ 0 ∧ e2 = 0
      · rw [if_pos hc, decide_eq_false hc.1, decide_eq_true hc.2]
        simp only
        cases ltB from_ lw <;> rfl
      · rw [if_neg hc]
        have : (!decide (n3 = 0) && decide (e2 = 0)) = false := by
          rw [Bool.eq_false_iff]
          intro h
          rw [Bool.and_eq_true, Bool.not_eq_true', decide_eq_false_iff_not, decide_eq_true_eq] at h
          exact hc h
        rw [this]
        rfl
    rw [hF]
    clear hF hright
    simp only [hh, hrv, hlv, cM.C, dB.C, decide_false, decide_true, gq, reduceEq, reduceLT, reduceLE, implies_true, reduceCtorEq, if_true, if_false, go_sem, reduceEqDiff, Nat.reduceLT, reduceAdd, reduceSub, reduceLeDiff, reduceReplicate, reduceToNat]
    refine ⟨hr, hr, hsw, ?_⟩
    generalize (!decide (n3 = 0) && decide (e2 = 0)) = bnd
    refine ⟨fun hc => ?_, fun hc => ?_⟩
    · rw [if_pos hc]
      exact aG rfl rfl
    rw [if_neg (by rw [hc]; decide)]
    clear hc
    simp only [bP.C, gK.K, gK.H, eA.I, eA.H, fR.C, gq, reduceEq, reduceLT, reduceLE, implies_true, reduceCtorEq, if_true, if_false, go_sem, reduceEqDiff, Nat.reduceLT, reduceAdd, reduceSub, reduceLeDiff, reduceReplicate, reduceToNat]
    refine ⟨by unfold roomy; omega, ?_⟩
    refine nH fun J hJ => ?_
    have rest : ∀ (v : Nat) (Y : List AObj), J (.ptr 0 []) (.ptr 1 []) (.ptr 2 []) (.str lw) (.bool bnd) (.ptr 4 []) (.box (.agg [.str lo, .str hi, .int .i64 limit, .int .i64 phase, .int .i64 block, .int .i64 to_, .agg [.int .i64 sb, .int .i64 st, .int .i64 sa, .sl false (.ints .i64 sr), .bool so], .str from_, .sl false (.pairs out)]) :: .box (.agg [.str [], .str [], .int .i64 0, .int .i64 0, .int .i64 0, .int .i64 0, .agg [.int .i64 0, .int .i64 0, .int .i64 0, .sl false (.ints .i64 []), .bool false], .str [], .sl false (.pairs [])]) :: .box (.agg [.int .i64 n1, .int .i64 n2, .int .i64 n3, .int .i64 n4, .sl false (.ints .i64 n5)]) :: .row .own v (.pairs (sOut w ⟨lo, hi, limit, phase, block, to_, ⟨sb, st, sa, sr, so⟩, from_, out⟩ lw bnd)) :: .box (.sref false 3 v 0 (sOut w ⟨lo, hi, limit, phase, block, to_, ⟨sb, st, sa, sr, so⟩, from_, out⟩ lw bnd).length) :: Y) := fun v Y => by
      rw [hJ]
      unfold nZ
      generalize sOut w ⟨lo, hi, limit, phase, block, to_, ⟨sb, st, sa, sr, so⟩, from_, out⟩ lw bnd = O
      cases bnd <;> cases hc1 : decide ((O.length : Int) < limit) <;> cases hc2 : decide (hi = []) <;> cases hc3 : ltB lw hi <;> simp only [Sc.V, Sk.V, hc1, hc2, hc3, Bool.false_and, Bool.or_true, Bool.true_or, aA, aA, gq, reduceEq, reduceLT, reduceLE, implies_true, reduceCtorEq, if_true, if_false, go_sem, reduceEqDiff, Nat.reduceLT, reduceAdd, reduceSub, reduceLeDiff, reduceReplicate, reduceToNat] <;> exact aG (by simp only [List.take_length, go_sem, reduceEqDiff, Nat.reduceLT, reduceAdd, reduceSub, reduceLeDiff, reduceReplicate, reduceToNat]) rfl
    clear hJ
    rw [aA]
    intro l r
    rw [aA]
    refine ⟨⟨hr, hsr⟩, ?_⟩
    have hso : (uN (iX w sr)).length ≤ 200 := by
      have h1 := (aAI (w := w) (refs := sr) (out := []) (by simp)).2
      have h2 := (rW (iX w sr)).length_eq
      simp only [List.length_nil] at h1
      unfold iX at h2 ⊢
      omega
    unfold sOut at rest
    simp only at rest
    obtain ⟨p, hp⟩ : ∃ p, p = sIn ⟨lo, hi, limit, phase, block, to_, ⟨sb, st, sa, sr, so⟩, from_, out⟩ lw bnd := ⟨_, rfl⟩
    rw [← hp] at rest
    generalize uN (iX w sr) = L at *
    obtain ⟨m, hm⟩ : ∃ m : Nat, m = (limit - out.length).toNat := ⟨_, rfl⟩
    rw [← hm] at rest
    unfold eA.L1
    refine kT (σ := Nat × Nat) (fun s => .int .i64 s.1) (fun s => [.box (.agg [.str lo, .str hi, .int .i64 limit, .int .i64 phase, .int .i64 block, .int .i64 to_, .agg [.int .i64 sb, .int .i64 st, .int .i64 sa, .sl false (.ints .i64 sr), .bool so], .str from_, .sl false (.pairs out)]), .box (.agg [.str [], .str [], .int .i64 0, .int .i64 0, .int .i64 0, .int .i64 0, .agg [.int .i64 0, .int .i64 0, .int .i64 0, .sl false (.ints .i64 []), .bool false], .str [], .sl false (.pairs [])]), .box (.agg [.int .i64 n1, .int .i64 n2, .int .i64 n3, .int .i64 n4, .sl false (.ints .i64 n5)]), .row .own s.2 (.pairs (out ++ ((L.take s.1).filter p).map kV)), .box (.sref false 3 s.2 0 (out ++ ((L.take s.1).filter p).map kV).length), .box (.sl false (.ints .i64 w)),
      .box (.agg [.str lo, .str hi, .int .i64 limit, .int .i64 phase, .int .i64 block, .int .i64 to_, .agg [.int .i64 sb, .int .i64 st, .int .i64 sa, .sl false (.ints .i64 sr), .bool so], .str from_, .sl false (.pairs out)]), .box (.str lw), .box (.bool bnd), .lp .ready none r]) (fun s => L.length - s.1) (fun s => s.1 ≤ L.length ∧ (((L.take s.1).filter p).map kV).length ≤ m) (0, 0) rfl (by simp) ⟨Nat.zero_le _, by simp⟩ ?_
    rintro I back ⟨k, v⟩ ⟨hk, hkm⟩
    simp only at hk hkm ⊢
    have hpl : (((L.take k).filter p).map kV).length ≤ 200 := by
      rw [List.length_map]
      refine Nat.le_trans (List.length_filter_le _ _) ?_
      rw [List.length_take]; omega
    by_cases hkl : k < L.length
    · have hb : ∀ v2 n lv h, _ := fun v2 n lv h => @back n lv h (k + 1, v2)
      clear back
      have hnx : (L.take (k + 1)).filter p = (L.take k).filter p ++ if p (L.getD k d0) = true then [L.getD k d0] else [] := by
        rw [gP L k d0 hkl, List.filter_append, List.filter_cons, List.filter_nil]
      simp only [hnx, List.map_append] at hb
      have d1 : decide ((k : Int) < (L.length : Int)) = true := decide_eq_true (by omega)
      have hat : L.getD k d0 = ⟨(L.getD k d0).kind, (L.getD k d0).key, (L.getD k d0).val, (L.getD k d0).child⟩ := rfl
      have hpx : p (L.getD k d0) = (!ltB (L.getD k d0).key (if ltB lo from_ = true then from_ else lo) && (decide (hi = []) || ltB (L.getD k d0).key hi) && (!bnd || ltB (L.getD k d0).key lw)) := by rw [hp]; rfl
      have hmore : p (L.getD k d0) = true → limit ≤ (out ++ ((L.take k).filter p).map kV).length → ((L.filter p).map kV).take m = ((L.take k).filter p).map kV := fun h1 h2 => by
        rw [List.length_append] at h2
        have hlm : m ≤ (((L.take k).filter p).map kV).length := by omega
        have hlm2 : (((L.take k).filter p).map kV).length = m := by omega
        have e : (L.filter p).map kV = ((L.take k).filter p).map kV ++ ((L.drop k).filter p).map kV := by
          rw [← List.map_append, ← List.filter_append, List.take_append_drop]
        rw [e, List.take_append_of_le_length (by omega), List.take_of_length_le (by omega)]
      have hless : p (L.getD k d0) = true → ¬ limit ≤ (out ++ ((L.take k).filter p).map kV).length → (((L.take k).filter p).map kV).length + 1 ≤ m := fun h1 h2 => by
        rw [List.length_append] at h2
        omega
      have hro : ∀ y : jK, roomy (out ++ (((L.take k).filter p).map kV ++ [y])).length := fun y => by
        unfold roomy
        rw [List.length_append, List.length_append, List.length_singleton]; omega
      generalize ((L.filter p).map kV).take m = T at *
      generalize ((L.take k).filter p).map kV = R at *
      generalize p (L.getD k d0) = px at *
      simp only [d1, iS, Int.toNat_natCast, aA, eG (show k < 4611686018427387904 by omega), aA, gq, reduceEq, reduceLT, reduceLE, implies_true, reduceCtorEq, if_true, if_false, go_sem, reduceEqDiff, Nat.reduceLT, reduceAdd, reduceSub, reduceLeDiff, reduceReplicate, reduceToNat]
      refine ⟨⟨by omega, by omega⟩, ?_⟩
      have hN := hb v
      have hY := hb (v + 1)
      clear hb
      have hpt : kV (L.getD k d0) = ⟨(L.getD k d0).key, (L.getD k d0).val⟩ := rfl
      cases px with
      | false =>
        clear hY
        simp only [Bool.false_eq_true, if_false, List.map_nil, List.append_nil] at hN
        generalize ltB (L.getD k d0).key (if ltB lo from_ = true then from_ else lo) = b1 at *
        generalize ltB (L.getD k d0).key hi = b3 at *
        generalize ltB (L.getD k d0).key lw = b5 at *
        generalize decide (hi = []) = b2 at *
        cases b1 <;> cases b2 <;> cases b3 <;> cases bnd <;> cases b5 <;> first
          | exact absurd hpx (by decide)
          | (simp only [yQ, yR, yS, aCc, Bool.not_true, Bool.not_false]; exact hN _ _ _ (by omega) rfl rfl ⟨by omega, hkm⟩)
      | true =>
        clear hN
        simp only [if_true, List.map_cons, List.map_nil, hpt] at hY
        have hmore := hmore rfl
        have hless := hless rfl
        generalize ltB (L.getD k d0).key (if ltB lo from_ = true then from_ else lo) = b1 at *
        generalize ltB (L.getD k d0).key hi = b3 at *
        generalize ltB (L.getD k d0).key lw = b5 at *
        generalize decide (hi = []) = b2 at *
        cases b1 <;> cases b2 <;> cases b3 <;> cases bnd <;> cases b5 <;> first
          | exact absurd hpx (by decide)
          | (simp only [yQ, yR, yS, aCc, Bool.not_true, Bool.not_false]
             refine ⟨fun hle => ?_, fun hgt => ⟨hro _, ?_⟩⟩
             · rw [← hmore hle]; exact rest _ _
             · exact hY _ _ _ (by omega) rfl rfl ⟨by omega, by rw [List.length_append]; exact hless hgt⟩)
    · obtain rfl : k = L.length := by omega
      have d1 : decide ((L.length : Int) < (L.length : Int)) = false := decide_eq_false (by omega)
      clear back
      rw [List.take_length] at hkm ⊢
      rw [List.take_of_length_le hkm] at rest
      simp only [d1, aA, aA, gq, reduceEq, reduceLT, reduceLE, implies_true, reduceCtorEq, if_true, if_false, go_sem, reduceEqDiff, Nat.reduceLT, reduceAdd, reduceSub, reduceLeDiff, reduceReplicate, reduceToNat]
      exact rest _ _
end Lam
namespace Lam
open Go Go.Proofs
def uO (w : List Int) (s : Sc) : Sc := match qB w s.block with
  | none => { s with phase := 8 }
  | some x => { s with seek := x, phase := 3 }
def tO (w : List Int) (s : Sc) : Sc := { s with seek := kU w s.seek, phase := if (kU w s.seek).over = true then 4 else s.phase }
def nV (m : Mm) (s : Sc) : Mm × Sc :=
  if s.phase = 1 then (m, qL m.vol s)
  else if s.phase = 2 then (m, uO m.vol s)
  else if s.phase = 3 then (m, tO m.vol s)
  else if s.phase = 4 then (m, lA m.vol s)
  else if s.phase = 5 then (nU m s.block 0, { s with block := s.to_, phase := 2 })
  else if s.phase = 6 then (nU m s.block 0, { s with phase := 7 })
  else if s.phase = 7 then (nU m s.block 1, if s.to_ = 0 then { s with phase := 8 } else { s with block := s.to_, phase := 2 })
  else (m, s)
def fJ.C : aE
  | [.agg [.sl false (.ints .i64 vol), .sl false (.ints .i64 per), .sl false (.pends pend)], .agg [.str lo, .str hi, .int .i64 limit, .int .i64 phase, .int .i64 block, .int .i64 to_, .agg [.int .i64 sb, .int .i64 st, .int .i64 sa, .sl false (.ints .i64 sr), .bool so], .str from_, .sl false (.pairs out)]] => some (false, pD (lW vol per pend ∧ pend.length + 1 ≤ 1000000 ∧ iG vol ∧ sr.length ≤ 200 ∧ out.length ≤ 1000) (.tup [(nV ⟨vol, per, pend⟩ ⟨lo, hi, limit, phase, block, to_, ⟨sb, st, sa, sr, so⟩, from_, out⟩).1.V, (nV ⟨vol, per, pend⟩ ⟨lo, hi, limit, phase, block, to_, ⟨sb, st, sa, sr, so⟩, from_, out⟩).2.V]))
  | _ => none
theorem fJ.spec : bI Tryz.prog 19 fJ.C := by
  refine bI.of (bQ (F := [(39, hH.C), (40, gE.C), (41, hG.C), (42, gG.C), (43, fS.C)]) (S := []) (by simpa using ⟨hH.spec, gE.spec, hG.spec, gG.spec, fS.spec⟩) (by simp) fJ.loops) fJ.at fJ.nm fJ.bd ?_
  intro vs b S v news e hS
  unfold fJ.C at e
  split at e
  rotate_left
  · cases e
  cases e
  rw [fJ.eq]
  unfold fJ.H
  simp (maxSteps := 4000000) only [go_sem, reduceEqDiff, Nat.reduceLT, reduceAdd, reduceSub, reduceLeDiff, reduceReplicate, reduceToNat, hH.C, gE.C, hG.C, gG.C, fS.C]
  rename_i vol per pend lo hi limit phase block to_ sb st sa sr so from_ out
  obtain ⟨hsm, hpe, hsw, hsr, hout⟩ := hS
  have hr := iG.roomy hsw
  have hph : phase = 1 ∨ phase = 2 ∨ phase = 3 ∨ phase = 4 ∨ phase = 5 ∨ phase = 6 ∨ phase = 7 ∨ (phase ≠ 1 ∧ phase ≠ 2 ∧ phase ≠ 3 ∧ phase ≠ 4 ∧ phase ≠ 5 ∧ phase ≠ 6 ∧ phase ≠ 7) := by omega
  rcases hph with rfl | rfl | rfl | rfl | rfl | rfl | rfl | ⟨p1, p2, p3, p4, p5, p6, p7⟩
  · have hst : nV ⟨vol, per, pend⟩ ⟨lo, hi, limit, 1, block, to_, ⟨sb, st, sa, sr, so⟩, from_, out⟩ = (⟨vol, per, pend⟩, qL vol ⟨lo, hi, limit, 1, block, to_, ⟨sb, st, sa, sr, so⟩, from_, out⟩) := rfl
    rw [hst]
    generalize qL vol ⟨lo, hi, limit, 1, block, to_, ⟨sb, st, sa, sr, so⟩, from_, out⟩ = s'
    obtain ⟨lo', hi', limit', phase', block', to', ⟨sb', st', sa', sr', so'⟩, from', out'⟩ := s'
    simp only [Mm.V, memV, Sc.V, Sk.V, decide_true, decide_false, aA, aA, gq, reduceEq, reduceLT, reduceLE, implies_true, reduceCtorEq, if_true, if_false, go_sem, reduceEqDiff, Nat.reduceLT, reduceAdd, reduceSub, reduceLeDiff, reduceReplicate, reduceToNat]
    exact ⟨hsw, aG rfl rfl⟩
  · have hst : nV ⟨vol, per, pend⟩ ⟨lo, hi, limit, 2, block, to_, ⟨sb, st, sa, sr, so⟩, from_, out⟩ = (⟨vol, per, pend⟩, uO vol ⟨lo, hi, limit, 2, block, to_, ⟨sb, st, sa, sr, so⟩, from_, out⟩) := rfl
    rw [hst]
    unfold uO
    simp only
    cases hb : qB vol block with
    | none =>
      have hbv : xX vol block = .tup [skZ.V, .int .i64 90] := by unfold xX; rw [hb]
      simp only [Mm.V, memV, Sc.V, Sk.V, skZ, hbv, decide_true, decide_false, aA, aA, gq, reduceEq, reduceLT, reduceLE, implies_true, reduceCtorEq, if_true, if_false, go_sem, reduceEqDiff, Nat.reduceLT, reduceAdd, reduceSub, reduceLeDiff, reduceReplicate, reduceToNat]
      exact ⟨hr, rfl, aG rfl rfl⟩
    | some x =>
      obtain ⟨xb, xt, xa, xr, xo⟩ := x
      have hbv : xX vol block = .tup [Sk.V ⟨xb, xt, xa, xr, xo⟩, .int .i64 0] := by unfold xX; rw [hb]
      simp only [Mm.V, memV, Sc.V, Sk.V, skZ, hbv, decide_true, decide_false, aA, aA, gq, reduceEq, reduceLT, reduceLE, implies_true, reduceCtorEq, if_true, if_false, go_sem, reduceEqDiff, Nat.reduceLT, reduceAdd, reduceSub, reduceLeDiff, reduceReplicate, reduceToNat]
      exact ⟨hr, rfl, aG rfl rfl⟩
  · have hst : nV ⟨vol, per, pend⟩ ⟨lo, hi, limit, 3, block, to_, ⟨sb, st, sa, sr, so⟩, from_, out⟩ = (⟨vol, per, pend⟩, tO vol ⟨lo, hi, limit, 3, block, to_, ⟨sb, st, sa, sr, so⟩, from_, out⟩) := rfl
    rw [hst]
    unfold tO
    simp only
    generalize hs : kU vol ⟨sb, st, sa, sr, so⟩ = x
    obtain ⟨xb, xt, xa, xr, xo⟩ := x
    have h4 : vol.length ≤ 65536 ∧ sr.length ≤ 65536 := ⟨hsw.1, by omega⟩
    cases xo with
    | true =>
      simp only [Mm.V, memV, Sc.V, Sk.V, hs, decide_true, decide_false, aA, aA, gq, reduceEq, reduceLT, reduceLE, implies_true, reduceCtorEq, if_true, if_false, go_sem, reduceEqDiff, Nat.reduceLT, reduceAdd, reduceSub, reduceLeDiff, reduceReplicate, reduceToNat]
      exact ⟨h4, rfl, aG rfl rfl⟩
    | false =>
      simp only [Mm.V, memV, Sc.V, Sk.V, hs, decide_true, decide_false, aA, aA, gq, reduceEq, reduceLT, reduceLE, implies_true, reduceCtorEq, if_true, if_false, go_sem, reduceEqDiff, Nat.reduceLT, reduceAdd, reduceSub, reduceLeDiff, reduceReplicate, reduceToNat]
      exact ⟨h4, rfl, aG rfl rfl⟩
  · have hst : nV ⟨vol, per, pend⟩ ⟨lo, hi, limit, 4, block, to_, ⟨sb, st, sa, sr, so⟩, from_, out⟩ = (⟨vol, per, pend⟩, lA vol ⟨lo, hi, limit, 4, block, to_, ⟨sb, st, sa, sr, so⟩, from_, out⟩) := rfl
    rw [hst]
    generalize lA vol ⟨lo, hi, limit, 4, block, to_, ⟨sb, st, sa, sr, so⟩, from_, out⟩ = s'
    obtain ⟨lo', hi', limit', phase', block', to', ⟨sb', st', sa', sr', so'⟩, from', out'⟩ := s'
    simp only [Mm.V, memV, Sc.V, Sk.V, decide_true, decide_false, aA, aA, gq, reduceEq, reduceLT, reduceLE, implies_true, reduceCtorEq, if_true, if_false, go_sem, reduceEqDiff, Nat.reduceLT, reduceAdd, reduceSub, reduceLeDiff, reduceReplicate, reduceToNat]
    exact ⟨⟨hsw, hsr, hout⟩, aG rfl rfl⟩
  · have hst : nV ⟨vol, per, pend⟩ ⟨lo, hi, limit, 5, block, to_, ⟨sb, st, sa, sr, so⟩, from_, out⟩ = (nU ⟨vol, per, pend⟩ block 0, ⟨lo, hi, limit, 2, to_, to_, ⟨sb, st, sa, sr, so⟩, from_, out⟩) := rfl
    rw [hst]
    generalize hkm : nU ⟨vol, per, pend⟩ block 0 = m'
    obtain ⟨vol', per', pend'⟩ := m'
    simp only [fS.C, hkm, Mm.V, memV, Sc.V, Sk.V, decide_true, decide_false, aA, aA, gq, reduceEq, reduceLT, reduceLE, implies_true, reduceCtorEq, if_true, if_false, go_sem, reduceEqDiff, Nat.reduceLT, reduceAdd, reduceSub, reduceLeDiff, reduceReplicate, reduceToNat]
    exact ⟨⟨hsm, by omega⟩, rfl, aG rfl rfl⟩
  · have hst : nV ⟨vol, per, pend⟩ ⟨lo, hi, limit, 6, block, to_, ⟨sb, st, sa, sr, so⟩, from_, out⟩ = (nU ⟨vol, per, pend⟩ block 0, ⟨lo, hi, limit, 7, block, to_, ⟨sb, st, sa, sr, so⟩, from_, out⟩) := rfl
    rw [hst]
    generalize hkm : nU ⟨vol, per, pend⟩ block 0 = m'
    obtain ⟨vol', per', pend'⟩ := m'
    simp only [fS.C, hkm, Mm.V, memV, Sc.V, Sk.V, decide_true, decide_false, aA, aA, gq, reduceEq, reduceLT, reduceLE, implies_true, reduceCtorEq, if_true, if_false, go_sem, reduceEqDiff, Nat.reduceLT, reduceAdd, reduceSub, reduceLeDiff, reduceReplicate, reduceToNat]
    exact ⟨⟨hsm, by omega⟩, rfl, aG rfl rfl⟩
  · have hst : nV ⟨vol, per, pend⟩ ⟨lo, hi, limit, 7, block, to_, ⟨sb, st, sa, sr, so⟩, from_, out⟩ = (nU ⟨vol, per, pend⟩ block 1, if to_ = 0 then ⟨lo, hi, limit, 8, block, to_, ⟨sb, st, sa, sr, so⟩, from_, out⟩ else ⟨lo, hi, limit, 2, to_, to_, ⟨sb, st, sa, sr, so⟩, from_, out⟩) := rfl
    rw [hst]
    generalize hkm : nU ⟨vol, per, pend⟩ block 1 = m'
    obtain ⟨vol', per', pend'⟩ := m'
    by_cases ht : to_ = 0
    · subst ht
      simp only [fS.C, hkm, Mm.V, memV, Sc.V, Sk.V, decide_true, decide_false, aA, aA, gq, reduceEq, reduceLT, reduceLE, implies_true, reduceCtorEq, if_true, if_false, go_sem, reduceEqDiff, Nat.reduceLT, reduceAdd, reduceSub, reduceLeDiff, reduceReplicate, reduceToNat]
      exact ⟨⟨hsm, by omega⟩, rfl, aG rfl rfl⟩
    · simp only [fS.C, hkm, Mm.V, memV, Sc.V, Sk.V, ht, decide_true, decide_false, aA, aA, gq, reduceEq, reduceLT, reduceLE, implies_true, reduceCtorEq, if_true, if_false, go_sem, reduceEqDiff, Nat.reduceLT, reduceAdd, reduceSub, reduceLeDiff, reduceReplicate, reduceToNat]
      exact ⟨⟨hsm, by omega⟩, rfl, aG rfl rfl⟩
  · have hst : nV ⟨vol, per, pend⟩ ⟨lo, hi, limit, phase, block, to_, ⟨sb, st, sa, sr, so⟩, from_, out⟩ = (⟨vol, per, pend⟩, ⟨lo, hi, limit, phase, block, to_, ⟨sb, st, sa, sr, so⟩, from_, out⟩) := by
      unfold nV
      simp only
      rw [if_neg p1, if_neg p2, if_neg p3, if_neg p4, if_neg p5, if_neg p6, if_neg p7]
    rw [hst]
    simp only [Mm.V, memV, Sc.V, Sk.V, p1, p2, p3, p4, p5, p6, p7, decide_true, decide_false, aA, aA, gq, reduceEq, reduceLT, reduceLE, implies_true, reduceCtorEq, if_true, if_false, go_sem, reduceEqDiff, Nat.reduceLT, reduceAdd, reduceSub, reduceLeDiff, reduceReplicate, reduceToNat]
    exact ⟨rfl, aG rfl rfl⟩
end Lam
namespace Lam
open Go Go.Proofs
def bY.loops : Nat → bW
 | 4 => ⟨[5], [false], [0, 1], [], [], []⟩
 | _ => ⟨[], [], [], [], [], []⟩
def bY.L1 (c : Ctx) (J1 : List AObj → Prop) (K : AOut → List AObj → Prop) (lv : List AV) (h0 : List AObj) (n0 : Nat) (c0 : AV) (c1 : AV) : Prop :=
 ∃ I : Nat → List AV → List AObj → Prop, (∃ n, I n lv h0) ∧ ∀ n h, ∀ t5, I n [t5] h →
 runD (lenD aK h c0) h fun t13 h =>
 runD (binD aB .lss t5 t13) h fun t14 h =>
 aU t14
 (runD (aH aK h c0 t5) h fun t19 h =>
 runD (fitD aB (aD h t19)) h fun t20 h =>
 runD (aH aK h c1 t5) h fun t23 h =>
 runD (fitD aB (aD h t23)) h fun t24 h =>
 runD (binD aB .neq t20 t24) h fun t25 h =>
 aU t25
 (K (.ret (.bool false)) h)
 (runD (binD aB .add t5 (.int .i64 1)) h fun t16 h =>
 (∃ m, m < n ∧ I m (AV.norms n0 h [t16]) (cH n0 h)) ∧ AV.norms n0 h [c0, c1] = [c0, c1]))
 (J1 h)
def bY.H (c : Ctx) (t0 : AV) (t1 : AV) (h : List AObj) (K : AOut → List AObj → Prop) : Prop :=
 runD (lenD aK h t0) h fun t7 h =>
 runD (lenD aK h t1) h fun t9 h =>
 runD (binD aB .neq t7 t9) h fun t10 h =>
 aU t10
 (K (.ret (.bool false)) h)
 (aM (fun (J1 : List AObj → Prop) =>
 dC [false] [(.int .i64 0)] h fun lv h => bY.L1 c J1 K (AV.norms h.length h lv) (cH h.length h) h.length (AV.norm h.length h t0) (AV.norm h.length h t1))
 (fun h => K (.ret (.bool true)) h))
theorem bY.eq (F : List (FuncId × aE)) (S : List (FuncId × Con)) (t0 t1 : AV) (h : List AObj) (K : AOut → List AObj → Prop) : funW (ctx F S bY.loops) Tryz.f15 [t0, t1] h K = bY.H (ctx F S bY.loops) t0 t1 h K := by kernel_rfl
theorem bY.at : Tryz.prog.funcs[15]? = some Tryz.f15 := by kernel_rfl
theorem bY.nm : (Tryz.f15.name == "runtime.NumGoroutine") = false := by kernel_rfl
theorem bY.bd : Tryz.f15.body.isNone = false := by kernel_rfl
end Lam
namespace Lam
open Go Go.Proofs
def bY.C : aE
  | [.sl _ (.ints .i64 a), .sl _ (.ints .i64 b)] => some (false, pD (roomy a.length) (.bool (decide (a = b))))
  | _ => none
theorem bY.spec : bI Tryz.prog 15 bY.C := by
  refine bI.of (bQ (F := []) (S := []) (by simp) (by simp) bY.loops) bY.at bY.nm bY.bd ?_
  intro vs b S v news e hS
  unfold bY.C at e
  split at e
  rotate_left
  · cases e
  cases e
  rw [bY.eq]
  unfold bY.H
  simp (maxSteps := 4000000) only [go_sem, reduceEqDiff, Nat.reduceLT, reduceAdd, reduceSub, reduceLeDiff, reduceReplicate, reduceToNat]
  rename_i a _ b
  unfold roomy at hS
  refine ⟨fun hne => ?_, fun heq => ?_⟩
  · have : decide (a = b) = false := by rw [decide_eq_false_iff_not]; rintro rfl; exact hne rfl
    rw [this]; exact aG rfl rfl
  rw [aA]
  unfold bY.L1
  have hlen : a.length = b.length := by omega
  refine kT (fun k : Nat => .int .i64 k) (fun _ => []) (fun k => a.length - k) (fun k => k ≤ a.length ∧ ∀ i, i < k → a.getD i 0 = b.getD i 0) 0 rfl rfl ⟨Nat.zero_le _, fun i hi => absurd hi (Nat.not_lt_zero i)⟩ ?_
  rintro I back k ⟨hk, hall⟩
  simp only [go_sem, reduceEqDiff, Nat.reduceLT, reduceAdd, reduceSub, reduceLeDiff, reduceReplicate, reduceToNat]
  refine ⟨fun hlt => ⟨by omega, by omega, fun h0 => ?_, fun h0 => ?_⟩, fun hge => ?_⟩
  · have : decide (a = b) = false := by rw [decide_eq_false_iff_not]; rintro rfl; exact h0 rfl
    rw [this]; exact aG rfl rfl
  · refine back (k + 1) (by omega) (by rw [eG (by omega)]) rfl ⟨by omega, fun i hi => ?_⟩
    by_cases e : i = k
    · subst e; exact h0
    · exact hall i (by omega)
  · rw [decide_eq_true (aMq 0 hlen fun i hi => hall i (by omega))]; exact aG rfl rfl
end Lam
namespace Lam
open Go Go.Proofs
end Lam
namespace Lam
open Go Go.Proofs
end Lam
namespace Lam
open Go Go.Proofs
end Lam
namespace Lam
open Go Go.Proofs
theorem aAK {w : List Int} (b line : Int) : nU ⟨w, w, []⟩ b line = ⟨w, w, []⟩ := by
  unfold nU
  split
  · unfold doM
    split
    · rfl
    · rfl
  · rfl
end Lam
namespace Lam
open Go Go.Proofs
def aFv (n : Nat) : List Int := qA n 1 ++ (gI jH ++ List.replicate (16 * n - 32) 0)
def vR (n : Int) : AV := if (decide (n < 2) || decide (256 < n)) = true then .tup [.sl false (.ints .i64 []), .int .i64 1] else .tup [.sl false (.ints .i64 (aFv n.toNat)), .int .i64 0]
def gX.C : aE
  | [.int .i64 n] => some (false, pD True (vR n))
  | _ => none
theorem gX.spec : bI Tryz.prog 32 gX.C := by
  refine bI.of (bQ (F := [(56, fO.C), (57, fB.C)]) (S := []) (by simpa using ⟨fO.spec, fB.spec⟩) (by simp) gX.loops) gX.at gX.nm gX.bd ?_
  intro vs b S v news e hS
  unfold gX.C at e
  split at e
  rotate_left
  · cases e
  cases e
  rw [gX.eq]
  unfold gX.H
  simp (maxSteps := 4000000) only [go_sem, reduceEqDiff, Nat.reduceLT, reduceAdd, reduceSub, reduceLeDiff, reduceReplicate, reduceToNat, fO.C, fB.C]
  rename_i n
  refine ⟨fun h => ?_, fun h => ?_⟩
  · have : vR n = .tup [.sl false (.ints .i64 []), .int .i64 1] := by unfold vR; rw [if_pos h]
    rw [this]; refine aG ?_ rfl; simp only [go_sem, reduceEqDiff, Nat.reduceLT, reduceAdd, reduceSub, reduceLeDiff, reduceReplicate, reduceToNat]
  · have hv : vR n = .tup [.sl false (.ints .i64 (aFv n.toNat)), .int .i64 0] := by unfold vR; rw [if_neg (by rw [h]; decide)]
    rw [hv]
    clear hv
    simp only [Bool.or_eq_false_iff, decide_eq_false_iff_not] at h
    obtain ⟨k, rfl⟩ := Int.eq_ofNat_of_zero_le (show 0 ≤ n by omega)
    have hmay : mayB (k : Int) 1 = true := by unfold mayB; simp only [Bool.and_eq_true, decide_eq_true_eq]; omega
    have e1 : IntKind.i64.wrap (16 * (k : Int)) = ((16 * k : Nat) : Int) := by rw [w64 (by omega) (by omega)]; omega
    have hz : xV ⟨0, 0, 0, 0, []⟩ = .tup [.sl false (.ints .i64 (gI jH)), .int .i64 0] := by
      unfold xV; rw [if_pos (by decide)]; rfl
    have hsl : (qA (k : Int) 1).length = 16 := rfl
    have hzl : (gI jH).length = 16 := rfl
    have hrl : (List.replicate (16 * k) (0 : Int)).length = 16 * k := List.length_replicate
    simp only [hmay, if_true, e1, hz, Int.toNat_natCast, hsl, hzl, aA, gq, reduceEq, reduceLT, reduceLE, implies_true, reduceCtorEq, if_true, if_false, go_sem, reduceEqDiff, Nat.reduceLT, reduceAdd, reduceSub, reduceLeDiff, reduceReplicate, reduceToNat]
    refine ⟨⟨by omega, by omega, by unfold roomy; omega⟩, by omega, ?_⟩
    have m1 : min (16 * k) 16 = 16 := by omega
    have m2 : min (16 * k - 16) 16 = 16 := by omega
    have t1 : (qA (k : Int) 1).take (16 * k) = qA (k : Int) 1 := List.take_of_length_le (by rw [hsl]; omega)
    have t2 : (gI jH).take (16 * k - 16) = gI jH := List.take_of_length_le (by rw [hzl]; omega)
    refine aG ?_ rfl
    simp only [m1, m2, t1, t2, go_sem, reduceEqDiff, Nat.reduceLT, reduceAdd, reduceSub, reduceLeDiff, reduceReplicate, reduceToNat]
    have hR : List.take (16 * k - 16) (List.drop 16 (List.replicate (16 * k) (0 : Int))) = List.replicate (16 * k - 16) 0 := by simp
    rw [hR]
    have l1 : (qA (k : Int) 1 ++ List.replicate (16 * k - 16) (0 : Int)).length = 16 * k := by rw [List.length_append, hsl, List.length_replicate]; omega
    have l2 : (qA (k : Int) 1 ++ List.replicate (16 * k - 16) (0 : Int)).take 16 = qA (k : Int) 1 := List.take_left' hsl
    have l3 : (qA (k : Int) 1 ++ List.replicate (16 * k - 16) (0 : Int)).drop 32 = List.replicate (16 * k - 32) 0 := by
      rw [List.drop_append, hsl, List.drop_of_length_le (by rw [hsl]; omega), List.drop_replicate, List.nil_append]
      rw [show 16 * k - 16 - (32 - 16) = 16 * k - 32 by omega]
    rw [l1, l2, l3]
    have l4 : (List.replicate (16 * k - 32) (0 : Int)).take (16 * k - 32) = List.replicate (16 * k - 32) 0 := by simp
    rw [l4]
    have l5 : (qA (k : Int) 1 ++ (gI jH ++ List.replicate (16 * k - 32) (0 : Int))).take (16 * k) = aFv k := by
      rw [List.take_of_length_le]
      · rfl
      · simp only [List.length_append, hsl, hzl, List.length_replicate]; omega
    rw [l5]
def A4 : List Int := aFv 4
theorem aGC : iG A4 := by
  refine ⟨by decide +kernel, ?_⟩
  have : A4.all (fun x => decide (x < 9223372036854775808)) = true := by decide +kernel
  intro x hx
  exact of_decide_eq_true (List.all_eq_true.1 this x hx)
end Lam
namespace Lam
open Go Go.Proofs
end Lam
namespace Lam
open Go Go.Proofs
end Lam
namespace Lam
open Go Go.Proofs
def M16 : Mm := ⟨A4, A4, []⟩
theorem aBi : dF A4 1 = some jH := by decide +kernel
theorem aLU : qB A4 1 = some ⟨1, 0, 0, [], false⟩ := by
  unfold qB
  rw [aBi]; rfl
theorem aMU : aBh A4 = 1 := by
  unfold aBh
  rw [show eF A4 = true from by decide +kernel]; rfl
theorem aNV : vR 4 = .tup [.sl false (.ints .i64 A4), .int .i64 0] := by
  unfold vR; rw [if_neg (by decide)]; rfl
theorem aKP : newM A4 = .tup [memV A4 A4 [], .int .i64 0] := by
  unfold newM; rw [show szB A4.length = true from by decide +kernel]; rfl
end Lam
namespace Lam
open Go Go.Proofs
def cK.loops : Nat → bW
 | 8 => ⟨[11, 12], [false, false], [3, 5, 6, 8, 10], [(3, none), (3, some [39, 42])], [], []⟩
 | 12 => ⟨[], [], [], [(3, none), (2, some [56, 58]), (2, none), (2, some [60, 62]), (2, none), (3, some [64, 67]), (2, none), (4, some [69, 73]), (2, none), (2, some [75, 77])], [], []⟩
 | _ => ⟨[], [], [], [], [], []⟩
def cK.L1 (c : Ctx) (J1 : AV → AV → AV → AV → AV → List AObj → Prop) (K : AOut → List AObj → Prop) (lv : List AV) (h0 : List AObj) (n0 : Nat) (c3 : AV) (c5 : AV) (c6 : AV) (c8 : AV) (c10 : AV) : Prop :=
 ∃ I : Nat → List AV → List AObj → Prop, (∃ n, I n lv h0) ∧ ∀ n h, ∀ t11, ∀ t12, I n [t11, t12] h →
 runD (binD aB .lss t12 (.int .i64 40)) h fun t38 h =>
 aM (fun (J2 : AV → AV → List AObj → Prop) =>
 aX t38 true
 (runD (aC aJ c5 3) h fun t40 h =>
 runD (fitD aB (aD h t40)) h fun t41 h =>
 runD (binD aB .neq t41 (.int .i64 8)) h fun t42 h =>
 J2 (.bool true) t42 h)
 (J2 (.bool false) .und h))
 (fun t39 t42 h => runD (bO t39 t42 (.bool false)) h fun t43 h =>
 aU t43
 (runD (fitD aN (aD h c3)) h fun t47 h =>
 runD (fitD aJ (aD h c5)) h fun t48 h =>
 aR false c (.fn (.func 19) [] []) [t47, t48] h (fun t49 h =>
 runD (aW t49 0) h fun t50 h =>
 runD (aW t49 1) h fun t51 h =>
 runH (aP aN h c3 t50) h fun _ h =>
 runH (aP aJ h c5 t51) h fun _ h =>
 runD (binD aB .add t11 (.int .i64 1)) h fun t53 h =>
 runD (binD aB .add t12 (.int .i64 1)) h fun t45 h =>
 (∃ m, m < n ∧ I m (AV.norms n0 h [t53, t45]) (cH n0 h)) ∧ AV.norms n0 h [c3, c5, c6, c8, c10] = [c3, c5, c6, c8, c10])
 (fun v h => K (.pan v) h))
 (J1 c5 c6 c8 c10 t11 h))
def cK.H (c : Ctx) (h : List AObj) (K : AOut → List AObj → Prop) : Prop :=
 aR false c (.fn (.func 32) [] []) [(.int .i64 4)] h (fun t14 h =>
 runD (aW t14 0) h fun t15 h =>
 runD (aW t14 1) h fun t16 h =>
 aR false c (.fn (.func 28) [] []) [t15] h (fun t19 h =>
 runD (aW t19 0) h fun t20 h =>
 runD (aW t19 1) h fun t21 h =>
 cQ aN h fun t3 h =>
 runH (aP aN h t3 t20) h fun _ h =>
 aR false c (.fn (.func 18) [] []) [t15, (.str [97]), (.str []), (.int .i64 5)] h (fun t24 h =>
 runD (aW t24 0) h fun t25 h =>
 runD (aW t24 1) h fun t26 h =>
 cQ aJ h fun t5 h =>
 runH (aP aJ h t5 t25) h fun _ h =>
 aR false c (.fn (.func 18) [] []) [t15, (.str [97]), (.str []), (.int .i64 0)] h (fun t29 h =>
 runD (aW t29 0) h fun t30 h =>
 runD (aW t29 1) h fun t31 h =>
 cQ aJ h fun t7 h =>
 runH (aP aJ h t7 t30) h fun _ h =>
 aR false c (.fn (.func 18) [] []) [t15, (.str [97, 98, 99, 100, 101, 102, 103, 104, 105, 106, 107, 108, 109, 110, 111, 112, 113, 114, 115, 116, 117, 118]), (.str []), (.int .i64 0)] h (fun t34 h =>
 runD (aW t34 0) h fun t35 h =>
 runD (aW t34 1) h fun t36 h =>
 cQ aJ h fun t9 h =>
 runH (aP aJ h t9 t35) h fun _ h =>
 aM (fun (J1 : AV → AV → AV → AV → AV → List AObj → Prop) =>
 dC [false, false] [(.int .i64 0), (.int .i64 0)] h fun lv h => cK.L1 c J1 K (AV.norms h.length h lv) (cH h.length h) h.length (AV.norm h.length h t3) (AV.norm h.length h t5) (AV.norm h.length h t26) (AV.norm h.length h t31) (AV.norm h.length h t36))
 (fun t5 t6 t8 t10 t11 h => runD (binD cN .eql t6 (.int .i64 0)) h fun t55 h =>
 aM (fun (J3 : AV → AV → List AObj → Prop) =>
 aX t55 true
 (runD (binD cN .eql t8 (.int .i64 1)) h fun t58 h =>
 J3 (.bool true) t58 h)
 (J3 (.bool false) .und h))
 (fun t56 t58 h => runD (bO t56 t58 (.bool false)) h fun t59 h =>
 aM (fun (J4 : AV → AV → List AObj → Prop) =>
 aX t59 true
 (runD (binD cN .eql t10 (.int .i64 20)) h fun t62 h =>
 J4 (.bool true) t62 h)
 (J4 (.bool false) .und h))
 (fun t60 t62 h => runD (bO t60 t62 (.bool false)) h fun t63 h =>
 aM (fun (J5 : AV → AV → List AObj → Prop) =>
 aX t63 true
 (runD (aC aJ t5 3) h fun t65 h =>
 runD (fitD aB (aD h t65)) h fun t66 h =>
 runD (binD aB .eql t66 (.int .i64 8)) h fun t67 h =>
 J5 (.bool true) t67 h)
 (J5 (.bool false) .und h))
 (fun t64 t67 h => runD (bO t64 t67 (.bool false)) h fun t68 h =>
 aM (fun (J6 : AV → AV → List AObj → Prop) =>
 aX t68 true
 (runD (aC aJ t5 8) h fun t70 h =>
 runD (fitD cJ (aD h t70)) h fun t71 h =>
 runD (lenD cJ h t71) h fun t72 h =>
 runD (binD aB .eql t72 (.int .i64 0)) h fun t73 h =>
 J6 (.bool true) t73 h)
 (J6 (.bool false) .und h))
 (fun t69 t73 h => runD (bO t69 t73 (.bool false)) h fun t74 h =>
 aM (fun (J7 : AV → AV → List AObj → Prop) =>
 aX t74 true
 (runD (binD aB .eql t11 (.int .i64 6)) h fun t77 h =>
 J7 (.bool true) t77 h)
 (J7 (.bool false) .und h))
 (fun t75 t77 h => runD (bO t75 t77 (.bool false)) h fun t78 h =>
 runD (bO t78 (.bool true) (.bool false)) h fun t80 h =>
 K (.ret t80) h)))))))
 (fun v h => K (.pan v) h))
 (fun v h => K (.pan v) h))
 (fun v h => K (.pan v) h))
 (fun v h => K (.pan v) h))
 (fun v h => K (.pan v) h)
theorem cK.eq (F : List (FuncId × aE)) (S : List (FuncId × Con)) (h : List AObj) (K : AOut → List AObj → Prop) : funW (ctx F S cK.loops) Tryz.f17 [] h K = cK.H (ctx F S cK.loops)  h K := by kernel_rfl
theorem cK.at : Tryz.prog.funcs[17]? = some Tryz.f17 := by kernel_rfl
theorem cK.nm : (Tryz.f17.name == "runtime.NumGoroutine") = false := by kernel_rfl
theorem cK.bd : Tryz.f17.body.isNone = false := by kernel_rfl
end Lam
namespace Lam
open Go Go.Proofs
def C17 : Nat → Sc
  | 0 => ⟨[97], [], 5, 1, 1, 0, skZ, [97], []⟩
  | 1 => ⟨[97], [], 5, 2, 1, 0, skZ, [97], []⟩
  | 2 => ⟨[97], [], 5, 3, 1, 0, ⟨1, 0, 0, [], false⟩, [97], []⟩
  | 3 => ⟨[97], [], 5, 4, 1, 0, ⟨1, 0, 0, [], true⟩, [97], []⟩
  | 4 => ⟨[97], [], 5, 6, 1, 0, ⟨1, 0, 0, [], true⟩, [97], []⟩
  | 5 => ⟨[97], [], 5, 7, 1, 0, ⟨1, 0, 0, [], true⟩, [97], []⟩
  | _ => ⟨[97], [], 5, 8, 1, 0, ⟨1, 0, 0, [], true⟩, [97], []⟩
theorem aLV : ∀ k, k < 6 → nV M16 (C17 k) = (M16, C17 (k + 1)) ∧ (C17 k).phase ≠ 8
  | 0, _ => ⟨by
      show ((M16, qL A4 (C17 0)) : Mm × Sc) = _
      unfold qL; rw [show (C17 0).block = 1 from rfl, aBi]; rfl, by decide⟩
  | 1, _ => ⟨by
      show ((M16, uO A4 (C17 1)) : Mm × Sc) = _
      unfold uO; rw [show (C17 1).block = 1 from rfl, aLU]; rfl, by decide⟩
  | 2, _ => ⟨by
      show ((M16, tO A4 (C17 2)) : Mm × Sc) = _
      rfl, by decide⟩
  | 3, _ => ⟨by
      show ((M16, lA A4 (C17 3)) : Mm × Sc) = _
      unfold lA
      rw [show tN A4 (C17 3).seek.block (C17 3).seek.turn = true by
        unfold tN
        rw [show (C17 3).seek.block = 1 from rfl, aBi]; rfl]
      rw [if_neg (by decide), show vQ A4 (C17 3).block = none by
        unfold vQ
        rw [show (C17 3).block = 1 from rfl, aBi]; rfl]
      rfl, by decide⟩
  | 4, _ => ⟨by
      show ((nU M16 1 0, (⟨[97], [], 5, 7, 1, 0, ⟨1, 0, 0, [], true⟩, [97], []⟩ : Sc)) : Mm × Sc) = _
      unfold M16
      rw [aAK]; rfl, by decide⟩
  | 5, _ => ⟨by
      show ((nU M16 1 1, (⟨[97], [], 5, 8, 1, 0, ⟨1, 0, 0, [], true⟩, [97], []⟩ : Sc)) : Mm × Sc) = _
      unfold M16
      rw [aAK]; rfl, by decide⟩
  | k + 6, h => by omega
theorem aLW : ∀ k, k ≤ 6 → (C17 k).seek.refs = [] ∧ (C17 k).out = []
  | 0, _ => ⟨rfl, rfl⟩
  | 1, _ => ⟨rfl, rfl⟩
  | 2, _ => ⟨rfl, rfl⟩
  | 3, _ => ⟨rfl, rfl⟩
  | 4, _ => ⟨rfl, rfl⟩
  | 5, _ => ⟨rfl, rfl⟩
  | 6, _ => ⟨rfl, rfl⟩
  | k + 7, h => by omega
theorem aKQ : iY A4 [97] [] 5 = .tup [(C17 0).V, .int .i64 0] := by
  unfold iY sc0; rw [if_neg (by decide), if_neg (by decide), aMU]; rfl
theorem aKR : iY A4 [97] [] 0 = .tup [scZ.V, .int .i64 1] := by
  unfold iY; rw [if_neg (by decide), if_pos (by decide)]
theorem aKS : iY A4 [97, 98, 99, 100, 101, 102, 103, 104, 105, 106, 107, 108, 109, 110, 111, 112, 113, 114, 115, 116, 117, 118] [] 0 = .tup [scZ.V, .int .i64 20] := by
  unfold iY; rw [if_pos (by decide)]
def cK.C : aE
  | [] => some (false, pD True (.bool true))
  | _ => none
theorem cK.spec : bI Tryz.prog 17 cK.C := by
  refine bI.of (bQ (F := [(32, gX.C), (28, gN.C), (18, eU.C), (19, fJ.C)]) (S := []) (by simpa using ⟨gX.spec, gN.spec, eU.spec, fJ.spec⟩) (by simp) cK.loops) cK.at cK.nm cK.bd ?_
  intro vs b S v news e hS
  unfold cK.C at e
  split at e
  rotate_left
  · cases e
  cases e
  rw [cK.eq]
  unfold cK.H
  simp (maxSteps := 4000000) only [go_sem, reduceEqDiff, Nat.reduceLT, reduceAdd, reduceSub, reduceLeDiff, reduceReplicate, reduceToNat, gX.C, gN.C, eU.C, fJ.C, aNV, aKP, aKQ, aKR, aKS]
  have rA : roomy A4.length := aGC.roomy
  have hsm : lW A4 A4 [] := ⟨rA, rA, by unfold roomy; decide⟩
  simp only [gN.C, eU.C, aKP, aKQ, aKR, aKS, memV, C17, scZ, Sc.V, Sk.V, skZ, aA, gq, reduceEq, reduceLT, reduceLE, implies_true, reduceCtorEq, if_true, if_false, go_sem, reduceEqDiff, Nat.reduceLT, reduceAdd, reduceSub, reduceLeDiff, reduceReplicate, reduceToNat]
  refine ⟨rA, rA, rA, rA, ?_⟩
  unfold cK.L1
  refine oI (σ := Nat) (fun k => .int .i64 k) (fun k => .int .i64 k) (fun k => [.box M16.V, .box (C17 k).V, .box scZ.V, .box scZ.V]) (fun k => 6 - k) (fun k => k ≤ 6) 0 rfl rfl (by decide) ?_
  intro I back k hk
  by_cases hk6 : k < 6
  · obtain ⟨h1, h2⟩ := aLV k hk6
    obtain ⟨h3, h4⟩ := aLW k hk
    have hb := back (k + 1) (n := 6 - k) (by omega) rfl rfl (by omega)
    clear back
    generalize C17 (k + 1) = y at *
    generalize C17 k = x at *
    obtain ⟨y1, y2, y3, y4, y5, y6, ⟨z1, z2, z3, z4, z5⟩, y7, y8⟩ := y
    obtain ⟨x1, x2, x3, x4, x5, x6, ⟨s1, s2, s3, s4, s5⟩, x7, x8⟩ := x
    simp only at h2 h3 h4
    have d1 : decide ((k : Int) < 40) = true := decide_eq_true (by omega)
    unfold M16 at h1 hb ⊢
    simp only [fJ.C, h1, h2, d1, scZ, Mm.V, memV, Sc.V, Sk.V, skZ, eG (show k < 4611686018427387904 by omega), decide_false, aA, aA, gq, reduceEq, reduceLT, reduceLE, implies_true, reduceCtorEq, if_true, if_false, go_sem, reduceEqDiff, Nat.reduceLT, reduceAdd, reduceSub, reduceLeDiff, reduceReplicate, reduceToNat] at hb ⊢
    exact ⟨⟨hsm, aGC, by rw [h3]; decide, by rw [h4]; decide⟩, hb⟩
  · obtain rfl : k = 6 := by omega
    clear back
    simp only [C17, M16, scZ, Mm.V, memV, Sc.V, Sk.V, skZ, aA, aA, gq, reduceEq, reduceLT, reduceLE, implies_true, reduceCtorEq, if_true, if_false, go_sem, reduceEqDiff, Nat.reduceLT, reduceAdd, reduceSub, reduceLeDiff, reduceReplicate, reduceToNat]
    exact aG rfl rfl
end Lam
namespace Lam
open Go
def seeR (refs : List Int) (W : Int) : List Int := if 0 < W ∧ refs.getLast? ≠ some W then refs ++ [W] else refs
theorem aKT (l : List Int) (W : Int) : (decide (l.length = 0) || !decide (l.getD (l.length - 1) 0 = W)) = decide (l.getLast? ≠ some W) := by
  cases l with
  | nil => simp
  | cons a r =>
    rw [List.getLast?_eq_getElem?, List.getD_eq_getElem?_getD]
    have h : (a :: r).length - 1 < (a :: r).length := by simp
    rw [List.getElem?_eq_getElem h]
    simp
theorem aEP (W : Int) (s : Sk) : (goOn W s).refs = seeR s.refs W := by
  unfold goOn seeR
  simp only [aKT]
  by_cases h : 0 < W ∧ s.refs.getLast? ≠ some W
  · rw [if_pos h, if_pos (by simp only [Bool.and_eq_true, decide_eq_true_eq]; exact h)]
  · rw [if_neg h, if_neg (by simp only [Bool.and_eq_true, decide_eq_true_eq]; exact h)]
def InW (w : List Int) (b : Int) : Prop := 0 ≤ b ∧ b < 256 ∧ b < ((w.length / 16 : Nat) : Int)
def mS (w : List Int) (b : Int) (k : Nat) : Int := w.getD ((16 * b).toNat + 3 + k) 0
theorem aGD {w : List Int} {b t : Int} {k : Nat} {refs : List Int} (h : InW w b) (hk : k < 13) : kU w ⟨b, t, k, refs, false⟩ = goOn (mS w b k) ⟨b, t, k, refs, false⟩ := by
  obtain ⟨h0, h1, h2⟩ := h
  have hs : mR w ⟨b, t, k, refs, false⟩ = 16 * b + 3 + k := by
    unfold mR
    rw [if_pos (by simp only [Bool.and_eq_true, decide_eq_true_eq]; exact ⟨⟨h0, h1⟩, h2⟩)]
    show oX (16 * b) k = _
    exact aGl ((yV (by omega)).2 ⟨by omega, by omega, by omega⟩) (by omega) (by show (0 : Int) ≤ k; omega) (by show (k : Int) < 13; omega)
  unfold kU mS
  rw [hs, decide_eq_false (by omega), if_neg (show ¬ (false || false) = true by decide)]
  rw [show (16 * b + 3 + (k : Int)).toNat = (16 * b).toNat + 3 + k by omega]
theorem aDx {w : List Int} {s : Sk} (h : s.over = true) : kU w s = s := by unfold kU; rw [h]; rfl
theorem aLX {w : List Int} {b t : Int} {k : Nat} {refs : List Int} (h : InW w b) (hk : k < 13) (hd : mB t = false) :
    kU w ⟨b, t, k, refs, false⟩ = if mS w b k < 1 ∨ k = 12 then ⟨b, t, k, seeR refs (mS w b k), true⟩ else ⟨b, t, (k + 1 : Nat), seeR refs (mS w b k), false⟩ := by
  rw [aGD h hk]
  have hr := aEP (mS w b k) ⟨b, t, k, refs, false⟩
  have ho : kF (mS w b k) ⟨b, t, k, refs, false⟩ = decide (mS w b k < 1 ∨ k = 12) := by
    unfold kF
    simp only [hd]
    rw [if_neg (by decide)]
    rw [show decide ((k : Int) = 12) = decide (k = 12) from decide_eq_decide.2 (by omega)]
    by_cases h1 : mS w b k < 1 <;> by_cases h2 : k = 12 <;> simp [h1, h2]
  unfold goOn at hr ⊢
  simp only at hr
  rw [ho]
  simp only [hr]
  by_cases hc : mS w b k < 1 ∨ k = 12
  · rw [if_pos hc, decide_eq_true hc]; simp
  · rw [if_neg hc, decide_eq_false hc]
    simp only [hd]
    rw [if_neg (by decide), if_neg (by decide), eG (by omega)]
theorem aJp {w : List Int} {b t : Int} {k : Nat} {refs : List Int} (h : InW w b) (hk : k < 13) (hd : mB t = true) :
    kU w ⟨b, t, k, refs, false⟩ = if k = 0 then ⟨b, t, k, seeR refs (mS w b k), true⟩ else ⟨b, t, (k - 1 : Nat), seeR refs (mS w b k), false⟩ := by
  rw [aGD h hk]
  have hr := aEP (mS w b k) ⟨b, t, k, refs, false⟩
  have ho : kF (mS w b k) ⟨b, t, k, refs, false⟩ = decide (k = 0) := by
    unfold kF
    simp only [hd, if_true]
    exact decide_eq_decide.2 (by omega)
  unfold goOn at hr ⊢
  simp only at hr
  rw [ho]
  simp only [hr]
  by_cases hc : k = 0
  · rw [if_pos hc, decide_eq_true hc]; simp
  · rw [if_neg hc, decide_eq_false hc]
    simp only [hd, if_true]
    rw [if_neg (by decide)]
    rw [show IntKind.i64.wrap ((k : Int) - 1) = ((k - 1 : Nat) : Int) by rw [w64 (by omega) (by omega)]; omega]
theorem zP : ∀ l : List Int, (plain l).getLast? = l.getLast?
  | [] => rfl
  | [a] => rfl
  | a :: b :: r => by
    have ih := zP (b :: r)
    simp only [plain]
    split
    · rw [ih]; simp
    · rw [List.getLast?_cons, ih, List.getLast?_cons (a := a), List.getLast?_cons (a := b)]
theorem aDy {l : List Int} {W : Int} (h : 0 < W) : seeR (plain l) W = plain (l ++ [W]) := by
  unfold seeR
  rw [uK, zP]
  by_cases e : l.getLast? = some W
  · rw [if_pos e, if_neg (fun h => h.2 e)]
  · rw [if_neg e, if_pos ⟨h, e⟩]
theorem aEQ {l : List Int} {W : Int} (h : ¬ 0 < W) : seeR l W = l := by unfold seeR; rw [if_neg (fun h' => h h'.1)]
theorem aJq (a : Int) (l : List Int) : plain (a :: l) = if l.head? = some a then plain l else a :: plain l := by
  cases l with
  | nil => rfl
  | cons b r =>
    have h : ((b :: r).head? = some a) ↔ a = b := by rw [List.head?_cons]; exact ⟨fun h => by cases h; rfl, fun h => by rw [h]⟩
    by_cases e : a = b
    · rw [if_pos (h.2 e)]; simp only [plain, if_pos e]
    · rw [if_neg (fun h' => e (h.1 h'))]; simp only [plain, if_neg e]
theorem aER : ∀ l : List Int, plain l.reverse = (plain l).reverse
  | [] => rfl
  | a :: l => by
    rw [List.reverse_cons, uK, aJq, aER l, List.getLast?_reverse]
    split
    · rfl
    · rw [List.reverse_cons]
def aDW (w : List Int) (b : Int) (l : List Int) : Prop := InW w b ∧ l.length ≤ 13 ∧ (∀ x ∈ l, 0 < x) ∧ ∀ k, k < 13 → mS w b k = l.getD k 0
def upAt (b t : Int) (l : List Int) (k : Nat) : Sk := if k ≤ min l.length 12 then ⟨b, t, k, plain (l.take k), false⟩ else ⟨b, t, (min l.length 12 : Nat), plain l, true⟩
theorem aMV {w : List Int} {b t : Int} {l : List Int} (h : aDW w b l) (hd : mB t = false) (k : Nat) : kU w (upAt b t l k) = upAt b t l (k + 1) := by
  obtain ⟨hin, hl, hpos, hs⟩ := h
  unfold upAt
  by_cases hk : k ≤ min l.length 12
  · have hk13 : k < 13 := by omega
    rw [if_pos hk, aLX hin hk13 hd, hs k hk13]
    by_cases hkl : k < l.length
    · have hp := hpos _ (lI l k 0 hkl)
      rw [aDy hp, ← gP l k 0 hkl]
      by_cases h12 : k = 12
      · rw [if_pos (.inr h12), if_neg (by omega)]
        rw [show min l.length 12 = k by omega, List.take_of_length_le (by omega)]
      · rw [if_neg (by omega), if_pos (by omega)]
    · obtain rfl : k = l.length := by omega
      have h0 : l.getD l.length 0 = 0 := by rw [List.getD_eq_getElem?_getD, List.getElem?_eq_none (Nat.le_refl _)]; rfl
      rw [h0, aEQ (by decide), if_pos (.inl (by decide)), if_neg (by omega), List.take_length]
      rw [show min l.length 12 = l.length by omega]
  · rw [if_neg hk, if_neg (by omega), aDx rfl]
def xY (b t : Int) (l : List Int) (k : Nat) : Sk := if k ≤ 12 then ⟨b, t, (12 - k : Nat), plain (l.drop (13 - k)).reverse, false⟩ else ⟨b, t, 0, plain l.reverse, true⟩
theorem aKU {w : List Int} {b t : Int} {l : List Int} (h : aDW w b l) (hd : mB t = true) (k : Nat) : kU w (xY b t l k) = xY b t l (k + 1) := by
  obtain ⟨hin, hl, hpos, hs⟩ := h
  unfold xY
  by_cases hk : k ≤ 12
  · have hk13 : 12 - k < 13 := by omega
    have hsee : seeR (plain (l.drop (13 - k)).reverse) (l.getD (12 - k) 0) = plain (l.drop (12 - k)).reverse := by
      by_cases hkl : 12 - k < l.length
      · rw [aDy (hpos _ (lI l _ 0 hkl)), wD l (12 - k) 0 hkl, List.reverse_cons, show 13 - k = 12 - k + 1 by omega]
      · rw [List.getD_eq_getElem?_getD, List.getElem?_eq_none (by omega), aEQ (by decide), List.drop_of_length_le (by omega), List.drop_of_length_le (by omega)]
    rw [if_pos hk, aJp hin hk13 hd, hs _ hk13, hsee]
    by_cases h12 : k = 12
    · subst h12
      rw [if_pos (by decide), if_neg (by decide)]
      rfl
    · rw [if_neg (by omega), if_pos (by omega)]
      rw [show 12 - k - 1 = 12 - (k + 1) by omega, show 12 - k = 13 - (k + 1) by omega]
  · rw [if_neg hk, if_neg (by omega), aDx rfl]
end Lam
namespace Lam
open Go
theorem aBF {w : List Int} {low : bD} : ∀ {l : List Int} {k : Nat} {last : bD}, lL w low l k last = true → ∀ s ∈ l, ∃ x, recO w s = some x ∧ x.kind = 1
  | [], _, _, _, s, hs => by cases hs
  | a :: r, k, last, h, s, hs => by
    simp only [lL] at h
    cases hx : recO w a with
    | none => rw [hx] at h; cases h
    | some x =>
      rw [hx] at h
      simp only [Bool.and_eq_true, decide_eq_true_eq] at h
      rcases List.mem_cons.1 hs with rfl | hs
      · exact ⟨x, hx, h.1.1.1⟩
      · exact aBF h.2 s hs
theorem aJr {w : List Int} {i : Nat} {last low : bD} {b : Int} (h : mZ w i last b = some low) : ∃ n, dF w b = some n ∧ lowO w n = some low ∧ lL w low (plain n.slots) 0 low = true := by
  unfold mZ at h
  cases hn : dF w b with
  | none => rw [hn] at h; cases h
  | some n =>
    rw [hn] at h
    simp only at h
    cases hw : lowO w n with
    | none => rw [hw] at h; cases h
    | some lo =>
      rw [hw] at h
      simp only at h
      split at h
      rotate_left
      · cases h
      rename_i hc
      cases h
      simp only [Bool.and_eq_true] at hc
      exact ⟨n, rfl, hw, hc.2⟩
end Lam
