/- What functions of the program come to, each proved from its code. -/
import Derived.Test.YtmbmfnmjjelmkabGreatLm5
set_option linter.unusedVariables false
set_option linter.unusedSimpArgs false
set_option linter.unnecessarySimpa false
set_option linter.unusedSectionVars false
open Nat (reduceEqDiff reduceAdd reduceSub reduceLeDiff)
open Int (reduceToNat reduceEq reduceLE reduceLT)
open List (reduceReplicate)
set_option maxRecDepth 20000
namespace Lam
open Go Go.Proofs
def fY.loops : Nat → bU
 | 2 => ⟨[], [], [], [(3, none), (2, some [17, 19])], [], []⟩
 | _ => ⟨[], [], [], [], [], []⟩
def fY.H (c : Ctx) (t0 : AV) (t1 : AV) (h : List AObj) (K : AOut → List AObj → Prop) : Prop :=
 cS bY h fun t4 h =>
 aP false c (.fn (.func 46) [] []) [t0, t1] h (fun t12 h =>
 runD (aW t12 0) h fun t13 h =>
 runD (aW t12 1) h fun t14 h =>
 cS bA h fun t6 h =>
 runH (aR bA h t6 t13) h fun _ h =>
 runD (binD cN .neq t14 (.int .i64 0)) h fun t16 h =>
 aL (fun (J1 : AV → AV → List AObj → Prop) =>
 bF t16 false
 (runD (binD aB .geq t1 (.int .i64 256)) h fun t19 h =>
 J1 (.bool false) t19 h)
 (J1 (.bool true) .und h))
 (fun t17 t19 h => runD (bT t17 (.bool true) t19) h fun t20 h =>
 bE t20
 (runD (gY bY []) h fun t21 h =>
 runH (aR bY h t4 t21) h fun _ h =>
 dA (fitD bY (aD h t4)) fun r0 => K (.ret (.tup [r0, (.int .i64 90)])) h)
 (runD (aC bA t6 1) h fun t23 h =>
 runD (fitD aB (aD h t23)) h fun t24 h =>
 runD (gY bY [(0, t1), (1, t24)]) h fun t25 h =>
 cS bY h fun t8 h =>
 runH (aR bY h t8 t25) h fun _ h =>
 runD (fitD bY (aD h t8)) h fun t26 h =>
 aP false c (.fn (.func 67) [] []) [t26] h (fun t27 h =>
 aL (fun (J2 : List AObj → Prop) =>
 bE t27
 (runD (aC bY t8 2) h fun t28 h =>
 runH (aR aB h t28 (.int .i64 12)) h fun _ h =>
 J2 h)
 (J2 h))
 (fun h => runD (fitD bY (aD h t8)) h fun t29 h =>
 runH (aR bY h t4 t29) h fun _ h =>
 dA (fitD bY (aD h t4)) fun r0 => K (.ret (.tup [r0, (.int .i64 0)])) h))
 (fun v h => K (.pan v) h))))
 (fun v h => K (.pan v) h)
def gR.loops : Nat → bU
 | 2 => ⟨[], [], [], [(4, none), (3, some [12, 15]), (2, none), (6, some [17, 23])], [], []⟩
 | 4 => ⟨[], [], [], [(3, none), (2, some [33, 35])], [], []⟩
 | _ => ⟨[], [], [], [], [], []⟩
def gR.H (c : Ctx) (t0 : AV) (t1 : AV) (h : List AObj) (K : AOut → List AObj → Prop) : Prop :=
 boxW bY t1 h fun t3 h =>
 cS bY h fun t4 h =>
 runD (aC bY t3 0) h fun t9 h =>
 runD (fitD aB (aD h t9)) h fun t10 h =>
 runD (binD aB .geq t10 (.int .i64 0)) h fun t11 h =>
 aL (fun (J1 : AV → AV → List AObj → Prop) =>
 bF t11 true
 (runD (aC bY t3 0) h fun t13 h =>
 runD (fitD aB (aD h t13)) h fun t14 h =>
 runD (binD aB .lss t14 (.int .i64 256)) h fun t15 h =>
 J1 (.bool true) t15 h)
 (J1 (.bool false) .und h))
 (fun t12 t15 h => runD (bT t12 t15 (.bool false)) h fun t16 h =>
 aL (fun (J2 : AV → AV → List AObj → Prop) =>
 bF t16 true
 (runD (aC bY t3 0) h fun t18 h =>
 runD (fitD aB (aD h t18)) h fun t19 h =>
 runD (lenD aK h t0) h fun t21 h =>
 runD (binD aB .quo t21 (.int .i64 16)) h fun t22 h =>
 runD (binD aB .lss t19 t22) h fun t23 h =>
 J2 (.bool true) t23 h)
 (J2 (.bool false) .und h))
 (fun t17 t23 h => runD (bT t17 t23 (.bool false)) h fun t24 h =>
 aL (fun (J3 : AV → List AObj → Prop) =>
 bE t24
 (runD (aC bY t3 0) h fun t25 h =>
 runD (fitD aB (aD h t25)) h fun t26 h =>
 runD (binD aB .mul (.int .i64 16) t26) h fun t27 h =>
 runD (aC bY t3 2) h fun t28 h =>
 runD (fitD aB (aD h t28)) h fun t29 h =>
 aP false c (.fn (.func 68) [] []) [t27, t29] h (fun t30 h =>
 J3 t30 h)
 (fun v h => K (.pan v) h))
 (J3 (.int .i64 (-1)) h))
 (fun t5 h => runD (aC bY t3 4) h fun t31 h =>
 runD (fitD lB (aD h t31)) h fun t32 h =>
 aL (fun (J4 : AV → AV → List AObj → Prop) =>
 bF t32 false
 (runD (binD aB .lss t5 (.int .i64 0)) h fun t35 h =>
 J4 (.bool false) t35 h)
 (J4 (.bool true) .und h))
 (fun t33 t35 h => runD (bT t33 (.bool true) t35) h fun t36 h =>
 bE t36
 (runD (fitD bY (aD h t3)) h fun t37 h =>
 runH (aR bY h t4 t37) h fun _ h =>
 dA (fitD bY (aD h t4)) fun r0 => K (.ret r0) h)
 (runD (fitD bY (aD h t3)) h fun t38 h =>
 runD (aG aK h t0 t5) h fun t41 h =>
 runD (fitD aB (aD h t41)) h fun t42 h =>
 runD (gY fE [(0, t38), (1, t42)]) h fun t43 h =>
 boxW fE t43 h fun t44 h =>
 runD (aC bY t3 3) h fun t46 h =>
 runD (fitD aK (aD h t46)) h fun t47 h =>
 aP false c (.fn (.func 34) [] []) [t47] h (fun t48 h =>
 runD (bL t44) h fun t49 h =>
 runD (aC fE t49 0) h fun t50 h =>
 runD (aC bY t50 3) h fun t51 h =>
 runH (aR aK h t51 t48) h fun _ h =>
 runD (aC bY t3 3) h fun t52 h =>
 runD (fitD aK (aD h t52)) h fun t53 h =>
 runD (lenD aK h t53) h fun t54 h =>
 runD (bL t44) h fun t56 h =>
 runD (aC fE t56 1) h fun t57 h =>
 runD (fitD aB (aD h t57)) h fun t58 h =>
 runD (binD aB .gtr t58 (.int .i64 0)) h fun t59 h =>
 aL (fun (J5 : AV → AV → List AObj → Prop) =>
 bF t59 true
 (runD (binD aB .eql t54 (.int .i64 0)) h fun t62 h =>
 aL (fun (J6 : AV → AV → List AObj → Prop) =>
 bF t62 false
 (runD (aC bY t3 3) h fun t64 h =>
 runD (fitD aK (aD h t64)) h fun t65 h =>
 runD (binD aB .sub t54 (.int .i64 1)) h fun t67 h =>
 runD (aG aK h t65 t67) h fun t68 h =>
 runD (fitD aB (aD h t68)) h fun t69 h =>
 runD (bL t44) h fun t71 h =>
 runD (aC fE t71 1) h fun t72 h =>
 runD (fitD aB (aD h t72)) h fun t73 h =>
 runD (binD aB .neq t69 t73) h fun t74 h =>
 J6 (.bool false) t74 h)
 (J6 (.bool true) .und h))
 (fun t63 t74 h => runD (bT t63 (.bool true) t74) h fun t75 h =>
 J5 (.bool true) t75 h))
 (J5 (.bool false) .und h))
 (fun t60 t75 h => runD (bT t60 t75 (.bool false)) h fun t76 h =>
 aL (fun (J7 : List AObj → Prop) =>
 bE t76
 (runD (bL t44) h fun t79 h =>
 runD (aC fE t79 0) h fun t80 h =>
 runD (aC bY t80 3) h fun t81 h =>
 runD (fitD aK (aD h t81)) h fun t82 h =>
 runD (bL t44) h fun t84 h =>
 runD (aC fE t84 1) h fun t85 h =>
 runD (fitD aB (aD h t85)) h fun t86 h =>
 runD (gC aK 1 [(0, t86)] h.length) h fun t87 h =>
 kC (gS aK h t82 t87 h.length) (iC aK h t82 t87) h fun t88 h =>
 runD (bL t44) h fun t89 h =>
 runD (aC fE t89 0) h fun t90 h =>
 runD (aC bY t90 3) h fun t91 h =>
 runH (aR aK h t91 t88) h fun _ h =>
 J7 h)
 (J7 h))
 (fun h => runD (fitD bY (aD h t3)) h fun t94 h =>
 aP false c (.fn (.func 67) [] []) [t94] h (fun t95 h =>
 aL (fun (J8 : AV → List AObj → Prop) =>
 bE t95
 (J8 (.fn (.func 70) [t44] []) h)
 (J8 (.fn (.func 69) [t44] []) h))
 (fun t8 h => aP false c t8 [] h (fun t99 h =>
 runD (bL t44) h fun t101 h =>
 runD (aC fE t101 0) h fun t102 h =>
 runD (fitD bY (aD h t102)) h fun t103 h =>
 runH (aR bY h t4 t103) h fun _ h =>
 dA (fitD bY (aD h t4)) fun r0 => K (.ret r0) h)
 (fun v h => K (.pan v) h)))
 (fun v h => K (.pan v) h))))
 (fun v h => K (.pan v) h))))))
def eT.loops : Nat → bU
 | _ => ⟨[], [], [], [], [], []⟩
def eT.H (c : Ctx) (t0 : AV) (h : List AObj) (K : AOut → List AObj → Prop) : Prop :=
 boxW bY t0 h fun t1 h =>
 runD (aC bY t1 1) h fun t3 h =>
 runD (fitD aB (aD h t3)) h fun t4 h =>
 runD (binD aB .and t4 (.int .i64 1)) h fun t5 h =>
 runD (binD aB .eql t5 (.int .i64 1)) h fun t6 h =>
 K (.ret t6) h
def dK.loops : Nat → bU
 | 0 => ⟨[], [], [], [(7, none), (6, some [8, 14])], [], []⟩
 | _ => ⟨[], [], [], [], [], []⟩
def dK.H (c : Ctx) (t0 : AV) (h : List AObj) (K : AOut → List AObj → Prop) : Prop :=
 runD (bL t0) h fun t4 h =>
 runD (aC fE t4 1) h fun t5 h =>
 runD (fitD aB (aD h t5)) h fun t6 h =>
 runD (binD aB .lss t6 (.int .i64 1)) h fun t7 h =>
 aL (fun (J1 : AV → AV → List AObj → Prop) =>
 bF t7 false
 (runD (bL t0) h fun t10 h =>
 runD (aC fE t10 0) h fun t11 h =>
 runD (aC bY t11 2) h fun t12 h =>
 runD (fitD aB (aD h t12)) h fun t13 h =>
 runD (binD aB .eql t13 (.int .i64 12)) h fun t14 h =>
 J1 (.bool false) t14 h)
 (J1 (.bool true) .und h))
 (fun t8 t14 h => runD (bT t8 (.bool true) t14) h fun t15 h =>
 runD (bL t0) h fun t16 h =>
 runD (aC fE t16 0) h fun t17 h =>
 runD (aC bY t17 4) h fun t18 h =>
 runH (aR lB h t18 t15) h fun _ h =>
 runD (bL t0) h fun t20 h =>
 runD (aC fE t20 0) h fun t21 h =>
 runD (aC bY t21 4) h fun t22 h =>
 runD (fitD lB (aD h t22)) h fun t23 h =>
 runD (unD .not t23) h fun t24 h =>
 aL (fun (J2 : List AObj → Prop) =>
 bE t24
 (runD (bL t0) h fun t26 h =>
 runD (aC fE t26 0) h fun t27 h =>
 runD (aC bY t27 2) h fun t28 h =>
 runD (fitD aB (aD h t28)) h fun t29 h =>
 runD (binD aB .add t29 (.int .i64 1)) h fun t30 h =>
 runD (bL t0) h fun t31 h =>
 runD (aC fE t31 0) h fun t32 h =>
 runD (aC bY t32 2) h fun t33 h =>
 runH (aR aB h t33 t30) h fun _ h =>
 J2 h)
 (J2 h))
 (fun h => K (.ret (.tup [])) h))
def cV.loops : Nat → bU
 | _ => ⟨[], [], [], [], [], []⟩
def cV.H (c : Ctx) (t0 : AV) (h : List AObj) (K : AOut → List AObj → Prop) : Prop :=
 runD (bL t0) h fun t4 h =>
 runD (aC fE t4 0) h fun t5 h =>
 runD (aC bY t5 2) h fun t6 h =>
 runD (fitD aB (aD h t6)) h fun t7 h =>
 runD (binD aB .eql t7 (.int .i64 0)) h fun t8 h =>
 runD (bL t0) h fun t9 h =>
 runD (aC fE t9 0) h fun t10 h =>
 runD (aC bY t10 4) h fun t11 h =>
 runH (aR lB h t11 t8) h fun _ h =>
 runD (bL t0) h fun t13 h =>
 runD (aC fE t13 0) h fun t14 h =>
 runD (aC bY t14 4) h fun t15 h =>
 runD (fitD lB (aD h t15)) h fun t16 h =>
 runD (unD .not t16) h fun t17 h =>
 aL (fun (J1 : List AObj → Prop) =>
 bE t17
 (runD (bL t0) h fun t19 h =>
 runD (aC fE t19 0) h fun t20 h =>
 runD (aC bY t20 2) h fun t21 h =>
 runD (fitD aB (aD h t21)) h fun t22 h =>
 runD (binD aB .sub t22 (.int .i64 1)) h fun t23 h =>
 runD (bL t0) h fun t24 h =>
 runD (aC fE t24 0) h fun t25 h =>
 runD (aC bY t25 2) h fun t26 h =>
 runH (aR aB h t26 t23) h fun _ h =>
 J1 h)
 (J1 h))
 (fun h => K (.ret (.tup [])) h)
def fZ.loops : Nat → bU
 | 2 => ⟨[], [], [], [(3, none), (5, some [16, 21])], [], []⟩
 | _ => ⟨[], [], [], [], [], []⟩
def fZ.H (c : Ctx) (t0 : AV) (t1 : AV) (h : List AObj) (K : AOut → List AObj → Prop) : Prop :=
 boxW bY t1 h fun t3 h =>
 runD (aC bY t3 0) h fun t9 h =>
 runD (fitD aB (aD h t9)) h fun t10 h =>
 aP false c (.fn (.func 46) [] []) [t0, t10] h (fun t11 h =>
 runD (aW t11 0) h fun t12 h =>
 runD (aW t11 1) h fun t13 h =>
 cS bA h fun t5 h =>
 runH (aR bA h t5 t12) h fun _ h =>
 runD (binD cN .eql t13 (.int .i64 0)) h fun t15 h =>
 aL (fun (J1 : AV → AV → List AObj → Prop) =>
 bF t15 true
 (runD (aC bA t5 1) h fun t17 h =>
 runD (fitD aB (aD h t17)) h fun t18 h =>
 runD (aC bY t3 1) h fun t19 h =>
 runD (fitD aB (aD h t19)) h fun t20 h =>
 runD (binD aB .eql t18 t20) h fun t21 h =>
 J1 (.bool true) t21 h)
 (J1 (.bool false) .und h))
 (fun t16 t21 h => runD (bT t16 t21 (.bool false)) h fun t22 h =>
 K (.ret t22) h))
 (fun v h => K (.pan v) h)
def gB.loops : Nat → bU
 | 3 => ⟨[4, 14], [true, false], [0, 5, 12, 13], [], [], []⟩
 | 6 => ⟨[], [], [], [(3, none), (5, some [26, 31])], [], []⟩
 | _ => ⟨[], [], [], [], [], []⟩
def gB.L1 (c : Ctx) (J1 : AV → List AObj → Prop) (K : AOut → List AObj → Prop) (lv : List AV) (h0 : List AObj) (n0 : Nat) (c0 : AV) (c5 : AV) (c12 : AV) (c13 : AV) : Prop :=
 ∃ I : Nat → List AV → List AObj → Prop, (∃ n, I n lv h0) ∧ ∀ n h, ∀ t4, ∀ t14, I n [t4, t14] h →
 runD (binD aB .lss t14 c13) h fun t15 h =>
 bE t15
 (runD (aG aK h c12 t14) h fun t16 h =>
 runD (fitD aB (aD h t16)) h fun t17 h =>
 aP false c (.fn (.func 79) [] []) [c0, t17] h (fun t21 h =>
 runD (aW t21 0) h fun t22 h =>
 runD (aW t21 1) h fun t23 h =>
 cS aJ h fun t8 h =>
 runH (aR aJ h t8 t22) h fun _ h =>
 runD (binD cN .eql t23 (.int .i64 0)) h fun t25 h =>
 aL (fun (J2 : AV → AV → List AObj → Prop) =>
 bF t25 true
 (runD (aC aJ t8 1) h fun t28 h =>
 runD (fitD cE (aD h t28)) h fun t29 h =>
 runD (lW lN h c5 t29) h fun t30 h =>
 runD (unD .not t30) h fun t31 h =>
 J2 (.bool true) t31 h)
 (J2 (.bool false) .und h))
 (fun t26 t31 h => runD (bT t26 t31 (.bool false)) h fun t32 h =>
 aL (fun (J3 : AV → List AObj → Prop) =>
 bE t32
 (runD (aC aJ t8 1) h fun t34 h =>
 runD (fitD cE (aD h t34)) h fun t35 h =>
 runH (jQ lN h c5 t35 (.bool true)) h fun _ h =>
 runD (fitD aJ (aD h t8)) h fun t37 h =>
 runD (gC aS 1 [(0, t37)] h.length) h fun t38 h =>
 kC (gS aS h t4 t38 h.length) (iC aS h t4 t38) h fun t39 h =>
 J3 t39 h)
 (J3 t4 h))
 (fun t4 h => runD (binD aB .add t14 (.int .i64 1)) h fun t40 h =>
 (∃ m, m < n ∧ I m (AV.norms n0 h [t4, t40]) (cJ n0 h)) ∧ AV.norms n0 h [c0, c5, c12, c13] = [c0, c5, c12, c13])))
 (fun v h => K (.pan v) h))
 (J1 t4 h)
def gB.H (c : Ctx) (t0 : AV) (t1 : AV) (h : List AObj) (K : AOut → List AObj → Prop) : Prop :=
 boxW bY t1 h fun t3 h =>
 runD (kR lN h.length) h fun t10 h =>
 runD (aC bY t3 3) h fun t11 h =>
 runD (fitD aK (aD h t11)) h fun t12 h =>
 runD (lenD aK h t12) h fun t13 h =>
 aL (fun (J1 : AV → List AObj → Prop) =>
 dM [true, false] [(.sl true (.recs [])), (.int .i64 0)] h fun lv h => gB.L1 c J1 K (AV.norms h.length h lv) (cJ h.length h) h.length (AV.norm h.length h t0) (AV.norm h.length h t10) (AV.norm h.length h t12) (AV.norm h.length h t13))
 (fun t4 h => aP false c (.fn (.func 108) [] []) [t4, (.fn (.func 109) [] [])] h (fun t42 h =>
 K (.ret t4) h)
 (fun v h => K (.pan v) h))
def bX.loops : Nat → bU
 | _ => ⟨[], [], [], [], [], []⟩
def bX.H (c : Ctx) (t0 : AV) (t1 : AV) (h : List AObj) (K : AOut → List AObj → Prop) : Prop :=
 boxW aJ t0 h fun t2 h =>
 boxW aJ t1 h fun t3 h =>
 runD (aC aJ t2 1) h fun t5 h =>
 runD (fitD cE (aD h t5)) h fun t6 h =>
 runD (aC aJ t3 1) h fun t7 h =>
 runD (fitD cE (aD h t7)) h fun t8 h =>
 aP false c (.fn (.func 110) [] []) [t6, t8] h (fun t9 h =>
 K (.ret t9) h)
 (fun v h => K (.pan v) h)
theorem fY.eq (F : List (FuncId × aE)) (S : List (FuncId × Con)) (t0 t1 : AV) (h : List AObj) (K : AOut → List AObj → Prop) : funW (ctx F S fY.loops) Tryz.f40 [t0, t1] h K = fY.H (ctx F S fY.loops) t0 t1 h K := by kernel_rfl
theorem gR.eq (F : List (FuncId × aE)) (S : List (FuncId × Con)) (t0 t1 : AV) (h : List AObj) (K : AOut → List AObj → Prop) : funW (ctx F S gR.loops) Tryz.f41 [t0, t1] h K = gR.H (ctx F S gR.loops) t0 t1 h K := by kernel_rfl
theorem eT.eq (F : List (FuncId × aE)) (S : List (FuncId × Con)) (t0 : AV) (h : List AObj) (K : AOut → List AObj → Prop) : funW (ctx F S eT.loops) Tryz.f67 [t0] h K = eT.H (ctx F S eT.loops) t0 h K := by kernel_rfl
theorem dK.eq (F : List (FuncId × aE)) (S : List (FuncId × Con)) (t0 : AV) (h : List AObj) (K : AOut → List AObj → Prop) : funW (ctx F S dK.loops) Tryz.f69 [t0] h K = dK.H (ctx F S dK.loops) t0 h K := by kernel_rfl
theorem cV.eq (F : List (FuncId × aE)) (S : List (FuncId × Con)) (t0 : AV) (h : List AObj) (K : AOut → List AObj → Prop) : funW (ctx F S cV.loops) Tryz.f70 [t0] h K = cV.H (ctx F S cV.loops) t0 h K := by kernel_rfl
theorem fZ.eq (F : List (FuncId × aE)) (S : List (FuncId × Con)) (t0 t1 : AV) (h : List AObj) (K : AOut → List AObj → Prop) : funW (ctx F S fZ.loops) Tryz.f71 [t0, t1] h K = fZ.H (ctx F S fZ.loops) t0 t1 h K := by kernel_rfl
theorem gB.eq (F : List (FuncId × aE)) (S : List (FuncId × Con)) (t0 t1 : AV) (h : List AObj) (K : AOut → List AObj → Prop) : funW (ctx F S gB.loops) Tryz.f89 [t0, t1] h K = gB.H (ctx F S gB.loops) t0 t1 h K := by kernel_rfl
theorem bX.eq (F : List (FuncId × aE)) (S : List (FuncId × Con)) (t0 t1 : AV) (h : List AObj) (K : AOut → List AObj → Prop) : funW (ctx F S bX.loops) Tryz.f109 [t0, t1] h K = bX.H (ctx F S bX.loops) t0 t1 h K := by kernel_rfl
theorem fY.at : Tryz.prog.funcs[40]? = some Tryz.f40 := by kernel_rfl
theorem fY.nm : (Tryz.f40.name == "runtime.NumGoroutine") = false := by kernel_rfl
theorem fY.bd : Tryz.f40.body.isNone = false := by kernel_rfl
theorem gR.at : Tryz.prog.funcs[41]? = some Tryz.f41 := by kernel_rfl
theorem gR.nm : (Tryz.f41.name == "runtime.NumGoroutine") = false := by kernel_rfl
theorem gR.bd : Tryz.f41.body.isNone = false := by kernel_rfl
theorem eT.at : Tryz.prog.funcs[67]? = some Tryz.f67 := by kernel_rfl
theorem eT.nm : (Tryz.f67.name == "runtime.NumGoroutine") = false := by kernel_rfl
theorem eT.bd : Tryz.f67.body.isNone = false := by kernel_rfl
theorem dK.at : Tryz.prog.funcs[69]? = some Tryz.f69 := by kernel_rfl
theorem dK.nm : (Tryz.f69.name == "runtime.NumGoroutine") = false := by kernel_rfl
theorem dK.bd : Tryz.f69.body.isNone = false := by kernel_rfl
theorem cV.at : Tryz.prog.funcs[70]? = some Tryz.f70 := by kernel_rfl
theorem cV.nm : (Tryz.f70.name == "runtime.NumGoroutine") = false := by kernel_rfl
theorem cV.bd : Tryz.f70.body.isNone = false := by kernel_rfl
theorem fZ.at : Tryz.prog.funcs[71]? = some Tryz.f71 := by kernel_rfl
theorem fZ.nm : (Tryz.f71.name == "runtime.NumGoroutine") = false := by kernel_rfl
theorem fZ.bd : Tryz.f71.body.isNone = false := by kernel_rfl
theorem gB.at : Tryz.prog.funcs[89]? = some Tryz.f89 := by kernel_rfl
theorem gB.nm : (Tryz.f89.name == "runtime.NumGoroutine") = false := by kernel_rfl
theorem gB.bd : Tryz.f89.body.isNone = false := by kernel_rfl
theorem bX.at : Tryz.prog.funcs[109]? = some Tryz.f109 := by kernel_rfl
theorem bX.nm : (Tryz.f109.name == "runtime.NumGoroutine") = false := by kernel_rfl
theorem bX.bd : Tryz.f109.body.isNone = false := by kernel_rfl
end Lam
namespace Lam
open Go Go.Proofs
def cmpI (a b : bD) : Int := if ltB a b = true then -1 else if ltB b a = true then 1 else 0
theorem jI {a b : bD} : (cmpI a b < 0) ↔ ltB a b = true := by
  unfold cmpI
  split
  · rename_i h; simp [h]
  · rename_i h
    split
    · simp [h]
    · simp [h]
def dN.C : aE
  | [.str _] => some (false, pD True (.bool false))
  | _ => none
theorem dN.spec : bN Tryz.prog 121 dN.C := by
  refine bN.of (bQ (F := []) (S := []) (by simp) (by simp) dN.loops) dN.at dN.nm dN.bd ?_
  intro vs b S v news e hS
  unfold dN.C at e
  split at e
  rotate_left
  · cases e
  cases e
  rw [dN.eq]
  unfold dN.H
  simp (maxSteps := 4000000) only [go_sem, reduceEqDiff, Nat.reduceLT, reduceAdd, reduceSub, reduceLeDiff, reduceReplicate, reduceToNat]
  exact aH rfl rfl
def cX.C : aE
  | [.str a, .str b] => some (false, pD True (.int .i64 (cmpI a b)))
  | _ => none
theorem cX.spec : bN Tryz.prog 110 cX.C := by
  refine bN.of (bQ (F := [(121, dN.C)]) (S := []) (by simpa using dN.spec) (by simp) cX.loops) cX.at cX.nm cX.bd ?_
  intro vs b S v news e hS
  unfold cX.C at e
  split at e
  rotate_left
  · cases e
  cases e
  rw [cX.eq]
  unfold cX.H
  simp (maxSteps := 4000000) only [go_sem, reduceEqDiff, Nat.reduceLT, reduceAdd, reduceSub, reduceLeDiff, reduceReplicate, reduceToNat, dN.C]
  rename_i a b
  unfold cmpI
  refine ⟨fun h => ?_, fun h => ⟨fun h2 => ?_, fun h2 => ?_⟩⟩
  · rw [h]; exact aH rfl rfl
  · rw [h, h2]; exact aH rfl rfl
  · rw [h, h2]; exact aH rfl rfl
def bX.C : aE
  | [.agg [.int .i64 a, .str b, .str c, .int .i64 d], .agg [.int .i64 e, .str f, .str g, .int .i64 i]] => some (false, pD True (.int .i64 (cmpI b f)))
  | _ => none
theorem bX.spec : bN Tryz.prog 109 bX.C := by
  refine bN.of (bQ (F := [(110, cX.C)]) (S := []) (by simpa using cX.spec) (by simp) bX.loops) bX.at bX.nm bX.bd ?_
  intro vs b S v news e hS
  unfold bX.C at e
  split at e
  rotate_left
  · cases e
  cases e
  rw [bX.eq]
  unfold bX.H
  simp (maxSteps := 4000000) only [go_sem, reduceEqDiff, Nat.reduceLT, reduceAdd, reduceSub, reduceLeDiff, reduceReplicate, reduceToNat, cX.C]
  exact aH rfl rfl
structure SkT where
  block : Int
  turn : Int
  at_ : Int
  refs : List Int
  over : Bool
def SkT.V (s : SkT) : AV := .agg [.int .i64 s.block, .int .i64 s.turn, .int .i64 s.at_, .sl false (.ints .i64 s.refs), .bool s.over]
theorem SkT.norm (s : SkT) (n : Nat) (h : List AObj) : AV.norm n h s.V = s.V := by simp only [SkT.V, go_sem, reduceEqDiff, Nat.reduceLT, reduceAdd, reduceSub, reduceLeDiff, reduceReplicate, reduceToNat]
def hpS (A : SkT) (m : bD → Bool) (v : Nat) (l : List RecT) (T : List AObj) : List AObj := .box A.V :: .map (.sb m) :: .row .own v (.recs l) :: T
def OkT (T : List AObj) : Prop := ∀ k h, T.map (rI k h) = T
theorem OkT.nil : OkT [] := fun _ _ => rfl
theorem OkT.snoc {T : List AObj} (h : OkT T) (k : IntKind) (n : Int) : OkT (T ++ [.box (.int k n)]) := fun i g => by
  rw [List.map_append, h i g]; rfl
theorem qV (T : List AObj) (y : AObj) : (T ++ [y])[T.length]? = some y := by simp
theorem zA : ∀ (T : List AObj) (y z : AObj), (T ++ [y]).set T.length z = T ++ [z]
  | [], _, _ => rfl
  | a :: T, y, z => congrArg (a :: ·) (zA T y z)
abbrev hitF : AV := .fn (.func 109) [] []
theorem iW : (⟨0, [], [], 0⟩ : RecT) = d0 := rfl
theorem jR (l : List RecT) (i : Nat) : (⟨(l.getD i d0).kind, kyL l i, (l.getD i d0).val, (l.getD i d0).child⟩ : RecT) = l.getD i d0 := rfl
theorem iO (l : List RecT) (i : Nat) : (l.getD i d0).key = kyL l i := rfl
theorem iQ (l : List RecT) (i j : Nat) : (l.set i (l.getD j d0)).set j (l.getD i d0) = gX l i j := rfl
def bR.K : Con := fun args h K => match args with
  | [a0, a1, a2, a3, a4] => bR.H (ctx [(109, bX.C)] [] bR.loops) a0 a1 a2 a3 a4 h K
  | _ => False
theorem bR.spec : cP Tryz.prog 151 bR.K := by
  refine cP.of (bQ (F := [(109, bX.C)]) (S := []) (by simpa using bX.spec) (by simp) bR.loops) bR.at bR.nm bR.bd ?_
  intro args h K hC
  unfold bR.K at hC
  split at hC
  · rw [bR.eq]; exact hC
  · exact hC.elim
theorem aCg (A : SkT) (m : bD → Bool) (v : Nat) (l : List RecT) (T : List AObj) (hT : OkT T) (s : Nat) (n a b : Nat) (hs : s < 100000) (hn : n = l.length) (ha : a < n) (hb : b < n) (hr : roomy n) (K : AOut → List AObj → Prop)
    (hK : ∀ (a' b' : Nat) (s' : Nat), a' < n → b' < n → (s' = s ∨ s' = s + 1) → (a' = a ∨ a' = b) → (b' = a ∨ b' = b) → K (.ret (.tup [.int .i64 a', .int .i64 b'])) (hpS A m v l (T ++ [.box (.int .i64 (s' : Int))]))) :
    bR.K [.sref false 2 v 0 n, .int .i64 a, .int .i64 b, .ptr (T.length + 1 + 1 + 1) [], hitF] (hpS A m v l (T ++ [.box (.int .i64 (s : Int))])) K := by
  unfold bR.K bR.H hpS
  simp only [qV, zA, List.map_cons, List.map_nil, bX.C, iW, iO, jI, aA, gq, reduceEq, reduceLT, reduceLE, implies_true, reduceCtorEq, if_true, if_false, go_sem, reduceEqDiff, Nat.reduceLT, reduceAdd, reduceSub, reduceLeDiff, reduceReplicate, reduceToNat]
  refine ⟨⟨by omega, by omega⟩, by omega, ⟨by omega, by omega⟩, by omega, fun h => ?_, fun h => ?_⟩
  · rw [eS (by omega)]
    exact hK b a (s + 1) hb ha (.inr rfl) (.inr rfl) (.inl rfl)
  · exact hK a b s ha hb (.inl rfl) (.inl rfl) (.inr rfl)
def bM.K : Con := fun args h K => match args with
  | [a0, a1, a2, a3, a4, a5] => bM.H (ctx [(109, bX.C)] [(151, bR.K)] bM.loops) a0 a1 a2 a3 a4 a5 h K
  | _ => False
theorem bM.spec : cP Tryz.prog 146 bM.K := by
  refine cP.of (bQ (F := [(109, bX.C)]) (S := [(151, bR.K)]) (by simpa using bX.spec) (by simpa using bR.spec) bM.loops) bM.at bM.nm bM.bd ?_
  intro args h K hC
  unfold bM.K at hC
  split at hC
  · rw [bM.eq]; exact hC
  · exact hC.elim
theorem aCh (A : SkT) (m : bD → Bool) (v : Nat) (l : List RecT) (T : List AObj) (hT : OkT T) (s : Nat) (n a b d : Nat) (hs : s < 90000) (hn : n = l.length) (ha : a < n) (hb : b < n) (hd : d < n) (hr : roomy n) (K : AOut → List AObj → Prop)
    (hK : ∀ (a' : Nat) (s' : Nat), (a' = a ∨ a' = b ∨ a' = d) → s' ≤ s + 3 → K (.ret (.int .i64 a')) (hpS A m v l (T ++ [.box (.int .i64 (s' : Int))]))) :
    bM.K [.sref false 2 v 0 n, .int .i64 a, .int .i64 b, .int .i64 d, .ptr (T.length + 1 + 1 + 1) [], hitF] (hpS A m v l (T ++ [.box (.int .i64 (s : Int))])) K := by
  unfold bM.K bM.H
  simp only [hpS, List.map_cons, List.map_nil, aA, gq, reduceEq, reduceLT, reduceLE, implies_true, reduceCtorEq, if_true, if_false, go_sem, reduceEqDiff, Nat.reduceLT, reduceAdd, reduceSub, reduceLeDiff, reduceReplicate, reduceToNat]
  refine aCg A m v l T hT s n a b (by omega) hn ha hb hr _ fun a1 b1 s1 h1 h2 h3 h4 h5 => ?_
  simp only [hpS, List.map_cons, List.map_nil, aA, gq, reduceEq, reduceLT, reduceLE, implies_true, reduceCtorEq, if_true, if_false, go_sem, reduceEqDiff, Nat.reduceLT, reduceAdd, reduceSub, reduceLeDiff, reduceReplicate, reduceToNat]
  refine aCg A m v l T hT s1 n b1 d (by omega) hn h2 hd hr _ fun b2 d2 s2 g1 g2 g3 g4 g5 => ?_
  simp only [hpS, List.map_cons, List.map_nil, aA, gq, reduceEq, reduceLT, reduceLE, implies_true, reduceCtorEq, if_true, if_false, go_sem, reduceEqDiff, Nat.reduceLT, reduceAdd, reduceSub, reduceLeDiff, reduceReplicate, reduceToNat]
  refine aCg A m v l T hT s2 n a1 b2 (by omega) hn h1 g1 hr _ fun a3 b3 s3 k1 k2 k3 k4 k5 => ?_
  simp only [hpS, List.map_cons, List.map_nil, aA, gq, reduceEq, reduceLT, reduceLE, implies_true, reduceCtorEq, if_true, if_false, go_sem, reduceEqDiff, Nat.reduceLT, reduceAdd, reduceSub, reduceLeDiff, reduceReplicate, reduceToNat]
  exact hK b3 s3 (by omega) (by omega)
def aZ.K : Con := fun args h K => match args with
  | [a0, a1, a2, a3] => aZ.H (ctx [] [(146, bM.K)] aZ.loops) a0 a1 a2 a3 h K
  | _ => False
theorem aZ.spec : cP Tryz.prog 145 aZ.K := by
  refine cP.of (bQ (F := []) (S := [(146, bM.K)]) (by simp) (by simpa using bM.spec) aZ.loops) aZ.at aZ.nm aZ.bd ?_
  intro args h K hC
  unfold aZ.K at hC
  split at hC
  · rw [aZ.eq]; exact hC
  · exact hC.elim
theorem zB (A : SkT) (m : bD → Bool) (v : Nat) (l : List RecT) (T : List AObj) (hT : OkT T) (s : Nat) (n a : Nat) (hs : s < 80000) (hn : n = l.length) (ha : 0 < a) (ha2 : a + 1 < n) (hr : roomy n) (K : AOut → List AObj → Prop)
    (hK : ∀ (a' : Nat) (s' : Nat), a ≤ a' + 1 → a' ≤ a + 1 → s' ≤ s + 3 → K (.ret (.int .i64 a')) (hpS A m v l (T ++ [.box (.int .i64 (s' : Int))]))) :
    aZ.K [.sref false 2 v 0 n, .int .i64 a, .ptr (T.length + 1 + 1 + 1) [], hitF] (hpS A m v l (T ++ [.box (.int .i64 (s : Int))])) K := by
  have hr' := hr
  unfold roomy at hr'
  have e1 : IntKind.i64.wrap ((a : Int) - 1) = ((a - 1 : Nat) : Int) := by rw [w64 (by omega) (by omega)]; omega
  unfold aZ.K aZ.H
  simp only [hpS, List.map_cons, List.map_nil, e1, eS (show a < 4611686018427387904 by omega), aA, gq, reduceEq, reduceLT, reduceLE, implies_true, reduceCtorEq, if_true, if_false, go_sem, reduceEqDiff, Nat.reduceLT, reduceAdd, reduceSub, reduceLeDiff, reduceReplicate, reduceToNat]
  refine aCh A m v l T hT s n _ _ _ (by omega) hn (by omega) (by omega) (by omega) hr _ fun a1 s1 h1 h2 => ?_
  simp only [hpS, List.map_cons, List.map_nil, aA, gq, reduceEq, reduceLT, reduceLE, implies_true, reduceCtorEq, if_true, if_false, go_sem, reduceEqDiff, Nat.reduceLT, reduceAdd, reduceSub, reduceLeDiff, reduceReplicate, reduceToNat]
  exact hK a1 s1 (by omega) (by omega) h2
def bK.K : Con := fun args h K => match args with
  | [a0, a1, a2, a3] => bK.H (ctx [] [(145, aZ.K), (146, bM.K)] bK.loops) a0 a1 a2 a3 h K
  | _ => False
theorem bK.spec : cP Tryz.prog 129 bK.K := by
  refine cP.of (bQ (F := []) (S := [(145, aZ.K), (146, bM.K)]) (by simp) (by simpa using ⟨aZ.spec, bM.spec⟩) bK.loops) bK.at bK.nm bK.bd ?_
  intro args h K hC
  unfold bK.K at hC
  split at hC
  · rw [bK.eq]; exact hC
  · exact hC.elim
theorem aLR (A : SkT) (m : bD → Bool) (v : Nat) (l : List RecT) (T : List AObj) (hT : OkT T) (n a b : Nat) (hn : n = l.length) (hab : a < b) (hbn : b ≤ n) (hr : roomy n) (K : AOut → List AObj → Prop)
    (hK : ∀ (p : Nat) (e : Nat) (s : Int), a ≤ p → p < b → e ≤ 2 → K (.ret (.tup [.int .i64 p, .int .i64 e])) (hpS A m v l (T ++ [.box (.int .i64 s)]))) :
    bK.K [.sref false 2 v 0 n, .int .i64 a, .int .i64 b, hitF] (hpS A m v l T) K := by
  unfold bK.K bK.H
  have hr' := hr
  unfold roomy at hr'
  have e0 : IntKind.i64.wrap ((b : Int) - a) = ((b - a : Nat) : Int) := by rw [w64 (by omega) (by omega)]; omega
  have e1 : ((b - a : Nat) : Int).tdiv 4 = (((b - a) / 4 : Nat) : Int) := by rw [Int.tdiv_eq_ediv_of_nonneg (by omega)]; omega
  obtain ⟨q, hq⟩ : ∃ q, (b - a) / 4 = q := ⟨_, rfl⟩
  have e2 : IntKind.i64.wrap (q : Int) = q := w64 (by omega) (by omega)
  have e3 : ∀ k : Nat, k ≤ 3 → IntKind.i64.wrap ((a : Int) + IntKind.i64.wrap ((q : Int) * k)) = ((a + q * k : Nat) : Int) := fun k hk => by
    have : q * k ≤ q * 3 := Nat.mul_le_mul_left q hk
    rw [w64 (n := (q : Int) * k) (by rw [← Int.natCast_mul]; omega) (by rw [← Int.natCast_mul]; omega), ← Int.natCast_mul, w64 (by omega) (by omega)]; omega
  have e31 := e3 1 (by decide)
  have e32 := e3 2 (by decide)
  have e33 := e3 3 (by decide)
  simp only [Int.natCast_one, Int.cast_ofNat_Int] at e31 e32 e33
  simp only [hpS, List.map_cons, List.map_nil, List.cons_append, e0, e1, hq, e2, e31, e32, e33, aA, gq, reduceEq, reduceLT, reduceLE, implies_true, reduceCtorEq, if_true, if_false, go_sem, reduceEqDiff, Nat.reduceLT, reduceAdd, reduceSub, reduceLeDiff, reduceReplicate, reduceToNat]
  have hfin : ∀ (p : Nat) (s : Int), a ≤ p → p < b → ((s = 0 → K (.ret (.tup [.int .i64 p, .int .i64 1])) (hpS A m v l (T ++ [.box (.int .i64 s)]))) ∧ (¬ s = 0 → (s = 12 → K (.ret (.tup [.int .i64 p, .int .i64 2])) (hpS A m v l (T ++ [.box (.int .i64 s)]))) ∧ (¬ s = 12 → K (.ret (.tup [.int .i64 p, .int .i64 0])) (hpS A m v l (T ++ [.box (.int .i64 s)]))))) := fun p s h1 h2 => ⟨fun _ => hK p 1 s h1 h2 (by decide), fun _ => ⟨fun _ => hK p 2 s h1 h2 (by decide), fun _ => hK p 0 s h1 h2 (by decide)⟩⟩
  refine ⟨fun h8 => ⟨fun h50 => ?_, fun _ => ?_⟩, fun h8 => ?_⟩
  · refine zB A m v l T hT 0 n _ (by decide) hn (by omega) (by omega) hr _ fun p1 s1 h1 h2 h3 => ?_
    simp only [hpS, aA, gq, reduceEq, reduceLT, reduceLE, implies_true, reduceCtorEq, if_true, if_false, go_sem, reduceEqDiff, Nat.reduceLT, reduceAdd, reduceSub, reduceLeDiff, reduceReplicate, reduceToNat]
    refine zB A m v l T hT s1 n _ (by omega) hn (by omega) (by omega) hr _ fun p2 s2 g1 g2 g3 => ?_
    simp only [hpS, aA, gq, reduceEq, reduceLT, reduceLE, implies_true, reduceCtorEq, if_true, if_false, go_sem, reduceEqDiff, Nat.reduceLT, reduceAdd, reduceSub, reduceLeDiff, reduceReplicate, reduceToNat]
    refine zB A m v l T hT s2 n _ (by omega) hn (by omega) (by omega) hr _ fun p3 s3 k1 k2 k3 => ?_
    simp only [hpS, aA, gq, reduceEq, reduceLT, reduceLE, implies_true, reduceCtorEq, if_true, if_false, go_sem, reduceEqDiff, Nat.reduceLT, reduceAdd, reduceSub, reduceLeDiff, reduceReplicate, reduceToNat]
    refine aCh A m v l T hT s3 n _ _ _ (by omega) hn (by omega) (by omega) (by omega) hr _ fun p s hp hs => ?_
    simp only [hpS, qV, aA, gq, reduceEq, reduceLT, reduceLE, implies_true, reduceCtorEq, if_true, if_false, go_sem, reduceEqDiff, Nat.reduceLT, reduceAdd, reduceSub, reduceLeDiff, reduceReplicate, reduceToNat]
    exact hfin p s (by omega) (by omega)
  · refine aCh A m v l T hT 0 n _ _ _ (by decide) hn (by omega) (by omega) (by omega) hr _ fun p s hp hs => ?_
    simp only [hpS, qV, aA, gq, reduceEq, reduceLT, reduceLE, implies_true, reduceCtorEq, if_true, if_false, go_sem, reduceEqDiff, Nat.reduceLT, reduceAdd, reduceSub, reduceLeDiff, reduceReplicate, reduceToNat]
    exact hfin p s (by omega) (by omega)
  · simp only [hpS, qV, aA, gq, reduceEq, reduceLT, reduceLE, implies_true, reduceCtorEq, if_true, if_false, go_sem, reduceEqDiff, Nat.reduceLT, reduceAdd, reduceSub, reduceLeDiff, reduceReplicate, reduceToNat]
    exact hK (a + q * 2) 1 0 (by omega) (by omega) (by decide)
def aO.K : Con := fun args h K => match args with
  | [a0, a1, a2, a3] => aO.H (ctx [(109, bX.C)] [] aO.loops) a0 a1 a2 a3 h K
  | _ => False
theorem aO.spec : cP Tryz.prog 126 aO.K := by
  refine cP.of (bQ (F := [(109, bX.C)]) (S := []) (by simpa using bX.spec) (by simp) aO.loops) aO.at aO.nm aO.bd ?_
  intro args h K hC
  unfold aO.K at hC
  split at hC
  · rw [aO.eq]; exact hC
  · exact hC.elim
theorem aSl (A : SkT) (m : bD → Bool) (v : Nat) (l : List RecT) (T : List AObj) (hTn : OkT T) (n a b : Nat) (hn : n = l.length) (hab : a ≤ b) (hbn : b ≤ n) (hr : roomy n) (K : AOut → List AObj → Prop)
    (hK : ∀ l', SegP a b l l' → SegS a b l' → K (.ret (.tup [])) (hpS A m v l' T)) :
    aO.K [.sref false 2 v 0 n, .int .i64 a, .int .i64 b, hitF] (hpS A m v l T) K := by
  have hr' := hr
  unfold roomy at hr'
  have h2 : 2 < T.length + 1 + 1 + 1 := by omega
  unfold aO.K aO.H
  simp only [hpS, hTn _ _, SkT.norm, h2, aA, gq, reduceEq, reduceLT, reduceLE, implies_true, reduceCtorEq, if_true, if_false, go_sem, reduceEqDiff, Nat.reduceLT, reduceAdd, reduceSub, reduceLeDiff, reduceReplicate, reduceToNat] at hK ⊢
  rw [eS (by omega)]
  unfold aO.L1
  refine lF (σ := List RecT × Nat) (fun s => .int .i64 s.2) (fun s => .box A.V :: .map (.sb m) :: .row .own v (.recs s.1) :: T) (fun s => n + 1 - s.2) (fun s => a + 1 ≤ s.2 ∧ (s.2 ≤ b ∨ s.2 = a + 1) ∧ SegP a b l s.1 ∧ SegS a s.2 s.1) (l, a + 1) rfl rfl ⟨by simp, by simp, SegP.refl, SegS.one (by simp)⟩ ?_
  rintro I back ⟨l1, i⟩ ⟨hi1, hi2, hp, hs⟩
  simp only at hi1 hi2 hp hs ⊢
  have hl1 := hp.len
  simp only [hTn _ _, SkT.norm, h2, aA, aA, gq, reduceEq, reduceLT, reduceLE, implies_true, reduceCtorEq, if_true, if_false, go_sem, reduceEqDiff, Nat.reduceLT, reduceAdd, reduceSub, reduceLeDiff, reduceReplicate, reduceToNat]
  refine ⟨fun hlt => ?_, fun hge => hK l1 hp fun p q h1 h2 h3 => hs p q h1 h2 (by omega)⟩
  unfold aO.L2
  refine lF (σ := List RecT × Nat) (fun s => .int .i64 s.2) (fun s => .box A.V :: .map (.sb m) :: .row .own v (.recs s.1) :: T) (fun s => s.2) (fun s => a ≤ s.2 ∧ s.2 ≤ i ∧ SegP a b l s.1 ∧ InsS a s.2 (i + 1) s.1) (l1, i) rfl rfl ⟨by simp only; omega, by simp, hp, InsS.begin hs⟩ ?_
  rintro I2 back2 ⟨l2, j⟩ ⟨hj1, hj2, hp2, hs2⟩
  simp only at hj1 hj2 hp2 hs2 ⊢
  have hl2 := hp2.len
  have hnx : SegS a (i + 1) l2 → ∃ m1, m1 < n + 1 - i ∧ I m1 [.int .i64 (IntKind.i64.wrap ((i : Int) + 1))] (.box A.V :: .map (.sb m) :: .row .own v (.recs l2) :: T) := fun h => back (l2, i + 1) (by simp only; omega) (by simp only; rw [eS (by omega)]) rfl ⟨by simp only; omega, .inl (by simp only; omega), hp2, h⟩
  by_cases hja : a < j
  · have e1 : IntKind.i64.wrap ((j : Int) - 1) = ((j - 1 : Nat) : Int) := by rw [w64 (by omega) (by omega)]; omega
    have d1 : decide ((a : Int) < (j : Int)) = true := decide_eq_true (by omega)
    simp only [hTn _ _, SkT.norm, h2, aA, d1, e1, Int.toNat_natCast, bX.C, iW, iO, jI, jR, iQ, List.length_set, aA, gq, reduceEq, reduceLT, reduceLE, implies_true, reduceCtorEq, if_true, if_false, go_sem, reduceEqDiff, Nat.reduceLT, reduceAdd, reduceSub, reduceLeDiff, reduceReplicate, reduceToNat]
    refine ⟨⟨by omega, by omega⟩, by omega, ⟨by omega, by omega⟩, by omega, fun h => ⟨⟨by omega, by omega⟩, by omega, ⟨by omega, by omega⟩, by omega, ⟨by omega, by omega⟩, by omega, ⟨by omega, by omega⟩, by omega, back2 (gX l2 j (j - 1), j - 1) (by simp only; omega) rfl rfl ⟨by simp only; omega, by simp only; omega, hp2.trans (SegP.swap (by omega) (by omega) (by omega) (by omega) (by omega)), hs2.step hja (by omega) (by omega) h⟩⟩, fun h => hnx (hs2.done hj1 (by omega) (.inr (by unfold leB; simpa using h)))⟩
  · obtain rfl : j = a := by omega
    have d1 : decide ((j : Int) < (j : Int)) = false := decide_eq_false (by omega)
    simp only [hTn _ _, SkT.norm, h2, aA, d1, aA, gq, reduceEq, reduceLT, reduceLE, implies_true, reduceCtorEq, if_true, if_false, go_sem, reduceEqDiff, Nat.reduceLT, reduceAdd, reduceSub, reduceLeDiff, reduceReplicate, reduceToNat]
    exact hnx (hs2.done (Nat.le_refl _) (by omega) (.inl rfl))
def aF.K : Con := fun args h K => match args with
  | [a0, a1, a2, a3] => aF.H (ctx [(109, bX.C)] [] aF.loops) a0 a1 a2 a3 h K
  | _ => False
theorem aF.spec : cP Tryz.prog 131 aF.K := by
  refine cP.of (bQ (F := [(109, bX.C)]) (S := []) (by simpa using bX.spec) (by simp) aF.loops) aF.at aF.nm aF.bd ?_
  intro args h K hC
  unfold aF.K at hC
  split at hC
  · rw [aF.eq]; exact hC
  · exact hC.elim
def PreS (a b : Nat) (l : List RecT) : Prop := a = 0 ∨ ∀ k, a ≤ k → k < b → leB (kyL l (a - 1)) (kyL l k)
theorem PreS.keep {a b : Nat} {l l' : List RecT} (h : PreS a b l) (s : SegP a b l l') : PreS a b l' := by
  rcases Nat.eq_zero_or_pos a with h0 | h0
  · exact .inl h0
  · rcases h with h | h
    · exact .inl h
    · refine .inr fun k h1 h2 => ?_
      rw [s.same (k := a - 1) (by omega)]
      exact s.le (x := kyL l (a - 1)) h k h1 h2
theorem aKM (c : Ctx) (hd : c.drawn = false) (hf : c.envF 109 = bX.C) (A : SkT) (m : bD → Bool) (v : Nat) (l : List RecT) (T : List AObj) (n a b i jc : Nat) (hTn : OkT T) (hn : n = l.length) (ha : a + 1 < i) (hi : i < n) (hp : PreS a i l) (hr : roomy n) (h0 : InsS a (i - 1) i l)
    (J : AV → AV → AV → AV → AV → AV → List AObj → Prop) (K : AOut → List AObj → Prop)
    (hJ : ∀ l', SegP a i l l' → SegS a i l' → J (.sref false 2 v 0 n) (.int .i64 a) (.int .i64 b) hitF (.int .i64 i) (.int .i64 jc) (.box A.V :: .map (.sb m) :: .row .own v (.recs l') :: T)) :
    aF.L3 c J K [.int .i64 ((i - 1 : Nat) : Int)] (.box A.V :: .map (.sb m) :: .row .own v (.recs l) :: T) (T.length + 1 + 1 + 1) (.sref false 2 v 0 n) (.int .i64 a) (.int .i64 b) hitF (.int .i64 i) (.int .i64 jc) := by
  have hr' := hr
  unfold roomy at hr'
  have h2 : 2 < T.length + 1 + 1 + 1 := by omega
  unfold aF.L3
  refine lF (σ := List RecT × Nat) (fun s => .int .i64 s.2) (fun s => .box A.V :: .map (.sb m) :: .row .own v (.recs s.1) :: T) (fun s => s.2) (fun s => a ≤ s.2 ∧ s.2 < i ∧ SegP a i l s.1 ∧ InsS a s.2 i s.1) (l, i - 1) rfl rfl ⟨by simp only; omega, by simp only; omega, SegP.refl, h0⟩ ?_
  rintro I back ⟨l2, j⟩ ⟨hj1, hj2, hp2, hs2⟩
  simp only at hj1 hj2 hp2 hs2 ⊢
  have hl2 := hp2.len
  by_cases hj0 : 1 ≤ j
  · have e1 : IntKind.i64.wrap ((j : Int) - 1) = ((j - 1 : Nat) : Int) := by rw [w64 (by omega) (by omega)]; omega
    have d1 : decide ((1 : Int) ≤ (j : Int)) = true := decide_eq_true (by omega)
    cases hlt : ltB (kyL l2 j) (kyL l2 (j - 1)) with
    | false =>
      simp only [hTn _ _, SkT.norm, h2, aA, d1, e1, hd, hf, hlt, Int.toNat_natCast, bX.C, iW, iO, jI, aA, gq, reduceEq, reduceLT, reduceLE, implies_true, reduceCtorEq, if_true, if_false, go_sem, reduceEqDiff, Nat.reduceLT, reduceAdd, reduceSub, reduceLeDiff, reduceReplicate, reduceToNat]
      refine ⟨⟨by omega, by omega⟩, by omega, ⟨by omega, by omega⟩, by omega, hJ l2 hp2 (hs2.done hj1 hj2 ?_)⟩
      rcases Nat.eq_or_lt_of_le hj1 with h | h
      · exact .inl h.symm
      · exact .inr hlt
    | true =>
      have hja : a < j := by
        rcases Nat.eq_or_lt_of_le hj1 with h | h
        · subst h
          rcases hp.keep hp2 with h | h
          · omega
          · have := h a (Nat.le_refl _) hj2
            unfold leB at this
            rw [hlt] at this; cases this
        · exact h
      simp only [hTn _ _, SkT.norm, h2, aA, d1, e1, hd, hf, hlt, Int.toNat_natCast, bX.C, iW, iO, jI, jR, iQ, List.length_set, aA, gq, reduceEq, reduceLT, reduceLE, implies_true, reduceCtorEq, if_true, if_false, go_sem, reduceEqDiff, Nat.reduceLT, reduceAdd, reduceSub, reduceLeDiff, reduceReplicate, reduceToNat]
      refine ⟨⟨by omega, by omega⟩, by omega, ⟨by omega, by omega⟩, by omega, ⟨by omega, by omega⟩, by omega, ⟨by omega, by omega⟩, by omega, ⟨by omega, by omega⟩, by omega, ⟨by omega, by omega⟩, by omega, back (gX l2 j (j - 1), j - 1) (by simp only; omega) rfl rfl ⟨by simp only; omega, by simp only; omega, hp2.trans (SegP.swap (by omega) (by omega) (by omega) (by omega) (by omega)), hs2.step hja hj2 (by omega) hlt⟩⟩
  · have d1 : decide ((1 : Int) ≤ (j : Int)) = false := decide_eq_false (by omega)
    simp only [hTn _ _, SkT.norm, h2, aA, d1, aA, gq, reduceEq, reduceLT, reduceLE, implies_true, reduceCtorEq, if_true, if_false, go_sem, reduceEqDiff, Nat.reduceLT, reduceAdd, reduceSub, reduceLeDiff, reduceReplicate, reduceToNat]
    exact hJ l2 hp2 (hs2.done hj1 hj2 (.inl (by omega)))
theorem aJu (c : Ctx) (hd : c.drawn = false) (hf : c.envF 109 = bX.C) (A : SkT) (m : bD → Bool) (v : Nat) (l : List RecT) (T : List AObj) (n a b i jc : Nat) (hTn : OkT T) (hn : n = l.length) (hi : i + 1 < b) (hb : b ≤ n) (hr : roomy n)
    (J : AV → AV → AV → AV → AV → AV → List AObj → Prop) (K : AOut → List AObj → Prop)
    (hJ : ∀ l', SegP i b l l' → J (.sref false 2 v 0 n) (.int .i64 a) (.int .i64 b) hitF (.int .i64 i) (.int .i64 jc) (.box A.V :: .map (.sb m) :: .row .own v (.recs l') :: T)) :
    aF.L4 c J K [.int .i64 ((i + 1 : Nat) : Int)] (.box A.V :: .map (.sb m) :: .row .own v (.recs l) :: T) (T.length + 1 + 1 + 1) (.sref false 2 v 0 n) (.int .i64 a) (.int .i64 b) hitF (.int .i64 i) (.int .i64 jc) := by
  have hr' := hr
  unfold roomy at hr'
  have h2 : 2 < T.length + 1 + 1 + 1 := by omega
  unfold aF.L4
  refine lF (σ := List RecT × Nat) (fun s => .int .i64 s.2) (fun s => .box A.V :: .map (.sb m) :: .row .own v (.recs s.1) :: T) (fun s => b - s.2) (fun s => i + 1 ≤ s.2 ∧ s.2 ≤ b ∧ SegP i b l s.1) (l, i + 1) rfl rfl ⟨Nat.le_refl _, by simp only; omega, SegP.refl⟩ ?_
  rintro I back ⟨l2, j⟩ ⟨hj1, hj2, hp2⟩
  simp only at hj1 hj2 hp2 ⊢
  have hl2 := hp2.len
  by_cases hj0 : j < b
  · have e1 : IntKind.i64.wrap ((j : Int) - 1) = ((j - 1 : Nat) : Int) := by rw [w64 (by omega) (by omega)]; omega
    have d1 : decide ((j : Int) < (b : Int)) = true := decide_eq_true (by omega)
    cases hlt : ltB (kyL l2 j) (kyL l2 (j - 1)) with
    | false =>
      simp only [hTn _ _, SkT.norm, h2, aA, d1, e1, hd, hf, hlt, Int.toNat_natCast, bX.C, iW, iO, jI, aA, gq, reduceEq, reduceLT, reduceLE, implies_true, reduceCtorEq, if_true, if_false, go_sem, reduceEqDiff, Nat.reduceLT, reduceAdd, reduceSub, reduceLeDiff, reduceReplicate, reduceToNat]
      exact ⟨⟨by omega, by omega⟩, by omega, ⟨by omega, by omega⟩, by omega, hJ l2 hp2⟩
    | true =>
      simp only [hTn _ _, SkT.norm, h2, aA, d1, e1, hd, hf, hlt, Int.toNat_natCast, bX.C, iW, iO, jI, jR, iQ, List.length_set, aA, gq, reduceEq, reduceLT, reduceLE, implies_true, reduceCtorEq, if_true, if_false, go_sem, reduceEqDiff, Nat.reduceLT, reduceAdd, reduceSub, reduceLeDiff, reduceReplicate, reduceToNat]
      refine ⟨⟨by omega, by omega⟩, by omega, ⟨by omega, by omega⟩, by omega, ⟨by omega, by omega⟩, by omega, ⟨by omega, by omega⟩, by omega, ⟨by omega, by omega⟩, by omega, ⟨by omega, by omega⟩, by omega, back (gX l2 j (j - 1), j + 1) (by simp only; omega) (by rw [eS (by omega)]) rfl ⟨by simp only; omega, by simp only; omega, hp2.trans (SegP.swap (by omega) (by omega) (by omega) (by omega) (by omega))⟩⟩
  · have d1 : decide ((j : Int) < (b : Int)) = false := decide_eq_false (by omega)
    simp only [hTn _ _, SkT.norm, h2, aA, d1, aA, gq, reduceEq, reduceLT, reduceLE, implies_true, reduceCtorEq, if_true, if_false, go_sem, reduceEqDiff, Nat.reduceLT, reduceAdd, reduceSub, reduceLeDiff, reduceReplicate, reduceToNat]
    exact hJ l2 hp2
theorem aNY (A : SkT) (m : bD → Bool) (v : Nat) (l : List RecT) (T : List AObj) (hTn : OkT T) (n a b : Nat) (hn : n = l.length) (hab : a < b) (hbn : b ≤ n) (hpre : PreS a b l) (hr : roomy n) (K : AOut → List AObj → Prop)
    (hK1 : ∀ l', SegP a b l l' → SegS a b l' → K (.ret (.bool true)) (hpS A m v l' T)) (hK2 : ∀ l', SegP a b l l' → K (.ret (.bool false)) (hpS A m v l' T)) :
    aF.K [.sref false 2 v 0 n, .int .i64 a, .int .i64 b, hitF] (hpS A m v l T) K := by
  have hr' := hr
  unfold roomy at hr'
  have h2 : 2 < T.length + 1 + 1 + 1 := by omega
  unfold aF.K aF.H
  simp only [hpS, hTn _ _, SkT.norm, h2, aA, gq, reduceEq, reduceLT, reduceLE, implies_true, reduceCtorEq, if_true, if_false, go_sem, reduceEqDiff, Nat.reduceLT, reduceAdd, reduceSub, reduceLeDiff, reduceReplicate, reduceToNat] at hK1 hK2 ⊢
  rw [eS (by omega)]
  unfold aF.L1
  refine pP (σ := List RecT × Nat × Nat) (fun s => .int .i64 s.2.1) (fun s => .int .i64 s.2.2) (fun s => .box A.V :: .map (.sb m) :: .row .own v (.recs s.1) :: T) (fun s => 5 - s.2.2) (fun s => s.2.2 ≤ 5 ∧ a + 1 ≤ s.2.1 ∧ s.2.1 ≤ b ∧ SegP a b l s.1 ∧ SegS a s.2.1 s.1) (l, a + 1, 0) rfl rfl ⟨Nat.zero_le _, Nat.le_refl _, by simp only; omega, SegP.refl, SegS.one (Nat.le_refl _)⟩ ?_
  rintro I back ⟨l1, i0, jc⟩ ⟨hjc, hi1, hi2, hp, hs⟩
  simp only at hjc hi1 hi2 hp hs ⊢
  have hl1 := hp.len
  by_cases hj5 : jc < 5
  rotate_left
  · have d1 : decide ((jc : Int) < 5) = false := decide_eq_false (by omega)
    simp only [hTn _ _, SkT.norm, h2, aA, d1, aA, gq, reduceEq, reduceLT, reduceLE, implies_true, reduceCtorEq, if_true, if_false, go_sem, reduceEqDiff, Nat.reduceLT, reduceAdd, reduceSub, reduceLeDiff, reduceReplicate, reduceToNat]
    exact hK2 l1 hp
  have d0 : decide ((jc : Int) < 5) = true := decide_eq_true (by omega)
  simp only [hTn _ _, SkT.norm, h2, aA, d0, aA, gq, reduceEq, reduceLT, reduceLE, implies_true, reduceCtorEq, if_true, if_false, go_sem, reduceEqDiff, Nat.reduceLT, reduceAdd, reduceSub, reduceLeDiff, reduceReplicate, reduceToNat]
  unfold aF.L2
  refine lF (σ := Nat) (fun i => .int .i64 i) (fun s => .box A.V :: .map (.sb m) :: .row .own v (.recs l1) :: T) (fun i => b - i) (fun i => a + 1 ≤ i ∧ i ≤ b ∧ SegS a i l1) i0 rfl rfl ⟨hi1, hi2, hs⟩ ?_
  rintro I2 back2 i ⟨hi1, hi2, hs⟩
  have e1 : IntKind.i64.wrap ((i : Int) - 1) = ((i - 1 : Nat) : Int) := by rw [w64 (by omega) (by omega)]; omega
  have e2 : IntKind.i64.wrap ((b : Int) - a) = ((b - a : Nat) : Int) := by rw [w64 (by omega) (by omega)]; omega
  have e3 : IntKind.i64.wrap ((i : Int) - a) = ((i - a : Nat) : Int) := by rw [w64 (by omega) (by omega)]; omega
  have e4 : IntKind.i64.wrap ((b : Int) - i) = ((b - i : Nat) : Int) := by rw [w64 (by omega) (by omega)]; omega
  by_cases hib : i < b
  · have d1 : decide ((i : Int) < (b : Int)) = true := decide_eq_true (by omega)
    have d2 : decide ((i : Int) = (b : Int)) = false := decide_eq_false (by omega)
    cases hlt : ltB (kyL l1 i) (kyL l1 (i - 1)) with
    | false =>
      simp only [hTn _ _, SkT.norm, h2, aA, d1, e1, e2, hlt, Int.toNat_natCast, bX.C, iW, iO, jI, jR, iQ, List.length_set, aA, gq, reduceEq, reduceLT, reduceLE, implies_true, reduceCtorEq, if_true, if_false, go_sem, reduceEqDiff, Nat.reduceLT, reduceAdd, reduceSub, reduceLeDiff, reduceReplicate, reduceToNat]
      refine ⟨⟨by omega, by omega⟩, by omega, ⟨by omega, by omega⟩, by omega, ?_⟩
      refine back2 (i + 1) (by omega) (by rw [eS (by omega)]) rfl ⟨by omega, by omega, ?_⟩
      intro p q h1 h2 h3
      by_cases hq : q = i
      · subst hq
        by_cases hp : p = q - 1
        · subst hp; exact hlt
        · exact tQ (hs p (q - 1) h1 (by omega) (by omega)) hlt
      · exact hs p q h1 h2 (by omega)
    | true =>
      have hsw : SegP a b l (gX l1 i (i - 1)) := hp.trans (SegP.swap (by omega) (by omega) (by omega) (by omega) (by omega))
      have hins : InsS a (i - 1) i (gX l1 i (i - 1)) := fun p q h1 h2 h3 h4 => by
        rw [jN (by omega) (by omega), jN (by omega) (by omega), if_neg (by omega), if_neg (by omega), if_neg (by omega), if_neg (by omega)]
        exact hs p q h1 h2 (by omega)
      have hsl : (gX l1 i (i - 1)).length = n := by rw [nM]; omega
      simp only [hTn _ _, SkT.norm, h2, aA, d1, d2, e1, e2, e3, e4, hlt, Int.toNat_natCast, bX.C, iW, iO, jI, jR, iQ, List.length_set, eS (show i < 4611686018427387904 by omega), aA, gq, reduceEq, reduceLT, reduceLE, implies_true, reduceCtorEq, if_true, if_false, go_sem, reduceEqDiff, Nat.reduceLT, reduceAdd, reduceSub, reduceLeDiff, reduceReplicate, reduceToNat]
      generalize gX l1 i (i - 1) = l2 at *
      have hend : ∀ l3, SegP a b l l3 → SegS a i l3 → ∃ m_1, m_1 < 5 - jc ∧ I m_1 [.int .i64 i, .int .i64 ((jc + 1 : Nat) : Int)] (.box A.V :: .map (.sb m) :: .row .own v (.recs l3) :: T) := fun l3 p3 s3 => back (l3, i, jc + 1) (by simp only; omega) rfl rfl ⟨by simp only; omega, hi1, hi2, p3, s3⟩
      have hright : ∀ (c : Ctx), c.drawn = false → c.envF 109 = bX.C → ∀ l3, SegP a b l l3 → SegS a i l3 → ∀ (J : AV → AV → AV → AV → AV → AV → List AObj → Prop) (K : AOut → List AObj → Prop), i + 1 < b → (∀ l4, SegP a b l l4 → SegS a i l4 → J (.sref false 2 v 0 n) (.int .i64 a) (.int .i64 b) hitF (.int .i64 i) (.int .i64 jc) (.box A.V :: .map (.sb m) :: .row .own v (.recs l4) :: T)) → aF.L4 c J K [.int .i64 ((i + 1 : Nat) : Int)] (.box A.V :: .map (.sb m) :: .row .own v (.recs l3) :: T) (T.length + 1 + 1 + 1) (.sref false 2 v 0 n) (.int .i64 a) (.int .i64 b) hitF (.int .i64 i) (.int .i64 jc) := fun c hd hf l3 p3 s3 J K h1 hJ =>
        aJu c hd hf A m v l3 T n a b i jc hTn (by rw [p3.len]; exact hn) h1 hbn hr J K fun l4 p4 => hJ l4 (p3.trans (p4.mono (by omega) (Nat.le_refl _))) (s3.keep p4 (.inl (Nat.le_refl _)))
      refine ⟨⟨by omega, by omega⟩, by omega, ⟨by omega, by omega⟩, by omega, fun h50 => hK2 l1 hp, fun h50 => ⟨⟨by omega, by omega⟩, by omega, ⟨by omega, by omega⟩, by omega, ⟨by omega, by omega⟩, by omega, ⟨by omega, by omega⟩, by omega, fun hge => ?_, fun hge => ?_⟩⟩
      · have hpr : PreS a i l2 := (hpre.keep hsw).imp id fun h k k1 k2 => h k k1 (by omega)
        refine aKM _ rfl rfl A m v l2 T n a b i jc hTn hsl.symm (by omega) (by omega) hpr hr hins _ _ fun l3 p3 s3 => ?_
        have p3' : SegP a b l l3 := hsw.trans (p3.mono (Nat.le_refl _) (by omega))
        simp only [hTn _ _, SkT.norm, h2, e4, eS (show i < 4611686018427387904 by omega), eS (show jc < 4611686018427387904 by omega), aA, gq, reduceEq, reduceLT, reduceLE, implies_true, reduceCtorEq, if_true, if_false, go_sem, reduceEqDiff, Nat.reduceLT, reduceAdd, reduceSub, reduceLeDiff, reduceReplicate, reduceToNat]
        refine ⟨fun hge2 => hright _ rfl rfl l3 p3' s3 _ _ (by omega) fun l4 p4 s4 => ?_, fun _ => hend l3 p3' s3⟩
        simp only [hTn _ _, SkT.norm, h2, eS (show jc < 4611686018427387904 by omega), aA, gq, reduceEq, reduceLT, reduceLE, implies_true, reduceCtorEq, if_true, if_false, go_sem, reduceEqDiff, Nat.reduceLT, reduceAdd, reduceSub, reduceLeDiff, reduceReplicate, reduceToNat]
        exact hend l4 p4 s4
      · refine ⟨fun hge2 => hright _ rfl rfl l2 hsw (SegS.one (by omega)) _ _ (by omega) fun l4 p4 s4 => ?_, fun _ => by rw [eS (by omega)]; exact hend l2 hsw (SegS.one (by omega))⟩
        simp only [hTn _ _, SkT.norm, h2, eS (show jc < 4611686018427387904 by omega), aA, gq, reduceEq, reduceLT, reduceLE, implies_true, reduceCtorEq, if_true, if_false, go_sem, reduceEqDiff, Nat.reduceLT, reduceAdd, reduceSub, reduceLeDiff, reduceReplicate, reduceToNat]
        exact hend l4 p4 s4
  · obtain rfl : i = b := by omega
    have d1 : decide ((i : Int) < (i : Int)) = false := decide_eq_false (by omega)
    simp only [hTn _ _, SkT.norm, h2, aA, d1, decide_true, aA, gq, reduceEq, reduceLT, reduceLE, implies_true, reduceCtorEq, if_true, if_false, go_sem, reduceEqDiff, Nat.reduceLT, reduceAdd, reduceSub, reduceLeDiff, reduceReplicate, reduceToNat]
    exact hK1 l1 hp hs
def aI.K : Con := fun args h K => match args with
  | [a0, a1, a2, a3, a4] => aI.H (ctx [(109, bX.C)] [] aI.loops) a0 a1 a2 a3 a4 h K
  | _ => False
theorem aI.spec : cP Tryz.prog 133 aI.K := by
  refine cP.of (bQ (F := [(109, bX.C)]) (S := []) (by simpa using bX.spec) (by simp) aI.loops) aI.at aI.nm aI.bd ?_
  intro args h K hC
  unfold aI.K at hC
  split at hC
  · rw [aI.eq]; exact hC
  · exact hC.elim
def wP (a b i j : Nat) (l : List RecT) : Prop := a + 1 ≤ i ∧ i ≤ j + 1 ∧ j < b ∧ a ≤ j ∧ (∀ k, a < k → k < i → leB (kyL l k) (kyL l a)) ∧ ∀ k, j < k → k < b → leB (kyL l a) (kyL l k)
theorem wP.swap {a b i j : Nat} {l : List RecT} (h : wP a b i j l) (hij : i < j) (hb : b ≤ l.length) (h1 : leB (kyL l a) (kyL l i)) (h2 : leB (kyL l j) (kyL l a)) : wP a b (i + 1) (j - 1) (gX l i j) := by
  obtain ⟨q1, q2, q3, q4, q5, q6⟩ := h
  have hil : i < l.length := by omega
  have hjl : j < l.length := by omega
  have ea : kyL (gX l i j) a = kyL l a := by rw [jN hil hjl, if_neg (by omega), if_neg (by omega)]
  refine ⟨by omega, by omega, by omega, by omega, fun k k1 k2 => ?_, fun k k1 k2 => ?_⟩
  · rw [ea, jN hil hjl, if_neg (by omega)]
    by_cases e : k = i
    · rw [if_pos e]; exact h2
    · rw [if_neg e]; exact q5 k k1 (by omega)
  · rw [ea, jN hil hjl]
    by_cases e : k = j
    · rw [if_pos e]; exact h1
    · rw [if_neg e, if_neg (by omega)]; exact q6 k (by omega) k2
theorem wP.fin {a b i j : Nat} {l : List RecT} (h : wP a b i j l) (hij : j < i) (hb : b ≤ l.length) : qB a j b (gX l a j) := by
  obtain ⟨q1, q2, q3, q4, q5, q6⟩ := h
  have hal : a < l.length := by omega
  have hjl : j < l.length := by omega
  have ej : kyL (gX l a j) j = kyL l a := by rw [jN hal hjl, if_pos rfl]
  refine ⟨fun k k1 k2 => ?_, fun k k1 k2 => ?_⟩
  · rw [ej, jN hal hjl, if_neg (by omega)]
    by_cases e : k = a
    · rw [if_pos e]; exact q5 j (by omega) (by omega)
    · rw [if_neg e]; exact q5 k (by omega) (by omega)
  · rw [ej, jN hal hjl, if_neg (by omega), if_neg (by omega)]; exact q6 k k1 k2
theorem aDt {l : List RecT} {i j : Nat} (hi : i < l.length) (hj : j < l.length) : gX l i j = gX l j i := by
  refine List.ext_getElem? fun k => ?_
  have h : ∀ k, (gX l i j).getD k d0 = (gX l j i).getD k d0 := fun k => by
    rw [tR hi hj, tR hj hi]
    by_cases e1 : k = j
    · by_cases e2 : k = i
      · rw [if_pos e1, if_pos e2, ← e1, ← e2]
      · rw [if_pos e1, if_neg e2, if_pos e1]
    · rw [if_neg e1, if_neg e1]
  rcases Nat.lt_or_ge k l.length with hk | hk
  · have := h k
    rw [List.getD_eq_getElem?_getD, List.getD_eq_getElem?_getD, List.getElem?_eq_getElem (by rw [nM]; exact hk), List.getElem?_eq_getElem (by rw [nM]; exact hk)] at this
    rw [List.getElem?_eq_getElem (by rw [nM]; exact hk), List.getElem?_eq_getElem (by rw [nM]; exact hk)]
    exact congrArg some this
  · rw [List.getElem?_eq_none (by rw [nM]; exact hk), List.getElem?_eq_none (by rw [nM]; exact hk)]
theorem aGC : aI.L4 = aI.L1 := rfl
theorem aGD : aI.L5 = aI.L2 := rfl
theorem aAH (c : Ctx) (hd : c.drawn = false) (hf : c.envF 109 = bX.C) (A : SkT) (m : bD → Bool) (v : Nat) (l : List RecT) (T : List AObj) (n a j i0 : Nat) (hTn : OkT T) (hn : n = l.length) (ha : a < i0) (hj : j < n) (hij : i0 ≤ j + 1) (hr : roomy n)
    (J : AV → AV → AV → AV → AV → List AObj → Prop) (K : AOut → List AObj → Prop)
    (hJ : ∀ i : Nat, i0 ≤ i → i ≤ j + 1 → (∀ k, i0 ≤ k → k < i → leB (kyL l k) (kyL l a)) → (i ≤ j → leB (kyL l a) (kyL l i)) → J (.sref false 2 v 0 n) (.int .i64 a) hitF (.int .i64 i) (.int .i64 j) (.box A.V :: .map (.sb m) :: .row .own v (.recs l) :: T)) :
    aI.L1 c J K [.int .i64 i0] (.box A.V :: .map (.sb m) :: .row .own v (.recs l) :: T) (T.length + 1 + 1 + 1) (.sref false 2 v 0 n) (.int .i64 a) hitF (.int .i64 j) := by
  have hr' := hr
  unfold roomy at hr'
  have h2 : 2 < T.length + 1 + 1 + 1 := by omega
  unfold aI.L1
  refine lF (σ := Nat) (fun i => .int .i64 i) (fun s => .box A.V :: .map (.sb m) :: .row .own v (.recs l) :: T) (fun i => j + 1 - i) (fun i => i0 ≤ i ∧ i ≤ j + 1 ∧ ∀ k, i0 ≤ k → k < i → leB (kyL l k) (kyL l a)) i0 rfl rfl ⟨Nat.le_refl _, hij, fun k h1 h2 => by omega⟩ ?_
  rintro I back i ⟨hi1, hi2, hall⟩
  by_cases hle : i ≤ j
  · have d1 : decide ((i : Int) ≤ (j : Int)) = true := decide_eq_true (by omega)
    simp only [hTn _ _, SkT.norm, h2, aA, d1, hd, hf, Int.toNat_natCast, bX.C, iW, iO, jI, aA, gq, reduceEq, reduceLT, reduceLE, implies_true, reduceCtorEq, if_true, if_false, go_sem, reduceEqDiff, Nat.reduceLT, reduceAdd, reduceSub, reduceLeDiff, reduceReplicate, reduceToNat]
    refine ⟨⟨by omega, by omega⟩, by omega, ⟨by omega, by omega⟩, by omega, fun h => ?_, fun h => hJ i hi1 hi2 hall fun _ => by unfold leB; simpa using h⟩
    refine back (i + 1) (by omega) (by rw [eS (by omega)]) rfl ⟨by omega, by omega, fun k k1 k2 => ?_⟩
    by_cases e : k = i
    · subst e; exact rD h
    · exact hall k k1 (by omega)
  · have d1 : decide ((i : Int) ≤ (j : Int)) = false := decide_eq_false (by omega)
    simp only [hTn _ _, SkT.norm, h2, aA, d1, aA, gq, reduceEq, reduceLT, reduceLE, implies_true, reduceCtorEq, if_true, if_false, go_sem, reduceEqDiff, Nat.reduceLT, reduceAdd, reduceSub, reduceLeDiff, reduceReplicate, reduceToNat]
    exact hJ i hi1 hi2 hall fun h => absurd h hle
theorem yC (c : Ctx) (hd : c.drawn = false) (hf : c.envF 109 = bX.C) (A : SkT) (m : bD → Bool) (v : Nat) (l : List RecT) (T : List AObj) (n a i j0 : Nat) (hTn : OkT T) (hn : n = l.length) (ha : a < i) (hj : j0 < n) (hij : i ≤ j0 + 1) (hr : roomy n)
    (J : AV → AV → AV → AV → AV → List AObj → Prop) (K : AOut → List AObj → Prop)
    (hJ : ∀ j : Nat, j ≤ j0 → i ≤ j + 1 → (∀ k, j < k → k ≤ j0 → leB (kyL l a) (kyL l k)) → (i ≤ j → ltB (kyL l j) (kyL l a) = true) → J (.sref false 2 v 0 n) (.int .i64 a) hitF (.int .i64 i) (.int .i64 j) (.box A.V :: .map (.sb m) :: .row .own v (.recs l) :: T)) :
    aI.L2 c J K [.int .i64 j0] (.box A.V :: .map (.sb m) :: .row .own v (.recs l) :: T) (T.length + 1 + 1 + 1) (.sref false 2 v 0 n) (.int .i64 a) hitF (.int .i64 i) := by
  have hr' := hr
  unfold roomy at hr'
  have h2 : 2 < T.length + 1 + 1 + 1 := by omega
  unfold aI.L2
  refine lF (σ := Nat) (fun i => .int .i64 i) (fun s => .box A.V :: .map (.sb m) :: .row .own v (.recs l) :: T) (fun j => j) (fun j => j ≤ j0 ∧ i ≤ j + 1 ∧ ∀ k, j < k → k ≤ j0 → leB (kyL l a) (kyL l k)) j0 rfl rfl ⟨Nat.le_refl _, hij, fun k h1 h2 => by omega⟩ ?_
  rintro I back j ⟨hj1, hj2, hall⟩
  by_cases hle : i ≤ j
  · have d1 : decide ((i : Int) ≤ (j : Int)) = true := decide_eq_true (by omega)
    have e1 : IntKind.i64.wrap ((j : Int) - 1) = ((j - 1 : Nat) : Int) := by rw [w64 (by omega) (by omega)]; omega
    simp only [hTn _ _, SkT.norm, h2, aA, d1, e1, hd, hf, Int.toNat_natCast, bX.C, iW, iO, jI, aA, gq, reduceEq, reduceLT, reduceLE, implies_true, reduceCtorEq, if_true, if_false, go_sem, reduceEqDiff, Nat.reduceLT, reduceAdd, reduceSub, reduceLeDiff, reduceReplicate, reduceToNat]
    refine ⟨⟨by omega, by omega⟩, by omega, ⟨by omega, by omega⟩, by omega, ?_⟩
    cases hlt : ltB (kyL l j) (kyL l a) with
    | false =>
      simp only [aA, gq, reduceEq, reduceLT, reduceLE, implies_true, reduceCtorEq, if_true, if_false, go_sem, reduceEqDiff, Nat.reduceLT, reduceAdd, reduceSub, reduceLeDiff, reduceReplicate, reduceToNat]
      refine back (j - 1) (by omega) rfl rfl ⟨by omega, by omega, fun k k1 k2 => ?_⟩
      by_cases e : k = j
      · subst e; exact hlt
      · exact hall k (by omega) k2
    | true =>
      simp only [aA, gq, reduceEq, reduceLT, reduceLE, implies_true, reduceCtorEq, if_true, if_false, go_sem, reduceEqDiff, Nat.reduceLT, reduceAdd, reduceSub, reduceLeDiff, reduceReplicate, reduceToNat]
      exact hJ j hj1 hj2 hall fun _ => hlt
  · have d1 : decide ((i : Int) ≤ (j : Int)) = false := decide_eq_false (by omega)
    simp only [hTn _ _, SkT.norm, h2, aA, d1, aA, gq, reduceEq, reduceLT, reduceLE, implies_true, reduceCtorEq, if_true, if_false, go_sem, reduceEqDiff, Nat.reduceLT, reduceAdd, reduceSub, reduceLeDiff, reduceReplicate, reduceToNat]
    exact hJ j hj1 hj2 hall fun h => absurd h hle
theorem aHH (A : SkT) (m : bD → Bool) (v : Nat) (l : List RecT) (T : List AObj) (hTn : OkT T) (n a b p : Nat) (hn : n = l.length) (hab : a + 1 < b) (hbn : b ≤ n) (hp : a ≤ p) (hpb : p < b) (hr : roomy n) (K : AOut → List AObj → Prop)
    (hK : ∀ l' q al, SegP a b l l' → a ≤ q → q < b → qB a q b l' → K (.ret (.tup [.int .i64 q, .bool al])) (hpS A m v l' T)) :
    aI.K [.sref false 2 v 0 n, .int .i64 a, .int .i64 b, .int .i64 p, hitF] (hpS A m v l T) K := by
  have hr' := hr
  unfold roomy at hr'
  have h2 : 2 < T.length + 1 + 1 + 1 := by omega
  have e1 : IntKind.i64.wrap ((b : Int) - 1) = ((b - 1 : Nat) : Int) := by rw [w64 (by omega) (by omega)]; omega
  unfold aI.K aI.H
  simp only [hpS, hTn _ _, SkT.norm, h2, e1, eS (show a < 4611686018427387904 by omega), aA, Int.toNat_natCast, iW, iO, jR, iQ, List.length_set, aA, gq, reduceEq, reduceLT, reduceLE, implies_true, reduceCtorEq, if_true, if_false, go_sem, reduceEqDiff, Nat.reduceLT, reduceAdd, reduceSub, reduceLeDiff, reduceReplicate, reduceToNat] at hK ⊢
  refine ⟨⟨by omega, by omega⟩, by omega, ⟨by omega, by omega⟩, by omega, ⟨by omega, by omega⟩, by omega, ⟨by omega, by omega⟩, by omega, ?_⟩
  have hp1 : SegP a b l (gX l a p) := SegP.swap (by omega) (by omega) (by omega) (by omega) (by omega)
  generalize gX l a p = l1 at *
  have hl1 := hp1.len
  refine aAH _ rfl rfl A m v l1 T n a (b - 1) (a + 1) hTn (by omega) (by omega) (by omega) (by omega) hr _ _ fun i hi1 hi2 hi3 hi4 => ?_
  simp only [hTn _ _, SkT.norm, h2, aA, gq, reduceEq, reduceLT, reduceLE, implies_true, reduceCtorEq, if_true, if_false, go_sem, reduceEqDiff, Nat.reduceLT, reduceAdd, reduceSub, reduceLeDiff, reduceReplicate, reduceToNat]
  refine yC _ rfl rfl A m v l1 T n a i (b - 1) hTn (by omega) (by omega) (by omega) (by omega) hr _ _ fun j hj1 hj2 hj3 hj4 => ?_
  have hS : wP a b i j l1 := ⟨hi1, hj2, by omega, by omega, fun k k1 k2 => hi3 k (by omega) k2, fun k k1 k2 => hj3 k k1 (by omega)⟩
  have e2 : j ≠ 0 → IntKind.i64.wrap ((j : Int) - 1) = ((j - 1 : Nat) : Int) := fun h => by rw [w64 (by omega) (by omega)]; omega
  simp only [hTn _ _, SkT.norm, h2, eS (show i < 4611686018427387904 by omega), aA, Int.toNat_natCast, iW, iO, jR, iQ, List.length_set, aA, gq, reduceEq, reduceLT, reduceLE, implies_true, reduceCtorEq, if_true, if_false, go_sem, reduceEqDiff, Nat.reduceLT, reduceAdd, reduceSub, reduceLeDiff, reduceReplicate, reduceToNat]
  refine ⟨fun hgt => ⟨⟨by omega, by omega⟩, by omega, ⟨by omega, by omega⟩, by omega, ⟨by omega, by omega⟩, by omega, ⟨by omega, by omega⟩, by omega, ?_⟩, fun hle => ⟨⟨by omega, by omega⟩, by omega, ⟨by omega, by omega⟩, by omega, ⟨by omega, by omega⟩, by omega, ⟨by omega, by omega⟩, by omega, ?_⟩⟩
  · rw [aDt (by omega) (by omega)]
    exact hK _ j true (hp1.trans (SegP.swap (by omega) (by omega) (by omega) (by omega) (by omega))) (by omega) (by omega) (hS.fin (by omega) (by omega))
  have hij : i < j := by
    rcases Nat.lt_or_ge i j with h | h
    · exact h
    · exfalso
      obtain rfl : i = j := by omega
      have := hj4 (Nat.le_refl _)
      have h' := hi4 (by omega)
      unfold leB at h'
      rw [this] at h'; cases h'
  have hS2 := hS.swap hij (by omega) (hi4 (by omega)) (rD (hj4 (by omega)))
  have hp2 : SegP a b l (gX l1 i j) := hp1.trans (SegP.swap (by omega) (by omega) (by omega) (by omega) (by omega))
  generalize gX l1 i j = l2 at *
  rw [e2 (by omega)]
  unfold aI.L3
  refine pP (σ := List RecT × Nat × Nat) (fun s => .int .i64 s.2.1) (fun s => .int .i64 s.2.2) (fun s => .box A.V :: .map (.sb m) :: .row .own v (.recs s.1) :: T) (fun s => s.2.2) (fun s => SegP a b l s.1 ∧ wP a b s.2.1 s.2.2 s.1) (l2, i + 1, j - 1) rfl rfl ⟨hp2, hS2⟩ ?_
  rintro I back ⟨l3, i3, j3⟩ ⟨hp3, q1, q2, q3, q4, q5, q6⟩
  simp only at hp3 q1 q2 q3 q4 q5 q6 ⊢
  have hl3 := hp3.len
  simp only [hTn _ _, SkT.norm, h2, aA, aGC, aGD, aA, gq, reduceEq, reduceLT, reduceLE, implies_true, reduceCtorEq, if_true, if_false, go_sem, reduceEqDiff, Nat.reduceLT, reduceAdd, reduceSub, reduceLeDiff, reduceReplicate, reduceToNat]
  refine aAH _ rfl rfl A m v l3 T n a j3 i3 hTn (by omega) (by omega) (by omega) (by omega) hr _ _ fun i4 g1 g2 g3 g4 => ?_
  simp only [hTn _ _, SkT.norm, h2, aA, gq, reduceEq, reduceLT, reduceLE, implies_true, reduceCtorEq, if_true, if_false, go_sem, reduceEqDiff, Nat.reduceLT, reduceAdd, reduceSub, reduceLeDiff, reduceReplicate, reduceToNat]
  refine yC _ rfl rfl A m v l3 T n a i4 j3 hTn (by omega) (by omega) (by omega) (by omega) hr _ _ fun j4 k1 k2 k3 k4 => ?_
  have hS4 : wP a b i4 j4 l3 := ⟨by omega, k2, by omega, by omega, fun k z1 z2 => by
    by_cases e : k < i3
    · exact q5 k z1 e
    · exact g3 k (by omega) z2, fun k z1 z2 => by
    by_cases e : j3 < k
    · exact q6 k e z2
    · exact k3 k z1 (by omega)⟩
  have e4 : j4 ≠ 0 → IntKind.i64.wrap ((j4 : Int) - 1) = ((j4 - 1 : Nat) : Int) := fun h => by rw [w64 (by omega) (by omega)]; omega
  simp only [hTn _ _, SkT.norm, h2, eS (show i4 < 4611686018427387904 by omega), aA, Int.toNat_natCast, iW, iO, jR, iQ, List.length_set, aA, gq, reduceEq, reduceLT, reduceLE, implies_true, reduceCtorEq, if_true, if_false, go_sem, reduceEqDiff, Nat.reduceLT, reduceAdd, reduceSub, reduceLeDiff, reduceReplicate, reduceToNat]
  refine ⟨fun hgt => ⟨⟨by omega, by omega⟩, by omega, ⟨by omega, by omega⟩, by omega, ⟨by omega, by omega⟩, by omega, ⟨by omega, by omega⟩, by omega, ?_⟩, fun hle => ⟨⟨by omega, by omega⟩, by omega, ⟨by omega, by omega⟩, by omega, ⟨by omega, by omega⟩, by omega, ⟨by omega, by omega⟩, by omega, ?_⟩⟩
  · rw [aDt (by omega) (by omega)]
    exact hK _ j4 false (hp3.trans (SegP.swap (by omega) (by omega) (by omega) (by omega) (by omega))) (by omega) (by omega) (hS4.fin (by omega) (by omega))
  · have hij4 : i4 < j4 := by
      rcases Nat.lt_or_ge i4 j4 with h | h
      · exact h
      · exfalso
        obtain rfl : i4 = j4 := by omega
        have := k4 (Nat.le_refl _)
        have h' := g4 (by omega)
        unfold leB at h'
        rw [this] at h'; cases h'
    rw [e4 (by omega)]
    exact back (gX l3 i4 j4, i4 + 1, j4 - 1) (by simp only; omega) rfl rfl ⟨hp3.trans (SegP.swap (by omega) (by omega) (by omega) (by omega) (by omega)), hS4.swap hij4 (by omega) (g4 (by omega)) (rD (k4 (by omega)))⟩
end Lam
namespace Lam
open Go Go.Proofs
def aX.K : Con := fun args h K => match args with
  | [a0, a1, a2, a3] => aX.H (ctx [] [] aX.loops) a0 a1 a2 a3 h K
  | _ => False
theorem aX.spec : cP Tryz.prog 130 aX.K := by
  refine cP.of (bQ (F := []) (S := []) (by simp) (by simp) aX.loops) aX.at aX.nm aX.bd ?_
  intro args h K hC
  unfold aX.K at hC
  split at hC
  · rw [aX.eq]; exact hC
  · exact hC.elim
theorem aKN (A : SkT) (m : bD → Bool) (v : Nat) (l : List RecT) (T : List AObj) (hTn : OkT T) (n a b : Nat) (hn : n = l.length) (hab : a < b) (hbn : b ≤ n) (hr : roomy n) (K : AOut → List AObj → Prop)
    (hK : ∀ l', SegP a b l l' → K (.ret (.tup [])) (hpS A m v l' T)) :
    aX.K [.sref false 2 v 0 n, .int .i64 a, .int .i64 b, hitF] (hpS A m v l T) K := by
  have hr' := hr
  unfold roomy at hr'
  have h2 : 2 < T.length + 1 + 1 + 1 := by omega
  have e1 : IntKind.i64.wrap ((b : Int) - 1) = ((b - 1 : Nat) : Int) := by rw [w64 (by omega) (by omega)]; omega
  unfold aX.K aX.H
  simp only [hpS, hTn _ _, SkT.norm, h2, e1, aA, gq, reduceEq, reduceLT, reduceLE, implies_true, reduceCtorEq, if_true, if_false, go_sem, reduceEqDiff, Nat.reduceLT, reduceAdd, reduceSub, reduceLeDiff, reduceReplicate, reduceToNat] at hK ⊢
  unfold aX.L1
  refine pP (σ := List RecT × Nat × Nat) (fun s => .int .i64 s.2.1) (fun s => .int .i64 s.2.2) (fun s => .box A.V :: .map (.sb m) :: .row .own v (.recs s.1) :: T) (fun s => s.2.2) (fun s => a ≤ s.2.1 ∧ s.2.2 < b ∧ s.2.1 ≤ n ∧ SegP a b l s.1) (l, a, b - 1) rfl rfl ⟨Nat.le_refl _, by simp only; omega, by simp only; omega, SegP.refl⟩ ?_
  rintro I back ⟨l1, i, j⟩ ⟨hi, hj, hin, hp⟩
  simp only at hi hj hin hp ⊢
  have hl1 := hp.len
  by_cases hij : i < j
  · have e2 : IntKind.i64.wrap ((j : Int) - 1) = ((j - 1 : Nat) : Int) := by rw [w64 (by omega) (by omega)]; omega
    have d1 : decide ((i : Int) < (j : Int)) = true := decide_eq_true (by omega)
    simp only [hTn _ _, SkT.norm, h2, aA, d1, e2, eS (show i < 4611686018427387904 by omega), Int.toNat_natCast, iW, jR, iQ, List.length_set, aA, gq, reduceEq, reduceLT, reduceLE, implies_true, reduceCtorEq, if_true, if_false, go_sem, reduceEqDiff, Nat.reduceLT, reduceAdd, reduceSub, reduceLeDiff, reduceReplicate, reduceToNat]
    exact ⟨⟨by omega, by omega⟩, by omega, ⟨by omega, by omega⟩, by omega, ⟨by omega, by omega⟩, by omega, ⟨by omega, by omega⟩, by omega, back (gX l1 i j, i + 1, j - 1) (by simp only; omega) rfl rfl ⟨by simp only; omega, by simp only; omega, by simp only; omega, hp.trans (SegP.swap (by omega) (by omega) (by omega) (by omega) (by omega))⟩⟩
  · have d1 : decide ((i : Int) < (j : Int)) = false := decide_eq_false (by omega)
    simp only [hTn _ _, SkT.norm, h2, aA, d1, aA, gq, reduceEq, reduceLT, reduceLE, implies_true, reduceCtorEq, if_true, if_false, go_sem, reduceEqDiff, Nat.reduceLT, reduceAdd, reduceSub, reduceLeDiff, reduceReplicate, reduceToNat]
    exact hK l1 hp
def bH.K : Con := fun args h K => match args with
  | [a0, a1, a2, a3, a4] => bH.H (ctx [(109, bX.C)] [] bH.loops) a0 a1 a2 a3 a4 h K
  | _ => False
theorem bH.spec : cP Tryz.prog 142 bH.K := by
  refine cP.of (bQ (F := [(109, bX.C)]) (S := []) (by simpa using bX.spec) (by simp) bH.loops) bH.at bH.nm bH.bd ?_
  intro args h K hC
  unfold bH.K at hC
  split at hC
  · rw [bH.eq]; exact hC
  · exact hC.elim
theorem aKO (A : SkT) (m : bD → Bool) (v : Nat) (l : List RecT) (T : List AObj) (hTn : OkT T) (n lo hi a : Nat) (hn : n = l.length) (hlo : lo ≤ n) (hah : a + hi ≤ n) (hr : roomy n) (hh : qN a (lo + 1) hi l) (K : AOut → List AObj → Prop)
    (hK : ∀ l', SegP a (a + hi) l l' → qN a lo hi l' → K (.ret (.tup [])) (hpS A m v l' T)) :
    bH.K [.sref false 2 v 0 n, .int .i64 lo, .int .i64 hi, .int .i64 a, hitF] (hpS A m v l T) K := by
  have hr' := hr
  unfold roomy at hr'
  have h2 : 2 < T.length + 1 + 1 + 1 := by omega
  unfold bH.K bH.H
  simp only [hpS, hTn _ _, SkT.norm, h2, aA, gq, reduceEq, reduceLT, reduceLE, implies_true, reduceCtorEq, if_true, if_false, go_sem, reduceEqDiff, Nat.reduceLT, reduceAdd, reduceSub, reduceLeDiff, reduceReplicate, reduceToNat] at hK ⊢
  unfold bH.L1
  refine lF (σ := List RecT × Nat) (fun s => .int .i64 s.2) (fun s => .box A.V :: .map (.sb m) :: .row .own v (.recs s.1) :: T) (fun s => n + 1 - s.2) (fun s => lo ≤ s.2 ∧ s.2 ≤ n ∧ SegP a (a + hi) l s.1 ∧ uS a lo s.2 hi s.1) (l, lo) rfl rfl ⟨Nat.le_refl _, hlo, SegP.refl, uS.begin hh⟩ ?_
  rintro I back ⟨l1, r⟩ ⟨hr1, hr2, hp, hs⟩
  simp only at hr1 hr2 hp hs ⊢
  have hl1 := hp.len
  have e1 : IntKind.i64.wrap (2 * (r : Int)) = ((2 * r : Nat) : Int) := by rw [w64 (by omega) (by omega)]; omega
  have e2 : ∀ k : Nat, k ≤ 4 * n + 4 → IntKind.i64.wrap ((a : Int) + (k : Int)) = ((a + k : Nat) : Int) := fun k hk => by rw [w64 (by omega) (by omega)]; omega
  simp only [hTn _ _, SkT.norm, h2, aA, e1, eS (show 2 * r < 4611686018427387904 by omega), eS (show 2 * r + 1 < 4611686018427387904 by omega), e2 (2 * r + 1) (by omega), e2 r (by omega), eS (show a + (2 * r + 1) < 4611686018427387904 by omega), aA, gq, reduceEq, reduceLT, reduceLE, implies_true, reduceCtorEq, if_true, if_false, go_sem, reduceEqDiff, Nat.reduceLT, reduceAdd, reduceSub, reduceLeDiff, reduceReplicate, reduceToNat]
  refine ⟨fun hge => hK l1 hp (hs.done fun c hc hch => by omega), fun hlt => ?_⟩
  have e3 : ∀ c : Nat, c ≤ 2 * r + 2 → IntKind.i64.wrap ((a : Int) + (c : Int)) = ((a + c : Nat) : Int) := fun c hc => e2 c (by omega)
  have hfin : ∀ c : Nat, (c = 2 * r + 1 ∨ c = 2 * r + 2) → c < hi → (∀ d, (d = 2 * r + 1 ∨ d = 2 * r + 2) → d < hi → leB (kyL l1 (a + d)) (kyL l1 (a + c))) → ltB (kyL l1 (a + r)) (kyL l1 (a + c)) = true →
      ∃ m_1, m_1 < n + 1 - r ∧ I m_1 [.int .i64 c] (.box A.V :: .map (.sb m) :: .row .own v (.recs (gX l1 (a + r) (a + c))) :: T) := fun c h1 h3 h4 h5 =>
    back (gX l1 (a + r) (a + c), c) (by simp only; omega) rfl rfl ⟨by simp only; omega, by simp only; omega, hp.trans (SegP.swap (by omega) (by omega) (by omega) (by omega) (by omega)), hs.step hr1 h1 h3 (by omega) (rD h5) h4⟩
  have hstop : ∀ c : Nat, (c = 2 * r + 1 ∨ c = 2 * r + 2) → c < hi → (∀ d, (d = 2 * r + 1 ∨ d = 2 * r + 2) → d < hi → leB (kyL l1 (a + d)) (kyL l1 (a + c))) → ltB (kyL l1 (a + r)) (kyL l1 (a + c)) = false → qN a lo hi l1 := fun c h1 h3 h4 h5 =>
    hs.done fun d q1 q2 => tQ (h4 d q1 q2) h5
  by_cases h22 : 2 * r + 2 < hi
  rotate_left
  · have d1 : decide (((2 * r + 1 + 1 : Nat) : Int) < (hi : Int)) = false := decide_eq_false (by omega)
    have hle : ∀ d, (d = 2 * r + 1 ∨ d = 2 * r + 2) → d < hi → leB (kyL l1 (a + d)) (kyL l1 (a + (2 * r + 1))) := fun d q1 q2 => by
      obtain rfl : d = 2 * r + 1 := by omega
      exact yZ _
    cases hlt2 : ltB (kyL l1 (a + r)) (kyL l1 (a + (2 * r + 1))) with
    | false =>
      simp only [hTn _ _, SkT.norm, h2, aA, d1, hlt2, e3 (2 * r + 1) (by omega), Int.toNat_natCast, bX.C, iW, iO, jI, jR, iQ, List.length_set, aA, gq, reduceEq, reduceLT, reduceLE, implies_true, reduceCtorEq, if_true, if_false, go_sem, reduceEqDiff, Nat.reduceLT, reduceAdd, reduceSub, reduceLeDiff, reduceReplicate, reduceToNat]
      exact ⟨⟨by omega, by omega⟩, by omega, ⟨by omega, by omega⟩, by omega, hK l1 hp (hstop _ (.inl rfl) (by omega) hle hlt2)⟩
    | true =>
      simp only [hTn _ _, SkT.norm, h2, aA, d1, hlt2, e3 (2 * r + 1) (by omega), Int.toNat_natCast, bX.C, iW, iO, jI, jR, iQ, List.length_set, aA, gq, reduceEq, reduceLT, reduceLE, implies_true, reduceCtorEq, if_true, if_false, go_sem, reduceEqDiff, Nat.reduceLT, reduceAdd, reduceSub, reduceLeDiff, reduceReplicate, reduceToNat]
      exact ⟨⟨by omega, by omega⟩, by omega, ⟨by omega, by omega⟩, by omega, ⟨by omega, by omega⟩, by omega, ⟨by omega, by omega⟩, by omega, ⟨by omega, by omega⟩, by omega, ⟨by omega, by omega⟩, by omega, hfin _ (.inl rfl) (by omega) hle hlt2⟩
  · have d1 : decide (((2 * r + 1 + 1 : Nat) : Int) < (hi : Int)) = true := decide_eq_true (by omega)
    cases hch : ltB (kyL l1 (a + (2 * r + 1))) (kyL l1 (a + (2 * r + 1) + 1)) with
    | false =>
      have hle : ∀ d, (d = 2 * r + 1 ∨ d = 2 * r + 2) → d < hi → leB (kyL l1 (a + d)) (kyL l1 (a + (2 * r + 1))) := fun d q1 q2 => by
        rcases q1 with rfl | rfl
        · exact yZ _
        · exact hch
      cases hlt2 : ltB (kyL l1 (a + r)) (kyL l1 (a + (2 * r + 1))) with
      | false =>
        simp only [hTn _ _, SkT.norm, h2, aA, d1, hch, hlt2, e3 (2 * r + 1) (by omega), Int.toNat_natCast, bX.C, iW, iO, jI, jR, iQ, List.length_set, aA, gq, reduceEq, reduceLT, reduceLE, implies_true, reduceCtorEq, if_true, if_false, go_sem, reduceEqDiff, Nat.reduceLT, reduceAdd, reduceSub, reduceLeDiff, reduceReplicate, reduceToNat]
        exact ⟨⟨by omega, by omega⟩, by omega, ⟨by omega, by omega⟩, by omega, ⟨by omega, by omega⟩, by omega, ⟨by omega, by omega⟩, by omega, hK l1 hp (hstop _ (.inl rfl) (by omega) hle hlt2)⟩
      | true =>
        simp only [hTn _ _, SkT.norm, h2, aA, d1, hch, hlt2, e3 (2 * r + 1) (by omega), Int.toNat_natCast, bX.C, iW, iO, jI, jR, iQ, List.length_set, aA, gq, reduceEq, reduceLT, reduceLE, implies_true, reduceCtorEq, if_true, if_false, go_sem, reduceEqDiff, Nat.reduceLT, reduceAdd, reduceSub, reduceLeDiff, reduceReplicate, reduceToNat]
        exact ⟨⟨by omega, by omega⟩, by omega, ⟨by omega, by omega⟩, by omega, ⟨by omega, by omega⟩, by omega, ⟨by omega, by omega⟩, by omega, ⟨by omega, by omega⟩, by omega, ⟨by omega, by omega⟩, by omega, ⟨by omega, by omega⟩, by omega, ⟨by omega, by omega⟩, by omega, hfin _ (.inl rfl) (by omega) hle hlt2⟩
    | true =>
      have hle : ∀ d, (d = 2 * r + 1 ∨ d = 2 * r + 2) → d < hi → leB (kyL l1 (a + d)) (kyL l1 (a + (2 * r + 1 + 1))) := fun d q1 q2 => by
        rcases q1 with rfl | rfl
        · exact rD hch
        · exact yZ _
      cases hlt2 : ltB (kyL l1 (a + r)) (kyL l1 (a + (2 * r + 1 + 1))) with
      | false =>
        simp only [hTn _ _, SkT.norm, h2, aA, d1, hch, hlt2, e3 (2 * r + 1 + 1) (by omega), Int.toNat_natCast, bX.C, iW, iO, jI, jR, iQ, List.length_set, aA, gq, reduceEq, reduceLT, reduceLE, implies_true, reduceCtorEq, if_true, if_false, go_sem, reduceEqDiff, Nat.reduceLT, reduceAdd, reduceSub, reduceLeDiff, reduceReplicate, reduceToNat]
        exact ⟨⟨by omega, by omega⟩, by omega, ⟨by omega, by omega⟩, by omega, ⟨by omega, by omega⟩, by omega, ⟨by omega, by omega⟩, by omega, hK l1 hp (hstop _ (.inr rfl) (by omega) hle hlt2)⟩
      | true =>
        simp only [hTn _ _, SkT.norm, h2, aA, d1, hch, hlt2, e3 (2 * r + 1 + 1) (by omega), Int.toNat_natCast, bX.C, iW, iO, jI, jR, iQ, List.length_set, aA, gq, reduceEq, reduceLT, reduceLE, implies_true, reduceCtorEq, if_true, if_false, go_sem, reduceEqDiff, Nat.reduceLT, reduceAdd, reduceSub, reduceLeDiff, reduceReplicate, reduceToNat]
        exact ⟨⟨by omega, by omega⟩, by omega, ⟨by omega, by omega⟩, by omega, ⟨by omega, by omega⟩, by omega, ⟨by omega, by omega⟩, by omega, ⟨by omega, by omega⟩, by omega, ⟨by omega, by omega⟩, by omega, ⟨by omega, by omega⟩, by omega, ⟨by omega, by omega⟩, by omega, hfin _ (.inr rfl) (by omega) hle hlt2⟩
def bB.K : Con := fun args h K => match args with
  | [a0, a1, a2, a3] => bB.H (ctx [] [(142, bH.K)] bB.loops) a0 a1 a2 a3 h K
  | _ => False
theorem bB.spec : cP Tryz.prog 127 bB.K := by
  refine cP.of (bQ (F := []) (S := [(142, bH.K)]) (by simp) (by simpa using bH.spec) bB.loops) bB.at bB.nm bB.bd ?_
  intro args h K hC
  unfold bB.K at hC
  split at hC
  · rw [bB.eq]; exact hC
  · exact hC.elim
theorem aNZ (A : SkT) (m : bD → Bool) (v : Nat) (l : List RecT) (T : List AObj) (hTn : OkT T) (n a b : Nat) (hn : n = l.length) (hab : a < b) (hbn : b ≤ n) (hr : roomy n) (K : AOut → List AObj → Prop)
    (hK : ∀ l', SegP a b l l' → SegS a b l' → K (.ret (.tup [])) (hpS A m v l' T)) :
    bB.K [.sref false 2 v 0 n, .int .i64 a, .int .i64 b, hitF] (hpS A m v l T) K := by
  have hr' := hr
  unfold roomy at hr'
  have h2 : 2 < T.length + 1 + 1 + 1 := by omega
  have e0 : IntKind.i64.wrap ((b : Int) - a) = ((b - a : Nat) : Int) := by rw [w64 (by omega) (by omega)]; omega
  have e1 : IntKind.i64.wrap (((b - a : Nat) : Int) - 1) = ((b - a - 1 : Nat) : Int) := by rw [w64 (by omega) (by omega)]; omega
  have e2 : IntKind.i64.wrap (((b - a - 1 : Nat) : Int).tdiv 2) = (((b - a - 1) / 2 + 1 : Nat) : Int) - 1 := by
    rw [Int.tdiv_eq_ediv_of_nonneg (by omega), w64 (by omega) (by omega)]; omega
  unfold bB.K bB.H
  simp only [hpS, hTn _ _, SkT.norm, h2, e0, e1, e2, aA, gq, reduceEq, reduceLT, reduceLE, implies_true, reduceCtorEq, if_true, if_false, go_sem, reduceEqDiff, Nat.reduceLT, reduceAdd, reduceSub, reduceLeDiff, reduceReplicate, reduceToNat] at hK ⊢
  unfold bB.L1
  refine lF (σ := List RecT × Nat) (fun s => .int .i64 ((s.2 : Int) - 1)) (fun s => .box A.V :: .map (.sb m) :: .row .own v (.recs s.1) :: T) (fun s => s.2) (fun s => s.2 ≤ n ∧ SegP a b l s.1 ∧ qN a s.2 (b - a) s.1) (l, (b - a - 1) / 2 + 1) rfl rfl ⟨by simp only; omega, SegP.refl, fun i c q1 q2 q3 => by simp only at q1; omega⟩ ?_
  rintro I back ⟨l1, k⟩ ⟨hk, hp, hh⟩
  simp only at hk hp hh ⊢
  have hl1 := hp.len
  have e3 : IntKind.i64.wrap ((k : Int) - 1 - 1) = ((k - 1 : Nat) : Int) - 1 ∨ k = 0 := by
    rcases Nat.eq_zero_or_pos k with h | h
    · exact .inr h
    · left; rw [w64 (by omega) (by omega)]; omega
  by_cases hk0 : k = 0
  rotate_left
  · have e3 := e3.resolve_right hk0
    have d1 : decide ((0 : Int) ≤ (k : Int) - 1) = true := decide_eq_true (by omega)
    have e4 : (k : Int) - 1 = ((k - 1 : Nat) : Int) := by omega
    rw [e4] at e3 d1 ⊢
    simp only [hTn _ _, SkT.norm, h2, aA, d1, aA, gq, reduceEq, reduceLT, reduceLE, implies_true, reduceCtorEq, if_true, if_false, go_sem, reduceEqDiff, Nat.reduceLT, reduceAdd, reduceSub, reduceLeDiff, reduceReplicate, reduceToNat]
    refine aKO A m v l1 T hTn n (k - 1) (b - a) a (by omega) (by omega) (by omega) hr (by rw [show k - 1 + 1 = k by omega]; exact hh) _ fun l2 p2 h2' => ?_
    simp only [hpS, hTn _ _, SkT.norm, h2, e3, aA, gq, reduceEq, reduceLT, reduceLE, implies_true, reduceCtorEq, if_true, if_false, go_sem, reduceEqDiff, Nat.reduceLT, reduceAdd, reduceSub, reduceLeDiff, reduceReplicate, reduceToNat]
    exact back (l2, k - 1) (by simp only; omega) rfl rfl ⟨by simp only; omega, hp.trans (p2.mono (Nat.le_refl _) (by omega)), h2'⟩
  subst hk0
  have e5 : IntKind.i64.wrap (((b - a : Nat) : Int) - 1) = ((b - a : Nat) : Int) - 1 := w64 (by omega) (by omega)
  simp only [hTn _ _, SkT.norm, h2, aA, e5, aA, gq, reduceEq, reduceLT, reduceLE, implies_true, reduceCtorEq, if_true, if_false, go_sem, reduceEqDiff, Nat.reduceLT, reduceAdd, reduceSub, reduceLeDiff, reduceReplicate, reduceToNat]
  refine ⟨fun h => absurd h (by omega), fun _ => ?_⟩
  unfold bB.L2
  refine lF (σ := List RecT × Nat) (fun s => .int .i64 ((s.2 : Int) - 1)) (fun s => .box A.V :: .map (.sb m) :: .row .own v (.recs s.1) :: T) (fun s => s.2) (fun s => s.2 ≤ b - a ∧ SegP a b l s.1 ∧ qO a s.2 b s.1) (l1, b - a) rfl rfl ⟨Nat.le_refl _, hp, qO.begin (by omega) hh⟩ ?_
  rintro I2 back2 ⟨l2, k⟩ ⟨hk, hp2, hd⟩
  simp only at hk hp2 hd ⊢
  have hl2 := hp2.len
  by_cases hk0 : k = 0
  · subst hk0
    simp only [hTn _ _, SkT.norm, h2, aA, aA, gq, reduceEq, reduceLT, reduceLE, implies_true, reduceCtorEq, if_true, if_false, go_sem, reduceEqDiff, Nat.reduceLT, reduceAdd, reduceSub, reduceLeDiff, reduceReplicate, reduceToNat]
    exact ⟨fun h => absurd h (by omega), fun _ => hK l2 hp2 hd.fin⟩
  · have d1 : decide ((0 : Int) ≤ (k : Int) - 1) = true := decide_eq_true (by omega)
    have e3 : IntKind.i64.wrap ((k : Int) - 1 - 1) = ((k - 1 : Nat) : Int) - 1 := by rw [w64 (by omega) (by omega)]; omega
    have e4 : (k : Int) - 1 = ((k - 1 : Nat) : Int) := by omega
    have e6 : IntKind.i64.wrap ((a : Int) + ((k - 1 : Nat) : Int)) = ((a + (k - 1) : Nat) : Int) := by rw [w64 (by omega) (by omega)]; omega
    rw [e4] at e3 d1 ⊢
    have hd' : qO a (k - 1 + 1) b l2 := by rw [show k - 1 + 1 = k by omega]; exact hd
    simp only [hTn _ _, SkT.norm, h2, aA, d1, e6, Int.toNat_natCast, iW, jR, iQ, List.length_set, aA, gq, reduceEq, reduceLT, reduceLE, implies_true, reduceCtorEq, if_true, if_false, go_sem, reduceEqDiff, Nat.reduceLT, reduceAdd, reduceSub, reduceLeDiff, reduceReplicate, reduceToNat]
    refine ⟨⟨by omega, by omega⟩, by omega, ⟨by omega, by omega⟩, by omega, ⟨by omega, by omega⟩, by omega, ⟨by omega, by omega⟩, by omega, ?_⟩
    refine aKO A m v (gX l2 a (a + (k - 1))) T hTn n 0 (k - 1) a (by rw [nM]; omega) (Nat.zero_le _) (by omega) hr (hd'.heap (by omega) (by omega)) _ fun l3 p3 h3 => ?_
    simp only [hpS, hTn _ _, SkT.norm, h2, e3, aA, gq, reduceEq, reduceLT, reduceLE, implies_true, reduceCtorEq, if_true, if_false, go_sem, reduceEqDiff, Nat.reduceLT, reduceAdd, reduceSub, reduceLeDiff, reduceReplicate, reduceToNat]
    exact back2 (l3, k - 1) (by simp only; omega) rfl rfl ⟨by simp only; omega, hp2.trans ((SegP.swap (Nat.le_refl _) (by omega) (by omega) (by omega) (by omega)).trans (p3.mono (Nat.le_refl _) (by omega))), hd'.next (by omega) (by omega) p3 h3⟩
theorem aOa {a b : Int} (h0 : 0 ≤ b) (h1 : b < 18446744073709551616) : 0 ≤ andI .u64 a b ∧ andI .u64 a b ≤ b := by
  unfold andI
  have h := aKr ((BitVec.ofInt IntKind.u64.bits a &&& BitVec.ofInt IntKind.u64.bits b).toNat : Int)
  refine ⟨h.1, ?_⟩
  have e : (BitVec.ofInt IntKind.u64.bits b).toNat = b.toNat := by
    show (BitVec.ofInt 64 b).toNat = _
    rw [BitVec.toNat_ofInt]; omega
  have hle : (BitVec.ofInt IntKind.u64.bits a &&& BitVec.ofInt IntKind.u64.bits b).toNat ≤ b.toNat := by
    rw [BitVec.toNat_and, e]; exact Nat.and_le_right
  rw [aAp (by omega) (by omega)]
  omega
def cM.K : Con := fun args h K => match args with
  | [a0] => cM.H (ctx [] [] cM.loops) a0 h K
  | _ => False
theorem cM.spec : cP Tryz.prog 144 cM.K := by
  refine cP.of (bQ (F := []) (S := []) (by simp) (by simp) cM.loops) cM.at cM.nm cM.bd ?_
  intro args h K hC
  unfold cM.K at hC
  split at hC
  · rw [cM.eq]; exact hC
  · exact hC.elim
theorem aOb (A : SkT) (m : bD → Bool) (v : Nat) (l : List RecT) (T : List AObj) (hTn : OkT T) (x : Int) (K : AOut → List AObj → Prop)
    (hK : ∀ y : Int, K (.ret (.int .u64 y)) (hpS A m v l (T ++ [.box (.int .u64 y)]))) :
    cM.K [.ptr (T.length + 1 + 1 + 1) []] (hpS A m v l (T ++ [.box (.int .u64 x)])) K := by
  unfold cM.K cM.H
  simp only [hpS, qV, zA, List.map_cons, List.map_nil, aA, gq, reduceEq, reduceLT, reduceLE, implies_true, reduceCtorEq, if_true, if_false, go_sem, reduceEqDiff, Nat.reduceLT, reduceAdd, reduceSub, reduceLeDiff, reduceReplicate, reduceToNat] at hK ⊢
  exact hK _
end Lam
namespace Lam
open Go Go.Proofs
def lenN (n : Nat) : Nat := if n = 0 then 0 else if n < 2 then 1 else if n < 4 then 2 else if n < 8 then 3 else if n < 16 then 4 else if n < 32 then 5 else if n < 64 then 6 else if n < 128 then 7 else 8
def aMz : bD := [0, 1, 2, 2, 3, 3, 3, 3, 4, 4, 4, 4, 4, 4, 4, 4, 5, 5, 5, 5, 5, 5, 5, 5, 5, 5, 5, 5, 5, 5, 5, 5, 6, 6, 6, 6, 6, 6, 6, 6, 6, 6, 6, 6, 6, 6, 6, 6, 6, 6, 6, 6, 6, 6, 6, 6, 6, 6, 6, 6, 6, 6, 6, 6, 7, 7, 7, 7, 7, 7, 7, 7, 7, 7, 7, 7, 7, 7, 7, 7, 7, 7, 7, 7, 7, 7, 7, 7, 7, 7, 7, 7, 7, 7, 7, 7, 7, 7, 7, 7, 7, 7, 7, 7, 7, 7, 7, 7, 7, 7, 7, 7, 7, 7, 7, 7, 7, 7, 7, 7, 7, 7, 7, 7, 7, 7, 7, 7, 8, 8, 8, 8, 8, 8, 8, 8, 8, 8, 8, 8, 8, 8, 8, 8, 8, 8, 8, 8, 8, 8, 8, 8, 8, 8, 8, 8, 8, 8, 8, 8, 8, 8, 8, 8, 8, 8, 8, 8, 8, 8, 8, 8, 8, 8, 8, 8, 8, 8, 8, 8, 8, 8, 8, 8, 8, 8, 8, 8, 8, 8, 8, 8, 8, 8, 8, 8, 8, 8, 8, 8, 8, 8, 8, 8, 8, 8, 8, 8, 8, 8, 8, 8, 8, 8, 8, 8, 8, 8, 8, 8, 8, 8, 8, 8, 8, 8, 8, 8, 8, 8, 8, 8, 8, 8, 8, 8, 8, 8, 8, 8, 8, 8, 8, 8, 8, 8, 8, 8, 8, 8, 8, 8, 8, 8, 8, 8]
theorem aLS : ∀ k, k < 256 → (aMz.getD k 0).toNat = lenN k := by decide +kernel
theorem aLT : ∀ k, k < 256 → 8 ≤ k → 1 ≤ 2 ^ lenN k ∧ 2 ^ lenN k ≤ 2 * k ∧ lenN k ≤ 8 := by decide +kernel
theorem aIh : ∀ k, k < 256 → lenN k ≤ 8 := by decide +kernel
def dX.C : aE
  | [.int .u64 n] => some (false, pD (0 ≤ n ∧ n < 256) (.int .i64 (lenN n.toNat)))
  | _ => none
theorem dX.spec : bN Tryz.prog 135 dX.C := by
  refine bN.of (bQ (F := []) (S := []) (by simp) (by simp) dX.loops) dX.at dX.nm dX.bd ?_
  intro vs b S v news e hS
  unfold dX.C at e
  split at e
  rotate_left
  · cases e
  cases e
  rw [dX.eq]
  unfold dX.H
  simp (maxSteps := 4000000) only [go_sem, reduceEqDiff, Nat.reduceLT, reduceAdd, reduceSub, reduceLeDiff, reduceReplicate, reduceToNat]
  rename_i n
  have d1 : decide ((4294967296 : Int) ≤ n) = false := decide_eq_false (by omega)
  have d2 : decide ((65536 : Int) ≤ n) = false := decide_eq_false (by omega)
  have d3 : decide ((256 : Int) ≤ n) = false := decide_eq_false (by omega)
  have g1 : ¬ (4294967296 : Int) ≤ n := by omega
  have g2 : IntKind.u8.wrap n = n := by simp [IntKind.wrap, IntKind.bits, IntKind.signed]; omega
  simp only [g1, d1, d2, d3, g2, aA, aA, gq, reduceEq, reduceLT, reduceLE, implies_true, reduceCtorEq, if_true, if_false, go_sem, reduceEqDiff, Nat.reduceLT, reduceAdd, reduceSub, reduceLeDiff, reduceReplicate, reduceToNat]
  refine ⟨hS, ?_⟩
  show Post false (.int .i64 (lenN n.toNat)) [] (.ret (.int .i64 (IntKind.i64.wrap (0 + IntKind.i64.wrap ((aMz.getD n.toNat 0).toNat : Int))))) []
  have h8 := aIh n.toNat (by omega)
  rw [aLS n.toNat (by omega), w64 (n := (lenN n.toNat : Int)) (by omega) (by omega), Int.zero_add, w64 (by omega) (by omega)]
  exact aH rfl rfl
def dO.C : aE
  | [.int .u64 n] => some (false, pD (0 ≤ n ∧ n < 256) (.int .i64 (lenN n.toNat)))
  | _ => none
theorem dO.spec : bN Tryz.prog 120 dO.C := by
  refine bN.of (bQ (F := [(135, dX.C)]) (S := []) (by simpa using dX.spec) (by simp) dO.loops) dO.at dO.nm dO.bd ?_
  intro vs b S v news e hS
  unfold dO.C at e
  split at e
  rotate_left
  · cases e
  cases e
  rw [dO.eq]
  unfold dO.H
  simp (maxSteps := 4000000) only [go_sem, reduceEqDiff, Nat.reduceLT, reduceAdd, reduceSub, reduceLeDiff, reduceReplicate, reduceToNat, dX.C]
  rename_i n
  exact ⟨hS, aH rfl rfl⟩
def cO.C : aE
  | [.int .i64 n] => some (false, pD (0 ≤ n ∧ n < 256) (.int .u64 (2 ^ lenN n.toNat : Nat)))
  | _ => none
theorem cO.spec : bN Tryz.prog 143 cO.C := by
  refine bN.of (bQ (F := [(120, dO.C)]) (S := []) (by simpa using dO.spec) (by simp) cO.loops) cO.at cO.nm cO.bd ?_
  intro vs b S v news e hS
  unfold cO.C at e
  split at e
  rotate_left
  · cases e
  cases e
  rw [cO.eq]
  unfold cO.H
  simp (maxSteps := 4000000) only [go_sem, reduceEqDiff, Nat.reduceLT, reduceAdd, reduceSub, reduceLeDiff, reduceReplicate, reduceToNat, dO.C]
  rename_i n
  have g2 : IntKind.u64.wrap n = n := aAp (by omega) (by omega)
  have h8 := aIh n.toNat (by omega)
  simp only [g2, dO.C, aA, gq, reduceEq, reduceLT, reduceLE, implies_true, reduceCtorEq, if_true, if_false, go_sem, reduceEqDiff, Nat.reduceLT, reduceAdd, reduceSub, reduceLeDiff, reduceReplicate, reduceToNat]
  refine ⟨hS.2, by omega, ?_⟩
  have h2 : 2 ^ lenN n.toNat ≤ 2 ^ 8 := Nat.pow_le_pow_right (by decide) h8
  have e : (2 : Int) ^ lenN n.toNat = ((2 ^ lenN n.toNat : Nat) : Int) := by rw [Int.natCast_pow]; rfl
  rw [Nat.min_eq_left (by omega), Int.one_mul, e]
  generalize 2 ^ lenN n.toNat = P at *
  rw [aAp (n := (P : Int)) (by omega) (by omega)]
  exact aH rfl rfl
def aV.K : Con := fun args h K => match args with
  | [a0, a1, a2, a3] => aV.H (ctx [(143, cO.C)] [(144, cM.K)] aV.loops) a0 a1 a2 a3 h K
  | _ => False
theorem aV.spec : cP Tryz.prog 128 aV.K := by
  refine cP.of (bQ (F := [(143, cO.C)]) (S := [(144, cM.K)]) (by simpa using cO.spec) (by simpa using cM.spec) aV.loops) aV.at aV.nm aV.bd ?_
  intro args h K hC
  unfold aV.K at hC
  split at hC
  · rw [aV.eq]; exact hC
  · exact hC.elim
theorem aMX (A : SkT) (m : bD → Bool) (v : Nat) (l : List RecT) (T : List AObj) (hTn : OkT T) (n a b : Nat) (hn : n = l.length) (hab : a + 8 ≤ b) (hbn : b ≤ n) (h255 : b < a + 256) (hr : roomy n) (K : AOut → List AObj → Prop)
    (hK : ∀ l' y, SegP a b l l' → K (.ret (.tup [])) (hpS A m v l' (T ++ [.box (.int .u64 y)]))) :
    aV.K [.sref false 2 v 0 n, .int .i64 a, .int .i64 b, hitF] (hpS A m v l T) K := by
  have hr' := hr
  unfold roomy at hr'
  have h2 : 2 < T.length + 1 + 1 + 1 := by omega
  obtain ⟨len, hlen⟩ : ∃ len, b - a = len := ⟨_, rfl⟩
  have hl8 : 8 ≤ len := by omega
  have hpw := aLT len (by omega) hl8
  obtain ⟨P, hP⟩ : ∃ P, 2 ^ lenN len = P := ⟨_, rfl⟩
  rw [hP] at hpw
  have e0 : IntKind.i64.wrap ((b : Int) - a) = (len : Int) := by rw [w64 (by omega) (by omega)]; omega
  have e1 : IntKind.i64.wrap ((len : Int).tdiv 4) = ((len / 4 : Nat) : Int) := by rw [Int.tdiv_eq_ediv_of_nonneg (by omega), w64 (by omega) (by omega)]; omega
  obtain ⟨q, hq⟩ : ∃ q, len / 4 = q := ⟨_, rfl⟩
  rw [hq] at e1
  have e2 : IntKind.i64.wrap ((q : Int) * 2) = ((q * 2 : Nat) : Int) := by rw [w64 (by omega) (by omega)]; omega
  have e3 : IntKind.i64.wrap ((a : Int) + ((q * 2 : Nat) : Int)) = ((a + q * 2 : Nat) : Int) := by rw [w64 (by omega) (by omega)]; omega
  have e4 : IntKind.i64.wrap (((a + q * 2 : Nat) : Int) - 1) = ((a + q * 2 - 1 : Nat) : Int) := by rw [w64 (by omega) (by omega)]; omega
  have e5 : IntKind.u64.wrap ((P : Int) - 1) = (P : Int) - 1 := aAp (by omega) (by omega)
  have d1 : decide ((8 : Int) ≤ (len : Int)) = true := decide_eq_true (by omega)
  unfold aV.K aV.H
  have hT1 : ∀ y k h, (T ++ [AObj.box (.int .u64 y)]).map (rI k h) = T ++ [AObj.box (.int .u64 y)] := fun y => hTn.snoc .u64 y
  have hL1 : ∀ y : AObj, (T ++ [y]).length = T.length + 1 := fun y => by simp
  have hTk : ∀ y : AObj, (T ++ [y]).take (T.length + 1) = T ++ [y] := fun y => List.take_of_length_le (by simp)
  have h3 : T.length + 1 + 1 + 1 < T.length + 1 + 1 + 1 + 1 := by omega
  have h4 : 2 < T.length + 1 + 1 + 1 + 1 := by omega
  simp only [hpS, hTn _ _, hT1, hL1, qV, zA, SkT.norm, h2, h3, h4, e0, e1, e2, e3, e4, d1, aA, cO.C, Int.toNat_natCast, hP, aA, gq, reduceEq, reduceLT, reduceLE, implies_true, reduceCtorEq, if_true, if_false, go_sem, reduceEqDiff, Nat.reduceLT, reduceAdd, reduceSub, reduceLeDiff, reduceReplicate, reduceToNat] at hK ⊢
  refine ⟨⟨by omega, by omega⟩, ?_⟩
  unfold aV.L1
  refine lF (σ := List RecT × Nat × Int) (fun s => .int .i64 s.2.1) (fun s => .box A.V :: .map (.sb m) :: .row .own v (.recs s.1) :: (T ++ [.box (.int .u64 s.2.2)])) (fun s => a + q * 2 + 2 - s.2.1) (fun s => a + q * 2 - 1 ≤ s.2.1 ∧ s.2.1 ≤ a + q * 2 + 2 ∧ SegP a b l s.1) (l, a + q * 2 - 1, IntKind.u64.wrap len) rfl rfl ⟨Nat.le_refl _, by simp only; omega, SegP.refl⟩ ?_
  rintro I back ⟨l1, i, x⟩ ⟨hi1, hi2, hp⟩
  simp only at hi1 hi2 hp ⊢
  have hl1 := hp.len
  simp only [e1, e2, e3, eS (show a + q * 2 < 4611686018427387904 by omega), hT1, hL1, SkT.norm, h2, h3, h4, aA, aA, gq, reduceEq, reduceLT, reduceLE, implies_true, reduceCtorEq, if_true, if_false, go_sem, reduceEqDiff, Nat.reduceLT, reduceAdd, reduceSub, reduceLeDiff, reduceReplicate, reduceToNat]
  refine ⟨fun hle => ?_, fun hgt => hK l1 x hp⟩
  refine aOb A m v l1 T hTn x _ fun y => ?_
  obtain ⟨z0, z1⟩ := aOa (a := y) (b := (P : Int) - 1) (by omega) (by omega)
  have hlt : ∀ c : Nat, c < len → ∃ m_1, m_1 < a + q * 2 + 2 - i ∧ I m_1 [.int .i64 ((i + 1 : Nat) : Int)] (.box A.V :: .map (.sb m) :: .row .own v (.recs (gX l1 i (a + c))) :: (T ++ [.box (.int .u64 y)])) := fun c hc =>
    back (gX l1 i (a + c), i + 1, y) (by simp only; omega) rfl rfl ⟨by simp only; omega, by simp only; omega, hp.trans (SegP.swap (by omega) (by omega) (by omega) (by omega) (by omega))⟩
  obtain ⟨c, hc⟩ : ∃ c : Nat, andI .u64 y ((P : Int) - 1) = c := ⟨(andI .u64 y ((P : Int) - 1)).toNat, by omega⟩
  have e6 : IntKind.i64.wrap (c : Int) = c := w64 (by omega) (by omega)
  have e7 : ∀ c : Nat, c < len → IntKind.i64.wrap ((a : Int) + (c : Int)) = ((a + c : Nat) : Int) := fun c hc => by rw [w64 (by omega) (by omega)]; omega
  have e8 : len ≤ c → IntKind.i64.wrap ((c : Int) - (len : Int)) = ((c - len : Nat) : Int) := fun h => by rw [w64 (by omega) (by omega)]; omega
  rw [hc] at z0 z1
  simp only [hpS, hT1, hL1, qV, SkT.norm, h2, h3, h4, e5, hc, e6, aA, eS (show i < 4611686018427387904 by omega), aA, gq, reduceEq, reduceLT, reduceLE, implies_true, reduceCtorEq, if_true, if_false, go_sem, reduceEqDiff, Nat.reduceLT, reduceAdd, reduceSub, reduceLeDiff, reduceReplicate, reduceToNat]
  refine ⟨fun hge => ?_, fun hnge => ?_⟩
  · have hcl : c - len < len := by omega
    simp only [hpS, hT1, hL1, SkT.norm, h2, h3, h4, e8 (by omega), e7 _ hcl, aA, Int.toNat_natCast, iW, iO, jR, iQ, List.length_set, hTk, eS (show i < 4611686018427387904 by omega), aA, gq, reduceEq, reduceLT, reduceLE, implies_true, reduceCtorEq, if_true, if_false, go_sem, reduceEqDiff, Nat.reduceLT, reduceAdd, reduceSub, reduceLeDiff, reduceReplicate, reduceToNat]
    exact ⟨⟨by omega, by omega⟩, by omega, ⟨by omega, by omega⟩, by omega, ⟨by omega, by omega⟩, by omega, ⟨by omega, by omega⟩, by omega, hlt _ hcl⟩
  · have hcl : c < len := by omega
    simp only [hpS, hT1, hL1, SkT.norm, h2, h3, h4, e7 _ hcl, aA, Int.toNat_natCast, iW, iO, jR, iQ, List.length_set, hTk, eS (show i < 4611686018427387904 by omega), aA, gq, reduceEq, reduceLT, reduceLE, implies_true, reduceCtorEq, if_true, if_false, go_sem, reduceEqDiff, Nat.reduceLT, reduceAdd, reduceSub, reduceLeDiff, reduceReplicate, reduceToNat]
    exact ⟨⟨by omega, by omega⟩, by omega, ⟨by omega, by omega⟩, by omega, ⟨by omega, by omega⟩, by omega, ⟨by omega, by omega⟩, by omega, hlt _ hcl⟩
end Lam
namespace Lam
open Go Go.Proofs
theorem aCi {w : List Int} {b : Int} {n : Nd} (h : dJ w b = some n) : qM w b = .tup [n.V, .int .i64 0] := by
  unfold dJ at h
  unfold qM
  split at h
  · cases h
  · rename_i hb; rw [if_neg hb, h]
theorem aGE {w : List Int} {b : Int} (h : dJ w b = none) : ∃ e, e ≠ 0 ∧ qM w b = .tup [jL.V, .int .i64 e] := by
  unfold dJ at h
  unfold qM
  split at h
  · rename_i hb; rw [if_pos hb]; exact ⟨1, by decide, rfl⟩
  · rename_i hb; rw [if_neg hb, h]; exact ⟨90, by decide, rfl⟩
theorem aEO {w : List Int} {b : Int} {n : Rc} (h : recO w b = some n) : pF w b = .tup [n.V, .int .i64 0] := by
  unfold recO at h
  unfold pF
  split at h
  · cases h
  · rename_i hb; rw [if_neg hb, h]
theorem aKP {w : List Int} {b : Int} (h : recO w b = none) : ∃ e, e ≠ 0 ∧ pF w b = .tup [kE.V, .int .i64 e] := by
  unfold recO at h
  unfold pF
  split at h
  · rename_i hb; rw [if_pos hb]; exact ⟨1, by decide, rfl⟩
  · rename_i hb; rw [if_neg hb, h]; exact ⟨70, by decide, rfl⟩
structure Sk where
  block : Int
  turn : Int
  at_ : Int
  refs : List Int
  over : Bool
def Sk.V (s : Sk) : AV := .agg [.int .i64 s.block, .int .i64 s.turn, .int .i64 s.at_, .sl false (.ints .i64 s.refs), .bool s.over]
def mE (t : Int) : Bool := decide (andI .i64 t 1 = 1)
def eT.C : aE
  | [.agg [.int .i64 _, .int .i64 t, .int .i64 _, .sl _ (.ints .i64 _), .bool _]] => some (false, pD True (.bool (mE t)))
  | _ => none
theorem eT.spec : bN Tryz.prog 67 eT.C := by
  refine bN.of (bQ (F := []) (S := []) (by simp) (by simp) eT.loops) eT.at eT.nm eT.bd ?_
  intro vs b S v news e hS
  unfold eT.C at e
  split at e
  rotate_left
  · cases e
  cases e
  rw [eT.eq]
  unfold eT.H
  simp (maxSteps := 4000000) only [go_sem, reduceEqDiff, Nat.reduceLT, reduceAdd, reduceSub, reduceLeDiff, reduceReplicate, reduceToNat]
  exact aH rfl rfl
def skZ : Sk := ⟨0, 0, 0, [], false⟩
def qG (w : List Int) (b : Int) : Option Sk := match dJ w b with
  | some n => if 256 ≤ b then none else some ⟨b, n.turn, if mE n.turn = true then 12 else 0, [], false⟩
  | none => none
def yD (w : List Int) (b : Int) : AV := match qG w b with
  | some s => .tup [s.V, .int .i64 0]
  | none => .tup [skZ.V, .int .i64 90]
def fY.C : aE
  | [.sl _ (.ints .i64 w), .int .i64 b] => some (false, pD (roomy w.length) (yD w b))
  | _ => none
theorem fY.spec : bN Tryz.prog 40 fY.C := by
  refine bN.of (bQ (F := [(46, cK.C), (67, eT.C)]) (S := []) (by simpa using ⟨cK.spec, eT.spec⟩) (by simp) fY.loops) fY.at fY.nm fY.bd ?_
  intro vs b S v news e hS
  unfold fY.C at e
  split at e
  rotate_left
  · cases e
  cases e
  rw [fY.eq]
  unfold fY.H
  simp (maxSteps := 4000000) only [go_sem, reduceEqDiff, Nat.reduceLT, reduceAdd, reduceSub, reduceLeDiff, reduceReplicate, reduceToNat, cK.C, eT.C]
  rename_i w b
  unfold yD qG
  cases hn : dJ w b with
  | none =>
    obtain ⟨e, he, hr⟩ := aGE hn
    simp only [hr, jL, he, decide_true, decide_false, aA, skZ, Sk.V, aA, gq, reduceEq, reduceLT, reduceLE, implies_true, reduceCtorEq, if_true, if_false, go_sem, reduceEqDiff, Nat.reduceLT, reduceAdd, reduceSub, reduceLeDiff, reduceReplicate, reduceToNat]
    exact ⟨hS, aH rfl rfl⟩
  | some n =>
    obtain ⟨n1, n2, n3, n4, n5⟩ := n
    by_cases hb : 256 ≤ b
    · simp only [aCi hn, hb, if_true, decide_true, aA, skZ, Sk.V, aA, gq, reduceEq, reduceLT, reduceLE, implies_true, reduceCtorEq, if_true, if_false, go_sem, reduceEqDiff, Nat.reduceLT, reduceAdd, reduceSub, reduceLeDiff, reduceReplicate, reduceToNat]
      exact ⟨hS, aH rfl rfl⟩
    · simp only [aCi hn, hb, if_false, decide_false, eT.C, aA, Sk.V, aA, gq, reduceEq, reduceLT, reduceLE, implies_true, reduceCtorEq, if_true, if_false, go_sem, reduceEqDiff, Nat.reduceLT, reduceAdd, reduceSub, reduceLeDiff, reduceReplicate, reduceToNat]
      cases hd : mE n2 with
      | true => simp only [if_true, aA, gq, reduceEq, reduceLT, reduceLE, implies_true, reduceCtorEq, if_true, if_false, go_sem, reduceEqDiff, Nat.reduceLT, reduceAdd, reduceSub, reduceLeDiff, reduceReplicate, reduceToNat]; exact ⟨hS, aH rfl rfl⟩
      | false => simp only [if_false, aA, gq, reduceEq, reduceLT, reduceLE, implies_true, reduceCtorEq, if_true, if_false, go_sem, reduceEqDiff, Nat.reduceLT, reduceAdd, reduceSub, reduceLeDiff, reduceReplicate, reduceToNat]; exact ⟨hS, aH rfl rfl⟩
def tV (w : List Int) (b t : Int) : Bool := match dJ w b with
  | some n => decide (n.turn = t)
  | none => false
def fZ.C : aE
  | [.sl _ (.ints .i64 w), .agg [.int .i64 b, .int .i64 t, .int .i64 _, .sl _ (.ints .i64 _), .bool _]] => some (false, pD (roomy w.length) (.bool (tV w b t)))
  | _ => none
theorem fZ.spec : bN Tryz.prog 71 fZ.C := by
  refine bN.of (bQ (F := [(46, cK.C)]) (S := []) (by simpa using cK.spec) (by simp) fZ.loops) fZ.at fZ.nm fZ.bd ?_
  intro vs b S v news e hS
  unfold fZ.C at e
  split at e
  rotate_left
  · cases e
  cases e
  rw [fZ.eq]
  unfold fZ.H
  simp (maxSteps := 4000000) only [go_sem, reduceEqDiff, Nat.reduceLT, reduceAdd, reduceSub, reduceLeDiff, reduceReplicate, reduceToNat, cK.C]
  rename_i _ w b t _ _ _ _
  unfold tV
  cases hn : dJ w b with
  | none =>
    obtain ⟨e, he, hr⟩ := aGE hn
    simp only [hr, jL, he, decide_true, decide_false, aA, aA, gq, reduceEq, reduceLT, reduceLE, implies_true, reduceCtorEq, if_true, if_false, go_sem, reduceEqDiff, Nat.reduceLT, reduceAdd, reduceSub, reduceLeDiff, reduceReplicate, reduceToNat]
    exact ⟨hS, aH rfl rfl⟩
  | some n =>
    obtain ⟨n1, n2, n3, n4, n5⟩ := n
    simp only [aCi hn, decide_true, aA, aA, gq, reduceEq, reduceLT, reduceLE, implies_true, reduceCtorEq, if_true, if_false, go_sem, reduceEqDiff, Nat.reduceLT, reduceAdd, reduceSub, reduceLeDiff, reduceReplicate, reduceToNat]
    exact ⟨hS, aH rfl rfl⟩
def dK.K : Con := fun args h K => match args with
  | [a0] => dK.H (ctx [] [] dK.loops) a0 h K
  | _ => False
theorem dK.spec : cP Tryz.prog 69 dK.K := by
  refine cP.of (bQ (F := []) (S := []) (by simp) (by simp) dK.loops) dK.at dK.nm dK.bd ?_
  intro args h K hC
  unfold dK.K at hC
  split at hC
  · rw [dK.eq]; exact hC
  · exact hC.elim
def cV.K : Con := fun args h K => match args with
  | [a0] => cV.H (ctx [] [] cV.loops) a0 h K
  | _ => False
theorem cV.spec : cP Tryz.prog 70 cV.K := by
  refine cP.of (bQ (F := []) (S := []) (by simp) (by simp) cV.loops) cV.at cV.nm cV.bd ?_
  intro args h K hC
  unfold cV.K at hC
  split at hC
  · rw [cV.eq]; exact hC
  · exact hC.elim
def kI (w : Int) (s : Sk) : Bool := if mE s.turn = true then decide (s.at_ = 0) else decide (w < 1) || decide (s.at_ = 12)
def goOn (w : Int) (s : Sk) : Sk :=
  { s with
    refs := if (decide (0 < w) && (decide (s.refs.length = 0) || !decide (s.refs.getD (s.refs.length - 1) 0 = w))) = true then s.refs ++ [w] else s.refs
    over := kI w s
    at_ := if kI w s = true then s.at_ else if mE s.turn = true then IntKind.i64.wrap (s.at_ - 1) else IntKind.i64.wrap (s.at_ + 1) }
def mT (w : List Int) (s : Sk) : Int := if (decide (0 ≤ s.block) && decide (s.block < 256) && decide (s.block < ((w.length / 16 : Nat) : Int))) = true then oZ (16 * s.block) s.at_ else -1
def kW (w : List Int) (s : Sk) : Sk := if (s.over || decide (mT w s < 0)) = true then s else goOn (w.getD (mT w s).toNat 0) s
def gR.C : aE
  | [.sl _ (.ints .i64 w), .agg [.int .i64 b, .int .i64 t, .int .i64 a, .sl _ (.ints .i64 l), .bool o]] => some (false, pD (w.length ≤ 65536 ∧ l.length ≤ 65536) (kW w ⟨b, t, a, l, o⟩).V)
  | _ => none
theorem gR.spec : bN Tryz.prog 41 gR.C := by
  refine bN.of (bQ (F := [(68, gJ.C), (34, aY.C), (67, eT.C)]) (S := [(69, dK.K), (70, cV.K)]) (by simpa using ⟨gJ.spec, aY.spec, eT.spec⟩) (by simpa using ⟨dK.spec, cV.spec⟩) gR.loops) gR.at gR.nm gR.bd ?_
  intro vs b S v news e hS
  unfold gR.C at e
  split at e
  rotate_left
  · cases e
  cases e
  rw [gR.eq]
  unfold gR.H
  simp (maxSteps := 4000000) only [go_sem, reduceEqDiff, Nat.reduceLT, reduceAdd, reduceSub, reduceLeDiff, reduceReplicate, reduceToNat, gJ.C, aY.C, eT.C]
  rename_i _ w b t a x l o
  obtain ⟨hw, hl⟩ := hS
  have e0 : IntKind.i64.wrap ((w.length : Int).tdiv 16) = ((w.length / 16 : Nat) : Int) := by
    rw [Int.tdiv_eq_ediv_of_nonneg (by omega)]; exact w64 (by omega) (by omega)
  have hst : ∀ s : Sk, (s.over || decide (mT w s < 0)) = true → kW w s = s := fun s h => by unfold kW; rw [if_pos h]
  have hgo : ∀ s : Sk, (s.over || decide (mT w s < 0)) = false → kW w s = goOn (w.getD (mT w s).toNat 0) s := fun s h => by unfold kW; rw [if_neg (by rw [h]; decide)]
  refine ⟨fun _ => by decide, ?_⟩
  cases hin : (decide (0 ≤ b) && decide (b < 256) && decide (b < ((w.length / 16 : Nat) : Int))) with
  | false =>
    have hs : mT w ⟨b, t, a, l, o⟩ = -1 := by unfold mT; rw [if_neg (by rw [hin]; decide)]
    rw [hst _ (by rw [hs]; cases o <;> rfl)]
    simp only [e0, hin, aA, Sk.V, aA, gq, reduceEq, reduceLT, reduceLE, implies_true, reduceCtorEq, if_true, if_false, go_sem, reduceEqDiff, Nat.reduceLT, reduceAdd, reduceSub, reduceLeDiff, reduceReplicate, reduceToNat]
    cases o with
    | true => simp only [aA, gq, reduceEq, reduceLT, reduceLE, implies_true, reduceCtorEq, if_true, if_false, go_sem, reduceEqDiff, Nat.reduceLT, reduceAdd, reduceSub, reduceLeDiff, reduceReplicate, reduceToNat]; exact aH rfl rfl
    | false => simp only [aA, gq, reduceEq, reduceLT, reduceLE, implies_true, reduceCtorEq, if_true, if_false, go_sem, reduceEqDiff, Nat.reduceLT, reduceAdd, reduceSub, reduceLeDiff, reduceReplicate, reduceToNat]; exact aH rfl rfl
  | true =>
    have hin' := hin
    simp only [Bool.and_eq_true, decide_eq_true_eq] at hin'
    obtain ⟨⟨h0, h1⟩, h2⟩ := hin'
    have e1 : IntKind.i64.wrap (16 * b) = 16 * b := w64 (by omega) (by omega)
    have hs : mT w ⟨b, t, a, l, o⟩ = oZ (16 * b) a := by unfold mT; rw [if_pos hin]
    by_cases hp : oZ (16 * b) a < 0
    · rw [hst _ (by rw [hs, decide_eq_true hp, Bool.or_true])]
      simp only [e0, e1, hin, hp, decide_true, aA, Sk.V, aA, gq, reduceEq, reduceLT, reduceLE, implies_true, reduceCtorEq, if_true, if_false, go_sem, reduceEqDiff, Nat.reduceLT, reduceAdd, reduceSub, reduceLeDiff, reduceReplicate, reduceToNat]
      cases o with
      | true => simp only [aA, gq, reduceEq, reduceLT, reduceLE, implies_true, reduceCtorEq, if_true, if_false, go_sem, reduceEqDiff, Nat.reduceLT, reduceAdd, reduceSub, reduceLeDiff, reduceReplicate, reduceToNat]; exact aH rfl rfl
      | false => simp only [aA, gq, reduceEq, reduceLT, reduceLE, implies_true, reduceCtorEq, if_true, if_false, go_sem, reduceEqDiff, Nat.reduceLT, reduceAdd, reduceSub, reduceLeDiff, reduceReplicate, reduceToNat]; exact aH rfl rfl
    · cases o with
      | true =>
        rw [hst _ rfl]
        simp only [e0, e1, hin, hp, decide_true, decide_false, aA, Sk.V, aA, gq, reduceEq, reduceLT, reduceLE, implies_true, reduceCtorEq, if_true, if_false, go_sem, reduceEqDiff, Nat.reduceLT, reduceAdd, reduceSub, reduceLeDiff, reduceReplicate, reduceToNat]
        exact aH rfl rfl
      | false =>
        rw [hgo _ (by rw [hs, decide_eq_false hp]; rfl), hs]
        have hnb : rN (16 * b) = true := (yW (by omega)).2 ⟨by omega, by omega, by omega⟩
        have ha : 0 ≤ a ∧ a < 13 ∧ oZ (16 * b) a = 16 * b + 3 + a := by
          by_cases h : 0 ≤ a ∧ a < 13
          · exact ⟨h.1, h.2, aGo hnb (by omega) h.1 h.2⟩
          · exfalso
            apply hp
            unfold oZ
            rw [if_neg (by simp only [Bool.and_eq_true, decide_eq_true_eq]; rintro ⟨⟨_, h1⟩, h2⟩; exact h ⟨h1, h2⟩)]
            decide
        obtain ⟨a0, a1, hpl⟩ := ha
        obtain ⟨P, hP⟩ : ∃ P : Nat, 16 * b + 3 + a = P := ⟨(16 * b + 3 + a).toNat, by omega⟩
        have hPl : P < w.length := by omega
        rw [hpl, hP, Int.toNat_natCast]
        rw [hP] at hpl
        have hpn : ¬ ((P : Nat) : Int) < 0 := by omega
        have hrl : roomy l.length := by unfold roomy; omega
        have e3 : l.length ≠ 0 → IntKind.i64.wrap ((l.length : Int) - 1) = ((l.length - 1 : Nat) : Int) := fun h => by rw [w64 (by omega) (by omega)]; omega
        simp only [e0, e1, hin, hpl, hpn, decide_true, decide_false, aA, Int.toNat_natCast, aY.C, aA, gq, reduceEq, reduceLT, reduceLE, implies_true, reduceCtorEq, if_true, if_false, go_sem, reduceEqDiff, Nat.reduceLT, reduceAdd, reduceSub, reduceLeDiff, reduceReplicate, reduceToNat]
        refine ⟨⟨by omega, by omega⟩, hrl, ?_⟩
        generalize w.getD P 0 = W
        have hra : roomy (l ++ [W]).length := by unfold roomy; simp; omega
        have hgo2 : ∀ (R : List Int), (goOn W ⟨b, t, a, l, false⟩).refs = R → ∀ (o : Bool) (a' : Int), kI W ⟨b, t, a, l, false⟩ = o → (a' = if o = true then a else if mE t = true then IntKind.i64.wrap (a - 1) else IntKind.i64.wrap (a + 1)) → goOn W ⟨b, t, a, l, false⟩ = ⟨b, t, a', R, o⟩ := by
          rintro _ rfl _ _ rfl rfl; rfl
        by_cases hW : 0 < W
        · have hW1 : decide (W < 1) = false := decide_eq_false (by omega)
          have happ : ∀ K : Nat → Prop, True := fun _ => trivial
          by_cases hl0 : l.length = 0
          · have hd0 : decide ((l.length : Int) = 0) = true := decide_eq_true (by omega)
            have hgr : (goOn W ⟨b, t, a, l, false⟩).refs = l ++ [W] := by unfold goOn; simp [hW, hl0]
            simp only [hW, hW1, hd0, decide_true, eT.C, dK.K, dK.H, cV.K, cV.H, aA, aA, gq, reduceEq, reduceLT, reduceLE, implies_true, reduceCtorEq, if_true, if_false, go_sem, reduceEqDiff, Nat.reduceLT, reduceAdd, reduceSub, reduceLeDiff, reduceReplicate, reduceToNat]
            refine ⟨hra, fun hd => ⟨fun h => ?_, fun h => ?_⟩, fun hd => ⟨fun h => ?_, fun h => ?_⟩⟩
            · rw [hgo2 _ hgr false _ (by simp [kI, hd, h]) (by simp [hd]; rfl), decide_eq_false h]
              refine aH ?_ rfl
              simp only [Sk.V, List.take_length, go_sem, reduceEqDiff, Nat.reduceLT, reduceAdd, reduceSub, reduceLeDiff, reduceReplicate, reduceToNat]
            · rw [hgo2 _ hgr true _ (by simp [kI, hd, h]) (by simp; rfl), decide_eq_true h]
              refine aH ?_ rfl
              simp only [Sk.V, List.take_length, go_sem, reduceEqDiff, Nat.reduceLT, reduceAdd, reduceSub, reduceLeDiff, reduceReplicate, reduceToNat]
            · rw [hgo2 _ hgr false _ (by simp [kI, hd, h]; omega) (by simp [hd]; rfl), decide_eq_false h]
              refine aH ?_ rfl
              simp only [Sk.V, List.take_length, go_sem, reduceEqDiff, Nat.reduceLT, reduceAdd, reduceSub, reduceLeDiff, reduceReplicate, reduceToNat]
            · rw [hgo2 _ hgr true _ (by simp [kI, hd, h]) (by simp; rfl), decide_eq_true h]
              refine aH ?_ rfl
              simp only [Sk.V, List.take_length, go_sem, reduceEqDiff, Nat.reduceLT, reduceAdd, reduceSub, reduceLeDiff, reduceReplicate, reduceToNat]
          · have hd0 : decide ((l.length : Int) = 0) = false := decide_eq_false (by omega)
            by_cases hla : l.getD (l.length - 1) 0 = W
            · have hgr : (goOn W ⟨b, t, a, l, false⟩).refs = l := by
                unfold goOn
                simp only [hla, decide_true, Bool.not_true, Bool.or_false, decide_eq_false hl0, Bool.and_false]
                rw [if_neg (by decide)]
              simp only [hW, hW1, hd0, e3 hl0, hla, Int.toNat_natCast, decide_true, eT.C, dK.K, dK.H, cV.K, cV.H, aA, aA, gq, reduceEq, reduceLT, reduceLE, implies_true, reduceCtorEq, if_true, if_false, go_sem, reduceEqDiff, Nat.reduceLT, reduceAdd, reduceSub, reduceLeDiff, reduceReplicate, reduceToNat]
              refine ⟨⟨by omega, by omega⟩, fun hd => ⟨fun h => ?_, fun h => ?_⟩, fun hd => ⟨fun h => ?_, fun h => ?_⟩⟩
              · rw [hgo2 _ hgr false _ (by simp [kI, hd, h]) (by simp [hd]; rfl), decide_eq_false h]
                refine aH ?_ rfl
                simp only [Sk.V, List.take_length, go_sem, reduceEqDiff, Nat.reduceLT, reduceAdd, reduceSub, reduceLeDiff, reduceReplicate, reduceToNat]
              · rw [hgo2 _ hgr true _ (by simp [kI, hd, h]) (by simp; rfl), decide_eq_true h]
                refine aH ?_ rfl
                simp only [Sk.V, List.take_length, go_sem, reduceEqDiff, Nat.reduceLT, reduceAdd, reduceSub, reduceLeDiff, reduceReplicate, reduceToNat]
              · rw [hgo2 _ hgr false _ (by simp [kI, hd, h]; omega) (by simp [hd]; rfl), decide_eq_false h]
                refine aH ?_ rfl
                simp only [Sk.V, List.take_length, go_sem, reduceEqDiff, Nat.reduceLT, reduceAdd, reduceSub, reduceLeDiff, reduceReplicate, reduceToNat]
              · rw [hgo2 _ hgr true _ (by simp [kI, hd, h]) (by simp; rfl), decide_eq_true h]
                refine aH ?_ rfl
                simp only [Sk.V, List.take_length, go_sem, reduceEqDiff, Nat.reduceLT, reduceAdd, reduceSub, reduceLeDiff, reduceReplicate, reduceToNat]
            · have hgr : (goOn W ⟨b, t, a, l, false⟩).refs = l ++ [W] := by
                unfold goOn
                simp only [decide_eq_false hla, Bool.not_false, Bool.or_true, Bool.and_true, decide_eq_true hW, if_true]
              simp only [hW, hW1, hd0, e3 hl0, hla, Int.toNat_natCast, decide_true, decide_false, eT.C, dK.K, dK.H, cV.K, cV.H, aA, aA, gq, reduceEq, reduceLT, reduceLE, implies_true, reduceCtorEq, if_true, if_false, go_sem, reduceEqDiff, Nat.reduceLT, reduceAdd, reduceSub, reduceLeDiff, reduceReplicate, reduceToNat]
              refine ⟨⟨by omega, by omega⟩, hra, fun hd => ⟨fun h => ?_, fun h => ?_⟩, fun hd => ⟨fun h => ?_, fun h => ?_⟩⟩
              · rw [hgo2 _ hgr false _ (by simp [kI, hd, h]) (by simp [hd]; rfl), decide_eq_false h]
                refine aH ?_ rfl
                simp only [Sk.V, List.take_length, go_sem, reduceEqDiff, Nat.reduceLT, reduceAdd, reduceSub, reduceLeDiff, reduceReplicate, reduceToNat]
              · rw [hgo2 _ hgr true _ (by simp [kI, hd, h]) (by simp; rfl), decide_eq_true h]
                refine aH ?_ rfl
                simp only [Sk.V, List.take_length, go_sem, reduceEqDiff, Nat.reduceLT, reduceAdd, reduceSub, reduceLeDiff, reduceReplicate, reduceToNat]
              · rw [hgo2 _ hgr false _ (by simp [kI, hd, h]; omega) (by simp [hd]; rfl), decide_eq_false h]
                refine aH ?_ rfl
                simp only [Sk.V, List.take_length, go_sem, reduceEqDiff, Nat.reduceLT, reduceAdd, reduceSub, reduceLeDiff, reduceReplicate, reduceToNat]
              · rw [hgo2 _ hgr true _ (by simp [kI, hd, h]) (by simp; rfl), decide_eq_true h]
                refine aH ?_ rfl
                simp only [Sk.V, List.take_length, go_sem, reduceEqDiff, Nat.reduceLT, reduceAdd, reduceSub, reduceLeDiff, reduceReplicate, reduceToNat]
        · have hW1 : decide (W < 1) = true := decide_eq_true (by omega)
          have hgr : (goOn W ⟨b, t, a, l, false⟩).refs = l := by
            unfold goOn
            simp only [decide_eq_false hW, Bool.false_and]
            rw [if_neg (by decide)]
          simp only [hW, hW1, decide_true, decide_false, eT.C, dK.K, dK.H, cV.K, cV.H, aA, aA, gq, reduceEq, reduceLT, reduceLE, implies_true, reduceCtorEq, if_true, if_false, go_sem, reduceEqDiff, Nat.reduceLT, reduceAdd, reduceSub, reduceLeDiff, reduceReplicate, reduceToNat]
          refine ⟨fun hd => ⟨fun h => ?_, fun h => ?_⟩, fun hd => ?_⟩
          · rw [hgo2 _ hgr false _ (by simp [kI, hd, h]) (by simp [hd]; rfl), decide_eq_false h]
            refine aH ?_ rfl
            simp only [Sk.V, List.take_length, go_sem, reduceEqDiff, Nat.reduceLT, reduceAdd, reduceSub, reduceLeDiff, reduceReplicate, reduceToNat]
          · rw [hgo2 _ hgr true _ (by simp [kI, hd, h]) (by simp; rfl), decide_eq_true h]
            refine aH ?_ rfl
            simp only [Sk.V, List.take_length, go_sem, reduceEqDiff, Nat.reduceLT, reduceAdd, reduceSub, reduceLeDiff, reduceReplicate, reduceToNat]
          · rw [hgo2 _ hgr true _ (by simp [kI, hd]; omega) (by simp; rfl)]
            refine aH ?_ rfl
            simp only [Sk.V, List.take_length, go_sem, reduceEqDiff, Nat.reduceLT, reduceAdd, reduceSub, reduceLeDiff, reduceReplicate, reduceToNat]
end Lam
namespace Lam
open Go Go.Proofs
def ExtT (T T1 : List AObj) : Prop := OkT T1 ∧ T1.take T.length = T
theorem ExtT.refl {T : List AObj} (h : OkT T) : ExtT T T := ⟨h, List.take_of_length_le (Nat.le_refl _)⟩
theorem ExtT.len {T T1 : List AObj} (h : ExtT T T1) : T.length ≤ T1.length := by
  have := congrArg List.length h.2
  rw [List.length_take] at this; omega
theorem ExtT.trans {T T1 T2 : List AObj} (h : ExtT T T1) (h' : ExtT T1 T2) : ExtT T T2 :=
  ⟨h'.1, by
    have e : T2.take T.length = (T2.take T1.length).take T.length := by rw [List.take_take, Nat.min_eq_left h.len]
    rw [e, h'.2, h.2]⟩
theorem ExtT.snoc {T T1 : List AObj} (h : ExtT T T1) (k : IntKind) (n : Int) : ExtT T (T1 ++ [.box (.int k n)]) :=
  ⟨h.1.snoc k n, by rw [List.take_append_of_le_length h.len]; exact h.2⟩
abbrev aIi (C : Con) : Ctx := ctx [(109, bX.C)] [(126, aO.K), (127, bB.K), (128, aV.K), (129, bK.K), (130, aX.K), (131, aF.K), (133, aI.K), (119, C)] bS.loops
def pdqD : Nat → Con
  | 0 => fun _ _ _ => False
  | d + 1 => fun args h K => match args with
    | [a0, a1, a2, a3, a4] => bS.H (aIi (pdqD d)) a0 a1 a2 a3 a4 h K
    | _ => False
theorem pdqD.spec : ∀ d, cP Tryz.prog 119 (pdqD d)
  | 0 => by
    refine cP.of (c := ctx [] [] bS.loops) (bQ (by simp) (by simp) bS.loops) bS.at bS.nm bS.bd ?_
    intro args h K hC
    exact hC.elim
  | d + 1 => by
    refine cP.of (c := aIi (pdqD d)) (bQ (by simpa using bX.spec) (by simpa using ⟨aO.spec, bB.spec, aV.spec, bK.spec, aX.spec, aF.spec, aI.spec, pdqD.spec d⟩) bS.loops) bS.at bS.nm bS.bd ?_
    intro args h K hC
    unfold pdqD at hC
    split at hC
    · rw [bS.eq]; exact hC
    · exact hC.elim
theorem aMA (A : SkT) (m : bD → Bool) (v : Nat) (n : Nat) (hr : roomy n) (h255 : n < 256) : ∀ (d : Nat) (l : List RecT) (T : List AObj) (hTn : OkT T) (a b : Nat) (lim : Int) (hn : n = l.length) (hab : a ≤ b) (hbn : b ≤ n) (hd : b < a + d) (hpre : PreS a b l) (hnd : (l.map (·.key)).Nodup) (K : AOut → List AObj → Prop)
    (hK : ∀ l' T', ExtT T T' → SegP a b l l' → SegS a b l' → K (.ret (.tup [])) (hpS A m v l' T')),
    pdqD d [.sref false 2 v 0 n, .int .i64 a, .int .i64 b, .int .i64 lim, hitF] (hpS A m v l T) K
  | 0, l, T, hTn, a, b, lim, hn, hab, hbn, hd, hpre, hnd, K, hK => by omega
  | d + 1, l, T, hTn, a0, b0, lim0, hn, hab0, hbn0, hd, hpre0, hnd, K, hK => by
    have ih := aMA A m v n hr h255 d
    have hr' := hr
    unfold roomy at hr'
    have h2 : 2 < T.length + 1 + 1 + 1 := by omega
    unfold pdqD bS.H
    simp only [hpS, hTn _ _, SkT.norm, h2, aA, aA, gq, reduceEq, reduceLT, reduceLE, implies_true, reduceCtorEq, if_true, if_false, go_sem, reduceEqDiff, Nat.reduceLT, reduceAdd, reduceSub, reduceLeDiff, reduceReplicate, reduceToNat]
    unfold bS.L1
    refine aSe (σ := List RecT × Nat × Nat × Int × Bool × Bool) (fun s => .int .i64 s.2.1) (fun s => .int .i64 s.2.2.1) (fun s => .int .i64 s.2.2.2.1) (fun s => .bool s.2.2.2.2.1) (fun s => .bool s.2.2.2.2.2) (fun s => .box A.V :: .map (.sb m) :: .row .own v (.recs s.1) :: T) (fun s => s.2.2.1 - s.2.1)
      (fun s => a0 ≤ s.2.1 ∧ s.2.1 ≤ s.2.2.1 ∧ s.2.2.1 ≤ b0 ∧ SegP a0 b0 l s.1 ∧ PreS s.2.1 s.2.2.1 s.1 ∧ ∀ l', SegP s.2.1 s.2.2.1 s.1 l' → SegS s.2.1 s.2.2.1 l' → SegS a0 b0 l') (l, a0, b0, lim0, true, true) rfl rfl ⟨Nat.le_refl _, hab0, Nat.le_refl _, SegP.refl, hpre0, fun l' _ h => h⟩ ?_
    rintro I back ⟨l1, a, b, lim, t10, t11⟩ ⟨g1, g2, g3, g4, g5, g6⟩
    simp only at g1 g2 g3 g4 g5 g6 ⊢
    have hl1 := g4.len
    obtain ⟨len, hlen⟩ : ∃ len, b - a = len := ⟨_, rfl⟩
    have e2 : IntKind.i64.wrap ((b : Int) - a) = (len : Int) := by rw [w64 (by omega) (by omega)]; omega
    have hlt : ∀ (l2 : List RecT) (p : Nat), SegP a b l1 l2 → a ≤ p → p < b → 0 < a → ltB (kyL l2 (a - 1)) (kyL l2 p) = true := fun l2 p h1 h3 h4 h5 => by
      rcases g5.keep h1 with h | h
      · omega
      · refine wZ (h p h3 h4) fun e => ?_
        have hnd2 : (l2.map (·.key)).Nodup := ((g4.trans (h1.mono g1 g3)).1.map _).nodup_iff.2 hnd
        have hl2 := h1.len
        have h6 := List.pairwise_iff_getElem.1 hnd2 (a - 1) p (by simp; omega) (by simp; omega) (by omega)
        apply h6
        unfold kyL at e
        rw [List.getD_eq_getElem?_getD, List.getD_eq_getElem?_getD, List.getElem?_eq_getElem (by omega), List.getElem?_eq_getElem (by omega)] at e
        simpa using e
    have ea1 : 0 < a → IntKind.i64.wrap ((a : Int) - 1) = ((a - 1 : Nat) : Int) := fun h => by rw [w64 (by omega) (by omega)]; omega
    have eb1 : 0 < b → IntKind.i64.wrap ((b : Int) - 1) = ((b - 1 : Nat) : Int) := fun h => by rw [w64 (by omega) (by omega)]; omega
    have ep1 : ∀ p : Nat, a ≤ p → p < b → IntKind.i64.wrap (((b - 1 : Nat) : Int) - IntKind.i64.wrap ((p : Int) - (a : Int))) = ((b - 1 - (p - a) : Nat) : Int) := fun p h1 h3 => by
      rw [w64 (n := (p : Int) - a) (by omega) (by omega), w64 (n := ((b - 1 : Nat) : Int) - ((p : Int) - (a : Int))) (by omega) (by omega)]; omega
    refine oW fun kb hkb => ?_
    rw [aA]
    simp only [SkT.norm, e2, gq, reduceEq, reduceLT, reduceLE, implies_true, reduceCtorEq, if_true, if_false, go_sem, reduceEqDiff, Nat.reduceLT, reduceAdd, reduceSub, reduceLeDiff, reduceReplicate, reduceToNat]
    refine ⟨fun h12 => ?_, fun h12 => ⟨fun hz => ?_, fun hz => ?_⟩⟩
    · exact aSl A m v l1 T hTn n a b (by omega) g2 (by omega) hr _ fun l' p s => hK l' T (ExtT.refl hTn) (g4.trans (p.mono g1 g3)) (g6 l' p s)
    · exact aNZ A m v l1 T hTn n a b (by omega) (by omega) (by omega) hr _ fun l' p s => hK l' T (ExtT.refl hTn) (g4.trans (p.mono g1 g3)) (g6 l' p s)
    have backb : ∀ (l6 : List RecT) (T6 : List AObj) (a' b' : Nat) (lim' : Int) (x y : Bool), ExtT T T6 → a ≤ a' → a' ≤ b' → b' ≤ b → b' - a' < b - a → SegP a b l1 l6 → PreS a' b' l6 → (∀ l7, SegP a' b' l6 l7 → SegS a' b' l7 → SegS a b l7) → kb (.int .i64 a') (.int .i64 b') (.int .i64 lim') (.bool x) (.bool y) (hpS A m v l6 T6) := by
      intro l6 T6 a' b' lim' x y x6 q1 q2 q3 q4 q5 q6 q7
      have hT6 := x6.1
      have hx6 := x6.2
      rw [hkb]
      simp only [hpS, hT6 _ _, hx6, hTn _ _, SkT.norm, h2, gq, reduceEq, reduceLT, reduceLE, implies_true, reduceCtorEq, if_true, if_false, go_sem, reduceEqDiff, Nat.reduceLT, reduceAdd, reduceSub, reduceLeDiff, reduceReplicate, reduceToNat]
      exact back (l6, a', b', lim', x, y) q4 rfl rfl ⟨by simp only; omega, q2, by simp only; omega, g4.trans (q5.mono g1 g3), q6, fun l7 p7 s7 => g6 l7 (q5.trans (p7.mono q1 q3)) (q7 l7 p7 s7)⟩
    clear hkb
    refine oW fun k3 hk3 => ?_
    have rest3 : ∀ (l2 : List RecT) (T2 : List AObj) (lim2 : Int), ExtT T T2 → SegP a b l1 l2 → k3 (.int .i64 lim2) (hpS A m v l2 T2) := by
      intro l2 T2 lim2 x2 p2
      have hT2 := x2.1
      rw [hk3]
      simp only [hpS, hT2 _ _, SkT.norm, gq, reduceEq, reduceLT, reduceLE, implies_true, reduceCtorEq, if_true, if_false, go_sem, reduceEqDiff, Nat.reduceLT, reduceAdd, reduceSub, reduceLeDiff, reduceReplicate, reduceToNat]
      refine aLR A m v l2 T2 hT2 n a b (by rw [p2.len]; omega) (by omega) (by omega) hr _ fun p e s hp1 hp2 he => ?_
      have x3 := x2.snoc .i64 s
      generalize T2 ++ [AObj.box (.int .i64 s)] = T3 at *
      have hT3 := x3.1
      simp only [hpS, hT3 _ _, SkT.norm, gq, reduceEq, reduceLT, reduceLE, implies_true, reduceCtorEq, if_true, if_false, go_sem, reduceEqDiff, Nat.reduceLT, reduceAdd, reduceSub, reduceLeDiff, reduceReplicate, reduceToNat]
      refine oW fun k4 hk4 => ?_
      have rest4 : ∀ (l3 : List RecT) (p : Nat) (e : Int), SegP a b l1 l3 → a ≤ p → p < b → k4 (.int .i64 p) (.int .i64 e) (hpS A m v l3 T3) := by
        intro l3 p e p3 hp1 hp2
        have hl3 := p3.len
        rw [hk4]
        cases t10 <;> cases t11 <;> simp only [hpS, hT3 _ _, SkT.norm, gq, reduceEq, reduceLT, reduceLE, implies_true, reduceCtorEq, if_true, if_false, go_sem, reduceEqDiff, Nat.reduceLT, reduceAdd, reduceSub, reduceLeDiff, reduceReplicate, reduceToNat]
        all_goals (rw [aA]; simp only [gq, reduceEq, reduceLT, reduceLE, implies_true, reduceCtorEq, if_true, if_false, go_sem, reduceEqDiff, Nat.reduceLT, reduceAdd, reduceSub, reduceLeDiff, reduceReplicate, reduceToNat])
        all_goals
          refine oW fun k7 hk7 => ?_
          have rest7 : ∀ l4, SegP a b l1 l4 → k7 (hpS A m v l4 T3) := by
            intro l4 p4
            have hl4 := p4.len
            rw [hk7]
            refine oW fun k8 hk8 => ?_
            have rest8 : ∀ x y, ((x = .bool true ∧ y = .bool false) ∨ (x = .bool false ∧ y = .und)) → k8 x y (hpS A m v l4 T3) := by
              rintro x y hxy
              rw [hk8]
              rcases hxy with ⟨rfl, rfl⟩ | ⟨rfl, rfl⟩ <;> simp only [hpS, hT3 _ _, SkT.norm, gq, reduceEq, reduceLT, reduceLE, implies_true, reduceCtorEq, if_true, if_false, go_sem, reduceEqDiff, Nat.reduceLT, reduceAdd, reduceSub, reduceLeDiff, reduceReplicate, reduceToNat]
              all_goals
                refine aHH A m v l4 T3 hT3 n a b p (by omega) (by omega) (by omega) hp1 hp2 hr _ fun l5 q al p5 hq1 hq2 hpt => ?_
                have hl5 := p5.len
                have P5 := p4.trans p5
                have f1 : IntKind.i64.wrap ((q : Int) - a) = ((q - a : Nat) : Int) := by rw [w64 (by omega) (by omega)]; omega
                have f2 : IntKind.i64.wrap ((b : Int) - q) = ((b - q : Nat) : Int) := by rw [w64 (by omega) (by omega)]; omega
                have hnd5 : (l5.map (·.key)).Nodup := ((g4.trans (P5.mono g1 g3)).1.map _).nodup_iff.2 hnd
                simp only [hpS, hT3 _ _, SkT.norm, f1, f2, eS (show q < 4611686018427387904 by omega), gq, reduceEq, reduceLT, reduceLE, implies_true, reduceCtorEq, if_true, if_false, go_sem, reduceEqDiff, Nat.reduceLT, reduceAdd, reduceSub, reduceLeDiff, reduceReplicate, reduceToNat]
                refine oW fun k9 hk9 => ?_
                have rest9 : ∀ (l6 : List RecT) (T6 : List AObj) (a' b' : Nat) (x : Bool), ExtT T T6 → a ≤ a' → a' ≤ b' → b' ≤ b → b' - a' < b - a → SegP a b l1 l6 → PreS a' b' l6 → (∀ l7, SegP a' b' l6 l7 → SegS a' b' l7 → SegS a b l7) → k9 (.int .i64 a') (.int .i64 b') (.bool x) (hpS A m v l6 T6) := fun l6 T6 a' b' x q0 q1 q2 q3 q4 q5 q6 q7 => by
                  rw [hk9]; exact backb l6 T6 a' b' lim2 x al q0 q1 q2 q3 q4 q5 q6 q7
                clear hk9
                rw [aA]
                refine ⟨fun hlt1 => ?_, fun hge => ?_⟩
                · refine ih l5 T3 hT3 a q lim2 (by omega) hq1 (by omega) (by omega) ((g5.keep P5).imp id fun h k k1 k2 => h k k1 (by omega)) hnd5 _ fun l6 T6 x6 p6 s6 => ?_
                  have hT6 := x6.1
                  have hl := hpt.left p6
                  simp only [hpS, hT6 _ _, SkT.norm, eS (show q < 4611686018427387904 by omega), gq, reduceEq, reduceLT, reduceLE, implies_true, reduceCtorEq, if_true, if_false, go_sem, reduceEqDiff, Nat.reduceLT, reduceAdd, reduceSub, reduceLeDiff, reduceReplicate, reduceToNat]
                  exact rest9 l6 T6 (q + 1) b _ (x3.trans x6) (by omega) (by omega) (Nat.le_refl _) (by omega) (P5.trans (p6.mono (Nat.le_refl _) (by omega))) (.inr fun k k1 k2 => hl.2 k (by omega) k2) fun l7 p7 s7 => (hl.right p7).sorted (s6.keep p7 (.inl (by omega))) s7
                · refine ih l5 T3 hT3 (q + 1) b lim2 (by omega) (by omega) (by omega) (by omega) (.inr fun k k1 k2 => hpt.2 k (by omega) k2) hnd5 _ fun l6 T6 x6 p6 s6 => ?_
                  have hT6 := x6.1
                  have hl := hpt.right p6
                  have P6 := P5.trans (p6.mono (by omega) (Nat.le_refl _))
                  simp only [hpS, hT6 _ _, SkT.norm, eS (show q < 4611686018427387904 by omega), gq, reduceEq, reduceLT, reduceLE, implies_true, reduceCtorEq, if_true, if_false, go_sem, reduceEqDiff, Nat.reduceLT, reduceAdd, reduceSub, reduceLeDiff, reduceReplicate, reduceToNat]
                  exact rest9 l6 T6 a q _ (x3.trans x6) (Nat.le_refl _) (by omega) (by omega) (by omega) P6 ((g5.keep P6).imp id fun h k k1 k2 => h k k1 (by omega)) fun l7 p7 s7 => (hl.left p7).sorted s7 (s6.keep p7 (.inr (by omega)))
            clear hk8
            rw [aA]
            by_cases ha0 : 0 < a
            · have hlt0 := hlt l4 p p4 hp1 hp2 ha0
              have da : decide ((0 : Int) < (a : Int)) = true := decide_eq_true (by omega)
              simp only [hpS, hT3 _ _, SkT.norm, da, hlt0, ea1 ha0, Int.toNat_natCast, bX.C, iW, iO, jI, gq, reduceEq, reduceLT, reduceLE, implies_true, reduceCtorEq, if_true, if_false, go_sem, reduceEqDiff, Nat.reduceLT, reduceAdd, reduceSub, reduceLeDiff, reduceReplicate, reduceToNat]
              refine ⟨⟨by omega, by omega⟩, by omega, ⟨by omega, by omega⟩, by omega, ?_⟩
              exact rest8 _ _ (.inl ⟨rfl, rfl⟩)
            · have da : decide ((0 : Int) < (a : Int)) = false := decide_eq_false (by omega)
              simp only [hpS, da, gq, reduceEq, reduceLT, reduceLE, implies_true, reduceCtorEq, if_true, if_false, go_sem, reduceEqDiff, Nat.reduceLT, reduceAdd, reduceSub, reduceLeDiff, reduceReplicate, reduceToNat]
              exact rest8 _ _ (.inr ⟨rfl, rfl⟩)
          clear hk7
          rw [aA]
          first
            | exact rest7 l3 p3
            | refine ⟨fun _ => aNY A m v l3 T3 hT3 n a b (by omega) (by omega) (by omega) (g5.keep p3) hr _ (fun l4 p4 s4 => ?_) fun l4 p4 => ?_, fun _ => rest7 l3 p3⟩
              · simp only [hpS, gq, reduceEq, reduceLT, reduceLE, implies_true, reduceCtorEq, if_true, if_false, go_sem, reduceEqDiff, Nat.reduceLT, reduceAdd, reduceSub, reduceLeDiff, reduceReplicate, reduceToNat]
                exact hK l4 T3 x3 (g4.trans ((p3.trans p4).mono g1 g3)) (g6 l4 (p3.trans p4) s4)
              · simp only [hpS, gq, reduceEq, reduceLT, reduceLE, implies_true, reduceCtorEq, if_true, if_false, go_sem, reduceEqDiff, Nat.reduceLT, reduceAdd, reduceSub, reduceLeDiff, reduceReplicate, reduceToNat]
                exact rest7 l4 (p3.trans p4)
      rw [aA]
      simp only [eb1 (by omega), ep1 p hp1 hp2, gq, reduceEq, reduceLT, reduceLE, implies_true, reduceCtorEq, if_true, if_false, go_sem, reduceEqDiff, Nat.reduceLT, reduceAdd, reduceSub, reduceLeDiff, reduceReplicate, reduceToNat]
      refine ⟨fun he2 => aKN A m v l2 T3 hT3 n a b (by rw [p2.len]; omega) (by omega) (by omega) hr _ fun l3 p3 => ?_, fun _ => rest4 l2 p e p2 hp1 hp2⟩
      simp only [hpS, hT3 _ _, SkT.norm, gq, reduceEq, reduceLT, reduceLE, implies_true, reduceCtorEq, if_true, if_false, go_sem, reduceEqDiff, Nat.reduceLT, reduceAdd, reduceSub, reduceLeDiff, reduceReplicate, reduceToNat]
      exact rest4 l3 (b - 1 - (p - a)) 1 (p2.trans p3) (by omega) (by omega)
    rw [aA]
    cases t10 with
    | false =>
      simp only [gq, reduceEq, reduceLT, reduceLE, implies_true, reduceCtorEq, if_true, if_false, go_sem, reduceEqDiff, Nat.reduceLT, reduceAdd, reduceSub, reduceLeDiff, reduceReplicate, reduceToNat]
      refine aMX A m v l1 T hTn n a b (by omega) (by omega) (by omega) (by omega) hr _ fun l2 y p2 => ?_
      have x2 := (ExtT.refl hTn).snoc .u64 y
      have hT2 := x2.1
      simp only [hpS, gq, reduceEq, reduceLT, reduceLE, implies_true, reduceCtorEq, if_true, if_false, go_sem, reduceEqDiff, Nat.reduceLT, reduceAdd, reduceSub, reduceLeDiff, reduceReplicate, reduceToNat]
      exact rest3 l2 _ _ x2 p2
    | true =>
      simp only [gq, reduceEq, reduceLT, reduceLE, implies_true, reduceCtorEq, if_true, if_false, go_sem, reduceEqDiff, Nat.reduceLT, reduceAdd, reduceSub, reduceLeDiff, reduceReplicate, reduceToNat]
      exact rest3 l1 T lim (ExtT.refl hTn) SegP.refl
def bG.K : Con := fun args h K => match args with
  | [a0, a1] => bG.H (ctx [(120, dO.C)] [(119, pdqD 256)] bG.loops) a0 a1 h K
  | _ => False
theorem bG.spec : cP Tryz.prog 108 bG.K := by
  refine cP.of (c := ctx [(120, dO.C)] [(119, pdqD 256)] bG.loops) (bQ (by simpa using dO.spec) (by simpa using pdqD.spec 256) bG.loops) bG.at bG.nm bG.bd ?_
  intro args h K hC
  unfold bG.K at hC
  split at hC
  · rw [bG.eq]; exact hC
  · exact hC.elim
theorem aOc (A : SkT) (m : bD → Bool) (v : Nat) (l : List RecT) (n : Nat) (hn : n = l.length) (h255 : n < 256) (hnd : (l.map (·.key)).Nodup) (K : AOut → List AObj → Prop)
    (hK : ∀ l' T, l'.Perm l → SegS 0 n l' → K (.ret (.tup [])) (hpS A m v l' T)) :
    bG.K [.sref false 2 v 0 n, hitF] (hpS A m v l []) K := by
  have hr : roomy n := by unfold roomy; omega
  have e1 : IntKind.u64.wrap (n : Int) = n := aAp (by omega) (by omega)
  unfold bG.K bG.H
  simp only [hpS, dO.C, e1, Int.toNat_natCast, aA, gq, reduceEq, reduceLT, reduceLE, implies_true, reduceCtorEq, if_true, if_false, go_sem, reduceEqDiff, Nat.reduceLT, reduceAdd, reduceSub, reduceLeDiff, reduceReplicate, reduceToNat]
  exact ⟨⟨by omega, by omega⟩, aMA A m v n hr h255 256 l [] OkT.nil 0 n _ hn (Nat.zero_le _) (Nat.le_refl _) (by omega) (.inl rfl) hnd _ fun l' T' _ s1 s2 => hK l' T' s1.1 s2⟩
end Lam
namespace Lam
open Go Go.Proofs
def rcT (x : Rc) : RecT := ⟨x.kind, x.key, x.val, x.child⟩
def hitS (w : List Int) (out : List RecT) (r : Int) : List RecT := match recO w r with
  | none => out
  | some x => if x.key ∈ out.map (·.key) then out else out ++ [rcT x]
def jC (w refs : List Int) : List RecT := refs.foldl (hitS w) []
theorem aLU (w : List Int) (out : List RecT) (r : Int) : (hitS w out r).length ≤ out.length + 1 := by
  unfold hitS
  split
  · omega
  · split
    · omega
    · simp
theorem aJv {w : List Int} {out : List RecT} {r : Int} (h : (out.map (·.key)).Nodup) : ((hitS w out r).map (·.key)).Nodup := by
  unfold hitS
  split
  · exact h
  · split
    · exact h
    · rename_i x _ hx
      rw [List.map_append, List.nodup_append]
      refine ⟨h, by simp, fun a ha b hb => ?_⟩
      simp only [List.map_cons, List.map_nil, List.mem_singleton] at hb
      subst hb
      rintro rfl
      exact hx ha
theorem aAI {w : List Int} : ∀ {refs : List Int} {out : List RecT}, (out.map (·.key)).Nodup → ((refs.foldl (hitS w) out).map (·.key)).Nodup ∧ (refs.foldl (hitS w) out).length ≤ out.length + refs.length
  | [], out, h => ⟨h, by simp⟩
  | r :: refs, out, h => by
    obtain ⟨h1, h2⟩ := aAI (refs := refs) (aJv (r := r) (w := w) h)
    have := aLU w out r
    exact ⟨h1, by simp only [List.foldl_cons, List.length_cons]; omega⟩
def insR (x : RecT) : List RecT → List RecT
  | [] => [x]
  | y :: l => if ltB x.key y.key = true then x :: y :: l else y :: insR x l
def uT (l : List RecT) : List RecT := l.foldr insR []
theorem aAJ (x : RecT) : ∀ l : List RecT, (insR x l).Perm (x :: l)
  | [] => .refl _
  | y :: l => by
    unfold insR
    split
    · exact .refl _
    · exact ((aAJ x l).cons y).trans (.swap x y l)
theorem sA : ∀ l : List RecT, (uT l).Perm l
  | [] => .refl _
  | x :: l => (aAJ x _).trans ((sA l).cons x)
def ltR (x y : RecT) : Prop := ltB x.key y.key = true
theorem aDu {x : RecT} : ∀ {l : List RecT}, l.Pairwise ltR → (∀ y ∈ l, y.key ≠ x.key) → (insR x l).Pairwise ltR
  | [], _, _ => by simp [insR]
  | y :: l, h, hx => by
    rw [List.pairwise_cons] at h
    unfold insR
    split
    · rename_i hl
      rw [List.pairwise_cons]
      refine ⟨fun z hz => ?_, List.pairwise_cons.2 h⟩
      rcases List.mem_cons.1 hz with rfl | hz
      · exact hl
      · exact lV hl (h.1 z hz)
    · rename_i hl
      rw [List.pairwise_cons]
      refine ⟨fun z hz => ?_, aDu h.2 fun z hz => hx z (by simp [hz])⟩
      rcases List.mem_cons.1 ((aAJ x l).mem_iff.1 hz) with rfl | hz
      · exact wZ (by unfold leB; simpa using hl) (hx y (by simp))
      · exact h.1 z hz
theorem xA : ∀ {l : List RecT}, (l.map (·.key)).Nodup → (uT l).Pairwise ltR
  | [], _ => List.Pairwise.nil
  | x :: l, h => by
    rw [List.map_cons, List.nodup_cons] at h
    refine aDu (xA h.2) fun y hy he => h.1 ?_
    rw [← he]
    exact List.mem_map_of_mem (f := (·.key)) ((sA l).mem_iff.1 hy)
theorem aCj : ∀ {l l' : List RecT}, l.Pairwise ltR → l'.Pairwise ltR → l.Perm l' → l = l'
  | [], l', _, _, p => p.nil_eq
  | x :: l, [], _, _, p => by have := p.length_eq; simp at this
  | x :: l, y :: l', h, h', p => by
    rw [List.pairwise_cons] at h h'
    have e : x = y := by
      rcases List.mem_cons.1 (p.mem_iff.1 (List.mem_cons_self (a := x))) with e | hx
      · exact e
      · rcases List.mem_cons.1 (p.mem_iff.2 (List.mem_cons_self (a := y))) with e | hy
        · exact e.symm
        · have := lV (h.1 y hy) (h'.1 x hx)
          rw [vT] at this; cases this
    subst e
    rw [aCj h.2 h'.2 (List.Perm.cons_inv p)]
theorem aKQ {l l' : List RecT} (hp : l'.Perm l) (hs : SegS 0 l.length l') (hn : (l.map (·.key)).Nodup) : l' = uT l := by
  refine aCj ?_ (xA hn) (hp.trans (sA l).symm)
  have hn' : (l'.map (·.key)).Nodup := (hp.map _).nodup_iff.2 hn
  rw [List.pairwise_iff_getElem]
  intro i j hi hj hij
  have h1 := hs i j (Nat.zero_le _) hij (by rw [← hp.length_eq]; exact hj)
  unfold kyL at h1
  rw [List.getD_eq_getElem?_getD, List.getD_eq_getElem?_getD, List.getElem?_eq_getElem hi, List.getElem?_eq_getElem hj] at h1
  refine wZ h1 fun e => ?_
  have := List.pairwise_iff_getElem.1 hn' i j (by simpa using hi) (by simpa using hj) hij
  apply this
  simpa using e
def gB.C : aE
  | [.sl _ (.ints .i64 w), .agg [.int .i64 b, .int .i64 t, .int .i64 a, .sl _ (.ints .i64 l), .bool o]] => some (false, pD (roomy w.length ∧ l.length ≤ 200) (.sl false (.recs (uT (jC w l)))))
  | _ => none
theorem gB.spec : bN Tryz.prog 89 gB.C := by
  refine bN.of (bQ (F := [(79, dW.C)]) (S := [(108, bG.K)]) (by simpa using dW.spec) (by simpa using bG.spec) gB.loops) gB.at gB.nm gB.bd ?_
  intro vs b S v news e hS
  unfold gB.C at e
  split at e
  rotate_left
  · cases e
  cases e
  rw [gB.eq]
  unfold gB.H
  simp (maxSteps := 4000000) only [go_sem, reduceEqDiff, Nat.reduceLT, reduceAdd, reduceSub, reduceLeDiff, reduceReplicate, reduceToNat, dW.C]
  rename_i _ w b t a x l o
  obtain ⟨hw, hl⟩ := hS
  rw [aA]
  unfold gB.L1
  refine pP (σ := Nat) (fun k => .sref false 2 (jC w (l.take k)).length 0 (jC w (l.take k)).length) (fun k => .int .i64 k) (fun k => [.box (Sk.V ⟨b, t, a, l, o⟩), .map (.sb fun s => decide (s ∈ (jC w (l.take k)).map (·.key))), .row .own (jC w (l.take k)).length (.recs (jC w (l.take k)))]) (fun k => l.length - k) (fun k => k ≤ l.length) 0 rfl (by simp [jC, Sk.V]) (Nat.zero_le _) ?_
  intro I back k hk
  have hnext : k < l.length → jC w (l.take (k + 1)) = hitS w (jC w (l.take k)) (l.getD k 0) := fun h => by
    unfold jC; rw [iH l k 0 h, List.foldl_append]; rfl
  obtain ⟨hnd, hol⟩ := aAI (w := w) (refs := l.take k) (out := []) (by simp)
  have hnd : ((jC w (l.take k)).map (·.key)).Nodup := hnd
  have hol : (jC w (l.take k)).length ≤ k := by
    have : (jC w (l.take k)).length ≤ 0 + (l.take k).length := hol
    rw [List.length_take] at this; omega
  by_cases hlt : k < l.length
  · have hb : ∀ (n : Nat) (lv : List AV) (h : List AObj), _ := fun n lv h => @back n lv h (k + 1)
    rw [hnext hlt] at hb
    clear back hnext
    generalize jC w (l.take k) = out at *
    cases hx : recO w (l.getD k 0) with
    | none =>
      obtain ⟨e, he, hr⟩ := aKP hx
      have hs : hitS w out (l.getD k 0) = out := by unfold hitS; rw [hx]
      rw [hs] at hb
      simp only [dW.C, hr, kE, he, decide_false, aA, Sk.V, aA, gq, reduceEq, reduceLT, reduceLE, implies_true, reduceCtorEq, if_true, if_false, go_sem, reduceEqDiff, Nat.reduceLT, reduceAdd, reduceSub, reduceLeDiff, reduceReplicate, reduceToNat]
      exact ⟨fun _ => ⟨⟨by omega, by omega⟩, hw, hb _ _ _ (by omega) (by rw [eS (by omega)]) rfl (by omega)⟩, fun h => absurd h (by omega)⟩
    | some y =>
      obtain ⟨y1, y2, y3, y4⟩ := y
      by_cases hin : y2 ∈ out.map (·.key)
      · have hs : hitS w out (l.getD k 0) = out := by unfold hitS; rw [hx]; simp only [hin, if_true]
        rw [hs] at hb
        simp only [dW.C, aEO hx, hin, decide_true, aA, Sk.V, aA, gq, reduceEq, reduceLT, reduceLE, implies_true, reduceCtorEq, if_true, if_false, go_sem, reduceEqDiff, Nat.reduceLT, reduceAdd, reduceSub, reduceLeDiff, reduceReplicate, reduceToNat]
        exact ⟨fun _ => ⟨⟨by omega, by omega⟩, hw, hb _ _ _ (by omega) (by rw [eS (by omega)]) rfl (by omega)⟩, fun h => absurd h (by omega)⟩
      · have hs : hitS w out (l.getD k 0) = out ++ [⟨y1, y2, y3, y4⟩] := by unfold hitS; rw [hx]; simp only [hin, if_false]; rfl
        rw [hs] at hb
        have hmap : (fun j => if j = y2 then true else decide (j ∈ out.map (·.key))) = fun j => decide (j ∈ (out ++ [(⟨y1, y2, y3, y4⟩ : RecT)]).map (·.key)) := by
          funext j
          rw [List.map_append, show decide (j ∈ out.map (·.key) ++ [(⟨y1, y2, y3, y4⟩ : RecT)].map (·.key)) = decide (j ∈ out.map (·.key) ∨ j = y2) from decide_eq_decide.2 (by simp)]
          by_cases e : j = y2
          · simp [e]
          · simp [e]
        simp only [dW.C, aEO hx, hin, decide_false, aA, Sk.V, aA, gq, reduceEq, reduceLT, reduceLE, implies_true, reduceCtorEq, if_true, if_false, go_sem, reduceEqDiff, Nat.reduceLT, reduceAdd, reduceSub, reduceLeDiff, reduceReplicate, reduceToNat]
        have hl1 : (out ++ [(⟨y1, y2, y3, y4⟩ : RecT)]).length = out.length + 1 := by simp
        refine ⟨fun _ => ⟨⟨by omega, by omega⟩, hw, by rw [hl1]; unfold roomy; omega, hb _ _ _ (by omega) (by rw [eS (by omega), hl1]) (by rw [hmap, hl1]; rfl) (by omega)⟩, fun h => absurd h (by omega)⟩
  · obtain rfl : k = l.length := by omega
    rw [List.take_length] at hnd hol ⊢
    clear back hnext
    simp only [Sk.V, aA, gq, reduceEq, reduceLT, reduceLE, implies_true, reduceCtorEq, if_true, if_false, go_sem, reduceEqDiff, Nat.reduceLT, reduceAdd, reduceSub, reduceLeDiff, reduceReplicate, reduceToNat]
    refine ⟨fun h => absurd h (by omega), fun _ => ?_⟩
    refine aOc ⟨b, t, a, l, o⟩ _ _ (jC w l) _ rfl (by omega) hnd _ fun l' tl hp hs => ?_
    simp only [hpS, SkT.V, aA, gq, reduceEq, reduceLT, reduceLE, implies_true, reduceCtorEq, if_true, if_false, go_sem, reduceEqDiff, Nat.reduceLT, reduceAdd, reduceSub, reduceLeDiff, reduceReplicate, reduceToNat]
    have e := aKQ hp hs hnd
    rw [← e]
    refine aH ?_ rfl
    simp only [List.take_of_length_le (Nat.le_of_eq hp.length_eq), go_sem, reduceEqDiff, Nat.reduceLT, reduceAdd, reduceSub, reduceLeDiff, reduceReplicate, reduceToNat]
end Lam
namespace Lam
open Go Go.Proofs
def fR.loops : Nat → bU
 | 2 => ⟨[], [], [], [(4, none), (3, some [12, 15])], [], []⟩
 | _ => ⟨[], [], [], [], [], []⟩
def fR.H (c : Ctx) (t0 : AV) (t1 : AV) (h : List AObj) (K : AOut → List AObj → Prop) : Prop :=
 boxW aM t0 h fun t2 h =>
 boxW aU t1 h fun t3 h =>
 cS aM h fun t4 h =>
 cS aU h fun t5 h =>
 aP false c (.fn (.func 36) [] []) [] h (fun t8 h =>
 cS iR h fun t6 h =>
 runH (aR iR h t6 t8) h fun _ h =>
 runD (aC aU t3 1) h fun t9 h =>
 runD (fitD aB (aD h t9)) h fun t10 h =>
 runD (binD aB .lss t10 (.int .i64 1)) h fun t11 h =>
 aL (fun (J1 : AV → AV → List AObj → Prop) =>
 bF t11 false
 (runD (aC aU t3 1) h fun t13 h =>
 runD (fitD aB (aD h t13)) h fun t14 h =>
 runD (binD aB .geq t14 (.int .i64 8)) h fun t15 h =>
 J1 (.bool false) t15 h)
 (J1 (.bool true) .und h))
 (fun t12 t15 h => runD (bT t12 (.bool true) t15) h fun t16 h =>
 bE t16
 (runD (fitD aM (aD h t2)) h fun t17 h =>
 runD (fitD aU (aD h t3)) h fun t18 h =>
 runH (aR aM h t4 t17) h fun _ h =>
 runH (aR aU h t5 t18) h fun _ h =>
 sepB t4 [t3] = true ∧ dA (fitD aM (aD h t4)) fun r0 => dA (fitD aU (aD h t5)) fun r1 => K (.ret (.tup [r0, r1])) h)
 (runD (fitD aM (aD h t2)) h fun t19 h =>
 runD (fitD aU (aD h t3)) h fun t20 h =>
 runD (gY cH [(0, t19), (1, t20)]) h fun t21 h =>
 boxW cH t21 h fun t22 h =>
 runD (aC aU t3 1) h fun t23 h =>
 runD (fitD aB (aD h t23)) h fun t24 h =>
 runD (aG iR h t6 t24) h fun t25 h =>
 runD (fitD rS (aD h t25)) h fun t26 h =>
 aP false c t26 [t22] h (fun t28 h =>
 runD (bL t22) h fun t30 h =>
 runD (aC cH t30 0) h fun t31 h =>
 runD (fitD aM (aD h t31)) h fun t32 h =>
 runD (bL t22) h fun t34 h =>
 runD (aC cH t34 1) h fun t35 h =>
 runD (fitD aU (aD h t35)) h fun t36 h =>
 runH (aR aM h t4 t32) h fun _ h =>
 runH (aR aU h t5 t36) h fun _ h =>
 sepB t4 [t35] = true ∧ dA (fitD aM (aD h t4)) fun r0 => dA (fitD aU (aD h t5)) fun r1 => K (.ret (.tup [r0, r1])) h)
 (fun v h => K (.pan v) h))))
 (fun v h => K (.pan v) h)
def fB.loops : Nat → bU
 | _ => ⟨[], [], [], [], [], []⟩
def fB.H (c : Ctx) (t0 : AV) (t1 : AV) (h : List AObj) (K : AOut → List AObj → Prop) : Prop :=
 cS aU h fun t4 h =>
 aP false c (.fn (.func 53) [] []) [t1] h (fun t10 h =>
 runD (unD .not t10) h fun t11 h =>
 bE t11
 (runD (gY aU []) h fun t12 h =>
 runH (aR aU h t4 t12) h fun _ h =>
 dA (fitD aU (aD h t4)) fun r0 => K (.ret (.tup [r0, (.int .i64 20)])) h)
 (aP false c (.fn (.func 38) [] []) [t0] h (fun t15 h =>
 runD (aW t15 0) h fun t16 h =>
 runD (aW t15 1) h fun t17 h =>
 runD (aW t15 2) h fun t18 h =>
 runD (binD cN .neq t18 (.int .i64 0)) h fun t20 h =>
 aL (fun (J1 : AV → List AObj → Prop) =>
 bE t20
 (J1 (.int .i64 1) h)
 (J1 t17 h))
 (fun t7 h => runD (gY aU [(0, t1), (1, (.int .i64 1)), (2, t7)]) h fun t23 h =>
 runH (aR aU h t4 t23) h fun _ h =>
 dA (fitD aU (aD h t4)) fun r0 => K (.ret (.tup [r0, (.int .i64 0)])) h))
 (fun v h => K (.pan v) h)))
 (fun v h => K (.pan v) h)
def eW.loops : Nat → bU
 | _ => ⟨[], [], [], [], [], []⟩
def eW.H (c : Ctx) (h : List AObj) (K : AOut → List AObj → Prop) : Prop :=
 cS iR h fun t0 h =>
 runD (gY iR [(1, (.fn (.func 58) [] [])), (2, (.fn (.func 59) [] [])), (3, (.fn (.func 60) [] [])), (4, (.fn (.func 61) [] [])), (5, (.fn (.func 62) [] [])), (6, (.fn (.func 63) [] [])), (7, (.fn (.func 64) [] []))]) h fun t1 h =>
 runH (aR iR h t0 t1) h fun _ h =>
 dA (fitD iR (aD h t0)) fun r0 => K (.ret r0) h
def dQ.loops : Nat → bU
 | 1 => ⟨[], [], [], [(3, none), (3, some [22, 25])], [], []⟩
 | 4 => ⟨[], [], [], [(3, none), (2, some [55, 57])], [], []⟩
 | _ => ⟨[], [], [], [], [], []⟩
def dQ.H (c : Ctx) (t0 : AV) (h : List AObj) (K : AOut → List AObj → Prop) : Prop :=
 runD (bL t0) h fun t8 h =>
 runD (aC cH t8 0) h fun t9 h =>
 runD (aC aM t9 0) h fun t10 h =>
 runD (fitD aK (aD h t10)) h fun t11 h =>
 runD (bL t0) h fun t13 h =>
 runD (aC cH t13 1) h fun t14 h =>
 runD (aC aU t14 2) h fun t15 h =>
 runD (fitD aB (aD h t15)) h fun t16 h =>
 aP false c.noS (.fn (.func 46) [] []) [t11, t16] h (fun t17 h =>
 runD (aW t17 0) h fun t18 h =>
 runD (aW t17 1) h fun t19 h =>
 cS bA h fun t2 h =>
 runH (aR bA h t2 t18) h fun _ h =>
 runD (binD cN .eql t19 (.int .i64 0)) h fun t21 h =>
 aL (fun (J1 : AV → AV → List AObj → Prop) =>
 bF t21 true
 (runD (aC bA t2 0) h fun t23 h =>
 runD (fitD aB (aD h t23)) h fun t24 h =>
 runD (binD aB .eql t24 (.int .i64 0)) h fun t25 h =>
 J1 (.bool true) t25 h)
 (J1 (.bool false) .und h))
 (fun t22 t25 h => runD (bT t22 t25 (.bool false)) h fun t26 h =>
 bE t26
 (runD (bL t0) h fun t29 h =>
 runD (aC cH t29 1) h fun t30 h =>
 runD (aC aU t30 2) h fun t31 h =>
 runD (fitD aB (aD h t31)) h fun t32 h =>
 aP false c (.fn (.func 88) [] []) [t0, t32] h (fun t33 h =>
 K (.ret (.tup [])) h)
 (fun v h => K (.pan v) h))
 (runD (bL t0) h fun t36 h =>
 runD (aC cH t36 0) h fun t37 h =>
 runD (aC aM t37 0) h fun t38 h =>
 runD (fitD aK (aD h t38)) h fun t39 h =>
 runD (bL t0) h fun t41 h =>
 runD (aC cH t41 1) h fun t42 h =>
 runD (aC aU t42 2) h fun t43 h =>
 runD (fitD aB (aD h t43)) h fun t44 h =>
 runD (bL t0) h fun t46 h =>
 runD (aC cH t46 1) h fun t47 h =>
 runD (aC aU t47 0) h fun t48 h =>
 runD (fitD cE (aD h t48)) h fun t49 h =>
 aP false c.noS (.fn (.func 49) [] []) [t39, t44, t49, (.int .i64 0)] h (fun t50 h =>
 runD (aW t50 0) h fun t51 h =>
 runD (aW t50 1) h fun t52 h =>
 runD (binD cN .neq t19 (.int .i64 0)) h fun t54 h =>
 aL (fun (J2 : AV → AV → List AObj → Prop) =>
 bF t54 false
 (runD (binD cN .neq t52 (.int .i64 0)) h fun t57 h =>
 J2 (.bool false) t57 h)
 (J2 (.bool true) .und h))
 (fun t55 t57 h => runD (bT t55 (.bool true) t57) h fun t58 h =>
 bE t58
 (aP false c (.fn (.func 88) [] []) [t0, (.int .i64 1)] h (fun t60 h =>
 K (.ret (.tup [])) h)
 (fun v h => K (.pan v) h))
 (runD (bL t0) h fun t63 h =>
 runD (aC cH t63 1) h fun t64 h =>
 runD (aC aU t64 2) h fun t65 h =>
 runH (aR aB h t65 t51) h fun _ h =>
 K (.ret (.tup [])) h)))
 (fun _ _ => False))))
 (fun _ _ => False)
def dR.loops : Nat → bU
 | _ => ⟨[], [], [], [], [], []⟩
def dR.H (c : Ctx) (t0 : AV) (h : List AObj) (K : AOut → List AObj → Prop) : Prop :=
 runD (bL t0) h fun t6 h =>
 runD (aC cH t6 0) h fun t7 h =>
 runD (aC aM t7 0) h fun t8 h =>
 runD (fitD aK (aD h t8)) h fun t9 h =>
 runD (bL t0) h fun t11 h =>
 runD (aC cH t11 1) h fun t12 h =>
 runD (aC aU t12 2) h fun t13 h =>
 runD (fitD aB (aD h t13)) h fun t14 h =>
 aP false c.noS (.fn (.func 40) [] []) [t9, t14] h (fun t15 h =>
 runD (aW t15 0) h fun t16 h =>
 runD (aW t15 1) h fun t17 h =>
 cS bY h fun t2 h =>
 runH (aR bY h t2 t16) h fun _ h =>
 runD (binD cN .neq t17 (.int .i64 0)) h fun t19 h =>
 bE t19
 (runD (bL t0) h fun t21 h =>
 runD (aC cH t21 1) h fun t22 h =>
 runD (aC aU t22 1) h fun t23 h =>
 runH (aR aB h t23 (.int .i64 8)) h fun _ h =>
 K (.ret (.tup [])) h)
 (runD (fitD bY (aD h t2)) h fun t26 h =>
 runD (bL t0) h fun t27 h =>
 runD (aC cH t27 1) h fun t28 h =>
 runD (aC aU t28 4) h fun t29 h =>
 runH (aR bY h t29 t26) h fun _ h =>
 runD (bL t0) h fun t30 h =>
 runD (aC cH t30 1) h fun t31 h =>
 runD (aC aU t31 1) h fun t32 h =>
 runH (aR aB h t32 (.int .i64 3)) h fun _ h =>
 K (.ret (.tup [])) h))
 (fun _ _ => False)
def dB.loops : Nat → bU
 | _ => ⟨[], [], [], [], [], []⟩
def dB.H (c : Ctx) (t0 : AV) (h : List AObj) (K : AOut → List AObj → Prop) : Prop :=
 runD (bL t0) h fun t4 h =>
 runD (aC cH t4 0) h fun t5 h =>
 runD (aC aM t5 0) h fun t6 h =>
 runD (fitD aK (aD h t6)) h fun t7 h =>
 runD (bL t0) h fun t9 h =>
 runD (aC cH t9 1) h fun t10 h =>
 runD (aC aU t10 4) h fun t11 h =>
 runD (fitD bY (aD h t11)) h fun t12 h =>
 aP false c.noS (.fn (.func 41) [] []) [t7, t12] h (fun t13 h =>
 runD (bL t0) h fun t14 h =>
 runD (aC cH t14 1) h fun t15 h =>
 runD (aC aU t15 4) h fun t16 h =>
 runH (aR bY h t16 t13) h fun _ h =>
 runD (bL t0) h fun t18 h =>
 runD (aC cH t18 1) h fun t19 h =>
 runD (aC aU t19 4) h fun t20 h =>
 runD (aC bY t20 4) h fun t21 h =>
 runD (fitD lB (aD h t21)) h fun t22 h =>
 aL (fun (J1 : List AObj → Prop) =>
 bE t22
 (runD (bL t0) h fun t24 h =>
 runD (aC cH t24 1) h fun t25 h =>
 runD (aC aU t25 1) h fun t26 h =>
 runH (aR aB h t26 (.int .i64 4)) h fun _ h =>
 J1 h)
 (J1 h))
 (fun h => K (.ret (.tup [])) h))
 (fun _ _ => False)
def dC.loops : Nat → bU
 | 5 => ⟨[], [], [], [(4, none), (2, some [52, 54]), (2, none), (7, some [56, 63])], [], []⟩
 | _ => ⟨[], [], [], [], [], []⟩
def dC.H (c : Ctx) (t0 : AV) (h : List AObj) (K : AOut → List AObj → Prop) : Prop :=
 boxW eZ t0 h fun t1 h =>
 runD (fitD eZ (aD h t1)) h fun t8 h =>
 runD (bL t8) h fun t9 h =>
 runD (aC cH t9 0) h fun t10 h =>
 runD (aC aM t10 0) h fun t11 h =>
 runD (fitD aK (aD h t11)) h fun t12 h =>
 runD (fitD eZ (aD h t1)) h fun t13 h =>
 runD (bL t13) h fun t14 h =>
 runD (aC cH t14 1) h fun t15 h =>
 runD (aC aU t15 4) h fun t16 h =>
 runD (fitD bY (aD h t16)) h fun t17 h =>
 aP false c.noS (.fn (.func 71) [] []) [t12, t17] h (fun t18 h =>
 runD (unD .not t18) h fun t19 h =>
 bE t19
 (runD (fitD eZ (aD h t1)) h fun t20 h =>
 runD (bL t20) h fun t21 h =>
 runD (aC cH t21 1) h fun t22 h =>
 runD (aC aU t22 1) h fun t23 h =>
 runH (aR aB h t23 (.int .i64 2)) h fun _ h =>
 K (.ret (.tup [])) h)
 (runD (fitD eZ (aD h t1)) h fun t25 h =>
 runD (bL t25) h fun t26 h =>
 runD (aC cH t26 0) h fun t27 h =>
 runD (aC aM t27 0) h fun t28 h =>
 runD (fitD aK (aD h t28)) h fun t29 h =>
 runD (fitD eZ (aD h t1)) h fun t30 h =>
 runD (bL t30) h fun t31 h =>
 runD (aC cH t31 1) h fun t32 h =>
 runD (aC aU t32 2) h fun t33 h =>
 runD (fitD aB (aD h t33)) h fun t34 h =>
 aP false c.noS (.fn (.func 46) [] []) [t29, t34] h (fun t35 h =>
 runD (aW t35 0) h fun t36 h =>
 runD (aW t35 1) h fun t37 h =>
 cS bA h fun t2 h =>
 runH (aR bA h t2 t36) h fun _ h =>
 runD (fitD eZ (aD h t1)) h fun t39 h =>
 runD (bL t39) h fun t40 h =>
 runD (aC cH t40 0) h fun t41 h =>
 runD (aC aM t41 0) h fun t42 h =>
 runD (fitD aK (aD h t42)) h fun t43 h =>
 runD (aC bA t2 2) h fun t44 h =>
 runD (fitD aB (aD h t44)) h fun t45 h =>
 aP false c.noS (.fn (.func 47) [] []) [t43, t45] h (fun t46 h =>
 runD (aW t46 0) h fun t47 h =>
 runD (aW t46 1) h fun t48 h =>
 runD (aC bA t2 2) h fun t49 h =>
 runD (fitD aB (aD h t49)) h fun t50 h =>
 runD (binD aB .neq t50 (.int .i64 0)) h fun t51 h =>
 aL (fun (J1 : AV → AV → List AObj → Prop) =>
 bF t51 true
 (runD (binD cN .eql t48 (.int .i64 0)) h fun t54 h =>
 J1 (.bool true) t54 h)
 (J1 (.bool false) .und h))
 (fun t52 t54 h => runD (bT t52 t54 (.bool false)) h fun t55 h =>
 aL (fun (J2 : AV → AV → List AObj → Prop) =>
 bF t55 true
 (runD (fitD eZ (aD h t1)) h fun t58 h =>
 runD (bL t58) h fun t59 h =>
 runD (aC cH t59 1) h fun t60 h =>
 runD (aC aU t60 0) h fun t61 h =>
 runD (fitD cE (aD h t61)) h fun t62 h =>
 runD (binD cE .leq t47 t62) h fun t63 h =>
 J2 (.bool true) t63 h)
 (J2 (.bool false) .und h))
 (fun t56 t63 h => runD (bT t56 t63 (.bool false)) h fun t64 h =>
 bE t64
 (runD (fitD eZ (aD h t1)) h fun t65 h =>
 runD (fitD eZ (aD h t1)) h fun t66 h =>
 runD (aC bA t2 2) h fun t67 h =>
 runD (fitD aB (aD h t67)) h fun t68 h =>
 runD (bL t65) h fun t69 h =>
 runD (aC cH t69 1) h fun t70 h =>
 runD (aC aU t70 3) h fun t71 h =>
 runH (aR aB h t71 t68) h fun _ h =>
 runD (bL t66) h fun t72 h =>
 runD (aC cH t72 1) h fun t73 h =>
 runD (aC aU t73 1) h fun t74 h =>
 runH (aR aB h t74 (.int .i64 5)) h fun _ h =>
 sepB t71 [t1] = true ∧ K (.ret (.tup [])) h)
 (runD (fitD eZ (aD h t1)) h fun t75 h =>
 runD (bL t75) h fun t76 h =>
 runD (aC cH t76 0) h fun t77 h =>
 runD (aC aM t77 0) h fun t78 h =>
 runD (fitD aK (aD h t78)) h fun t79 h =>
 runD (fitD eZ (aD h t1)) h fun t80 h =>
 runD (bL t80) h fun t81 h =>
 runD (aC cH t81 1) h fun t82 h =>
 runD (aC aU t82 4) h fun t83 h =>
 runD (fitD bY (aD h t83)) h fun t84 h =>
 aP false c.noS (.fn (.func 89) [] []) [t79, t84] h (fun t85 h =>
 aP false c (.fn (.func 90) [] []) [t85, (.fn (.func 91) [] [t1])] h (fun t88 h =>
 runD (fitD eZ (aD h t1)) h fun t89 h =>
 runD (fitD eZ (aD h t1)) h fun t90 h =>
 runD (fitD eZ (aD h t1)) h fun t91 h =>
 runD (binD aB .geq t88 (.int .i64 0)) h fun t93 h =>
 runD (bL t89) h fun t94 h =>
 runD (aC cH t94 1) h fun t95 h =>
 runD (aC aU t95 6) h fun t96 h =>
 runH (aR lB h t96 t93) h fun _ h =>
 runD (bL t90) h fun t97 h =>
 runD (aC cH t97 1) h fun t98 h =>
 runD (aC aU t98 5) h fun t99 h =>
 runH (aR cE h t99 (.str [])) h fun _ h =>
 runD (bL t91) h fun t100 h =>
 runD (aC cH t100 1) h fun t101 h =>
 runD (aC aU t101 1) h fun t102 h =>
 runH (aR aB h t102 (.int .i64 6)) h fun _ h =>
 sepB t96 [t1] = true ∧ sepB t96 [t1] = true ∧ sepB t99 [t1] = true ∧ runD (binD aB .geq t88 (.int .i64 0)) h fun t104 h =>
 aL (fun (J3 : List AObj → Prop) =>
 bE t104
 (runD (fitD eZ (aD h t1)) h fun t105 h =>
 runD (aG aS h t85 t88) h fun t108 h =>
 runD (aC aJ t108 2) h fun t109 h =>
 runD (fitD cE (aD h t109)) h fun t110 h =>
 runD (bL t105) h fun t111 h =>
 runD (aC cH t111 1) h fun t112 h =>
 runD (aC aU t112 5) h fun t113 h =>
 runH (aR cE h t113 t110) h fun _ h =>
 J3 h)
 (J3 h))
 (fun h => K (.ret (.tup [])) h))
 (fun v h => K (.pan v) h))
 (fun _ _ => False)))))
 (fun _ _ => False))
 (fun _ _ => False)))
 (fun _ _ => False)
def dS.loops : Nat → bU
 | _ => ⟨[], [], [], [], [], []⟩
def dS.H (c : Ctx) (t0 : AV) (h : List AObj) (K : AOut → List AObj → Prop) : Prop :=
 aP false c (.fn (.func 92) [] []) [t0, (.int .i64 0)] h (fun t3 h =>
 runD (bL t0) h fun t6 h =>
 runD (aC cH t6 1) h fun t7 h =>
 runD (aC aU t7 3) h fun t8 h =>
 runD (fitD aB (aD h t8)) h fun t9 h =>
 aP false c (.fn (.func 88) [] []) [t0, t9] h (fun t10 h =>
 K (.ret (.tup [])) h)
 (fun v h => K (.pan v) h))
 (fun v h => K (.pan v) h)
def dD.loops : Nat → bU
 | _ => ⟨[], [], [], [], [], []⟩
def dD.H (c : Ctx) (t0 : AV) (h : List AObj) (K : AOut → List AObj → Prop) : Prop :=
 aP false c (.fn (.func 92) [] []) [t0, (.int .i64 0)] h (fun t3 h =>
 runD (bL t0) h fun t5 h =>
 runD (aC cH t5 1) h fun t6 h =>
 runD (aC aU t6 1) h fun t7 h =>
 runH (aR aB h t7 (.int .i64 7)) h fun _ h =>
 K (.ret (.tup [])) h)
 (fun v h => K (.pan v) h)
def cW.loops : Nat → bU
 | _ => ⟨[], [], [], [], [], []⟩
def cW.H (c : Ctx) (t0 : AV) (h : List AObj) (K : AOut → List AObj → Prop) : Prop :=
 aP false c (.fn (.func 92) [] []) [t0, (.int .i64 1)] h (fun t3 h =>
 runD (bL t0) h fun t5 h =>
 runD (aC cH t5 1) h fun t6 h =>
 runD (aC aU t6 1) h fun t7 h =>
 runH (aR aB h t7 (.int .i64 8)) h fun _ h =>
 K (.ret (.tup [])) h)
 (fun v h => K (.pan v) h)
def dL.loops : Nat → bU
 | _ => ⟨[], [], [], [], [], []⟩
def dL.H (c : Ctx) (t0 : AV) (t1 : AV) (h : List AObj) (K : AOut → List AObj → Prop) : Prop :=
 runD (bL t0) h fun t7 h =>
 runD (aC cH t7 1) h fun t8 h =>
 runD (aC aU t8 2) h fun t9 h =>
 runH (aR aB h t9 t1) h fun _ h =>
 runD (bL t0) h fun t10 h =>
 runD (aC cH t10 1) h fun t11 h =>
 runD (aC aU t11 1) h fun t12 h =>
 runH (aR aB h t12 (.int .i64 2)) h fun _ h =>
 K (.ret (.tup [])) h
def cU.loops : Nat → bU
 | _ => ⟨[], [], [], [], [], []⟩
def cU.H (c : Ctx) (t0 : AV) (t1 : AV) (h : List AObj) (K : AOut → List AObj → Prop) : Prop :=
 boxW aJ t0 h fun t2 h =>
 runD (aC aJ t2 1) h fun t4 h =>
 runD (fitD cE (aD h t4)) h fun t5 h =>
 runD (fitD eZ (aD h t1)) h fun t6 h =>
 runD (bL t6) h fun t7 h =>
 runD (aC cH t7 1) h fun t8 h =>
 runD (aC aU t8 0) h fun t9 h =>
 runD (fitD cE (aD h t9)) h fun t10 h =>
 runD (binD cE .eql t5 t10) h fun t11 h =>
 K (.ret t11) h
def cR.loops : Nat → bU
 | 0 => ⟨[], [], [], [(7, none), (6, some [10, 16])], [], []⟩
 | _ => ⟨[], [], [], [], [], []⟩
def cR.H (c : Ctx) (t0 : AV) (t1 : AV) (h : List AObj) (K : AOut → List AObj → Prop) : Prop :=
 runD (bL t0) h fun t5 h =>
 runD (aC cH t5 1) h fun t6 h =>
 runD (aC aU t6 2) h fun t7 h =>
 runD (fitD aB (aD h t7)) h fun t8 h =>
 runD (binD aB .geq t8 (.int .i64 0)) h fun t9 h =>
 aL (fun (J1 : AV → AV → List AObj → Prop) =>
 bF t9 true
 (runD (bL t0) h fun t12 h =>
 runD (aC cH t12 1) h fun t13 h =>
 runD (aC aU t13 2) h fun t14 h =>
 runD (fitD aB (aD h t14)) h fun t15 h =>
 runD (binD aB .lss t15 (.int .i64 256)) h fun t16 h =>
 J1 (.bool true) t16 h)
 (J1 (.bool false) .und h))
 (fun t10 t16 h => runD (bT t10 t16 (.bool false)) h fun t17 h =>
 aL (fun (J2 : List AObj → Prop) =>
 bE t17
 (runD (bL t0) h fun t21 h =>
 runD (aC cH t21 0) h fun t22 h =>
 runD (fitD aM (aD h t22)) h fun t23 h =>
 runD (bL t0) h fun t25 h =>
 runD (aC cH t25 1) h fun t26 h =>
 runD (aC aU t26 2) h fun t27 h =>
 runD (fitD aB (aD h t27)) h fun t28 h =>
 runD (binD aB .mul (.int .i64 2) t28) h fun t29 h =>
 runD (binD aB .add t29 t1) h fun t31 h =>
 runD (gY fS [(0, (.int .i64 2)), (1, t31)]) h fun t32 h =>
 aP false c.noS (.fn (.func 74) [] []) [t23, t32] h (fun t33 h =>
 runD (aW t33 0) h fun t34 h =>
 runD (aW t33 1) h fun t35 h =>
 runD (bL t0) h fun t36 h =>
 runD (aC cH t36 0) h fun t37 h =>
 runH (aR aM h t37 t34) h fun _ h =>
 J2 h)
 (fun _ _ => False))
 (J2 h))
 (fun h => K (.ret (.tup [])) h))
theorem fR.eq (F : List (FuncId × aE)) (S : List (FuncId × Con)) (t0 t1 : AV) (h : List AObj) (K : AOut → List AObj → Prop) : funW (ctx F S fR.loops) Tryz.f14 [t0, t1] h K = fR.H (ctx F S fR.loops) t0 t1 h K := by kernel_rfl
theorem fB.eq (F : List (FuncId × aE)) (S : List (FuncId × Con)) (t0 t1 : AV) (h : List AObj) (K : AOut → List AObj → Prop) : funW (ctx F S fB.loops) Tryz.f27 [t0, t1] h K = fB.H (ctx F S fB.loops) t0 t1 h K := by kernel_rfl
theorem eW.eq (F : List (FuncId × aE)) (S : List (FuncId × Con)) (h : List AObj) (K : AOut → List AObj → Prop) : funW (ctx F S eW.loops) Tryz.f36 [] h K = eW.H (ctx F S eW.loops)  h K := by kernel_rfl
theorem dQ.eq (F : List (FuncId × aE)) (S : List (FuncId × Con)) (t0 : AV) (h : List AObj) (K : AOut → List AObj → Prop) : funW (ctx F S dQ.loops) Tryz.f58 [t0] h K = dQ.H (ctx F S dQ.loops) t0 h K := by kernel_rfl
theorem dR.eq (F : List (FuncId × aE)) (S : List (FuncId × Con)) (t0 : AV) (h : List AObj) (K : AOut → List AObj → Prop) : funW (ctx F S dR.loops) Tryz.f59 [t0] h K = dR.H (ctx F S dR.loops) t0 h K := by kernel_rfl
theorem dB.eq (F : List (FuncId × aE)) (S : List (FuncId × Con)) (t0 : AV) (h : List AObj) (K : AOut → List AObj → Prop) : funW (ctx F S dB.loops) Tryz.f60 [t0] h K = dB.H (ctx F S dB.loops) t0 h K := by kernel_rfl
theorem dC.eq (F : List (FuncId × aE)) (S : List (FuncId × Con)) (t0 : AV) (h : List AObj) (K : AOut → List AObj → Prop) : funW (ctx F S dC.loops) Tryz.f61 [t0] h K = dC.H (ctx F S dC.loops) t0 h K := by kernel_rfl
theorem dS.eq (F : List (FuncId × aE)) (S : List (FuncId × Con)) (t0 : AV) (h : List AObj) (K : AOut → List AObj → Prop) : funW (ctx F S dS.loops) Tryz.f62 [t0] h K = dS.H (ctx F S dS.loops) t0 h K := by kernel_rfl
theorem dD.eq (F : List (FuncId × aE)) (S : List (FuncId × Con)) (t0 : AV) (h : List AObj) (K : AOut → List AObj → Prop) : funW (ctx F S dD.loops) Tryz.f63 [t0] h K = dD.H (ctx F S dD.loops) t0 h K := by kernel_rfl
theorem cW.eq (F : List (FuncId × aE)) (S : List (FuncId × Con)) (t0 : AV) (h : List AObj) (K : AOut → List AObj → Prop) : funW (ctx F S cW.loops) Tryz.f64 [t0] h K = cW.H (ctx F S cW.loops) t0 h K := by kernel_rfl
theorem dL.eq (F : List (FuncId × aE)) (S : List (FuncId × Con)) (t0 t1 : AV) (h : List AObj) (K : AOut → List AObj → Prop) : funW (ctx F S dL.loops) Tryz.f88 [t0, t1] h K = dL.H (ctx F S dL.loops) t0 t1 h K := by kernel_rfl
theorem cU.eq (F : List (FuncId × aE)) (S : List (FuncId × Con)) (t0 t1 : AV) (h : List AObj) (K : AOut → List AObj → Prop) : funW (ctx F S cU.loops) Tryz.f91 [t0, t1] h K = cU.H (ctx F S cU.loops) t0 t1 h K := by kernel_rfl
theorem cR.eq (F : List (FuncId × aE)) (S : List (FuncId × Con)) (t0 t1 : AV) (h : List AObj) (K : AOut → List AObj → Prop) : funW (ctx F S cR.loops) Tryz.f92 [t0, t1] h K = cR.H (ctx F S cR.loops) t0 t1 h K := by kernel_rfl
theorem fR.at : Tryz.prog.funcs[14]? = some Tryz.f14 := by kernel_rfl
theorem fR.nm : (Tryz.f14.name == "runtime.NumGoroutine") = false := by kernel_rfl
theorem fR.bd : Tryz.f14.body.isNone = false := by kernel_rfl
theorem fB.at : Tryz.prog.funcs[27]? = some Tryz.f27 := by kernel_rfl
theorem fB.nm : (Tryz.f27.name == "runtime.NumGoroutine") = false := by kernel_rfl
theorem fB.bd : Tryz.f27.body.isNone = false := by kernel_rfl
theorem eW.at : Tryz.prog.funcs[36]? = some Tryz.f36 := by kernel_rfl
theorem eW.nm : (Tryz.f36.name == "runtime.NumGoroutine") = false := by kernel_rfl
theorem eW.bd : Tryz.f36.body.isNone = false := by kernel_rfl
theorem dQ.at : Tryz.prog.funcs[58]? = some Tryz.f58 := by kernel_rfl
theorem dQ.nm : (Tryz.f58.name == "runtime.NumGoroutine") = false := by kernel_rfl
theorem dQ.bd : Tryz.f58.body.isNone = false := by kernel_rfl
theorem dR.at : Tryz.prog.funcs[59]? = some Tryz.f59 := by kernel_rfl
theorem dR.nm : (Tryz.f59.name == "runtime.NumGoroutine") = false := by kernel_rfl
theorem dR.bd : Tryz.f59.body.isNone = false := by kernel_rfl
theorem dB.at : Tryz.prog.funcs[60]? = some Tryz.f60 := by kernel_rfl
theorem dB.nm : (Tryz.f60.name == "runtime.NumGoroutine") = false := by kernel_rfl
theorem dB.bd : Tryz.f60.body.isNone = false := by kernel_rfl
theorem dC.at : Tryz.prog.funcs[61]? = some Tryz.f61 := by kernel_rfl
theorem dC.nm : (Tryz.f61.name == "runtime.NumGoroutine") = false := by kernel_rfl
theorem dC.bd : Tryz.f61.body.isNone = false := by kernel_rfl
theorem dS.at : Tryz.prog.funcs[62]? = some Tryz.f62 := by kernel_rfl
theorem dS.nm : (Tryz.f62.name == "runtime.NumGoroutine") = false := by kernel_rfl
theorem dS.bd : Tryz.f62.body.isNone = false := by kernel_rfl
theorem dD.at : Tryz.prog.funcs[63]? = some Tryz.f63 := by kernel_rfl
theorem dD.nm : (Tryz.f63.name == "runtime.NumGoroutine") = false := by kernel_rfl
theorem dD.bd : Tryz.f63.body.isNone = false := by kernel_rfl
theorem cW.at : Tryz.prog.funcs[64]? = some Tryz.f64 := by kernel_rfl
theorem cW.nm : (Tryz.f64.name == "runtime.NumGoroutine") = false := by kernel_rfl
theorem cW.bd : Tryz.f64.body.isNone = false := by kernel_rfl
theorem dL.at : Tryz.prog.funcs[88]? = some Tryz.f88 := by kernel_rfl
theorem dL.nm : (Tryz.f88.name == "runtime.NumGoroutine") = false := by kernel_rfl
theorem dL.bd : Tryz.f88.body.isNone = false := by kernel_rfl
theorem cU.at : Tryz.prog.funcs[91]? = some Tryz.f91 := by kernel_rfl
theorem cU.nm : (Tryz.f91.name == "runtime.NumGoroutine") = false := by kernel_rfl
theorem cU.bd : Tryz.f91.body.isNone = false := by kernel_rfl
theorem cR.at : Tryz.prog.funcs[92]? = some Tryz.f92 := by kernel_rfl
theorem cR.nm : (Tryz.f92.name == "runtime.NumGoroutine") = false := by kernel_rfl
theorem cR.bd : Tryz.f92.body.isNone = false := by kernel_rfl
end Lam
namespace Lam
open Go Go.Proofs
structure Rd where
  key : bD
  phase : Int
  block : Int
  to_ : Int
  seek : Sk
  val : bD
  found : Bool
def Rd.V (r : Rd) : AV := .agg [.str r.key, .int .i64 r.phase, .int .i64 r.block, .int .i64 r.to_, r.seek.V, .str r.val, .bool r.found]
def rdZ : Rd := ⟨[], 0, 0, 0, skZ, [], false⟩
def doM (m : Mm) (x : Mic) : Mm := if yA m [x] = true then runS m [x] else m
theorem aMY (m : Mm) (x : Mic) : ∃ e, runV m [x] = .tup [(doM m x).V, .int .i64 e] := by
  unfold runV doM
  split
  · exact ⟨_, rfl⟩
  · exact ⟨_, rfl⟩
def kX (m : Mm) (block line : Int) : Mm := if 0 ≤ block ∧ block < 256 then doM m ⟨2, 2 * block + line, 0⟩ else m
def qP (w : List Int) (r : Rd) : Rd := match dJ w r.block with
  | none => { r with block := 1, phase := 2 }
  | some n => if n.level = 0 then { r with phase := 2 } else match lS w r.block r.key 0 with
    | none => { r with block := 1, phase := 2 }
    | some t => { r with block := t }
def sB (w : List Int) (r : Rd) : Rd := match qG w r.block with
  | none => { r with phase := 8 }
  | some x => { r with seek := x, phase := 3 }
def qH (w : List Int) (r : Rd) : Rd := { r with seek := kW w r.seek, phase := if (kW w r.seek).over = true then 4 else r.phase }
def vV (w : List Int) (b : Int) : Option (Int × bD) := match dJ w b with
  | none => none
  | some n => if n.next = 0 then none else match (dJ w n.next).bind (lowO w) with
    | none => none
    | some l => some (n.next, l)
def idxR (key : bD) (l : List RecT) : Option RecT := l.find? fun x => decide (x.key = key)
def sC (w : List Int) (r : Rd) : Rd := match idxR r.key (uT (jC w r.seek.refs)) with
  | none => { r with found := false, val := [], phase := 6 }
  | some x => { r with found := true, val := x.val, phase := 6 }
def mU (w : List Int) (r : Rd) : Rd := if tV w r.seek.block r.seek.turn = false then { r with phase := 2 } else match vV w r.block with
  | none => sC w r
  | some (to, low) => if ltB r.key low = false then { r with to_ := to, phase := 5 } else sC w r
def nX (m : Mm) (r : Rd) : Mm × Rd :=
  if r.phase = 1 then (m, qP m.vol r)
  else if r.phase = 2 then (m, sB m.vol r)
  else if r.phase = 3 then (m, qH m.vol r)
  else if r.phase = 4 then (m, mU m.vol r)
  else if r.phase = 5 then (kX m r.block 0, { r with block := r.to_, phase := 2 })
  else if r.phase = 6 then (kX m r.block 0, { r with phase := 7 })
  else if r.phase = 7 then (kX m r.block 1, { r with phase := 8 })
  else (m, r)
def zC (w : List Int) : Int := if eL w = true then w.getD 3 0 else 1
def mV (w : List Int) (k : bD) : AV := if k ≠ [] ∧ k.length ≤ 21 then .tup [Rd.V ⟨k, 1, zC w, 0, skZ, [], false⟩, .int .i64 0] else .tup [rdZ.V, .int .i64 20]
def eW.K : Con := fun args h K => match args with
  | [] => eW.H (ctx [] [] eW.loops)  h K
  | _ => False
theorem eW.spec : cP Tryz.prog 36 eW.K := by
  refine cP.of (bQ (F := []) (S := []) (by simp) (by simp) eW.loops) eW.at eW.nm eW.bd ?_
  intro args h K hC
  unfold eW.K at hC
  split at hC
  · rw [eW.eq]; exact hC
  · exact hC.elim
def dL.K : Con := fun args h K => match args with
  | [a0, a1] => dL.H (ctx [] [] dL.loops) a0 a1 h K
  | _ => False
theorem dL.spec : cP Tryz.prog 88 dL.K := by
  refine cP.of (bQ (F := []) (S := []) (by simp) (by simp) dL.loops) dL.at dL.nm dL.bd ?_
  intro args h K hC
  unfold dL.K at hC
  split at hC
  · rw [dL.eq]; exact hC
  · exact hC.elim
def cR.K : Con := fun args h K => match args with
  | [a0, a1] => cR.H (ctx [(74, iK.C)] [] cR.loops) a0 a1 h K
  | _ => False
theorem cR.spec : cP Tryz.prog 92 cR.K := by
  refine cP.of (bQ (F := [(74, iK.C)]) (S := []) (by simpa using iK.spec) (by simp) cR.loops) cR.at cR.nm cR.bd ?_
  intro args h K hC
  unfold cR.K at hC
  split at hC
  · rw [cR.eq]; exact hC
  · exact hC.elim
def dQ.K : Con := fun args h K => match args with
  | [a0] => dQ.H (ctx [(46, cK.C), (49, eC.C)] [(88, dL.K)] dQ.loops) a0 h K
  | _ => False
theorem dQ.spec : cP Tryz.prog 58 dQ.K := by
  refine cP.of (bQ (F := [(46, cK.C), (49, eC.C)]) (S := [(88, dL.K)]) (by simpa using ⟨cK.spec, eC.spec⟩) (by simpa using dL.spec) dQ.loops) dQ.at dQ.nm dQ.bd ?_
  intro args h K hC
  unfold dQ.K at hC
  split at hC
  · rw [dQ.eq]; exact hC
  · exact hC.elim
def dR.K : Con := fun args h K => match args with
  | [a0] => dR.H (ctx [(40, fY.C)] [] dR.loops) a0 h K
  | _ => False
theorem dR.spec : cP Tryz.prog 59 dR.K := by
  refine cP.of (bQ (F := [(40, fY.C)]) (S := []) (by simpa using fY.spec) (by simp) dR.loops) dR.at dR.nm dR.bd ?_
  intro args h K hC
  unfold dR.K at hC
  split at hC
  · rw [dR.eq]; exact hC
  · exact hC.elim
def dB.K : Con := fun args h K => match args with
  | [a0] => dB.H (ctx [(41, gR.C)] [] dB.loops) a0 h K
  | _ => False
theorem dB.spec : cP Tryz.prog 60 dB.K := by
  refine cP.of (bQ (F := [(41, gR.C)]) (S := []) (by simpa using gR.spec) (by simp) dB.loops) dB.at dB.nm dB.bd ?_
  intro args h K hC
  unfold dB.K at hC
  split at hC
  · rw [dB.eq]; exact hC
  · exact hC.elim
def cU.K : Con := fun args h K => match args with
  | [a0, a1] => cU.H (ctx [] [] cU.loops) a0 a1 h K
  | _ => False
theorem cU.spec : cP Tryz.prog 91 cU.K := by
  refine cP.of (bQ (F := []) (S := []) (by simp) (by simp) cU.loops) cU.at cU.nm cU.bd ?_
  intro args h K hC
  unfold cU.K at hC
  split at hC
  · rw [cU.eq]; exact hC
  · exact hC.elim
def aT.K : Con := fun args h K => match args with
  | [a0, a1] => aT.H (ctx [] [(91, cU.K)] aT.loops) a0 a1 h K
  | _ => False
theorem aT.spec : cP Tryz.prog 90 aT.K := by
  refine cP.of (bQ (F := []) (S := [(91, cU.K)]) (by simp) (by simpa using cU.spec) aT.loops) aT.at aT.nm aT.bd ?_
  intro args h K hC
  unfold aT.K at hC
  split at hC
  · rw [aT.eq]; exact hC
  · exact hC.elim
def dC.K : Con := fun args h K => match args with
  | [a0] => dC.H (ctx [(71, fZ.C), (46, cK.C), (47, dG.C), (89, gB.C)] [(90, aT.K)] dC.loops) a0 h K
  | _ => False
theorem dC.spec : cP Tryz.prog 61 dC.K := by
  refine cP.of (bQ (F := [(71, fZ.C), (46, cK.C), (47, dG.C), (89, gB.C)]) (S := [(90, aT.K)]) (by simpa using ⟨fZ.spec, cK.spec, dG.spec, gB.spec⟩) (by simpa using aT.spec) dC.loops) dC.at dC.nm dC.bd ?_
  intro args h K hC
  unfold dC.K at hC
  split at hC
  · rw [dC.eq]; exact hC
  · exact hC.elim
def dS.K : Con := fun args h K => match args with
  | [a0] => dS.H (ctx [] [(92, cR.K), (88, dL.K)] dS.loops) a0 h K
  | _ => False
theorem dS.spec : cP Tryz.prog 62 dS.K := by
  refine cP.of (bQ (F := []) (S := [(92, cR.K), (88, dL.K)]) (by simp) (by simpa using ⟨cR.spec, dL.spec⟩) dS.loops) dS.at dS.nm dS.bd ?_
  intro args h K hC
  unfold dS.K at hC
  split at hC
  · rw [dS.eq]; exact hC
  · exact hC.elim
def dD.K : Con := fun args h K => match args with
  | [a0] => dD.H (ctx [] [(92, cR.K)] dD.loops) a0 h K
  | _ => False
theorem dD.spec : cP Tryz.prog 63 dD.K := by
  refine cP.of (bQ (F := []) (S := [(92, cR.K)]) (by simp) (by simpa using cR.spec) dD.loops) dD.at dD.nm dD.bd ?_
  intro args h K hC
  unfold dD.K at hC
  split at hC
  · rw [dD.eq]; exact hC
  · exact hC.elim
def cW.K : Con := fun args h K => match args with
  | [a0] => cW.H (ctx [] [(92, cR.K)] cW.loops) a0 h K
  | _ => False
theorem cW.spec : cP Tryz.prog 64 cW.K := by
  refine cP.of (bQ (F := []) (S := [(92, cR.K)]) (by simp) (by simpa using cR.spec) cW.loops) cW.at cW.nm cW.bd ?_
  intro args h K hC
  unfold cW.K at hC
  split at hC
  · rw [cW.eq]; exact hC
  · exact hC.elim
abbrev fnsR : AObj := .row .arr 0 (.fns [none, some 58, some 59, some 60, some 61, some 62, some 63, some 64])
def hpR (z : Bool) (m0 : Mm) (r0 : Rd) (m : Mm) (r : Rd) (Y : List AObj) : List AObj :=
  .box m0.V :: .box r0.V :: .box (.agg [.sl z (.ints .i64 []), .sl z (.ints .i64 []), .sl z (.pends [])]) :: .box (.agg [.str [], .int .i64 0, .int .i64 0, .int .i64 0, .agg [.int .i64 0, .int .i64 0, .int .i64 0, .sl z (.ints .i64 []), .bool false], .str [], .bool false]) :: fnsR :: fnsR :: .box (.agg [m.V, r.V]) :: Y
theorem aOd (z : Bool) (m0 m : Mm) (r0 r : Rd) (hsw : iI m.vol) (K : AOut → List AObj → Prop) (hK : ∀ Y, K (.ret (.tup [])) (hpR z m0 r0 m (sB m.vol r) Y)) :
    dR.K [.ptr 6 []] (hpR z m0 r0 m r []) K := by
  obtain ⟨vol, per, pend⟩ := m
  obtain ⟨key, phase, block, to_, ⟨sb, st, sa, sr, so⟩, val, found⟩ := r
  have hr := iI.roomy hsw
  simp only at hr hK
  unfold sB at hK
  unfold dR.K dR.H
  simp only at hK
  cases hb : qG vol block with
  | none =>
    have hbv : yD vol block = .tup [skZ.V, .int .i64 90] := by unfold yD; rw [hb]
    rw [hb] at hK
    simp only [hpR, Mm.V, memV, Rd.V, Sk.V, skZ, hbv, fY.C, aA, aA, gq, reduceEq, reduceLT, reduceLE, implies_true, reduceCtorEq, if_true, if_false, go_sem, reduceEqDiff, Nat.reduceLT, reduceAdd, reduceSub, reduceLeDiff, reduceReplicate, reduceToNat] at hK ⊢
    exact ⟨hr, hK _⟩
  | some x =>
    obtain ⟨xb, xt, xa, xr, xo⟩ := x
    have hbv : yD vol block = .tup [Sk.V ⟨xb, xt, xa, xr, xo⟩, .int .i64 0] := by unfold yD; rw [hb]
    rw [hb] at hK
    simp only [hpR, Mm.V, memV, Rd.V, Sk.V, skZ, hbv, fY.C, aA, aA, gq, reduceEq, reduceLT, reduceLE, implies_true, reduceCtorEq, if_true, if_false, go_sem, reduceEqDiff, Nat.reduceLT, reduceAdd, reduceSub, reduceLeDiff, reduceReplicate, reduceToNat] at hK ⊢
    exact ⟨hr, hK _⟩
theorem aMZ (z : Bool) (m0 m : Mm) (r0 r : Rd) (hsw : iI m.vol) (hsr : r.seek.refs.length ≤ 200) (K : AOut → List AObj → Prop) (hK : ∀ Y, K (.ret (.tup [])) (hpR z m0 r0 m (qH m.vol r) Y)) :
    dB.K [.ptr 6 []] (hpR z m0 r0 m r []) K := by
  obtain ⟨vol, per, pend⟩ := m
  obtain ⟨key, phase, block, to_, ⟨sb, st, sa, sr, so⟩, val, found⟩ := r
  have hr := hsw.1
  simp only at hr hK hsr
  unfold qH at hK
  unfold dB.K dB.H
  simp only at hK
  have h4 : vol.length ≤ 65536 ∧ sr.length ≤ 65536 := ⟨hr, by omega⟩
  generalize hs : kW vol ⟨sb, st, sa, sr, so⟩ = x at *
  obtain ⟨xb, xt, xa, xr, xo⟩ := x
  cases xo with
  | true =>
    simp only [hpR, Mm.V, memV, Rd.V, Sk.V, hs, gR.C, aA, aA, gq, reduceEq, reduceLT, reduceLE, implies_true, reduceCtorEq, if_true, if_false, go_sem, reduceEqDiff, Nat.reduceLT, reduceAdd, reduceSub, reduceLeDiff, reduceReplicate, reduceToNat] at hK ⊢
    exact ⟨h4, hK _⟩
  | false =>
    simp only [hpR, Mm.V, memV, Rd.V, Sk.V, hs, gR.C, aA, aA, gq, reduceEq, reduceLT, reduceLE, implies_true, reduceCtorEq, if_true, if_false, go_sem, reduceEqDiff, Nat.reduceLT, reduceAdd, reduceSub, reduceLeDiff, reduceReplicate, reduceToNat] at hK ⊢
    exact ⟨h4, hK _⟩
theorem aGF (z : Bool) (m0 m : Mm) (r0 r : Rd) (line : Int) (h0 : 0 ≤ line) (h1 : line ≤ 1) (hsm : kP m.vol m.per m.pend) (hpe : m.pend.length + 1 ≤ 1000000) (K : AOut → List AObj → Prop) (hK : K (.ret (.tup [])) (hpR z m0 r0 (kX m r.block line) r [])) :
    cR.K [.ptr 6 [], .int .i64 line] (hpR z m0 r0 m r []) K := by
  obtain ⟨vol, per, pend⟩ := m
  obtain ⟨key, phase, block, to_, ⟨sb, st, sa, sr, so⟩, val, found⟩ := r
  simp only at hK hsm hpe
  unfold kX at hK
  unfold cR.K cR.H
  by_cases hb : 0 ≤ block ∧ block < 256
  · rw [if_pos hb] at hK
    have e1 : IntKind.i64.wrap (2 * block) = 2 * block := w64 (by omega) (by omega)
    have e2 : IntKind.i64.wrap (2 * block + line) = 2 * block + line := w64 (by omega) (by omega)
    have d1 : decide (0 ≤ block) = true := decide_eq_true hb.1
    have d2 : decide (block < 256) = true := decide_eq_true hb.2
    obtain ⟨e, he⟩ := aMY ⟨vol, per, pend⟩ ⟨2, 2 * block + line, 0⟩
    generalize doM ⟨vol, per, pend⟩ ⟨2, 2 * block + line, 0⟩ = m' at *
    obtain ⟨vol', per', pend'⟩ := m'
    simp only [hpR, Mm.V, memV, Rd.V, Sk.V, d1, d2, e1, e2, he, iK.C, aA, aA, gq, reduceEq, reduceLT, reduceLE, implies_true, reduceCtorEq, if_true, if_false, go_sem, reduceEqDiff, Nat.reduceLT, reduceAdd, reduceSub, reduceLeDiff, reduceReplicate, reduceToNat] at hK ⊢
    exact ⟨⟨hsm, by omega⟩, hK⟩
  · rw [if_neg hb] at hK
    by_cases hb0 : 0 ≤ block
    · have d1 : decide (0 ≤ block) = true := decide_eq_true hb0
      have d2 : decide (block < 256) = false := decide_eq_false (by omega)
      simp only [hpR, Mm.V, memV, Rd.V, Sk.V, d1, d2, aA, aA, gq, reduceEq, reduceLT, reduceLE, implies_true, reduceCtorEq, if_true, if_false, go_sem, reduceEqDiff, Nat.reduceLT, reduceAdd, reduceSub, reduceLeDiff, reduceReplicate, reduceToNat] at hK ⊢
      exact hK
    · have d1 : decide (0 ≤ block) = false := decide_eq_false hb0
      simp only [hpR, Mm.V, memV, Rd.V, Sk.V, d1, aA, aA, gq, reduceEq, reduceLT, reduceLE, implies_true, reduceCtorEq, if_true, if_false, go_sem, reduceEqDiff, Nat.reduceLT, reduceAdd, reduceSub, reduceLeDiff, reduceReplicate, reduceToNat] at hK ⊢
      exact hK
theorem aNa (z : Bool) (m0 m : Mm) (r0 r : Rd) (hsm : kP m.vol m.per m.pend) (hpe : m.pend.length + 1 ≤ 1000000) (K : AOut → List AObj → Prop) (hK : K (.ret (.tup [])) (hpR z m0 r0 (kX m r.block 0) { r with phase := 7 } [])) :
    dD.K [.ptr 6 []] (hpR z m0 r0 m r []) K := by
  unfold dD.K dD.H
  simp only [aA, aA, gq, reduceEq, reduceLT, reduceLE, implies_true, reduceCtorEq, if_true, if_false, go_sem, reduceEqDiff, Nat.reduceLT, reduceAdd, reduceSub, reduceLeDiff, reduceReplicate, reduceToNat]
  refine aGF z m0 m r0 r 0 (by decide) (by decide) hsm hpe _ ?_
  generalize kX m r.block 0 = m' at *
  obtain ⟨vol', per', pend'⟩ := m'
  obtain ⟨key, phase, block, to_, ⟨sb, st, sa, sr, so⟩, val, found⟩ := r
  simp only [hpR, Mm.V, memV, Rd.V, Sk.V, aA, aA, gq, reduceEq, reduceLT, reduceLE, implies_true, reduceCtorEq, if_true, if_false, go_sem, reduceEqDiff, Nat.reduceLT, reduceAdd, reduceSub, reduceLeDiff, reduceReplicate, reduceToNat] at hK ⊢
  exact hK
theorem aLV (z : Bool) (m0 m : Mm) (r0 r : Rd) (hsm : kP m.vol m.per m.pend) (hpe : m.pend.length + 1 ≤ 1000000) (K : AOut → List AObj → Prop) (hK : K (.ret (.tup [])) (hpR z m0 r0 (kX m r.block 1) { r with phase := 8 } [])) :
    cW.K [.ptr 6 []] (hpR z m0 r0 m r []) K := by
  unfold cW.K cW.H
  simp only [aA, aA, gq, reduceEq, reduceLT, reduceLE, implies_true, reduceCtorEq, if_true, if_false, go_sem, reduceEqDiff, Nat.reduceLT, reduceAdd, reduceSub, reduceLeDiff, reduceReplicate, reduceToNat]
  refine aGF z m0 m r0 r 1 (by decide) (by decide) hsm hpe _ ?_
  generalize kX m r.block 1 = m' at *
  obtain ⟨vol', per', pend'⟩ := m'
  obtain ⟨key, phase, block, to_, ⟨sb, st, sa, sr, so⟩, val, found⟩ := r
  simp only [hpR, Mm.V, memV, Rd.V, Sk.V, aA, aA, gq, reduceEq, reduceLT, reduceLE, implies_true, reduceCtorEq, if_true, if_false, go_sem, reduceEqDiff, Nat.reduceLT, reduceAdd, reduceSub, reduceLeDiff, reduceReplicate, reduceToNat] at hK ⊢
  exact hK
theorem to_K (z : Bool) (m0 m : Mm) (r0 r : Rd) (b : Int) (Y : List AObj) (K : AOut → List AObj → Prop) (hK : K (.ret (.tup [])) (hpR z m0 r0 m { r with block := b, phase := 2 } Y)) :
    dL.K [.ptr 6 [], .int .i64 b] (hpR z m0 r0 m r Y) K := by
  obtain ⟨vol', per', pend'⟩ := m
  obtain ⟨key, phase, block, to_, ⟨sb, st, sa, sr, so⟩, val, found⟩ := r
  unfold dL.K dL.H
  simp only [hpR, Mm.V, memV, Rd.V, Sk.V, aA, aA, gq, reduceEq, reduceLT, reduceLE, implies_true, reduceCtorEq, if_true, if_false, go_sem, reduceEqDiff, Nat.reduceLT, reduceAdd, reduceSub, reduceLeDiff, reduceReplicate, reduceToNat] at hK ⊢
  exact hK
theorem aOe (z : Bool) (m0 m : Mm) (r0 r : Rd) (hsm : kP m.vol m.per m.pend) (hpe : m.pend.length + 1 ≤ 1000000) (K : AOut → List AObj → Prop) (hK : K (.ret (.tup [])) (hpR z m0 r0 (kX m r.block 0) { r with block := r.to_, phase := 2 } [])) :
    dS.K [.ptr 6 []] (hpR z m0 r0 m r []) K := by
  unfold dS.K dS.H
  simp only [aA, aA, gq, reduceEq, reduceLT, reduceLE, implies_true, reduceCtorEq, if_true, if_false, go_sem, reduceEqDiff, Nat.reduceLT, reduceAdd, reduceSub, reduceLeDiff, reduceReplicate, reduceToNat]
  refine aGF z m0 m r0 r 0 (by decide) (by decide) hsm hpe _ ?_
  generalize kX m r.block 0 = m' at *
  obtain ⟨vol', per', pend'⟩ := m'
  obtain ⟨key, phase, block, to_, ⟨sb, st, sa, sr, so⟩, val, found⟩ := r
  simp only [hpR, Mm.V, memV, Rd.V, Sk.V, aA, aA, gq, reduceEq, reduceLT, reduceLE, implies_true, reduceCtorEq, if_true, if_false, go_sem, reduceEqDiff, Nat.reduceLT, reduceAdd, reduceSub, reduceLeDiff, reduceReplicate, reduceToNat]
  refine to_K z m0 ⟨vol', per', pend'⟩ r0 ⟨key, phase, block, to_, ⟨sb, st, sa, sr, so⟩, val, found⟩ to_ [] _ ?_
  simp only [hpR, Mm.V, memV, Rd.V, Sk.V, aA, aA, gq, reduceEq, reduceLT, reduceLE, implies_true, reduceCtorEq, if_true, if_false, go_sem, reduceEqDiff, Nat.reduceLT, reduceAdd, reduceSub, reduceLeDiff, reduceReplicate, reduceToNat] at hK ⊢
  exact hK
theorem aOf (z : Bool) (m0 m : Mm) (r0 r : Rd) (hsw : iI m.vol) (K : AOut → List AObj → Prop) (hK : ∀ Y, K (.ret (.tup [])) (hpR z m0 r0 m (qP m.vol r) Y)) :
    dQ.K [.ptr 6 []] (hpR z m0 r0 m r []) K := by
  obtain ⟨vol, per, pend⟩ := m
  obtain ⟨key, phase, block, to_, ⟨sb, st, sa, sr, so⟩, val, found⟩ := r
  have hr := iI.roomy hsw
  simp only at hr hK hsw
  unfold qP at hK
  unfold dQ.K dQ.H
  simp only at hK
  have hgo : ∀ (b : Int) (Y : List AObj) (K2 : AOut → List AObj → Prop), K2 (.ret (.tup [])) (hpR z m0 r0 ⟨vol, per, pend⟩ ⟨key, 2, b, to_, ⟨sb, st, sa, sr, so⟩, val, found⟩ Y) → dL.K [.ptr 6 [], .int .i64 b] (hpR z m0 r0 ⟨vol, per, pend⟩ ⟨key, phase, block, to_, ⟨sb, st, sa, sr, so⟩, val, found⟩ Y) K2 := fun b Y K2 h => to_K z m0 _ r0 _ b Y K2 h
  cases hn : dJ vol block with
  | none =>
    obtain ⟨e, he, hv⟩ := nV hn
    have hd : nW vol block key 0 = .tup [.int .i64 0, .int .i64 90] := by unfold nW lS; rw [hn]
    rw [hn] at hK
    simp only [hpR, Mm.V, memV, Rd.V, Sk.V, jL, hv, he, hd, cK.C, eC.C, aA, decide_false, decide_true, aA, gq, reduceEq, reduceLT, reduceLE, implies_true, reduceCtorEq, if_true, if_false, go_sem, reduceEqDiff, Nat.reduceLT, reduceAdd, reduceSub, reduceLeDiff, reduceReplicate, reduceToNat] at hK ⊢
    refine ⟨hr, hsw, hgo _ _ _ ?_⟩
    simp only [hpR, Mm.V, memV, Rd.V, Sk.V, aA, gq, reduceEq, reduceLT, reduceLE, implies_true, reduceCtorEq, if_true, if_false, go_sem, reduceEqDiff, Nat.reduceLT, reduceAdd, reduceSub, reduceLeDiff, reduceReplicate, reduceToNat]
    exact hK _
  | some n =>
    obtain ⟨n1, n2, n3, n4, n5⟩ := n
    rw [hn] at hK
    simp only at hK
    by_cases h0 : n1 = 0
    · rw [if_pos h0] at hK
      simp only [hpR, Mm.V, memV, Rd.V, Sk.V, iS hn, h0, cK.C, eC.C, aA, decide_false, decide_true, aA, gq, reduceEq, reduceLT, reduceLE, implies_true, reduceCtorEq, if_true, if_false, go_sem, reduceEqDiff, Nat.reduceLT, reduceAdd, reduceSub, reduceLeDiff, reduceReplicate, reduceToNat] at hK ⊢
      refine ⟨hr, hgo _ _ _ ?_⟩
      simp only [hpR, Mm.V, memV, Rd.V, Sk.V, aA, gq, reduceEq, reduceLT, reduceLE, implies_true, reduceCtorEq, if_true, if_false, go_sem, reduceEqDiff, Nat.reduceLT, reduceAdd, reduceSub, reduceLeDiff, reduceReplicate, reduceToNat]
      exact hK _
    · rw [if_neg h0] at hK
      cases hd : lS vol block key 0 with
      | none =>
        have hdv : nW vol block key 0 = .tup [.int .i64 0, .int .i64 90] := by unfold nW; rw [hd]
        rw [hd] at hK
        simp only [hpR, Mm.V, memV, Rd.V, Sk.V, iS hn, h0, hdv, cK.C, eC.C, aA, decide_false, decide_true, aA, gq, reduceEq, reduceLT, reduceLE, implies_true, reduceCtorEq, if_true, if_false, go_sem, reduceEqDiff, Nat.reduceLT, reduceAdd, reduceSub, reduceLeDiff, reduceReplicate, reduceToNat] at hK ⊢
        refine ⟨hr, hsw, hgo _ _ _ ?_⟩
        simp only [hpR, Mm.V, memV, Rd.V, Sk.V, aA, gq, reduceEq, reduceLT, reduceLE, implies_true, reduceCtorEq, if_true, if_false, go_sem, reduceEqDiff, Nat.reduceLT, reduceAdd, reduceSub, reduceLeDiff, reduceReplicate, reduceToNat]
        exact hK _
      | some t =>
        have hdv : nW vol block key 0 = .tup [.int .i64 t, .int .i64 0] := by unfold nW; rw [hd]
        rw [hd] at hK
        simp only [hpR, Mm.V, memV, Rd.V, Sk.V, iS hn, h0, hdv, cK.C, eC.C, aA, decide_false, decide_true, aA, gq, reduceEq, reduceLT, reduceLE, implies_true, reduceCtorEq, if_true, if_false, go_sem, reduceEqDiff, Nat.reduceLT, reduceAdd, reduceSub, reduceLeDiff, reduceReplicate, reduceToNat] at hK ⊢
        exact ⟨hr, hsw, hK _⟩
theorem aKR (w : List Int) (b : Int) : ∃ (n1 n2 n3 n4 : Int) (n5 : List Int) (e : Int) (lo : bD) (e2 : Int), qM w b = .tup [.agg [.int .i64 n1, .int .i64 n2, .int .i64 n3, .int .i64 n4, .sl false (.ints .i64 n5)], .int .i64 e] ∧ lowV w n3 = .tup [.str lo, .int .i64 e2] ∧ vV w b = if n3 ≠ 0 ∧ e2 = 0 then some (n3, lo) else none := by
  have hlow : ∀ x : Int, ∃ lo e2, lowV w x = .tup [.str lo, .int .i64 e2] ∧ (dJ w x).bind (lowO w) = if e2 = 0 then some lo else none := fun x => by
    unfold lowV
    cases h : (dJ w x).bind (lowO w) with
    | none => exact ⟨_, _, rfl, (if_neg (by decide)).symm⟩
    | some l => exact ⟨_, _, rfl, (if_pos rfl).symm⟩
  unfold vV
  cases hn : dJ w b with
  | none =>
    obtain ⟨e, _, hv⟩ := nV hn
    obtain ⟨lo, e2, hl, _⟩ := hlow 0
    exact ⟨0, 0, 0, 0, [], e, lo, e2, hv, hl, (if_neg (fun h => h.1 rfl)).symm⟩
  | some n =>
    obtain ⟨n1, n2, n3, n4, n5⟩ := n
    obtain ⟨lo, e2, hl, hb⟩ := hlow n3
    refine ⟨n1, n2, n3, n4, n5, 0, lo, e2, iS hn, hl, ?_⟩
    simp only
    by_cases h0 : n3 = 0
    · rw [if_pos h0, if_neg (fun h => h.1 h0)]
    · rw [if_neg h0, hb]
      by_cases h2 : e2 = 0
      · rw [if_pos h2, if_pos ⟨h0, h2⟩]
      · rw [if_neg h2, if_neg (fun h => h2 h.2)]
theorem aLW (z : Bool) (m0 m : Mm) (r0 r : Rd) (n1 n2 n3 n4 : Int) (n5 : List Int) (l : List RecT) (hl : roomy l.length) (K : AOut → List AObj → Prop)
    (hK1 : ∀ (k : Nat) (Y : List AObj), k < l.length → kyL l k = r.key → (∀ j, j < k → kyL l j ≠ r.key) → K (.ret (.int .i64 k)) (hpR false m0 r0 m r (.box (.ptr 6 []) :: .box (.agg [.int .i64 n1, .int .i64 n2, .int .i64 n3, .int .i64 n4, .sl false (.ints .i64 n5)]) :: Y)))
    (hK2 : (∀ j, j < l.length → kyL l j ≠ r.key) → K (.ret (.int .i64 (-1))) (hpR false m0 r0 m r [.box (.ptr 6 []), .box (.agg [.int .i64 n1, .int .i64 n2, .int .i64 n3, .int .i64 n4, .sl false (.ints .i64 n5)])])) :
    aT.K [.sl false (.recs l), .fn (.func 91) [] [.ptr 7 []]] (hpR z m0 r0 m r [.box (.ptr 6 []), .box (.agg [.int .i64 n1, .int .i64 n2, .int .i64 n3, .int .i64 n4, .sl false (.ints .i64 n5)])]) K := by
  obtain ⟨vol, per, pend⟩ := m
  obtain ⟨key, phase, block, to_, ⟨sb, st, sa, sr, so⟩, val, found⟩ := r
  have hl' := hl
  unfold roomy at hl'
  unfold aT.K aT.H
  simp only [hpR, Mm.V, memV, Rd.V, Sk.V, aA, aA, gq, reduceEq, reduceLT, reduceLE, implies_true, reduceCtorEq, if_true, if_false, go_sem, reduceEqDiff, Nat.reduceLT, reduceAdd, reduceSub, reduceLeDiff, reduceReplicate, reduceToNat] at hK1 hK2 ⊢
  unfold aT.L1
  refine lF (σ := Nat) (fun k => .int .i64 k) (fun k => [.box (.agg [.sl false (.ints .i64 m0.vol), .sl false (.ints .i64 m0.per), .sl false (.pends m0.pend)]), .box (.agg [.str r0.key, .int .i64 r0.phase, .int .i64 r0.block, .int .i64 r0.to_, .agg [.int .i64 r0.seek.block, .int .i64 r0.seek.turn, .int .i64 r0.seek.at_, .sl false (.ints .i64 r0.seek.refs), .bool r0.seek.over], .str r0.val, .bool r0.found]), .box (.agg [.sl false (.ints .i64 []), .sl false (.ints .i64 []), .sl false (.pends [])]), .box (.agg [.str [], .int .i64 0, .int .i64 0, .int .i64 0, .agg [.int .i64 0, .int .i64 0, .int .i64 0, .sl false (.ints .i64 []), .bool false], .str [], .bool false]), fnsR, fnsR, .box (.agg [.agg [.sl false (.ints .i64 vol), .sl false (.ints .i64 per), .sl false (.pends pend)], .agg [.str key, .int .i64 phase, .int .i64 block, .int .i64 to_, .agg [.int .i64 sb, .int .i64 st, .int .i64 sa, .sl false (.ints .i64 sr), .bool so], .str val, .bool found]]), .box (.ptr 6 []), .box (.agg [.int .i64 n1, .int .i64 n2, .int .i64 n3, .int .i64 n4, .sl false (.ints .i64 n5)])]) (fun k => l.length - k) (fun k => k ≤ l.length ∧ ∀ j, j < k → kyL l j ≠ key) 0 rfl rfl ⟨Nat.zero_le _, fun j h => by omega⟩ ?_
  rintro I back k ⟨hk, hall⟩
  by_cases hkl : k < l.length
  · have hb := back (k + 1) (n := l.length - k) (by omega) rfl rfl
    have d1 : decide ((k : Int) < (l.length : Int)) = true := decide_eq_true (by omega)
    simp only [cU.K, cU.H, d1, iW, iO, Int.toNat_natCast, aA, eS (show k < 4611686018427387904 by omega), aA, gq, reduceEq, reduceLT, reduceLE, implies_true, reduceCtorEq, if_true, if_false, go_sem, reduceEqDiff, Nat.reduceLT, reduceAdd, reduceSub, reduceLeDiff, reduceReplicate, reduceToNat] at hb ⊢
    refine ⟨⟨by omega, by omega⟩, fun h => hK1 k _ hkl h hall, fun h => hb ⟨by omega, fun j hj => ?_⟩⟩
    by_cases e : j = k
    · subst e; exact h
    · exact hall j (by omega)
  · obtain rfl : k = l.length := by omega
    have d1 : decide ((l.length : Int) < (l.length : Int)) = false := decide_eq_false (by omega)
    simp only [d1, aA, aA, gq, reduceEq, reduceLT, reduceLE, implies_true, reduceCtorEq, if_true, if_false, go_sem, reduceEqDiff, Nat.reduceLT, reduceAdd, reduceSub, reduceLeDiff, reduceReplicate, reduceToNat]
    exact hK2 hall
theorem aNb (z : Bool) (m0 m : Mm) (r0 r : Rd) (hsw : iI m.vol) (hsr : r.seek.refs.length ≤ 200) (K : AOut → List AObj → Prop) (hK : ∀ z Y, K (.ret (.tup [])) (hpR z m0 r0 m (mU m.vol r) Y)) :
    dC.K [.ptr 6 []] (hpR z m0 r0 m r []) K := by
  obtain ⟨vol, per, pend⟩ := m
  obtain ⟨key, phase, block, to_, ⟨sb, st, sa, sr, so⟩, val, found⟩ := r
  have hr := iI.roomy hsw
  simp only at hr hK hsw hsr
  unfold mU at hK
  unfold dC.K dC.H
  simp only at hK
  cases hh : tV vol sb st with
  | false =>
    rw [hh] at hK
    simp only [hpR, Mm.V, memV, Rd.V, Sk.V, hh, fZ.C, aA, decide_false, decide_true, aA, gq, reduceEq, reduceLT, reduceLE, implies_true, reduceCtorEq, if_true, if_false, go_sem, reduceEqDiff, Nat.reduceLT, reduceAdd, reduceSub, reduceLeDiff, reduceReplicate, reduceToNat] at hK ⊢
    exact ⟨hr, hK _ _⟩
  | true =>
    rw [hh, if_neg (by decide)] at hK
    obtain ⟨n1, n2, n3, n4, n5, e, lo, e2, hrv, hlv, hright⟩ := aKR vol block
    rw [hright] at hK
    simp only [hpR, Mm.V, memV, Rd.V, Sk.V, hh, hrv, hlv, fZ.C, cK.C, dG.C, decide_false, decide_true, gq, reduceEq, reduceLT, reduceLE, implies_true, reduceCtorEq, if_true, if_false, go_sem, reduceEqDiff, Nat.reduceLT, reduceAdd, reduceSub, reduceLeDiff, reduceReplicate, reduceToNat]
    refine ⟨hr, hr, hsw, ?_⟩
    refine ⟨fun hc => ⟨rfl, ?_⟩, fun hc => ?_⟩
    · simp only [Bool.and_eq_true, Bool.not_eq_true', decide_eq_false_iff_not, decide_eq_true_eq] at hc
      rw [if_pos ⟨hc.1.1, hc.1.2⟩] at hK
      simp only [hc.2, if_true] at hK
      simp only [hpR, Mm.V, memV, Rd.V, Sk.V, aA, gq, reduceEq, reduceLT, reduceLE, implies_true, reduceCtorEq, if_true, if_false, go_sem, reduceEqDiff, Nat.reduceLT, reduceAdd, reduceSub, reduceLeDiff, reduceReplicate, reduceToNat] at hK
      exact hK _ _
    · have hK2 : ∀ z Y, K (.ret (.tup [])) (hpR z m0 r0 ⟨vol, per, pend⟩ (sC vol ⟨key, phase, block, to_, ⟨sb, st, sa, sr, so⟩, val, found⟩) Y) := by
        by_cases h1 : n3 ≠ 0 ∧ e2 = 0
        · rw [if_pos h1] at hK
          have h2 : ltB key lo = true := by
            cases h : ltB key lo with
            | true => rfl
            | false => rw [h, decide_eq_false h1.1, decide_eq_true h1.2] at hc; cases hc
          simp only [h2] at hK
          exact hK
        · rw [if_neg h1] at hK
          exact hK
      clear hK hc
      unfold sC at hK2
      simp only at hK2
      have hso : (uT (jC vol sr)).length ≤ 200 := by
        have h1 := (aAI (w := vol) (refs := sr) (out := []) (by simp)).2
        have h2 := (sA (jC vol sr)).length_eq
        simp only [List.length_nil] at h1
        unfold jC at h2 ⊢
        omega
      simp only [gB.C, gq, reduceEq, reduceLT, reduceLE, implies_true, reduceCtorEq, if_true, if_false, go_sem, reduceEqDiff, Nat.reduceLT, reduceAdd, reduceSub, reduceLeDiff, reduceReplicate, reduceToNat]
      refine ⟨⟨hr, hsr⟩, ?_⟩
      generalize uT (jC vol sr) = l at hK2 hso ⊢
      refine aLW z m0 ⟨vol, per, pend⟩ r0 ⟨key, phase, block, to_, ⟨sb, st, sa, sr, so⟩, val, found⟩ n1 n2 n3 n4 n5 l (by unfold roomy; omega) _ (fun k Y hk hky hall => ?_) fun hall => ?_
      · have hf : idxR key l = some (l.getD k d0) := by
          unfold idxR
          rw [List.find?_eq_some_iff_getElem]
          have e : l.getD k d0 = l[k] := by rw [List.getD_eq_getElem?_getD, List.getElem?_eq_getElem hk]; rfl
          refine ⟨decide_eq_true hky, k, hk, e.symm, fun j hj => ?_⟩
          have h1 := hall j hj
          unfold kyL at h1
          rw [List.getD_eq_getElem?_getD, List.getElem?_eq_getElem (show j < l.length by omega)] at h1
          simpa using h1
        rw [hf] at hK2
        have d1 : decide ((0 : Int) ≤ (k : Int)) = true := decide_eq_true (by omega)
        simp only [hpR, Mm.V, memV, Rd.V, Sk.V, d1, iW, iO, Int.toNat_natCast, aA, aA, gq, reduceEq, reduceLT, reduceLE, implies_true, reduceCtorEq, if_true, if_false, go_sem, reduceEqDiff, Nat.reduceLT, reduceAdd, reduceSub, reduceLeDiff, reduceReplicate, reduceToNat] at hK2 ⊢
        exact ⟨rfl, rfl, rfl, ⟨by omega, by omega⟩, hK2 _ _⟩
      · have hf : idxR key l = none := by
          unfold idxR
          rw [List.find?_eq_none]
          intro x hx h
          obtain ⟨j, hj, rfl⟩ := List.getElem_of_mem hx
          refine hall j hj ?_
          unfold kyL
          rw [List.getD_eq_getElem?_getD, List.getElem?_eq_getElem hj]
          exact of_decide_eq_true h
        rw [hf] at hK2
        simp only [hpR, Mm.V, memV, Rd.V, Sk.V, aA, aA, gq, reduceEq, reduceLT, reduceLE, implies_true, reduceCtorEq, if_true, if_false, go_sem, reduceEqDiff, Nat.reduceLT, reduceAdd, reduceSub, reduceLeDiff, reduceReplicate, reduceToNat] at hK2 ⊢
        exact ⟨rfl, rfl, rfl, hK2 _ _⟩
def fR.C : aE
  | [.agg [.sl false (.ints .i64 vol), .sl false (.ints .i64 per), .sl false (.pends pend)], .agg [.str key, .int .i64 phase, .int .i64 block, .int .i64 to_, .agg [.int .i64 sb, .int .i64 st, .int .i64 sa, .sl false (.ints .i64 sr), .bool so], .str val, .bool found]] => some (false, pD (kP vol per pend ∧ pend.length + 1 ≤ 1000000 ∧ iI vol ∧ sr.length ≤ 200) (.tup [(nX ⟨vol, per, pend⟩ ⟨key, phase, block, to_, ⟨sb, st, sa, sr, so⟩, val, found⟩).1.V, (nX ⟨vol, per, pend⟩ ⟨key, phase, block, to_, ⟨sb, st, sa, sr, so⟩, val, found⟩).2.V]))
  | _ => none
theorem fR.spec : bN Tryz.prog 14 fR.C := by
  refine bN.of (bQ (F := []) (S := [(36, eW.K), (58, dQ.K), (59, dR.K), (60, dB.K), (61, dC.K), (62, dS.K), (63, dD.K), (64, cW.K)]) (by simp) (by simpa using ⟨eW.spec, dQ.spec, dR.spec, dB.spec, dC.spec, dS.spec, dD.spec, cW.spec⟩) fR.loops) fR.at fR.nm fR.bd ?_
  intro vs b S v news e hS
  unfold fR.C at e
  split at e
  rotate_left
  · cases e
  cases e
  rw [fR.eq]
  unfold fR.H
  simp (maxSteps := 4000000) only [go_sem, reduceEqDiff, Nat.reduceLT, reduceAdd, reduceSub, reduceLeDiff, reduceReplicate, reduceToNat]
  rename_i vol per pend key phase block to_ sb st sa sr so val found
  obtain ⟨hsm, hpe, hsw, hsr⟩ := hS
  simp only [eW.K, eW.H, aA, aA, gq, reduceEq, reduceLT, reduceLE, implies_true, reduceCtorEq, if_true, if_false, go_sem, reduceEqDiff, Nat.reduceLT, reduceAdd, reduceSub, reduceLeDiff, reduceReplicate, reduceToNat]
  have hout : (phase < 1 ∨ 8 ≤ phase) → nX ⟨vol, per, pend⟩ ⟨key, phase, block, to_, ⟨sb, st, sa, sr, so⟩, val, found⟩ = (⟨vol, per, pend⟩, ⟨key, phase, block, to_, ⟨sb, st, sa, sr, so⟩, val, found⟩) := fun h => by
    unfold nX
    simp only
    rw [if_neg (by omega), if_neg (by omega), if_neg (by omega), if_neg (by omega), if_neg (by omega), if_neg (by omega), if_neg (by omega)]
  by_cases hlo : phase < 1
  · rw [hout (.inl hlo)]
    simp only [hlo, decide_true, Mm.V, memV, Rd.V, Sk.V, aA, aA, gq, reduceEq, reduceLT, reduceLE, implies_true, reduceCtorEq, if_true, if_false, go_sem, reduceEqDiff, Nat.reduceLT, reduceAdd, reduceSub, reduceLeDiff, reduceReplicate, reduceToNat]
    exact ⟨rfl, aH rfl rfl⟩
  by_cases hhi : 8 ≤ phase
  · rw [hout (.inr hhi)]
    simp only [hlo, hhi, decide_false, decide_true, Mm.V, memV, Rd.V, Sk.V, aA, aA, gq, reduceEq, reduceLT, reduceLE, implies_true, reduceCtorEq, if_true, if_false, go_sem, reduceEqDiff, Nat.reduceLT, reduceAdd, reduceSub, reduceLeDiff, reduceReplicate, reduceToNat]
    exact ⟨rfl, aH rfl rfl⟩
  have hph : phase = 1 ∨ phase = 2 ∨ phase = 3 ∨ phase = 4 ∨ phase = 5 ∨ phase = 6 ∨ phase = 7 := by omega
  clear hout hlo hhi
  rcases hph with rfl | rfl | rfl | rfl | rfl | rfl | rfl
  · have hst : nX ⟨vol, per, pend⟩ ⟨key, 1, block, to_, ⟨sb, st, sa, sr, so⟩, val, found⟩ = (⟨vol, per, pend⟩, qP vol ⟨key, 1, block, to_, ⟨sb, st, sa, sr, so⟩, val, found⟩) := rfl
    rw [hst]
    have hg : ([none, some 58, some 59, some 60, some 61, some 62, some 63, some 64] : List (Option FuncId)).getD ((1 : Int)).toNat none = some 58 := rfl
    simp only [hg, aA, aA, gq, reduceEq, reduceLT, reduceLE, implies_true, reduceCtorEq, if_true, if_false, go_sem, reduceEqDiff, Nat.reduceLT, reduceAdd, reduceSub, reduceLeDiff, reduceReplicate, reduceToNat]
    refine aOf true ⟨vol, per, pend⟩ ⟨vol, per, pend⟩ ⟨key, 1, block, to_, ⟨sb, st, sa, sr, so⟩, val, found⟩ ⟨key, 1, block, to_, ⟨sb, st, sa, sr, so⟩, val, found⟩ hsw _ fun Y => ?_
    generalize qP vol ⟨key, 1, block, to_, ⟨sb, st, sa, sr, so⟩, val, found⟩ = r'
    obtain ⟨key', phase', block', to', ⟨sb', st', sa', sr', so'⟩, val', found'⟩ := r'
    simp only [hpR, Mm.V, memV, Rd.V, Sk.V, aA, aA, gq, reduceEq, reduceLT, reduceLE, implies_true, reduceCtorEq, if_true, if_false, go_sem, reduceEqDiff, Nat.reduceLT, reduceAdd, reduceSub, reduceLeDiff, reduceReplicate, reduceToNat]
    exact ⟨rfl, aH rfl rfl⟩
  · have hst : nX ⟨vol, per, pend⟩ ⟨key, 2, block, to_, ⟨sb, st, sa, sr, so⟩, val, found⟩ = (⟨vol, per, pend⟩, sB vol ⟨key, 2, block, to_, ⟨sb, st, sa, sr, so⟩, val, found⟩) := rfl
    rw [hst]
    have hg : ([none, some 58, some 59, some 60, some 61, some 62, some 63, some 64] : List (Option FuncId)).getD ((2 : Int)).toNat none = some 59 := rfl
    simp only [hg, aA, aA, gq, reduceEq, reduceLT, reduceLE, implies_true, reduceCtorEq, if_true, if_false, go_sem, reduceEqDiff, Nat.reduceLT, reduceAdd, reduceSub, reduceLeDiff, reduceReplicate, reduceToNat]
    refine aOd true ⟨vol, per, pend⟩ ⟨vol, per, pend⟩ ⟨key, 2, block, to_, ⟨sb, st, sa, sr, so⟩, val, found⟩ ⟨key, 2, block, to_, ⟨sb, st, sa, sr, so⟩, val, found⟩ hsw _ fun Y => ?_
    generalize sB vol ⟨key, 2, block, to_, ⟨sb, st, sa, sr, so⟩, val, found⟩ = r'
    obtain ⟨key', phase', block', to', ⟨sb', st', sa', sr', so'⟩, val', found'⟩ := r'
    simp only [hpR, Mm.V, memV, Rd.V, Sk.V, aA, aA, gq, reduceEq, reduceLT, reduceLE, implies_true, reduceCtorEq, if_true, if_false, go_sem, reduceEqDiff, Nat.reduceLT, reduceAdd, reduceSub, reduceLeDiff, reduceReplicate, reduceToNat]
    exact ⟨rfl, aH rfl rfl⟩
  · have hst : nX ⟨vol, per, pend⟩ ⟨key, 3, block, to_, ⟨sb, st, sa, sr, so⟩, val, found⟩ = (⟨vol, per, pend⟩, qH vol ⟨key, 3, block, to_, ⟨sb, st, sa, sr, so⟩, val, found⟩) := rfl
    rw [hst]
    have hg : ([none, some 58, some 59, some 60, some 61, some 62, some 63, some 64] : List (Option FuncId)).getD ((3 : Int)).toNat none = some 60 := rfl
    simp only [hg, aA, aA, gq, reduceEq, reduceLT, reduceLE, implies_true, reduceCtorEq, if_true, if_false, go_sem, reduceEqDiff, Nat.reduceLT, reduceAdd, reduceSub, reduceLeDiff, reduceReplicate, reduceToNat]
    refine aMZ true ⟨vol, per, pend⟩ ⟨vol, per, pend⟩ ⟨key, 3, block, to_, ⟨sb, st, sa, sr, so⟩, val, found⟩ ⟨key, 3, block, to_, ⟨sb, st, sa, sr, so⟩, val, found⟩ hsw hsr _ fun Y => ?_
    generalize qH vol ⟨key, 3, block, to_, ⟨sb, st, sa, sr, so⟩, val, found⟩ = r'
    obtain ⟨key', phase', block', to', ⟨sb', st', sa', sr', so'⟩, val', found'⟩ := r'
    simp only [hpR, Mm.V, memV, Rd.V, Sk.V, aA, aA, gq, reduceEq, reduceLT, reduceLE, implies_true, reduceCtorEq, if_true, if_false, go_sem, reduceEqDiff, Nat.reduceLT, reduceAdd, reduceSub, reduceLeDiff, reduceReplicate, reduceToNat]
    exact ⟨rfl, aH rfl rfl⟩
  · have hst : nX ⟨vol, per, pend⟩ ⟨key, 4, block, to_, ⟨sb, st, sa, sr, so⟩, val, found⟩ = (⟨vol, per, pend⟩, mU vol ⟨key, 4, block, to_, ⟨sb, st, sa, sr, so⟩, val, found⟩) := rfl
    rw [hst]
    have hg : ([none, some 58, some 59, some 60, some 61, some 62, some 63, some 64] : List (Option FuncId)).getD ((4 : Int)).toNat none = some 61 := rfl
    simp only [hg, aA, aA, gq, reduceEq, reduceLT, reduceLE, implies_true, reduceCtorEq, if_true, if_false, go_sem, reduceEqDiff, Nat.reduceLT, reduceAdd, reduceSub, reduceLeDiff, reduceReplicate, reduceToNat]
    refine aNb true ⟨vol, per, pend⟩ ⟨vol, per, pend⟩ ⟨key, 4, block, to_, ⟨sb, st, sa, sr, so⟩, val, found⟩ ⟨key, 4, block, to_, ⟨sb, st, sa, sr, so⟩, val, found⟩ hsw hsr _ fun z Y => ?_
    generalize mU vol ⟨key, 4, block, to_, ⟨sb, st, sa, sr, so⟩, val, found⟩ = r'
    obtain ⟨key', phase', block', to', ⟨sb', st', sa', sr', so'⟩, val', found'⟩ := r'
    simp only [hpR, Mm.V, memV, Rd.V, Sk.V, aA, aA, gq, reduceEq, reduceLT, reduceLE, implies_true, reduceCtorEq, if_true, if_false, go_sem, reduceEqDiff, Nat.reduceLT, reduceAdd, reduceSub, reduceLeDiff, reduceReplicate, reduceToNat]
    exact ⟨rfl, aH rfl rfl⟩
  · have hst : nX ⟨vol, per, pend⟩ ⟨key, 5, block, to_, ⟨sb, st, sa, sr, so⟩, val, found⟩ = (kX ⟨vol, per, pend⟩ block 0, ⟨key, 2, to_, to_, ⟨sb, st, sa, sr, so⟩, val, found⟩) := rfl
    rw [hst]
    have hg : ([none, some 58, some 59, some 60, some 61, some 62, some 63, some 64] : List (Option FuncId)).getD ((5 : Int)).toNat none = some 62 := rfl
    simp only [hg, aA, aA, gq, reduceEq, reduceLT, reduceLE, implies_true, reduceCtorEq, if_true, if_false, go_sem, reduceEqDiff, Nat.reduceLT, reduceAdd, reduceSub, reduceLeDiff, reduceReplicate, reduceToNat]
    refine aOe true ⟨vol, per, pend⟩ ⟨vol, per, pend⟩ ⟨key, 5, block, to_, ⟨sb, st, sa, sr, so⟩, val, found⟩ ⟨key, 5, block, to_, ⟨sb, st, sa, sr, so⟩, val, found⟩ hsm (by simp only; omega) _ ?_
    generalize kX ⟨vol, per, pend⟩ block 0 = m'
    obtain ⟨vol', per', pend'⟩ := m'
    simp only [hpR, Mm.V, memV, Rd.V, Sk.V, aA, aA, gq, reduceEq, reduceLT, reduceLE, implies_true, reduceCtorEq, if_true, if_false, go_sem, reduceEqDiff, Nat.reduceLT, reduceAdd, reduceSub, reduceLeDiff, reduceReplicate, reduceToNat]
    exact ⟨rfl, aH rfl rfl⟩
  · have hst : nX ⟨vol, per, pend⟩ ⟨key, 6, block, to_, ⟨sb, st, sa, sr, so⟩, val, found⟩ = (kX ⟨vol, per, pend⟩ block 0, ⟨key, 7, block, to_, ⟨sb, st, sa, sr, so⟩, val, found⟩) := rfl
    rw [hst]
    have hg : ([none, some 58, some 59, some 60, some 61, some 62, some 63, some 64] : List (Option FuncId)).getD ((6 : Int)).toNat none = some 63 := rfl
    simp only [hg, aA, aA, gq, reduceEq, reduceLT, reduceLE, implies_true, reduceCtorEq, if_true, if_false, go_sem, reduceEqDiff, Nat.reduceLT, reduceAdd, reduceSub, reduceLeDiff, reduceReplicate, reduceToNat]
    refine aNa true ⟨vol, per, pend⟩ ⟨vol, per, pend⟩ ⟨key, 6, block, to_, ⟨sb, st, sa, sr, so⟩, val, found⟩ ⟨key, 6, block, to_, ⟨sb, st, sa, sr, so⟩, val, found⟩ hsm (by simp only; omega) _ ?_
    generalize kX ⟨vol, per, pend⟩ block 0 = m'
    obtain ⟨vol', per', pend'⟩ := m'
    simp only [hpR, Mm.V, memV, Rd.V, Sk.V, aA, aA, gq, reduceEq, reduceLT, reduceLE, implies_true, reduceCtorEq, if_true, if_false, go_sem, reduceEqDiff, Nat.reduceLT, reduceAdd, reduceSub, reduceLeDiff, reduceReplicate, reduceToNat]
    exact ⟨rfl, aH rfl rfl⟩
  · have hst : nX ⟨vol, per, pend⟩ ⟨key, 7, block, to_, ⟨sb, st, sa, sr, so⟩, val, found⟩ = (kX ⟨vol, per, pend⟩ block 1, ⟨key, 8, block, to_, ⟨sb, st, sa, sr, so⟩, val, found⟩) := rfl
    rw [hst]
    have hg : ([none, some 58, some 59, some 60, some 61, some 62, some 63, some 64] : List (Option FuncId)).getD ((7 : Int)).toNat none = some 64 := rfl
    simp only [hg, aA, aA, gq, reduceEq, reduceLT, reduceLE, implies_true, reduceCtorEq, if_true, if_false, go_sem, reduceEqDiff, Nat.reduceLT, reduceAdd, reduceSub, reduceLeDiff, reduceReplicate, reduceToNat]
    refine aLV true ⟨vol, per, pend⟩ ⟨vol, per, pend⟩ ⟨key, 7, block, to_, ⟨sb, st, sa, sr, so⟩, val, found⟩ ⟨key, 7, block, to_, ⟨sb, st, sa, sr, so⟩, val, found⟩ hsm (by simp only; omega) _ ?_
    generalize kX ⟨vol, per, pend⟩ block 1 = m'
    obtain ⟨vol', per', pend'⟩ := m'
    simp only [hpR, Mm.V, memV, Rd.V, Sk.V, aA, aA, gq, reduceEq, reduceLT, reduceLE, implies_true, reduceCtorEq, if_true, if_false, go_sem, reduceEqDiff, Nat.reduceLT, reduceAdd, reduceSub, reduceLeDiff, reduceReplicate, reduceToNat]
    exact ⟨rfl, aH rfl rfl⟩
end Lam
namespace Lam
open Go Go.Proofs
end Lam
namespace Lam
open Go Go.Proofs
end Lam
namespace Lam
open Go Go.Proofs
end Lam
namespace Lam
open Go Go.Proofs
end Lam
namespace Lam
open Go Go.Proofs
end Lam
namespace Lam
open Go Go.Proofs
def fB.C : aE
  | [.sl _ (.ints .i64 w), .str k] => some (false, pD (roomy w.length) (mV w k))
  | _ => none
theorem fB.spec : bN Tryz.prog 27 fB.C := by
  refine bN.of (bQ (F := [(53, gH.C), (38, eB.C)]) (S := []) (by simpa using ⟨gH.spec, eB.spec⟩) (by simp) fB.loops) fB.at fB.nm fB.bd ?_
  intro vs b S v news e hS
  unfold fB.C at e
  split at e
  rotate_left
  · cases e
  cases e
  rw [fB.eq]
  unfold fB.H
  simp (maxSteps := 4000000) only [go_sem, reduceEqDiff, Nat.reduceLT, reduceAdd, reduceSub, reduceLeDiff, reduceReplicate, reduceToNat, gH.C, eB.C]
  rename_i w k
  unfold mV zC
  by_cases hk : k ≠ [] ∧ k.length ≤ 21
  · have h1 : (decide (k ≠ []) && decide ((k.length : Int) ≤ 21)) = true := by
      simp only [Bool.and_eq_true, decide_eq_true_eq]; exact ⟨hk.1, by omega⟩
    rw [if_pos hk]
    cases hb : eL w with
    | true =>
      have hv : kQ w = .tup [.int .i64 (w.getD 1 0), .int .i64 (w.getD 3 0), .int .i64 0] := by unfold kQ; rw [hb]; rfl
      simp only [h1, hv, Rd.V, Sk.V, skZ, if_true, decide_true, decide_false, aA, aA, gq, reduceEq, reduceLT, reduceLE, implies_true, reduceCtorEq, if_true, if_false, go_sem, reduceEqDiff, Nat.reduceLT, reduceAdd, reduceSub, reduceLeDiff, reduceReplicate, reduceToNat]
      exact ⟨hS, aH rfl rfl⟩
    | false =>
      have hv : kQ w = .tup [.int .i64 0, .int .i64 0, .int .i64 80] := by unfold kQ; rw [hb]; rfl
      simp only [h1, hv, Rd.V, Sk.V, skZ, if_false, decide_true, decide_false, aA, aA, gq, reduceEq, reduceLT, reduceLE, implies_true, reduceCtorEq, if_true, if_false, go_sem, reduceEqDiff, Nat.reduceLT, reduceAdd, reduceSub, reduceLeDiff, reduceReplicate, reduceToNat]
      exact ⟨hS, aH rfl rfl⟩
  · have h1 : (decide (k ≠ []) && decide ((k.length : Int) ≤ 21)) = false := by
      rw [Bool.eq_false_iff]
      simp only [ne_eq, Bool.and_eq_true, decide_eq_true_eq]
      exact fun h => hk ⟨h.1, by omega⟩
    rw [if_neg hk]
    simp only [h1, rdZ, Rd.V, Sk.V, skZ, aA, aA, gq, reduceEq, reduceLT, reduceLE, implies_true, reduceCtorEq, if_true, if_false, go_sem, reduceEqDiff, Nat.reduceLT, reduceAdd, reduceSub, reduceLeDiff, reduceReplicate, reduceToNat]
    exact aH rfl rfl
theorem aAK {w : List Int} (b line : Int) : kX ⟨w, w, []⟩ b line = ⟨w, w, []⟩ := by
  unfold kX
  split
  · unfold doM
    split
    · rfl
    · rfl
  · rfl
end Lam
namespace Lam
open Go Go.Proofs
def aFw (n : Nat) : List Int := qF n 1 ++ (gP jL ++ List.replicate (16 * n - 32) 0)
def vW (n : Int) : AV := if (decide (n < 2) || decide (256 < n)) = true then .tup [.sl false (.ints .i64 []), .int .i64 1] else .tup [.sl false (.ints .i64 (aFw n.toNat)), .int .i64 0]
def iA.C : aE
  | [.int .i64 n] => some (false, pD True (vW n))
  | _ => none
theorem iA.spec : bN Tryz.prog 32 iA.C := by
  refine bN.of (bQ (F := [(56, fW.C), (57, fJ.C)]) (S := []) (by simpa using ⟨fW.spec, fJ.spec⟩) (by simp) iA.loops) iA.at iA.nm iA.bd ?_
  intro vs b S v news e hS
  unfold iA.C at e
  split at e
  rotate_left
  · cases e
  cases e
  rw [iA.eq]
  unfold iA.H
  simp (maxSteps := 4000000) only [go_sem, reduceEqDiff, Nat.reduceLT, reduceAdd, reduceSub, reduceLeDiff, reduceReplicate, reduceToNat, fW.C, fJ.C]
  rename_i n
  refine ⟨fun h => ?_, fun h => ?_⟩
  · have : vW n = .tup [.sl false (.ints .i64 []), .int .i64 1] := by unfold vW; rw [if_pos h]
    rw [this]; refine aH ?_ rfl; simp only [go_sem, reduceEqDiff, Nat.reduceLT, reduceAdd, reduceSub, reduceLeDiff, reduceReplicate, reduceToNat]
  · have hv : vW n = .tup [.sl false (.ints .i64 (aFw n.toNat)), .int .i64 0] := by unfold vW; rw [if_neg (by rw [h]; decide)]
    rw [hv]
    clear hv
    simp only [Bool.or_eq_false_iff, decide_eq_false_iff_not] at h
    obtain ⟨k, rfl⟩ := Int.eq_ofNat_of_zero_le (show 0 ≤ n by omega)
    have hmay : mayB (k : Int) 1 = true := by unfold mayB; simp only [Bool.and_eq_true, decide_eq_true_eq]; omega
    have e1 : IntKind.i64.wrap (16 * (k : Int)) = ((16 * k : Nat) : Int) := by rw [w64 (by omega) (by omega)]; omega
    have hz : yB ⟨0, 0, 0, 0, []⟩ = .tup [.sl false (.ints .i64 (gP jL)), .int .i64 0] := by
      unfold yB; rw [if_pos (by decide)]; rfl
    have hsl : (qF (k : Int) 1).length = 16 := rfl
    have hzl : (gP jL).length = 16 := rfl
    have hrl : (List.replicate (16 * k) (0 : Int)).length = 16 * k := List.length_replicate
    simp only [hmay, if_true, e1, hz, Int.toNat_natCast, hsl, hzl, aA, gq, reduceEq, reduceLT, reduceLE, implies_true, reduceCtorEq, if_true, if_false, go_sem, reduceEqDiff, Nat.reduceLT, reduceAdd, reduceSub, reduceLeDiff, reduceReplicate, reduceToNat]
    refine ⟨⟨by omega, by omega, by unfold roomy; omega⟩, by omega, ?_⟩
    have m1 : min (16 * k) 16 = 16 := by omega
    have m2 : min (16 * k - 16) 16 = 16 := by omega
    have t1 : (qF (k : Int) 1).take (16 * k) = qF (k : Int) 1 := List.take_of_length_le (by rw [hsl]; omega)
    have t2 : (gP jL).take (16 * k - 16) = gP jL := List.take_of_length_le (by rw [hzl]; omega)
    refine aH ?_ rfl
    simp only [m1, m2, t1, t2, go_sem, reduceEqDiff, Nat.reduceLT, reduceAdd, reduceSub, reduceLeDiff, reduceReplicate, reduceToNat]
    have hR : List.take (16 * k - 16) (List.drop 16 (List.replicate (16 * k) (0 : Int))) = List.replicate (16 * k - 16) 0 := by simp
    rw [hR]
    have l1 : (qF (k : Int) 1 ++ List.replicate (16 * k - 16) (0 : Int)).length = 16 * k := by rw [List.length_append, hsl, List.length_replicate]; omega
    have l2 : (qF (k : Int) 1 ++ List.replicate (16 * k - 16) (0 : Int)).take 16 = qF (k : Int) 1 := List.take_left' hsl
    have l3 : (qF (k : Int) 1 ++ List.replicate (16 * k - 16) (0 : Int)).drop 32 = List.replicate (16 * k - 32) 0 := by
      rw [List.drop_append, hsl, List.drop_of_length_le (by rw [hsl]; omega), List.drop_replicate, List.nil_append]
      rw [show 16 * k - 16 - (32 - 16) = 16 * k - 32 by omega]
    rw [l1, l2, l3]
    have l4 : (List.replicate (16 * k - 32) (0 : Int)).take (16 * k - 32) = List.replicate (16 * k - 32) 0 := by simp
    rw [l4]
    have l5 : (qF (k : Int) 1 ++ (gP jL ++ List.replicate (16 * k - 32) (0 : Int))).take (16 * k) = aFw k := by
      rw [List.take_of_length_le]
      · rfl
      · simp only [List.length_append, hsl, hzl, List.length_replicate]; omega
    rw [l5]
def A4 : List Int := aFw 4
theorem aGG : iI A4 := by
  refine ⟨by decide +kernel, ?_⟩
  have : A4.all (fun x => decide (x < 9223372036854775808)) = true := by decide +kernel
  intro x hx
  exact of_decide_eq_true (List.all_eq_true.1 this x hx)
end Lam
namespace Lam
open Go Go.Proofs
def cI.loops : Nat → bU
 | 7 => ⟨[9, 10], [false, false], [3, 5, 6, 8], [(3, none), (3, some [32, 35])], [], []⟩
 | 11 => ⟨[], [], [], [(3, none), (2, some [49, 51]), (2, none), (3, some [53, 56]), (2, none), (3, some [58, 61]), (2, none), (3, some [63, 66]), (2, none), (2, some [68, 70])], [], []⟩
 | _ => ⟨[], [], [], [], [], []⟩
def cI.L1 (c : Ctx) (J1 : AV → AV → AV → AV → List AObj → Prop) (K : AOut → List AObj → Prop) (lv : List AV) (h0 : List AObj) (n0 : Nat) (c3 : AV) (c5 : AV) (c6 : AV) (c8 : AV) : Prop :=
 ∃ I : Nat → List AV → List AObj → Prop, (∃ n, I n lv h0) ∧ ∀ n h, ∀ t9, ∀ t10, I n [t9, t10] h →
 runD (binD aB .lss t10 (.int .i64 40)) h fun t31 h =>
 aL (fun (J2 : AV → AV → List AObj → Prop) =>
 bF t31 true
 (runD (aC aU c5 1) h fun t33 h =>
 runD (fitD aB (aD h t33)) h fun t34 h =>
 runD (binD aB .neq t34 (.int .i64 8)) h fun t35 h =>
 J2 (.bool true) t35 h)
 (J2 (.bool false) .und h))
 (fun t32 t35 h => runD (bT t32 t35 (.bool false)) h fun t36 h =>
 bE t36
 (runD (fitD aM (aD h c3)) h fun t40 h =>
 runD (fitD aU (aD h c5)) h fun t41 h =>
 aP false c (.fn (.func 14) [] []) [t40, t41] h (fun t42 h =>
 runD (aW t42 0) h fun t43 h =>
 runD (aW t42 1) h fun t44 h =>
 runH (aR aM h c3 t43) h fun _ h =>
 runH (aR aU h c5 t44) h fun _ h =>
 runD (binD aB .add t9 (.int .i64 1)) h fun t46 h =>
 runD (binD aB .add t10 (.int .i64 1)) h fun t38 h =>
 (∃ m, m < n ∧ I m (AV.norms n0 h [t46, t38]) (cJ n0 h)) ∧ AV.norms n0 h [c3, c5, c6, c8] = [c3, c5, c6, c8])
 (fun v h => K (.pan v) h))
 (J1 c5 c6 c8 t9 h))
def cI.H (c : Ctx) (h : List AObj) (K : AOut → List AObj → Prop) : Prop :=
 aP false c (.fn (.func 32) [] []) [(.int .i64 4)] h (fun t12 h =>
 runD (aW t12 0) h fun t13 h =>
 runD (aW t12 1) h fun t14 h =>
 aP false c (.fn (.func 28) [] []) [t13] h (fun t17 h =>
 runD (aW t17 0) h fun t18 h =>
 runD (aW t17 1) h fun t19 h =>
 cS aM h fun t3 h =>
 runH (aR aM h t3 t18) h fun _ h =>
 aP false c (.fn (.func 27) [] []) [t13, (.str [97])] h (fun t22 h =>
 runD (aW t22 0) h fun t23 h =>
 runD (aW t22 1) h fun t24 h =>
 cS aU h fun t5 h =>
 runH (aR aU h t5 t23) h fun _ h =>
 aP false c (.fn (.func 27) [] []) [t13, (.str [])] h (fun t27 h =>
 runD (aW t27 0) h fun t28 h =>
 runD (aW t27 1) h fun t29 h =>
 cS aU h fun t7 h =>
 runH (aR aU h t7 t28) h fun _ h =>
 aL (fun (J1 : AV → AV → AV → AV → List AObj → Prop) =>
 dM [false, false] [(.int .i64 0), (.int .i64 0)] h fun lv h => cI.L1 c J1 K (AV.norms h.length h lv) (cJ h.length h) h.length (AV.norm h.length h t3) (AV.norm h.length h t5) (AV.norm h.length h t24) (AV.norm h.length h t29))
 (fun t5 t6 t8 t9 h => runD (binD cN .eql t6 (.int .i64 0)) h fun t48 h =>
 aL (fun (J3 : AV → AV → List AObj → Prop) =>
 bF t48 true
 (runD (binD cN .eql t8 (.int .i64 20)) h fun t51 h =>
 J3 (.bool true) t51 h)
 (J3 (.bool false) .und h))
 (fun t49 t51 h => runD (bT t49 t51 (.bool false)) h fun t52 h =>
 aL (fun (J4 : AV → AV → List AObj → Prop) =>
 bF t52 true
 (runD (aC aU t5 1) h fun t54 h =>
 runD (fitD aB (aD h t54)) h fun t55 h =>
 runD (binD aB .eql t55 (.int .i64 8)) h fun t56 h =>
 J4 (.bool true) t56 h)
 (J4 (.bool false) .und h))
 (fun t53 t56 h => runD (bT t53 t56 (.bool false)) h fun t57 h =>
 aL (fun (J5 : AV → AV → List AObj → Prop) =>
 bF t57 true
 (runD (aC aU t5 6) h fun t59 h =>
 runD (fitD lB (aD h t59)) h fun t60 h =>
 runD (unD .not t60) h fun t61 h =>
 J5 (.bool true) t61 h)
 (J5 (.bool false) .und h))
 (fun t58 t61 h => runD (bT t58 t61 (.bool false)) h fun t62 h =>
 aL (fun (J6 : AV → AV → List AObj → Prop) =>
 bF t62 true
 (runD (aC aU t5 2) h fun t64 h =>
 runD (fitD aB (aD h t64)) h fun t65 h =>
 runD (binD aB .eql t65 (.int .i64 1)) h fun t66 h =>
 J6 (.bool true) t66 h)
 (J6 (.bool false) .und h))
 (fun t63 t66 h => runD (bT t63 t66 (.bool false)) h fun t67 h =>
 aL (fun (J7 : AV → AV → List AObj → Prop) =>
 bF t67 true
 (runD (binD aB .eql t9 (.int .i64 6)) h fun t70 h =>
 J7 (.bool true) t70 h)
 (J7 (.bool false) .und h))
 (fun t68 t70 h => runD (bT t68 t70 (.bool false)) h fun t71 h =>
 runD (bT t71 (.bool true) (.bool false)) h fun t73 h =>
 K (.ret t73) h)))))))
 (fun v h => K (.pan v) h))
 (fun v h => K (.pan v) h))
 (fun v h => K (.pan v) h))
 (fun v h => K (.pan v) h)
theorem cI.eq (F : List (FuncId × aE)) (S : List (FuncId × Con)) (h : List AObj) (K : AOut → List AObj → Prop) : funW (ctx F S cI.loops) Tryz.f11 [] h K = cI.H (ctx F S cI.loops)  h K := by kernel_rfl
theorem cI.at : Tryz.prog.funcs[11]? = some Tryz.f11 := by kernel_rfl
theorem cI.nm : (Tryz.f11.name == "runtime.NumGoroutine") = false := by kernel_rfl
theorem cI.bd : Tryz.f11.body.isNone = false := by kernel_rfl
end Lam
namespace Lam
open Go Go.Proofs
end Lam
namespace Lam
open Go Go.Proofs
def M16 : Mm := ⟨A4, A4, []⟩
def R16 : Nat → Rd
  | 0 => ⟨[97], 1, 1, 0, skZ, [], false⟩
  | 1 => ⟨[97], 2, 1, 0, skZ, [], false⟩
  | 2 => ⟨[97], 3, 1, 0, ⟨1, 0, 0, [], false⟩, [], false⟩
  | 3 => ⟨[97], 4, 1, 0, ⟨1, 0, 0, [], true⟩, [], false⟩
  | 4 => ⟨[97], 6, 1, 0, ⟨1, 0, 0, [], true⟩, [], false⟩
  | 5 => ⟨[97], 7, 1, 0, ⟨1, 0, 0, [], true⟩, [], false⟩
  | _ => ⟨[97], 8, 1, 0, ⟨1, 0, 0, [], true⟩, [], false⟩
theorem aBj : dJ A4 1 = some jL := by decide +kernel
theorem aLX : qG A4 1 = some ⟨1, 0, 0, [], false⟩ := by
  unfold qG
  rw [aBj]; rfl
theorem aLY : ∀ k, k < 6 → nX M16 (R16 k) = (M16, R16 (k + 1)) ∧ (R16 k).phase ≠ 8
  | 0, _ => ⟨by
      show ((M16, qP A4 (R16 0)) : Mm × Rd) = _
      unfold qP; rw [show (R16 0).block = 1 from rfl, aBj]; rfl, by decide⟩
  | 1, _ => ⟨by
      show ((M16, sB A4 (R16 1)) : Mm × Rd) = _
      unfold sB; rw [show (R16 1).block = 1 from rfl, aLX]; rfl, by decide⟩
  | 2, _ => ⟨by
      show ((M16, qH A4 (R16 2)) : Mm × Rd) = _
      rfl, by decide⟩
  | 3, _ => ⟨by
      show ((M16, mU A4 (R16 3)) : Mm × Rd) = _
      unfold mU
      rw [show tV A4 (R16 3).seek.block (R16 3).seek.turn = true by
        unfold tV
        rw [show (R16 3).seek.block = 1 from rfl, aBj]; rfl]
      rw [if_neg (by decide), show vV A4 (R16 3).block = none by
        unfold vV
        rw [show (R16 3).block = 1 from rfl, aBj]; rfl]
      rfl, by decide⟩
  | 4, _ => ⟨by
      show ((kX M16 1 0, (⟨[97], 7, 1, 0, ⟨1, 0, 0, [], true⟩, [], false⟩ : Rd)) : Mm × Rd) = _
      unfold M16
      rw [aAK]; rfl, by decide⟩
  | 5, _ => ⟨by
      show ((kX M16 1 1, (⟨[97], 8, 1, 0, ⟨1, 0, 0, [], true⟩, [], false⟩ : Rd)) : Mm × Rd) = _
      unfold M16
      rw [aAK]; rfl, by decide⟩
  | k + 6, h => by omega
theorem aLZ : ∀ k, k ≤ 6 → (R16 k).seek.refs = []
  | 0, _ => rfl
  | 1, _ => rfl
  | 2, _ => rfl
  | 3, _ => rfl
  | 4, _ => rfl
  | 5, _ => rfl
  | 6, _ => rfl
  | k + 7, h => by omega
theorem aNc : zC A4 = 1 := by
  unfold zC
  rw [show eL A4 = true from by decide +kernel]; rfl
theorem aOg : vW 4 = .tup [.sl false (.ints .i64 A4), .int .i64 0] := by
  unfold vW; rw [if_neg (by decide)]; rfl
theorem aKS : newM A4 = .tup [memV A4 A4 [], .int .i64 0] := by
  unfold newM; rw [show szB A4.length = true from by decide +kernel]; rfl
theorem aKT : mV A4 [97] = .tup [(R16 0).V, .int .i64 0] := by
  unfold mV; rw [if_pos (by decide), aNc]; rfl
theorem aKU : mV A4 [] = .tup [rdZ.V, .int .i64 20] := by
  unfold mV; rw [if_neg (by decide)]
def cI.C : aE
  | [] => some (false, pD True (.bool true))
  | _ => none
theorem cI.spec : bN Tryz.prog 11 cI.C := by
  refine bN.of (bQ (F := [(32, iA.C), (28, gU.C), (27, fB.C), (14, fR.C)]) (S := []) (by simpa using ⟨iA.spec, gU.spec, fB.spec, fR.spec⟩) (by simp) cI.loops) cI.at cI.nm cI.bd ?_
  intro vs b S v news e hS
  unfold cI.C at e
  split at e
  rotate_left
  · cases e
  cases e
  rw [cI.eq]
  unfold cI.H
  simp (maxSteps := 4000000) only [go_sem, reduceEqDiff, Nat.reduceLT, reduceAdd, reduceSub, reduceLeDiff, reduceReplicate, reduceToNat, iA.C, gU.C, fB.C, fR.C, aOg, aKS, aKT, aKU]
  have rA : roomy A4.length := aGG.roomy
  have hsm : kP A4 A4 [] := ⟨rA, rA, by unfold roomy; decide⟩
  simp only [gU.C, fB.C, aKS, aKT, aKU, memV, R16, rdZ, Rd.V, Sk.V, skZ, aA, gq, reduceEq, reduceLT, reduceLE, implies_true, reduceCtorEq, if_true, if_false, go_sem, reduceEqDiff, Nat.reduceLT, reduceAdd, reduceSub, reduceLeDiff, reduceReplicate, reduceToNat]
  refine ⟨rA, rA, rA, ?_⟩
  unfold cI.L1
  refine pP (σ := Nat) (fun k => .int .i64 k) (fun k => .int .i64 k) (fun k => [.box M16.V, .box (R16 k).V, .box rdZ.V]) (fun k => 6 - k) (fun k => k ≤ 6) 0 rfl rfl (by decide) ?_
  intro I back k hk
  by_cases hk6 : k < 6
  · obtain ⟨h1, h2⟩ := aLY k hk6
    have h3 := aLZ k hk
    have hb := back (k + 1) (n := 6 - k) (by omega) rfl rfl (by omega)
    clear back
    generalize R16 (k + 1) = y at *
    generalize R16 k = x at *
    obtain ⟨y1, y2, y3, y4, ⟨z1, z2, z3, z4, z5⟩, y5, y6⟩ := y
    obtain ⟨x1, x2, x3, x4, ⟨s1, s2, s3, s4, s5⟩, x5, x6⟩ := x
    simp only at h2 h3
    have d1 : decide ((k : Int) < 40) = true := decide_eq_true (by omega)
    unfold M16 at h1 hb ⊢
    simp only [fR.C, h1, h2, d1, rdZ, Mm.V, memV, Rd.V, Sk.V, skZ, eS (show k < 4611686018427387904 by omega), decide_false, aA, aA, gq, reduceEq, reduceLT, reduceLE, implies_true, reduceCtorEq, if_true, if_false, go_sem, reduceEqDiff, Nat.reduceLT, reduceAdd, reduceSub, reduceLeDiff, reduceReplicate, reduceToNat] at hb ⊢
    exact ⟨⟨hsm, aGG, by rw [h3]; decide⟩, hb⟩
  · obtain rfl : k = 6 := by omega
    clear back
    simp only [R16, M16, rdZ, Mm.V, memV, Rd.V, Sk.V, skZ, aA, aA, gq, reduceEq, reduceLT, reduceLE, implies_true, reduceCtorEq, if_true, if_false, go_sem, reduceEqDiff, Nat.reduceLT, reduceAdd, reduceSub, reduceLeDiff, reduceReplicate, reduceToNat]
    exact aH rfl rfl
end Lam
namespace Lam
open Go
def seeR (refs : List Int) (W : Int) : List Int := if 0 < W ∧ refs.getLast? ≠ some W then refs ++ [W] else refs
theorem aKV (l : List Int) (W : Int) : (decide (l.length = 0) || !decide (l.getD (l.length - 1) 0 = W)) = decide (l.getLast? ≠ some W) := by
  cases l with
  | nil => simp
  | cons a r =>
    rw [List.getLast?_eq_getElem?, List.getD_eq_getElem?_getD]
    have h : (a :: r).length - 1 < (a :: r).length := by simp
    rw [List.getElem?_eq_getElem h]
    simp
theorem aEP (W : Int) (s : Sk) : (goOn W s).refs = seeR s.refs W := by
  unfold goOn seeR
  simp only [aKV]
  by_cases h : 0 < W ∧ s.refs.getLast? ≠ some W
  · rw [if_pos h, if_pos (by simp only [Bool.and_eq_true, decide_eq_true_eq]; exact h)]
  · rw [if_neg h, if_neg (by simp only [Bool.and_eq_true, decide_eq_true_eq]; exact h)]
def InW (w : List Int) (b : Int) : Prop := 0 ≤ b ∧ b < 256 ∧ b < ((w.length / 16 : Nat) : Int)
def mW (w : List Int) (b : Int) (k : Nat) : Int := w.getD ((16 * b).toNat + 3 + k) 0
theorem aGH {w : List Int} {b t : Int} {k : Nat} {refs : List Int} (h : InW w b) (hk : k < 13) : kW w ⟨b, t, k, refs, false⟩ = goOn (mW w b k) ⟨b, t, k, refs, false⟩ := by
  obtain ⟨h0, h1, h2⟩ := h
  have hs : mT w ⟨b, t, k, refs, false⟩ = 16 * b + 3 + k := by
    unfold mT
    rw [if_pos (by simp only [Bool.and_eq_true, decide_eq_true_eq]; exact ⟨⟨h0, h1⟩, h2⟩)]
    show oZ (16 * b) k = _
    exact aGo ((yW (by omega)).2 ⟨by omega, by omega, by omega⟩) (by omega) (by show (0 : Int) ≤ k; omega) (by show (k : Int) < 13; omega)
  unfold kW mW
  rw [hs, decide_eq_false (by omega), if_neg (show ¬ (false || false) = true by decide)]
  rw [show (16 * b + 3 + (k : Int)).toNat = (16 * b).toNat + 3 + k by omega]
theorem aDv {w : List Int} {s : Sk} (h : s.over = true) : kW w s = s := by unfold kW; rw [h]; rfl
theorem aMa {w : List Int} {b t : Int} {k : Nat} {refs : List Int} (h : InW w b) (hk : k < 13) (hd : mE t = false) :
    kW w ⟨b, t, k, refs, false⟩ = if mW w b k < 1 ∨ k = 12 then ⟨b, t, k, seeR refs (mW w b k), true⟩ else ⟨b, t, (k + 1 : Nat), seeR refs (mW w b k), false⟩ := by
  rw [aGH h hk]
  have hr := aEP (mW w b k) ⟨b, t, k, refs, false⟩
  have ho : kI (mW w b k) ⟨b, t, k, refs, false⟩ = decide (mW w b k < 1 ∨ k = 12) := by
    unfold kI
    simp only [hd]
    rw [if_neg (by decide)]
    rw [show decide ((k : Int) = 12) = decide (k = 12) from decide_eq_decide.2 (by omega)]
    by_cases h1 : mW w b k < 1 <;> by_cases h2 : k = 12 <;> simp [h1, h2]
  unfold goOn at hr ⊢
  simp only at hr
  rw [ho]
  simp only [hr]
  by_cases hc : mW w b k < 1 ∨ k = 12
  · rw [if_pos hc, decide_eq_true hc]; simp
  · rw [if_neg hc, decide_eq_false hc]
    simp only [hd]
    rw [if_neg (by decide), if_neg (by decide), eS (by omega)]
theorem aJw {w : List Int} {b t : Int} {k : Nat} {refs : List Int} (h : InW w b) (hk : k < 13) (hd : mE t = true) :
    kW w ⟨b, t, k, refs, false⟩ = if k = 0 then ⟨b, t, k, seeR refs (mW w b k), true⟩ else ⟨b, t, (k - 1 : Nat), seeR refs (mW w b k), false⟩ := by
  rw [aGH h hk]
  have hr := aEP (mW w b k) ⟨b, t, k, refs, false⟩
  have ho : kI (mW w b k) ⟨b, t, k, refs, false⟩ = decide (k = 0) := by
    unfold kI
    simp only [hd, if_true]
    exact decide_eq_decide.2 (by omega)
  unfold goOn at hr ⊢
  simp only at hr
  rw [ho]
  simp only [hr]
  by_cases hc : k = 0
  · rw [if_pos hc, decide_eq_true hc]; simp
  · rw [if_neg hc, decide_eq_false hc]
    simp only [hd, if_true]
    rw [if_neg (by decide)]
    rw [show IntKind.i64.wrap ((k : Int) - 1) = ((k - 1 : Nat) : Int) by rw [w64 (by omega) (by omega)]; omega]
theorem zQ : ∀ l : List Int, (plain l).getLast? = l.getLast?
  | [] => rfl
  | [a] => rfl
  | a :: b :: r => by
    have ih := zQ (b :: r)
    simp only [plain]
    split
    · rw [ih]; simp
    · rw [List.getLast?_cons, ih, List.getLast?_cons (a := a), List.getLast?_cons (a := b)]
theorem aDw {l : List Int} {W : Int} (h : 0 < W) : seeR (plain l) W = plain (l ++ [W]) := by
  unfold seeR
  rw [uQ, zQ]
  by_cases e : l.getLast? = some W
  · rw [if_pos e, if_neg (fun h => h.2 e)]
  · rw [if_neg e, if_pos ⟨h, e⟩]
theorem aEQ {l : List Int} {W : Int} (h : ¬ 0 < W) : seeR l W = l := by unfold seeR; rw [if_neg (fun h' => h h'.1)]
theorem aJx (a : Int) (l : List Int) : plain (a :: l) = if l.head? = some a then plain l else a :: plain l := by
  cases l with
  | nil => rfl
  | cons b r =>
    have h : ((b :: r).head? = some a) ↔ a = b := by rw [List.head?_cons]; exact ⟨fun h => by cases h; rfl, fun h => by rw [h]⟩
    by_cases e : a = b
    · rw [if_pos (h.2 e)]; simp only [plain, if_pos e]
    · rw [if_neg (fun h' => e (h.1 h'))]; simp only [plain, if_neg e]
theorem aER : ∀ l : List Int, plain l.reverse = (plain l).reverse
  | [] => rfl
  | a :: l => by
    rw [List.reverse_cons, uQ, aJx, aER l, List.getLast?_reverse]
    split
    · rfl
    · rw [List.reverse_cons]
def aDW (w : List Int) (b : Int) (l : List Int) : Prop := InW w b ∧ l.length ≤ 13 ∧ (∀ x ∈ l, 0 < x) ∧ ∀ k, k < 13 → mW w b k = l.getD k 0
def upAt (b t : Int) (l : List Int) (k : Nat) : Sk := if k ≤ min l.length 12 then ⟨b, t, k, plain (l.take k), false⟩ else ⟨b, t, (min l.length 12 : Nat), plain l, true⟩
theorem aNd {w : List Int} {b t : Int} {l : List Int} (h : aDW w b l) (hd : mE t = false) (k : Nat) : kW w (upAt b t l k) = upAt b t l (k + 1) := by
  obtain ⟨hin, hl, hpos, hs⟩ := h
  unfold upAt
  by_cases hk : k ≤ min l.length 12
  · have hk13 : k < 13 := by omega
    rw [if_pos hk, aMa hin hk13 hd, hs k hk13]
    by_cases hkl : k < l.length
    · have hp := hpos _ (lJ l k 0 hkl)
      rw [aDw hp, ← iH l k 0 hkl]
      by_cases h12 : k = 12
      · rw [if_pos (.inr h12), if_neg (by omega)]
        rw [show min l.length 12 = k by omega, List.take_of_length_le (by omega)]
      · rw [if_neg (by omega), if_pos (by omega)]
    · obtain rfl : k = l.length := by omega
      have h0 : l.getD l.length 0 = 0 := by rw [List.getD_eq_getElem?_getD, List.getElem?_eq_none (Nat.le_refl _)]; rfl
      rw [h0, aEQ (by decide), if_pos (.inl (by decide)), if_neg (by omega), List.take_length]
      rw [show min l.length 12 = l.length by omega]
  · rw [if_neg hk, if_neg (by omega), aDv rfl]
def yE (b t : Int) (l : List Int) (k : Nat) : Sk := if k ≤ 12 then ⟨b, t, (12 - k : Nat), plain (l.drop (13 - k)).reverse, false⟩ else ⟨b, t, 0, plain l.reverse, true⟩
theorem aKW {w : List Int} {b t : Int} {l : List Int} (h : aDW w b l) (hd : mE t = true) (k : Nat) : kW w (yE b t l k) = yE b t l (k + 1) := by
  obtain ⟨hin, hl, hpos, hs⟩ := h
  unfold yE
  by_cases hk : k ≤ 12
  · have hk13 : 12 - k < 13 := by omega
    have hsee : seeR (plain (l.drop (13 - k)).reverse) (l.getD (12 - k) 0) = plain (l.drop (12 - k)).reverse := by
      by_cases hkl : 12 - k < l.length
      · rw [aDw (hpos _ (lJ l _ 0 hkl)), wJ l (12 - k) 0 hkl, List.reverse_cons, show 13 - k = 12 - k + 1 by omega]
      · rw [List.getD_eq_getElem?_getD, List.getElem?_eq_none (by omega), aEQ (by decide), List.drop_of_length_le (by omega), List.drop_of_length_le (by omega)]
    rw [if_pos hk, aJw hin hk13 hd, hs _ hk13, hsee]
    by_cases h12 : k = 12
    · subst h12
      rw [if_pos (by decide), if_neg (by decide)]
      rfl
    · rw [if_neg (by omega), if_pos (by omega)]
      rw [show 12 - k - 1 = 12 - (k + 1) by omega, show 12 - k = 13 - (k + 1) by omega]
  · rw [if_neg hk, if_neg (by omega), aDv rfl]
end Lam
