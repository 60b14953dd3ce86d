/- What functions of the program come to, each proved from its code. -/
import Derived.Test.YtmbmfnmjjelmkabGreatLm5
set_option linter.unusedVariables false
set_option linter.unusedSimpArgs false
set_option linter.unnecessarySimpa false
set_option linter.unusedSectionVars false
open Nat (reduceEqDiff reduceAdd reduceSub reduceLeDiff)
open Int (reduceToNat reduceEq reduceLE reduceLT)
open List (reduceReplicate)
set_option maxRecDepth 20000
namespace Lam
open Go Go.Proofs
def fW.loops : Nat → bV
 | 2 => ⟨[], [], [], [(3, none), (2, some [17, 19])], [], []⟩
 | _ => ⟨[], [], [], [], [], []⟩
def fW.H (c : Ctx) (t0 : AV) (t1 : AV) (h : List AObj) (K : AOut → List AObj → Prop) : Prop :=
 cT bX h fun t4 h =>
 aS false c (.fn (.func 46) [] []) [t0, t1] h (fun t12 h =>
 runD (bE t12 0) h fun t13 h =>
 runD (bE t12 1) h fun t14 h =>
 cT bD h fun t6 h =>
 runH (aR bD h t6 t13) h fun _ h =>
 runD (binD cM .neq t14 (.int .i64 0)) h fun t16 h =>
 aL (fun (J1 : AV → AV → List AObj → Prop) =>
 bC t16 false
 (runD (binD aB .geq t1 (.int .i64 256)) h fun t19 h =>
 J1 (.bool false) t19 h)
 (J1 (.bool true) .und h))
 (fun t17 t19 h => runD (bS t17 (.bool true) t19) h fun t20 h =>
 bF t20
 (runD (gY bX []) h fun t21 h =>
 runH (aR bX h t4 t21) h fun _ h =>
 cZ (fitD bX (aD h t4)) fun r0 => K (.ret (.tup [r0, (.int .i64 90)])) h)
 (runD (aC bD t6 1) h fun t23 h =>
 runD (fitD aB (aD h t23)) h fun t24 h =>
 runD (gY bX [(0, t1), (1, t24)]) h fun t25 h =>
 cT bX h fun t8 h =>
 runH (aR bX h t8 t25) h fun _ h =>
 runD (fitD bX (aD h t8)) h fun t26 h =>
 aS false c (.fn (.func 67) [] []) [t26] h (fun t27 h =>
 aL (fun (J2 : List AObj → Prop) =>
 bF t27
 (runD (aC bX t8 2) h fun t28 h =>
 runH (aR aB h t28 (.int .i64 12)) h fun _ h =>
 J2 h)
 (J2 h))
 (fun h => runD (fitD bX (aD h t8)) h fun t29 h =>
 runH (aR bX h t4 t29) h fun _ h =>
 cZ (fitD bX (aD h t4)) fun r0 => K (.ret (.tup [r0, (.int .i64 0)])) h))
 (fun v h => K (.pan v) h))))
 (fun v h => K (.pan v) h)
def gO.loops : Nat → bV
 | 2 => ⟨[], [], [], [(4, none), (3, some [12, 15]), (2, none), (6, some [17, 23])], [], []⟩
 | 4 => ⟨[], [], [], [(3, none), (2, some [33, 35])], [], []⟩
 | _ => ⟨[], [], [], [], [], []⟩
def gO.H (c : Ctx) (t0 : AV) (t1 : AV) (h : List AObj) (K : AOut → List AObj → Prop) : Prop :=
 boxW bX t1 h fun t3 h =>
 cT bX h fun t4 h =>
 runD (aC bX t3 0) h fun t9 h =>
 runD (fitD aB (aD h t9)) h fun t10 h =>
 runD (binD aB .geq t10 (.int .i64 0)) h fun t11 h =>
 aL (fun (J1 : AV → AV → List AObj → Prop) =>
 bC t11 true
 (runD (aC bX t3 0) h fun t13 h =>
 runD (fitD aB (aD h t13)) h fun t14 h =>
 runD (binD aB .lss t14 (.int .i64 256)) h fun t15 h =>
 J1 (.bool true) t15 h)
 (J1 (.bool false) .und h))
 (fun t12 t15 h => runD (bS t12 t15 (.bool false)) h fun t16 h =>
 aL (fun (J2 : AV → AV → List AObj → Prop) =>
 bC t16 true
 (runD (aC bX t3 0) h fun t18 h =>
 runD (fitD aB (aD h t18)) h fun t19 h =>
 runD (lenD aK h t0) h fun t21 h =>
 runD (binD aB .quo t21 (.int .i64 16)) h fun t22 h =>
 runD (binD aB .lss t19 t22) h fun t23 h =>
 J2 (.bool true) t23 h)
 (J2 (.bool false) .und h))
 (fun t17 t23 h => runD (bS t17 t23 (.bool false)) h fun t24 h =>
 aL (fun (J3 : AV → List AObj → Prop) =>
 bF t24
 (runD (aC bX t3 0) h fun t25 h =>
 runD (fitD aB (aD h t25)) h fun t26 h =>
 runD (binD aB .mul (.int .i64 16) t26) h fun t27 h =>
 runD (aC bX t3 2) h fun t28 h =>
 runD (fitD aB (aD h t28)) h fun t29 h =>
 aS false c (.fn (.func 68) [] []) [t27, t29] h (fun t30 h =>
 J3 t30 h)
 (fun v h => K (.pan v) h))
 (J3 (.int .i64 (-1)) h))
 (fun t5 h => runD (aC bX t3 4) h fun t31 h =>
 runD (fitD lC (aD h t31)) h fun t32 h =>
 aL (fun (J4 : AV → AV → List AObj → Prop) =>
 bC t32 false
 (runD (binD aB .lss t5 (.int .i64 0)) h fun t35 h =>
 J4 (.bool false) t35 h)
 (J4 (.bool true) .und h))
 (fun t33 t35 h => runD (bS t33 (.bool true) t35) h fun t36 h =>
 bF t36
 (runD (fitD bX (aD h t3)) h fun t37 h =>
 runH (aR bX h t4 t37) h fun _ h =>
 cZ (fitD bX (aD h t4)) fun r0 => K (.ret r0) h)
 (runD (fitD bX (aD h t3)) h fun t38 h =>
 runD (aG aK h t0 t5) h fun t41 h =>
 runD (fitD aB (aD h t41)) h fun t42 h =>
 runD (gY fB [(0, t38), (1, t42)]) h fun t43 h =>
 boxW fB t43 h fun t44 h =>
 runD (aC bX t3 3) h fun t46 h =>
 runD (fitD aK (aD h t46)) h fun t47 h =>
 aS false c (.fn (.func 34) [] []) [t47] h (fun t48 h =>
 runD (bK t44) h fun t49 h =>
 runD (aC fB t49 0) h fun t50 h =>
 runD (aC bX t50 3) h fun t51 h =>
 runH (aR aK h t51 t48) h fun _ h =>
 runD (aC bX t3 3) h fun t52 h =>
 runD (fitD aK (aD h t52)) h fun t53 h =>
 runD (lenD aK h t53) h fun t54 h =>
 runD (bK t44) h fun t56 h =>
 runD (aC fB t56 1) h fun t57 h =>
 runD (fitD aB (aD h t57)) h fun t58 h =>
 runD (binD aB .gtr t58 (.int .i64 0)) h fun t59 h =>
 aL (fun (J5 : AV → AV → List AObj → Prop) =>
 bC t59 true
 (runD (binD aB .eql t54 (.int .i64 0)) h fun t62 h =>
 aL (fun (J6 : AV → AV → List AObj → Prop) =>
 bC t62 false
 (runD (aC bX t3 3) h fun t64 h =>
 runD (fitD aK (aD h t64)) h fun t65 h =>
 runD (binD aB .sub t54 (.int .i64 1)) h fun t67 h =>
 runD (aG aK h t65 t67) h fun t68 h =>
 runD (fitD aB (aD h t68)) h fun t69 h =>
 runD (bK t44) h fun t71 h =>
 runD (aC fB t71 1) h fun t72 h =>
 runD (fitD aB (aD h t72)) h fun t73 h =>
 runD (binD aB .neq t69 t73) h fun t74 h =>
 J6 (.bool false) t74 h)
 (J6 (.bool true) .und h))
 (fun t63 t74 h => runD (bS t63 (.bool true) t74) h fun t75 h =>
 J5 (.bool true) t75 h))
 (J5 (.bool false) .und h))
 (fun t60 t75 h => runD (bS t60 t75 (.bool false)) h fun t76 h =>
 aL (fun (J7 : List AObj → Prop) =>
 bF t76
 (runD (bK t44) h fun t79 h =>
 runD (aC fB t79 0) h fun t80 h =>
 runD (aC bX t80 3) h fun t81 h =>
 runD (fitD aK (aD h t81)) h fun t82 h =>
 runD (bK t44) h fun t84 h =>
 runD (aC fB t84 1) h fun t85 h =>
 runD (fitD aB (aD h t85)) h fun t86 h =>
 runD (gA aK 1 [(0, t86)] h.length) h fun t87 h =>
 jZ (gP aK h t82 t87 h.length) (hX aK h t82 t87) h fun t88 h =>
 runD (bK t44) h fun t89 h =>
 runD (aC fB t89 0) h fun t90 h =>
 runD (aC bX t90 3) h fun t91 h =>
 runH (aR aK h t91 t88) h fun _ h =>
 J7 h)
 (J7 h))
 (fun h => runD (fitD bX (aD h t3)) h fun t94 h =>
 aS false c (.fn (.func 67) [] []) [t94] h (fun t95 h =>
 aL (fun (J8 : AV → List AObj → Prop) =>
 bF t95
 (J8 (.fn (.func 70) [t44] []) h)
 (J8 (.fn (.func 69) [t44] []) h))
 (fun t8 h => aS false c t8 [] h (fun t99 h =>
 runD (bK t44) h fun t101 h =>
 runD (aC fB t101 0) h fun t102 h =>
 runD (fitD bX (aD h t102)) h fun t103 h =>
 runH (aR bX h t4 t103) h fun _ h =>
 cZ (fitD bX (aD h t4)) fun r0 => K (.ret r0) h)
 (fun v h => K (.pan v) h)))
 (fun v h => K (.pan v) h))))
 (fun v h => K (.pan v) h))))))
def eP.loops : Nat → bV
 | _ => ⟨[], [], [], [], [], []⟩
def eP.H (c : Ctx) (t0 : AV) (h : List AObj) (K : AOut → List AObj → Prop) : Prop :=
 boxW bX t0 h fun t1 h =>
 runD (aC bX t1 1) h fun t3 h =>
 runD (fitD aB (aD h t3)) h fun t4 h =>
 runD (binD aB .and t4 (.int .i64 1)) h fun t5 h =>
 runD (binD aB .eql t5 (.int .i64 1)) h fun t6 h =>
 K (.ret t6) h
def dH.loops : Nat → bV
 | 0 => ⟨[], [], [], [(7, none), (6, some [8, 14])], [], []⟩
 | _ => ⟨[], [], [], [], [], []⟩
def dH.H (c : Ctx) (t0 : AV) (h : List AObj) (K : AOut → List AObj → Prop) : Prop :=
 runD (bK t0) h fun t4 h =>
 runD (aC fB t4 1) h fun t5 h =>
 runD (fitD aB (aD h t5)) h fun t6 h =>
 runD (binD aB .lss t6 (.int .i64 1)) h fun t7 h =>
 aL (fun (J1 : AV → AV → List AObj → Prop) =>
 bC t7 false
 (runD (bK t0) h fun t10 h =>
 runD (aC fB t10 0) h fun t11 h =>
 runD (aC bX t11 2) h fun t12 h =>
 runD (fitD aB (aD h t12)) h fun t13 h =>
 runD (binD aB .eql t13 (.int .i64 12)) h fun t14 h =>
 J1 (.bool false) t14 h)
 (J1 (.bool true) .und h))
 (fun t8 t14 h => runD (bS t8 (.bool true) t14) h fun t15 h =>
 runD (bK t0) h fun t16 h =>
 runD (aC fB t16 0) h fun t17 h =>
 runD (aC bX t17 4) h fun t18 h =>
 runH (aR lC h t18 t15) h fun _ h =>
 runD (bK t0) h fun t20 h =>
 runD (aC fB t20 0) h fun t21 h =>
 runD (aC bX t21 4) h fun t22 h =>
 runD (fitD lC (aD h t22)) h fun t23 h =>
 runD (unD .not t23) h fun t24 h =>
 aL (fun (J2 : List AObj → Prop) =>
 bF t24
 (runD (bK t0) h fun t26 h =>
 runD (aC fB t26 0) h fun t27 h =>
 runD (aC bX t27 2) h fun t28 h =>
 runD (fitD aB (aD h t28)) h fun t29 h =>
 runD (binD aB .add t29 (.int .i64 1)) h fun t30 h =>
 runD (bK t0) h fun t31 h =>
 runD (aC fB t31 0) h fun t32 h =>
 runD (aC bX t32 2) h fun t33 h =>
 runH (aR aB h t33 t30) h fun _ h =>
 J2 h)
 (J2 h))
 (fun h => K (.ret (.tup [])) h))
def cU.loops : Nat → bV
 | _ => ⟨[], [], [], [], [], []⟩
def cU.H (c : Ctx) (t0 : AV) (h : List AObj) (K : AOut → List AObj → Prop) : Prop :=
 runD (bK t0) h fun t4 h =>
 runD (aC fB t4 0) h fun t5 h =>
 runD (aC bX t5 2) h fun t6 h =>
 runD (fitD aB (aD h t6)) h fun t7 h =>
 runD (binD aB .eql t7 (.int .i64 0)) h fun t8 h =>
 runD (bK t0) h fun t9 h =>
 runD (aC fB t9 0) h fun t10 h =>
 runD (aC bX t10 4) h fun t11 h =>
 runH (aR lC h t11 t8) h fun _ h =>
 runD (bK t0) h fun t13 h =>
 runD (aC fB t13 0) h fun t14 h =>
 runD (aC bX t14 4) h fun t15 h =>
 runD (fitD lC (aD h t15)) h fun t16 h =>
 runD (unD .not t16) h fun t17 h =>
 aL (fun (J1 : List AObj → Prop) =>
 bF t17
 (runD (bK t0) h fun t19 h =>
 runD (aC fB t19 0) h fun t20 h =>
 runD (aC bX t20 2) h fun t21 h =>
 runD (fitD aB (aD h t21)) h fun t22 h =>
 runD (binD aB .sub t22 (.int .i64 1)) h fun t23 h =>
 runD (bK t0) h fun t24 h =>
 runD (aC fB t24 0) h fun t25 h =>
 runD (aC bX t25 2) h fun t26 h =>
 runH (aR aB h t26 t23) h fun _ h =>
 J1 h)
 (J1 h))
 (fun h => K (.ret (.tup [])) h)
def fX.loops : Nat → bV
 | 2 => ⟨[], [], [], [(3, none), (5, some [16, 21])], [], []⟩
 | _ => ⟨[], [], [], [], [], []⟩
def fX.H (c : Ctx) (t0 : AV) (t1 : AV) (h : List AObj) (K : AOut → List AObj → Prop) : Prop :=
 boxW bX t1 h fun t3 h =>
 runD (aC bX t3 0) h fun t9 h =>
 runD (fitD aB (aD h t9)) h fun t10 h =>
 aS false c (.fn (.func 46) [] []) [t0, t10] h (fun t11 h =>
 runD (bE t11 0) h fun t12 h =>
 runD (bE t11 1) h fun t13 h =>
 cT bD h fun t5 h =>
 runH (aR bD h t5 t12) h fun _ h =>
 runD (binD cM .eql t13 (.int .i64 0)) h fun t15 h =>
 aL (fun (J1 : AV → AV → List AObj → Prop) =>
 bC t15 true
 (runD (aC bD t5 1) h fun t17 h =>
 runD (fitD aB (aD h t17)) h fun t18 h =>
 runD (aC bX t3 1) h fun t19 h =>
 runD (fitD aB (aD h t19)) h fun t20 h =>
 runD (binD aB .eql t18 t20) h fun t21 h =>
 J1 (.bool true) t21 h)
 (J1 (.bool false) .und h))
 (fun t16 t21 h => runD (bS t16 t21 (.bool false)) h fun t22 h =>
 K (.ret t22) h))
 (fun v h => K (.pan v) h)
def fZ.loops : Nat → bV
 | 3 => ⟨[4, 14], [true, false], [0, 5, 12, 13], [], [], []⟩
 | 6 => ⟨[], [], [], [(3, none), (5, some [26, 31])], [], []⟩
 | _ => ⟨[], [], [], [], [], []⟩
def fZ.L1 (c : Ctx) (J1 : AV → List AObj → Prop) (K : AOut → List AObj → Prop) (lv : List AV) (h0 : List AObj) (n0 : Nat) (c0 : AV) (c5 : AV) (c12 : AV) (c13 : AV) : Prop :=
 ∃ I : Nat → List AV → List AObj → Prop, (∃ n, I n lv h0) ∧ ∀ n h, ∀ t4, ∀ t14, I n [t4, t14] h →
 runD (binD aB .lss t14 c13) h fun t15 h =>
 bF t15
 (runD (aG aK h c12 t14) h fun t16 h =>
 runD (fitD aB (aD h t16)) h fun t17 h =>
 aS false c (.fn (.func 79) [] []) [c0, t17] h (fun t21 h =>
 runD (bE t21 0) h fun t22 h =>
 runD (bE t21 1) h fun t23 h =>
 cT aJ h fun t8 h =>
 runH (aR aJ h t8 t22) h fun _ h =>
 runD (binD cM .eql t23 (.int .i64 0)) h fun t25 h =>
 aL (fun (J2 : AV → AV → List AObj → Prop) =>
 bC t25 true
 (runD (aC aJ t8 1) h fun t28 h =>
 runD (fitD cH (aD h t28)) h fun t29 h =>
 runD (lS lL h c5 t29) h fun t30 h =>
 runD (unD .not t30) h fun t31 h =>
 J2 (.bool true) t31 h)
 (J2 (.bool false) .und h))
 (fun t26 t31 h => runD (bS t26 t31 (.bool false)) h fun t32 h =>
 aL (fun (J3 : AV → List AObj → Prop) =>
 bF t32
 (runD (aC aJ t8 1) h fun t34 h =>
 runD (fitD cH (aD h t34)) h fun t35 h =>
 runH (jM lL h c5 t35 (.bool true)) h fun _ h =>
 runD (fitD aJ (aD h t8)) h fun t37 h =>
 runD (gA aQ 1 [(0, t37)] h.length) h fun t38 h =>
 jZ (gP aQ h t4 t38 h.length) (hX aQ h t4 t38) h fun t39 h =>
 J3 t39 h)
 (J3 t4 h))
 (fun t4 h => runD (binD aB .add t14 (.int .i64 1)) h fun t40 h =>
 (∃ m, m < n ∧ I m (AV.norms n0 h [t4, t40]) (cI n0 h)) ∧ AV.norms n0 h [c0, c5, c12, c13] = [c0, c5, c12, c13])))
 (fun v h => K (.pan v) h))
 (J1 t4 h)
def fZ.H (c : Ctx) (t0 : AV) (t1 : AV) (h : List AObj) (K : AOut → List AObj → Prop) : Prop :=
 boxW bX t1 h fun t3 h =>
 runD (kR lL h.length) h fun t10 h =>
 runD (aC bX t3 3) h fun t11 h =>
 runD (fitD aK (aD h t11)) h fun t12 h =>
 runD (lenD aK h t12) h fun t13 h =>
 aL (fun (J1 : AV → List AObj → Prop) =>
 dP [true, false] [(.sl true (.recs [])), (.int .i64 0)] h fun lv h => fZ.L1 c J1 K (AV.norms h.length h lv) (cI h.length h) h.length (AV.norm h.length h t0) (AV.norm h.length h t10) (AV.norm h.length h t12) (AV.norm h.length h t13))
 (fun t4 h => aS false c (.fn (.func 108) [] []) [t4, (.fn (.func 109) [] [])] h (fun t42 h =>
 K (.ret t4) h)
 (fun v h => K (.pan v) h))
def bW.loops : Nat → bV
 | _ => ⟨[], [], [], [], [], []⟩
def bW.H (c : Ctx) (t0 : AV) (t1 : AV) (h : List AObj) (K : AOut → List AObj → Prop) : Prop :=
 boxW aJ t0 h fun t2 h =>
 boxW aJ t1 h fun t3 h =>
 runD (aC aJ t2 1) h fun t5 h =>
 runD (fitD cH (aD h t5)) h fun t6 h =>
 runD (aC aJ t3 1) h fun t7 h =>
 runD (fitD cH (aD h t7)) h fun t8 h =>
 aS false c (.fn (.func 110) [] []) [t6, t8] h (fun t9 h =>
 K (.ret t9) h)
 (fun v h => K (.pan v) h)
theorem fW.eq (F : List (FuncId × aE)) (S : List (FuncId × Con)) (t0 t1 : AV) (h : List AObj) (K : AOut → List AObj → Prop) : funW (ctx F S fW.loops) Tryz.f40 [t0, t1] h K = fW.H (ctx F S fW.loops) t0 t1 h K := by kernel_rfl
theorem gO.eq (F : List (FuncId × aE)) (S : List (FuncId × Con)) (t0 t1 : AV) (h : List AObj) (K : AOut → List AObj → Prop) : funW (ctx F S gO.loops) Tryz.f41 [t0, t1] h K = gO.H (ctx F S gO.loops) t0 t1 h K := by kernel_rfl
theorem eP.eq (F : List (FuncId × aE)) (S : List (FuncId × Con)) (t0 : AV) (h : List AObj) (K : AOut → List AObj → Prop) : funW (ctx F S eP.loops) Tryz.f67 [t0] h K = eP.H (ctx F S eP.loops) t0 h K := by kernel_rfl
theorem dH.eq (F : List (FuncId × aE)) (S : List (FuncId × Con)) (t0 : AV) (h : List AObj) (K : AOut → List AObj → Prop) : funW (ctx F S dH.loops) Tryz.f69 [t0] h K = dH.H (ctx F S dH.loops) t0 h K := by kernel_rfl
theorem cU.eq (F : List (FuncId × aE)) (S : List (FuncId × Con)) (t0 : AV) (h : List AObj) (K : AOut → List AObj → Prop) : funW (ctx F S cU.loops) Tryz.f70 [t0] h K = cU.H (ctx F S cU.loops) t0 h K := by kernel_rfl
theorem fX.eq (F : List (FuncId × aE)) (S : List (FuncId × Con)) (t0 t1 : AV) (h : List AObj) (K : AOut → List AObj → Prop) : funW (ctx F S fX.loops) Tryz.f71 [t0, t1] h K = fX.H (ctx F S fX.loops) t0 t1 h K := by kernel_rfl
theorem fZ.eq (F : List (FuncId × aE)) (S : List (FuncId × Con)) (t0 t1 : AV) (h : List AObj) (K : AOut → List AObj → Prop) : funW (ctx F S fZ.loops) Tryz.f89 [t0, t1] h K = fZ.H (ctx F S fZ.loops) t0 t1 h K := by kernel_rfl
theorem bW.eq (F : List (FuncId × aE)) (S : List (FuncId × Con)) (t0 t1 : AV) (h : List AObj) (K : AOut → List AObj → Prop) : funW (ctx F S bW.loops) Tryz.f109 [t0, t1] h K = bW.H (ctx F S bW.loops) t0 t1 h K := by kernel_rfl
theorem fW.at : Tryz.prog.funcs[40]? = some Tryz.f40 := by kernel_rfl
theorem fW.nm : (Tryz.f40.name == "runtime.NumGoroutine") = false := by kernel_rfl
theorem fW.bd : Tryz.f40.body.isNone = false := by kernel_rfl
theorem gO.at : Tryz.prog.funcs[41]? = some Tryz.f41 := by kernel_rfl
theorem gO.nm : (Tryz.f41.name == "runtime.NumGoroutine") = false := by kernel_rfl
theorem gO.bd : Tryz.f41.body.isNone = false := by kernel_rfl
theorem eP.at : Tryz.prog.funcs[67]? = some Tryz.f67 := by kernel_rfl
theorem eP.nm : (Tryz.f67.name == "runtime.NumGoroutine") = false := by kernel_rfl
theorem eP.bd : Tryz.f67.body.isNone = false := by kernel_rfl
theorem dH.at : Tryz.prog.funcs[69]? = some Tryz.f69 := by kernel_rfl
theorem dH.nm : (Tryz.f69.name == "runtime.NumGoroutine") = false := by kernel_rfl
theorem dH.bd : Tryz.f69.body.isNone = false := by kernel_rfl
theorem cU.at : Tryz.prog.funcs[70]? = some Tryz.f70 := by kernel_rfl
theorem cU.nm : (Tryz.f70.name == "runtime.NumGoroutine") = false := by kernel_rfl
theorem cU.bd : Tryz.f70.body.isNone = false := by kernel_rfl
theorem fX.at : Tryz.prog.funcs[71]? = some Tryz.f71 := by kernel_rfl
theorem fX.nm : (Tryz.f71.name == "runtime.NumGoroutine") = false := by kernel_rfl
theorem fX.bd : Tryz.f71.body.isNone = false := by kernel_rfl
theorem fZ.at : Tryz.prog.funcs[89]? = some Tryz.f89 := by kernel_rfl
theorem fZ.nm : (Tryz.f89.name == "runtime.NumGoroutine") = false := by kernel_rfl
theorem fZ.bd : Tryz.f89.body.isNone = false := by kernel_rfl
theorem bW.at : Tryz.prog.funcs[109]? = some Tryz.f109 := by kernel_rfl
theorem bW.nm : (Tryz.f109.name == "runtime.NumGoroutine") = false := by kernel_rfl
theorem bW.bd : Tryz.f109.body.isNone = false := by kernel_rfl
end Lam
namespace Lam
open Go Go.Proofs
def cmpI (a b : aY) : Int := if ltB a b = true then -1 else if ltB b a = true then 1 else 0
theorem jE {a b : aY} : (cmpI a b < 0) ↔ ltB a b = true := by
  unfold cmpI
  split
  · rename_i h; simp [h]
  · rename_i h
    split
    · simp [h]
    · simp [h]
def dJ.C : aE
  | [.str _] => some (false, pD True (.bool false))
  | _ => none
theorem dJ.spec : bO Tryz.prog 121 dJ.C := by
  refine bO.of (bP (F := []) (S := []) (by simp) (by simp) dJ.loops) dJ.at dJ.nm dJ.bd ?_
  intro vs b S v news e hS
  unfold dJ.C at e
  split at e
  rotate_left
  · cases e
  cases e
  rw [dJ.eq]
  unfold dJ.H
  simp (maxSteps := 4000000) only [go_sem, reduceEqDiff, Nat.reduceLT, reduceAdd, reduceSub, reduceLeDiff, reduceReplicate, reduceToNat]
  exact aH rfl rfl
def cW.C : aE
  | [.str a, .str b] => some (false, pD True (.int .i64 (cmpI a b)))
  | _ => none
theorem cW.spec : bO Tryz.prog 110 cW.C := by
  refine bO.of (bP (F := [(121, dJ.C)]) (S := []) (by simpa using dJ.spec) (by simp) cW.loops) cW.at cW.nm cW.bd ?_
  intro vs b S v news e hS
  unfold cW.C at e
  split at e
  rotate_left
  · cases e
  cases e
  rw [cW.eq]
  unfold cW.H
  simp (maxSteps := 4000000) only [go_sem, reduceEqDiff, Nat.reduceLT, reduceAdd, reduceSub, reduceLeDiff, reduceReplicate, reduceToNat, dJ.C]
  rename_i a b
  unfold cmpI
  refine ⟨fun h => ?_, fun h => ⟨fun h2 => ?_, fun h2 => ?_⟩⟩
  · rw [h]; exact aH rfl rfl
  · rw [h, h2]; exact aH rfl rfl
  · rw [h, h2]; exact aH rfl rfl
def bW.C : aE
  | [.agg [.int .i64 a, .str b, .str c, .int .i64 d], .agg [.int .i64 e, .str f, .str g, .int .i64 i]] => some (false, pD True (.int .i64 (cmpI b f)))
  | _ => none
theorem bW.spec : bO Tryz.prog 109 bW.C := by
  refine bO.of (bP (F := [(110, cW.C)]) (S := []) (by simpa using cW.spec) (by simp) bW.loops) bW.at bW.nm bW.bd ?_
  intro vs b S v news e hS
  unfold bW.C at e
  split at e
  rotate_left
  · cases e
  cases e
  rw [bW.eq]
  unfold bW.H
  simp (maxSteps := 4000000) only [go_sem, reduceEqDiff, Nat.reduceLT, reduceAdd, reduceSub, reduceLeDiff, reduceReplicate, reduceToNat, cW.C]
  exact aH rfl rfl
structure SkT where
  block : Int
  turn : Int
  at_ : Int
  refs : List Int
  over : Bool
def SkT.V (s : SkT) : AV := .agg [.int .i64 s.block, .int .i64 s.turn, .int .i64 s.at_, .sl false (.ints .i64 s.refs), .bool s.over]
theorem SkT.norm (s : SkT) (n : Nat) (h : List AObj) : AV.norm n h s.V = s.V := by simp only [SkT.V, go_sem, reduceEqDiff, Nat.reduceLT, reduceAdd, reduceSub, reduceLeDiff, reduceReplicate, reduceToNat]
def hpS (A : SkT) (m : aY → Bool) (v : Nat) (l : List RecT) (T : List AObj) : List AObj := .box A.V :: .map (.sb m) :: .row .own v (.recs l) :: T
def OkT (T : List AObj) : Prop := ∀ k h, T.map (qX k h) = T
theorem OkT.nil : OkT [] := fun _ _ => rfl
theorem OkT.snoc {T : List AObj} (h : OkT T) (k : IntKind) (n : Int) : OkT (T ++ [.box (.int k n)]) := fun i g => by
  rw [List.map_append, h i g]; rfl
theorem qM (T : List AObj) (y : AObj) : (T ++ [y])[T.length]? = some y := by simp
theorem zB : ∀ (T : List AObj) (y z : AObj), (T ++ [y]).set T.length z = T ++ [z]
  | [], _, _ => rfl
  | a :: T, y, z => congrArg (a :: ·) (zB T y z)
abbrev hitF : AV := .fn (.func 109) [] []
theorem iQ : (⟨0, [], [], 0⟩ : RecT) = d0 := rfl
theorem jO (l : List RecT) (i : Nat) : (⟨(l.getD i d0).kind, kyL l i, (l.getD i d0).val, (l.getD i d0).child⟩ : RecT) = l.getD i d0 := rfl
theorem iJ (l : List RecT) (i : Nat) : (l.getD i d0).key = kyL l i := rfl
theorem iM (l : List RecT) (i j : Nat) : (l.set i (l.getD j d0)).set j (l.getD i d0) = gU l i j := rfl
def bQ.K : Con := fun args h K => match args with
  | [a0, a1, a2, a3, a4] => bQ.H (ctx [(109, bW.C)] [] bQ.loops) a0 a1 a2 a3 a4 h K
  | _ => False
theorem bQ.spec : cP Tryz.prog 151 bQ.K := by
  refine cP.of (bP (F := [(109, bW.C)]) (S := []) (by simpa using bW.spec) (by simp) bQ.loops) bQ.at bQ.nm bQ.bd ?_
  intro args h K hC
  unfold bQ.K at hC
  split at hC
  · rw [bQ.eq]; exact hC
  · exact hC.elim
theorem aCj (A : SkT) (m : aY → Bool) (v : Nat) (l : List RecT) (T : List AObj) (hT : OkT T) (s : Nat) (n a b : Nat) (hs : s < 100000) (hn : n = l.length) (ha : a < n) (hb : b < n) (hr : roomy n) (K : AOut → List AObj → Prop)
    (hK : ∀ (a' b' : Nat) (s' : Nat), a' < n → b' < n → (s' = s ∨ s' = s + 1) → (a' = a ∨ a' = b) → (b' = a ∨ b' = b) → K (.ret (.tup [.int .i64 a', .int .i64 b'])) (hpS A m v l (T ++ [.box (.int .i64 (s' : Int))]))) :
    bQ.K [.sref false 2 v 0 n, .int .i64 a, .int .i64 b, .ptr (T.length + 1 + 1 + 1) [], hitF] (hpS A m v l (T ++ [.box (.int .i64 (s : Int))])) K := by
  unfold bQ.K bQ.H hpS
  simp only [qM, zB, List.map_cons, List.map_nil, bW.C, iQ, iJ, jE, aA, gq, reduceEq, reduceLT, reduceLE, implies_true, reduceCtorEq, if_true, if_false, go_sem, reduceEqDiff, Nat.reduceLT, reduceAdd, reduceSub, reduceLeDiff, reduceReplicate, reduceToNat]
  refine ⟨⟨by omega, by omega⟩, by omega, ⟨by omega, by omega⟩, by omega, fun h => ?_, fun h => ?_⟩
  · rw [fA (by omega)]
    exact hK b a (s + 1) hb ha (.inr rfl) (.inr rfl) (.inl rfl)
  · exact hK a b s ha hb (.inl rfl) (.inl rfl) (.inr rfl)
def bL.K : Con := fun args h K => match args with
  | [a0, a1, a2, a3, a4, a5] => bL.H (ctx [(109, bW.C)] [(151, bQ.K)] bL.loops) a0 a1 a2 a3 a4 a5 h K
  | _ => False
theorem bL.spec : cP Tryz.prog 146 bL.K := by
  refine cP.of (bP (F := [(109, bW.C)]) (S := [(151, bQ.K)]) (by simpa using bW.spec) (by simpa using bQ.spec) bL.loops) bL.at bL.nm bL.bd ?_
  intro args h K hC
  unfold bL.K at hC
  split at hC
  · rw [bL.eq]; exact hC
  · exact hC.elim
theorem aCk (A : SkT) (m : aY → Bool) (v : Nat) (l : List RecT) (T : List AObj) (hT : OkT T) (s : Nat) (n a b d : Nat) (hs : s < 90000) (hn : n = l.length) (ha : a < n) (hb : b < n) (hd : d < n) (hr : roomy n) (K : AOut → List AObj → Prop)
    (hK : ∀ (a' : Nat) (s' : Nat), (a' = a ∨ a' = b ∨ a' = d) → s' ≤ s + 3 → K (.ret (.int .i64 a')) (hpS A m v l (T ++ [.box (.int .i64 (s' : Int))]))) :
    bL.K [.sref false 2 v 0 n, .int .i64 a, .int .i64 b, .int .i64 d, .ptr (T.length + 1 + 1 + 1) [], hitF] (hpS A m v l (T ++ [.box (.int .i64 (s : Int))])) K := by
  unfold bL.K bL.H
  simp only [hpS, List.map_cons, List.map_nil, aA, gq, reduceEq, reduceLT, reduceLE, implies_true, reduceCtorEq, if_true, if_false, go_sem, reduceEqDiff, Nat.reduceLT, reduceAdd, reduceSub, reduceLeDiff, reduceReplicate, reduceToNat]
  refine aCj A m v l T hT s n a b (by omega) hn ha hb hr _ fun a1 b1 s1 h1 h2 h3 h4 h5 => ?_
  simp only [hpS, List.map_cons, List.map_nil, aA, gq, reduceEq, reduceLT, reduceLE, implies_true, reduceCtorEq, if_true, if_false, go_sem, reduceEqDiff, Nat.reduceLT, reduceAdd, reduceSub, reduceLeDiff, reduceReplicate, reduceToNat]
  refine aCj A m v l T hT s1 n b1 d (by omega) hn h2 hd hr _ fun b2 d2 s2 g1 g2 g3 g4 g5 => ?_
  simp only [hpS, List.map_cons, List.map_nil, aA, gq, reduceEq, reduceLT, reduceLE, implies_true, reduceCtorEq, if_true, if_false, go_sem, reduceEqDiff, Nat.reduceLT, reduceAdd, reduceSub, reduceLeDiff, reduceReplicate, reduceToNat]
  refine aCj A m v l T hT s2 n a1 b2 (by omega) hn h1 g1 hr _ fun a3 b3 s3 k1 k2 k3 k4 k5 => ?_
  simp only [hpS, List.map_cons, List.map_nil, aA, gq, reduceEq, reduceLT, reduceLE, implies_true, reduceCtorEq, if_true, if_false, go_sem, reduceEqDiff, Nat.reduceLT, reduceAdd, reduceSub, reduceLeDiff, reduceReplicate, reduceToNat]
  exact hK b3 s3 (by omega) (by omega)
def aZ.K : Con := fun args h K => match args with
  | [a0, a1, a2, a3] => aZ.H (ctx [] [(146, bL.K)] aZ.loops) a0 a1 a2 a3 h K
  | _ => False
theorem aZ.spec : cP Tryz.prog 145 aZ.K := by
  refine cP.of (bP (F := []) (S := [(146, bL.K)]) (by simp) (by simpa using bL.spec) aZ.loops) aZ.at aZ.nm aZ.bd ?_
  intro args h K hC
  unfold aZ.K at hC
  split at hC
  · rw [aZ.eq]; exact hC
  · exact hC.elim
theorem zC (A : SkT) (m : aY → Bool) (v : Nat) (l : List RecT) (T : List AObj) (hT : OkT T) (s : Nat) (n a : Nat) (hs : s < 80000) (hn : n = l.length) (ha : 0 < a) (ha2 : a + 1 < n) (hr : roomy n) (K : AOut → List AObj → Prop)
    (hK : ∀ (a' : Nat) (s' : Nat), a ≤ a' + 1 → a' ≤ a + 1 → s' ≤ s + 3 → K (.ret (.int .i64 a')) (hpS A m v l (T ++ [.box (.int .i64 (s' : Int))]))) :
    aZ.K [.sref false 2 v 0 n, .int .i64 a, .ptr (T.length + 1 + 1 + 1) [], hitF] (hpS A m v l (T ++ [.box (.int .i64 (s : Int))])) K := by
  have hr' := hr
  unfold roomy at hr'
  have e1 : IntKind.i64.wrap ((a : Int) - 1) = ((a - 1 : Nat) : Int) := by rw [w64 (by omega) (by omega)]; omega
  unfold aZ.K aZ.H
  simp only [hpS, List.map_cons, List.map_nil, e1, fA (show a < 4611686018427387904 by omega), aA, gq, reduceEq, reduceLT, reduceLE, implies_true, reduceCtorEq, if_true, if_false, go_sem, reduceEqDiff, Nat.reduceLT, reduceAdd, reduceSub, reduceLeDiff, reduceReplicate, reduceToNat]
  refine aCk A m v l T hT s n _ _ _ (by omega) hn (by omega) (by omega) (by omega) hr _ fun a1 s1 h1 h2 => ?_
  simp only [hpS, List.map_cons, List.map_nil, aA, gq, reduceEq, reduceLT, reduceLE, implies_true, reduceCtorEq, if_true, if_false, go_sem, reduceEqDiff, Nat.reduceLT, reduceAdd, reduceSub, reduceLeDiff, reduceReplicate, reduceToNat]
  exact hK a1 s1 (by omega) (by omega) h2
def bJ.K : Con := fun args h K => match args with
  | [a0, a1, a2, a3] => bJ.H (ctx [] [(145, aZ.K), (146, bL.K)] bJ.loops) a0 a1 a2 a3 h K
  | _ => False
theorem bJ.spec : cP Tryz.prog 129 bJ.K := by
  refine cP.of (bP (F := []) (S := [(145, aZ.K), (146, bL.K)]) (by simp) (by simpa using ⟨aZ.spec, bL.spec⟩) bJ.loops) bJ.at bJ.nm bJ.bd ?_
  intro args h K hC
  unfold bJ.K at hC
  split at hC
  · rw [bJ.eq]; exact hC
  · exact hC.elim
theorem aMd (A : SkT) (m : aY → Bool) (v : Nat) (l : List RecT) (T : List AObj) (hT : OkT T) (n a b : Nat) (hn : n = l.length) (hab : a < b) (hbn : b ≤ n) (hr : roomy n) (K : AOut → List AObj → Prop)
    (hK : ∀ (p : Nat) (e : Nat) (s : Int), a ≤ p → p < b → e ≤ 2 → K (.ret (.tup [.int .i64 p, .int .i64 e])) (hpS A m v l (T ++ [.box (.int .i64 s)]))) :
    bJ.K [.sref false 2 v 0 n, .int .i64 a, .int .i64 b, hitF] (hpS A m v l T) K := by
  unfold bJ.K bJ.H
  have hr' := hr
  unfold roomy at hr'
  have e0 : IntKind.i64.wrap ((b : Int) - a) = ((b - a : Nat) : Int) := by rw [w64 (by omega) (by omega)]; omega
  have e1 : ((b - a : Nat) : Int).tdiv 4 = (((b - a) / 4 : Nat) : Int) := by rw [Int.tdiv_eq_ediv_of_nonneg (by omega)]; omega
  obtain ⟨q, hq⟩ : ∃ q, (b - a) / 4 = q := ⟨_, rfl⟩
  have e2 : IntKind.i64.wrap (q : Int) = q := w64 (by omega) (by omega)
  have e3 : ∀ k : Nat, k ≤ 3 → IntKind.i64.wrap ((a : Int) + IntKind.i64.wrap ((q : Int) * k)) = ((a + q * k : Nat) : Int) := fun k hk => by
    have : q * k ≤ q * 3 := Nat.mul_le_mul_left q hk
    rw [w64 (n := (q : Int) * k) (by rw [← Int.natCast_mul]; omega) (by rw [← Int.natCast_mul]; omega), ← Int.natCast_mul, w64 (by omega) (by omega)]; omega
  have e31 := e3 1 (by decide)
  have e32 := e3 2 (by decide)
  have e33 := e3 3 (by decide)
  simp only [Int.natCast_one, Int.cast_ofNat_Int] at e31 e32 e33
  simp only [hpS, List.map_cons, List.map_nil, List.cons_append, e0, e1, hq, e2, e31, e32, e33, aA, gq, reduceEq, reduceLT, reduceLE, implies_true, reduceCtorEq, if_true, if_false, go_sem, reduceEqDiff, Nat.reduceLT, reduceAdd, reduceSub, reduceLeDiff, reduceReplicate, reduceToNat]
  have hfin : ∀ (p : Nat) (s : Int), a ≤ p → p < b → ((s = 0 → K (.ret (.tup [.int .i64 p, .int .i64 1])) (hpS A m v l (T ++ [.box (.int .i64 s)]))) ∧ (¬ s = 0 → (s = 12 → K (.ret (.tup [.int .i64 p, .int .i64 2])) (hpS A m v l (T ++ [.box (.int .i64 s)]))) ∧ (¬ s = 12 → K (.ret (.tup [.int .i64 p, .int .i64 0])) (hpS A m v l (T ++ [.box (.int .i64 s)]))))) := fun p s h1 h2 => ⟨fun _ => hK p 1 s h1 h2 (by decide), fun _ => ⟨fun _ => hK p 2 s h1 h2 (by decide), fun _ => hK p 0 s h1 h2 (by decide)⟩⟩
  refine ⟨fun h8 => ⟨fun h50 => ?_, fun _ => ?_⟩, fun h8 => ?_⟩
  · refine zC A m v l T hT 0 n _ (by decide) hn (by omega) (by omega) hr _ fun p1 s1 h1 h2 h3 => ?_
    simp only [hpS, aA, gq, reduceEq, reduceLT, reduceLE, implies_true, reduceCtorEq, if_true, if_false, go_sem, reduceEqDiff, Nat.reduceLT, reduceAdd, reduceSub, reduceLeDiff, reduceReplicate, reduceToNat]
    refine zC A m v l T hT s1 n _ (by omega) hn (by omega) (by omega) hr _ fun p2 s2 g1 g2 g3 => ?_
    simp only [hpS, aA, gq, reduceEq, reduceLT, reduceLE, implies_true, reduceCtorEq, if_true, if_false, go_sem, reduceEqDiff, Nat.reduceLT, reduceAdd, reduceSub, reduceLeDiff, reduceReplicate, reduceToNat]
    refine zC A m v l T hT s2 n _ (by omega) hn (by omega) (by omega) hr _ fun p3 s3 k1 k2 k3 => ?_
    simp only [hpS, aA, gq, reduceEq, reduceLT, reduceLE, implies_true, reduceCtorEq, if_true, if_false, go_sem, reduceEqDiff, Nat.reduceLT, reduceAdd, reduceSub, reduceLeDiff, reduceReplicate, reduceToNat]
    refine aCk A m v l T hT s3 n _ _ _ (by omega) hn (by omega) (by omega) (by omega) hr _ fun p s hp hs => ?_
    simp only [hpS, qM, aA, gq, reduceEq, reduceLT, reduceLE, implies_true, reduceCtorEq, if_true, if_false, go_sem, reduceEqDiff, Nat.reduceLT, reduceAdd, reduceSub, reduceLeDiff, reduceReplicate, reduceToNat]
    exact hfin p s (by omega) (by omega)
  · refine aCk A m v l T hT 0 n _ _ _ (by decide) hn (by omega) (by omega) (by omega) hr _ fun p s hp hs => ?_
    simp only [hpS, qM, aA, gq, reduceEq, reduceLT, reduceLE, implies_true, reduceCtorEq, if_true, if_false, go_sem, reduceEqDiff, Nat.reduceLT, reduceAdd, reduceSub, reduceLeDiff, reduceReplicate, reduceToNat]
    exact hfin p s (by omega) (by omega)
  · simp only [hpS, qM, aA, gq, reduceEq, reduceLT, reduceLE, implies_true, reduceCtorEq, if_true, if_false, go_sem, reduceEqDiff, Nat.reduceLT, reduceAdd, reduceSub, reduceLeDiff, reduceReplicate, reduceToNat]
    exact hK (a + q * 2) 1 0 (by omega) (by omega) (by decide)
def aO.K : Con := fun args h K => match args with
  | [a0, a1, a2, a3] => aO.H (ctx [(109, bW.C)] [] aO.loops) a0 a1 a2 a3 h K
  | _ => False
theorem aO.spec : cP Tryz.prog 126 aO.K := by
  refine cP.of (bP (F := [(109, bW.C)]) (S := []) (by simpa using bW.spec) (by simp) aO.loops) aO.at aO.nm aO.bd ?_
  intro args h K hC
  unfold aO.K at hC
  split at hC
  · rw [aO.eq]; exact hC
  · exact hC.elim
theorem aSA (A : SkT) (m : aY → Bool) (v : Nat) (l : List RecT) (T : List AObj) (hTn : OkT T) (n a b : Nat) (hn : n = l.length) (hab : a ≤ b) (hbn : b ≤ n) (hr : roomy n) (K : AOut → List AObj → Prop)
    (hK : ∀ l', SegP a b l l' → SegS a b l' → K (.ret (.tup [])) (hpS A m v l' T)) :
    aO.K [.sref false 2 v 0 n, .int .i64 a, .int .i64 b, hitF] (hpS A m v l T) K := by
  have hr' := hr
  unfold roomy at hr'
  have h2 : 2 < T.length + 1 + 1 + 1 := by omega
  unfold aO.K aO.H
  simp only [hpS, hTn _ _, SkT.norm, h2, aA, gq, reduceEq, reduceLT, reduceLE, implies_true, reduceCtorEq, if_true, if_false, go_sem, reduceEqDiff, Nat.reduceLT, reduceAdd, reduceSub, reduceLeDiff, reduceReplicate, reduceToNat] at hK ⊢
  rw [fA (by omega)]
  unfold aO.L1
  refine lP (σ := List RecT × Nat) (fun s => .int .i64 s.2) (fun s => .box A.V :: .map (.sb m) :: .row .own v (.recs s.1) :: T) (fun s => n + 1 - s.2) (fun s => a + 1 ≤ s.2 ∧ (s.2 ≤ b ∨ s.2 = a + 1) ∧ SegP a b l s.1 ∧ SegS a s.2 s.1) (l, a + 1) rfl rfl ⟨by simp, by simp, SegP.refl, SegS.one (by simp)⟩ ?_
  rintro I back ⟨l1, i⟩ ⟨hi1, hi2, hp, hs⟩
  simp only at hi1 hi2 hp hs ⊢
  have hl1 := hp.len
  simp only [hTn _ _, SkT.norm, h2, aA, aA, gq, reduceEq, reduceLT, reduceLE, implies_true, reduceCtorEq, if_true, if_false, go_sem, reduceEqDiff, Nat.reduceLT, reduceAdd, reduceSub, reduceLeDiff, reduceReplicate, reduceToNat]
  refine ⟨fun hlt => ?_, fun hge => hK l1 hp fun p q h1 h2 h3 => hs p q h1 h2 (by omega)⟩
  unfold aO.L2
  refine lP (σ := List RecT × Nat) (fun s => .int .i64 s.2) (fun s => .box A.V :: .map (.sb m) :: .row .own v (.recs s.1) :: T) (fun s => s.2) (fun s => a ≤ s.2 ∧ s.2 ≤ i ∧ SegP a b l s.1 ∧ InsS a s.2 (i + 1) s.1) (l1, i) rfl rfl ⟨by simp only; omega, by simp, hp, InsS.begin hs⟩ ?_
  rintro I2 back2 ⟨l2, j⟩ ⟨hj1, hj2, hp2, hs2⟩
  simp only at hj1 hj2 hp2 hs2 ⊢
  have hl2 := hp2.len
  have hnx : SegS a (i + 1) l2 → ∃ m1, m1 < n + 1 - i ∧ I m1 [.int .i64 (IntKind.i64.wrap ((i : Int) + 1))] (.box A.V :: .map (.sb m) :: .row .own v (.recs l2) :: T) := fun h => back (l2, i + 1) (by simp only; omega) (by simp only; rw [fA (by omega)]) rfl ⟨by simp only; omega, .inl (by simp only; omega), hp2, h⟩
  by_cases hja : a < j
  · have e1 : IntKind.i64.wrap ((j : Int) - 1) = ((j - 1 : Nat) : Int) := by rw [w64 (by omega) (by omega)]; omega
    have d1 : decide ((a : Int) < (j : Int)) = true := decide_eq_true (by omega)
    simp only [hTn _ _, SkT.norm, h2, aA, d1, e1, Int.toNat_natCast, bW.C, iQ, iJ, jE, jO, iM, List.length_set, aA, gq, reduceEq, reduceLT, reduceLE, implies_true, reduceCtorEq, if_true, if_false, go_sem, reduceEqDiff, Nat.reduceLT, reduceAdd, reduceSub, reduceLeDiff, reduceReplicate, reduceToNat]
    refine ⟨⟨by omega, by omega⟩, by omega, ⟨by omega, by omega⟩, by omega, fun h => ⟨⟨by omega, by omega⟩, by omega, ⟨by omega, by omega⟩, by omega, ⟨by omega, by omega⟩, by omega, ⟨by omega, by omega⟩, by omega, back2 (gU l2 j (j - 1), j - 1) (by simp only; omega) rfl rfl ⟨by simp only; omega, by simp only; omega, hp2.trans (SegP.swap (by omega) (by omega) (by omega) (by omega) (by omega)), hs2.step hja (by omega) (by omega) h⟩⟩, fun h => hnx (hs2.done hj1 (by omega) (.inr (by unfold leB; simpa using h)))⟩
  · obtain rfl : j = a := by omega
    have d1 : decide ((j : Int) < (j : Int)) = false := decide_eq_false (by omega)
    simp only [hTn _ _, SkT.norm, h2, aA, d1, aA, gq, reduceEq, reduceLT, reduceLE, implies_true, reduceCtorEq, if_true, if_false, go_sem, reduceEqDiff, Nat.reduceLT, reduceAdd, reduceSub, reduceLeDiff, reduceReplicate, reduceToNat]
    exact hnx (hs2.done (Nat.le_refl _) (by omega) (.inl rfl))
def aF.K : Con := fun args h K => match args with
  | [a0, a1, a2, a3] => aF.H (ctx [(109, bW.C)] [] aF.loops) a0 a1 a2 a3 h K
  | _ => False
theorem aF.spec : cP Tryz.prog 131 aF.K := by
  refine cP.of (bP (F := [(109, bW.C)]) (S := []) (by simpa using bW.spec) (by simp) aF.loops) aF.at aF.nm aF.bd ?_
  intro args h K hC
  unfold aF.K at hC
  split at hC
  · rw [aF.eq]; exact hC
  · exact hC.elim
def PreS (a b : Nat) (l : List RecT) : Prop := a = 0 ∨ ∀ k, a ≤ k → k < b → leB (kyL l (a - 1)) (kyL l k)
theorem PreS.keep {a b : Nat} {l l' : List RecT} (h : PreS a b l) (s : SegP a b l l') : PreS a b l' := by
  rcases Nat.eq_zero_or_pos a with h0 | h0
  · exact .inl h0
  · rcases h with h | h
    · exact .inl h
    · refine .inr fun k h1 h2 => ?_
      rw [s.same (k := a - 1) (by omega)]
      exact s.le (x := kyL l (a - 1)) h k h1 h2
theorem aKU (c : Ctx) (hd : c.drawn = false) (hf : c.envF 109 = bW.C) (A : SkT) (m : aY → Bool) (v : Nat) (l : List RecT) (T : List AObj) (n a b i jc : Nat) (hTn : OkT T) (hn : n = l.length) (ha : a + 1 < i) (hi : i < n) (hp : PreS a i l) (hr : roomy n) (h0 : InsS a (i - 1) i l)
    (J : AV → AV → AV → AV → AV → AV → List AObj → Prop) (K : AOut → List AObj → Prop)
    (hJ : ∀ l', SegP a i l l' → SegS a i l' → J (.sref false 2 v 0 n) (.int .i64 a) (.int .i64 b) hitF (.int .i64 i) (.int .i64 jc) (.box A.V :: .map (.sb m) :: .row .own v (.recs l') :: T)) :
    aF.L3 c J K [.int .i64 ((i - 1 : Nat) : Int)] (.box A.V :: .map (.sb m) :: .row .own v (.recs l) :: T) (T.length + 1 + 1 + 1) (.sref false 2 v 0 n) (.int .i64 a) (.int .i64 b) hitF (.int .i64 i) (.int .i64 jc) := by
  have hr' := hr
  unfold roomy at hr'
  have h2 : 2 < T.length + 1 + 1 + 1 := by omega
  unfold aF.L3
  refine lP (σ := List RecT × Nat) (fun s => .int .i64 s.2) (fun s => .box A.V :: .map (.sb m) :: .row .own v (.recs s.1) :: T) (fun s => s.2) (fun s => a ≤ s.2 ∧ s.2 < i ∧ SegP a i l s.1 ∧ InsS a s.2 i s.1) (l, i - 1) rfl rfl ⟨by simp only; omega, by simp only; omega, SegP.refl, h0⟩ ?_
  rintro I back ⟨l2, j⟩ ⟨hj1, hj2, hp2, hs2⟩
  simp only at hj1 hj2 hp2 hs2 ⊢
  have hl2 := hp2.len
  by_cases hj0 : 1 ≤ j
  · have e1 : IntKind.i64.wrap ((j : Int) - 1) = ((j - 1 : Nat) : Int) := by rw [w64 (by omega) (by omega)]; omega
    have d1 : decide ((1 : Int) ≤ (j : Int)) = true := decide_eq_true (by omega)
    cases hlt : ltB (kyL l2 j) (kyL l2 (j - 1)) with
    | false =>
      simp only [hTn _ _, SkT.norm, h2, aA, d1, e1, hd, hf, hlt, Int.toNat_natCast, bW.C, iQ, iJ, jE, aA, gq, reduceEq, reduceLT, reduceLE, implies_true, reduceCtorEq, if_true, if_false, go_sem, reduceEqDiff, Nat.reduceLT, reduceAdd, reduceSub, reduceLeDiff, reduceReplicate, reduceToNat]
      refine ⟨⟨by omega, by omega⟩, by omega, ⟨by omega, by omega⟩, by omega, hJ l2 hp2 (hs2.done hj1 hj2 ?_)⟩
      rcases Nat.eq_or_lt_of_le hj1 with h | h
      · exact .inl h.symm
      · exact .inr hlt
    | true =>
      have hja : a < j := by
        rcases Nat.eq_or_lt_of_le hj1 with h | h
        · subst h
          rcases hp.keep hp2 with h | h
          · omega
          · have := h a (Nat.le_refl _) hj2
            unfold leB at this
            rw [hlt] at this; cases this
        · exact h
      simp only [hTn _ _, SkT.norm, h2, aA, d1, e1, hd, hf, hlt, Int.toNat_natCast, bW.C, iQ, iJ, jE, jO, iM, List.length_set, aA, gq, reduceEq, reduceLT, reduceLE, implies_true, reduceCtorEq, if_true, if_false, go_sem, reduceEqDiff, Nat.reduceLT, reduceAdd, reduceSub, reduceLeDiff, reduceReplicate, reduceToNat]
      refine ⟨⟨by omega, by omega⟩, by omega, ⟨by omega, by omega⟩, by omega, ⟨by omega, by omega⟩, by omega, ⟨by omega, by omega⟩, by omega, ⟨by omega, by omega⟩, by omega, ⟨by omega, by omega⟩, by omega, back (gU l2 j (j - 1), j - 1) (by simp only; omega) rfl rfl ⟨by simp only; omega, by simp only; omega, hp2.trans (SegP.swap (by omega) (by omega) (by omega) (by omega) (by omega)), hs2.step hja hj2 (by omega) hlt⟩⟩
  · have d1 : decide ((1 : Int) ≤ (j : Int)) = false := decide_eq_false (by omega)
    simp only [hTn _ _, SkT.norm, h2, aA, d1, aA, gq, reduceEq, reduceLT, reduceLE, implies_true, reduceCtorEq, if_true, if_false, go_sem, reduceEqDiff, Nat.reduceLT, reduceAdd, reduceSub, reduceLeDiff, reduceReplicate, reduceToNat]
    exact hJ l2 hp2 (hs2.done hj1 hj2 (.inl (by omega)))
theorem aJA (c : Ctx) (hd : c.drawn = false) (hf : c.envF 109 = bW.C) (A : SkT) (m : aY → Bool) (v : Nat) (l : List RecT) (T : List AObj) (n a b i jc : Nat) (hTn : OkT T) (hn : n = l.length) (hi : i + 1 < b) (hb : b ≤ n) (hr : roomy n)
    (J : AV → AV → AV → AV → AV → AV → List AObj → Prop) (K : AOut → List AObj → Prop)
    (hJ : ∀ l', SegP i b l l' → J (.sref false 2 v 0 n) (.int .i64 a) (.int .i64 b) hitF (.int .i64 i) (.int .i64 jc) (.box A.V :: .map (.sb m) :: .row .own v (.recs l') :: T)) :
    aF.L4 c J K [.int .i64 ((i + 1 : Nat) : Int)] (.box A.V :: .map (.sb m) :: .row .own v (.recs l) :: T) (T.length + 1 + 1 + 1) (.sref false 2 v 0 n) (.int .i64 a) (.int .i64 b) hitF (.int .i64 i) (.int .i64 jc) := by
  have hr' := hr
  unfold roomy at hr'
  have h2 : 2 < T.length + 1 + 1 + 1 := by omega
  unfold aF.L4
  refine lP (σ := List RecT × Nat) (fun s => .int .i64 s.2) (fun s => .box A.V :: .map (.sb m) :: .row .own v (.recs s.1) :: T) (fun s => b - s.2) (fun s => i + 1 ≤ s.2 ∧ s.2 ≤ b ∧ SegP i b l s.1) (l, i + 1) rfl rfl ⟨Nat.le_refl _, by simp only; omega, SegP.refl⟩ ?_
  rintro I back ⟨l2, j⟩ ⟨hj1, hj2, hp2⟩
  simp only at hj1 hj2 hp2 ⊢
  have hl2 := hp2.len
  by_cases hj0 : j < b
  · have e1 : IntKind.i64.wrap ((j : Int) - 1) = ((j - 1 : Nat) : Int) := by rw [w64 (by omega) (by omega)]; omega
    have d1 : decide ((j : Int) < (b : Int)) = true := decide_eq_true (by omega)
    cases hlt : ltB (kyL l2 j) (kyL l2 (j - 1)) with
    | false =>
      simp only [hTn _ _, SkT.norm, h2, aA, d1, e1, hd, hf, hlt, Int.toNat_natCast, bW.C, iQ, iJ, jE, aA, gq, reduceEq, reduceLT, reduceLE, implies_true, reduceCtorEq, if_true, if_false, go_sem, reduceEqDiff, Nat.reduceLT, reduceAdd, reduceSub, reduceLeDiff, reduceReplicate, reduceToNat]
      exact ⟨⟨by omega, by omega⟩, by omega, ⟨by omega, by omega⟩, by omega, hJ l2 hp2⟩
    | true =>
      simp only [hTn _ _, SkT.norm, h2, aA, d1, e1, hd, hf, hlt, Int.toNat_natCast, bW.C, iQ, iJ, jE, jO, iM, List.length_set, aA, gq, reduceEq, reduceLT, reduceLE, implies_true, reduceCtorEq, if_true, if_false, go_sem, reduceEqDiff, Nat.reduceLT, reduceAdd, reduceSub, reduceLeDiff, reduceReplicate, reduceToNat]
      refine ⟨⟨by omega, by omega⟩, by omega, ⟨by omega, by omega⟩, by omega, ⟨by omega, by omega⟩, by omega, ⟨by omega, by omega⟩, by omega, ⟨by omega, by omega⟩, by omega, ⟨by omega, by omega⟩, by omega, back (gU l2 j (j - 1), j + 1) (by simp only; omega) (by rw [fA (by omega)]) rfl ⟨by simp only; omega, by simp only; omega, hp2.trans (SegP.swap (by omega) (by omega) (by omega) (by omega) (by omega))⟩⟩
  · have d1 : decide ((j : Int) < (b : Int)) = false := decide_eq_false (by omega)
    simp only [hTn _ _, SkT.norm, h2, aA, d1, aA, gq, reduceEq, reduceLT, reduceLE, implies_true, reduceCtorEq, if_true, if_false, go_sem, reduceEqDiff, Nat.reduceLT, reduceAdd, reduceSub, reduceLeDiff, reduceReplicate, reduceToNat]
    exact hJ l2 hp2
theorem aOn (A : SkT) (m : aY → Bool) (v : Nat) (l : List RecT) (T : List AObj) (hTn : OkT T) (n a b : Nat) (hn : n = l.length) (hab : a < b) (hbn : b ≤ n) (hpre : PreS a b l) (hr : roomy n) (K : AOut → List AObj → Prop)
    (hK1 : ∀ l', SegP a b l l' → SegS a b l' → K (.ret (.bool true)) (hpS A m v l' T)) (hK2 : ∀ l', SegP a b l l' → K (.ret (.bool false)) (hpS A m v l' T)) :
    aF.K [.sref false 2 v 0 n, .int .i64 a, .int .i64 b, hitF] (hpS A m v l T) K := by
  have hr' := hr
  unfold roomy at hr'
  have h2 : 2 < T.length + 1 + 1 + 1 := by omega
  unfold aF.K aF.H
  simp only [hpS, hTn _ _, SkT.norm, h2, aA, gq, reduceEq, reduceLT, reduceLE, implies_true, reduceCtorEq, if_true, if_false, go_sem, reduceEqDiff, Nat.reduceLT, reduceAdd, reduceSub, reduceLeDiff, reduceReplicate, reduceToNat] at hK1 hK2 ⊢
  rw [fA (by omega)]
  unfold aF.L1
  refine qD (σ := List RecT × Nat × Nat) (fun s => .int .i64 s.2.1) (fun s => .int .i64 s.2.2) (fun s => .box A.V :: .map (.sb m) :: .row .own v (.recs s.1) :: T) (fun s => 5 - s.2.2) (fun s => s.2.2 ≤ 5 ∧ a + 1 ≤ s.2.1 ∧ s.2.1 ≤ b ∧ SegP a b l s.1 ∧ SegS a s.2.1 s.1) (l, a + 1, 0) rfl rfl ⟨Nat.zero_le _, Nat.le_refl _, by simp only; omega, SegP.refl, SegS.one (Nat.le_refl _)⟩ ?_
  rintro I back ⟨l1, i0, jc⟩ ⟨hjc, hi1, hi2, hp, hs⟩
  simp only at hjc hi1 hi2 hp hs ⊢
  have hl1 := hp.len
  by_cases hj5 : jc < 5
  rotate_left
  · have d1 : decide ((jc : Int) < 5) = false := decide_eq_false (by omega)
    simp only [hTn _ _, SkT.norm, h2, aA, d1, aA, gq, reduceEq, reduceLT, reduceLE, implies_true, reduceCtorEq, if_true, if_false, go_sem, reduceEqDiff, Nat.reduceLT, reduceAdd, reduceSub, reduceLeDiff, reduceReplicate, reduceToNat]
    exact hK2 l1 hp
  have d0 : decide ((jc : Int) < 5) = true := decide_eq_true (by omega)
  simp only [hTn _ _, SkT.norm, h2, aA, d0, aA, gq, reduceEq, reduceLT, reduceLE, implies_true, reduceCtorEq, if_true, if_false, go_sem, reduceEqDiff, Nat.reduceLT, reduceAdd, reduceSub, reduceLeDiff, reduceReplicate, reduceToNat]
  unfold aF.L2
  refine lP (σ := Nat) (fun i => .int .i64 i) (fun s => .box A.V :: .map (.sb m) :: .row .own v (.recs l1) :: T) (fun i => b - i) (fun i => a + 1 ≤ i ∧ i ≤ b ∧ SegS a i l1) i0 rfl rfl ⟨hi1, hi2, hs⟩ ?_
  rintro I2 back2 i ⟨hi1, hi2, hs⟩
  have e1 : IntKind.i64.wrap ((i : Int) - 1) = ((i - 1 : Nat) : Int) := by rw [w64 (by omega) (by omega)]; omega
  have e2 : IntKind.i64.wrap ((b : Int) - a) = ((b - a : Nat) : Int) := by rw [w64 (by omega) (by omega)]; omega
  have e3 : IntKind.i64.wrap ((i : Int) - a) = ((i - a : Nat) : Int) := by rw [w64 (by omega) (by omega)]; omega
  have e4 : IntKind.i64.wrap ((b : Int) - i) = ((b - i : Nat) : Int) := by rw [w64 (by omega) (by omega)]; omega
  by_cases hib : i < b
  · have d1 : decide ((i : Int) < (b : Int)) = true := decide_eq_true (by omega)
    have d2 : decide ((i : Int) = (b : Int)) = false := decide_eq_false (by omega)
    cases hlt : ltB (kyL l1 i) (kyL l1 (i - 1)) with
    | false =>
      simp only [hTn _ _, SkT.norm, h2, aA, d1, e1, e2, hlt, Int.toNat_natCast, bW.C, iQ, iJ, jE, jO, iM, List.length_set, aA, gq, reduceEq, reduceLT, reduceLE, implies_true, reduceCtorEq, if_true, if_false, go_sem, reduceEqDiff, Nat.reduceLT, reduceAdd, reduceSub, reduceLeDiff, reduceReplicate, reduceToNat]
      refine ⟨⟨by omega, by omega⟩, by omega, ⟨by omega, by omega⟩, by omega, ?_⟩
      refine back2 (i + 1) (by omega) (by rw [fA (by omega)]) rfl ⟨by omega, by omega, ?_⟩
      intro p q h1 h2 h3
      by_cases hq : q = i
      · subst hq
        by_cases hp : p = q - 1
        · subst hp; exact hlt
        · exact tK (hs p (q - 1) h1 (by omega) (by omega)) hlt
      · exact hs p q h1 h2 (by omega)
    | true =>
      have hsw : SegP a b l (gU l1 i (i - 1)) := hp.trans (SegP.swap (by omega) (by omega) (by omega) (by omega) (by omega))
      have hins : InsS a (i - 1) i (gU l1 i (i - 1)) := fun p q h1 h2 h3 h4 => by
        rw [jK (by omega) (by omega), jK (by omega) (by omega), if_neg (by omega), if_neg (by omega), if_neg (by omega), if_neg (by omega)]
        exact hs p q h1 h2 (by omega)
      have hsl : (gU l1 i (i - 1)).length = n := by rw [nF]; omega
      simp only [hTn _ _, SkT.norm, h2, aA, d1, d2, e1, e2, e3, e4, hlt, Int.toNat_natCast, bW.C, iQ, iJ, jE, jO, iM, List.length_set, fA (show i < 4611686018427387904 by omega), aA, gq, reduceEq, reduceLT, reduceLE, implies_true, reduceCtorEq, if_true, if_false, go_sem, reduceEqDiff, Nat.reduceLT, reduceAdd, reduceSub, reduceLeDiff, reduceReplicate, reduceToNat]
      generalize gU l1 i (i - 1) = l2 at *
      have hend : ∀ l3, SegP a b l l3 → SegS a i l3 → ∃ m_1, m_1 < 5 - jc ∧ I m_1 [.int .i64 i, .int .i64 ((jc + 1 : Nat) : Int)] (.box A.V :: .map (.sb m) :: .row .own v (.recs l3) :: T) := fun l3 p3 s3 => back (l3, i, jc + 1) (by simp only; omega) rfl rfl ⟨by simp only; omega, hi1, hi2, p3, s3⟩
      have hright : ∀ (c : Ctx), c.drawn = false → c.envF 109 = bW.C → ∀ l3, SegP a b l l3 → SegS a i l3 → ∀ (J : AV → AV → AV → AV → AV → AV → List AObj → Prop) (K : AOut → List AObj → Prop), i + 1 < b → (∀ l4, SegP a b l l4 → SegS a i l4 → J (.sref false 2 v 0 n) (.int .i64 a) (.int .i64 b) hitF (.int .i64 i) (.int .i64 jc) (.box A.V :: .map (.sb m) :: .row .own v (.recs l4) :: T)) → aF.L4 c J K [.int .i64 ((i + 1 : Nat) : Int)] (.box A.V :: .map (.sb m) :: .row .own v (.recs l3) :: T) (T.length + 1 + 1 + 1) (.sref false 2 v 0 n) (.int .i64 a) (.int .i64 b) hitF (.int .i64 i) (.int .i64 jc) := fun c hd hf l3 p3 s3 J K h1 hJ =>
        aJA c hd hf A m v l3 T n a b i jc hTn (by rw [p3.len]; exact hn) h1 hbn hr J K fun l4 p4 => hJ l4 (p3.trans (p4.mono (by omega) (Nat.le_refl _))) (s3.keep p4 (.inl (Nat.le_refl _)))
      refine ⟨⟨by omega, by omega⟩, by omega, ⟨by omega, by omega⟩, by omega, fun h50 => hK2 l1 hp, fun h50 => ⟨⟨by omega, by omega⟩, by omega, ⟨by omega, by omega⟩, by omega, ⟨by omega, by omega⟩, by omega, ⟨by omega, by omega⟩, by omega, fun hge => ?_, fun hge => ?_⟩⟩
      · have hpr : PreS a i l2 := (hpre.keep hsw).imp id fun h k k1 k2 => h k k1 (by omega)
        refine aKU _ rfl rfl A m v l2 T n a b i jc hTn hsl.symm (by omega) (by omega) hpr hr hins _ _ fun l3 p3 s3 => ?_
        have p3' : SegP a b l l3 := hsw.trans (p3.mono (Nat.le_refl _) (by omega))
        simp only [hTn _ _, SkT.norm, h2, e4, fA (show i < 4611686018427387904 by omega), fA (show jc < 4611686018427387904 by omega), aA, gq, reduceEq, reduceLT, reduceLE, implies_true, reduceCtorEq, if_true, if_false, go_sem, reduceEqDiff, Nat.reduceLT, reduceAdd, reduceSub, reduceLeDiff, reduceReplicate, reduceToNat]
        refine ⟨fun hge2 => hright _ rfl rfl l3 p3' s3 _ _ (by omega) fun l4 p4 s4 => ?_, fun _ => hend l3 p3' s3⟩
        simp only [hTn _ _, SkT.norm, h2, fA (show jc < 4611686018427387904 by omega), aA, gq, reduceEq, reduceLT, reduceLE, implies_true, reduceCtorEq, if_true, if_false, go_sem, reduceEqDiff, Nat.reduceLT, reduceAdd, reduceSub, reduceLeDiff, reduceReplicate, reduceToNat]
        exact hend l4 p4 s4
      · refine ⟨fun hge2 => hright _ rfl rfl l2 hsw (SegS.one (by omega)) _ _ (by omega) fun l4 p4 s4 => ?_, fun _ => by rw [fA (by omega)]; exact hend l2 hsw (SegS.one (by omega))⟩
        simp only [hTn _ _, SkT.norm, h2, fA (show jc < 4611686018427387904 by omega), aA, gq, reduceEq, reduceLT, reduceLE, implies_true, reduceCtorEq, if_true, if_false, go_sem, reduceEqDiff, Nat.reduceLT, reduceAdd, reduceSub, reduceLeDiff, reduceReplicate, reduceToNat]
        exact hend l4 p4 s4
  · obtain rfl : i = b := by omega
    have d1 : decide ((i : Int) < (i : Int)) = false := decide_eq_false (by omega)
    simp only [hTn _ _, SkT.norm, h2, aA, d1, decide_true, aA, gq, reduceEq, reduceLT, reduceLE, implies_true, reduceCtorEq, if_true, if_false, go_sem, reduceEqDiff, Nat.reduceLT, reduceAdd, reduceSub, reduceLeDiff, reduceReplicate, reduceToNat]
    exact hK1 l1 hp hs
def aI.K : Con := fun args h K => match args with
  | [a0, a1, a2, a3, a4] => aI.H (ctx [(109, bW.C)] [] aI.loops) a0 a1 a2 a3 a4 h K
  | _ => False
theorem aI.spec : cP Tryz.prog 133 aI.K := by
  refine cP.of (bP (F := [(109, bW.C)]) (S := []) (by simpa using bW.spec) (by simp) aI.loops) aI.at aI.nm aI.bd ?_
  intro args h K hC
  unfold aI.K at hC
  split at hC
  · rw [aI.eq]; exact hC
  · exact hC.elim
def wO (a b i j : Nat) (l : List RecT) : Prop := a + 1 ≤ i ∧ i ≤ j + 1 ∧ j < b ∧ a ≤ j ∧ (∀ k, a < k → k < i → leB (kyL l k) (kyL l a)) ∧ ∀ k, j < k → k < b → leB (kyL l a) (kyL l k)
theorem wO.swap {a b i j : Nat} {l : List RecT} (h : wO a b i j l) (hij : i < j) (hb : b ≤ l.length) (h1 : leB (kyL l a) (kyL l i)) (h2 : leB (kyL l j) (kyL l a)) : wO a b (i + 1) (j - 1) (gU l i j) := by
  obtain ⟨q1, q2, q3, q4, q5, q6⟩ := h
  have hil : i < l.length := by omega
  have hjl : j < l.length := by omega
  have ea : kyL (gU l i j) a = kyL l a := by rw [jK hil hjl, if_neg (by omega), if_neg (by omega)]
  refine ⟨by omega, by omega, by omega, by omega, fun k k1 k2 => ?_, fun k k1 k2 => ?_⟩
  · rw [ea, jK hil hjl, if_neg (by omega)]
    by_cases e : k = i
    · rw [if_pos e]; exact h2
    · rw [if_neg e]; exact q5 k k1 (by omega)
  · rw [ea, jK hil hjl]
    by_cases e : k = j
    · rw [if_pos e]; exact h1
    · rw [if_neg e, if_neg (by omega)]; exact q6 k (by omega) k2
theorem wO.fin {a b i j : Nat} {l : List RecT} (h : wO a b i j l) (hij : j < i) (hb : b ≤ l.length) : pR a j b (gU l a j) := by
  obtain ⟨q1, q2, q3, q4, q5, q6⟩ := h
  have hal : a < l.length := by omega
  have hjl : j < l.length := by omega
  have ej : kyL (gU l a j) j = kyL l a := by rw [jK hal hjl, if_pos rfl]
  refine ⟨fun k k1 k2 => ?_, fun k k1 k2 => ?_⟩
  · rw [ej, jK hal hjl, if_neg (by omega)]
    by_cases e : k = a
    · rw [if_pos e]; exact q5 j (by omega) (by omega)
    · rw [if_neg e]; exact q5 k (by omega) (by omega)
  · rw [ej, jK hal hjl, if_neg (by omega), if_neg (by omega)]; exact q6 k k1 k2
theorem aDv {l : List RecT} {i j : Nat} (hi : i < l.length) (hj : j < l.length) : gU l i j = gU l j i := by
  refine List.ext_getElem? fun k => ?_
  have h : ∀ k, (gU l i j).getD k d0 = (gU l j i).getD k d0 := fun k => by
    rw [tL hi hj, tL hj hi]
    by_cases e1 : k = j
    · by_cases e2 : k = i
      · rw [if_pos e1, if_pos e2, ← e1, ← e2]
      · rw [if_pos e1, if_neg e2, if_pos e1]
    · rw [if_neg e1, if_neg e1]
  rcases Nat.lt_or_ge k l.length with hk | hk
  · have := h k
    rw [List.getD_eq_getElem?_getD, List.getD_eq_getElem?_getD, List.getElem?_eq_getElem (by rw [nF]; exact hk), List.getElem?_eq_getElem (by rw [nF]; exact hk)] at this
    rw [List.getElem?_eq_getElem (by rw [nF]; exact hk), List.getElem?_eq_getElem (by rw [nF]; exact hk)]
    exact congrArg some this
  · rw [List.getElem?_eq_none (by rw [nF]; exact hk), List.getElem?_eq_none (by rw [nF]; exact hk)]
theorem aGH : aI.L4 = aI.L1 := rfl
theorem aGI : aI.L5 = aI.L2 := rfl
theorem aAK (c : Ctx) (hd : c.drawn = false) (hf : c.envF 109 = bW.C) (A : SkT) (m : aY → Bool) (v : Nat) (l : List RecT) (T : List AObj) (n a j i0 : Nat) (hTn : OkT T) (hn : n = l.length) (ha : a < i0) (hj : j < n) (hij : i0 ≤ j + 1) (hr : roomy n)
    (J : AV → AV → AV → AV → AV → List AObj → Prop) (K : AOut → List AObj → Prop)
    (hJ : ∀ i : Nat, i0 ≤ i → i ≤ j + 1 → (∀ k, i0 ≤ k → k < i → leB (kyL l k) (kyL l a)) → (i ≤ j → leB (kyL l a) (kyL l i)) → J (.sref false 2 v 0 n) (.int .i64 a) hitF (.int .i64 i) (.int .i64 j) (.box A.V :: .map (.sb m) :: .row .own v (.recs l) :: T)) :
    aI.L1 c J K [.int .i64 i0] (.box A.V :: .map (.sb m) :: .row .own v (.recs l) :: T) (T.length + 1 + 1 + 1) (.sref false 2 v 0 n) (.int .i64 a) hitF (.int .i64 j) := by
  have hr' := hr
  unfold roomy at hr'
  have h2 : 2 < T.length + 1 + 1 + 1 := by omega
  unfold aI.L1
  refine lP (σ := Nat) (fun i => .int .i64 i) (fun s => .box A.V :: .map (.sb m) :: .row .own v (.recs l) :: T) (fun i => j + 1 - i) (fun i => i0 ≤ i ∧ i ≤ j + 1 ∧ ∀ k, i0 ≤ k → k < i → leB (kyL l k) (kyL l a)) i0 rfl rfl ⟨Nat.le_refl _, hij, fun k h1 h2 => by omega⟩ ?_
  rintro I back i ⟨hi1, hi2, hall⟩
  by_cases hle : i ≤ j
  · have d1 : decide ((i : Int) ≤ (j : Int)) = true := decide_eq_true (by omega)
    simp only [hTn _ _, SkT.norm, h2, aA, d1, hd, hf, Int.toNat_natCast, bW.C, iQ, iJ, jE, aA, gq, reduceEq, reduceLT, reduceLE, implies_true, reduceCtorEq, if_true, if_false, go_sem, reduceEqDiff, Nat.reduceLT, reduceAdd, reduceSub, reduceLeDiff, reduceReplicate, reduceToNat]
    refine ⟨⟨by omega, by omega⟩, by omega, ⟨by omega, by omega⟩, by omega, fun h => ?_, fun h => hJ i hi1 hi2 hall fun _ => by unfold leB; simpa using h⟩
    refine back (i + 1) (by omega) (by rw [fA (by omega)]) rfl ⟨by omega, by omega, fun k k1 k2 => ?_⟩
    by_cases e : k = i
    · subst e; exact qT h
    · exact hall k k1 (by omega)
  · have d1 : decide ((i : Int) ≤ (j : Int)) = false := decide_eq_false (by omega)
    simp only [hTn _ _, SkT.norm, h2, aA, d1, aA, gq, reduceEq, reduceLT, reduceLE, implies_true, reduceCtorEq, if_true, if_false, go_sem, reduceEqDiff, Nat.reduceLT, reduceAdd, reduceSub, reduceLeDiff, reduceReplicate, reduceToNat]
    exact hJ i hi1 hi2 hall fun h => absurd h hle
theorem yB (c : Ctx) (hd : c.drawn = false) (hf : c.envF 109 = bW.C) (A : SkT) (m : aY → Bool) (v : Nat) (l : List RecT) (T : List AObj) (n a i j0 : Nat) (hTn : OkT T) (hn : n = l.length) (ha : a < i) (hj : j0 < n) (hij : i ≤ j0 + 1) (hr : roomy n)
    (J : AV → AV → AV → AV → AV → List AObj → Prop) (K : AOut → List AObj → Prop)
    (hJ : ∀ j : Nat, j ≤ j0 → i ≤ j + 1 → (∀ k, j < k → k ≤ j0 → leB (kyL l a) (kyL l k)) → (i ≤ j → ltB (kyL l j) (kyL l a) = true) → J (.sref false 2 v 0 n) (.int .i64 a) hitF (.int .i64 i) (.int .i64 j) (.box A.V :: .map (.sb m) :: .row .own v (.recs l) :: T)) :
    aI.L2 c J K [.int .i64 j0] (.box A.V :: .map (.sb m) :: .row .own v (.recs l) :: T) (T.length + 1 + 1 + 1) (.sref false 2 v 0 n) (.int .i64 a) hitF (.int .i64 i) := by
  have hr' := hr
  unfold roomy at hr'
  have h2 : 2 < T.length + 1 + 1 + 1 := by omega
  unfold aI.L2
  refine lP (σ := Nat) (fun i => .int .i64 i) (fun s => .box A.V :: .map (.sb m) :: .row .own v (.recs l) :: T) (fun j => j) (fun j => j ≤ j0 ∧ i ≤ j + 1 ∧ ∀ k, j < k → k ≤ j0 → leB (kyL l a) (kyL l k)) j0 rfl rfl ⟨Nat.le_refl _, hij, fun k h1 h2 => by omega⟩ ?_
  rintro I back j ⟨hj1, hj2, hall⟩
  by_cases hle : i ≤ j
  · have d1 : decide ((i : Int) ≤ (j : Int)) = true := decide_eq_true (by omega)
    have e1 : IntKind.i64.wrap ((j : Int) - 1) = ((j - 1 : Nat) : Int) := by rw [w64 (by omega) (by omega)]; omega
    simp only [hTn _ _, SkT.norm, h2, aA, d1, e1, hd, hf, Int.toNat_natCast, bW.C, iQ, iJ, jE, aA, gq, reduceEq, reduceLT, reduceLE, implies_true, reduceCtorEq, if_true, if_false, go_sem, reduceEqDiff, Nat.reduceLT, reduceAdd, reduceSub, reduceLeDiff, reduceReplicate, reduceToNat]
    refine ⟨⟨by omega, by omega⟩, by omega, ⟨by omega, by omega⟩, by omega, ?_⟩
    cases hlt : ltB (kyL l j) (kyL l a) with
    | false =>
      simp only [aA, gq, reduceEq, reduceLT, reduceLE, implies_true, reduceCtorEq, if_true, if_false, go_sem, reduceEqDiff, Nat.reduceLT, reduceAdd, reduceSub, reduceLeDiff, reduceReplicate, reduceToNat]
      refine back (j - 1) (by omega) rfl rfl ⟨by omega, by omega, fun k k1 k2 => ?_⟩
      by_cases e : k = j
      · subst e; exact hlt
      · exact hall k (by omega) k2
    | true =>
      simp only [aA, gq, reduceEq, reduceLT, reduceLE, implies_true, reduceCtorEq, if_true, if_false, go_sem, reduceEqDiff, Nat.reduceLT, reduceAdd, reduceSub, reduceLeDiff, reduceReplicate, reduceToNat]
      exact hJ j hj1 hj2 hall fun _ => hlt
  · have d1 : decide ((i : Int) ≤ (j : Int)) = false := decide_eq_false (by omega)
    simp only [hTn _ _, SkT.norm, h2, aA, d1, aA, gq, reduceEq, reduceLT, reduceLE, implies_true, reduceCtorEq, if_true, if_false, go_sem, reduceEqDiff, Nat.reduceLT, reduceAdd, reduceSub, reduceLeDiff, reduceReplicate, reduceToNat]
    exact hJ j hj1 hj2 hall fun h => absurd h hle
theorem aHL (A : SkT) (m : aY → Bool) (v : Nat) (l : List RecT) (T : List AObj) (hTn : OkT T) (n a b p : Nat) (hn : n = l.length) (hab : a + 1 < b) (hbn : b ≤ n) (hp : a ≤ p) (hpb : p < b) (hr : roomy n) (K : AOut → List AObj → Prop)
    (hK : ∀ l' q al, SegP a b l l' → a ≤ q → q < b → pR a q b l' → K (.ret (.tup [.int .i64 q, .bool al])) (hpS A m v l' T)) :
    aI.K [.sref false 2 v 0 n, .int .i64 a, .int .i64 b, .int .i64 p, hitF] (hpS A m v l T) K := by
  have hr' := hr
  unfold roomy at hr'
  have h2 : 2 < T.length + 1 + 1 + 1 := by omega
  have e1 : IntKind.i64.wrap ((b : Int) - 1) = ((b - 1 : Nat) : Int) := by rw [w64 (by omega) (by omega)]; omega
  unfold aI.K aI.H
  simp only [hpS, hTn _ _, SkT.norm, h2, e1, fA (show a < 4611686018427387904 by omega), aA, Int.toNat_natCast, iQ, iJ, jO, iM, List.length_set, aA, gq, reduceEq, reduceLT, reduceLE, implies_true, reduceCtorEq, if_true, if_false, go_sem, reduceEqDiff, Nat.reduceLT, reduceAdd, reduceSub, reduceLeDiff, reduceReplicate, reduceToNat] at hK ⊢
  refine ⟨⟨by omega, by omega⟩, by omega, ⟨by omega, by omega⟩, by omega, ⟨by omega, by omega⟩, by omega, ⟨by omega, by omega⟩, by omega, ?_⟩
  have hp1 : SegP a b l (gU l a p) := SegP.swap (by omega) (by omega) (by omega) (by omega) (by omega)
  generalize gU l a p = l1 at *
  have hl1 := hp1.len
  refine aAK _ rfl rfl A m v l1 T n a (b - 1) (a + 1) hTn (by omega) (by omega) (by omega) (by omega) hr _ _ fun i hi1 hi2 hi3 hi4 => ?_
  simp only [hTn _ _, SkT.norm, h2, aA, gq, reduceEq, reduceLT, reduceLE, implies_true, reduceCtorEq, if_true, if_false, go_sem, reduceEqDiff, Nat.reduceLT, reduceAdd, reduceSub, reduceLeDiff, reduceReplicate, reduceToNat]
  refine yB _ rfl rfl A m v l1 T n a i (b - 1) hTn (by omega) (by omega) (by omega) (by omega) hr _ _ fun j hj1 hj2 hj3 hj4 => ?_
  have hS : wO a b i j l1 := ⟨hi1, hj2, by omega, by omega, fun k k1 k2 => hi3 k (by omega) k2, fun k k1 k2 => hj3 k k1 (by omega)⟩
  have e2 : j ≠ 0 → IntKind.i64.wrap ((j : Int) - 1) = ((j - 1 : Nat) : Int) := fun h => by rw [w64 (by omega) (by omega)]; omega
  simp only [hTn _ _, SkT.norm, h2, fA (show i < 4611686018427387904 by omega), aA, Int.toNat_natCast, iQ, iJ, jO, iM, List.length_set, aA, gq, reduceEq, reduceLT, reduceLE, implies_true, reduceCtorEq, if_true, if_false, go_sem, reduceEqDiff, Nat.reduceLT, reduceAdd, reduceSub, reduceLeDiff, reduceReplicate, reduceToNat]
  refine ⟨fun hgt => ⟨⟨by omega, by omega⟩, by omega, ⟨by omega, by omega⟩, by omega, ⟨by omega, by omega⟩, by omega, ⟨by omega, by omega⟩, by omega, ?_⟩, fun hle => ⟨⟨by omega, by omega⟩, by omega, ⟨by omega, by omega⟩, by omega, ⟨by omega, by omega⟩, by omega, ⟨by omega, by omega⟩, by omega, ?_⟩⟩
  · rw [aDv (by omega) (by omega)]
    exact hK _ j true (hp1.trans (SegP.swap (by omega) (by omega) (by omega) (by omega) (by omega))) (by omega) (by omega) (hS.fin (by omega) (by omega))
  have hij : i < j := by
    rcases Nat.lt_or_ge i j with h | h
    · exact h
    · exfalso
      obtain rfl : i = j := by omega
      have := hj4 (Nat.le_refl _)
      have h' := hi4 (by omega)
      unfold leB at h'
      rw [this] at h'; cases h'
  have hS2 := hS.swap hij (by omega) (hi4 (by omega)) (qT (hj4 (by omega)))
  have hp2 : SegP a b l (gU l1 i j) := hp1.trans (SegP.swap (by omega) (by omega) (by omega) (by omega) (by omega))
  generalize gU l1 i j = l2 at *
  rw [e2 (by omega)]
  unfold aI.L3
  refine qD (σ := List RecT × Nat × Nat) (fun s => .int .i64 s.2.1) (fun s => .int .i64 s.2.2) (fun s => .box A.V :: .map (.sb m) :: .row .own v (.recs s.1) :: T) (fun s => s.2.2) (fun s => SegP a b l s.1 ∧ wO a b s.2.1 s.2.2 s.1) (l2, i + 1, j - 1) rfl rfl ⟨hp2, hS2⟩ ?_
  rintro I back ⟨l3, i3, j3⟩ ⟨hp3, q1, q2, q3, q4, q5, q6⟩
  simp only at hp3 q1 q2 q3 q4 q5 q6 ⊢
  have hl3 := hp3.len
  simp only [hTn _ _, SkT.norm, h2, aA, aGH, aGI, aA, gq, reduceEq, reduceLT, reduceLE, implies_true, reduceCtorEq, if_true, if_false, go_sem, reduceEqDiff, Nat.reduceLT, reduceAdd, reduceSub, reduceLeDiff, reduceReplicate, reduceToNat]
  refine aAK _ rfl rfl A m v l3 T n a j3 i3 hTn (by omega) (by omega) (by omega) (by omega) hr _ _ fun i4 g1 g2 g3 g4 => ?_
  simp only [hTn _ _, SkT.norm, h2, aA, gq, reduceEq, reduceLT, reduceLE, implies_true, reduceCtorEq, if_true, if_false, go_sem, reduceEqDiff, Nat.reduceLT, reduceAdd, reduceSub, reduceLeDiff, reduceReplicate, reduceToNat]
  refine yB _ rfl rfl A m v l3 T n a i4 j3 hTn (by omega) (by omega) (by omega) (by omega) hr _ _ fun j4 k1 k2 k3 k4 => ?_
  have hS4 : wO a b i4 j4 l3 := ⟨by omega, k2, by omega, by omega, fun k z1 z2 => by
    by_cases e : k < i3
    · exact q5 k z1 e
    · exact g3 k (by omega) z2, fun k z1 z2 => by
    by_cases e : j3 < k
    · exact q6 k e z2
    · exact k3 k z1 (by omega)⟩
  have e4 : j4 ≠ 0 → IntKind.i64.wrap ((j4 : Int) - 1) = ((j4 - 1 : Nat) : Int) := fun h => by rw [w64 (by omega) (by omega)]; omega
  simp only [hTn _ _, SkT.norm, h2, fA (show i4 < 4611686018427387904 by omega), aA, Int.toNat_natCast, iQ, iJ, jO, iM, List.length_set, aA, gq, reduceEq, reduceLT, reduceLE, implies_true, reduceCtorEq, if_true, if_false, go_sem, reduceEqDiff, Nat.reduceLT, reduceAdd, reduceSub, reduceLeDiff, reduceReplicate, reduceToNat]
  refine ⟨fun hgt => ⟨⟨by omega, by omega⟩, by omega, ⟨by omega, by omega⟩, by omega, ⟨by omega, by omega⟩, by omega, ⟨by omega, by omega⟩, by omega, ?_⟩, fun hle => ⟨⟨by omega, by omega⟩, by omega, ⟨by omega, by omega⟩, by omega, ⟨by omega, by omega⟩, by omega, ⟨by omega, by omega⟩, by omega, ?_⟩⟩
  · rw [aDv (by omega) (by omega)]
    exact hK _ j4 false (hp3.trans (SegP.swap (by omega) (by omega) (by omega) (by omega) (by omega))) (by omega) (by omega) (hS4.fin (by omega) (by omega))
  · have hij4 : i4 < j4 := by
      rcases Nat.lt_or_ge i4 j4 with h | h
      · exact h
      · exfalso
        obtain rfl : i4 = j4 := by omega
        have := k4 (Nat.le_refl _)
        have h' := g4 (by omega)
        unfold leB at h'
        rw [this] at h'; cases h'
    rw [e4 (by omega)]
    exact back (gU l3 i4 j4, i4 + 1, j4 - 1) (by simp only; omega) rfl rfl ⟨hp3.trans (SegP.swap (by omega) (by omega) (by omega) (by omega) (by omega)), hS4.swap hij4 (by omega) (g4 (by omega)) (qT (k4 (by omega)))⟩
end Lam
namespace Lam
open Go Go.Proofs
def aW.K : Con := fun args h K => match args with
  | [a0, a1, a2, a3] => aW.H (ctx [] [] aW.loops) a0 a1 a2 a3 h K
  | _ => False
theorem aW.spec : cP Tryz.prog 130 aW.K := by
  refine cP.of (bP (F := []) (S := []) (by simp) (by simp) aW.loops) aW.at aW.nm aW.bd ?_
  intro args h K hC
  unfold aW.K at hC
  split at hC
  · rw [aW.eq]; exact hC
  · exact hC.elim
theorem aKV (A : SkT) (m : aY → Bool) (v : Nat) (l : List RecT) (T : List AObj) (hTn : OkT T) (n a b : Nat) (hn : n = l.length) (hab : a < b) (hbn : b ≤ n) (hr : roomy n) (K : AOut → List AObj → Prop)
    (hK : ∀ l', SegP a b l l' → K (.ret (.tup [])) (hpS A m v l' T)) :
    aW.K [.sref false 2 v 0 n, .int .i64 a, .int .i64 b, hitF] (hpS A m v l T) K := by
  have hr' := hr
  unfold roomy at hr'
  have h2 : 2 < T.length + 1 + 1 + 1 := by omega
  have e1 : IntKind.i64.wrap ((b : Int) - 1) = ((b - 1 : Nat) : Int) := by rw [w64 (by omega) (by omega)]; omega
  unfold aW.K aW.H
  simp only [hpS, hTn _ _, SkT.norm, h2, e1, aA, gq, reduceEq, reduceLT, reduceLE, implies_true, reduceCtorEq, if_true, if_false, go_sem, reduceEqDiff, Nat.reduceLT, reduceAdd, reduceSub, reduceLeDiff, reduceReplicate, reduceToNat] at hK ⊢
  unfold aW.L1
  refine qD (σ := List RecT × Nat × Nat) (fun s => .int .i64 s.2.1) (fun s => .int .i64 s.2.2) (fun s => .box A.V :: .map (.sb m) :: .row .own v (.recs s.1) :: T) (fun s => s.2.2) (fun s => a ≤ s.2.1 ∧ s.2.2 < b ∧ s.2.1 ≤ n ∧ SegP a b l s.1) (l, a, b - 1) rfl rfl ⟨Nat.le_refl _, by simp only; omega, by simp only; omega, SegP.refl⟩ ?_
  rintro I back ⟨l1, i, j⟩ ⟨hi, hj, hin, hp⟩
  simp only at hi hj hin hp ⊢
  have hl1 := hp.len
  by_cases hij : i < j
  · have e2 : IntKind.i64.wrap ((j : Int) - 1) = ((j - 1 : Nat) : Int) := by rw [w64 (by omega) (by omega)]; omega
    have d1 : decide ((i : Int) < (j : Int)) = true := decide_eq_true (by omega)
    simp only [hTn _ _, SkT.norm, h2, aA, d1, e2, fA (show i < 4611686018427387904 by omega), Int.toNat_natCast, iQ, jO, iM, List.length_set, aA, gq, reduceEq, reduceLT, reduceLE, implies_true, reduceCtorEq, if_true, if_false, go_sem, reduceEqDiff, Nat.reduceLT, reduceAdd, reduceSub, reduceLeDiff, reduceReplicate, reduceToNat]
    exact ⟨⟨by omega, by omega⟩, by omega, ⟨by omega, by omega⟩, by omega, ⟨by omega, by omega⟩, by omega, ⟨by omega, by omega⟩, by omega, back (gU l1 i j, i + 1, j - 1) (by simp only; omega) rfl rfl ⟨by simp only; omega, by simp only; omega, by simp only; omega, hp.trans (SegP.swap (by omega) (by omega) (by omega) (by omega) (by omega))⟩⟩
  · have d1 : decide ((i : Int) < (j : Int)) = false := decide_eq_false (by omega)
    simp only [hTn _ _, SkT.norm, h2, aA, d1, aA, gq, reduceEq, reduceLT, reduceLE, implies_true, reduceCtorEq, if_true, if_false, go_sem, reduceEqDiff, Nat.reduceLT, reduceAdd, reduceSub, reduceLeDiff, reduceReplicate, reduceToNat]
    exact hK l1 hp
def bG.K : Con := fun args h K => match args with
  | [a0, a1, a2, a3, a4] => bG.H (ctx [(109, bW.C)] [] bG.loops) a0 a1 a2 a3 a4 h K
  | _ => False
theorem bG.spec : cP Tryz.prog 142 bG.K := by
  refine cP.of (bP (F := [(109, bW.C)]) (S := []) (by simpa using bW.spec) (by simp) bG.loops) bG.at bG.nm bG.bd ?_
  intro args h K hC
  unfold bG.K at hC
  split at hC
  · rw [bG.eq]; exact hC
  · exact hC.elim
theorem aKW (A : SkT) (m : aY → Bool) (v : Nat) (l : List RecT) (T : List AObj) (hTn : OkT T) (n lo hi a : Nat) (hn : n = l.length) (hlo : lo ≤ n) (hah : a + hi ≤ n) (hr : roomy n) (hh : qE a (lo + 1) hi l) (K : AOut → List AObj → Prop)
    (hK : ∀ l', SegP a (a + hi) l l' → qE a lo hi l' → K (.ret (.tup [])) (hpS A m v l' T)) :
    bG.K [.sref false 2 v 0 n, .int .i64 lo, .int .i64 hi, .int .i64 a, hitF] (hpS A m v l T) K := by
  have hr' := hr
  unfold roomy at hr'
  have h2 : 2 < T.length + 1 + 1 + 1 := by omega
  unfold bG.K bG.H
  simp only [hpS, hTn _ _, SkT.norm, h2, aA, gq, reduceEq, reduceLT, reduceLE, implies_true, reduceCtorEq, if_true, if_false, go_sem, reduceEqDiff, Nat.reduceLT, reduceAdd, reduceSub, reduceLeDiff, reduceReplicate, reduceToNat] at hK ⊢
  unfold bG.L1
  refine lP (σ := List RecT × Nat) (fun s => .int .i64 s.2) (fun s => .box A.V :: .map (.sb m) :: .row .own v (.recs s.1) :: T) (fun s => n + 1 - s.2) (fun s => lo ≤ s.2 ∧ s.2 ≤ n ∧ SegP a (a + hi) l s.1 ∧ uR a lo s.2 hi s.1) (l, lo) rfl rfl ⟨Nat.le_refl _, hlo, SegP.refl, uR.begin hh⟩ ?_
  rintro I back ⟨l1, r⟩ ⟨hr1, hr2, hp, hs⟩
  simp only at hr1 hr2 hp hs ⊢
  have hl1 := hp.len
  have e1 : IntKind.i64.wrap (2 * (r : Int)) = ((2 * r : Nat) : Int) := by rw [w64 (by omega) (by omega)]; omega
  have e2 : ∀ k : Nat, k ≤ 4 * n + 4 → IntKind.i64.wrap ((a : Int) + (k : Int)) = ((a + k : Nat) : Int) := fun k hk => by rw [w64 (by omega) (by omega)]; omega
  simp only [hTn _ _, SkT.norm, h2, aA, e1, fA (show 2 * r < 4611686018427387904 by omega), fA (show 2 * r + 1 < 4611686018427387904 by omega), e2 (2 * r + 1) (by omega), e2 r (by omega), fA (show a + (2 * r + 1) < 4611686018427387904 by omega), aA, gq, reduceEq, reduceLT, reduceLE, implies_true, reduceCtorEq, if_true, if_false, go_sem, reduceEqDiff, Nat.reduceLT, reduceAdd, reduceSub, reduceLeDiff, reduceReplicate, reduceToNat]
  refine ⟨fun hge => hK l1 hp (hs.done fun c hc hch => by omega), fun hlt => ?_⟩
  have e3 : ∀ c : Nat, c ≤ 2 * r + 2 → IntKind.i64.wrap ((a : Int) + (c : Int)) = ((a + c : Nat) : Int) := fun c hc => e2 c (by omega)
  have hfin : ∀ c : Nat, (c = 2 * r + 1 ∨ c = 2 * r + 2) → c < hi → (∀ d, (d = 2 * r + 1 ∨ d = 2 * r + 2) → d < hi → leB (kyL l1 (a + d)) (kyL l1 (a + c))) → ltB (kyL l1 (a + r)) (kyL l1 (a + c)) = true →
      ∃ m_1, m_1 < n + 1 - r ∧ I m_1 [.int .i64 c] (.box A.V :: .map (.sb m) :: .row .own v (.recs (gU l1 (a + r) (a + c))) :: T) := fun c h1 h3 h4 h5 =>
    back (gU l1 (a + r) (a + c), c) (by simp only; omega) rfl rfl ⟨by simp only; omega, by simp only; omega, hp.trans (SegP.swap (by omega) (by omega) (by omega) (by omega) (by omega)), hs.step hr1 h1 h3 (by omega) (qT h5) h4⟩
  have hstop : ∀ c : Nat, (c = 2 * r + 1 ∨ c = 2 * r + 2) → c < hi → (∀ d, (d = 2 * r + 1 ∨ d = 2 * r + 2) → d < hi → leB (kyL l1 (a + d)) (kyL l1 (a + c))) → ltB (kyL l1 (a + r)) (kyL l1 (a + c)) = false → qE a lo hi l1 := fun c h1 h3 h4 h5 =>
    hs.done fun d q1 q2 => tK (h4 d q1 q2) h5
  by_cases h22 : 2 * r + 2 < hi
  rotate_left
  · have d1 : decide (((2 * r + 1 + 1 : Nat) : Int) < (hi : Int)) = false := decide_eq_false (by omega)
    have hle : ∀ d, (d = 2 * r + 1 ∨ d = 2 * r + 2) → d < hi → leB (kyL l1 (a + d)) (kyL l1 (a + (2 * r + 1))) := fun d q1 q2 => by
      obtain rfl : d = 2 * r + 1 := by omega
      exact zA _
    cases hlt2 : ltB (kyL l1 (a + r)) (kyL l1 (a + (2 * r + 1))) with
    | false =>
      simp only [hTn _ _, SkT.norm, h2, aA, d1, hlt2, e3 (2 * r + 1) (by omega), Int.toNat_natCast, bW.C, iQ, iJ, jE, jO, iM, List.length_set, aA, gq, reduceEq, reduceLT, reduceLE, implies_true, reduceCtorEq, if_true, if_false, go_sem, reduceEqDiff, Nat.reduceLT, reduceAdd, reduceSub, reduceLeDiff, reduceReplicate, reduceToNat]
      exact ⟨⟨by omega, by omega⟩, by omega, ⟨by omega, by omega⟩, by omega, hK l1 hp (hstop _ (.inl rfl) (by omega) hle hlt2)⟩
    | true =>
      simp only [hTn _ _, SkT.norm, h2, aA, d1, hlt2, e3 (2 * r + 1) (by omega), Int.toNat_natCast, bW.C, iQ, iJ, jE, jO, iM, List.length_set, aA, gq, reduceEq, reduceLT, reduceLE, implies_true, reduceCtorEq, if_true, if_false, go_sem, reduceEqDiff, Nat.reduceLT, reduceAdd, reduceSub, reduceLeDiff, reduceReplicate, reduceToNat]
      exact ⟨⟨by omega, by omega⟩, by omega, ⟨by omega, by omega⟩, by omega, ⟨by omega, by omega⟩, by omega, ⟨by omega, by omega⟩, by omega, ⟨by omega, by omega⟩, by omega, ⟨by omega, by omega⟩, by omega, hfin _ (.inl rfl) (by omega) hle hlt2⟩
  · have d1 : decide (((2 * r + 1 + 1 : Nat) : Int) < (hi : Int)) = true := decide_eq_true (by omega)
    cases hch : ltB (kyL l1 (a + (2 * r + 1))) (kyL l1 (a + (2 * r + 1) + 1)) with
    | false =>
      have hle : ∀ d, (d = 2 * r + 1 ∨ d = 2 * r + 2) → d < hi → leB (kyL l1 (a + d)) (kyL l1 (a + (2 * r + 1))) := fun d q1 q2 => by
        rcases q1 with rfl | rfl
        · exact zA _
        · exact hch
      cases hlt2 : ltB (kyL l1 (a + r)) (kyL l1 (a + (2 * r + 1))) with
      | false =>
        simp only [hTn _ _, SkT.norm, h2, aA, d1, hch, hlt2, e3 (2 * r + 1) (by omega), Int.toNat_natCast, bW.C, iQ, iJ, jE, jO, iM, List.length_set, aA, gq, reduceEq, reduceLT, reduceLE, implies_true, reduceCtorEq, if_true, if_false, go_sem, reduceEqDiff, Nat.reduceLT, reduceAdd, reduceSub, reduceLeDiff, reduceReplicate, reduceToNat]
        exact ⟨⟨by omega, by omega⟩, by omega, ⟨by omega, by omega⟩, by omega, ⟨by omega, by omega⟩, by omega, ⟨by omega, by omega⟩, by omega, hK l1 hp (hstop _ (.inl rfl) (by omega) hle hlt2)⟩
      | true =>
        simp only [hTn _ _, SkT.norm, h2, aA, d1, hch, hlt2, e3 (2 * r + 1) (by omega), Int.toNat_natCast, bW.C, iQ, iJ, jE, jO, iM, List.length_set, aA, gq, reduceEq, reduceLT, reduceLE, implies_true, reduceCtorEq, if_true, if_false, go_sem, reduceEqDiff, Nat.reduceLT, reduceAdd, reduceSub, reduceLeDiff, reduceReplicate, reduceToNat]
        exact ⟨⟨by omega, by omega⟩, by omega, ⟨by omega, by omega⟩, by omega, ⟨by omega, by omega⟩, by omega, ⟨by omega, by omega⟩, by omega, ⟨by omega, by omega⟩, by omega, ⟨by omega, by omega⟩, by omega, ⟨by omega, by omega⟩, by omega, ⟨by omega, by omega⟩, by omega, hfin _ (.inl rfl) (by omega) hle hlt2⟩
    | true =>
      have hle : ∀ d, (d = 2 * r + 1 ∨ d = 2 * r + 2) → d < hi → leB (kyL l1 (a + d)) (kyL l1 (a + (2 * r + 1 + 1))) := fun d q1 q2 => by
        rcases q1 with rfl | rfl
        · exact qT hch
        · exact zA _
      cases hlt2 : ltB (kyL l1 (a + r)) (kyL l1 (a + (2 * r + 1 + 1))) with
      | false =>
        simp only [hTn _ _, SkT.norm, h2, aA, d1, hch, hlt2, e3 (2 * r + 1 + 1) (by omega), Int.toNat_natCast, bW.C, iQ, iJ, jE, jO, iM, List.length_set, aA, gq, reduceEq, reduceLT, reduceLE, implies_true, reduceCtorEq, if_true, if_false, go_sem, reduceEqDiff, Nat.reduceLT, reduceAdd, reduceSub, reduceLeDiff, reduceReplicate, reduceToNat]
        exact ⟨⟨by omega, by omega⟩, by omega, ⟨by omega, by omega⟩, by omega, ⟨by omega, by omega⟩, by omega, ⟨by omega, by omega⟩, by omega, hK l1 hp (hstop _ (.inr rfl) (by omega) hle hlt2)⟩
      | true =>
        simp only [hTn _ _, SkT.norm, h2, aA, d1, hch, hlt2, e3 (2 * r + 1 + 1) (by omega), Int.toNat_natCast, bW.C, iQ, iJ, jE, jO, iM, List.length_set, aA, gq, reduceEq, reduceLT, reduceLE, implies_true, reduceCtorEq, if_true, if_false, go_sem, reduceEqDiff, Nat.reduceLT, reduceAdd, reduceSub, reduceLeDiff, reduceReplicate, reduceToNat]
        exact ⟨⟨by omega, by omega⟩, by omega, ⟨by omega, by omega⟩, by omega, ⟨by omega, by omega⟩, by omega, ⟨by omega, by omega⟩, by omega, ⟨by omega, by omega⟩, by omega, ⟨by omega, by omega⟩, by omega, ⟨by omega, by omega⟩, by omega, ⟨by omega, by omega⟩, by omega, hfin _ (.inr rfl) (by omega) hle hlt2⟩
def bA.K : Con := fun args h K => match args with
  | [a0, a1, a2, a3] => bA.H (ctx [] [(142, bG.K)] bA.loops) a0 a1 a2 a3 h K
  | _ => False
theorem bA.spec : cP Tryz.prog 127 bA.K := by
  refine cP.of (bP (F := []) (S := [(142, bG.K)]) (by simp) (by simpa using bG.spec) bA.loops) bA.at bA.nm bA.bd ?_
  intro args h K hC
  unfold bA.K at hC
  split at hC
  · rw [bA.eq]; exact hC
  · exact hC.elim
theorem aOo (A : SkT) (m : aY → Bool) (v : Nat) (l : List RecT) (T : List AObj) (hTn : OkT T) (n a b : Nat) (hn : n = l.length) (hab : a < b) (hbn : b ≤ n) (hr : roomy n) (K : AOut → List AObj → Prop)
    (hK : ∀ l', SegP a b l l' → SegS a b l' → K (.ret (.tup [])) (hpS A m v l' T)) :
    bA.K [.sref false 2 v 0 n, .int .i64 a, .int .i64 b, hitF] (hpS A m v l T) K := by
  have hr' := hr
  unfold roomy at hr'
  have h2 : 2 < T.length + 1 + 1 + 1 := by omega
  have e0 : IntKind.i64.wrap ((b : Int) - a) = ((b - a : Nat) : Int) := by rw [w64 (by omega) (by omega)]; omega
  have e1 : IntKind.i64.wrap (((b - a : Nat) : Int) - 1) = ((b - a - 1 : Nat) : Int) := by rw [w64 (by omega) (by omega)]; omega
  have e2 : IntKind.i64.wrap (((b - a - 1 : Nat) : Int).tdiv 2) = (((b - a - 1) / 2 + 1 : Nat) : Int) - 1 := by
    rw [Int.tdiv_eq_ediv_of_nonneg (by omega), w64 (by omega) (by omega)]; omega
  unfold bA.K bA.H
  simp only [hpS, hTn _ _, SkT.norm, h2, e0, e1, e2, aA, gq, reduceEq, reduceLT, reduceLE, implies_true, reduceCtorEq, if_true, if_false, go_sem, reduceEqDiff, Nat.reduceLT, reduceAdd, reduceSub, reduceLeDiff, reduceReplicate, reduceToNat] at hK ⊢
  unfold bA.L1
  refine lP (σ := List RecT × Nat) (fun s => .int .i64 ((s.2 : Int) - 1)) (fun s => .box A.V :: .map (.sb m) :: .row .own v (.recs s.1) :: T) (fun s => s.2) (fun s => s.2 ≤ n ∧ SegP a b l s.1 ∧ qE a s.2 (b - a) s.1) (l, (b - a - 1) / 2 + 1) rfl rfl ⟨by simp only; omega, SegP.refl, fun i c q1 q2 q3 => by simp only at q1; omega⟩ ?_
  rintro I back ⟨l1, k⟩ ⟨hk, hp, hh⟩
  simp only at hk hp hh ⊢
  have hl1 := hp.len
  have e3 : IntKind.i64.wrap ((k : Int) - 1 - 1) = ((k - 1 : Nat) : Int) - 1 ∨ k = 0 := by
    rcases Nat.eq_zero_or_pos k with h | h
    · exact .inr h
    · left; rw [w64 (by omega) (by omega)]; omega
  by_cases hk0 : k = 0
  rotate_left
  · have e3 := e3.resolve_right hk0
    have d1 : decide ((0 : Int) ≤ (k : Int) - 1) = true := decide_eq_true (by omega)
    have e4 : (k : Int) - 1 = ((k - 1 : Nat) : Int) := by omega
    rw [e4] at e3 d1 ⊢
    simp only [hTn _ _, SkT.norm, h2, aA, d1, aA, gq, reduceEq, reduceLT, reduceLE, implies_true, reduceCtorEq, if_true, if_false, go_sem, reduceEqDiff, Nat.reduceLT, reduceAdd, reduceSub, reduceLeDiff, reduceReplicate, reduceToNat]
    refine aKW A m v l1 T hTn n (k - 1) (b - a) a (by omega) (by omega) (by omega) hr (by rw [show k - 1 + 1 = k by omega]; exact hh) _ fun l2 p2 h2' => ?_
    simp only [hpS, hTn _ _, SkT.norm, h2, e3, aA, gq, reduceEq, reduceLT, reduceLE, implies_true, reduceCtorEq, if_true, if_false, go_sem, reduceEqDiff, Nat.reduceLT, reduceAdd, reduceSub, reduceLeDiff, reduceReplicate, reduceToNat]
    exact back (l2, k - 1) (by simp only; omega) rfl rfl ⟨by simp only; omega, hp.trans (p2.mono (Nat.le_refl _) (by omega)), h2'⟩
  subst hk0
  have e5 : IntKind.i64.wrap (((b - a : Nat) : Int) - 1) = ((b - a : Nat) : Int) - 1 := w64 (by omega) (by omega)
  simp only [hTn _ _, SkT.norm, h2, aA, e5, aA, gq, reduceEq, reduceLT, reduceLE, implies_true, reduceCtorEq, if_true, if_false, go_sem, reduceEqDiff, Nat.reduceLT, reduceAdd, reduceSub, reduceLeDiff, reduceReplicate, reduceToNat]
  refine ⟨fun h => absurd h (by omega), fun _ => ?_⟩
  unfold bA.L2
  refine lP (σ := List RecT × Nat) (fun s => .int .i64 ((s.2 : Int) - 1)) (fun s => .box A.V :: .map (.sb m) :: .row .own v (.recs s.1) :: T) (fun s => s.2) (fun s => s.2 ≤ b - a ∧ SegP a b l s.1 ∧ qF a s.2 b s.1) (l1, b - a) rfl rfl ⟨Nat.le_refl _, hp, qF.begin (by omega) hh⟩ ?_
  rintro I2 back2 ⟨l2, k⟩ ⟨hk, hp2, hd⟩
  simp only at hk hp2 hd ⊢
  have hl2 := hp2.len
  by_cases hk0 : k = 0
  · subst hk0
    simp only [hTn _ _, SkT.norm, h2, aA, aA, gq, reduceEq, reduceLT, reduceLE, implies_true, reduceCtorEq, if_true, if_false, go_sem, reduceEqDiff, Nat.reduceLT, reduceAdd, reduceSub, reduceLeDiff, reduceReplicate, reduceToNat]
    exact ⟨fun h => absurd h (by omega), fun _ => hK l2 hp2 hd.fin⟩
  · have d1 : decide ((0 : Int) ≤ (k : Int) - 1) = true := decide_eq_true (by omega)
    have e3 : IntKind.i64.wrap ((k : Int) - 1 - 1) = ((k - 1 : Nat) : Int) - 1 := by rw [w64 (by omega) (by omega)]; omega
    have e4 : (k : Int) - 1 = ((k - 1 : Nat) : Int) := by omega
    have e6 : IntKind.i64.wrap ((a : Int) + ((k - 1 : Nat) : Int)) = ((a + (k - 1) : Nat) : Int) := by rw [w64 (by omega) (by omega)]; omega
    rw [e4] at e3 d1 ⊢
    have hd' : qF a (k - 1 + 1) b l2 := by rw [show k - 1 + 1 = k by omega]; exact hd
    simp only [hTn _ _, SkT.norm, h2, aA, d1, e6, Int.toNat_natCast, iQ, jO, iM, List.length_set, aA, gq, reduceEq, reduceLT, reduceLE, implies_true, reduceCtorEq, if_true, if_false, go_sem, reduceEqDiff, Nat.reduceLT, reduceAdd, reduceSub, reduceLeDiff, reduceReplicate, reduceToNat]
    refine ⟨⟨by omega, by omega⟩, by omega, ⟨by omega, by omega⟩, by omega, ⟨by omega, by omega⟩, by omega, ⟨by omega, by omega⟩, by omega, ?_⟩
    refine aKW A m v (gU l2 a (a + (k - 1))) T hTn n 0 (k - 1) a (by rw [nF]; omega) (Nat.zero_le _) (by omega) hr (hd'.heap (by omega) (by omega)) _ fun l3 p3 h3 => ?_
    simp only [hpS, hTn _ _, SkT.norm, h2, e3, aA, gq, reduceEq, reduceLT, reduceLE, implies_true, reduceCtorEq, if_true, if_false, go_sem, reduceEqDiff, Nat.reduceLT, reduceAdd, reduceSub, reduceLeDiff, reduceReplicate, reduceToNat]
    exact back2 (l3, k - 1) (by simp only; omega) rfl rfl ⟨by simp only; omega, hp2.trans ((SegP.swap (Nat.le_refl _) (by omega) (by omega) (by omega) (by omega)).trans (p3.mono (Nat.le_refl _) (by omega))), hd'.next (by omega) (by omega) p3 h3⟩
theorem aOp {a b : Int} (h0 : 0 ≤ b) (h1 : b < 18446744073709551616) : 0 ≤ andI .u64 a b ∧ andI .u64 a b ≤ b := by
  unfold andI
  have h := aKC ((BitVec.ofInt IntKind.u64.bits a &&& BitVec.ofInt IntKind.u64.bits b).toNat : Int)
  refine ⟨h.1, ?_⟩
  have e : (BitVec.ofInt IntKind.u64.bits b).toNat = b.toNat := by
    show (BitVec.ofInt 64 b).toNat = _
    rw [BitVec.toNat_ofInt]; omega
  have hle : (BitVec.ofInt IntKind.u64.bits a &&& BitVec.ofInt IntKind.u64.bits b).toNat ≤ b.toNat := by
    rw [BitVec.toNat_and, e]; exact Nat.and_le_right
  rw [aAt (by omega) (by omega)]
  omega
def cJ.K : Con := fun args h K => match args with
  | [a0] => cJ.H (ctx [] [] cJ.loops) a0 h K
  | _ => False
theorem cJ.spec : cP Tryz.prog 144 cJ.K := by
  refine cP.of (bP (F := []) (S := []) (by simp) (by simp) cJ.loops) cJ.at cJ.nm cJ.bd ?_
  intro args h K hC
  unfold cJ.K at hC
  split at hC
  · rw [cJ.eq]; exact hC
  · exact hC.elim
theorem aOq (A : SkT) (m : aY → Bool) (v : Nat) (l : List RecT) (T : List AObj) (hTn : OkT T) (x : Int) (K : AOut → List AObj → Prop)
    (hK : ∀ y : Int, K (.ret (.int .u64 y)) (hpS A m v l (T ++ [.box (.int .u64 y)]))) :
    cJ.K [.ptr (T.length + 1 + 1 + 1) []] (hpS A m v l (T ++ [.box (.int .u64 x)])) K := by
  unfold cJ.K cJ.H
  simp only [hpS, qM, zB, List.map_cons, List.map_nil, aA, gq, reduceEq, reduceLT, reduceLE, implies_true, reduceCtorEq, if_true, if_false, go_sem, reduceEqDiff, Nat.reduceLT, reduceAdd, reduceSub, reduceLeDiff, reduceReplicate, reduceToNat] at hK ⊢
  exact hK _
end Lam
namespace Lam
open Go Go.Proofs
def lenN (n : Nat) : Nat := if n = 0 then 0 else if n < 2 then 1 else if n < 4 then 2 else if n < 8 then 3 else if n < 16 then 4 else if n < 32 then 5 else if n < 64 then 6 else if n < 128 then 7 else 8
def aML : aY := [0, 1, 2, 2, 3, 3, 3, 3, 4, 4, 4, 4, 4, 4, 4, 4, 5, 5, 5, 5, 5, 5, 5, 5, 5, 5, 5, 5, 5, 5, 5, 5, 6, 6, 6, 6, 6, 6, 6, 6, 6, 6, 6, 6, 6, 6, 6, 6, 6, 6, 6, 6, 6, 6, 6, 6, 6, 6, 6, 6, 6, 6, 6, 6, 7, 7, 7, 7, 7, 7, 7, 7, 7, 7, 7, 7, 7, 7, 7, 7, 7, 7, 7, 7, 7, 7, 7, 7, 7, 7, 7, 7, 7, 7, 7, 7, 7, 7, 7, 7, 7, 7, 7, 7, 7, 7, 7, 7, 7, 7, 7, 7, 7, 7, 7, 7, 7, 7, 7, 7, 7, 7, 7, 7, 7, 7, 7, 7, 8, 8, 8, 8, 8, 8, 8, 8, 8, 8, 8, 8, 8, 8, 8, 8, 8, 8, 8, 8, 8, 8, 8, 8, 8, 8, 8, 8, 8, 8, 8, 8, 8, 8, 8, 8, 8, 8, 8, 8, 8, 8, 8, 8, 8, 8, 8, 8, 8, 8, 8, 8, 8, 8, 8, 8, 8, 8, 8, 8, 8, 8, 8, 8, 8, 8, 8, 8, 8, 8, 8, 8, 8, 8, 8, 8, 8, 8, 8, 8, 8, 8, 8, 8, 8, 8, 8, 8, 8, 8, 8, 8, 8, 8, 8, 8, 8, 8, 8, 8, 8, 8, 8, 8, 8, 8, 8, 8, 8, 8, 8, 8, 8, 8, 8, 8, 8, 8, 8, 8, 8, 8, 8, 8, 8, 8, 8, 8]
theorem aMe : ∀ k, k < 256 → (aML.getD k 0).toNat = lenN k := by decide +kernel
theorem aMf : ∀ k, k < 256 → 8 ≤ k → 1 ≤ 2 ^ lenN k ∧ 2 ^ lenN k ≤ 2 * k ∧ lenN k ≤ 8 := by decide +kernel
theorem aIq : ∀ k, k < 256 → lenN k ≤ 8 := by decide +kernel
def dV.C : aE
  | [.int .u64 n] => some (false, pD (0 ≤ n ∧ n < 256) (.int .i64 (lenN n.toNat)))
  | _ => none
theorem dV.spec : bO Tryz.prog 135 dV.C := by
  refine bO.of (bP (F := []) (S := []) (by simp) (by simp) dV.loops) dV.at dV.nm dV.bd ?_
  intro vs b S v news e hS
  unfold dV.C at e
  split at e
  rotate_left
  · cases e
  cases e
  rw [dV.eq]
  unfold dV.H
  simp (maxSteps := 4000000) only [go_sem, reduceEqDiff, Nat.reduceLT, reduceAdd, reduceSub, reduceLeDiff, reduceReplicate, reduceToNat]
  rename_i n
  have d1 : decide ((4294967296 : Int) ≤ n) = false := decide_eq_false (by omega)
  have d2 : decide ((65536 : Int) ≤ n) = false := decide_eq_false (by omega)
  have d3 : decide ((256 : Int) ≤ n) = false := decide_eq_false (by omega)
  have g1 : ¬ (4294967296 : Int) ≤ n := by omega
  have g2 : IntKind.u8.wrap n = n := by simp [IntKind.wrap, IntKind.bits, IntKind.signed]; omega
  simp only [g1, d1, d2, d3, g2, aA, aA, gq, reduceEq, reduceLT, reduceLE, implies_true, reduceCtorEq, if_true, if_false, go_sem, reduceEqDiff, Nat.reduceLT, reduceAdd, reduceSub, reduceLeDiff, reduceReplicate, reduceToNat]
  refine ⟨hS, ?_⟩
  show Post false (.int .i64 (lenN n.toNat)) [] (.ret (.int .i64 (IntKind.i64.wrap (0 + IntKind.i64.wrap ((aML.getD n.toNat 0).toNat : Int))))) []
  have h8 := aIq n.toNat (by omega)
  rw [aMe n.toNat (by omega), w64 (n := (lenN n.toNat : Int)) (by omega) (by omega), Int.zero_add, w64 (by omega) (by omega)]
  exact aH rfl rfl
def dK.C : aE
  | [.int .u64 n] => some (false, pD (0 ≤ n ∧ n < 256) (.int .i64 (lenN n.toNat)))
  | _ => none
theorem dK.spec : bO Tryz.prog 120 dK.C := by
  refine bO.of (bP (F := [(135, dV.C)]) (S := []) (by simpa using dV.spec) (by simp) dK.loops) dK.at dK.nm dK.bd ?_
  intro vs b S v news e hS
  unfold dK.C at e
  split at e
  rotate_left
  · cases e
  cases e
  rw [dK.eq]
  unfold dK.H
  simp (maxSteps := 4000000) only [go_sem, reduceEqDiff, Nat.reduceLT, reduceAdd, reduceSub, reduceLeDiff, reduceReplicate, reduceToNat, dV.C]
  rename_i n
  exact ⟨hS, aH rfl rfl⟩
def cL.C : aE
  | [.int .i64 n] => some (false, pD (0 ≤ n ∧ n < 256) (.int .u64 (2 ^ lenN n.toNat : Nat)))
  | _ => none
theorem cL.spec : bO Tryz.prog 143 cL.C := by
  refine bO.of (bP (F := [(120, dK.C)]) (S := []) (by simpa using dK.spec) (by simp) cL.loops) cL.at cL.nm cL.bd ?_
  intro vs b S v news e hS
  unfold cL.C at e
  split at e
  rotate_left
  · cases e
  cases e
  rw [cL.eq]
  unfold cL.H
  simp (maxSteps := 4000000) only [go_sem, reduceEqDiff, Nat.reduceLT, reduceAdd, reduceSub, reduceLeDiff, reduceReplicate, reduceToNat, dK.C]
  rename_i n
  have g2 : IntKind.u64.wrap n = n := aAt (by omega) (by omega)
  have h8 := aIq n.toNat (by omega)
  simp only [g2, dK.C, aA, gq, reduceEq, reduceLT, reduceLE, implies_true, reduceCtorEq, if_true, if_false, go_sem, reduceEqDiff, Nat.reduceLT, reduceAdd, reduceSub, reduceLeDiff, reduceReplicate, reduceToNat]
  refine ⟨hS.2, by omega, ?_⟩
  have h2 : 2 ^ lenN n.toNat ≤ 2 ^ 8 := Nat.pow_le_pow_right (by decide) h8
  have e : (2 : Int) ^ lenN n.toNat = ((2 ^ lenN n.toNat : Nat) : Int) := by rw [Int.natCast_pow]; rfl
  rw [Nat.min_eq_left (by omega), Int.one_mul, e]
  generalize 2 ^ lenN n.toNat = P at *
  rw [aAt (n := (P : Int)) (by omega) (by omega)]
  exact aH rfl rfl
def aV.K : Con := fun args h K => match args with
  | [a0, a1, a2, a3] => aV.H (ctx [(143, cL.C)] [(144, cJ.K)] aV.loops) a0 a1 a2 a3 h K
  | _ => False
theorem aV.spec : cP Tryz.prog 128 aV.K := by
  refine cP.of (bP (F := [(143, cL.C)]) (S := [(144, cJ.K)]) (by simpa using cL.spec) (by simpa using cJ.spec) aV.loops) aV.at aV.nm aV.bd ?_
  intro args h K hC
  unfold aV.K at hC
  split at hC
  · rw [aV.eq]; exact hC
  · exact hC.elim
theorem aNl (A : SkT) (m : aY → Bool) (v : Nat) (l : List RecT) (T : List AObj) (hTn : OkT T) (n a b : Nat) (hn : n = l.length) (hab : a + 8 ≤ b) (hbn : b ≤ n) (h255 : b < a + 256) (hr : roomy n) (K : AOut → List AObj → Prop)
    (hK : ∀ l' y, SegP a b l l' → K (.ret (.tup [])) (hpS A m v l' (T ++ [.box (.int .u64 y)]))) :
    aV.K [.sref false 2 v 0 n, .int .i64 a, .int .i64 b, hitF] (hpS A m v l T) K := by
  have hr' := hr
  unfold roomy at hr'
  have h2 : 2 < T.length + 1 + 1 + 1 := by omega
  obtain ⟨len, hlen⟩ : ∃ len, b - a = len := ⟨_, rfl⟩
  have hl8 : 8 ≤ len := by omega
  have hpw := aMf len (by omega) hl8
  obtain ⟨P, hP⟩ : ∃ P, 2 ^ lenN len = P := ⟨_, rfl⟩
  rw [hP] at hpw
  have e0 : IntKind.i64.wrap ((b : Int) - a) = (len : Int) := by rw [w64 (by omega) (by omega)]; omega
  have e1 : IntKind.i64.wrap ((len : Int).tdiv 4) = ((len / 4 : Nat) : Int) := by rw [Int.tdiv_eq_ediv_of_nonneg (by omega), w64 (by omega) (by omega)]; omega
  obtain ⟨q, hq⟩ : ∃ q, len / 4 = q := ⟨_, rfl⟩
  rw [hq] at e1
  have e2 : IntKind.i64.wrap ((q : Int) * 2) = ((q * 2 : Nat) : Int) := by rw [w64 (by omega) (by omega)]; omega
  have e3 : IntKind.i64.wrap ((a : Int) + ((q * 2 : Nat) : Int)) = ((a + q * 2 : Nat) : Int) := by rw [w64 (by omega) (by omega)]; omega
  have e4 : IntKind.i64.wrap (((a + q * 2 : Nat) : Int) - 1) = ((a + q * 2 - 1 : Nat) : Int) := by rw [w64 (by omega) (by omega)]; omega
  have e5 : IntKind.u64.wrap ((P : Int) - 1) = (P : Int) - 1 := aAt (by omega) (by omega)
  have d1 : decide ((8 : Int) ≤ (len : Int)) = true := decide_eq_true (by omega)
  unfold aV.K aV.H
  have hT1 : ∀ y k h, (T ++ [AObj.box (.int .u64 y)]).map (qX k h) = T ++ [AObj.box (.int .u64 y)] := fun y => hTn.snoc .u64 y
  have hL1 : ∀ y : AObj, (T ++ [y]).length = T.length + 1 := fun y => by simp
  have hTk : ∀ y : AObj, (T ++ [y]).take (T.length + 1) = T ++ [y] := fun y => List.take_of_length_le (by simp)
  have h3 : T.length + 1 + 1 + 1 < T.length + 1 + 1 + 1 + 1 := by omega
  have h4 : 2 < T.length + 1 + 1 + 1 + 1 := by omega
  simp only [hpS, hTn _ _, hT1, hL1, qM, zB, SkT.norm, h2, h3, h4, e0, e1, e2, e3, e4, d1, aA, cL.C, Int.toNat_natCast, hP, aA, gq, reduceEq, reduceLT, reduceLE, implies_true, reduceCtorEq, if_true, if_false, go_sem, reduceEqDiff, Nat.reduceLT, reduceAdd, reduceSub, reduceLeDiff, reduceReplicate, reduceToNat] at hK ⊢
  refine ⟨⟨by omega, by omega⟩, ?_⟩
  unfold aV.L1
  refine lP (σ := List RecT × Nat × Int) (fun s => .int .i64 s.2.1) (fun s => .box A.V :: .map (.sb m) :: .row .own v (.recs s.1) :: (T ++ [.box (.int .u64 s.2.2)])) (fun s => a + q * 2 + 2 - s.2.1) (fun s => a + q * 2 - 1 ≤ s.2.1 ∧ s.2.1 ≤ a + q * 2 + 2 ∧ SegP a b l s.1) (l, a + q * 2 - 1, IntKind.u64.wrap len) rfl rfl ⟨Nat.le_refl _, by simp only; omega, SegP.refl⟩ ?_
  rintro I back ⟨l1, i, x⟩ ⟨hi1, hi2, hp⟩
  simp only at hi1 hi2 hp ⊢
  have hl1 := hp.len
  simp only [e1, e2, e3, fA (show a + q * 2 < 4611686018427387904 by omega), hT1, hL1, SkT.norm, h2, h3, h4, aA, aA, gq, reduceEq, reduceLT, reduceLE, implies_true, reduceCtorEq, if_true, if_false, go_sem, reduceEqDiff, Nat.reduceLT, reduceAdd, reduceSub, reduceLeDiff, reduceReplicate, reduceToNat]
  refine ⟨fun hle => ?_, fun hgt => hK l1 x hp⟩
  refine aOq A m v l1 T hTn x _ fun y => ?_
  obtain ⟨z0, z1⟩ := aOp (a := y) (b := (P : Int) - 1) (by omega) (by omega)
  have hlt : ∀ c : Nat, c < len → ∃ m_1, m_1 < a + q * 2 + 2 - i ∧ I m_1 [.int .i64 ((i + 1 : Nat) : Int)] (.box A.V :: .map (.sb m) :: .row .own v (.recs (gU l1 i (a + c))) :: (T ++ [.box (.int .u64 y)])) := fun c hc =>
    back (gU l1 i (a + c), i + 1, y) (by simp only; omega) rfl rfl ⟨by simp only; omega, by simp only; omega, hp.trans (SegP.swap (by omega) (by omega) (by omega) (by omega) (by omega))⟩
  obtain ⟨c, hc⟩ : ∃ c : Nat, andI .u64 y ((P : Int) - 1) = c := ⟨(andI .u64 y ((P : Int) - 1)).toNat, by omega⟩
  have e6 : IntKind.i64.wrap (c : Int) = c := w64 (by omega) (by omega)
  have e7 : ∀ c : Nat, c < len → IntKind.i64.wrap ((a : Int) + (c : Int)) = ((a + c : Nat) : Int) := fun c hc => by rw [w64 (by omega) (by omega)]; omega
  have e8 : len ≤ c → IntKind.i64.wrap ((c : Int) - (len : Int)) = ((c - len : Nat) : Int) := fun h => by rw [w64 (by omega) (by omega)]; omega
  rw [hc] at z0 z1
  simp only [hpS, hT1, hL1, qM, SkT.norm, h2, h3, h4, e5, hc, e6, aA, fA (show i < 4611686018427387904 by omega), aA, gq, reduceEq, reduceLT, reduceLE, implies_true, reduceCtorEq, if_true, if_false, go_sem, reduceEqDiff, Nat.reduceLT, reduceAdd, reduceSub, reduceLeDiff, reduceReplicate, reduceToNat]
  refine ⟨fun hge => ?_, fun hnge => ?_⟩
  · have hcl : c - len < len := by omega
    simp only [hpS, hT1, hL1, SkT.norm, h2, h3, h4, e8 (by omega), e7 _ hcl, aA, Int.toNat_natCast, iQ, iJ, jO, iM, List.length_set, hTk, fA (show i < 4611686018427387904 by omega), aA, gq, reduceEq, reduceLT, reduceLE, implies_true, reduceCtorEq, if_true, if_false, go_sem, reduceEqDiff, Nat.reduceLT, reduceAdd, reduceSub, reduceLeDiff, reduceReplicate, reduceToNat]
    exact ⟨⟨by omega, by omega⟩, by omega, ⟨by omega, by omega⟩, by omega, ⟨by omega, by omega⟩, by omega, ⟨by omega, by omega⟩, by omega, hlt _ hcl⟩
  · have hcl : c < len := by omega
    simp only [hpS, hT1, hL1, SkT.norm, h2, h3, h4, e7 _ hcl, aA, Int.toNat_natCast, iQ, iJ, jO, iM, List.length_set, hTk, fA (show i < 4611686018427387904 by omega), aA, gq, reduceEq, reduceLT, reduceLE, implies_true, reduceCtorEq, if_true, if_false, go_sem, reduceEqDiff, Nat.reduceLT, reduceAdd, reduceSub, reduceLeDiff, reduceReplicate, reduceToNat]
    exact ⟨⟨by omega, by omega⟩, by omega, ⟨by omega, by omega⟩, by omega, ⟨by omega, by omega⟩, by omega, ⟨by omega, by omega⟩, by omega, hlt _ hcl⟩
end Lam
namespace Lam
open Go Go.Proofs
theorem aCl {w : List Int} {b : Int} {n : Nd} (h : cR w b = some n) : rQ w b = .tup [n.V, .int .i64 0] := by
  unfold cR at h
  unfold rQ
  split at h
  · cases h
  · rename_i hb; rw [if_neg hb, h]
theorem aGJ {w : List Int} {b : Int} (h : cR w b = none) : ∃ e, e ≠ 0 ∧ rQ w b = .tup [jI.V, .int .i64 e] := by
  unfold cR at h
  unfold rQ
  split at h
  · rename_i hb; rw [if_pos hb]; exact ⟨1, by decide, rfl⟩
  · rename_i hb; rw [if_neg hb, h]; exact ⟨90, by decide, rfl⟩
theorem aEP {w : List Int} {b : Int} {n : Rc} (h : recO w b = some n) : pW w b = .tup [n.V, .int .i64 0] := by
  unfold recO at h
  unfold pW
  split at h
  · cases h
  · rename_i hb; rw [if_neg hb, h]
theorem aKX {w : List Int} {b : Int} (h : recO w b = none) : ∃ e, e ≠ 0 ∧ pW w b = .tup [kC.V, .int .i64 e] := by
  unfold recO at h
  unfold pW
  split at h
  · rename_i hb; rw [if_pos hb]; exact ⟨1, by decide, rfl⟩
  · rename_i hb; rw [if_neg hb, h]; exact ⟨70, by decide, rfl⟩
structure Sk where
  block : Int
  turn : Int
  at_ : Int
  refs : List Int
  over : Bool
def Sk.V (s : Sk) : AV := .agg [.int .i64 s.block, .int .i64 s.turn, .int .i64 s.at_, .sl false (.ints .i64 s.refs), .bool s.over]
def mB (t : Int) : Bool := decide (andI .i64 t 1 = 1)
def eP.C : aE
  | [.agg [.int .i64 _, .int .i64 t, .int .i64 _, .sl _ (.ints .i64 _), .bool _]] => some (false, pD True (.bool (mB t)))
  | _ => none
theorem eP.spec : bO Tryz.prog 67 eP.C := by
  refine bO.of (bP (F := []) (S := []) (by simp) (by simp) eP.loops) eP.at eP.nm eP.bd ?_
  intro vs b S v news e hS
  unfold eP.C at e
  split at e
  rotate_left
  · cases e
  cases e
  rw [eP.eq]
  unfold eP.H
  simp (maxSteps := 4000000) only [go_sem, reduceEqDiff, Nat.reduceLT, reduceAdd, reduceSub, reduceLeDiff, reduceReplicate, reduceToNat]
  exact aH rfl rfl
def skZ : Sk := ⟨0, 0, 0, [], false⟩
def pX (w : List Int) (b : Int) : Option Sk := match cR w b with
  | some n => if 256 ≤ b then none else some ⟨b, n.turn, if mB n.turn = true then 12 else 0, [], false⟩
  | none => none
def yC (w : List Int) (b : Int) : AV := match pX w b with
  | some s => .tup [s.V, .int .i64 0]
  | none => .tup [skZ.V, .int .i64 90]
def fW.C : aE
  | [.sl _ (.ints .i64 w), .int .i64 b] => some (false, pD (roomy w.length) (yC w b))
  | _ => none
theorem fW.spec : bO Tryz.prog 40 fW.C := by
  refine bO.of (bP (F := [(46, cK.C), (67, eP.C)]) (S := []) (by simpa using ⟨cK.spec, eP.spec⟩) (by simp) fW.loops) fW.at fW.nm fW.bd ?_
  intro vs b S v news e hS
  unfold fW.C at e
  split at e
  rotate_left
  · cases e
  cases e
  rw [fW.eq]
  unfold fW.H
  simp (maxSteps := 4000000) only [go_sem, reduceEqDiff, Nat.reduceLT, reduceAdd, reduceSub, reduceLeDiff, reduceReplicate, reduceToNat, cK.C, eP.C]
  rename_i w b
  unfold yC pX
  cases hn : cR w b with
  | none =>
    obtain ⟨e, he, hr⟩ := aGJ hn
    simp only [hr, jI, he, decide_true, decide_false, aA, skZ, Sk.V, aA, gq, reduceEq, reduceLT, reduceLE, implies_true, reduceCtorEq, if_true, if_false, go_sem, reduceEqDiff, Nat.reduceLT, reduceAdd, reduceSub, reduceLeDiff, reduceReplicate, reduceToNat]
    exact ⟨hS, aH rfl rfl⟩
  | some n =>
    obtain ⟨n1, n2, n3, n4, n5⟩ := n
    by_cases hb : 256 ≤ b
    · simp only [aCl hn, hb, if_true, decide_true, aA, skZ, Sk.V, aA, gq, reduceEq, reduceLT, reduceLE, implies_true, reduceCtorEq, if_true, if_false, go_sem, reduceEqDiff, Nat.reduceLT, reduceAdd, reduceSub, reduceLeDiff, reduceReplicate, reduceToNat]
      exact ⟨hS, aH rfl rfl⟩
    · simp only [aCl hn, hb, if_false, decide_false, eP.C, aA, Sk.V, aA, gq, reduceEq, reduceLT, reduceLE, implies_true, reduceCtorEq, if_true, if_false, go_sem, reduceEqDiff, Nat.reduceLT, reduceAdd, reduceSub, reduceLeDiff, reduceReplicate, reduceToNat]
      cases hd : mB n2 with
      | true => simp only [if_true, aA, gq, reduceEq, reduceLT, reduceLE, implies_true, reduceCtorEq, if_true, if_false, go_sem, reduceEqDiff, Nat.reduceLT, reduceAdd, reduceSub, reduceLeDiff, reduceReplicate, reduceToNat]; exact ⟨hS, aH rfl rfl⟩
      | false => simp only [if_false, aA, gq, reduceEq, reduceLT, reduceLE, implies_true, reduceCtorEq, if_true, if_false, go_sem, reduceEqDiff, Nat.reduceLT, reduceAdd, reduceSub, reduceLeDiff, reduceReplicate, reduceToNat]; exact ⟨hS, aH rfl rfl⟩
def tQ (w : List Int) (b t : Int) : Bool := match cR w b with
  | some n => decide (n.turn = t)
  | none => false
def fX.C : aE
  | [.sl _ (.ints .i64 w), .agg [.int .i64 b, .int .i64 t, .int .i64 _, .sl _ (.ints .i64 _), .bool _]] => some (false, pD (roomy w.length) (.bool (tQ w b t)))
  | _ => none
theorem fX.spec : bO Tryz.prog 71 fX.C := by
  refine bO.of (bP (F := [(46, cK.C)]) (S := []) (by simpa using cK.spec) (by simp) fX.loops) fX.at fX.nm fX.bd ?_
  intro vs b S v news e hS
  unfold fX.C at e
  split at e
  rotate_left
  · cases e
  cases e
  rw [fX.eq]
  unfold fX.H
  simp (maxSteps := 4000000) only [go_sem, reduceEqDiff, Nat.reduceLT, reduceAdd, reduceSub, reduceLeDiff, reduceReplicate, reduceToNat, cK.C]
  rename_i _ w b t _ _ _ _
  unfold tQ
  cases hn : cR w b with
  | none =>
    obtain ⟨e, he, hr⟩ := aGJ hn
    simp only [hr, jI, he, decide_true, decide_false, aA, aA, gq, reduceEq, reduceLT, reduceLE, implies_true, reduceCtorEq, if_true, if_false, go_sem, reduceEqDiff, Nat.reduceLT, reduceAdd, reduceSub, reduceLeDiff, reduceReplicate, reduceToNat]
    exact ⟨hS, aH rfl rfl⟩
  | some n =>
    obtain ⟨n1, n2, n3, n4, n5⟩ := n
    simp only [aCl hn, decide_true, aA, aA, gq, reduceEq, reduceLT, reduceLE, implies_true, reduceCtorEq, if_true, if_false, go_sem, reduceEqDiff, Nat.reduceLT, reduceAdd, reduceSub, reduceLeDiff, reduceReplicate, reduceToNat]
    exact ⟨hS, aH rfl rfl⟩
def dH.K : Con := fun args h K => match args with
  | [a0] => dH.H (ctx [] [] dH.loops) a0 h K
  | _ => False
theorem dH.spec : cP Tryz.prog 69 dH.K := by
  refine cP.of (bP (F := []) (S := []) (by simp) (by simp) dH.loops) dH.at dH.nm dH.bd ?_
  intro args h K hC
  unfold dH.K at hC
  split at hC
  · rw [dH.eq]; exact hC
  · exact hC.elim
def cU.K : Con := fun args h K => match args with
  | [a0] => cU.H (ctx [] [] cU.loops) a0 h K
  | _ => False
theorem cU.spec : cP Tryz.prog 70 cU.K := by
  refine cP.of (bP (F := []) (S := []) (by simp) (by simp) cU.loops) cU.at cU.nm cU.bd ?_
  intro args h K hC
  unfold cU.K at hC
  split at hC
  · rw [cU.eq]; exact hC
  · exact hC.elim
def kH (w : Int) (s : Sk) : Bool := if mB s.turn = true then decide (s.at_ = 0) else decide (w < 1) || decide (s.at_ = 12)
def goOn (w : Int) (s : Sk) : Sk :=
  { s with
    refs := if (decide (0 < w) && (decide (s.refs.length = 0) || !decide (s.refs.getD (s.refs.length - 1) 0 = w))) = true then s.refs ++ [w] else s.refs
    over := kH w s
    at_ := if kH w s = true then s.at_ else if mB s.turn = true then IntKind.i64.wrap (s.at_ - 1) else IntKind.i64.wrap (s.at_ + 1) }
def mP (w : List Int) (s : Sk) : Int := if (decide (0 ≤ s.block) && decide (s.block < 256) && decide (s.block < ((w.length / 16 : Nat) : Int))) = true then oP (16 * s.block) s.at_ else -1
def kX (w : List Int) (s : Sk) : Sk := if (s.over || decide (mP w s < 0)) = true then s else goOn (w.getD (mP w s).toNat 0) s
def gO.C : aE
  | [.sl _ (.ints .i64 w), .agg [.int .i64 b, .int .i64 t, .int .i64 a, .sl _ (.ints .i64 l), .bool o]] => some (false, pD (w.length ≤ 65536 ∧ l.length ≤ 65536) (kX w ⟨b, t, a, l, o⟩).V)
  | _ => none
theorem gO.spec : bO Tryz.prog 41 gO.C := by
  refine bO.of (bP (F := [(68, gH.C), (34, aX.C), (67, eP.C)]) (S := [(69, dH.K), (70, cU.K)]) (by simpa using ⟨gH.spec, aX.spec, eP.spec⟩) (by simpa using ⟨dH.spec, cU.spec⟩) gO.loops) gO.at gO.nm gO.bd ?_
  intro vs b S v news e hS
  unfold gO.C at e
  split at e
  rotate_left
  · cases e
  cases e
  rw [gO.eq]
  unfold gO.H
  simp (maxSteps := 4000000) only [go_sem, reduceEqDiff, Nat.reduceLT, reduceAdd, reduceSub, reduceLeDiff, reduceReplicate, reduceToNat, gH.C, aX.C, eP.C]
  rename_i _ w b t a x l o
  obtain ⟨hw, hl⟩ := hS
  have e0 : IntKind.i64.wrap ((w.length : Int).tdiv 16) = ((w.length / 16 : Nat) : Int) := by
    rw [Int.tdiv_eq_ediv_of_nonneg (by omega)]; exact w64 (by omega) (by omega)
  have hst : ∀ s : Sk, (s.over || decide (mP w s < 0)) = true → kX w s = s := fun s h => by unfold kX; rw [if_pos h]
  have hgo : ∀ s : Sk, (s.over || decide (mP w s < 0)) = false → kX w s = goOn (w.getD (mP w s).toNat 0) s := fun s h => by unfold kX; rw [if_neg (by rw [h]; decide)]
  refine ⟨fun _ => by decide, ?_⟩
  cases hin : (decide (0 ≤ b) && decide (b < 256) && decide (b < ((w.length / 16 : Nat) : Int))) with
  | false =>
    have hs : mP w ⟨b, t, a, l, o⟩ = -1 := by unfold mP; rw [if_neg (by rw [hin]; decide)]
    rw [hst _ (by rw [hs]; cases o <;> rfl)]
    simp only [e0, hin, aA, Sk.V, aA, gq, reduceEq, reduceLT, reduceLE, implies_true, reduceCtorEq, if_true, if_false, go_sem, reduceEqDiff, Nat.reduceLT, reduceAdd, reduceSub, reduceLeDiff, reduceReplicate, reduceToNat]
    cases o with
    | true => simp only [aA, gq, reduceEq, reduceLT, reduceLE, implies_true, reduceCtorEq, if_true, if_false, go_sem, reduceEqDiff, Nat.reduceLT, reduceAdd, reduceSub, reduceLeDiff, reduceReplicate, reduceToNat]; exact aH rfl rfl
    | false => simp only [aA, gq, reduceEq, reduceLT, reduceLE, implies_true, reduceCtorEq, if_true, if_false, go_sem, reduceEqDiff, Nat.reduceLT, reduceAdd, reduceSub, reduceLeDiff, reduceReplicate, reduceToNat]; exact aH rfl rfl
  | true =>
    have hin' := hin
    simp only [Bool.and_eq_true, decide_eq_true_eq] at hin'
    obtain ⟨⟨h0, h1⟩, h2⟩ := hin'
    have e1 : IntKind.i64.wrap (16 * b) = 16 * b := w64 (by omega) (by omega)
    have hs : mP w ⟨b, t, a, l, o⟩ = oP (16 * b) a := by unfold mP; rw [if_pos hin]
    by_cases hp : oP (16 * b) a < 0
    · rw [hst _ (by rw [hs, decide_eq_true hp, Bool.or_true])]
      simp only [e0, e1, hin, hp, decide_true, aA, Sk.V, aA, gq, reduceEq, reduceLT, reduceLE, implies_true, reduceCtorEq, if_true, if_false, go_sem, reduceEqDiff, Nat.reduceLT, reduceAdd, reduceSub, reduceLeDiff, reduceReplicate, reduceToNat]
      cases o with
      | true => simp only [aA, gq, reduceEq, reduceLT, reduceLE, implies_true, reduceCtorEq, if_true, if_false, go_sem, reduceEqDiff, Nat.reduceLT, reduceAdd, reduceSub, reduceLeDiff, reduceReplicate, reduceToNat]; exact aH rfl rfl
      | false => simp only [aA, gq, reduceEq, reduceLT, reduceLE, implies_true, reduceCtorEq, if_true, if_false, go_sem, reduceEqDiff, Nat.reduceLT, reduceAdd, reduceSub, reduceLeDiff, reduceReplicate, reduceToNat]; exact aH rfl rfl
    · cases o with
      | true =>
        rw [hst _ rfl]
        simp only [e0, e1, hin, hp, decide_true, decide_false, aA, Sk.V, aA, gq, reduceEq, reduceLT, reduceLE, implies_true, reduceCtorEq, if_true, if_false, go_sem, reduceEqDiff, Nat.reduceLT, reduceAdd, reduceSub, reduceLeDiff, reduceReplicate, reduceToNat]
        exact aH rfl rfl
      | false =>
        rw [hgo _ (by rw [hs, decide_eq_false hp]; rfl), hs]
        have hnb : rD (16 * b) = true := (yW (by omega)).2 ⟨by omega, by omega, by omega⟩
        have ha : 0 ≤ a ∧ a < 13 ∧ oP (16 * b) a = 16 * b + 3 + a := by
          by_cases h : 0 ≤ a ∧ a < 13
          · exact ⟨h.1, h.2, aGs hnb (by omega) h.1 h.2⟩
          · exfalso
            apply hp
            unfold oP
            rw [if_neg (by simp only [Bool.and_eq_true, decide_eq_true_eq]; rintro ⟨⟨_, h1⟩, h2⟩; exact h ⟨h1, h2⟩)]
            decide
        obtain ⟨a0, a1, hpl⟩ := ha
        obtain ⟨P, hP⟩ : ∃ P : Nat, 16 * b + 3 + a = P := ⟨(16 * b + 3 + a).toNat, by omega⟩
        have hPl : P < w.length := by omega
        rw [hpl, hP, Int.toNat_natCast]
        rw [hP] at hpl
        have hpn : ¬ ((P : Nat) : Int) < 0 := by omega
        have hrl : roomy l.length := by unfold roomy; omega
        have e3 : l.length ≠ 0 → IntKind.i64.wrap ((l.length : Int) - 1) = ((l.length - 1 : Nat) : Int) := fun h => by rw [w64 (by omega) (by omega)]; omega
        simp only [e0, e1, hin, hpl, hpn, decide_true, decide_false, aA, Int.toNat_natCast, aX.C, aA, gq, reduceEq, reduceLT, reduceLE, implies_true, reduceCtorEq, if_true, if_false, go_sem, reduceEqDiff, Nat.reduceLT, reduceAdd, reduceSub, reduceLeDiff, reduceReplicate, reduceToNat]
        refine ⟨⟨by omega, by omega⟩, hrl, ?_⟩
        generalize w.getD P 0 = W
        have hra : roomy (l ++ [W]).length := by unfold roomy; simp; omega
        have hgo2 : ∀ (R : List Int), (goOn W ⟨b, t, a, l, false⟩).refs = R → ∀ (o : Bool) (a' : Int), kH W ⟨b, t, a, l, false⟩ = o → (a' = if o = true then a else if mB t = true then IntKind.i64.wrap (a - 1) else IntKind.i64.wrap (a + 1)) → goOn W ⟨b, t, a, l, false⟩ = ⟨b, t, a', R, o⟩ := by
          rintro _ rfl _ _ rfl rfl; rfl
        by_cases hW : 0 < W
        · have hW1 : decide (W < 1) = false := decide_eq_false (by omega)
          have happ : ∀ K : Nat → Prop, True := fun _ => trivial
          by_cases hl0 : l.length = 0
          · have hd0 : decide ((l.length : Int) = 0) = true := decide_eq_true (by omega)
            have hgr : (goOn W ⟨b, t, a, l, false⟩).refs = l ++ [W] := by unfold goOn; simp [hW, hl0]
            simp only [hW, hW1, hd0, decide_true, eP.C, dH.K, dH.H, cU.K, cU.H, aA, aA, gq, reduceEq, reduceLT, reduceLE, implies_true, reduceCtorEq, if_true, if_false, go_sem, reduceEqDiff, Nat.reduceLT, reduceAdd, reduceSub, reduceLeDiff, reduceReplicate, reduceToNat]
            refine ⟨hra, fun hd => ⟨fun h => ?_, fun h => ?_⟩, fun hd => ⟨fun h => ?_, fun h => ?_⟩⟩
            · rw [hgo2 _ hgr false _ (by simp [kH, hd, h]) (by simp [hd]; rfl), decide_eq_false h]
              refine aH ?_ rfl
              simp only [Sk.V, List.take_length, go_sem, reduceEqDiff, Nat.reduceLT, reduceAdd, reduceSub, reduceLeDiff, reduceReplicate, reduceToNat]
            · rw [hgo2 _ hgr true _ (by simp [kH, hd, h]) (by simp; rfl), decide_eq_true h]
              refine aH ?_ rfl
              simp only [Sk.V, List.take_length, go_sem, reduceEqDiff, Nat.reduceLT, reduceAdd, reduceSub, reduceLeDiff, reduceReplicate, reduceToNat]
            · rw [hgo2 _ hgr false _ (by simp [kH, hd, h]; omega) (by simp [hd]; rfl), decide_eq_false h]
              refine aH ?_ rfl
              simp only [Sk.V, List.take_length, go_sem, reduceEqDiff, Nat.reduceLT, reduceAdd, reduceSub, reduceLeDiff, reduceReplicate, reduceToNat]
            · rw [hgo2 _ hgr true _ (by simp [kH, hd, h]) (by simp; rfl), decide_eq_true h]
              refine aH ?_ rfl
              simp only [Sk.V, List.take_length, go_sem, reduceEqDiff, Nat.reduceLT, reduceAdd, reduceSub, reduceLeDiff, reduceReplicate, reduceToNat]
          · have hd0 : decide ((l.length : Int) = 0) = false := decide_eq_false (by omega)
            by_cases hla : l.getD (l.length - 1) 0 = W
            · have hgr : (goOn W ⟨b, t, a, l, false⟩).refs = l := by
                unfold goOn
                simp only [hla, decide_true, Bool.not_true, Bool.or_false, decide_eq_false hl0, Bool.and_false]
                rw [if_neg (by decide)]
              simp only [hW, hW1, hd0, e3 hl0, hla, Int.toNat_natCast, decide_true, eP.C, dH.K, dH.H, cU.K, cU.H, aA, aA, gq, reduceEq, reduceLT, reduceLE, implies_true, reduceCtorEq, if_true, if_false, go_sem, reduceEqDiff, Nat.reduceLT, reduceAdd, reduceSub, reduceLeDiff, reduceReplicate, reduceToNat]
              refine ⟨⟨by omega, by omega⟩, fun hd => ⟨fun h => ?_, fun h => ?_⟩, fun hd => ⟨fun h => ?_, fun h => ?_⟩⟩
              · rw [hgo2 _ hgr false _ (by simp [kH, hd, h]) (by simp [hd]; rfl), decide_eq_false h]
                refine aH ?_ rfl
                simp only [Sk.V, List.take_length, go_sem, reduceEqDiff, Nat.reduceLT, reduceAdd, reduceSub, reduceLeDiff, reduceReplicate, reduceToNat]
              · rw [hgo2 _ hgr true _ (by simp [kH, hd, h]) (by simp; rfl), decide_eq_true h]
                refine aH ?_ rfl
                simp only [Sk.V, List.take_length, go_sem, reduceEqDiff, Nat.reduceLT, reduceAdd, reduceSub, reduceLeDiff, reduceReplicate, reduceToNat]
              · rw [hgo2 _ hgr false _ (by simp [kH, hd, h]; omega) (by simp [hd]; rfl), decide_eq_false h]
                refine aH ?_ rfl
                simp only [Sk.V, List.take_length, go_sem, reduceEqDiff, Nat.reduceLT, reduceAdd, reduceSub, reduceLeDiff, reduceReplicate, reduceToNat]
              · rw [hgo2 _ hgr true _ (by simp [kH, hd, h]) (by simp; rfl), decide_eq_true h]
                refine aH ?_ rfl
                simp only [Sk.V, List.take_length, go_sem, reduceEqDiff, Nat.reduceLT, reduceAdd, reduceSub, reduceLeDiff, reduceReplicate, reduceToNat]
            · have hgr : (goOn W ⟨b, t, a, l, false⟩).refs = l ++ [W] := by
                unfold goOn
                simp only [decide_eq_false hla, Bool.not_false, Bool.or_true, Bool.and_true, decide_eq_true hW, if_true]
              simp only [hW, hW1, hd0, e3 hl0, hla, Int.toNat_natCast, decide_true, decide_false, eP.C, dH.K, dH.H, cU.K, cU.H, aA, aA, gq, reduceEq, reduceLT, reduceLE, implies_true, reduceCtorEq, if_true, if_false, go_sem, reduceEqDiff, Nat.reduceLT, reduceAdd, reduceSub, reduceLeDiff, reduceReplicate, reduceToNat]
              refine ⟨⟨by omega, by omega⟩, hra, fun hd => ⟨fun h => ?_, fun h => ?_⟩, fun hd => ⟨fun h => ?_, fun h => ?_⟩⟩
              · rw [hgo2 _ hgr false _ (by simp [kH, hd, h]) (by simp [hd]; rfl), decide_eq_false h]
                refine aH ?_ rfl
                simp only [Sk.V, List.take_length, go_sem, reduceEqDiff, Nat.reduceLT, reduceAdd, reduceSub, reduceLeDiff, reduceReplicate, reduceToNat]
              · rw [hgo2 _ hgr true _ (by simp [kH, hd, h]) (by simp; rfl), decide_eq_true h]
                refine aH ?_ rfl
                simp only [Sk.V, List.take_length, go_sem, reduceEqDiff, Nat.reduceLT, reduceAdd, reduceSub, reduceLeDiff, reduceReplicate, reduceToNat]
              · rw [hgo2 _ hgr false _ (by simp [kH, hd, h]; omega) (by simp [hd]; rfl), decide_eq_false h]
                refine aH ?_ rfl
                simp only [Sk.V, List.take_length, go_sem, reduceEqDiff, Nat.reduceLT, reduceAdd, reduceSub, reduceLeDiff, reduceReplicate, reduceToNat]
              · rw [hgo2 _ hgr true _ (by simp [kH, hd, h]) (by simp; rfl), decide_eq_true h]
                refine aH ?_ rfl
                simp only [Sk.V, List.take_length, go_sem, reduceEqDiff, Nat.reduceLT, reduceAdd, reduceSub, reduceLeDiff, reduceReplicate, reduceToNat]
        · have hW1 : decide (W < 1) = true := decide_eq_true (by omega)
          have hgr : (goOn W ⟨b, t, a, l, false⟩).refs = l := by
            unfold goOn
            simp only [decide_eq_false hW, Bool.false_and]
            rw [if_neg (by decide)]
          simp only [hW, hW1, decide_true, decide_false, eP.C, dH.K, dH.H, cU.K, cU.H, aA, aA, gq, reduceEq, reduceLT, reduceLE, implies_true, reduceCtorEq, if_true, if_false, go_sem, reduceEqDiff, Nat.reduceLT, reduceAdd, reduceSub, reduceLeDiff, reduceReplicate, reduceToNat]
          refine ⟨fun hd => ⟨fun h => ?_, fun h => ?_⟩, fun hd => ?_⟩
          · rw [hgo2 _ hgr false _ (by simp [kH, hd, h]) (by simp [hd]; rfl), decide_eq_false h]
            refine aH ?_ rfl
            simp only [Sk.V, List.take_length, go_sem, reduceEqDiff, Nat.reduceLT, reduceAdd, reduceSub, reduceLeDiff, reduceReplicate, reduceToNat]
          · rw [hgo2 _ hgr true _ (by simp [kH, hd, h]) (by simp; rfl), decide_eq_true h]
            refine aH ?_ rfl
            simp only [Sk.V, List.take_length, go_sem, reduceEqDiff, Nat.reduceLT, reduceAdd, reduceSub, reduceLeDiff, reduceReplicate, reduceToNat]
          · rw [hgo2 _ hgr true _ (by simp [kH, hd]; omega) (by simp; rfl)]
            refine aH ?_ rfl
            simp only [Sk.V, List.take_length, go_sem, reduceEqDiff, Nat.reduceLT, reduceAdd, reduceSub, reduceLeDiff, reduceReplicate, reduceToNat]
end Lam
namespace Lam
open Go Go.Proofs
def ExtT (T T1 : List AObj) : Prop := OkT T1 ∧ T1.take T.length = T
theorem ExtT.refl {T : List AObj} (h : OkT T) : ExtT T T := ⟨h, List.take_of_length_le (Nat.le_refl _)⟩
theorem ExtT.len {T T1 : List AObj} (h : ExtT T T1) : T.length ≤ T1.length := by
  have := congrArg List.length h.2
  rw [List.length_take] at this; omega
theorem ExtT.trans {T T1 T2 : List AObj} (h : ExtT T T1) (h' : ExtT T1 T2) : ExtT T T2 :=
  ⟨h'.1, by
    have e : T2.take T.length = (T2.take T1.length).take T.length := by rw [List.take_take, Nat.min_eq_left h.len]
    rw [e, h'.2, h.2]⟩
theorem ExtT.snoc {T T1 : List AObj} (h : ExtT T T1) (k : IntKind) (n : Int) : ExtT T (T1 ++ [.box (.int k n)]) :=
  ⟨h.1.snoc k n, by rw [List.take_append_of_le_length h.len]; exact h.2⟩
abbrev aIr (C : Con) : Ctx := ctx [(109, bW.C)] [(126, aO.K), (127, bA.K), (128, aV.K), (129, bJ.K), (130, aW.K), (131, aF.K), (133, aI.K), (119, C)] bR.loops
def pdqD : Nat → Con
  | 0 => fun _ _ _ => False
  | d + 1 => fun args h K => match args with
    | [a0, a1, a2, a3, a4] => bR.H (aIr (pdqD d)) a0 a1 a2 a3 a4 h K
    | _ => False
theorem pdqD.spec : ∀ d, cP Tryz.prog 119 (pdqD d)
  | 0 => by
    refine cP.of (c := ctx [] [] bR.loops) (bP (by simp) (by simp) bR.loops) bR.at bR.nm bR.bd ?_
    intro args h K hC
    exact hC.elim
  | d + 1 => by
    refine cP.of (c := aIr (pdqD d)) (bP (by simpa using bW.spec) (by simpa using ⟨aO.spec, bA.spec, aV.spec, bJ.spec, aW.spec, aF.spec, aI.spec, pdqD.spec d⟩) bR.loops) bR.at bR.nm bR.bd ?_
    intro args h K hC
    unfold pdqD at hC
    split at hC
    · rw [bR.eq]; exact hC
    · exact hC.elim
theorem aMM (A : SkT) (m : aY → Bool) (v : Nat) (n : Nat) (hr : roomy n) (h255 : n < 256) : ∀ (d : Nat) (l : List RecT) (T : List AObj) (hTn : OkT T) (a b : Nat) (lim : Int) (hn : n = l.length) (hab : a ≤ b) (hbn : b ≤ n) (hd : b < a + d) (hpre : PreS a b l) (hnd : (l.map (·.key)).Nodup) (K : AOut → List AObj → Prop)
    (hK : ∀ l' T', ExtT T T' → SegP a b l l' → SegS a b l' → K (.ret (.tup [])) (hpS A m v l' T')),
    pdqD d [.sref false 2 v 0 n, .int .i64 a, .int .i64 b, .int .i64 lim, hitF] (hpS A m v l T) K
  | 0, l, T, hTn, a, b, lim, hn, hab, hbn, hd, hpre, hnd, K, hK => by omega
  | d + 1, l, T, hTn, a0, b0, lim0, hn, hab0, hbn0, hd, hpre0, hnd, K, hK => by
    have ih := aMM A m v n hr h255 d
    have hr' := hr
    unfold roomy at hr'
    have h2 : 2 < T.length + 1 + 1 + 1 := by omega
    unfold pdqD bR.H
    simp only [hpS, hTn _ _, SkT.norm, h2, aA, aA, gq, reduceEq, reduceLT, reduceLE, implies_true, reduceCtorEq, if_true, if_false, go_sem, reduceEqDiff, Nat.reduceLT, reduceAdd, reduceSub, reduceLeDiff, reduceReplicate, reduceToNat]
    unfold bR.L1
    refine aSu (σ := List RecT × Nat × Nat × Int × Bool × Bool) (fun s => .int .i64 s.2.1) (fun s => .int .i64 s.2.2.1) (fun s => .int .i64 s.2.2.2.1) (fun s => .bool s.2.2.2.2.1) (fun s => .bool s.2.2.2.2.2) (fun s => .box A.V :: .map (.sb m) :: .row .own v (.recs s.1) :: T) (fun s => s.2.2.1 - s.2.1)
      (fun s => a0 ≤ s.2.1 ∧ s.2.1 ≤ s.2.2.1 ∧ s.2.2.1 ≤ b0 ∧ SegP a0 b0 l s.1 ∧ PreS s.2.1 s.2.2.1 s.1 ∧ ∀ l', SegP s.2.1 s.2.2.1 s.1 l' → SegS s.2.1 s.2.2.1 l' → SegS a0 b0 l') (l, a0, b0, lim0, true, true) rfl rfl ⟨Nat.le_refl _, hab0, Nat.le_refl _, SegP.refl, hpre0, fun l' _ h => h⟩ ?_
    rintro I back ⟨l1, a, b, lim, t10, t11⟩ ⟨g1, g2, g3, g4, g5, g6⟩
    simp only at g1 g2 g3 g4 g5 g6 ⊢
    have hl1 := g4.len
    obtain ⟨len, hlen⟩ : ∃ len, b - a = len := ⟨_, rfl⟩
    have e2 : IntKind.i64.wrap ((b : Int) - a) = (len : Int) := by rw [w64 (by omega) (by omega)]; omega
    have hlt : ∀ (l2 : List RecT) (p : Nat), SegP a b l1 l2 → a ≤ p → p < b → 0 < a → ltB (kyL l2 (a - 1)) (kyL l2 p) = true := fun l2 p h1 h3 h4 h5 => by
      rcases g5.keep h1 with h | h
      · omega
      · refine wY (h p h3 h4) fun e => ?_
        have hnd2 : (l2.map (·.key)).Nodup := ((g4.trans (h1.mono g1 g3)).1.map _).nodup_iff.2 hnd
        have hl2 := h1.len
        have h6 := List.pairwise_iff_getElem.1 hnd2 (a - 1) p (by simp; omega) (by simp; omega) (by omega)
        apply h6
        unfold kyL at e
        rw [List.getD_eq_getElem?_getD, List.getD_eq_getElem?_getD, List.getElem?_eq_getElem (by omega), List.getElem?_eq_getElem (by omega)] at e
        simpa using e
    have ea1 : 0 < a → IntKind.i64.wrap ((a : Int) - 1) = ((a - 1 : Nat) : Int) := fun h => by rw [w64 (by omega) (by omega)]; omega
    have eb1 : 0 < b → IntKind.i64.wrap ((b : Int) - 1) = ((b - 1 : Nat) : Int) := fun h => by rw [w64 (by omega) (by omega)]; omega
    have ep1 : ∀ p : Nat, a ≤ p → p < b → IntKind.i64.wrap (((b - 1 : Nat) : Int) - IntKind.i64.wrap ((p : Int) - (a : Int))) = ((b - 1 - (p - a) : Nat) : Int) := fun p h1 h3 => by
      rw [w64 (n := (p : Int) - a) (by omega) (by omega), w64 (n := ((b - 1 : Nat) : Int) - ((p : Int) - (a : Int))) (by omega) (by omega)]; omega
    refine oM fun kb hkb => ?_
    rw [aA]
    simp only [SkT.norm, e2, gq, reduceEq, reduceLT, reduceLE, implies_true, reduceCtorEq, if_true, if_false, go_sem, reduceEqDiff, Nat.reduceLT, reduceAdd, reduceSub, reduceLeDiff, reduceReplicate, reduceToNat]
    refine ⟨fun h12 => ?_, fun h12 => ⟨fun hz => ?_, fun hz => ?_⟩⟩
    · exact aSA A m v l1 T hTn n a b (by omega) g2 (by omega) hr _ fun l' p s => hK l' T (ExtT.refl hTn) (g4.trans (p.mono g1 g3)) (g6 l' p s)
    · exact aOo A m v l1 T hTn n a b (by omega) (by omega) (by omega) hr _ fun l' p s => hK l' T (ExtT.refl hTn) (g4.trans (p.mono g1 g3)) (g6 l' p s)
    have backb : ∀ (l6 : List RecT) (T6 : List AObj) (a' b' : Nat) (lim' : Int) (x y : Bool), ExtT T T6 → a ≤ a' → a' ≤ b' → b' ≤ b → b' - a' < b - a → SegP a b l1 l6 → PreS a' b' l6 → (∀ l7, SegP a' b' l6 l7 → SegS a' b' l7 → SegS a b l7) → kb (.int .i64 a') (.int .i64 b') (.int .i64 lim') (.bool x) (.bool y) (hpS A m v l6 T6) := by
      intro l6 T6 a' b' lim' x y x6 q1 q2 q3 q4 q5 q6 q7
      have hT6 := x6.1
      have hx6 := x6.2
      rw [hkb]
      simp only [hpS, hT6 _ _, hx6, hTn _ _, SkT.norm, h2, gq, reduceEq, reduceLT, reduceLE, implies_true, reduceCtorEq, if_true, if_false, go_sem, reduceEqDiff, Nat.reduceLT, reduceAdd, reduceSub, reduceLeDiff, reduceReplicate, reduceToNat]
      exact back (l6, a', b', lim', x, y) q4 rfl rfl ⟨by simp only; omega, q2, by simp only; omega, g4.trans (q5.mono g1 g3), q6, fun l7 p7 s7 => g6 l7 (q5.trans (p7.mono q1 q3)) (q7 l7 p7 s7)⟩
    clear hkb
    refine oM fun k3 hk3 => ?_
    have rest3 : ∀ (l2 : List RecT) (T2 : List AObj) (lim2 : Int), ExtT T T2 → SegP a b l1 l2 → k3 (.int .i64 lim2) (hpS A m v l2 T2) := by
      intro l2 T2 lim2 x2 p2
      have hT2 := x2.1
      rw [hk3]
      simp only [hpS, hT2 _ _, SkT.norm, gq, reduceEq, reduceLT, reduceLE, implies_true, reduceCtorEq, if_true, if_false, go_sem, reduceEqDiff, Nat.reduceLT, reduceAdd, reduceSub, reduceLeDiff, reduceReplicate, reduceToNat]
      refine aMd A m v l2 T2 hT2 n a b (by rw [p2.len]; omega) (by omega) (by omega) hr _ fun p e s hp1 hp2 he => ?_
      have x3 := x2.snoc .i64 s
      generalize T2 ++ [AObj.box (.int .i64 s)] = T3 at *
      have hT3 := x3.1
      simp only [hpS, hT3 _ _, SkT.norm, gq, reduceEq, reduceLT, reduceLE, implies_true, reduceCtorEq, if_true, if_false, go_sem, reduceEqDiff, Nat.reduceLT, reduceAdd, reduceSub, reduceLeDiff, reduceReplicate, reduceToNat]
      refine oM fun k4 hk4 => ?_
      have rest4 : ∀ (l3 : List RecT) (p : Nat) (e : Int), SegP a b l1 l3 → a ≤ p → p < b → k4 (.int .i64 p) (.int .i64 e) (hpS A m v l3 T3) := by
        intro l3 p e p3 hp1 hp2
        have hl3 := p3.len
        rw [hk4]
        cases t10 <;> cases t11 <;> simp only [hpS, hT3 _ _, SkT.norm, gq, reduceEq, reduceLT, reduceLE, implies_true, reduceCtorEq, if_true, if_false, go_sem, reduceEqDiff, Nat.reduceLT, reduceAdd, reduceSub, reduceLeDiff, reduceReplicate, reduceToNat]
        all_goals (rw [aA]; simp only [gq, reduceEq, reduceLT, reduceLE, implies_true, reduceCtorEq, if_true, if_false, go_sem, reduceEqDiff, Nat.reduceLT, reduceAdd, reduceSub, reduceLeDiff, reduceReplicate, reduceToNat])
        all_goals
          refine oM fun k7 hk7 => ?_
          have rest7 : ∀ l4, SegP a b l1 l4 → k7 (hpS A m v l4 T3) := by
            intro l4 p4
            have hl4 := p4.len
            rw [hk7]
            refine oM fun k8 hk8 => ?_
            have rest8 : ∀ x y, ((x = .bool true ∧ y = .bool false) ∨ (x = .bool false ∧ y = .und)) → k8 x y (hpS A m v l4 T3) := by
              rintro x y hxy
              rw [hk8]
              rcases hxy with ⟨rfl, rfl⟩ | ⟨rfl, rfl⟩ <;> simp only [hpS, hT3 _ _, SkT.norm, gq, reduceEq, reduceLT, reduceLE, implies_true, reduceCtorEq, if_true, if_false, go_sem, reduceEqDiff, Nat.reduceLT, reduceAdd, reduceSub, reduceLeDiff, reduceReplicate, reduceToNat]
              all_goals
                refine aHL A m v l4 T3 hT3 n a b p (by omega) (by omega) (by omega) hp1 hp2 hr _ fun l5 q al p5 hq1 hq2 hpt => ?_
                have hl5 := p5.len
                have P5 := p4.trans p5
                have f1 : IntKind.i64.wrap ((q : Int) - a) = ((q - a : Nat) : Int) := by rw [w64 (by omega) (by omega)]; omega
                have f2 : IntKind.i64.wrap ((b : Int) - q) = ((b - q : Nat) : Int) := by rw [w64 (by omega) (by omega)]; omega
                have hnd5 : (l5.map (·.key)).Nodup := ((g4.trans (P5.mono g1 g3)).1.map _).nodup_iff.2 hnd
                simp only [hpS, hT3 _ _, SkT.norm, f1, f2, fA (show q < 4611686018427387904 by omega), gq, reduceEq, reduceLT, reduceLE, implies_true, reduceCtorEq, if_true, if_false, go_sem, reduceEqDiff, Nat.reduceLT, reduceAdd, reduceSub, reduceLeDiff, reduceReplicate, reduceToNat]
                refine oM fun k9 hk9 => ?_
                have rest9 : ∀ (l6 : List RecT) (T6 : List AObj) (a' b' : Nat) (x : Bool), ExtT T T6 → a ≤ a' → a' ≤ b' → b' ≤ b → b' - a' < b - a → SegP a b l1 l6 → PreS a' b' l6 → (∀ l7, SegP a' b' l6 l7 → SegS a' b' l7 → SegS a b l7) → k9 (.int .i64 a') (.int .i64 b') (.bool x) (hpS A m v l6 T6) := fun l6 T6 a' b' x q0 q1 q2 q3 q4 q5 q6 q7 => by
                  rw [hk9]; exact backb l6 T6 a' b' lim2 x al q0 q1 q2 q3 q4 q5 q6 q7
                clear hk9
                rw [aA]
                refine ⟨fun hlt1 => ?_, fun hge => ?_⟩
                · refine ih l5 T3 hT3 a q lim2 (by omega) hq1 (by omega) (by omega) ((g5.keep P5).imp id fun h k k1 k2 => h k k1 (by omega)) hnd5 _ fun l6 T6 x6 p6 s6 => ?_
                  have hT6 := x6.1
                  have hl := hpt.left p6
                  simp only [hpS, hT6 _ _, SkT.norm, fA (show q < 4611686018427387904 by omega), gq, reduceEq, reduceLT, reduceLE, implies_true, reduceCtorEq, if_true, if_false, go_sem, reduceEqDiff, Nat.reduceLT, reduceAdd, reduceSub, reduceLeDiff, reduceReplicate, reduceToNat]
                  exact rest9 l6 T6 (q + 1) b _ (x3.trans x6) (by omega) (by omega) (Nat.le_refl _) (by omega) (P5.trans (p6.mono (Nat.le_refl _) (by omega))) (.inr fun k k1 k2 => hl.2 k (by omega) k2) fun l7 p7 s7 => (hl.right p7).sorted (s6.keep p7 (.inl (by omega))) s7
                · refine ih l5 T3 hT3 (q + 1) b lim2 (by omega) (by omega) (by omega) (by omega) (.inr fun k k1 k2 => hpt.2 k (by omega) k2) hnd5 _ fun l6 T6 x6 p6 s6 => ?_
                  have hT6 := x6.1
                  have hl := hpt.right p6
                  have P6 := P5.trans (p6.mono (by omega) (Nat.le_refl _))
                  simp only [hpS, hT6 _ _, SkT.norm, fA (show q < 4611686018427387904 by omega), gq, reduceEq, reduceLT, reduceLE, implies_true, reduceCtorEq, if_true, if_false, go_sem, reduceEqDiff, Nat.reduceLT, reduceAdd, reduceSub, reduceLeDiff, reduceReplicate, reduceToNat]
                  exact rest9 l6 T6 a q _ (x3.trans x6) (Nat.le_refl _) (by omega) (by omega) (by omega) P6 ((g5.keep P6).imp id fun h k k1 k2 => h k k1 (by omega)) fun l7 p7 s7 => (hl.left p7).sorted s7 (s6.keep p7 (.inr (by omega)))
            clear hk8
            rw [aA]
            by_cases ha0 : 0 < a
            · have hlt0 := hlt l4 p p4 hp1 hp2 ha0
              have da : decide ((0 : Int) < (a : Int)) = true := decide_eq_true (by omega)
              simp only [hpS, hT3 _ _, SkT.norm, da, hlt0, ea1 ha0, Int.toNat_natCast, bW.C, iQ, iJ, jE, gq, reduceEq, reduceLT, reduceLE, implies_true, reduceCtorEq, if_true, if_false, go_sem, reduceEqDiff, Nat.reduceLT, reduceAdd, reduceSub, reduceLeDiff, reduceReplicate, reduceToNat]
              refine ⟨⟨by omega, by omega⟩, by omega, ⟨by omega, by omega⟩, by omega, ?_⟩
              exact rest8 _ _ (.inl ⟨rfl, rfl⟩)
            · have da : decide ((0 : Int) < (a : Int)) = false := decide_eq_false (by omega)
              simp only [hpS, da, gq, reduceEq, reduceLT, reduceLE, implies_true, reduceCtorEq, if_true, if_false, go_sem, reduceEqDiff, Nat.reduceLT, reduceAdd, reduceSub, reduceLeDiff, reduceReplicate, reduceToNat]
              exact rest8 _ _ (.inr ⟨rfl, rfl⟩)
          clear hk7
          rw [aA]
          first
            | exact rest7 l3 p3
            | refine ⟨fun _ => aOn A m v l3 T3 hT3 n a b (by omega) (by omega) (by omega) (g5.keep p3) hr _ (fun l4 p4 s4 => ?_) fun l4 p4 => ?_, fun _ => rest7 l3 p3⟩
              · simp only [hpS, gq, reduceEq, reduceLT, reduceLE, implies_true, reduceCtorEq, if_true, if_false, go_sem, reduceEqDiff, Nat.reduceLT, reduceAdd, reduceSub, reduceLeDiff, reduceReplicate, reduceToNat]
                exact hK l4 T3 x3 (g4.trans ((p3.trans p4).mono g1 g3)) (g6 l4 (p3.trans p4) s4)
              · simp only [hpS, gq, reduceEq, reduceLT, reduceLE, implies_true, reduceCtorEq, if_true, if_false, go_sem, reduceEqDiff, Nat.reduceLT, reduceAdd, reduceSub, reduceLeDiff, reduceReplicate, reduceToNat]
                exact rest7 l4 (p3.trans p4)
      rw [aA]
      simp only [eb1 (by omega), ep1 p hp1 hp2, gq, reduceEq, reduceLT, reduceLE, implies_true, reduceCtorEq, if_true, if_false, go_sem, reduceEqDiff, Nat.reduceLT, reduceAdd, reduceSub, reduceLeDiff, reduceReplicate, reduceToNat]
      refine ⟨fun he2 => aKV A m v l2 T3 hT3 n a b (by rw [p2.len]; omega) (by omega) (by omega) hr _ fun l3 p3 => ?_, fun _ => rest4 l2 p e p2 hp1 hp2⟩
      simp only [hpS, hT3 _ _, SkT.norm, gq, reduceEq, reduceLT, reduceLE, implies_true, reduceCtorEq, if_true, if_false, go_sem, reduceEqDiff, Nat.reduceLT, reduceAdd, reduceSub, reduceLeDiff, reduceReplicate, reduceToNat]
      exact rest4 l3 (b - 1 - (p - a)) 1 (p2.trans p3) (by omega) (by omega)
    rw [aA]
    cases t10 with
    | false =>
      simp only [gq, reduceEq, reduceLT, reduceLE, implies_true, reduceCtorEq, if_true, if_false, go_sem, reduceEqDiff, Nat.reduceLT, reduceAdd, reduceSub, reduceLeDiff, reduceReplicate, reduceToNat]
      refine aNl A m v l1 T hTn n a b (by omega) (by omega) (by omega) (by omega) hr _ fun l2 y p2 => ?_
      have x2 := (ExtT.refl hTn).snoc .u64 y
      have hT2 := x2.1
      simp only [hpS, gq, reduceEq, reduceLT, reduceLE, implies_true, reduceCtorEq, if_true, if_false, go_sem, reduceEqDiff, Nat.reduceLT, reduceAdd, reduceSub, reduceLeDiff, reduceReplicate, reduceToNat]
      exact rest3 l2 _ _ x2 p2
    | true =>
      simp only [gq, reduceEq, reduceLT, reduceLE, implies_true, reduceCtorEq, if_true, if_false, go_sem, reduceEqDiff, Nat.reduceLT, reduceAdd, reduceSub, reduceLeDiff, reduceReplicate, reduceToNat]
      exact rest3 l1 T lim (ExtT.refl hTn) SegP.refl
def bB.K : Con := fun args h K => match args with
  | [a0, a1] => bB.H (ctx [(120, dK.C)] [(119, pdqD 256)] bB.loops) a0 a1 h K
  | _ => False
theorem bB.spec : cP Tryz.prog 108 bB.K := by
  refine cP.of (c := ctx [(120, dK.C)] [(119, pdqD 256)] bB.loops) (bP (by simpa using dK.spec) (by simpa using pdqD.spec 256) bB.loops) bB.at bB.nm bB.bd ?_
  intro args h K hC
  unfold bB.K at hC
  split at hC
  · rw [bB.eq]; exact hC
  · exact hC.elim
theorem aOr (A : SkT) (m : aY → Bool) (v : Nat) (l : List RecT) (n : Nat) (hn : n = l.length) (h255 : n < 256) (hnd : (l.map (·.key)).Nodup) (K : AOut → List AObj → Prop)
    (hK : ∀ l' T, l'.Perm l → SegS 0 n l' → K (.ret (.tup [])) (hpS A m v l' T)) :
    bB.K [.sref false 2 v 0 n, hitF] (hpS A m v l []) K := by
  have hr : roomy n := by unfold roomy; omega
  have e1 : IntKind.u64.wrap (n : Int) = n := aAt (by omega) (by omega)
  unfold bB.K bB.H
  simp only [hpS, dK.C, e1, Int.toNat_natCast, aA, gq, reduceEq, reduceLT, reduceLE, implies_true, reduceCtorEq, if_true, if_false, go_sem, reduceEqDiff, Nat.reduceLT, reduceAdd, reduceSub, reduceLeDiff, reduceReplicate, reduceToNat]
  exact ⟨⟨by omega, by omega⟩, aMM A m v n hr h255 256 l [] OkT.nil 0 n _ hn (Nat.zero_le _) (Nat.le_refl _) (by omega) (.inl rfl) hnd _ fun l' T' _ s1 s2 => hK l' T' s1.1 s2⟩
end Lam
namespace Lam
open Go Go.Proofs
def rcT (x : Rc) : RecT := ⟨x.kind, x.key, x.val, x.child⟩
def hitS (w : List Int) (out : List RecT) (r : Int) : List RecT := match recO w r with
  | none => out
  | some x => if x.key ∈ out.map (·.key) then out else out ++ [rcT x]
def iY (w refs : List Int) : List RecT := refs.foldl (hitS w) []
theorem aMg (w : List Int) (out : List RecT) (r : Int) : (hitS w out r).length ≤ out.length + 1 := by
  unfold hitS
  split
  · omega
  · split
    · omega
    · simp
theorem aJB {w : List Int} {out : List RecT} {r : Int} (h : (out.map (·.key)).Nodup) : ((hitS w out r).map (·.key)).Nodup := by
  unfold hitS
  split
  · exact h
  · split
    · exact h
    · rename_i x _ hx
      rw [List.map_append, List.nodup_append]
      refine ⟨h, by simp, fun a ha b hb => ?_⟩
      simp only [List.map_cons, List.map_nil, List.mem_singleton] at hb
      subst hb
      rintro rfl
      exact hx ha
theorem aAL {w : List Int} : ∀ {refs : List Int} {out : List RecT}, (out.map (·.key)).Nodup → ((refs.foldl (hitS w) out).map (·.key)).Nodup ∧ (refs.foldl (hitS w) out).length ≤ out.length + refs.length
  | [], out, h => ⟨h, by simp⟩
  | r :: refs, out, h => by
    obtain ⟨h1, h2⟩ := aAL (refs := refs) (aJB (r := r) (w := w) h)
    have := aMg w out r
    exact ⟨h1, by simp only [List.foldl_cons, List.length_cons]; omega⟩
def insR (x : RecT) : List RecT → List RecT
  | [] => [x]
  | y :: l => if ltB x.key y.key = true then x :: y :: l else y :: insR x l
def uS (l : List RecT) : List RecT := l.foldr insR []
theorem aAM (x : RecT) : ∀ l : List RecT, (insR x l).Perm (x :: l)
  | [] => .refl _
  | y :: l => by
    unfold insR
    split
    · exact .refl _
    · exact ((aAM x l).cons y).trans (.swap x y l)
theorem rS : ∀ l : List RecT, (uS l).Perm l
  | [] => .refl _
  | x :: l => (aAM x _).trans ((rS l).cons x)
def ltR (x y : RecT) : Prop := ltB x.key y.key = true
theorem aDw {x : RecT} : ∀ {l : List RecT}, l.Pairwise ltR → (∀ y ∈ l, y.key ≠ x.key) → (insR x l).Pairwise ltR
  | [], _, _ => by simp [insR]
  | y :: l, h, hx => by
    rw [List.pairwise_cons] at h
    unfold insR
    split
    · rename_i hl
      rw [List.pairwise_cons]
      refine ⟨fun z hz => ?_, List.pairwise_cons.2 h⟩
      rcases List.mem_cons.1 hz with rfl | hz
      · exact hl
      · exact lR hl (h.1 z hz)
    · rename_i hl
      rw [List.pairwise_cons]
      refine ⟨fun z hz => ?_, aDw h.2 fun z hz => hx z (by simp [hz])⟩
      rcases List.mem_cons.1 ((aAM x l).mem_iff.1 hz) with rfl | hz
      · exact wY (by unfold leB; simpa using hl) (hx y (by simp))
      · exact h.1 z hz
theorem xB : ∀ {l : List RecT}, (l.map (·.key)).Nodup → (uS l).Pairwise ltR
  | [], _ => List.Pairwise.nil
  | x :: l, h => by
    rw [List.map_cons, List.nodup_cons] at h
    refine aDw (xB h.2) fun y hy he => h.1 ?_
    rw [← he]
    exact List.mem_map_of_mem (f := (·.key)) ((rS l).mem_iff.1 hy)
theorem aCm : ∀ {l l' : List RecT}, l.Pairwise ltR → l'.Pairwise ltR → l.Perm l' → l = l'
  | [], l', _, _, p => p.nil_eq
  | x :: l, [], _, _, p => by have := p.length_eq; simp at this
  | x :: l, y :: l', h, h', p => by
    rw [List.pairwise_cons] at h h'
    have e : x = y := by
      rcases List.mem_cons.1 (p.mem_iff.1 (List.mem_cons_self (a := x))) with e | hx
      · exact e
      · rcases List.mem_cons.1 (p.mem_iff.2 (List.mem_cons_self (a := y))) with e | hy
        · exact e.symm
        · have := lR (h.1 y hy) (h'.1 x hx)
          rw [vU] at this; cases this
    subst e
    rw [aCm h.2 h'.2 (List.Perm.cons_inv p)]
theorem aKY {l l' : List RecT} (hp : l'.Perm l) (hs : SegS 0 l.length l') (hn : (l.map (·.key)).Nodup) : l' = uS l := by
  refine aCm ?_ (xB hn) (hp.trans (rS l).symm)
  have hn' : (l'.map (·.key)).Nodup := (hp.map _).nodup_iff.2 hn
  rw [List.pairwise_iff_getElem]
  intro i j hi hj hij
  have h1 := hs i j (Nat.zero_le _) hij (by rw [← hp.length_eq]; exact hj)
  unfold kyL at h1
  rw [List.getD_eq_getElem?_getD, List.getD_eq_getElem?_getD, List.getElem?_eq_getElem hi, List.getElem?_eq_getElem hj] at h1
  refine wY h1 fun e => ?_
  have := List.pairwise_iff_getElem.1 hn' i j (by simpa using hi) (by simpa using hj) hij
  apply this
  simpa using e
def fZ.C : aE
  | [.sl _ (.ints .i64 w), .agg [.int .i64 b, .int .i64 t, .int .i64 a, .sl _ (.ints .i64 l), .bool o]] => some (false, pD (roomy w.length ∧ l.length ≤ 200) (.sl false (.recs (uS (iY w l)))))
  | _ => none
theorem fZ.spec : bO Tryz.prog 89 fZ.C := by
  refine bO.of (bP (F := [(79, eD.C)]) (S := [(108, bB.K)]) (by simpa using eD.spec) (by simpa using bB.spec) fZ.loops) fZ.at fZ.nm fZ.bd ?_
  intro vs b S v news e hS
  unfold fZ.C at e
  split at e
  rotate_left
  · cases e
  cases e
  rw [fZ.eq]
  unfold fZ.H
  simp (maxSteps := 4000000) only [go_sem, reduceEqDiff, Nat.reduceLT, reduceAdd, reduceSub, reduceLeDiff, reduceReplicate, reduceToNat, eD.C]
  rename_i _ w b t a x l o
  obtain ⟨hw, hl⟩ := hS
  rw [aA]
  unfold fZ.L1
  refine qD (σ := Nat) (fun k => .sref false 2 (iY w (l.take k)).length 0 (iY w (l.take k)).length) (fun k => .int .i64 k) (fun k => [.box (Sk.V ⟨b, t, a, l, o⟩), .map (.sb fun s => decide (s ∈ (iY w (l.take k)).map (·.key))), .row .own (iY w (l.take k)).length (.recs (iY w (l.take k)))]) (fun k => l.length - k) (fun k => k ≤ l.length) 0 rfl (by simp [iY, Sk.V]) (Nat.zero_le _) ?_
  intro I back k hk
  have hnext : k < l.length → iY w (l.take (k + 1)) = hitS w (iY w (l.take k)) (l.getD k 0) := fun h => by
    unfold iY; rw [iG l k 0 h, List.foldl_append]; rfl
  obtain ⟨hnd, hol⟩ := aAL (w := w) (refs := l.take k) (out := []) (by simp)
  have hnd : ((iY w (l.take k)).map (·.key)).Nodup := hnd
  have hol : (iY w (l.take k)).length ≤ k := by
    have : (iY w (l.take k)).length ≤ 0 + (l.take k).length := hol
    rw [List.length_take] at this; omega
  by_cases hlt : k < l.length
  · have hb : ∀ (n : Nat) (lv : List AV) (h : List AObj), _ := fun n lv h => @back n lv h (k + 1)
    rw [hnext hlt] at hb
    clear back hnext
    generalize iY w (l.take k) = out at *
    cases hx : recO w (l.getD k 0) with
    | none =>
      obtain ⟨e, he, hr⟩ := aKX hx
      have hs : hitS w out (l.getD k 0) = out := by unfold hitS; rw [hx]
      rw [hs] at hb
      simp only [eD.C, hr, kC, he, decide_false, aA, Sk.V, aA, gq, reduceEq, reduceLT, reduceLE, implies_true, reduceCtorEq, if_true, if_false, go_sem, reduceEqDiff, Nat.reduceLT, reduceAdd, reduceSub, reduceLeDiff, reduceReplicate, reduceToNat]
      exact ⟨fun _ => ⟨⟨by omega, by omega⟩, hw, hb _ _ _ (by omega) (by rw [fA (by omega)]) rfl (by omega)⟩, fun h => absurd h (by omega)⟩
    | some y =>
      obtain ⟨y1, y2, y3, y4⟩ := y
      by_cases hin : y2 ∈ out.map (·.key)
      · have hs : hitS w out (l.getD k 0) = out := by unfold hitS; rw [hx]; simp only [hin, if_true]
        rw [hs] at hb
        simp only [eD.C, aEP hx, hin, decide_true, aA, Sk.V, aA, gq, reduceEq, reduceLT, reduceLE, implies_true, reduceCtorEq, if_true, if_false, go_sem, reduceEqDiff, Nat.reduceLT, reduceAdd, reduceSub, reduceLeDiff, reduceReplicate, reduceToNat]
        exact ⟨fun _ => ⟨⟨by omega, by omega⟩, hw, hb _ _ _ (by omega) (by rw [fA (by omega)]) rfl (by omega)⟩, fun h => absurd h (by omega)⟩
      · have hs : hitS w out (l.getD k 0) = out ++ [⟨y1, y2, y3, y4⟩] := by unfold hitS; rw [hx]; simp only [hin, if_false]; rfl
        rw [hs] at hb
        have hmap : (fun j => if j = y2 then true else decide (j ∈ out.map (·.key))) = fun j => decide (j ∈ (out ++ [(⟨y1, y2, y3, y4⟩ : RecT)]).map (·.key)) := by
          funext j
          rw [List.map_append, show decide (j ∈ out.map (·.key) ++ [(⟨y1, y2, y3, y4⟩ : RecT)].map (·.key)) = decide (j ∈ out.map (·.key) ∨ j = y2) from decide_eq_decide.2 (by simp)]
          by_cases e : j = y2
          · simp [e]
          · simp [e]
        simp only [eD.C, aEP hx, hin, decide_false, aA, Sk.V, aA, gq, reduceEq, reduceLT, reduceLE, implies_true, reduceCtorEq, if_true, if_false, go_sem, reduceEqDiff, Nat.reduceLT, reduceAdd, reduceSub, reduceLeDiff, reduceReplicate, reduceToNat]
        have hl1 : (out ++ [(⟨y1, y2, y3, y4⟩ : RecT)]).length = out.length + 1 := by simp
        refine ⟨fun _ => ⟨⟨by omega, by omega⟩, hw, by rw [hl1]; unfold roomy; omega, hb _ _ _ (by omega) (by rw [fA (by omega), hl1]) (by rw [hmap, hl1]; rfl) (by omega)⟩, fun h => absurd h (by omega)⟩
  · obtain rfl : k = l.length := by omega
    rw [List.take_length] at hnd hol ⊢
    clear back hnext
    simp only [Sk.V, aA, gq, reduceEq, reduceLT, reduceLE, implies_true, reduceCtorEq, if_true, if_false, go_sem, reduceEqDiff, Nat.reduceLT, reduceAdd, reduceSub, reduceLeDiff, reduceReplicate, reduceToNat]
    refine ⟨fun h => absurd h (by omega), fun _ => ?_⟩
    refine aOr ⟨b, t, a, l, o⟩ _ _ (iY w l) _ rfl (by omega) hnd _ fun l' tl hp hs => ?_
    simp only [hpS, SkT.V, aA, gq, reduceEq, reduceLT, reduceLE, implies_true, reduceCtorEq, if_true, if_false, go_sem, reduceEqDiff, Nat.reduceLT, reduceAdd, reduceSub, reduceLeDiff, reduceReplicate, reduceToNat]
    have e := aKY hp hs hnd
    rw [← e]
    refine aH ?_ rfl
    simp only [List.take_of_length_le (Nat.le_of_eq hp.length_eq), go_sem, reduceEqDiff, Nat.reduceLT, reduceAdd, reduceSub, reduceLeDiff, reduceReplicate, reduceToNat]
end Lam
namespace Lam
open Go Go.Proofs
def fQ.loops : Nat → bV
 | 2 => ⟨[], [], [], [(4, none), (3, some [12, 15])], [], []⟩
 | _ => ⟨[], [], [], [], [], []⟩
def fQ.H (c : Ctx) (t0 : AV) (t1 : AV) (h : List AObj) (K : AOut → List AObj → Prop) : Prop :=
 boxW aM t0 h fun t2 h =>
 boxW aU t1 h fun t3 h =>
 cT aM h fun t4 h =>
 cT aU h fun t5 h =>
 aS false c (.fn (.func 36) [] []) [] h (fun t8 h =>
 cT iN h fun t6 h =>
 runH (aR iN h t6 t8) h fun _ h =>
 runD (aC aU t3 1) h fun t9 h =>
 runD (fitD aB (aD h t9)) h fun t10 h =>
 runD (binD aB .lss t10 (.int .i64 1)) h fun t11 h =>
 aL (fun (J1 : AV → AV → List AObj → Prop) =>
 bC t11 false
 (runD (aC aU t3 1) h fun t13 h =>
 runD (fitD aB (aD h t13)) h fun t14 h =>
 runD (binD aB .geq t14 (.int .i64 8)) h fun t15 h =>
 J1 (.bool false) t15 h)
 (J1 (.bool true) .und h))
 (fun t12 t15 h => runD (bS t12 (.bool true) t15) h fun t16 h =>
 bF t16
 (runD (fitD aM (aD h t2)) h fun t17 h =>
 runD (fitD aU (aD h t3)) h fun t18 h =>
 runH (aR aM h t4 t17) h fun _ h =>
 runH (aR aU h t5 t18) h fun _ h =>
 sepB t4 [t3] = true ∧ cZ (fitD aM (aD h t4)) fun r0 => cZ (fitD aU (aD h t5)) fun r1 => K (.ret (.tup [r0, r1])) h)
 (runD (fitD aM (aD h t2)) h fun t19 h =>
 runD (fitD aU (aD h t3)) h fun t20 h =>
 runD (gY cE [(0, t19), (1, t20)]) h fun t21 h =>
 boxW cE t21 h fun t22 h =>
 runD (aC aU t3 1) h fun t23 h =>
 runD (fitD aB (aD h t23)) h fun t24 h =>
 runD (aG iN h t6 t24) h fun t25 h =>
 runD (fitD rJ (aD h t25)) h fun t26 h =>
 aS false c t26 [t22] h (fun t28 h =>
 runD (bK t22) h fun t30 h =>
 runD (aC cE t30 0) h fun t31 h =>
 runD (fitD aM (aD h t31)) h fun t32 h =>
 runD (bK t22) h fun t34 h =>
 runD (aC cE t34 1) h fun t35 h =>
 runD (fitD aU (aD h t35)) h fun t36 h =>
 runH (aR aM h t4 t32) h fun _ h =>
 runH (aR aU h t5 t36) h fun _ h =>
 sepB t4 [t35] = true ∧ cZ (fitD aM (aD h t4)) fun r0 => cZ (fitD aU (aD h t5)) fun r1 => K (.ret (.tup [r0, r1])) h)
 (fun v h => K (.pan v) h))))
 (fun v h => K (.pan v) h)
def eY.loops : Nat → bV
 | _ => ⟨[], [], [], [], [], []⟩
def eY.H (c : Ctx) (t0 : AV) (t1 : AV) (h : List AObj) (K : AOut → List AObj → Prop) : Prop :=
 cT aU h fun t4 h =>
 aS false c (.fn (.func 53) [] []) [t1] h (fun t10 h =>
 runD (unD .not t10) h fun t11 h =>
 bF t11
 (runD (gY aU []) h fun t12 h =>
 runH (aR aU h t4 t12) h fun _ h =>
 cZ (fitD aU (aD h t4)) fun r0 => K (.ret (.tup [r0, (.int .i64 20)])) h)
 (aS false c (.fn (.func 38) [] []) [t0] h (fun t15 h =>
 runD (bE t15 0) h fun t16 h =>
 runD (bE t15 1) h fun t17 h =>
 runD (bE t15 2) h fun t18 h =>
 runD (binD cM .neq t18 (.int .i64 0)) h fun t20 h =>
 aL (fun (J1 : AV → List AObj → Prop) =>
 bF t20
 (J1 (.int .i64 1) h)
 (J1 t17 h))
 (fun t7 h => runD (gY aU [(0, t1), (1, (.int .i64 1)), (2, t7)]) h fun t23 h =>
 runH (aR aU h t4 t23) h fun _ h =>
 cZ (fitD aU (aD h t4)) fun r0 => K (.ret (.tup [r0, (.int .i64 0)])) h))
 (fun v h => K (.pan v) h)))
 (fun v h => K (.pan v) h)
def eT.loops : Nat → bV
 | _ => ⟨[], [], [], [], [], []⟩
def eT.H (c : Ctx) (h : List AObj) (K : AOut → List AObj → Prop) : Prop :=
 cT iN h fun t0 h =>
 runD (gY iN [(1, (.fn (.func 58) [] [])), (2, (.fn (.func 59) [] [])), (3, (.fn (.func 60) [] [])), (4, (.fn (.func 61) [] [])), (5, (.fn (.func 62) [] [])), (6, (.fn (.func 63) [] [])), (7, (.fn (.func 64) [] []))]) h fun t1 h =>
 runH (aR iN h t0 t1) h fun _ h =>
 cZ (fitD iN (aD h t0)) fun r0 => K (.ret r0) h
def dM.loops : Nat → bV
 | 1 => ⟨[], [], [], [(3, none), (3, some [22, 25])], [], []⟩
 | 4 => ⟨[], [], [], [(3, none), (2, some [55, 57])], [], []⟩
 | _ => ⟨[], [], [], [], [], []⟩
def dM.H (c : Ctx) (t0 : AV) (h : List AObj) (K : AOut → List AObj → Prop) : Prop :=
 runD (bK t0) h fun t8 h =>
 runD (aC cE t8 0) h fun t9 h =>
 runD (aC aM t9 0) h fun t10 h =>
 runD (fitD aK (aD h t10)) h fun t11 h =>
 runD (bK t0) h fun t13 h =>
 runD (aC cE t13 1) h fun t14 h =>
 runD (aC aU t14 2) h fun t15 h =>
 runD (fitD aB (aD h t15)) h fun t16 h =>
 aS false c.noS (.fn (.func 46) [] []) [t11, t16] h (fun t17 h =>
 runD (bE t17 0) h fun t18 h =>
 runD (bE t17 1) h fun t19 h =>
 cT bD h fun t2 h =>
 runH (aR bD h t2 t18) h fun _ h =>
 runD (binD cM .eql t19 (.int .i64 0)) h fun t21 h =>
 aL (fun (J1 : AV → AV → List AObj → Prop) =>
 bC t21 true
 (runD (aC bD t2 0) h fun t23 h =>
 runD (fitD aB (aD h t23)) h fun t24 h =>
 runD (binD aB .eql t24 (.int .i64 0)) h fun t25 h =>
 J1 (.bool true) t25 h)
 (J1 (.bool false) .und h))
 (fun t22 t25 h => runD (bS t22 t25 (.bool false)) h fun t26 h =>
 bF t26
 (runD (bK t0) h fun t29 h =>
 runD (aC cE t29 1) h fun t30 h =>
 runD (aC aU t30 2) h fun t31 h =>
 runD (fitD aB (aD h t31)) h fun t32 h =>
 aS false c (.fn (.func 88) [] []) [t0, t32] h (fun t33 h =>
 K (.ret (.tup [])) h)
 (fun v h => K (.pan v) h))
 (runD (bK t0) h fun t36 h =>
 runD (aC cE t36 0) h fun t37 h =>
 runD (aC aM t37 0) h fun t38 h =>
 runD (fitD aK (aD h t38)) h fun t39 h =>
 runD (bK t0) h fun t41 h =>
 runD (aC cE t41 1) h fun t42 h =>
 runD (aC aU t42 2) h fun t43 h =>
 runD (fitD aB (aD h t43)) h fun t44 h =>
 runD (bK t0) h fun t46 h =>
 runD (aC cE t46 1) h fun t47 h =>
 runD (aC aU t47 0) h fun t48 h =>
 runD (fitD cH (aD h t48)) h fun t49 h =>
 aS false c.noS (.fn (.func 49) [] []) [t39, t44, t49, (.int .i64 0)] h (fun t50 h =>
 runD (bE t50 0) h fun t51 h =>
 runD (bE t50 1) h fun t52 h =>
 runD (binD cM .neq t19 (.int .i64 0)) h fun t54 h =>
 aL (fun (J2 : AV → AV → List AObj → Prop) =>
 bC t54 false
 (runD (binD cM .neq t52 (.int .i64 0)) h fun t57 h =>
 J2 (.bool false) t57 h)
 (J2 (.bool true) .und h))
 (fun t55 t57 h => runD (bS t55 (.bool true) t57) h fun t58 h =>
 bF t58
 (aS false c (.fn (.func 88) [] []) [t0, (.int .i64 1)] h (fun t60 h =>
 K (.ret (.tup [])) h)
 (fun v h => K (.pan v) h))
 (runD (bK t0) h fun t63 h =>
 runD (aC cE t63 1) h fun t64 h =>
 runD (aC aU t64 2) h fun t65 h =>
 runH (aR aB h t65 t51) h fun _ h =>
 K (.ret (.tup [])) h)))
 (fun _ _ => False))))
 (fun _ _ => False)
def dN.loops : Nat → bV
 | _ => ⟨[], [], [], [], [], []⟩
def dN.H (c : Ctx) (t0 : AV) (h : List AObj) (K : AOut → List AObj → Prop) : Prop :=
 runD (bK t0) h fun t6 h =>
 runD (aC cE t6 0) h fun t7 h =>
 runD (aC aM t7 0) h fun t8 h =>
 runD (fitD aK (aD h t8)) h fun t9 h =>
 runD (bK t0) h fun t11 h =>
 runD (aC cE t11 1) h fun t12 h =>
 runD (aC aU t12 2) h fun t13 h =>
 runD (fitD aB (aD h t13)) h fun t14 h =>
 aS false c.noS (.fn (.func 40) [] []) [t9, t14] h (fun t15 h =>
 runD (bE t15 0) h fun t16 h =>
 runD (bE t15 1) h fun t17 h =>
 cT bX h fun t2 h =>
 runH (aR bX h t2 t16) h fun _ h =>
 runD (binD cM .neq t17 (.int .i64 0)) h fun t19 h =>
 bF t19
 (runD (bK t0) h fun t21 h =>
 runD (aC cE t21 1) h fun t22 h =>
 runD (aC aU t22 1) h fun t23 h =>
 runH (aR aB h t23 (.int .i64 8)) h fun _ h =>
 K (.ret (.tup [])) h)
 (runD (fitD bX (aD h t2)) h fun t26 h =>
 runD (bK t0) h fun t27 h =>
 runD (aC cE t27 1) h fun t28 h =>
 runD (aC aU t28 4) h fun t29 h =>
 runH (aR bX h t29 t26) h fun _ h =>
 runD (bK t0) h fun t30 h =>
 runD (aC cE t30 1) h fun t31 h =>
 runD (aC aU t31 1) h fun t32 h =>
 runH (aR aB h t32 (.int .i64 3)) h fun _ h =>
 K (.ret (.tup [])) h))
 (fun _ _ => False)
def dA.loops : Nat → bV
 | _ => ⟨[], [], [], [], [], []⟩
def dA.H (c : Ctx) (t0 : AV) (h : List AObj) (K : AOut → List AObj → Prop) : Prop :=
 runD (bK t0) h fun t4 h =>
 runD (aC cE t4 0) h fun t5 h =>
 runD (aC aM t5 0) h fun t6 h =>
 runD (fitD aK (aD h t6)) h fun t7 h =>
 runD (bK t0) h fun t9 h =>
 runD (aC cE t9 1) h fun t10 h =>
 runD (aC aU t10 4) h fun t11 h =>
 runD (fitD bX (aD h t11)) h fun t12 h =>
 aS false c.noS (.fn (.func 41) [] []) [t7, t12] h (fun t13 h =>
 runD (bK t0) h fun t14 h =>
 runD (aC cE t14 1) h fun t15 h =>
 runD (aC aU t15 4) h fun t16 h =>
 runH (aR bX h t16 t13) h fun _ h =>
 runD (bK t0) h fun t18 h =>
 runD (aC cE t18 1) h fun t19 h =>
 runD (aC aU t19 4) h fun t20 h =>
 runD (aC bX t20 4) h fun t21 h =>
 runD (fitD lC (aD h t21)) h fun t22 h =>
 aL (fun (J1 : List AObj → Prop) =>
 bF t22
 (runD (bK t0) h fun t24 h =>
 runD (aC cE t24 1) h fun t25 h =>
 runD (aC aU t25 1) h fun t26 h =>
 runH (aR aB h t26 (.int .i64 4)) h fun _ h =>
 J1 h)
 (J1 h))
 (fun h => K (.ret (.tup [])) h))
 (fun _ _ => False)
def dB.loops : Nat → bV
 | 5 => ⟨[], [], [], [(4, none), (2, some [52, 54]), (2, none), (7, some [56, 63])], [], []⟩
 | _ => ⟨[], [], [], [], [], []⟩
def dB.H (c : Ctx) (t0 : AV) (h : List AObj) (K : AOut → List AObj → Prop) : Prop :=
 boxW eW t0 h fun t1 h =>
 runD (fitD eW (aD h t1)) h fun t8 h =>
 runD (bK t8) h fun t9 h =>
 runD (aC cE t9 0) h fun t10 h =>
 runD (aC aM t10 0) h fun t11 h =>
 runD (fitD aK (aD h t11)) h fun t12 h =>
 runD (fitD eW (aD h t1)) h fun t13 h =>
 runD (bK t13) h fun t14 h =>
 runD (aC cE t14 1) h fun t15 h =>
 runD (aC aU t15 4) h fun t16 h =>
 runD (fitD bX (aD h t16)) h fun t17 h =>
 aS false c.noS (.fn (.func 71) [] []) [t12, t17] h (fun t18 h =>
 runD (unD .not t18) h fun t19 h =>
 bF t19
 (runD (fitD eW (aD h t1)) h fun t20 h =>
 runD (bK t20) h fun t21 h =>
 runD (aC cE t21 1) h fun t22 h =>
 runD (aC aU t22 1) h fun t23 h =>
 runH (aR aB h t23 (.int .i64 2)) h fun _ h =>
 K (.ret (.tup [])) h)
 (runD (fitD eW (aD h t1)) h fun t25 h =>
 runD (bK t25) h fun t26 h =>
 runD (aC cE t26 0) h fun t27 h =>
 runD (aC aM t27 0) h fun t28 h =>
 runD (fitD aK (aD h t28)) h fun t29 h =>
 runD (fitD eW (aD h t1)) h fun t30 h =>
 runD (bK t30) h fun t31 h =>
 runD (aC cE t31 1) h fun t32 h =>
 runD (aC aU t32 2) h fun t33 h =>
 runD (fitD aB (aD h t33)) h fun t34 h =>
 aS false c.noS (.fn (.func 46) [] []) [t29, t34] h (fun t35 h =>
 runD (bE t35 0) h fun t36 h =>
 runD (bE t35 1) h fun t37 h =>
 cT bD h fun t2 h =>
 runH (aR bD h t2 t36) h fun _ h =>
 runD (fitD eW (aD h t1)) h fun t39 h =>
 runD (bK t39) h fun t40 h =>
 runD (aC cE t40 0) h fun t41 h =>
 runD (aC aM t41 0) h fun t42 h =>
 runD (fitD aK (aD h t42)) h fun t43 h =>
 runD (aC bD t2 2) h fun t44 h =>
 runD (fitD aB (aD h t44)) h fun t45 h =>
 aS false c.noS (.fn (.func 47) [] []) [t43, t45] h (fun t46 h =>
 runD (bE t46 0) h fun t47 h =>
 runD (bE t46 1) h fun t48 h =>
 runD (aC bD t2 2) h fun t49 h =>
 runD (fitD aB (aD h t49)) h fun t50 h =>
 runD (binD aB .neq t50 (.int .i64 0)) h fun t51 h =>
 aL (fun (J1 : AV → AV → List AObj → Prop) =>
 bC t51 true
 (runD (binD cM .eql t48 (.int .i64 0)) h fun t54 h =>
 J1 (.bool true) t54 h)
 (J1 (.bool false) .und h))
 (fun t52 t54 h => runD (bS t52 t54 (.bool false)) h fun t55 h =>
 aL (fun (J2 : AV → AV → List AObj → Prop) =>
 bC t55 true
 (runD (fitD eW (aD h t1)) h fun t58 h =>
 runD (bK t58) h fun t59 h =>
 runD (aC cE t59 1) h fun t60 h =>
 runD (aC aU t60 0) h fun t61 h =>
 runD (fitD cH (aD h t61)) h fun t62 h =>
 runD (binD cH .leq t47 t62) h fun t63 h =>
 J2 (.bool true) t63 h)
 (J2 (.bool false) .und h))
 (fun t56 t63 h => runD (bS t56 t63 (.bool false)) h fun t64 h =>
 bF t64
 (runD (fitD eW (aD h t1)) h fun t65 h =>
 runD (fitD eW (aD h t1)) h fun t66 h =>
 runD (aC bD t2 2) h fun t67 h =>
 runD (fitD aB (aD h t67)) h fun t68 h =>
 runD (bK t65) h fun t69 h =>
 runD (aC cE t69 1) h fun t70 h =>
 runD (aC aU t70 3) h fun t71 h =>
 runH (aR aB h t71 t68) h fun _ h =>
 runD (bK t66) h fun t72 h =>
 runD (aC cE t72 1) h fun t73 h =>
 runD (aC aU t73 1) h fun t74 h =>
 runH (aR aB h t74 (.int .i64 5)) h fun _ h =>
 sepB t71 [t1] = true ∧ K (.ret (.tup [])) h)
 (runD (fitD eW (aD h t1)) h fun t75 h =>
 runD (bK t75) h fun t76 h =>
 runD (aC cE t76 0) h fun t77 h =>
 runD (aC aM t77 0) h fun t78 h =>
 runD (fitD aK (aD h t78)) h fun t79 h =>
 runD (fitD eW (aD h t1)) h fun t80 h =>
 runD (bK t80) h fun t81 h =>
 runD (aC cE t81 1) h fun t82 h =>
 runD (aC aU t82 4) h fun t83 h =>
 runD (fitD bX (aD h t83)) h fun t84 h =>
 aS false c.noS (.fn (.func 89) [] []) [t79, t84] h (fun t85 h =>
 aS false c (.fn (.func 90) [] []) [t85, (.fn (.func 91) [] [t1])] h (fun t88 h =>
 runD (fitD eW (aD h t1)) h fun t89 h =>
 runD (fitD eW (aD h t1)) h fun t90 h =>
 runD (fitD eW (aD h t1)) h fun t91 h =>
 runD (binD aB .geq t88 (.int .i64 0)) h fun t93 h =>
 runD (bK t89) h fun t94 h =>
 runD (aC cE t94 1) h fun t95 h =>
 runD (aC aU t95 6) h fun t96 h =>
 runH (aR lC h t96 t93) h fun _ h =>
 runD (bK t90) h fun t97 h =>
 runD (aC cE t97 1) h fun t98 h =>
 runD (aC aU t98 5) h fun t99 h =>
 runH (aR cH h t99 (.str [])) h fun _ h =>
 runD (bK t91) h fun t100 h =>
 runD (aC cE t100 1) h fun t101 h =>
 runD (aC aU t101 1) h fun t102 h =>
 runH (aR aB h t102 (.int .i64 6)) h fun _ h =>
 sepB t96 [t1] = true ∧ sepB t96 [t1] = true ∧ sepB t99 [t1] = true ∧ runD (binD aB .geq t88 (.int .i64 0)) h fun t104 h =>
 aL (fun (J3 : List AObj → Prop) =>
 bF t104
 (runD (fitD eW (aD h t1)) h fun t105 h =>
 runD (aG aQ h t85 t88) h fun t108 h =>
 runD (aC aJ t108 2) h fun t109 h =>
 runD (fitD cH (aD h t109)) h fun t110 h =>
 runD (bK t105) h fun t111 h =>
 runD (aC cE t111 1) h fun t112 h =>
 runD (aC aU t112 5) h fun t113 h =>
 runH (aR cH h t113 t110) h fun _ h =>
 J3 h)
 (J3 h))
 (fun h => K (.ret (.tup [])) h))
 (fun v h => K (.pan v) h))
 (fun _ _ => False)))))
 (fun _ _ => False))
 (fun _ _ => False)))
 (fun _ _ => False)
def dO.loops : Nat → bV
 | _ => ⟨[], [], [], [], [], []⟩
def dO.H (c : Ctx) (t0 : AV) (h : List AObj) (K : AOut → List AObj → Prop) : Prop :=
 aS false c (.fn (.func 92) [] []) [t0, (.int .i64 0)] h (fun t3 h =>
 runD (bK t0) h fun t6 h =>
 runD (aC cE t6 1) h fun t7 h =>
 runD (aC aU t7 3) h fun t8 h =>
 runD (fitD aB (aD h t8)) h fun t9 h =>
 aS false c (.fn (.func 88) [] []) [t0, t9] h (fun t10 h =>
 K (.ret (.tup [])) h)
 (fun v h => K (.pan v) h))
 (fun v h => K (.pan v) h)
def dC.loops : Nat → bV
 | _ => ⟨[], [], [], [], [], []⟩
def dC.H (c : Ctx) (t0 : AV) (h : List AObj) (K : AOut → List AObj → Prop) : Prop :=
 aS false c (.fn (.func 92) [] []) [t0, (.int .i64 0)] h (fun t3 h =>
 runD (bK t0) h fun t5 h =>
 runD (aC cE t5 1) h fun t6 h =>
 runD (aC aU t6 1) h fun t7 h =>
 runH (aR aB h t7 (.int .i64 7)) h fun _ h =>
 K (.ret (.tup [])) h)
 (fun v h => K (.pan v) h)
def cV.loops : Nat → bV
 | _ => ⟨[], [], [], [], [], []⟩
def cV.H (c : Ctx) (t0 : AV) (h : List AObj) (K : AOut → List AObj → Prop) : Prop :=
 aS false c (.fn (.func 92) [] []) [t0, (.int .i64 1)] h (fun t3 h =>
 runD (bK t0) h fun t5 h =>
 runD (aC cE t5 1) h fun t6 h =>
 runD (aC aU t6 1) h fun t7 h =>
 runH (aR aB h t7 (.int .i64 8)) h fun _ h =>
 K (.ret (.tup [])) h)
 (fun v h => K (.pan v) h)
def dI.loops : Nat → bV
 | _ => ⟨[], [], [], [], [], []⟩
def dI.H (c : Ctx) (t0 : AV) (t1 : AV) (h : List AObj) (K : AOut → List AObj → Prop) : Prop :=
 runD (bK t0) h fun t7 h =>
 runD (aC cE t7 1) h fun t8 h =>
 runD (aC aU t8 2) h fun t9 h =>
 runH (aR aB h t9 t1) h fun _ h =>
 runD (bK t0) h fun t10 h =>
 runD (aC cE t10 1) h fun t11 h =>
 runD (aC aU t11 1) h fun t12 h =>
 runH (aR aB h t12 (.int .i64 2)) h fun _ h =>
 K (.ret (.tup [])) h
def cS.loops : Nat → bV
 | _ => ⟨[], [], [], [], [], []⟩
def cS.H (c : Ctx) (t0 : AV) (t1 : AV) (h : List AObj) (K : AOut → List AObj → Prop) : Prop :=
 boxW aJ t0 h fun t2 h =>
 runD (aC aJ t2 1) h fun t4 h =>
 runD (fitD cH (aD h t4)) h fun t5 h =>
 runD (fitD eW (aD h t1)) h fun t6 h =>
 runD (bK t6) h fun t7 h =>
 runD (aC cE t7 1) h fun t8 h =>
 runD (aC aU t8 0) h fun t9 h =>
 runD (fitD cH (aD h t9)) h fun t10 h =>
 runD (binD cH .eql t5 t10) h fun t11 h =>
 K (.ret t11) h
def cO.loops : Nat → bV
 | 0 => ⟨[], [], [], [(7, none), (6, some [10, 16])], [], []⟩
 | _ => ⟨[], [], [], [], [], []⟩
def cO.H (c : Ctx) (t0 : AV) (t1 : AV) (h : List AObj) (K : AOut → List AObj → Prop) : Prop :=
 runD (bK t0) h fun t5 h =>
 runD (aC cE t5 1) h fun t6 h =>
 runD (aC aU t6 2) h fun t7 h =>
 runD (fitD aB (aD h t7)) h fun t8 h =>
 runD (binD aB .geq t8 (.int .i64 0)) h fun t9 h =>
 aL (fun (J1 : AV → AV → List AObj → Prop) =>
 bC t9 true
 (runD (bK t0) h fun t12 h =>
 runD (aC cE t12 1) h fun t13 h =>
 runD (aC aU t13 2) h fun t14 h =>
 runD (fitD aB (aD h t14)) h fun t15 h =>
 runD (binD aB .lss t15 (.int .i64 256)) h fun t16 h =>
 J1 (.bool true) t16 h)
 (J1 (.bool false) .und h))
 (fun t10 t16 h => runD (bS t10 t16 (.bool false)) h fun t17 h =>
 aL (fun (J2 : List AObj → Prop) =>
 bF t17
 (runD (bK t0) h fun t21 h =>
 runD (aC cE t21 0) h fun t22 h =>
 runD (fitD aM (aD h t22)) h fun t23 h =>
 runD (bK t0) h fun t25 h =>
 runD (aC cE t25 1) h fun t26 h =>
 runD (aC aU t26 2) h fun t27 h =>
 runD (fitD aB (aD h t27)) h fun t28 h =>
 runD (binD aB .mul (.int .i64 2) t28) h fun t29 h =>
 runD (binD aB .add t29 t1) h fun t31 h =>
 runD (gY fR [(0, (.int .i64 2)), (1, t31)]) h fun t32 h =>
 aS false c.noS (.fn (.func 74) [] []) [t23, t32] h (fun t33 h =>
 runD (bE t33 0) h fun t34 h =>
 runD (bE t33 1) h fun t35 h =>
 runD (bK t0) h fun t36 h =>
 runD (aC cE t36 0) h fun t37 h =>
 runH (aR aM h t37 t34) h fun _ h =>
 J2 h)
 (fun _ _ => False))
 (J2 h))
 (fun h => K (.ret (.tup [])) h))
theorem fQ.eq (F : List (FuncId × aE)) (S : List (FuncId × Con)) (t0 t1 : AV) (h : List AObj) (K : AOut → List AObj → Prop) : funW (ctx F S fQ.loops) Tryz.f14 [t0, t1] h K = fQ.H (ctx F S fQ.loops) t0 t1 h K := by kernel_rfl
theorem eY.eq (F : List (FuncId × aE)) (S : List (FuncId × Con)) (t0 t1 : AV) (h : List AObj) (K : AOut → List AObj → Prop) : funW (ctx F S eY.loops) Tryz.f27 [t0, t1] h K = eY.H (ctx F S eY.loops) t0 t1 h K := by kernel_rfl
theorem eT.eq (F : List (FuncId × aE)) (S : List (FuncId × Con)) (h : List AObj) (K : AOut → List AObj → Prop) : funW (ctx F S eT.loops) Tryz.f36 [] h K = eT.H (ctx F S eT.loops)  h K := by kernel_rfl
theorem dM.eq (F : List (FuncId × aE)) (S : List (FuncId × Con)) (t0 : AV) (h : List AObj) (K : AOut → List AObj → Prop) : funW (ctx F S dM.loops) Tryz.f58 [t0] h K = dM.H (ctx F S dM.loops) t0 h K := by kernel_rfl
theorem dN.eq (F : List (FuncId × aE)) (S : List (FuncId × Con)) (t0 : AV) (h : List AObj) (K : AOut → List AObj → Prop) : funW (ctx F S dN.loops) Tryz.f59 [t0] h K = dN.H (ctx F S dN.loops) t0 h K := by kernel_rfl
theorem dA.eq (F : List (FuncId × aE)) (S : List (FuncId × Con)) (t0 : AV) (h : List AObj) (K : AOut → List AObj → Prop) : funW (ctx F S dA.loops) Tryz.f60 [t0] h K = dA.H (ctx F S dA.loops) t0 h K := by kernel_rfl
theorem dB.eq (F : List (FuncId × aE)) (S : List (FuncId × Con)) (t0 : AV) (h : List AObj) (K : AOut → List AObj → Prop) : funW (ctx F S dB.loops) Tryz.f61 [t0] h K = dB.H (ctx F S dB.loops) t0 h K := by kernel_rfl
theorem dO.eq (F : List (FuncId × aE)) (S : List (FuncId × Con)) (t0 : AV) (h : List AObj) (K : AOut → List AObj → Prop) : funW (ctx F S dO.loops) Tryz.f62 [t0] h K = dO.H (ctx F S dO.loops) t0 h K := by kernel_rfl
theorem dC.eq (F : List (FuncId × aE)) (S : List (FuncId × Con)) (t0 : AV) (h : List AObj) (K : AOut → List AObj → Prop) : funW (ctx F S dC.loops) Tryz.f63 [t0] h K = dC.H (ctx F S dC.loops) t0 h K := by kernel_rfl
theorem cV.eq (F : List (FuncId × aE)) (S : List (FuncId × Con)) (t0 : AV) (h : List AObj) (K : AOut → List AObj → Prop) : funW (ctx F S cV.loops) Tryz.f64 [t0] h K = cV.H (ctx F S cV.loops) t0 h K := by kernel_rfl
theorem dI.eq (F : List (FuncId × aE)) (S : List (FuncId × Con)) (t0 t1 : AV) (h : List AObj) (K : AOut → List AObj → Prop) : funW (ctx F S dI.loops) Tryz.f88 [t0, t1] h K = dI.H (ctx F S dI.loops) t0 t1 h K := by kernel_rfl
theorem cS.eq (F : List (FuncId × aE)) (S : List (FuncId × Con)) (t0 t1 : AV) (h : List AObj) (K : AOut → List AObj → Prop) : funW (ctx F S cS.loops) Tryz.f91 [t0, t1] h K = cS.H (ctx F S cS.loops) t0 t1 h K := by kernel_rfl
theorem cO.eq (F : List (FuncId × aE)) (S : List (FuncId × Con)) (t0 t1 : AV) (h : List AObj) (K : AOut → List AObj → Prop) : funW (ctx F S cO.loops) Tryz.f92 [t0, t1] h K = cO.H (ctx F S cO.loops) t0 t1 h K := by kernel_rfl
theorem fQ.at : Tryz.prog.funcs[14]? = some Tryz.f14 := by kernel_rfl
theorem fQ.nm : (Tryz.f14.name == "runtime.NumGoroutine") = false := by kernel_rfl
theorem fQ.bd : Tryz.f14.body.isNone = false := by kernel_rfl
theorem eY.at : Tryz.prog.funcs[27]? = some Tryz.f27 := by kernel_rfl
theorem eY.nm : (Tryz.f27.name == "runtime.NumGoroutine") = false := by kernel_rfl
theorem eY.bd : Tryz.f27.body.isNone = false := by kernel_rfl
theorem eT.at : Tryz.prog.funcs[36]? = some Tryz.f36 := by kernel_rfl
theorem eT.nm : (Tryz.f36.name == "runtime.NumGoroutine") = false := by kernel_rfl
theorem eT.bd : Tryz.f36.body.isNone = false := by kernel_rfl
theorem dM.at : Tryz.prog.funcs[58]? = some Tryz.f58 := by kernel_rfl
theorem dM.nm : (Tryz.f58.name == "runtime.NumGoroutine") = false := by kernel_rfl
theorem dM.bd : Tryz.f58.body.isNone = false := by kernel_rfl
theorem dN.at : Tryz.prog.funcs[59]? = some Tryz.f59 := by kernel_rfl
theorem dN.nm : (Tryz.f59.name == "runtime.NumGoroutine") = false := by kernel_rfl
theorem dN.bd : Tryz.f59.body.isNone = false := by kernel_rfl
theorem dA.at : Tryz.prog.funcs[60]? = some Tryz.f60 := by kernel_rfl
theorem dA.nm : (Tryz.f60.name == "runtime.NumGoroutine") = false := by kernel_rfl
theorem dA.bd : Tryz.f60.body.isNone = false := by kernel_rfl
theorem dB.at : Tryz.prog.funcs[61]? = some Tryz.f61 := by kernel_rfl
theorem dB.nm : (Tryz.f61.name == "runtime.NumGoroutine") = false := by kernel_rfl
theorem dB.bd : Tryz.f61.body.isNone = false := by kernel_rfl
theorem dO.at : Tryz.prog.funcs[62]? = some Tryz.f62 := by kernel_rfl
theorem dO.nm : (Tryz.f62.name == "runtime.NumGoroutine") = false := by kernel_rfl
theorem dO.bd : Tryz.f62.body.isNone = false := by kernel_rfl
theorem dC.at : Tryz.prog.funcs[63]? = some Tryz.f63 := by kernel_rfl
theorem dC.nm : (Tryz.f63.name == "runtime.NumGoroutine") = false := by kernel_rfl
theorem dC.bd : Tryz.f63.body.isNone = false := by kernel_rfl
theorem cV.at : Tryz.prog.funcs[64]? = some Tryz.f64 := by kernel_rfl
theorem cV.nm : (Tryz.f64.name == "runtime.NumGoroutine") = false := by kernel_rfl
theorem cV.bd : Tryz.f64.body.isNone = false := by kernel_rfl
theorem dI.at : Tryz.prog.funcs[88]? = some Tryz.f88 := by kernel_rfl
theorem dI.nm : (Tryz.f88.name == "runtime.NumGoroutine") = false := by kernel_rfl
theorem dI.bd : Tryz.f88.body.isNone = false := by kernel_rfl
theorem cS.at : Tryz.prog.funcs[91]? = some Tryz.f91 := by kernel_rfl
theorem cS.nm : (Tryz.f91.name == "runtime.NumGoroutine") = false := by kernel_rfl
theorem cS.bd : Tryz.f91.body.isNone = false := by kernel_rfl
theorem cO.at : Tryz.prog.funcs[92]? = some Tryz.f92 := by kernel_rfl
theorem cO.nm : (Tryz.f92.name == "runtime.NumGoroutine") = false := by kernel_rfl
theorem cO.bd : Tryz.f92.body.isNone = false := by kernel_rfl
end Lam
namespace Lam
open Go Go.Proofs
structure Rd where
  key : aY
  phase : Int
  block : Int
  to_ : Int
  seek : Sk
  val : aY
  found : Bool
def Rd.V (r : Rd) : AV := .agg [.str r.key, .int .i64 r.phase, .int .i64 r.block, .int .i64 r.to_, r.seek.V, .str r.val, .bool r.found]
def rdZ : Rd := ⟨[], 0, 0, 0, skZ, [], false⟩
def doM (m : Mm) (x : Mic) : Mm := if xZ m [x] = true then runS m [x] else m
theorem aNm (m : Mm) (x : Mic) : ∃ e, runV m [x] = .tup [(doM m x).V, .int .i64 e] := by
  unfold runV doM
  split
  · exact ⟨_, rfl⟩
  · exact ⟨_, rfl⟩
def kY (m : Mm) (block line : Int) : Mm := if 0 ≤ block ∧ block < 256 then doM m ⟨2, 2 * block + line, 0⟩ else m
def qG (w : List Int) (r : Rd) : Rd := match cR w r.block with
  | none => { r with block := 1, phase := 2 }
  | some n => if n.level = 0 then { r with phase := 2 } else match kN w r.block r.key 0 with
    | none => { r with block := 1, phase := 2 }
    | some t => { r with block := t }
def rT (w : List Int) (r : Rd) : Rd := match pX w r.block with
  | none => { r with phase := 8 }
  | some x => { r with seek := x, phase := 3 }
def pY (w : List Int) (r : Rd) : Rd := { r with seek := kX w r.seek, phase := if (kX w r.seek).over = true then 4 else r.phase }
def vW (w : List Int) (b : Int) : Option (Int × aY) := match cR w b with
  | none => none
  | some n => if n.next = 0 then none else match (cR w n.next).bind (lowO w) with
    | none => none
    | some l => some (n.next, l)
def idxR (key : aY) (l : List RecT) : Option RecT := l.find? fun x => decide (x.key = key)
def rU (w : List Int) (r : Rd) : Rd := match idxR r.key (uS (iY w r.seek.refs)) with
  | none => { r with found := false, val := [], phase := 6 }
  | some x => { r with found := true, val := x.val, phase := 6 }
def mQ (w : List Int) (r : Rd) : Rd := if tQ w r.seek.block r.seek.turn = false then { r with phase := 2 } else match vW w r.block with
  | none => rU w r
  | some (to, low) => if ltB r.key low = false then { r with to_ := to, phase := 5 } else rU w r
def nP (m : Mm) (r : Rd) : Mm × Rd :=
  if r.phase = 1 then (m, qG m.vol r)
  else if r.phase = 2 then (m, rT m.vol r)
  else if r.phase = 3 then (m, pY m.vol r)
  else if r.phase = 4 then (m, mQ m.vol r)
  else if r.phase = 5 then (kY m r.block 0, { r with block := r.to_, phase := 2 })
  else if r.phase = 6 then (kY m r.block 0, { r with phase := 7 })
  else if r.phase = 7 then (kY m r.block 1, { r with phase := 8 })
  else (m, r)
def zD (w : List Int) : Int := if eC w = true then w.getD 3 0 else 1
def mR (w : List Int) (k : aY) : AV := if k ≠ [] ∧ k.length ≤ 21 then .tup [Rd.V ⟨k, 1, zD w, 0, skZ, [], false⟩, .int .i64 0] else .tup [rdZ.V, .int .i64 20]
def eT.K : Con := fun args h K => match args with
  | [] => eT.H (ctx [] [] eT.loops)  h K
  | _ => False
theorem eT.spec : cP Tryz.prog 36 eT.K := by
  refine cP.of (bP (F := []) (S := []) (by simp) (by simp) eT.loops) eT.at eT.nm eT.bd ?_
  intro args h K hC
  unfold eT.K at hC
  split at hC
  · rw [eT.eq]; exact hC
  · exact hC.elim
def dI.K : Con := fun args h K => match args with
  | [a0, a1] => dI.H (ctx [] [] dI.loops) a0 a1 h K
  | _ => False
theorem dI.spec : cP Tryz.prog 88 dI.K := by
  refine cP.of (bP (F := []) (S := []) (by simp) (by simp) dI.loops) dI.at dI.nm dI.bd ?_
  intro args h K hC
  unfold dI.K at hC
  split at hC
  · rw [dI.eq]; exact hC
  · exact hC.elim
def cO.K : Con := fun args h K => match args with
  | [a0, a1] => cO.H (ctx [(74, iD.C)] [] cO.loops) a0 a1 h K
  | _ => False
theorem cO.spec : cP Tryz.prog 92 cO.K := by
  refine cP.of (bP (F := [(74, iD.C)]) (S := []) (by simpa using iD.spec) (by simp) cO.loops) cO.at cO.nm cO.bd ?_
  intro args h K hC
  unfold cO.K at hC
  split at hC
  · rw [cO.eq]; exact hC
  · exact hC.elim
def dM.K : Con := fun args h K => match args with
  | [a0] => dM.H (ctx [(46, cK.C), (49, eA.C)] [(88, dI.K)] dM.loops) a0 h K
  | _ => False
theorem dM.spec : cP Tryz.prog 58 dM.K := by
  refine cP.of (bP (F := [(46, cK.C), (49, eA.C)]) (S := [(88, dI.K)]) (by simpa using ⟨cK.spec, eA.spec⟩) (by simpa using dI.spec) dM.loops) dM.at dM.nm dM.bd ?_
  intro args h K hC
  unfold dM.K at hC
  split at hC
  · rw [dM.eq]; exact hC
  · exact hC.elim
def dN.K : Con := fun args h K => match args with
  | [a0] => dN.H (ctx [(40, fW.C)] [] dN.loops) a0 h K
  | _ => False
theorem dN.spec : cP Tryz.prog 59 dN.K := by
  refine cP.of (bP (F := [(40, fW.C)]) (S := []) (by simpa using fW.spec) (by simp) dN.loops) dN.at dN.nm dN.bd ?_
  intro args h K hC
  unfold dN.K at hC
  split at hC
  · rw [dN.eq]; exact hC
  · exact hC.elim
def dA.K : Con := fun args h K => match args with
  | [a0] => dA.H (ctx [(41, gO.C)] [] dA.loops) a0 h K
  | _ => False
theorem dA.spec : cP Tryz.prog 60 dA.K := by
  refine cP.of (bP (F := [(41, gO.C)]) (S := []) (by simpa using gO.spec) (by simp) dA.loops) dA.at dA.nm dA.bd ?_
  intro args h K hC
  unfold dA.K at hC
  split at hC
  · rw [dA.eq]; exact hC
  · exact hC.elim
def cS.K : Con := fun args h K => match args with
  | [a0, a1] => cS.H (ctx [] [] cS.loops) a0 a1 h K
  | _ => False
theorem cS.spec : cP Tryz.prog 91 cS.K := by
  refine cP.of (bP (F := []) (S := []) (by simp) (by simp) cS.loops) cS.at cS.nm cS.bd ?_
  intro args h K hC
  unfold cS.K at hC
  split at hC
  · rw [cS.eq]; exact hC
  · exact hC.elim
def aT.K : Con := fun args h K => match args with
  | [a0, a1] => aT.H (ctx [] [(91, cS.K)] aT.loops) a0 a1 h K
  | _ => False
theorem aT.spec : cP Tryz.prog 90 aT.K := by
  refine cP.of (bP (F := []) (S := [(91, cS.K)]) (by simp) (by simpa using cS.spec) aT.loops) aT.at aT.nm aT.bd ?_
  intro args h K hC
  unfold aT.K at hC
  split at hC
  · rw [aT.eq]; exact hC
  · exact hC.elim
def dB.K : Con := fun args h K => match args with
  | [a0] => dB.H (ctx [(71, fX.C), (46, cK.C), (47, dU.C), (89, fZ.C)] [(90, aT.K)] dB.loops) a0 h K
  | _ => False
theorem dB.spec : cP Tryz.prog 61 dB.K := by
  refine cP.of (bP (F := [(71, fX.C), (46, cK.C), (47, dU.C), (89, fZ.C)]) (S := [(90, aT.K)]) (by simpa using ⟨fX.spec, cK.spec, dU.spec, fZ.spec⟩) (by simpa using aT.spec) dB.loops) dB.at dB.nm dB.bd ?_
  intro args h K hC
  unfold dB.K at hC
  split at hC
  · rw [dB.eq]; exact hC
  · exact hC.elim
def dO.K : Con := fun args h K => match args with
  | [a0] => dO.H (ctx [] [(92, cO.K), (88, dI.K)] dO.loops) a0 h K
  | _ => False
theorem dO.spec : cP Tryz.prog 62 dO.K := by
  refine cP.of (bP (F := []) (S := [(92, cO.K), (88, dI.K)]) (by simp) (by simpa using ⟨cO.spec, dI.spec⟩) dO.loops) dO.at dO.nm dO.bd ?_
  intro args h K hC
  unfold dO.K at hC
  split at hC
  · rw [dO.eq]; exact hC
  · exact hC.elim
def dC.K : Con := fun args h K => match args with
  | [a0] => dC.H (ctx [] [(92, cO.K)] dC.loops) a0 h K
  | _ => False
theorem dC.spec : cP Tryz.prog 63 dC.K := by
  refine cP.of (bP (F := []) (S := [(92, cO.K)]) (by simp) (by simpa using cO.spec) dC.loops) dC.at dC.nm dC.bd ?_
  intro args h K hC
  unfold dC.K at hC
  split at hC
  · rw [dC.eq]; exact hC
  · exact hC.elim
def cV.K : Con := fun args h K => match args with
  | [a0] => cV.H (ctx [] [(92, cO.K)] cV.loops) a0 h K
  | _ => False
theorem cV.spec : cP Tryz.prog 64 cV.K := by
  refine cP.of (bP (F := []) (S := [(92, cO.K)]) (by simp) (by simpa using cO.spec) cV.loops) cV.at cV.nm cV.bd ?_
  intro args h K hC
  unfold cV.K at hC
  split at hC
  · rw [cV.eq]; exact hC
  · exact hC.elim
abbrev fnsR : AObj := .row .arr 0 (.fns [none, some 58, some 59, some 60, some 61, some 62, some 63, some 64])
def hpR (z : Bool) (m0 : Mm) (r0 : Rd) (m : Mm) (r : Rd) (Y : List AObj) : List AObj :=
  .box m0.V :: .box r0.V :: .box (.agg [.sl z (.ints .i64 []), .sl z (.ints .i64 []), .sl z (.pends [])]) :: .box (.agg [.str [], .int .i64 0, .int .i64 0, .int .i64 0, .agg [.int .i64 0, .int .i64 0, .int .i64 0, .sl z (.ints .i64 []), .bool false], .str [], .bool false]) :: fnsR :: fnsR :: .box (.agg [m.V, r.V]) :: Y
theorem aOs (z : Bool) (m0 m : Mm) (r0 r : Rd) (hsw : iL m.vol) (K : AOut → List AObj → Prop) (hK : ∀ Y, K (.ret (.tup [])) (hpR z m0 r0 m (rT m.vol r) Y)) :
    dN.K [.ptr 6 []] (hpR z m0 r0 m r []) K := by
  obtain ⟨vol, per, pend⟩ := m
  obtain ⟨key, phase, block, to_, ⟨sb, st, sa, sr, so⟩, val, found⟩ := r
  have hr := iL.roomy hsw
  simp only at hr hK
  unfold rT at hK
  unfold dN.K dN.H
  simp only at hK
  cases hb : pX vol block with
  | none =>
    have hbv : yC vol block = .tup [skZ.V, .int .i64 90] := by unfold yC; rw [hb]
    rw [hb] at hK
    simp only [hpR, Mm.V, memV, Rd.V, Sk.V, skZ, hbv, fW.C, aA, aA, gq, reduceEq, reduceLT, reduceLE, implies_true, reduceCtorEq, if_true, if_false, go_sem, reduceEqDiff, Nat.reduceLT, reduceAdd, reduceSub, reduceLeDiff, reduceReplicate, reduceToNat] at hK ⊢
    exact ⟨hr, hK _⟩
  | some x =>
    obtain ⟨xb, xt, xa, xr, xo⟩ := x
    have hbv : yC vol block = .tup [Sk.V ⟨xb, xt, xa, xr, xo⟩, .int .i64 0] := by unfold yC; rw [hb]
    rw [hb] at hK
    simp only [hpR, Mm.V, memV, Rd.V, Sk.V, skZ, hbv, fW.C, aA, aA, gq, reduceEq, reduceLT, reduceLE, implies_true, reduceCtorEq, if_true, if_false, go_sem, reduceEqDiff, Nat.reduceLT, reduceAdd, reduceSub, reduceLeDiff, reduceReplicate, reduceToNat] at hK ⊢
    exact ⟨hr, hK _⟩
theorem aNn (z : Bool) (m0 m : Mm) (r0 r : Rd) (hsw : iL m.vol) (hsr : r.seek.refs.length ≤ 200) (K : AOut → List AObj → Prop) (hK : ∀ Y, K (.ret (.tup [])) (hpR z m0 r0 m (pY m.vol r) Y)) :
    dA.K [.ptr 6 []] (hpR z m0 r0 m r []) K := by
  obtain ⟨vol, per, pend⟩ := m
  obtain ⟨key, phase, block, to_, ⟨sb, st, sa, sr, so⟩, val, found⟩ := r
  have hr := hsw.1
  simp only at hr hK hsr
  unfold pY at hK
  unfold dA.K dA.H
  simp only at hK
  have h4 : vol.length ≤ 65536 ∧ sr.length ≤ 65536 := ⟨hr, by omega⟩
  generalize hs : kX vol ⟨sb, st, sa, sr, so⟩ = x at *
  obtain ⟨xb, xt, xa, xr, xo⟩ := x
  cases xo with
  | true =>
    simp only [hpR, Mm.V, memV, Rd.V, Sk.V, hs, gO.C, aA, aA, gq, reduceEq, reduceLT, reduceLE, implies_true, reduceCtorEq, if_true, if_false, go_sem, reduceEqDiff, Nat.reduceLT, reduceAdd, reduceSub, reduceLeDiff, reduceReplicate, reduceToNat] at hK ⊢
    exact ⟨h4, hK _⟩
  | false =>
    simp only [hpR, Mm.V, memV, Rd.V, Sk.V, hs, gO.C, aA, aA, gq, reduceEq, reduceLT, reduceLE, implies_true, reduceCtorEq, if_true, if_false, go_sem, reduceEqDiff, Nat.reduceLT, reduceAdd, reduceSub, reduceLeDiff, reduceReplicate, reduceToNat] at hK ⊢
    exact ⟨h4, hK _⟩
theorem aGK (z : Bool) (m0 m : Mm) (r0 r : Rd) (line : Int) (h0 : 0 ≤ line) (h1 : line ≤ 1) (hsm : kP m.vol m.per m.pend) (hpe : m.pend.length + 1 ≤ 1000000) (K : AOut → List AObj → Prop) (hK : K (.ret (.tup [])) (hpR z m0 r0 (kY m r.block line) r [])) :
    cO.K [.ptr 6 [], .int .i64 line] (hpR z m0 r0 m r []) K := by
  obtain ⟨vol, per, pend⟩ := m
  obtain ⟨key, phase, block, to_, ⟨sb, st, sa, sr, so⟩, val, found⟩ := r
  simp only at hK hsm hpe
  unfold kY at hK
  unfold cO.K cO.H
  by_cases hb : 0 ≤ block ∧ block < 256
  · rw [if_pos hb] at hK
    have e1 : IntKind.i64.wrap (2 * block) = 2 * block := w64 (by omega) (by omega)
    have e2 : IntKind.i64.wrap (2 * block + line) = 2 * block + line := w64 (by omega) (by omega)
    have d1 : decide (0 ≤ block) = true := decide_eq_true hb.1
    have d2 : decide (block < 256) = true := decide_eq_true hb.2
    obtain ⟨e, he⟩ := aNm ⟨vol, per, pend⟩ ⟨2, 2 * block + line, 0⟩
    generalize doM ⟨vol, per, pend⟩ ⟨2, 2 * block + line, 0⟩ = m' at *
    obtain ⟨vol', per', pend'⟩ := m'
    simp only [hpR, Mm.V, memV, Rd.V, Sk.V, d1, d2, e1, e2, he, iD.C, aA, aA, gq, reduceEq, reduceLT, reduceLE, implies_true, reduceCtorEq, if_true, if_false, go_sem, reduceEqDiff, Nat.reduceLT, reduceAdd, reduceSub, reduceLeDiff, reduceReplicate, reduceToNat] at hK ⊢
    exact ⟨⟨hsm, by omega⟩, hK⟩
  · rw [if_neg hb] at hK
    by_cases hb0 : 0 ≤ block
    · have d1 : decide (0 ≤ block) = true := decide_eq_true hb0
      have d2 : decide (block < 256) = false := decide_eq_false (by omega)
      simp only [hpR, Mm.V, memV, Rd.V, Sk.V, d1, d2, aA, aA, gq, reduceEq, reduceLT, reduceLE, implies_true, reduceCtorEq, if_true, if_false, go_sem, reduceEqDiff, Nat.reduceLT, reduceAdd, reduceSub, reduceLeDiff, reduceReplicate, reduceToNat] at hK ⊢
      exact hK
    · have d1 : decide (0 ≤ block) = false := decide_eq_false hb0
      simp only [hpR, Mm.V, memV, Rd.V, Sk.V, d1, aA, aA, gq, reduceEq, reduceLT, reduceLE, implies_true, reduceCtorEq, if_true, if_false, go_sem, reduceEqDiff, Nat.reduceLT, reduceAdd, reduceSub, reduceLeDiff, reduceReplicate, reduceToNat] at hK ⊢
      exact hK
theorem aNo (z : Bool) (m0 m : Mm) (r0 r : Rd) (hsm : kP m.vol m.per m.pend) (hpe : m.pend.length + 1 ≤ 1000000) (K : AOut → List AObj → Prop) (hK : K (.ret (.tup [])) (hpR z m0 r0 (kY m r.block 0) { r with phase := 7 } [])) :
    dC.K [.ptr 6 []] (hpR z m0 r0 m r []) K := by
  unfold dC.K dC.H
  simp only [aA, aA, gq, reduceEq, reduceLT, reduceLE, implies_true, reduceCtorEq, if_true, if_false, go_sem, reduceEqDiff, Nat.reduceLT, reduceAdd, reduceSub, reduceLeDiff, reduceReplicate, reduceToNat]
  refine aGK z m0 m r0 r 0 (by decide) (by decide) hsm hpe _ ?_
  generalize kY m r.block 0 = m' at *
  obtain ⟨vol', per', pend'⟩ := m'
  obtain ⟨key, phase, block, to_, ⟨sb, st, sa, sr, so⟩, val, found⟩ := r
  simp only [hpR, Mm.V, memV, Rd.V, Sk.V, aA, aA, gq, reduceEq, reduceLT, reduceLE, implies_true, reduceCtorEq, if_true, if_false, go_sem, reduceEqDiff, Nat.reduceLT, reduceAdd, reduceSub, reduceLeDiff, reduceReplicate, reduceToNat] at hK ⊢
  exact hK
theorem aMh (z : Bool) (m0 m : Mm) (r0 r : Rd) (hsm : kP m.vol m.per m.pend) (hpe : m.pend.length + 1 ≤ 1000000) (K : AOut → List AObj → Prop) (hK : K (.ret (.tup [])) (hpR z m0 r0 (kY m r.block 1) { r with phase := 8 } [])) :
    cV.K [.ptr 6 []] (hpR z m0 r0 m r []) K := by
  unfold cV.K cV.H
  simp only [aA, aA, gq, reduceEq, reduceLT, reduceLE, implies_true, reduceCtorEq, if_true, if_false, go_sem, reduceEqDiff, Nat.reduceLT, reduceAdd, reduceSub, reduceLeDiff, reduceReplicate, reduceToNat]
  refine aGK z m0 m r0 r 1 (by decide) (by decide) hsm hpe _ ?_
  generalize kY m r.block 1 = m' at *
  obtain ⟨vol', per', pend'⟩ := m'
  obtain ⟨key, phase, block, to_, ⟨sb, st, sa, sr, so⟩, val, found⟩ := r
  simp only [hpR, Mm.V, memV, Rd.V, Sk.V, aA, aA, gq, reduceEq, reduceLT, reduceLE, implies_true, reduceCtorEq, if_true, if_false, go_sem, reduceEqDiff, Nat.reduceLT, reduceAdd, reduceSub, reduceLeDiff, reduceReplicate, reduceToNat] at hK ⊢
  exact hK
theorem to_K (z : Bool) (m0 m : Mm) (r0 r : Rd) (b : Int) (Y : List AObj) (K : AOut → List AObj → Prop) (hK : K (.ret (.tup [])) (hpR z m0 r0 m { r with block := b, phase := 2 } Y)) :
    dI.K [.ptr 6 [], .int .i64 b] (hpR z m0 r0 m r Y) K := by
  obtain ⟨vol', per', pend'⟩ := m
  obtain ⟨key, phase, block, to_, ⟨sb, st, sa, sr, so⟩, val, found⟩ := r
  unfold dI.K dI.H
  simp only [hpR, Mm.V, memV, Rd.V, Sk.V, aA, aA, gq, reduceEq, reduceLT, reduceLE, implies_true, reduceCtorEq, if_true, if_false, go_sem, reduceEqDiff, Nat.reduceLT, reduceAdd, reduceSub, reduceLeDiff, reduceReplicate, reduceToNat] at hK ⊢
  exact hK
theorem aOt (z : Bool) (m0 m : Mm) (r0 r : Rd) (hsm : kP m.vol m.per m.pend) (hpe : m.pend.length + 1 ≤ 1000000) (K : AOut → List AObj → Prop) (hK : K (.ret (.tup [])) (hpR z m0 r0 (kY m r.block 0) { r with block := r.to_, phase := 2 } [])) :
    dO.K [.ptr 6 []] (hpR z m0 r0 m r []) K := by
  unfold dO.K dO.H
  simp only [aA, aA, gq, reduceEq, reduceLT, reduceLE, implies_true, reduceCtorEq, if_true, if_false, go_sem, reduceEqDiff, Nat.reduceLT, reduceAdd, reduceSub, reduceLeDiff, reduceReplicate, reduceToNat]
  refine aGK z m0 m r0 r 0 (by decide) (by decide) hsm hpe _ ?_
  generalize kY m r.block 0 = m' at *
  obtain ⟨vol', per', pend'⟩ := m'
  obtain ⟨key, phase, block, to_, ⟨sb, st, sa, sr, so⟩, val, found⟩ := r
  simp only [hpR, Mm.V, memV, Rd.V, Sk.V, aA, aA, gq, reduceEq, reduceLT, reduceLE, implies_true, reduceCtorEq, if_true, if_false, go_sem, reduceEqDiff, Nat.reduceLT, reduceAdd, reduceSub, reduceLeDiff, reduceReplicate, reduceToNat]
  refine to_K z m0 ⟨vol', per', pend'⟩ r0 ⟨key, phase, block, to_, ⟨sb, st, sa, sr, so⟩, val, found⟩ to_ [] _ ?_
  simp only [hpR, Mm.V, memV, Rd.V, Sk.V, aA, aA, gq, reduceEq, reduceLT, reduceLE, implies_true, reduceCtorEq, if_true, if_false, go_sem, reduceEqDiff, Nat.reduceLT, reduceAdd, reduceSub, reduceLeDiff, reduceReplicate, reduceToNat] at hK ⊢
  exact hK
theorem aOu (z : Bool) (m0 m : Mm) (r0 r : Rd) (hsw : iL m.vol) (K : AOut → List AObj → Prop) (hK : ∀ Y, K (.ret (.tup [])) (hpR z m0 r0 m (qG m.vol r) Y)) :
    dM.K [.ptr 6 []] (hpR z m0 r0 m r []) K := by
  obtain ⟨vol, per, pend⟩ := m
  obtain ⟨key, phase, block, to_, ⟨sb, st, sa, sr, so⟩, val, found⟩ := r
  have hr := iL.roomy hsw
  simp only at hr hK hsw
  unfold qG at hK
  unfold dM.K dM.H
  simp only at hK
  have hgo : ∀ (b : Int) (Y : List AObj) (K2 : AOut → List AObj → Prop), K2 (.ret (.tup [])) (hpR z m0 r0 ⟨vol, per, pend⟩ ⟨key, 2, b, to_, ⟨sb, st, sa, sr, so⟩, val, found⟩ Y) → dI.K [.ptr 6 [], .int .i64 b] (hpR z m0 r0 ⟨vol, per, pend⟩ ⟨key, phase, block, to_, ⟨sb, st, sa, sr, so⟩, val, found⟩ Y) K2 := fun b Y K2 h => to_K z m0 _ r0 _ b Y K2 h
  cases hn : cR vol block with
  | none =>
    obtain ⟨e, he, hv⟩ := pG hn
    have hd : nO vol block key 0 = .tup [.int .i64 0, .int .i64 90] := by unfold nO kN; rw [hn]
    rw [hn] at hK
    simp only [hpR, Mm.V, memV, Rd.V, Sk.V, jI, hv, he, hd, cK.C, eA.C, aA, decide_false, decide_true, aA, gq, reduceEq, reduceLT, reduceLE, implies_true, reduceCtorEq, if_true, if_false, go_sem, reduceEqDiff, Nat.reduceLT, reduceAdd, reduceSub, reduceLeDiff, reduceReplicate, reduceToNat] at hK ⊢
    refine ⟨hr, hsw, hgo _ _ _ ?_⟩
    simp only [hpR, Mm.V, memV, Rd.V, Sk.V, aA, gq, reduceEq, reduceLT, reduceLE, implies_true, reduceCtorEq, if_true, if_false, go_sem, reduceEqDiff, Nat.reduceLT, reduceAdd, reduceSub, reduceLeDiff, reduceReplicate, reduceToNat]
    exact hK _
  | some n =>
    obtain ⟨n1, n2, n3, n4, n5⟩ := n
    rw [hn] at hK
    simp only at hK
    by_cases h0 : n1 = 0
    · rw [if_pos h0] at hK
      simp only [hpR, Mm.V, memV, Rd.V, Sk.V, iT hn, h0, cK.C, eA.C, aA, decide_false, decide_true, aA, gq, reduceEq, reduceLT, reduceLE, implies_true, reduceCtorEq, if_true, if_false, go_sem, reduceEqDiff, Nat.reduceLT, reduceAdd, reduceSub, reduceLeDiff, reduceReplicate, reduceToNat] at hK ⊢
      refine ⟨hr, hgo _ _ _ ?_⟩
      simp only [hpR, Mm.V, memV, Rd.V, Sk.V, aA, gq, reduceEq, reduceLT, reduceLE, implies_true, reduceCtorEq, if_true, if_false, go_sem, reduceEqDiff, Nat.reduceLT, reduceAdd, reduceSub, reduceLeDiff, reduceReplicate, reduceToNat]
      exact hK _
    · rw [if_neg h0] at hK
      cases hd : kN vol block key 0 with
      | none =>
        have hdv : nO vol block key 0 = .tup [.int .i64 0, .int .i64 90] := by unfold nO; rw [hd]
        rw [hd] at hK
        simp only [hpR, Mm.V, memV, Rd.V, Sk.V, iT hn, h0, hdv, cK.C, eA.C, aA, decide_false, decide_true, aA, gq, reduceEq, reduceLT, reduceLE, implies_true, reduceCtorEq, if_true, if_false, go_sem, reduceEqDiff, Nat.reduceLT, reduceAdd, reduceSub, reduceLeDiff, reduceReplicate, reduceToNat] at hK ⊢
        refine ⟨hr, hsw, hgo _ _ _ ?_⟩
        simp only [hpR, Mm.V, memV, Rd.V, Sk.V, aA, gq, reduceEq, reduceLT, reduceLE, implies_true, reduceCtorEq, if_true, if_false, go_sem, reduceEqDiff, Nat.reduceLT, reduceAdd, reduceSub, reduceLeDiff, reduceReplicate, reduceToNat]
        exact hK _
      | some t =>
        have hdv : nO vol block key 0 = .tup [.int .i64 t, .int .i64 0] := by unfold nO; rw [hd]
        rw [hd] at hK
        simp only [hpR, Mm.V, memV, Rd.V, Sk.V, iT hn, h0, hdv, cK.C, eA.C, aA, decide_false, decide_true, aA, gq, reduceEq, reduceLT, reduceLE, implies_true, reduceCtorEq, if_true, if_false, go_sem, reduceEqDiff, Nat.reduceLT, reduceAdd, reduceSub, reduceLeDiff, reduceReplicate, reduceToNat] at hK ⊢
        exact ⟨hr, hsw, hK _⟩
theorem aKZ (w : List Int) (b : Int) : ∃ (n1 n2 n3 n4 : Int) (n5 : List Int) (e : Int) (lo : aY) (e2 : Int), rQ w b = .tup [.agg [.int .i64 n1, .int .i64 n2, .int .i64 n3, .int .i64 n4, .sl false (.ints .i64 n5)], .int .i64 e] ∧ lowV w n3 = .tup [.str lo, .int .i64 e2] ∧ vW w b = if n3 ≠ 0 ∧ e2 = 0 then some (n3, lo) else none := by
  have hlow : ∀ x : Int, ∃ lo e2, lowV w x = .tup [.str lo, .int .i64 e2] ∧ (cR w x).bind (lowO w) = if e2 = 0 then some lo else none := fun x => by
    unfold lowV
    cases h : (cR w x).bind (lowO w) with
    | none => exact ⟨_, _, rfl, (if_neg (by decide)).symm⟩
    | some l => exact ⟨_, _, rfl, (if_pos rfl).symm⟩
  unfold vW
  cases hn : cR w b with
  | none =>
    obtain ⟨e, _, hv⟩ := pG hn
    obtain ⟨lo, e2, hl, _⟩ := hlow 0
    exact ⟨0, 0, 0, 0, [], e, lo, e2, hv, hl, (if_neg (fun h => h.1 rfl)).symm⟩
  | some n =>
    obtain ⟨n1, n2, n3, n4, n5⟩ := n
    obtain ⟨lo, e2, hl, hb⟩ := hlow n3
    refine ⟨n1, n2, n3, n4, n5, 0, lo, e2, iT hn, hl, ?_⟩
    simp only
    by_cases h0 : n3 = 0
    · rw [if_pos h0, if_neg (fun h => h.1 h0)]
    · rw [if_neg h0, hb]
      by_cases h2 : e2 = 0
      · rw [if_pos h2, if_pos ⟨h0, h2⟩]
      · rw [if_neg h2, if_neg (fun h => h2 h.2)]
theorem aMi (z : Bool) (m0 m : Mm) (r0 r : Rd) (n1 n2 n3 n4 : Int) (n5 : List Int) (l : List RecT) (hl : roomy l.length) (K : AOut → List AObj → Prop)
    (hK1 : ∀ (k : Nat) (Y : List AObj), k < l.length → kyL l k = r.key → (∀ j, j < k → kyL l j ≠ r.key) → K (.ret (.int .i64 k)) (hpR false m0 r0 m r (.box (.ptr 6 []) :: .box (.agg [.int .i64 n1, .int .i64 n2, .int .i64 n3, .int .i64 n4, .sl false (.ints .i64 n5)]) :: Y)))
    (hK2 : (∀ j, j < l.length → kyL l j ≠ r.key) → K (.ret (.int .i64 (-1))) (hpR false m0 r0 m r [.box (.ptr 6 []), .box (.agg [.int .i64 n1, .int .i64 n2, .int .i64 n3, .int .i64 n4, .sl false (.ints .i64 n5)])])) :
    aT.K [.sl false (.recs l), .fn (.func 91) [] [.ptr 7 []]] (hpR z m0 r0 m r [.box (.ptr 6 []), .box (.agg [.int .i64 n1, .int .i64 n2, .int .i64 n3, .int .i64 n4, .sl false (.ints .i64 n5)])]) K := by
  obtain ⟨vol, per, pend⟩ := m
  obtain ⟨key, phase, block, to_, ⟨sb, st, sa, sr, so⟩, val, found⟩ := r
  have hl' := hl
  unfold roomy at hl'
  unfold aT.K aT.H
  simp only [hpR, Mm.V, memV, Rd.V, Sk.V, aA, aA, gq, reduceEq, reduceLT, reduceLE, implies_true, reduceCtorEq, if_true, if_false, go_sem, reduceEqDiff, Nat.reduceLT, reduceAdd, reduceSub, reduceLeDiff, reduceReplicate, reduceToNat] at hK1 hK2 ⊢
  unfold aT.L1
  refine lP (σ := Nat) (fun k => .int .i64 k) (fun k => [.box (.agg [.sl false (.ints .i64 m0.vol), .sl false (.ints .i64 m0.per), .sl false (.pends m0.pend)]), .box (.agg [.str r0.key, .int .i64 r0.phase, .int .i64 r0.block, .int .i64 r0.to_, .agg [.int .i64 r0.seek.block, .int .i64 r0.seek.turn, .int .i64 r0.seek.at_, .sl false (.ints .i64 r0.seek.refs), .bool r0.seek.over], .str r0.val, .bool r0.found]), .box (.agg [.sl false (.ints .i64 []), .sl false (.ints .i64 []), .sl false (.pends [])]), .box (.agg [.str [], .int .i64 0, .int .i64 0, .int .i64 0, .agg [.int .i64 0, .int .i64 0, .int .i64 0, .sl false (.ints .i64 []), .bool false], .str [], .bool false]), fnsR, fnsR, .box (.agg [.agg [.sl false (.ints .i64 vol), .sl false (.ints .i64 per), .sl false (.pends pend)], .agg [.str key, .int .i64 phase, .int .i64 block, .int .i64 to_, .agg [.int .i64 sb, .int .i64 st, .int .i64 sa, .sl false (.ints .i64 sr), .bool so], .str val, .bool found]]), .box (.ptr 6 []), .box (.agg [.int .i64 n1, .int .i64 n2, .int .i64 n3, .int .i64 n4, .sl false (.ints .i64 n5)])]) (fun k => l.length - k) (fun k => k ≤ l.length ∧ ∀ j, j < k → kyL l j ≠ key) 0 rfl rfl ⟨Nat.zero_le _, fun j h => by omega⟩ ?_
  rintro I back k ⟨hk, hall⟩
  by_cases hkl : k < l.length
  · have hb := back (k + 1) (n := l.length - k) (by omega) rfl rfl
    have d1 : decide ((k : Int) < (l.length : Int)) = true := decide_eq_true (by omega)
    simp only [cS.K, cS.H, d1, iQ, iJ, Int.toNat_natCast, aA, fA (show k < 4611686018427387904 by omega), aA, gq, reduceEq, reduceLT, reduceLE, implies_true, reduceCtorEq, if_true, if_false, go_sem, reduceEqDiff, Nat.reduceLT, reduceAdd, reduceSub, reduceLeDiff, reduceReplicate, reduceToNat] at hb ⊢
    refine ⟨⟨by omega, by omega⟩, fun h => hK1 k _ hkl h hall, fun h => hb ⟨by omega, fun j hj => ?_⟩⟩
    by_cases e : j = k
    · subst e; exact h
    · exact hall j (by omega)
  · obtain rfl : k = l.length := by omega
    have d1 : decide ((l.length : Int) < (l.length : Int)) = false := decide_eq_false (by omega)
    simp only [d1, aA, aA, gq, reduceEq, reduceLT, reduceLE, implies_true, reduceCtorEq, if_true, if_false, go_sem, reduceEqDiff, Nat.reduceLT, reduceAdd, reduceSub, reduceLeDiff, reduceReplicate, reduceToNat]
    exact hK2 hall
theorem aNp (z : Bool) (m0 m : Mm) (r0 r : Rd) (hsw : iL m.vol) (hsr : r.seek.refs.length ≤ 200) (K : AOut → List AObj → Prop) (hK : ∀ z Y, K (.ret (.tup [])) (hpR z m0 r0 m (mQ m.vol r) Y)) :
    dB.K [.ptr 6 []] (hpR z m0 r0 m r []) K := by
  obtain ⟨vol, per, pend⟩ := m
  obtain ⟨key, phase, block, to_, ⟨sb, st, sa, sr, so⟩, val, found⟩ := r
  have hr := iL.roomy hsw
  simp only at hr hK hsw hsr
  unfold mQ at hK
  unfold dB.K dB.H
  simp only at hK
  cases hh : tQ vol sb st with
  | false =>
    rw [hh] at hK
    simp only [hpR, Mm.V, memV, Rd.V, Sk.V, hh, fX.C, aA, decide_false, decide_true, aA, gq, reduceEq, reduceLT, reduceLE, implies_true, reduceCtorEq, if_true, if_false, go_sem, reduceEqDiff, Nat.reduceLT, reduceAdd, reduceSub, reduceLeDiff, reduceReplicate, reduceToNat] at hK ⊢
    exact ⟨hr, hK _ _⟩
  | true =>
    rw [hh, if_neg (by decide)] at hK
    obtain ⟨n1, n2, n3, n4, n5, e, lo, e2, hrv, hlv, hright⟩ := aKZ vol block
    rw [hright] at hK
    simp only [hpR, Mm.V, memV, Rd.V, Sk.V, hh, hrv, hlv, fX.C, cK.C, dU.C, decide_false, decide_true, gq, reduceEq, reduceLT, reduceLE, implies_true, reduceCtorEq, if_true, if_false, go_sem, reduceEqDiff, Nat.reduceLT, reduceAdd, reduceSub, reduceLeDiff, reduceReplicate, reduceToNat]
    refine ⟨hr, hr, hsw, ?_⟩
    refine ⟨fun hc => ⟨rfl, ?_⟩, fun hc => ?_⟩
    · simp only [Bool.and_eq_true, Bool.not_eq_true', decide_eq_false_iff_not, decide_eq_true_eq] at hc
      rw [if_pos ⟨hc.1.1, hc.1.2⟩] at hK
      simp only [hc.2, if_true] at hK
      simp only [hpR, Mm.V, memV, Rd.V, Sk.V, aA, gq, reduceEq, reduceLT, reduceLE, implies_true, reduceCtorEq, if_true, if_false, go_sem, reduceEqDiff, Nat.reduceLT, reduceAdd, reduceSub, reduceLeDiff, reduceReplicate, reduceToNat] at hK
      exact hK _ _
    · have hK2 : ∀ z Y, K (.ret (.tup [])) (hpR z m0 r0 ⟨vol, per, pend⟩ (rU vol ⟨key, phase, block, to_, ⟨sb, st, sa, sr, so⟩, val, found⟩) Y) := by
        by_cases h1 : n3 ≠ 0 ∧ e2 = 0
        · rw [if_pos h1] at hK
          have h2 : ltB key lo = true := by
            cases h : ltB key lo with
            | true => rfl
            | false => rw [h, decide_eq_false h1.1, decide_eq_true h1.2] at hc; cases hc
          simp only [h2] at hK
          exact hK
        · rw [if_neg h1] at hK
          exact hK
      clear hK hc
      unfold rU at hK2
      simp only at hK2
      have hso : (uS (iY vol sr)).length ≤ 200 := by
        have h1 := (aAL (w := vol) (refs := sr) (out := []) (by simp)).2
        have h2 := (rS (iY vol sr)).length_eq
        simp only [List.length_nil] at h1
        unfold iY at h2 ⊢
        omega
      simp only [fZ.C, gq, reduceEq, reduceLT, reduceLE, implies_true, reduceCtorEq, if_true, if_false, go_sem, reduceEqDiff, Nat.reduceLT, reduceAdd, reduceSub, reduceLeDiff, reduceReplicate, reduceToNat]
      refine ⟨⟨hr, hsr⟩, ?_⟩
      generalize uS (iY vol sr) = l at hK2 hso ⊢
      refine aMi z m0 ⟨vol, per, pend⟩ r0 ⟨key, phase, block, to_, ⟨sb, st, sa, sr, so⟩, val, found⟩ n1 n2 n3 n4 n5 l (by unfold roomy; omega) _ (fun k Y hk hky hall => ?_) fun hall => ?_
      · have hf : idxR key l = some (l.getD k d0) := by
          unfold idxR
          rw [List.find?_eq_some_iff_getElem]
          have e : l.getD k d0 = l[k] := by rw [List.getD_eq_getElem?_getD, List.getElem?_eq_getElem hk]; rfl
          refine ⟨decide_eq_true hky, k, hk, e.symm, fun j hj => ?_⟩
          have h1 := hall j hj
          unfold kyL at h1
          rw [List.getD_eq_getElem?_getD, List.getElem?_eq_getElem (show j < l.length by omega)] at h1
          simpa using h1
        rw [hf] at hK2
        have d1 : decide ((0 : Int) ≤ (k : Int)) = true := decide_eq_true (by omega)
        simp only [hpR, Mm.V, memV, Rd.V, Sk.V, d1, iQ, iJ, Int.toNat_natCast, aA, aA, gq, reduceEq, reduceLT, reduceLE, implies_true, reduceCtorEq, if_true, if_false, go_sem, reduceEqDiff, Nat.reduceLT, reduceAdd, reduceSub, reduceLeDiff, reduceReplicate, reduceToNat] at hK2 ⊢
        exact ⟨rfl, rfl, rfl, ⟨by omega, by omega⟩, hK2 _ _⟩
      · have hf : idxR key l = none := by
          unfold idxR
          rw [List.find?_eq_none]
          intro x hx h
          obtain ⟨j, hj, rfl⟩ := List.getElem_of_mem hx
          refine hall j hj ?_
          unfold kyL
          rw [List.getD_eq_getElem?_getD, List.getElem?_eq_getElem hj]
          exact of_decide_eq_true h
        rw [hf] at hK2
        simp only [hpR, Mm.V, memV, Rd.V, Sk.V, aA, aA, gq, reduceEq, reduceLT, reduceLE, implies_true, reduceCtorEq, if_true, if_false, go_sem, reduceEqDiff, Nat.reduceLT, reduceAdd, reduceSub, reduceLeDiff, reduceReplicate, reduceToNat] at hK2 ⊢
        exact ⟨rfl, rfl, rfl, hK2 _ _⟩
def fQ.C : aE
  | [.agg [.sl false (.ints .i64 vol), .sl false (.ints .i64 per), .sl false (.pends pend)], .agg [.str key, .int .i64 phase, .int .i64 block, .int .i64 to_, .agg [.int .i64 sb, .int .i64 st, .int .i64 sa, .sl false (.ints .i64 sr), .bool so], .str val, .bool found]] => some (false, pD (kP vol per pend ∧ pend.length + 1 ≤ 1000000 ∧ iL vol ∧ sr.length ≤ 200) (.tup [(nP ⟨vol, per, pend⟩ ⟨key, phase, block, to_, ⟨sb, st, sa, sr, so⟩, val, found⟩).1.V, (nP ⟨vol, per, pend⟩ ⟨key, phase, block, to_, ⟨sb, st, sa, sr, so⟩, val, found⟩).2.V]))
  | _ => none
theorem fQ.spec : bO Tryz.prog 14 fQ.C := by
  refine bO.of (bP (F := []) (S := [(36, eT.K), (58, dM.K), (59, dN.K), (60, dA.K), (61, dB.K), (62, dO.K), (63, dC.K), (64, cV.K)]) (by simp) (by simpa using ⟨eT.spec, dM.spec, dN.spec, dA.spec, dB.spec, dO.spec, dC.spec, cV.spec⟩) fQ.loops) fQ.at fQ.nm fQ.bd ?_
  intro vs b S v news e hS
  unfold fQ.C at e
  split at e
  rotate_left
  · cases e
  cases e
  rw [fQ.eq]
  unfold fQ.H
  simp (maxSteps := 4000000) only [go_sem, reduceEqDiff, Nat.reduceLT, reduceAdd, reduceSub, reduceLeDiff, reduceReplicate, reduceToNat]
  rename_i vol per pend key phase block to_ sb st sa sr so val found
  obtain ⟨hsm, hpe, hsw, hsr⟩ := hS
  simp only [eT.K, eT.H, aA, aA, gq, reduceEq, reduceLT, reduceLE, implies_true, reduceCtorEq, if_true, if_false, go_sem, reduceEqDiff, Nat.reduceLT, reduceAdd, reduceSub, reduceLeDiff, reduceReplicate, reduceToNat]
  have hout : (phase < 1 ∨ 8 ≤ phase) → nP ⟨vol, per, pend⟩ ⟨key, phase, block, to_, ⟨sb, st, sa, sr, so⟩, val, found⟩ = (⟨vol, per, pend⟩, ⟨key, phase, block, to_, ⟨sb, st, sa, sr, so⟩, val, found⟩) := fun h => by
    unfold nP
    simp only
    rw [if_neg (by omega), if_neg (by omega), if_neg (by omega), if_neg (by omega), if_neg (by omega), if_neg (by omega), if_neg (by omega)]
  by_cases hlo : phase < 1
  · rw [hout (.inl hlo)]
    simp only [hlo, decide_true, Mm.V, memV, Rd.V, Sk.V, aA, aA, gq, reduceEq, reduceLT, reduceLE, implies_true, reduceCtorEq, if_true, if_false, go_sem, reduceEqDiff, Nat.reduceLT, reduceAdd, reduceSub, reduceLeDiff, reduceReplicate, reduceToNat]
    exact ⟨rfl, aH rfl rfl⟩
  by_cases hhi : 8 ≤ phase
  · rw [hout (.inr hhi)]
    simp only [hlo, hhi, decide_false, decide_true, Mm.V, memV, Rd.V, Sk.V, aA, aA, gq, reduceEq, reduceLT, reduceLE, implies_true, reduceCtorEq, if_true, if_false, go_sem, reduceEqDiff, Nat.reduceLT, reduceAdd, reduceSub, reduceLeDiff, reduceReplicate, reduceToNat]
    exact ⟨rfl, aH rfl rfl⟩
  have hph : phase = 1 ∨ phase = 2 ∨ phase = 3 ∨ phase = 4 ∨ phase = 5 ∨ phase = 6 ∨ phase = 7 := by omega
  clear hout hlo hhi
  rcases hph with rfl | rfl | rfl | rfl | rfl | rfl | rfl
  · have hst : nP ⟨vol, per, pend⟩ ⟨key, 1, block, to_, ⟨sb, st, sa, sr, so⟩, val, found⟩ = (⟨vol, per, pend⟩, qG vol ⟨key, 1, block, to_, ⟨sb, st, sa, sr, so⟩, val, found⟩) := rfl
    rw [hst]
    have hg : ([none, some 58, some 59, some 60, some 61, some 62, some 63, some 64] : List (Option FuncId)).getD ((1 : Int)).toNat none = some 58 := rfl
    simp only [hg, aA, aA, gq, reduceEq, reduceLT, reduceLE, implies_true, reduceCtorEq, if_true, if_false, go_sem, reduceEqDiff, Nat.reduceLT, reduceAdd, reduceSub, reduceLeDiff, reduceReplicate, reduceToNat]
    refine aOu true ⟨vol, per, pend⟩ ⟨vol, per, pend⟩ ⟨key, 1, block, to_, ⟨sb, st, sa, sr, so⟩, val, found⟩ ⟨key, 1, block, to_, ⟨sb, st, sa, sr, so⟩, val, found⟩ hsw _ fun Y => ?_
    generalize qG vol ⟨key, 1, block, to_, ⟨sb, st, sa, sr, so⟩, val, found⟩ = r'
    obtain ⟨key', phase', block', to', ⟨sb', st', sa', sr', so'⟩, val', found'⟩ := r'
    simp only [hpR, Mm.V, memV, Rd.V, Sk.V, aA, aA, gq, reduceEq, reduceLT, reduceLE, implies_true, reduceCtorEq, if_true, if_false, go_sem, reduceEqDiff, Nat.reduceLT, reduceAdd, reduceSub, reduceLeDiff, reduceReplicate, reduceToNat]
    exact ⟨rfl, aH rfl rfl⟩
  · have hst : nP ⟨vol, per, pend⟩ ⟨key, 2, block, to_, ⟨sb, st, sa, sr, so⟩, val, found⟩ = (⟨vol, per, pend⟩, rT vol ⟨key, 2, block, to_, ⟨sb, st, sa, sr, so⟩, val, found⟩) := rfl
    rw [hst]
    have hg : ([none, some 58, some 59, some 60, some 61, some 62, some 63, some 64] : List (Option FuncId)).getD ((2 : Int)).toNat none = some 59 := rfl
    simp only [hg, aA, aA, gq, reduceEq, reduceLT, reduceLE, implies_true, reduceCtorEq, if_true, if_false, go_sem, reduceEqDiff, Nat.reduceLT, reduceAdd, reduceSub, reduceLeDiff, reduceReplicate, reduceToNat]
    refine aOs true ⟨vol, per, pend⟩ ⟨vol, per, pend⟩ ⟨key, 2, block, to_, ⟨sb, st, sa, sr, so⟩, val, found⟩ ⟨key, 2, block, to_, ⟨sb, st, sa, sr, so⟩, val, found⟩ hsw _ fun Y => ?_
    generalize rT vol ⟨key, 2, block, to_, ⟨sb, st, sa, sr, so⟩, val, found⟩ = r'
    obtain ⟨key', phase', block', to', ⟨sb', st', sa', sr', so'⟩, val', found'⟩ := r'
    simp only [hpR, Mm.V, memV, Rd.V, Sk.V, aA, aA, gq, reduceEq, reduceLT, reduceLE, implies_true, reduceCtorEq, if_true, if_false, go_sem, reduceEqDiff, Nat.reduceLT, reduceAdd, reduceSub, reduceLeDiff, reduceReplicate, reduceToNat]
    exact ⟨rfl, aH rfl rfl⟩
  · have hst : nP ⟨vol, per, pend⟩ ⟨key, 3, block, to_, ⟨sb, st, sa, sr, so⟩, val, found⟩ = (⟨vol, per, pend⟩, pY vol ⟨key, 3, block, to_, ⟨sb, st, sa, sr, so⟩, val, found⟩) := rfl
    rw [hst]
    have hg : ([none, some 58, some 59, some 60, some 61, some 62, some 63, some 64] : List (Option FuncId)).getD ((3 : Int)).toNat none = some 60 := rfl
    simp only [hg, aA, aA, gq, reduceEq, reduceLT, reduceLE, implies_true, reduceCtorEq, if_true, if_false, go_sem, reduceEqDiff, Nat.reduceLT, reduceAdd, reduceSub, reduceLeDiff, reduceReplicate, reduceToNat]
    refine aNn true ⟨vol, per, pend⟩ ⟨vol, per, pend⟩ ⟨key, 3, block, to_, ⟨sb, st, sa, sr, so⟩, val, found⟩ ⟨key, 3, block, to_, ⟨sb, st, sa, sr, so⟩, val, found⟩ hsw hsr _ fun Y => ?_
    generalize pY vol ⟨key, 3, block, to_, ⟨sb, st, sa, sr, so⟩, val, found⟩ = r'
    obtain ⟨key', phase', block', to', ⟨sb', st', sa', sr', so'⟩, val', found'⟩ := r'
    simp only [hpR, Mm.V, memV, Rd.V, Sk.V, aA, aA, gq, reduceEq, reduceLT, reduceLE, implies_true, reduceCtorEq, if_true, if_false, go_sem, reduceEqDiff, Nat.reduceLT, reduceAdd, reduceSub, reduceLeDiff, reduceReplicate, reduceToNat]
    exact ⟨rfl, aH rfl rfl⟩
  · have hst : nP ⟨vol, per, pend⟩ ⟨key, 4, block, to_, ⟨sb, st, sa, sr, so⟩, val, found⟩ = (⟨vol, per, pend⟩, mQ vol ⟨key, 4, block, to_, ⟨sb, st, sa, sr, so⟩, val, found⟩) := rfl
    rw [hst]
    have hg : ([none, some 58, some 59, some 60, some 61, some 62, some 63, some 64] : List (Option FuncId)).getD ((4 : Int)).toNat none = some 61 := rfl
    simp only [hg, aA, aA, gq, reduceEq, reduceLT, reduceLE, implies_true, reduceCtorEq, if_true, if_false, go_sem, reduceEqDiff, Nat.reduceLT, reduceAdd, reduceSub, reduceLeDiff, reduceReplicate, reduceToNat]
    refine aNp true ⟨vol, per, pend⟩ ⟨vol, per, pend⟩ ⟨key, 4, block, to_, ⟨sb, st, sa, sr, so⟩, val, found⟩ ⟨key, 4, block, to_, ⟨sb, st, sa, sr, so⟩, val, found⟩ hsw hsr _ fun z Y => ?_
    generalize mQ vol ⟨key, 4, block, to_, ⟨sb, st, sa, sr, so⟩, val, found⟩ = r'
    obtain ⟨key', phase', block', to', ⟨sb', st', sa', sr', so'⟩, val', found'⟩ := r'
    simp only [hpR, Mm.V, memV, Rd.V, Sk.V, aA, aA, gq, reduceEq, reduceLT, reduceLE, implies_true, reduceCtorEq, if_true, if_false, go_sem, reduceEqDiff, Nat.reduceLT, reduceAdd, reduceSub, reduceLeDiff, reduceReplicate, reduceToNat]
    exact ⟨rfl, aH rfl rfl⟩
  · have hst : nP ⟨vol, per, pend⟩ ⟨key, 5, block, to_, ⟨sb, st, sa, sr, so⟩, val, found⟩ = (kY ⟨vol, per, pend⟩ block 0, ⟨key, 2, to_, to_, ⟨sb, st, sa, sr, so⟩, val, found⟩) := rfl
    rw [hst]
    have hg : ([none, some 58, some 59, some 60, some 61, some 62, some 63, some 64] : List (Option FuncId)).getD ((5 : Int)).toNat none = some 62 := rfl
    simp only [hg, aA, aA, gq, reduceEq, reduceLT, reduceLE, implies_true, reduceCtorEq, if_true, if_false, go_sem, reduceEqDiff, Nat.reduceLT, reduceAdd, reduceSub, reduceLeDiff, reduceReplicate, reduceToNat]
    refine aOt true ⟨vol, per, pend⟩ ⟨vol, per, pend⟩ ⟨key, 5, block, to_, ⟨sb, st, sa, sr, so⟩, val, found⟩ ⟨key, 5, block, to_, ⟨sb, st, sa, sr, so⟩, val, found⟩ hsm (by simp only; omega) _ ?_
    generalize kY ⟨vol, per, pend⟩ block 0 = m'
    obtain ⟨vol', per', pend'⟩ := m'
    simp only [hpR, Mm.V, memV, Rd.V, Sk.V, aA, aA, gq, reduceEq, reduceLT, reduceLE, implies_true, reduceCtorEq, if_true, if_false, go_sem, reduceEqDiff, Nat.reduceLT, reduceAdd, reduceSub, reduceLeDiff, reduceReplicate, reduceToNat]
    exact ⟨rfl, aH rfl rfl⟩
  · have hst : nP ⟨vol, per, pend⟩ ⟨key, 6, block, to_, ⟨sb, st, sa, sr, so⟩, val, found⟩ = (kY ⟨vol, per, pend⟩ block 0, ⟨key, 7, block, to_, ⟨sb, st, sa, sr, so⟩, val, found⟩) := rfl
    rw [hst]
    have hg : ([none, some 58, some 59, some 60, some 61, some 62, some 63, some 64] : List (Option FuncId)).getD ((6 : Int)).toNat none = some 63 := rfl
    simp only [hg, aA, aA, gq, reduceEq, reduceLT, reduceLE, implies_true, reduceCtorEq, if_true, if_false, go_sem, reduceEqDiff, Nat.reduceLT, reduceAdd, reduceSub, reduceLeDiff, reduceReplicate, reduceToNat]
    refine aNo true ⟨vol, per, pend⟩ ⟨vol, per, pend⟩ ⟨key, 6, block, to_, ⟨sb, st, sa, sr, so⟩, val, found⟩ ⟨key, 6, block, to_, ⟨sb, st, sa, sr, so⟩, val, found⟩ hsm (by simp only; omega) _ ?_
    generalize kY ⟨vol, per, pend⟩ block 0 = m'
    obtain ⟨vol', per', pend'⟩ := m'
    simp only [hpR, Mm.V, memV, Rd.V, Sk.V, aA, aA, gq, reduceEq, reduceLT, reduceLE, implies_true, reduceCtorEq, if_true, if_false, go_sem, reduceEqDiff, Nat.reduceLT, reduceAdd, reduceSub, reduceLeDiff, reduceReplicate, reduceToNat]
    exact ⟨rfl, aH rfl rfl⟩
  · have hst : nP ⟨vol, per, pend⟩ ⟨key, 7, block, to_, ⟨sb, st, sa, sr, so⟩, val, found⟩ = (kY ⟨vol, per, pend⟩ block 1, ⟨key, 8, block, to_, ⟨sb, st, sa, sr, so⟩, val, found⟩) := rfl
    rw [hst]
    have hg : ([none, some 58, some 59, some 60, some 61, some 62, some 63, some 64] : List (Option FuncId)).getD ((7 : Int)).toNat none = some 64 := rfl
    simp only [hg, aA, aA, gq, reduceEq, reduceLT, reduceLE, implies_true, reduceCtorEq, if_true, if_false, go_sem, reduceEqDiff, Nat.reduceLT, reduceAdd, reduceSub, reduceLeDiff, reduceReplicate, reduceToNat]
    refine aMh true ⟨vol, per, pend⟩ ⟨vol, per, pend⟩ ⟨key, 7, block, to_, ⟨sb, st, sa, sr, so⟩, val, found⟩ ⟨key, 7, block, to_, ⟨sb, st, sa, sr, so⟩, val, found⟩ hsm (by simp only; omega) _ ?_
    generalize kY ⟨vol, per, pend⟩ block 1 = m'
    obtain ⟨vol', per', pend'⟩ := m'
    simp only [hpR, Mm.V, memV, Rd.V, Sk.V, aA, aA, gq, reduceEq, reduceLT, reduceLE, implies_true, reduceCtorEq, if_true, if_false, go_sem, reduceEqDiff, Nat.reduceLT, reduceAdd, reduceSub, reduceLeDiff, reduceReplicate, reduceToNat]
    exact ⟨rfl, aH rfl rfl⟩
end Lam
namespace Lam
open Go Go.Proofs
end Lam
namespace Lam
open Go Go.Proofs
end Lam
namespace Lam
open Go Go.Proofs
end Lam
namespace Lam
open Go Go.Proofs
end Lam
namespace Lam
open Go Go.Proofs
end Lam
namespace Lam
open Go Go.Proofs
def eY.C : aE
  | [.sl _ (.ints .i64 w), .str k] => some (false, pD (roomy w.length) (mR w k))
  | _ => none
theorem eY.spec : bO Tryz.prog 27 eY.C := by
  refine bO.of (bP (F := [(53, gF.C), (38, dZ.C)]) (S := []) (by simpa using ⟨gF.spec, dZ.spec⟩) (by simp) eY.loops) eY.at eY.nm eY.bd ?_
  intro vs b S v news e hS
  unfold eY.C at e
  split at e
  rotate_left
  · cases e
  cases e
  rw [eY.eq]
  unfold eY.H
  simp (maxSteps := 4000000) only [go_sem, reduceEqDiff, Nat.reduceLT, reduceAdd, reduceSub, reduceLeDiff, reduceReplicate, reduceToNat, gF.C, dZ.C]
  rename_i w k
  unfold mR zD
  by_cases hk : k ≠ [] ∧ k.length ≤ 21
  · have h1 : (decide (k ≠ []) && decide ((k.length : Int) ≤ 21)) = true := by
      simp only [Bool.and_eq_true, decide_eq_true_eq]; exact ⟨hk.1, by omega⟩
    rw [if_pos hk]
    cases hb : eC w with
    | true =>
      have hv : kQ w = .tup [.int .i64 (w.getD 1 0), .int .i64 (w.getD 3 0), .int .i64 0] := by unfold kQ; rw [hb]; rfl
      simp only [h1, hv, Rd.V, Sk.V, skZ, if_true, decide_true, decide_false, aA, aA, gq, reduceEq, reduceLT, reduceLE, implies_true, reduceCtorEq, if_true, if_false, go_sem, reduceEqDiff, Nat.reduceLT, reduceAdd, reduceSub, reduceLeDiff, reduceReplicate, reduceToNat]
      exact ⟨hS, aH rfl rfl⟩
    | false =>
      have hv : kQ w = .tup [.int .i64 0, .int .i64 0, .int .i64 80] := by unfold kQ; rw [hb]; rfl
      simp only [h1, hv, Rd.V, Sk.V, skZ, if_false, decide_true, decide_false, aA, aA, gq, reduceEq, reduceLT, reduceLE, implies_true, reduceCtorEq, if_true, if_false, go_sem, reduceEqDiff, Nat.reduceLT, reduceAdd, reduceSub, reduceLeDiff, reduceReplicate, reduceToNat]
      exact ⟨hS, aH rfl rfl⟩
  · have h1 : (decide (k ≠ []) && decide ((k.length : Int) ≤ 21)) = false := by
      rw [Bool.eq_false_iff]
      simp only [ne_eq, Bool.and_eq_true, decide_eq_true_eq]
      exact fun h => hk ⟨h.1, by omega⟩
    rw [if_neg hk]
    simp only [h1, rdZ, Rd.V, Sk.V, skZ, aA, aA, gq, reduceEq, reduceLT, reduceLE, implies_true, reduceCtorEq, if_true, if_false, go_sem, reduceEqDiff, Nat.reduceLT, reduceAdd, reduceSub, reduceLeDiff, reduceReplicate, reduceToNat]
    exact aH rfl rfl
theorem aAN {w : List Int} (b line : Int) : kY ⟨w, w, []⟩ b line = ⟨w, w, []⟩ := by
  unfold kY
  split
  · unfold doM
    split
    · rfl
    · rfl
  · rfl
end Lam
namespace Lam
open Go Go.Proofs
def aFA (n : Nat) : List Int := pV n 1 ++ (fM jI ++ List.replicate (16 * n - 32) 0)
def vX (n : Int) : AV := if (decide (n < 2) || decide (256 < n)) = true then .tup [.sl false (.ints .i64 []), .int .i64 1] else .tup [.sl false (.ints .i64 (aFA n.toNat)), .int .i64 0]
def hG.C : aE
  | [.int .i64 n] => some (false, pD True (vX n))
  | _ => none
theorem hG.spec : bO Tryz.prog 32 hG.C := by
  refine bO.of (bP (F := [(56, fU.C), (57, fI.C)]) (S := []) (by simpa using ⟨fU.spec, fI.spec⟩) (by simp) hG.loops) hG.at hG.nm hG.bd ?_
  intro vs b S v news e hS
  unfold hG.C at e
  split at e
  rotate_left
  · cases e
  cases e
  rw [hG.eq]
  unfold hG.H
  simp (maxSteps := 4000000) only [go_sem, reduceEqDiff, Nat.reduceLT, reduceAdd, reduceSub, reduceLeDiff, reduceReplicate, reduceToNat, fU.C, fI.C]
  rename_i n
  refine ⟨fun h => ?_, fun h => ?_⟩
  · have : vX n = .tup [.sl false (.ints .i64 []), .int .i64 1] := by unfold vX; rw [if_pos h]
    rw [this]; refine aH ?_ rfl; simp only [go_sem, reduceEqDiff, Nat.reduceLT, reduceAdd, reduceSub, reduceLeDiff, reduceReplicate, reduceToNat]
  · have hv : vX n = .tup [.sl false (.ints .i64 (aFA n.toNat)), .int .i64 0] := by unfold vX; rw [if_neg (by rw [h]; decide)]
    rw [hv]
    clear hv
    simp only [Bool.or_eq_false_iff, decide_eq_false_iff_not] at h
    obtain ⟨k, rfl⟩ := Int.eq_ofNat_of_zero_le (show 0 ≤ n by omega)
    have hmay : mayB (k : Int) 1 = true := by unfold mayB; simp only [Bool.and_eq_true, decide_eq_true_eq]; omega
    have e1 : IntKind.i64.wrap (16 * (k : Int)) = ((16 * k : Nat) : Int) := by rw [w64 (by omega) (by omega)]; omega
    have hz : yA ⟨0, 0, 0, 0, []⟩ = .tup [.sl false (.ints .i64 (fM jI)), .int .i64 0] := by
      unfold yA; rw [if_pos (by decide)]; rfl
    have hsl : (pV (k : Int) 1).length = 16 := rfl
    have hzl : (fM jI).length = 16 := rfl
    have hrl : (List.replicate (16 * k) (0 : Int)).length = 16 * k := List.length_replicate
    simp only [hmay, if_true, e1, hz, Int.toNat_natCast, hsl, hzl, aA, gq, reduceEq, reduceLT, reduceLE, implies_true, reduceCtorEq, if_true, if_false, go_sem, reduceEqDiff, Nat.reduceLT, reduceAdd, reduceSub, reduceLeDiff, reduceReplicate, reduceToNat]
    refine ⟨⟨by omega, by omega, by unfold roomy; omega⟩, by omega, ?_⟩
    have m1 : min (16 * k) 16 = 16 := by omega
    have m2 : min (16 * k - 16) 16 = 16 := by omega
    have t1 : (pV (k : Int) 1).take (16 * k) = pV (k : Int) 1 := List.take_of_length_le (by rw [hsl]; omega)
    have t2 : (fM jI).take (16 * k - 16) = fM jI := List.take_of_length_le (by rw [hzl]; omega)
    refine aH ?_ rfl
    simp only [m1, m2, t1, t2, go_sem, reduceEqDiff, Nat.reduceLT, reduceAdd, reduceSub, reduceLeDiff, reduceReplicate, reduceToNat]
    have hR : List.take (16 * k - 16) (List.drop 16 (List.replicate (16 * k) (0 : Int))) = List.replicate (16 * k - 16) 0 := by simp
    rw [hR]
    have l1 : (pV (k : Int) 1 ++ List.replicate (16 * k - 16) (0 : Int)).length = 16 * k := by rw [List.length_append, hsl, List.length_replicate]; omega
    have l2 : (pV (k : Int) 1 ++ List.replicate (16 * k - 16) (0 : Int)).take 16 = pV (k : Int) 1 := List.take_left' hsl
    have l3 : (pV (k : Int) 1 ++ List.replicate (16 * k - 16) (0 : Int)).drop 32 = List.replicate (16 * k - 32) 0 := by
      rw [List.drop_append, hsl, List.drop_of_length_le (by rw [hsl]; omega), List.drop_replicate, List.nil_append]
      rw [show 16 * k - 16 - (32 - 16) = 16 * k - 32 by omega]
    rw [l1, l2, l3]
    have l4 : (List.replicate (16 * k - 32) (0 : Int)).take (16 * k - 32) = List.replicate (16 * k - 32) 0 := by simp
    rw [l4]
    have l5 : (pV (k : Int) 1 ++ (fM jI ++ List.replicate (16 * k - 32) (0 : Int))).take (16 * k) = aFA k := by
      rw [List.take_of_length_le]
      · rfl
      · simp only [List.length_append, hsl, hzl, List.length_replicate]; omega
    rw [l5]
def A4 : List Int := aFA 4
theorem aGL : iL A4 := by
  refine ⟨by decide +kernel, ?_⟩
  have : A4.all (fun x => decide (x < 9223372036854775808)) = true := by decide +kernel
  intro x hx
  exact of_decide_eq_true (List.all_eq_true.1 this x hx)
end Lam
namespace Lam
open Go Go.Proofs
def cF.loops : Nat → bV
 | 7 => ⟨[9, 10], [false, false], [3, 5, 6, 8], [(3, none), (3, some [32, 35])], [], []⟩
 | 11 => ⟨[], [], [], [(3, none), (2, some [49, 51]), (2, none), (3, some [53, 56]), (2, none), (3, some [58, 61]), (2, none), (3, some [63, 66]), (2, none), (2, some [68, 70])], [], []⟩
 | _ => ⟨[], [], [], [], [], []⟩
def cF.L1 (c : Ctx) (J1 : AV → AV → AV → AV → List AObj → Prop) (K : AOut → List AObj → Prop) (lv : List AV) (h0 : List AObj) (n0 : Nat) (c3 : AV) (c5 : AV) (c6 : AV) (c8 : AV) : Prop :=
 ∃ I : Nat → List AV → List AObj → Prop, (∃ n, I n lv h0) ∧ ∀ n h, ∀ t9, ∀ t10, I n [t9, t10] h →
 runD (binD aB .lss t10 (.int .i64 40)) h fun t31 h =>
 aL (fun (J2 : AV → AV → List AObj → Prop) =>
 bC t31 true
 (runD (aC aU c5 1) h fun t33 h =>
 runD (fitD aB (aD h t33)) h fun t34 h =>
 runD (binD aB .neq t34 (.int .i64 8)) h fun t35 h =>
 J2 (.bool true) t35 h)
 (J2 (.bool false) .und h))
 (fun t32 t35 h => runD (bS t32 t35 (.bool false)) h fun t36 h =>
 bF t36
 (runD (fitD aM (aD h c3)) h fun t40 h =>
 runD (fitD aU (aD h c5)) h fun t41 h =>
 aS false c (.fn (.func 14) [] []) [t40, t41] h (fun t42 h =>
 runD (bE t42 0) h fun t43 h =>
 runD (bE t42 1) h fun t44 h =>
 runH (aR aM h c3 t43) h fun _ h =>
 runH (aR aU h c5 t44) h fun _ h =>
 runD (binD aB .add t9 (.int .i64 1)) h fun t46 h =>
 runD (binD aB .add t10 (.int .i64 1)) h fun t38 h =>
 (∃ m, m < n ∧ I m (AV.norms n0 h [t46, t38]) (cI n0 h)) ∧ AV.norms n0 h [c3, c5, c6, c8] = [c3, c5, c6, c8])
 (fun v h => K (.pan v) h))
 (J1 c5 c6 c8 t9 h))
def cF.H (c : Ctx) (h : List AObj) (K : AOut → List AObj → Prop) : Prop :=
 aS false c (.fn (.func 32) [] []) [(.int .i64 4)] h (fun t12 h =>
 runD (bE t12 0) h fun t13 h =>
 runD (bE t12 1) h fun t14 h =>
 aS false c (.fn (.func 28) [] []) [t13] h (fun t17 h =>
 runD (bE t17 0) h fun t18 h =>
 runD (bE t17 1) h fun t19 h =>
 cT aM h fun t3 h =>
 runH (aR aM h t3 t18) h fun _ h =>
 aS false c (.fn (.func 27) [] []) [t13, (.str [97])] h (fun t22 h =>
 runD (bE t22 0) h fun t23 h =>
 runD (bE t22 1) h fun t24 h =>
 cT aU h fun t5 h =>
 runH (aR aU h t5 t23) h fun _ h =>
 aS false c (.fn (.func 27) [] []) [t13, (.str [])] h (fun t27 h =>
 runD (bE t27 0) h fun t28 h =>
 runD (bE t27 1) h fun t29 h =>
 cT aU h fun t7 h =>
 runH (aR aU h t7 t28) h fun _ h =>
 aL (fun (J1 : AV → AV → AV → AV → List AObj → Prop) =>
 dP [false, false] [(.int .i64 0), (.int .i64 0)] h fun lv h => cF.L1 c J1 K (AV.norms h.length h lv) (cI h.length h) h.length (AV.norm h.length h t3) (AV.norm h.length h t5) (AV.norm h.length h t24) (AV.norm h.length h t29))
 (fun t5 t6 t8 t9 h => runD (binD cM .eql t6 (.int .i64 0)) h fun t48 h =>
 aL (fun (J3 : AV → AV → List AObj → Prop) =>
 bC t48 true
 (runD (binD cM .eql t8 (.int .i64 20)) h fun t51 h =>
 J3 (.bool true) t51 h)
 (J3 (.bool false) .und h))
 (fun t49 t51 h => runD (bS t49 t51 (.bool false)) h fun t52 h =>
 aL (fun (J4 : AV → AV → List AObj → Prop) =>
 bC t52 true
 (runD (aC aU t5 1) h fun t54 h =>
 runD (fitD aB (aD h t54)) h fun t55 h =>
 runD (binD aB .eql t55 (.int .i64 8)) h fun t56 h =>
 J4 (.bool true) t56 h)
 (J4 (.bool false) .und h))
 (fun t53 t56 h => runD (bS t53 t56 (.bool false)) h fun t57 h =>
 aL (fun (J5 : AV → AV → List AObj → Prop) =>
 bC t57 true
 (runD (aC aU t5 6) h fun t59 h =>
 runD (fitD lC (aD h t59)) h fun t60 h =>
 runD (unD .not t60) h fun t61 h =>
 J5 (.bool true) t61 h)
 (J5 (.bool false) .und h))
 (fun t58 t61 h => runD (bS t58 t61 (.bool false)) h fun t62 h =>
 aL (fun (J6 : AV → AV → List AObj → Prop) =>
 bC t62 true
 (runD (aC aU t5 2) h fun t64 h =>
 runD (fitD aB (aD h t64)) h fun t65 h =>
 runD (binD aB .eql t65 (.int .i64 1)) h fun t66 h =>
 J6 (.bool true) t66 h)
 (J6 (.bool false) .und h))
 (fun t63 t66 h => runD (bS t63 t66 (.bool false)) h fun t67 h =>
 aL (fun (J7 : AV → AV → List AObj → Prop) =>
 bC t67 true
 (runD (binD aB .eql t9 (.int .i64 6)) h fun t70 h =>
 J7 (.bool true) t70 h)
 (J7 (.bool false) .und h))
 (fun t68 t70 h => runD (bS t68 t70 (.bool false)) h fun t71 h =>
 runD (bS t71 (.bool true) (.bool false)) h fun t73 h =>
 K (.ret t73) h)))))))
 (fun v h => K (.pan v) h))
 (fun v h => K (.pan v) h))
 (fun v h => K (.pan v) h))
 (fun v h => K (.pan v) h)
theorem cF.eq (F : List (FuncId × aE)) (S : List (FuncId × Con)) (h : List AObj) (K : AOut → List AObj → Prop) : funW (ctx F S cF.loops) Tryz.f11 [] h K = cF.H (ctx F S cF.loops)  h K := by kernel_rfl
theorem cF.at : Tryz.prog.funcs[11]? = some Tryz.f11 := by kernel_rfl
theorem cF.nm : (Tryz.f11.name == "runtime.NumGoroutine") = false := by kernel_rfl
theorem cF.bd : Tryz.f11.body.isNone = false := by kernel_rfl
end Lam
namespace Lam
open Go Go.Proofs
end Lam
namespace Lam
open Go Go.Proofs
def M16 : Mm := ⟨A4, A4, []⟩
def R16 : Nat → Rd
  | 0 => ⟨[97], 1, 1, 0, skZ, [], false⟩
  | 1 => ⟨[97], 2, 1, 0, skZ, [], false⟩
  | 2 => ⟨[97], 3, 1, 0, ⟨1, 0, 0, [], false⟩, [], false⟩
  | 3 => ⟨[97], 4, 1, 0, ⟨1, 0, 0, [], true⟩, [], false⟩
  | 4 => ⟨[97], 6, 1, 0, ⟨1, 0, 0, [], true⟩, [], false⟩
  | 5 => ⟨[97], 7, 1, 0, ⟨1, 0, 0, [], true⟩, [], false⟩
  | _ => ⟨[97], 8, 1, 0, ⟨1, 0, 0, [], true⟩, [], false⟩
theorem aBm : cR A4 1 = some jI := by decide +kernel
theorem aMj : pX A4 1 = some ⟨1, 0, 0, [], false⟩ := by
  unfold pX
  rw [aBm]; rfl
theorem aMk : ∀ k, k < 6 → nP M16 (R16 k) = (M16, R16 (k + 1)) ∧ (R16 k).phase ≠ 8
  | 0, _ => ⟨by
      show ((M16, qG A4 (R16 0)) : Mm × Rd) = _
      unfold qG; rw [show (R16 0).block = 1 from rfl, aBm]; rfl, by decide⟩
  | 1, _ => ⟨by
      show ((M16, rT A4 (R16 1)) : Mm × Rd) = _
      unfold rT; rw [show (R16 1).block = 1 from rfl, aMj]; rfl, by decide⟩
  | 2, _ => ⟨by
      show ((M16, pY A4 (R16 2)) : Mm × Rd) = _
      rfl, by decide⟩
  | 3, _ => ⟨by
      show ((M16, mQ A4 (R16 3)) : Mm × Rd) = _
      unfold mQ
      rw [show tQ A4 (R16 3).seek.block (R16 3).seek.turn = true by
        unfold tQ
        rw [show (R16 3).seek.block = 1 from rfl, aBm]; rfl]
      rw [if_neg (by decide), show vW A4 (R16 3).block = none by
        unfold vW
        rw [show (R16 3).block = 1 from rfl, aBm]; rfl]
      rfl, by decide⟩
  | 4, _ => ⟨by
      show ((kY M16 1 0, (⟨[97], 7, 1, 0, ⟨1, 0, 0, [], true⟩, [], false⟩ : Rd)) : Mm × Rd) = _
      unfold M16
      rw [aAN]; rfl, by decide⟩
  | 5, _ => ⟨by
      show ((kY M16 1 1, (⟨[97], 8, 1, 0, ⟨1, 0, 0, [], true⟩, [], false⟩ : Rd)) : Mm × Rd) = _
      unfold M16
      rw [aAN]; rfl, by decide⟩
  | k + 6, h => by omega
theorem aMl : ∀ k, k ≤ 6 → (R16 k).seek.refs = []
  | 0, _ => rfl
  | 1, _ => rfl
  | 2, _ => rfl
  | 3, _ => rfl
  | 4, _ => rfl
  | 5, _ => rfl
  | 6, _ => rfl
  | k + 7, h => by omega
theorem aNq : zD A4 = 1 := by
  unfold zD
  rw [show eC A4 = true from by decide +kernel]; rfl
theorem aOv : vX 4 = .tup [.sl false (.ints .i64 A4), .int .i64 0] := by
  unfold vX; rw [if_neg (by decide)]; rfl
theorem aLa : newM A4 = .tup [memV A4 A4 [], .int .i64 0] := by
  unfold newM; rw [show szB A4.length = true from by decide +kernel]; rfl
theorem aLb : mR A4 [97] = .tup [(R16 0).V, .int .i64 0] := by
  unfold mR; rw [if_pos (by decide), aNq]; rfl
theorem aLc : mR A4 [] = .tup [rdZ.V, .int .i64 20] := by
  unfold mR; rw [if_neg (by decide)]
def cF.C : aE
  | [] => some (false, pD True (.bool true))
  | _ => none
theorem cF.spec : bO Tryz.prog 11 cF.C := by
  refine bO.of (bP (F := [(32, hG.C), (28, gR.C), (27, eY.C), (14, fQ.C)]) (S := []) (by simpa using ⟨hG.spec, gR.spec, eY.spec, fQ.spec⟩) (by simp) cF.loops) cF.at cF.nm cF.bd ?_
  intro vs b S v news e hS
  unfold cF.C at e
  split at e
  rotate_left
  · cases e
  cases e
  rw [cF.eq]
  unfold cF.H
  simp (maxSteps := 4000000) only [go_sem, reduceEqDiff, Nat.reduceLT, reduceAdd, reduceSub, reduceLeDiff, reduceReplicate, reduceToNat, hG.C, gR.C, eY.C, fQ.C, aOv, aLa, aLb, aLc]
  have rA : roomy A4.length := aGL.roomy
  have hsm : kP A4 A4 [] := ⟨rA, rA, by unfold roomy; decide⟩
  simp only [gR.C, eY.C, aLa, aLb, aLc, memV, R16, rdZ, Rd.V, Sk.V, skZ, aA, gq, reduceEq, reduceLT, reduceLE, implies_true, reduceCtorEq, if_true, if_false, go_sem, reduceEqDiff, Nat.reduceLT, reduceAdd, reduceSub, reduceLeDiff, reduceReplicate, reduceToNat]
  refine ⟨rA, rA, rA, ?_⟩
  unfold cF.L1
  refine qD (σ := Nat) (fun k => .int .i64 k) (fun k => .int .i64 k) (fun k => [.box M16.V, .box (R16 k).V, .box rdZ.V]) (fun k => 6 - k) (fun k => k ≤ 6) 0 rfl rfl (by decide) ?_
  intro I back k hk
  by_cases hk6 : k < 6
  · obtain ⟨h1, h2⟩ := aMk k hk6
    have h3 := aMl k hk
    have hb := back (k + 1) (n := 6 - k) (by omega) rfl rfl (by omega)
    clear back
    generalize R16 (k + 1) = y at *
    generalize R16 k = x at *
    obtain ⟨y1, y2, y3, y4, ⟨z1, z2, z3, z4, z5⟩, y5, y6⟩ := y
    obtain ⟨x1, x2, x3, x4, ⟨s1, s2, s3, s4, s5⟩, x5, x6⟩ := x
    simp only at h2 h3
    have d1 : decide ((k : Int) < 40) = true := decide_eq_true (by omega)
    unfold M16 at h1 hb ⊢
    simp only [fQ.C, h1, h2, d1, rdZ, Mm.V, memV, Rd.V, Sk.V, skZ, fA (show k < 4611686018427387904 by omega), decide_false, aA, aA, gq, reduceEq, reduceLT, reduceLE, implies_true, reduceCtorEq, if_true, if_false, go_sem, reduceEqDiff, Nat.reduceLT, reduceAdd, reduceSub, reduceLeDiff, reduceReplicate, reduceToNat] at hb ⊢
    exact ⟨⟨hsm, aGL, by rw [h3]; decide⟩, hb⟩
  · obtain rfl : k = 6 := by omega
    clear back
    simp only [R16, M16, rdZ, Mm.V, memV, Rd.V, Sk.V, skZ, aA, aA, gq, reduceEq, reduceLT, reduceLE, implies_true, reduceCtorEq, if_true, if_false, go_sem, reduceEqDiff, Nat.reduceLT, reduceAdd, reduceSub, reduceLeDiff, reduceReplicate, reduceToNat]
    exact aH rfl rfl
end Lam
namespace Lam
open Go
def seeR (refs : List Int) (W : Int) : List Int := if 0 < W ∧ refs.getLast? ≠ some W then refs ++ [W] else refs
theorem aLd (l : List Int) (W : Int) : (decide (l.length = 0) || !decide (l.getD (l.length - 1) 0 = W)) = decide (l.getLast? ≠ some W) := by
  cases l with
  | nil => simp
  | cons a r =>
    rw [List.getLast?_eq_getElem?, List.getD_eq_getElem?_getD]
    have h : (a :: r).length - 1 < (a :: r).length := by simp
    rw [List.getElem?_eq_getElem h]
    simp
theorem aEQ (W : Int) (s : Sk) : (goOn W s).refs = seeR s.refs W := by
  unfold goOn seeR
  simp only [aLd]
  by_cases h : 0 < W ∧ s.refs.getLast? ≠ some W
  · rw [if_pos h, if_pos (by simp only [Bool.and_eq_true, decide_eq_true_eq]; exact h)]
  · rw [if_neg h, if_neg (by simp only [Bool.and_eq_true, decide_eq_true_eq]; exact h)]
def InW (w : List Int) (b : Int) : Prop := 0 ≤ b ∧ b < 256 ∧ b < ((w.length / 16 : Nat) : Int)
def mS (w : List Int) (b : Int) (k : Nat) : Int := w.getD ((16 * b).toNat + 3 + k) 0
theorem aGM {w : List Int} {b t : Int} {k : Nat} {refs : List Int} (h : InW w b) (hk : k < 13) : kX w ⟨b, t, k, refs, false⟩ = goOn (mS w b k) ⟨b, t, k, refs, false⟩ := by
  obtain ⟨h0, h1, h2⟩ := h
  have hs : mP w ⟨b, t, k, refs, false⟩ = 16 * b + 3 + k := by
    unfold mP
    rw [if_pos (by simp only [Bool.and_eq_true, decide_eq_true_eq]; exact ⟨⟨h0, h1⟩, h2⟩)]
    show oP (16 * b) k = _
    exact aGs ((yW (by omega)).2 ⟨by omega, by omega, by omega⟩) (by omega) (by show (0 : Int) ≤ k; omega) (by show (k : Int) < 13; omega)
  unfold kX mS
  rw [hs, decide_eq_false (by omega), if_neg (show ¬ (false || false) = true by decide)]
  rw [show (16 * b + 3 + (k : Int)).toNat = (16 * b).toNat + 3 + k by omega]
theorem aDx {w : List Int} {s : Sk} (h : s.over = true) : kX w s = s := by unfold kX; rw [h]; rfl
theorem aMm {w : List Int} {b t : Int} {k : Nat} {refs : List Int} (h : InW w b) (hk : k < 13) (hd : mB t = false) :
    kX w ⟨b, t, k, refs, false⟩ = if mS w b k < 1 ∨ k = 12 then ⟨b, t, k, seeR refs (mS w b k), true⟩ else ⟨b, t, (k + 1 : Nat), seeR refs (mS w b k), false⟩ := by
  rw [aGM h hk]
  have hr := aEQ (mS w b k) ⟨b, t, k, refs, false⟩
  have ho : kH (mS w b k) ⟨b, t, k, refs, false⟩ = decide (mS w b k < 1 ∨ k = 12) := by
    unfold kH
    simp only [hd]
    rw [if_neg (by decide)]
    rw [show decide ((k : Int) = 12) = decide (k = 12) from decide_eq_decide.2 (by omega)]
    by_cases h1 : mS w b k < 1 <;> by_cases h2 : k = 12 <;> simp [h1, h2]
  unfold goOn at hr ⊢
  simp only at hr
  rw [ho]
  simp only [hr]
  by_cases hc : mS w b k < 1 ∨ k = 12
  · rw [if_pos hc, decide_eq_true hc]; simp
  · rw [if_neg hc, decide_eq_false hc]
    simp only [hd]
    rw [if_neg (by decide), if_neg (by decide), fA (by omega)]
theorem aJC {w : List Int} {b t : Int} {k : Nat} {refs : List Int} (h : InW w b) (hk : k < 13) (hd : mB t = true) :
    kX w ⟨b, t, k, refs, false⟩ = if k = 0 then ⟨b, t, k, seeR refs (mS w b k), true⟩ else ⟨b, t, (k - 1 : Nat), seeR refs (mS w b k), false⟩ := by
  rw [aGM h hk]
  have hr := aEQ (mS w b k) ⟨b, t, k, refs, false⟩
  have ho : kH (mS w b k) ⟨b, t, k, refs, false⟩ = decide (k = 0) := by
    unfold kH
    simp only [hd, if_true]
    exact decide_eq_decide.2 (by omega)
  unfold goOn at hr ⊢
  simp only at hr
  rw [ho]
  simp only [hr]
  by_cases hc : k = 0
  · rw [if_pos hc, decide_eq_true hc]; simp
  · rw [if_neg hc, decide_eq_false hc]
    simp only [hd, if_true]
    rw [if_neg (by decide)]
    rw [show IntKind.i64.wrap ((k : Int) - 1) = ((k - 1 : Nat) : Int) by rw [w64 (by omega) (by omega)]; omega]
theorem zT : ∀ l : List Int, (plain l).getLast? = l.getLast?
  | [] => rfl
  | [a] => rfl
  | a :: b :: r => by
    have ih := zT (b :: r)
    simp only [plain]
    split
    · rw [ih]; simp
    · rw [List.getLast?_cons, ih, List.getLast?_cons (a := a), List.getLast?_cons (a := b)]
theorem aDy {l : List Int} {W : Int} (h : 0 < W) : seeR (plain l) W = plain (l ++ [W]) := by
  unfold seeR
  rw [uM, zT]
  by_cases e : l.getLast? = some W
  · rw [if_pos e, if_neg (fun h => h.2 e)]
  · rw [if_neg e, if_pos ⟨h, e⟩]
theorem aER {l : List Int} {W : Int} (h : ¬ 0 < W) : seeR l W = l := by unfold seeR; rw [if_neg (fun h' => h h'.1)]
theorem aJD (a : Int) (l : List Int) : plain (a :: l) = if l.head? = some a then plain l else a :: plain l := by
  cases l with
  | nil => rfl
  | cons b r =>
    have h : ((b :: r).head? = some a) ↔ a = b := by rw [List.head?_cons]; exact ⟨fun h => by cases h; rfl, fun h => by rw [h]⟩
    by_cases e : a = b
    · rw [if_pos (h.2 e)]; simp only [plain, if_pos e]
    · rw [if_neg (fun h' => e (h.1 h'))]; simp only [plain, if_neg e]
theorem aES : ∀ l : List Int, plain l.reverse = (plain l).reverse
  | [] => rfl
  | a :: l => by
    rw [List.reverse_cons, uM, aJD, aES l, List.getLast?_reverse]
    split
    · rfl
    · rw [List.reverse_cons]
def aDX (w : List Int) (b : Int) (l : List Int) : Prop := InW w b ∧ l.length ≤ 13 ∧ (∀ x ∈ l, 0 < x) ∧ ∀ k, k < 13 → mS w b k = l.getD k 0
def upAt (b t : Int) (l : List Int) (k : Nat) : Sk := if k ≤ min l.length 12 then ⟨b, t, k, plain (l.take k), false⟩ else ⟨b, t, (min l.length 12 : Nat), plain l, true⟩
theorem aNr {w : List Int} {b t : Int} {l : List Int} (h : aDX w b l) (hd : mB t = false) (k : Nat) : kX w (upAt b t l k) = upAt b t l (k + 1) := by
  obtain ⟨hin, hl, hpos, hs⟩ := h
  unfold upAt
  by_cases hk : k ≤ min l.length 12
  · have hk13 : k < 13 := by omega
    rw [if_pos hk, aMm hin hk13 hd, hs k hk13]
    by_cases hkl : k < l.length
    · have hp := hpos _ (kB l k 0 hkl)
      rw [aDy hp, ← iG l k 0 hkl]
      by_cases h12 : k = 12
      · rw [if_pos (.inr h12), if_neg (by omega)]
        rw [show min l.length 12 = k by omega, List.take_of_length_le (by omega)]
      · rw [if_neg (by omega), if_pos (by omega)]
    · obtain rfl : k = l.length := by omega
      have h0 : l.getD l.length 0 = 0 := by rw [List.getD_eq_getElem?_getD, List.getElem?_eq_none (Nat.le_refl _)]; rfl
      rw [h0, aER (by decide), if_pos (.inl (by decide)), if_neg (by omega), List.take_length]
      rw [show min l.length 12 = l.length by omega]
  · rw [if_neg hk, if_neg (by omega), aDx rfl]
def yD (b t : Int) (l : List Int) (k : Nat) : Sk := if k ≤ 12 then ⟨b, t, (12 - k : Nat), plain (l.drop (13 - k)).reverse, false⟩ else ⟨b, t, 0, plain l.reverse, true⟩
theorem aLe {w : List Int} {b t : Int} {l : List Int} (h : aDX w b l) (hd : mB t = true) (k : Nat) : kX w (yD b t l k) = yD b t l (k + 1) := by
  obtain ⟨hin, hl, hpos, hs⟩ := h
  unfold yD
  by_cases hk : k ≤ 12
  · have hk13 : 12 - k < 13 := by omega
    have hsee : seeR (plain (l.drop (13 - k)).reverse) (l.getD (12 - k) 0) = plain (l.drop (12 - k)).reverse := by
      by_cases hkl : 12 - k < l.length
      · rw [aDy (hpos _ (kB l _ 0 hkl)), wK l (12 - k) 0 hkl, List.reverse_cons, show 13 - k = 12 - k + 1 by omega]
      · rw [List.getD_eq_getElem?_getD, List.getElem?_eq_none (by omega), aER (by decide), List.drop_of_length_le (by omega), List.drop_of_length_le (by omega)]
    rw [if_pos hk, aJC hin hk13 hd, hs _ hk13, hsee]
    by_cases h12 : k = 12
    · subst h12
      rw [if_pos (by decide), if_neg (by decide)]
      rfl
    · rw [if_neg (by omega), if_pos (by omega)]
      rw [show 12 - k - 1 = 12 - (k + 1) by omega, show 12 - k = 13 - (k + 1) by omega]
  · rw [if_neg hk, if_neg (by omega), aDx rfl]
end Lam
