/- What functions of the program come to, each proved from its code. -/
import Derived.Test.YtmbmfnmjjelmkabGreatLm6
namespace Lam
open Go Go.Proofs
set_option linter.unusedVariables false
def dE.loops : Nat → LInfo
  | 2 => ⟨[], [], [], [(4, none), (3, some [12, 15])], [], []⟩
  | _ => ⟨[], [], [], [], [], []⟩
def dE.H (c : Ctx) (t0 : AV) (t1 : AV) (h : List AObj) (K : AOut → List AObj → Prop) : Prop :=
  boxW T_api_Mem t0 h fun t2 h =>
  boxW T_api_Reader t1 h fun t3 h =>
  allocW T_api_Mem h fun t4 h =>
  allocW T_api_Reader h fun t5 h =>
  callW false c (.fn (.func 36) [] []) [] h (fun t8 h =>
  allocW fN h fun t6 h =>
  runH (storeH fN h t6 t8) h fun _ h =>
  runD (aB T_api_Reader t3 1) h fun t9 h =>
  runD (fitD T_int (loadD h t9)) h fun t10 h =>
  runD (binD T_int .lss t10 (.int .i64 1)) h fun t11 h =>
  joinW (fun (J1 : AV → AV → List AObj → Prop) =>
  guardW t11 false
  (runD (aB T_api_Reader t3 1) h fun t13 h =>
    runD (fitD T_int (loadD h t13)) h fun t14 h =>
    runD (binD T_int .geq t14 (.int .i64 8)) h fun t15 h =>
    J1 (.bool false) t15 h)
  (J1 (.bool true) .und h))
  (fun t12 t15 h => runD (pickD t12 (.bool true) t15) h fun t16 h =>
  condW t16
  (runD (fitD T_api_Mem (loadD h t2)) h fun t17 h =>
    runD (fitD T_api_Reader (loadD h t3)) h fun t18 h =>
    runH (storeH T_api_Mem h t4 t17) h fun _ h =>
    runH (storeH T_api_Reader h t5 t18) h fun _ h =>
    sepB t4 [t3] = true ∧ loadRes (fitD T_api_Mem (loadD h t4)) fun r0 => loadRes (fitD T_api_Reader (loadD h t5)) fun r1 => K (.ret (.tup [r0, r1])) h)
  (runD (fitD T_api_Mem (loadD h t2)) h fun t19 h =>
  runD (fitD T_api_Reader (loadD h t3)) h fun t20 h =>
  runD (buildD bL [(0, t19), (1, t20)]) h fun t21 h =>
  boxW bL t21 h fun t22 h =>
  runD (aB T_api_Reader t3 1) h fun t23 h =>
  runD (fitD T_int (loadD h t23)) h fun t24 h =>
  runD (aF fN h t6 t24) h fun t25 h =>
  runD (fitD jT (loadD h t25)) h fun t26 h =>
  callW false c t26 [t22] h (fun t28 h =>
  runD (aY t22) h fun t30 h =>
  runD (aB bL t30 0) h fun t31 h =>
  runD (fitD T_api_Mem (loadD h t31)) h fun t32 h =>
  runD (aY t22) h fun t34 h =>
  runD (aB bL t34 1) h fun t35 h =>
  runD (fitD T_api_Reader (loadD h t35)) h fun t36 h =>
  runH (storeH T_api_Mem h t4 t32) h fun _ h =>
  runH (storeH T_api_Reader h t5 t36) h fun _ h =>
  sepB t4 [t35] = true ∧ loadRes (fitD T_api_Mem (loadD h t4)) fun r0 => loadRes (fitD T_api_Reader (loadD h t5)) fun r1 => K (.ret (.tup [r0, r1])) h)
  (fun v h => K (.pan v) h))))
  (fun v h => K (.pan v) h)
def eR.loops : Nat → LInfo
  | _ => ⟨[], [], [], [], [], []⟩
def eR.H (c : Ctx) (t0 : AV) (t1 : AV) (h : List AObj) (K : AOut → List AObj → Prop) : Prop :=
  allocW T_api_Reader h fun t4 h =>
  callW false c (.fn (.func 53) [] []) [t1] h (fun t10 h =>
  runD (unD .not t10) h fun t11 h =>
  condW t11
  (runD (buildD T_api_Reader []) h fun t12 h =>
    runH (storeH T_api_Reader h t4 t12) h fun _ h =>
    loadRes (fitD T_api_Reader (loadD h t4)) fun r0 => K (.ret (.tup [r0, (.int .i64 20)])) h)
  (callW false c (.fn (.func 38) [] []) [t0] h (fun t15 h =>
  runD (bH t15 0) h fun t16 h =>
  runD (bH t15 1) h fun t17 h =>
  runD (bH t15 2) h fun t18 h =>
  runD (binD dA .neq t18 (.int .i64 0)) h fun t20 h =>
  joinW (fun (J1 : AV → List AObj → Prop) =>
  condW t20
  (J1 (.int .i64 1) h)
  (J1 t17 h))
  (fun t7 h => runD (buildD T_api_Reader [(0, t1), (1, (.int .i64 1)), (2, t7)]) h fun t23 h =>
  runH (storeH T_api_Reader h t4 t23) h fun _ h =>
  loadRes (fitD T_api_Reader (loadD h t4)) fun r0 => K (.ret (.tup [r0, (.int .i64 0)])) h))
  (fun v h => K (.pan v) h)))
  (fun v h => K (.pan v) h)
def dN.loops : Nat → LInfo
  | _ => ⟨[], [], [], [], [], []⟩
def dN.H (c : Ctx) (h : List AObj) (K : AOut → List AObj → Prop) : Prop :=
  allocW fN h fun t0 h =>
  runD (buildD fN [(1, (.fn (.func 58) [] [])), (2, (.fn (.func 59) [] [])), (3, (.fn (.func 60) [] [])), (4, (.fn (.func 61) [] [])), (5, (.fn (.func 62) [] [])), (6, (.fn (.func 63) [] [])), (7, (.fn (.func 64) [] []))]) h fun t1 h =>
  runH (storeH fN h t0 t1) h fun _ h =>
  loadRes (fitD fN (loadD h t0)) fun r0 => K (.ret r0) h
def cP.loops : Nat → LInfo
  | 1 => ⟨[], [], [], [(3, none), (3, some [22, 25])], [], []⟩
  | 4 => ⟨[], [], [], [(3, none), (2, some [55, 57])], [], []⟩
  | _ => ⟨[], [], [], [], [], []⟩
def cP.H (c : Ctx) (t0 : AV) (h : List AObj) (K : AOut → List AObj → Prop) : Prop :=
  runD (aY t0) h fun t8 h =>
  runD (aB bL t8 0) h fun t9 h =>
  runD (aB T_api_Mem t9 0) h fun t10 h =>
  runD (fitD aI (loadD h t10)) h fun t11 h =>
  runD (aY t0) h fun t13 h =>
  runD (aB bL t13 1) h fun t14 h =>
  runD (aB T_api_Reader t14 2) h fun t15 h =>
  runD (fitD T_int (loadD h t15)) h fun t16 h =>
  callW false c.noS (.fn (.func 46) [] []) [t11, t16] h (fun t17 h =>
  runD (bH t17 0) h fun t18 h =>
  runD (bH t17 1) h fun t19 h =>
  allocW bD h fun t2 h =>
  runH (storeH bD h t2 t18) h fun _ h =>
  runD (binD dA .eql t19 (.int .i64 0)) h fun t21 h =>
  joinW (fun (J1 : AV → AV → List AObj → Prop) =>
  guardW t21 true
  (runD (aB bD t2 0) h fun t23 h =>
    runD (fitD T_int (loadD h t23)) h fun t24 h =>
    runD (binD T_int .eql t24 (.int .i64 0)) h fun t25 h =>
    J1 (.bool true) t25 h)
  (J1 (.bool false) .und h))
  (fun t22 t25 h => runD (pickD t22 t25 (.bool false)) h fun t26 h =>
  condW t26
  (runD (aY t0) h fun t29 h =>
    runD (aB bL t29 1) h fun t30 h =>
    runD (aB T_api_Reader t30 2) h fun t31 h =>
    runD (fitD T_int (loadD h t31)) h fun t32 h =>
    callW false c (.fn (.func 88) [] []) [t0, t32] h (fun t33 h =>
    K (.ret (.tup [])) h)
    (fun v h => K (.pan v) h))
  (runD (aY t0) h fun t36 h =>
  runD (aB bL t36 0) h fun t37 h =>
  runD (aB T_api_Mem t37 0) h fun t38 h =>
  runD (fitD aI (loadD h t38)) h fun t39 h =>
  runD (aY t0) h fun t41 h =>
  runD (aB bL t41 1) h fun t42 h =>
  runD (aB T_api_Reader t42 2) h fun t43 h =>
  runD (fitD T_int (loadD h t43)) h fun t44 h =>
  runD (aY t0) h fun t46 h =>
  runD (aB bL t46 1) h fun t47 h =>
  runD (aB T_api_Reader t47 0) h fun t48 h =>
  runD (fitD bN (loadD h t48)) h fun t49 h =>
  callW false c.noS (.fn (.func 49) [] []) [t39, t44, t49, (.int .i64 0)] h (fun t50 h =>
  runD (bH t50 0) h fun t51 h =>
  runD (bH t50 1) h fun t52 h =>
  runD (binD dA .neq t19 (.int .i64 0)) h fun t54 h =>
  joinW (fun (J2 : AV → AV → List AObj → Prop) =>
  guardW t54 false
  (runD (binD dA .neq t52 (.int .i64 0)) h fun t57 h =>
    J2 (.bool false) t57 h)
  (J2 (.bool true) .und h))
  (fun t55 t57 h => runD (pickD t55 (.bool true) t57) h fun t58 h =>
  condW t58
  (callW false c (.fn (.func 88) [] []) [t0, (.int .i64 1)] h (fun t60 h =>
    K (.ret (.tup [])) h)
    (fun v h => K (.pan v) h))
  (runD (aY t0) h fun t63 h =>
  runD (aB bL t63 1) h fun t64 h =>
  runD (aB T_api_Reader t64 2) h fun t65 h =>
  runH (storeH T_int h t65 t51) h fun _ h =>
  K (.ret (.tup [])) h)))
  (fun _ _ => False))))
  (fun _ _ => False)
def cQ.loops : Nat → LInfo
  | _ => ⟨[], [], [], [], [], []⟩
def cQ.H (c : Ctx) (t0 : AV) (h : List AObj) (K : AOut → List AObj → Prop) : Prop :=
  runD (aY t0) h fun t6 h =>
  runD (aB bL t6 0) h fun t7 h =>
  runD (aB T_api_Mem t7 0) h fun t8 h =>
  runD (fitD aI (loadD h t8)) h fun t9 h =>
  runD (aY t0) h fun t11 h =>
  runD (aB bL t11 1) h fun t12 h =>
  runD (aB T_api_Reader t12 2) h fun t13 h =>
  runD (fitD T_int (loadD h t13)) h fun t14 h =>
  callW false c.noS (.fn (.func 40) [] []) [t9, t14] h (fun t15 h =>
  runD (bH t15 0) h fun t16 h =>
  runD (bH t15 1) h fun t17 h =>
  allocW bC h fun t2 h =>
  runH (storeH bC h t2 t16) h fun _ h =>
  runD (binD dA .neq t17 (.int .i64 0)) h fun t19 h =>
  condW t19
  (runD (aY t0) h fun t21 h =>
    runD (aB bL t21 1) h fun t22 h =>
    runD (aB T_api_Reader t22 1) h fun t23 h =>
    runH (storeH T_int h t23 (.int .i64 8)) h fun _ h =>
    K (.ret (.tup [])) h)
  (runD (fitD bC (loadD h t2)) h fun t26 h =>
  runD (aY t0) h fun t27 h =>
  runD (aB bL t27 1) h fun t28 h =>
  runD (aB T_api_Reader t28 4) h fun t29 h =>
  runH (storeH bC h t29 t26) h fun _ h =>
  runD (aY t0) h fun t30 h =>
  runD (aB bL t30 1) h fun t31 h =>
  runD (aB T_api_Reader t31 1) h fun t32 h =>
  runH (storeH T_int h t32 (.int .i64 3)) h fun _ h =>
  K (.ret (.tup [])) h))
  (fun _ _ => False)
def cE.loops : Nat → LInfo
  | _ => ⟨[], [], [], [], [], []⟩
def cE.H (c : Ctx) (t0 : AV) (h : List AObj) (K : AOut → List AObj → Prop) : Prop :=
  runD (aY t0) h fun t4 h =>
  runD (aB bL t4 0) h fun t5 h =>
  runD (aB T_api_Mem t5 0) h fun t6 h =>
  runD (fitD aI (loadD h t6)) h fun t7 h =>
  runD (aY t0) h fun t9 h =>
  runD (aB bL t9 1) h fun t10 h =>
  runD (aB T_api_Reader t10 4) h fun t11 h =>
  runD (fitD bC (loadD h t11)) h fun t12 h =>
  callW false c.noS (.fn (.func 41) [] []) [t7, t12] h (fun t13 h =>
  runD (aY t0) h fun t14 h =>
  runD (aB bL t14 1) h fun t15 h =>
  runD (aB T_api_Reader t15 4) h fun t16 h =>
  runH (storeH bC h t16 t13) h fun _ h =>
  runD (aY t0) h fun t18 h =>
  runD (aB bL t18 1) h fun t19 h =>
  runD (aB T_api_Reader t19 4) h fun t20 h =>
  runD (aB bC t20 4) h fun t21 h =>
  runD (fitD T_bool (loadD h t21)) h fun t22 h =>
  joinW (fun (J1 : List AObj → Prop) =>
  condW t22
  (runD (aY t0) h fun t24 h =>
    runD (aB bL t24 1) h fun t25 h =>
    runD (aB T_api_Reader t25 1) h fun t26 h =>
    runH (storeH T_int h t26 (.int .i64 4)) h fun _ h =>
    J1 h)
  (J1 h))
  (fun h => K (.ret (.tup [])) h))
  (fun _ _ => False)
def cF.loops : Nat → LInfo
  | 5 => ⟨[], [], [], [(4, none), (2, some [52, 54]), (2, none), (7, some [56, 63])], [], []⟩
  | _ => ⟨[], [], [], [], [], []⟩
def cF.H (c : Ctx) (t0 : AV) (h : List AObj) (K : AOut → List AObj → Prop) : Prop :=
  boxW dP t0 h fun t1 h =>
  runD (fitD dP (loadD h t1)) h fun t8 h =>
  runD (aY t8) h fun t9 h =>
  runD (aB bL t9 0) h fun t10 h =>
  runD (aB T_api_Mem t10 0) h fun t11 h =>
  runD (fitD aI (loadD h t11)) h fun t12 h =>
  runD (fitD dP (loadD h t1)) h fun t13 h =>
  runD (aY t13) h fun t14 h =>
  runD (aB bL t14 1) h fun t15 h =>
  runD (aB T_api_Reader t15 4) h fun t16 h =>
  runD (fitD bC (loadD h t16)) h fun t17 h =>
  callW false c.noS (.fn (.func 71) [] []) [t12, t17] h (fun t18 h =>
  runD (unD .not t18) h fun t19 h =>
  condW t19
  (runD (fitD dP (loadD h t1)) h fun t20 h =>
    runD (aY t20) h fun t21 h =>
    runD (aB bL t21 1) h fun t22 h =>
    runD (aB T_api_Reader t22 1) h fun t23 h =>
    runH (storeH T_int h t23 (.int .i64 2)) h fun _ h =>
    K (.ret (.tup [])) h)
  (runD (fitD dP (loadD h t1)) h fun t25 h =>
  runD (aY t25) h fun t26 h =>
  runD (aB bL t26 0) h fun t27 h =>
  runD (aB T_api_Mem t27 0) h fun t28 h =>
  runD (fitD aI (loadD h t28)) h fun t29 h =>
  runD (fitD dP (loadD h t1)) h fun t30 h =>
  runD (aY t30) h fun t31 h =>
  runD (aB bL t31 1) h fun t32 h =>
  runD (aB T_api_Reader t32 2) h fun t33 h =>
  runD (fitD T_int (loadD h t33)) h fun t34 h =>
  callW false c.noS (.fn (.func 46) [] []) [t29, t34] h (fun t35 h =>
  runD (bH t35 0) h fun t36 h =>
  runD (bH t35 1) h fun t37 h =>
  allocW bD h fun t2 h =>
  runH (storeH bD h t2 t36) h fun _ h =>
  runD (fitD dP (loadD h t1)) h fun t39 h =>
  runD (aY t39) h fun t40 h =>
  runD (aB bL t40 0) h fun t41 h =>
  runD (aB T_api_Mem t41 0) h fun t42 h =>
  runD (fitD aI (loadD h t42)) h fun t43 h =>
  runD (aB bD t2 2) h fun t44 h =>
  runD (fitD T_int (loadD h t44)) h fun t45 h =>
  callW false c.noS (.fn (.func 47) [] []) [t43, t45] h (fun t46 h =>
  runD (bH t46 0) h fun t47 h =>
  runD (bH t46 1) h fun t48 h =>
  runD (aB bD t2 2) h fun t49 h =>
  runD (fitD T_int (loadD h t49)) h fun t50 h =>
  runD (binD T_int .neq t50 (.int .i64 0)) h fun t51 h =>
  joinW (fun (J1 : AV → AV → List AObj → Prop) =>
  guardW t51 true
  (runD (binD dA .eql t48 (.int .i64 0)) h fun t54 h =>
    J1 (.bool true) t54 h)
  (J1 (.bool false) .und h))
  (fun t52 t54 h => runD (pickD t52 t54 (.bool false)) h fun t55 h =>
  joinW (fun (J2 : AV → AV → List AObj → Prop) =>
  guardW t55 true
  (runD (fitD dP (loadD h t1)) h fun t58 h =>
    runD (aY t58) h fun t59 h =>
    runD (aB bL t59 1) h fun t60 h =>
    runD (aB T_api_Reader t60 0) h fun t61 h =>
    runD (fitD bN (loadD h t61)) h fun t62 h =>
    runD (binD bN .leq t47 t62) h fun t63 h =>
    J2 (.bool true) t63 h)
  (J2 (.bool false) .und h))
  (fun t56 t63 h => runD (pickD t56 t63 (.bool false)) h fun t64 h =>
  condW t64
  (runD (fitD dP (loadD h t1)) h fun t65 h =>
    runD (fitD dP (loadD h t1)) h fun t66 h =>
    runD (aB bD t2 2) h fun t67 h =>
    runD (fitD T_int (loadD h t67)) h fun t68 h =>
    runD (aY t65) h fun t69 h =>
    runD (aB bL t69 1) h fun t70 h =>
    runD (aB T_api_Reader t70 3) h fun t71 h =>
    runH (storeH T_int h t71 t68) h fun _ h =>
    runD (aY t66) h fun t72 h =>
    runD (aB bL t72 1) h fun t73 h =>
    runD (aB T_api_Reader t73 1) h fun t74 h =>
    runH (storeH T_int h t74 (.int .i64 5)) h fun _ h =>
    sepB t71 [t1] = true ∧ K (.ret (.tup [])) h)
  (runD (fitD dP (loadD h t1)) h fun t75 h =>
  runD (aY t75) h fun t76 h =>
  runD (aB bL t76 0) h fun t77 h =>
  runD (aB T_api_Mem t77 0) h fun t78 h =>
  runD (fitD aI (loadD h t78)) h fun t79 h =>
  runD (fitD dP (loadD h t1)) h fun t80 h =>
  runD (aY t80) h fun t81 h =>
  runD (aB bL t81 1) h fun t82 h =>
  runD (aB T_api_Reader t82 4) h fun t83 h =>
  runD (fitD bC (loadD h t83)) h fun t84 h =>
  callW false c.noS (.fn (.func 89) [] []) [t79, t84] h (fun t85 h =>
  callW false c (.fn (.func 90) [] []) [t85, (.fn (.func 91) [] [t1])] h (fun t88 h =>
  runD (fitD dP (loadD h t1)) h fun t89 h =>
  runD (fitD dP (loadD h t1)) h fun t90 h =>
  runD (fitD dP (loadD h t1)) h fun t91 h =>
  runD (binD T_int .geq t88 (.int .i64 0)) h fun t93 h =>
  runD (aY t89) h fun t94 h =>
  runD (aB bL t94 1) h fun t95 h =>
  runD (aB T_api_Reader t95 6) h fun t96 h =>
  runH (storeH T_bool h t96 t93) h fun _ h =>
  runD (aY t90) h fun t97 h =>
  runD (aB bL t97 1) h fun t98 h =>
  runD (aB T_api_Reader t98 5) h fun t99 h =>
  runH (storeH bN h t99 (.str [])) h fun _ h =>
  runD (aY t91) h fun t100 h =>
  runD (aB bL t100 1) h fun t101 h =>
  runD (aB T_api_Reader t101 1) h fun t102 h =>
  runH (storeH T_int h t102 (.int .i64 6)) h fun _ h =>
  sepB t96 [t1] = true ∧ sepB t96 [t1] = true ∧ sepB t99 [t1] = true ∧ runD (binD T_int .geq t88 (.int .i64 0)) h fun t104 h =>
  joinW (fun (J3 : List AObj → Prop) =>
  condW t104
  (runD (fitD dP (loadD h t1)) h fun t105 h =>
    runD (aF aM h t85 t88) h fun t108 h =>
    runD (aB aG t108 2) h fun t109 h =>
    runD (fitD bN (loadD h t109)) h fun t110 h =>
    runD (aY t105) h fun t111 h =>
    runD (aB bL t111 1) h fun t112 h =>
    runD (aB T_api_Reader t112 5) h fun t113 h =>
    runH (storeH bN h t113 t110) h fun _ h =>
    J3 h)
  (J3 h))
  (fun h => K (.ret (.tup [])) h))
  (fun v h => K (.pan v) h))
  (fun _ _ => False)))))
  (fun _ _ => False))
  (fun _ _ => False)))
  (fun _ _ => False)
def cR.loops : Nat → LInfo
  | _ => ⟨[], [], [], [], [], []⟩
def cR.H (c : Ctx) (t0 : AV) (h : List AObj) (K : AOut → List AObj → Prop) : Prop :=
  callW false c (.fn (.func 92) [] []) [t0, (.int .i64 0)] h (fun t3 h =>
  runD (aY t0) h fun t6 h =>
  runD (aB bL t6 1) h fun t7 h =>
  runD (aB T_api_Reader t7 3) h fun t8 h =>
  runD (fitD T_int (loadD h t8)) h fun t9 h =>
  callW false c (.fn (.func 88) [] []) [t0, t9] h (fun t10 h =>
  K (.ret (.tup [])) h)
  (fun v h => K (.pan v) h))
  (fun v h => K (.pan v) h)
def cG.loops : Nat → LInfo
  | _ => ⟨[], [], [], [], [], []⟩
def cG.H (c : Ctx) (t0 : AV) (h : List AObj) (K : AOut → List AObj → Prop) : Prop :=
  callW false c (.fn (.func 92) [] []) [t0, (.int .i64 0)] h (fun t3 h =>
  runD (aY t0) h fun t5 h =>
  runD (aB bL t5 1) h fun t6 h =>
  runD (aB T_api_Reader t6 1) h fun t7 h =>
  runH (storeH T_int h t7 (.int .i64 7)) h fun _ h =>
  K (.ret (.tup [])) h)
  (fun v h => K (.pan v) h)
def cA.loops : Nat → LInfo
  | _ => ⟨[], [], [], [], [], []⟩
def cA.H (c : Ctx) (t0 : AV) (h : List AObj) (K : AOut → List AObj → Prop) : Prop :=
  callW false c (.fn (.func 92) [] []) [t0, (.int .i64 1)] h (fun t3 h =>
  runD (aY t0) h fun t5 h =>
  runD (aB bL t5 1) h fun t6 h =>
  runD (aB T_api_Reader t6 1) h fun t7 h =>
  runH (storeH T_int h t7 (.int .i64 8)) h fun _ h =>
  K (.ret (.tup [])) h)
  (fun v h => K (.pan v) h)
def cK.loops : Nat → LInfo
  | _ => ⟨[], [], [], [], [], []⟩
def cK.H (c : Ctx) (t0 : AV) (t1 : AV) (h : List AObj) (K : AOut → List AObj → Prop) : Prop :=
  runD (aY t0) h fun t7 h =>
  runD (aB bL t7 1) h fun t8 h =>
  runD (aB T_api_Reader t8 2) h fun t9 h =>
  runH (storeH T_int h t9 t1) h fun _ h =>
  runD (aY t0) h fun t10 h =>
  runD (aB bL t10 1) h fun t11 h =>
  runD (aB T_api_Reader t11 1) h fun t12 h =>
  runH (storeH T_int h t12 (.int .i64 2)) h fun _ h =>
  K (.ret (.tup [])) h
def bW.loops : Nat → LInfo
  | _ => ⟨[], [], [], [], [], []⟩
def bW.H (c : Ctx) (t0 : AV) (t1 : AV) (h : List AObj) (K : AOut → List AObj → Prop) : Prop :=
  boxW aG t0 h fun t2 h =>
  runD (aB aG t2 1) h fun t4 h =>
  runD (fitD bN (loadD h t4)) h fun t5 h =>
  runD (fitD dP (loadD h t1)) h fun t6 h =>
  runD (aY t6) h fun t7 h =>
  runD (aB bL t7 1) h fun t8 h =>
  runD (aB T_api_Reader t8 0) h fun t9 h =>
  runD (fitD bN (loadD h t9)) h fun t10 h =>
  runD (binD bN .eql t5 t10) h fun t11 h =>
  K (.ret t11) h
def bU.loops : Nat → LInfo
  | 0 => ⟨[], [], [], [(7, none), (6, some [10, 16])], [], []⟩
  | _ => ⟨[], [], [], [], [], []⟩
def bU.H (c : Ctx) (t0 : AV) (t1 : AV) (h : List AObj) (K : AOut → List AObj → Prop) : Prop :=
  runD (aY t0) h fun t5 h =>
  runD (aB bL t5 1) h fun t6 h =>
  runD (aB T_api_Reader t6 2) h fun t7 h =>
  runD (fitD T_int (loadD h t7)) h fun t8 h =>
  runD (binD T_int .geq t8 (.int .i64 0)) h fun t9 h =>
  joinW (fun (J1 : AV → AV → List AObj → Prop) =>
  guardW t9 true
  (runD (aY t0) h fun t12 h =>
    runD (aB bL t12 1) h fun t13 h =>
    runD (aB T_api_Reader t13 2) h fun t14 h =>
    runD (fitD T_int (loadD h t14)) h fun t15 h =>
    runD (binD T_int .lss t15 (.int .i64 256)) h fun t16 h =>
    J1 (.bool true) t16 h)
  (J1 (.bool false) .und h))
  (fun t10 t16 h => runD (pickD t10 t16 (.bool false)) h fun t17 h =>
  joinW (fun (J2 : List AObj → Prop) =>
  condW t17
  (runD (aY t0) h fun t21 h =>
    runD (aB bL t21 0) h fun t22 h =>
    runD (fitD T_api_Mem (loadD h t22)) h fun t23 h =>
    runD (aY t0) h fun t25 h =>
    runD (aB bL t25 1) h fun t26 h =>
    runD (aB T_api_Reader t26 2) h fun t27 h =>
    runD (fitD T_int (loadD h t27)) h fun t28 h =>
    runD (binD T_int .mul (.int .i64 2) t28) h fun t29 h =>
    runD (binD T_int .add t29 t1) h fun t31 h =>
    runD (buildD eF [(0, (.int .i64 2)), (1, t31)]) h fun t32 h =>
    callW false c.noS (.fn (.func 74) [] []) [t23, t32] h (fun t33 h =>
    runD (bH t33 0) h fun t34 h =>
    runD (bH t33 1) h fun t35 h =>
    runD (aY t0) h fun t36 h =>
    runD (aB bL t36 0) h fun t37 h =>
    runH (storeH T_api_Mem h t37 t34) h fun _ h =>
    J2 h)
    (fun _ _ => False))
  (J2 h))
  (fun h => K (.ret (.tup [])) h))
theorem dE.eq (F : List (FuncId × aD)) (S : List (FuncId × Con)) (t0 t1 : AV) (h : List AObj) (K : AOut → List AObj → Prop) : funW (ctx F S dE.loops) Tryz.f14 [t0, t1] h K = dE.H (ctx F S dE.loops) t0 t1 h K := by kernel_rfl
theorem eR.eq (F : List (FuncId × aD)) (S : List (FuncId × Con)) (t0 t1 : AV) (h : List AObj) (K : AOut → List AObj → Prop) : funW (ctx F S eR.loops) Tryz.f27 [t0, t1] h K = eR.H (ctx F S eR.loops) t0 t1 h K := by kernel_rfl
theorem dN.eq (F : List (FuncId × aD)) (S : List (FuncId × Con)) (h : List AObj) (K : AOut → List AObj → Prop) : funW (ctx F S dN.loops) Tryz.f36 [] h K = dN.H (ctx F S dN.loops)  h K := by kernel_rfl
theorem cP.eq (F : List (FuncId × aD)) (S : List (FuncId × Con)) (t0 : AV) (h : List AObj) (K : AOut → List AObj → Prop) : funW (ctx F S cP.loops) Tryz.f58 [t0] h K = cP.H (ctx F S cP.loops) t0 h K := by kernel_rfl
theorem cQ.eq (F : List (FuncId × aD)) (S : List (FuncId × Con)) (t0 : AV) (h : List AObj) (K : AOut → List AObj → Prop) : funW (ctx F S cQ.loops) Tryz.f59 [t0] h K = cQ.H (ctx F S cQ.loops) t0 h K := by kernel_rfl
theorem cE.eq (F : List (FuncId × aD)) (S : List (FuncId × Con)) (t0 : AV) (h : List AObj) (K : AOut → List AObj → Prop) : funW (ctx F S cE.loops) Tryz.f60 [t0] h K = cE.H (ctx F S cE.loops) t0 h K := by kernel_rfl
theorem cF.eq (F : List (FuncId × aD)) (S : List (FuncId × Con)) (t0 : AV) (h : List AObj) (K : AOut → List AObj → Prop) : funW (ctx F S cF.loops) Tryz.f61 [t0] h K = cF.H (ctx F S cF.loops) t0 h K := by kernel_rfl
theorem cR.eq (F : List (FuncId × aD)) (S : List (FuncId × Con)) (t0 : AV) (h : List AObj) (K : AOut → List AObj → Prop) : funW (ctx F S cR.loops) Tryz.f62 [t0] h K = cR.H (ctx F S cR.loops) t0 h K := by kernel_rfl
theorem cG.eq (F : List (FuncId × aD)) (S : List (FuncId × Con)) (t0 : AV) (h : List AObj) (K : AOut → List AObj → Prop) : funW (ctx F S cG.loops) Tryz.f63 [t0] h K = cG.H (ctx F S cG.loops) t0 h K := by kernel_rfl
theorem cA.eq (F : List (FuncId × aD)) (S : List (FuncId × Con)) (t0 : AV) (h : List AObj) (K : AOut → List AObj → Prop) : funW (ctx F S cA.loops) Tryz.f64 [t0] h K = cA.H (ctx F S cA.loops) t0 h K := by kernel_rfl
theorem cK.eq (F : List (FuncId × aD)) (S : List (FuncId × Con)) (t0 t1 : AV) (h : List AObj) (K : AOut → List AObj → Prop) : funW (ctx F S cK.loops) Tryz.f88 [t0, t1] h K = cK.H (ctx F S cK.loops) t0 t1 h K := by kernel_rfl
theorem bW.eq (F : List (FuncId × aD)) (S : List (FuncId × Con)) (t0 t1 : AV) (h : List AObj) (K : AOut → List AObj → Prop) : funW (ctx F S bW.loops) Tryz.f91 [t0, t1] h K = bW.H (ctx F S bW.loops) t0 t1 h K := by kernel_rfl
theorem bU.eq (F : List (FuncId × aD)) (S : List (FuncId × Con)) (t0 t1 : AV) (h : List AObj) (K : AOut → List AObj → Prop) : funW (ctx F S bU.loops) Tryz.f92 [t0, t1] h K = bU.H (ctx F S bU.loops) t0 t1 h K := by kernel_rfl
theorem dE.at : Tryz.prog.funcs[14]? = some Tryz.f14 := by kernel_rfl
theorem dE.nm : (Tryz.f14.name == "runtime.NumGoroutine") = false := by kernel_rfl
theorem dE.bd : Tryz.f14.body.isNone = false := by kernel_rfl
theorem eR.at : Tryz.prog.funcs[27]? = some Tryz.f27 := by kernel_rfl
theorem eR.nm : (Tryz.f27.name == "runtime.NumGoroutine") = false := by kernel_rfl
theorem eR.bd : Tryz.f27.body.isNone = false := by kernel_rfl
theorem dN.at : Tryz.prog.funcs[36]? = some Tryz.f36 := by kernel_rfl
theorem dN.nm : (Tryz.f36.name == "runtime.NumGoroutine") = false := by kernel_rfl
theorem dN.bd : Tryz.f36.body.isNone = false := by kernel_rfl
theorem cP.at : Tryz.prog.funcs[58]? = some Tryz.f58 := by kernel_rfl
theorem cP.nm : (Tryz.f58.name == "runtime.NumGoroutine") = false := by kernel_rfl
theorem cP.bd : Tryz.f58.body.isNone = false := by kernel_rfl
theorem cQ.at : Tryz.prog.funcs[59]? = some Tryz.f59 := by kernel_rfl
theorem cQ.nm : (Tryz.f59.name == "runtime.NumGoroutine") = false := by kernel_rfl
theorem cQ.bd : Tryz.f59.body.isNone = false := by kernel_rfl
theorem cE.at : Tryz.prog.funcs[60]? = some Tryz.f60 := by kernel_rfl
theorem cE.nm : (Tryz.f60.name == "runtime.NumGoroutine") = false := by kernel_rfl
theorem cE.bd : Tryz.f60.body.isNone = false := by kernel_rfl
theorem cF.at : Tryz.prog.funcs[61]? = some Tryz.f61 := by kernel_rfl
theorem cF.nm : (Tryz.f61.name == "runtime.NumGoroutine") = false := by kernel_rfl
theorem cF.bd : Tryz.f61.body.isNone = false := by kernel_rfl
theorem cR.at : Tryz.prog.funcs[62]? = some Tryz.f62 := by kernel_rfl
theorem cR.nm : (Tryz.f62.name == "runtime.NumGoroutine") = false := by kernel_rfl
theorem cR.bd : Tryz.f62.body.isNone = false := by kernel_rfl
theorem cG.at : Tryz.prog.funcs[63]? = some Tryz.f63 := by kernel_rfl
theorem cG.nm : (Tryz.f63.name == "runtime.NumGoroutine") = false := by kernel_rfl
theorem cG.bd : Tryz.f63.body.isNone = false := by kernel_rfl
theorem cA.at : Tryz.prog.funcs[64]? = some Tryz.f64 := by kernel_rfl
theorem cA.nm : (Tryz.f64.name == "runtime.NumGoroutine") = false := by kernel_rfl
theorem cA.bd : Tryz.f64.body.isNone = false := by kernel_rfl
theorem cK.at : Tryz.prog.funcs[88]? = some Tryz.f88 := by kernel_rfl
theorem cK.nm : (Tryz.f88.name == "runtime.NumGoroutine") = false := by kernel_rfl
theorem cK.bd : Tryz.f88.body.isNone = false := by kernel_rfl
theorem bW.at : Tryz.prog.funcs[91]? = some Tryz.f91 := by kernel_rfl
theorem bW.nm : (Tryz.f91.name == "runtime.NumGoroutine") = false := by kernel_rfl
theorem bW.bd : Tryz.f91.body.isNone = false := by kernel_rfl
theorem bU.at : Tryz.prog.funcs[92]? = some Tryz.f92 := by kernel_rfl
theorem bU.nm : (Tryz.f92.name == "runtime.NumGoroutine") = false := by kernel_rfl
theorem bU.bd : Tryz.f92.body.isNone = false := by kernel_rfl
end Lam
namespace Lam
set_option maxRecDepth 20000
open Go Go.Proofs
set_option linter.unusedVariables false
set_option linter.unnecessarySimpa false
set_option linter.unusedSimpArgs false
structure Rd where
  key : Bytes
  phase : Int
  block : Int
  to_ : Int
  seek : Sk
  val : Bytes
  found : Bool
def Rd.V (r : Rd) : AV := .agg [.str r.key, .int .i64 r.phase, .int .i64 r.block, .int .i64 r.to_, r.seek.V, .str r.val, .bool r.found]
def rdZ : Rd := ⟨[], 0, 0, 0, skZ, [], false⟩
/-- a step on a memory, if it may be -/
def doM (m : Mm) (x : Mic) : Mm := if soundB m [x] = true then runS m [x] else m
theorem runV_is (m : Mm) (x : Mic) : ∃ e, runV m [x] = .tup [(doM m x).V, .int .i64 e] := by
  unfold runV doM
  split
  · exact ⟨_, rfl⟩
  · exact ⟨_, rfl⟩
def keepM (m : Mm) (block line : Int) : Mm := if 0 ≤ block ∧ block < 256 then doM m ⟨2, 2 * block + line, 0⟩ else m
/-- the phases -/
def rDown (w : List Int) (r : Rd) : Rd := match nodeO w r.block with
  | none => { r with block := 1, phase := 2 }
  | some n => if n.level = 0 then { r with phase := 2 } else match downO w r.block r.key 0 with
    | none => { r with block := 1, phase := 2 }
    | some t => { r with block := t }
def rLook (w : List Int) (r : Rd) : Rd := match beginO w r.block with
  | none => { r with phase := 8 }
  | some x => { r with seek := x, phase := 3 }
def rSlots (w : List Int) (r : Rd) : Rd := { r with seek := stepS w r.seek, phase := if (stepS w r.seek).over = true then 4 else r.phase }
/-- the next node, and from which key on it is -/
def rightO (w : List Int) (b : Int) : Option (Int × Bytes) := match nodeO w b with
  | none => none
  | some n => if n.next = 0 then none else match (nodeO w n.next).bind (lowO w) with
    | none => none
    | some l => some (n.next, l)
def idxR (key : Bytes) (l : List RecT) : Option RecT := l.find? fun x => decide (x.key = key)
def rFound (w : List Int) (r : Rd) : Rd := match idxR r.key (sortR (hitsOf w r.seek.refs)) with
  | none => { r with found := false, val := [], phase := 6 }
  | some x => { r with found := true, val := x.val, phase := 6 }
def rFence (w : List Int) (r : Rd) : Rd := if holdsB w r.seek.block r.seek.turn = false then { r with phase := 2 } else match rightO w r.block with
  | none => rFound w r
  | some (to, low) => if ltB r.key low = false then { r with to_ := to, phase := 5 } else rFound w r
def stepR (m : Mm) (r : Rd) : Mm × Rd :=
  if r.phase = 1 then (m, rDown m.vol r)
  else if r.phase = 2 then (m, rLook m.vol r)
  else if r.phase = 3 then (m, rSlots m.vol r)
  else if r.phase = 4 then (m, rFence m.vol r)
  else if r.phase = 5 then (keepM m r.block 0, { r with block := r.to_, phase := 2 })
  else if r.phase = 6 then (keepM m r.block 0, { r with phase := 7 })
  else if r.phase = 7 then (keepM m r.block 1, { r with phase := 8 })
  else (m, r)
def rootI (w : List Int) : Int := if readB w = true then w.getD 3 0 else 1
def iW (w : List Int) (k : Bytes) : AV := if k ≠ [] ∧ k.length ≤ 21 then .tup [Rd.V ⟨k, 1, rootI w, 0, skZ, [], false⟩, .int .i64 0] else .tup [rdZ.V, .int .i64 20]
def dN.K : Con := fun args h K => match args with
  | [] => dN.H (ctx [] [] dN.loops)  h K
  | _ => False
theorem dN.spec : SSpec Tryz.prog 36 dN.K := by
  refine SSpec.of (ctx_ok (F := []) (S := []) (by simp) (by simp) dN.loops) dN.at dN.nm dN.bd ?_
  intro args h K hC
  unfold dN.K at hC
  split at hC
  · rw [dN.eq]; exact hC
  · exact hC.elim
def cK.K : Con := fun args h K => match args with
  | [a0, a1] => cK.H (ctx [] [] cK.loops) a0 a1 h K
  | _ => False
theorem cK.spec : SSpec Tryz.prog 88 cK.K := by
  refine SSpec.of (ctx_ok (F := []) (S := []) (by simp) (by simp) cK.loops) cK.at cK.nm cK.bd ?_
  intro args h K hC
  unfold cK.K at hC
  split at hC
  · rw [cK.eq]; exact hC
  · exact hC.elim
def bU.K : Con := fun args h K => match args with
  | [a0, a1] => bU.H (ctx [(74, fJ.C)] [] bU.loops) a0 a1 h K
  | _ => False
theorem bU.spec : SSpec Tryz.prog 92 bU.K := by
  refine SSpec.of (ctx_ok (F := [(74, fJ.C)]) (S := []) (by simpa using fJ.spec) (by simp) bU.loops) bU.at bU.nm bU.bd ?_
  intro args h K hC
  unfold bU.K at hC
  split at hC
  · rw [bU.eq]; exact hC
  · exact hC.elim
def cP.K : Con := fun args h K => match args with
  | [a0] => cP.H (ctx [(46, bY.C), (49, dR.C)] [(88, cK.K)] cP.loops) a0 h K
  | _ => False
theorem cP.spec : SSpec Tryz.prog 58 cP.K := by
  refine SSpec.of (ctx_ok (F := [(46, bY.C), (49, dR.C)]) (S := [(88, cK.K)]) (by simpa using ⟨bY.spec, dR.spec⟩) (by simpa using cK.spec) cP.loops) cP.at cP.nm cP.bd ?_
  intro args h K hC
  unfold cP.K at hC
  split at hC
  · rw [cP.eq]; exact hC
  · exact hC.elim
def cQ.K : Con := fun args h K => match args with
  | [a0] => cQ.H (ctx [(40, eK.C)] [] cQ.loops) a0 h K
  | _ => False
theorem cQ.spec : SSpec Tryz.prog 59 cQ.K := by
  refine SSpec.of (ctx_ok (F := [(40, eK.C)]) (S := []) (by simpa using eK.spec) (by simp) cQ.loops) cQ.at cQ.nm cQ.bd ?_
  intro args h K hC
  unfold cQ.K at hC
  split at hC
  · rw [cQ.eq]; exact hC
  · exact hC.elim
def cE.K : Con := fun args h K => match args with
  | [a0] => cE.H (ctx [(41, fA.C)] [] cE.loops) a0 h K
  | _ => False
theorem cE.spec : SSpec Tryz.prog 60 cE.K := by
  refine SSpec.of (ctx_ok (F := [(41, fA.C)]) (S := []) (by simpa using fA.spec) (by simp) cE.loops) cE.at cE.nm cE.bd ?_
  intro args h K hC
  unfold cE.K at hC
  split at hC
  · rw [cE.eq]; exact hC
  · exact hC.elim
def bW.K : Con := fun args h K => match args with
  | [a0, a1] => bW.H (ctx [] [] bW.loops) a0 a1 h K
  | _ => False
theorem bW.spec : SSpec Tryz.prog 91 bW.K := by
  refine SSpec.of (ctx_ok (F := []) (S := []) (by simp) (by simp) bW.loops) bW.at bW.nm bW.bd ?_
  intro args h K hC
  unfold bW.K at hC
  split at hC
  · rw [bW.eq]; exact hC
  · exact hC.elim
def aN.K : Con := fun args h K => match args with
  | [a0, a1] => aN.H (ctx [] [(91, bW.K)] aN.loops) a0 a1 h K
  | _ => False
theorem aN.spec : SSpec Tryz.prog 90 aN.K := by
  refine SSpec.of (ctx_ok (F := []) (S := [(91, bW.K)]) (by simp) (by simpa using bW.spec) aN.loops) aN.at aN.nm aN.bd ?_
  intro args h K hC
  unfold aN.K at hC
  split at hC
  · rw [aN.eq]; exact hC
  · exact hC.elim
def cF.K : Con := fun args h K => match args with
  | [a0] => cF.H (ctx [(71, eL.C), (46, bY.C), (47, eM.C), (89, eN.C)] [(90, aN.K)] cF.loops) a0 h K
  | _ => False
theorem cF.spec : SSpec Tryz.prog 61 cF.K := by
  refine SSpec.of (ctx_ok (F := [(71, eL.C), (46, bY.C), (47, eM.C), (89, eN.C)]) (S := [(90, aN.K)]) (by simpa using ⟨eL.spec, bY.spec, eM.spec, eN.spec⟩) (by simpa using aN.spec) cF.loops) cF.at cF.nm cF.bd ?_
  intro args h K hC
  unfold cF.K at hC
  split at hC
  · rw [cF.eq]; exact hC
  · exact hC.elim
def cR.K : Con := fun args h K => match args with
  | [a0] => cR.H (ctx [] [(92, bU.K), (88, cK.K)] cR.loops) a0 h K
  | _ => False
theorem cR.spec : SSpec Tryz.prog 62 cR.K := by
  refine SSpec.of (ctx_ok (F := []) (S := [(92, bU.K), (88, cK.K)]) (by simp) (by simpa using ⟨bU.spec, cK.spec⟩) cR.loops) cR.at cR.nm cR.bd ?_
  intro args h K hC
  unfold cR.K at hC
  split at hC
  · rw [cR.eq]; exact hC
  · exact hC.elim
def cG.K : Con := fun args h K => match args with
  | [a0] => cG.H (ctx [] [(92, bU.K)] cG.loops) a0 h K
  | _ => False
theorem cG.spec : SSpec Tryz.prog 63 cG.K := by
  refine SSpec.of (ctx_ok (F := []) (S := [(92, bU.K)]) (by simp) (by simpa using bU.spec) cG.loops) cG.at cG.nm cG.bd ?_
  intro args h K hC
  unfold cG.K at hC
  split at hC
  · rw [cG.eq]; exact hC
  · exact hC.elim
def cA.K : Con := fun args h K => match args with
  | [a0] => cA.H (ctx [] [(92, bU.K)] cA.loops) a0 h K
  | _ => False
theorem cA.spec : SSpec Tryz.prog 64 cA.K := by
  refine SSpec.of (ctx_ok (F := []) (S := [(92, bU.K)]) (by simp) (by simpa using bU.spec) cA.loops) cA.at cA.nm cA.bd ?_
  intro args h K hC
  unfold cA.K at hC
  split at hC
  · rw [cA.eq]; exact hC
  · exact hC.elim
abbrev fnsR : AObj := .row .arr 0 (.fns [none, some 58, some 59, some 60, some 61, some 62, some 63, some 64])
/-- the heap of one step -/
def hpR (z : Bool) (m0 : Mm) (r0 : Rd) (m : Mm) (r : Rd) (Y : List AObj) : List AObj :=
  .box m0.V :: .box r0.V :: .box (.agg [.sl z (.ints .i64 []), .sl z (.ints .i64 []), .sl z (.pends [])]) :: .box (.agg [.str [], .int .i64 0, .int .i64 0, .int .i64 0, .agg [.int .i64 0, .int .i64 0, .int .i64 0, .sl z (.ints .i64 []), .bool false], .str [], .bool false]) :: fnsR :: fnsR :: .box (.agg [m.V, r.V]) :: Y
theorem look_K (z : Bool) (m0 m : Mm) (r0 r : Rd) (hsw : smallW m.vol) (K : AOut → List AObj → Prop) (hK : ∀ Y, K (.ret (.tup [])) (hpR z m0 r0 m (rLook m.vol r) Y)) :
    cQ.K [.ptr 6 []] (hpR z m0 r0 m r []) K := by
  obtain ⟨vol, per, pend⟩ := m
  obtain ⟨key, phase, block, to_, ⟨sb, st, sa, sr, so⟩, val, found⟩ := r
  have hr := smallW.roomy hsw
  simp only at hr hK
  unfold rLook at hK
  unfold cQ.K cQ.H
  simp only at hK
  cases hb : beginO vol block with
  | none =>
    have hbv : beginV vol block = .tup [skZ.V, .int .i64 90] := by unfold beginV; rw [hb]
    rw [hb] at hK
    simp only [hpR, Mm.V, memV, Rd.V, Sk.V, skZ, hbv, eK.C, aA, aA, gq, Int.reduceEq, Int.reduceLT, Int.reduceLE, implies_true, reduceCtorEq, if_true, if_false, go_sem, Nat.reduceEqDiff, Nat.reduceLT, Nat.reduceAdd, Nat.reduceSub, Nat.reduceLeDiff, List.reduceReplicate, Int.reduceToNat] at hK ⊢
    exact ⟨hr, hK _⟩
  | some x =>
    obtain ⟨xb, xt, xa, xr, xo⟩ := x
    have hbv : beginV vol block = .tup [Sk.V ⟨xb, xt, xa, xr, xo⟩, .int .i64 0] := by unfold beginV; rw [hb]
    rw [hb] at hK
    simp only [hpR, Mm.V, memV, Rd.V, Sk.V, skZ, hbv, eK.C, aA, aA, gq, Int.reduceEq, Int.reduceLT, Int.reduceLE, implies_true, reduceCtorEq, if_true, if_false, go_sem, Nat.reduceEqDiff, Nat.reduceLT, Nat.reduceAdd, Nat.reduceSub, Nat.reduceLeDiff, List.reduceReplicate, Int.reduceToNat] at hK ⊢
    exact ⟨hr, hK _⟩
theorem slots_K (z : Bool) (m0 m : Mm) (r0 r : Rd) (hsw : smallW m.vol) (hsr : r.seek.refs.length ≤ 200) (K : AOut → List AObj → Prop) (hK : ∀ Y, K (.ret (.tup [])) (hpR z m0 r0 m (rSlots m.vol r) Y)) :
    cE.K [.ptr 6 []] (hpR z m0 r0 m r []) K := by
  obtain ⟨vol, per, pend⟩ := m
  obtain ⟨key, phase, block, to_, ⟨sb, st, sa, sr, so⟩, val, found⟩ := r
  have hr := hsw.1
  simp only at hr hK hsr
  unfold rSlots at hK
  unfold cE.K cE.H
  simp only at hK
  have h4 : vol.length ≤ 65536 ∧ sr.length ≤ 65536 := ⟨hr, by omega⟩
  generalize hs : stepS vol ⟨sb, st, sa, sr, so⟩ = x at *
  obtain ⟨xb, xt, xa, xr, xo⟩ := x
  cases xo with
  | true =>
    simp only [hpR, Mm.V, memV, Rd.V, Sk.V, hs, fA.C, aA, aA, gq, Int.reduceEq, Int.reduceLT, Int.reduceLE, implies_true, reduceCtorEq, if_true, if_false, go_sem, Nat.reduceEqDiff, Nat.reduceLT, Nat.reduceAdd, Nat.reduceSub, Nat.reduceLeDiff, List.reduceReplicate, Int.reduceToNat] at hK ⊢
    exact ⟨h4, hK _⟩
  | false =>
    simp only [hpR, Mm.V, memV, Rd.V, Sk.V, hs, fA.C, aA, aA, gq, Int.reduceEq, Int.reduceLT, Int.reduceLE, implies_true, reduceCtorEq, if_true, if_false, go_sem, Nat.reduceEqDiff, Nat.reduceLT, Nat.reduceAdd, Nat.reduceSub, Nat.reduceLeDiff, List.reduceReplicate, Int.reduceToNat] at hK ⊢
    exact ⟨h4, hK _⟩
theorem keep_K (z : Bool) (m0 m : Mm) (r0 r : Rd) (line : Int) (h0 : 0 ≤ line) (h1 : line ≤ 1) (hsm : smallM m.vol m.per m.pend) (hpe : m.pend.length + 1 ≤ 1000000) (K : AOut → List AObj → Prop) (hK : K (.ret (.tup [])) (hpR z m0 r0 (keepM m r.block line) r [])) :
    bU.K [.ptr 6 [], .int .i64 line] (hpR z m0 r0 m r []) K := by
  obtain ⟨vol, per, pend⟩ := m
  obtain ⟨key, phase, block, to_, ⟨sb, st, sa, sr, so⟩, val, found⟩ := r
  simp only at hK hsm hpe
  unfold keepM at hK
  unfold bU.K bU.H
  by_cases hb : 0 ≤ block ∧ block < 256
  · rw [if_pos hb] at hK
    have e1 : IntKind.i64.wrap (2 * block) = 2 * block := w64 (by omega) (by omega)
    have e2 : IntKind.i64.wrap (2 * block + line) = 2 * block + line := w64 (by omega) (by omega)
    have d1 : decide (0 ≤ block) = true := decide_eq_true hb.1
    have d2 : decide (block < 256) = true := decide_eq_true hb.2
    obtain ⟨e, he⟩ := runV_is ⟨vol, per, pend⟩ ⟨2, 2 * block + line, 0⟩
    generalize doM ⟨vol, per, pend⟩ ⟨2, 2 * block + line, 0⟩ = m' at *
    obtain ⟨vol', per', pend'⟩ := m'
    simp only [hpR, Mm.V, memV, Rd.V, Sk.V, d1, d2, e1, e2, he, fJ.C, aA, aA, gq, Int.reduceEq, Int.reduceLT, Int.reduceLE, implies_true, reduceCtorEq, if_true, if_false, go_sem, Nat.reduceEqDiff, Nat.reduceLT, Nat.reduceAdd, Nat.reduceSub, Nat.reduceLeDiff, List.reduceReplicate, Int.reduceToNat] at hK ⊢
    exact ⟨⟨hsm, by omega⟩, hK⟩
  · rw [if_neg hb] at hK
    by_cases hb0 : 0 ≤ block
    · have d1 : decide (0 ≤ block) = true := decide_eq_true hb0
      have d2 : decide (block < 256) = false := decide_eq_false (by omega)
      simp only [hpR, Mm.V, memV, Rd.V, Sk.V, d1, d2, aA, aA, gq, Int.reduceEq, Int.reduceLT, Int.reduceLE, implies_true, reduceCtorEq, if_true, if_false, go_sem, Nat.reduceEqDiff, Nat.reduceLT, Nat.reduceAdd, Nat.reduceSub, Nat.reduceLeDiff, List.reduceReplicate, Int.reduceToNat] at hK ⊢
      exact hK
    · have d1 : decide (0 ≤ block) = false := decide_eq_false hb0
      simp only [hpR, Mm.V, memV, Rd.V, Sk.V, d1, aA, aA, gq, Int.reduceEq, Int.reduceLT, Int.reduceLE, implies_true, reduceCtorEq, if_true, if_false, go_sem, Nat.reduceEqDiff, Nat.reduceLT, Nat.reduceAdd, Nat.reduceSub, Nat.reduceLeDiff, List.reduceReplicate, Int.reduceToNat] at hK ⊢
      exact hK
theorem first_K (z : Bool) (m0 m : Mm) (r0 r : Rd) (hsm : smallM m.vol m.per m.pend) (hpe : m.pend.length + 1 ≤ 1000000) (K : AOut → List AObj → Prop) (hK : K (.ret (.tup [])) (hpR z m0 r0 (keepM m r.block 0) { r with phase := 7 } [])) :
    cG.K [.ptr 6 []] (hpR z m0 r0 m r []) K := by
  unfold cG.K cG.H
  simp only [aA, aA, gq, Int.reduceEq, Int.reduceLT, Int.reduceLE, implies_true, reduceCtorEq, if_true, if_false, go_sem, Nat.reduceEqDiff, Nat.reduceLT, Nat.reduceAdd, Nat.reduceSub, Nat.reduceLeDiff, List.reduceReplicate, Int.reduceToNat]
  refine keep_K z m0 m r0 r 0 (by decide) (by decide) hsm hpe _ ?_
  generalize keepM m r.block 0 = m' at *
  obtain ⟨vol', per', pend'⟩ := m'
  obtain ⟨key, phase, block, to_, ⟨sb, st, sa, sr, so⟩, val, found⟩ := r
  simp only [hpR, Mm.V, memV, Rd.V, Sk.V, aA, aA, gq, Int.reduceEq, Int.reduceLT, Int.reduceLE, implies_true, reduceCtorEq, if_true, if_false, go_sem, Nat.reduceEqDiff, Nat.reduceLT, Nat.reduceAdd, Nat.reduceSub, Nat.reduceLeDiff, List.reduceReplicate, Int.reduceToNat] at hK ⊢
  exact hK
theorem aCk (z : Bool) (m0 m : Mm) (r0 r : Rd) (hsm : smallM m.vol m.per m.pend) (hpe : m.pend.length + 1 ≤ 1000000) (K : AOut → List AObj → Prop) (hK : K (.ret (.tup [])) (hpR z m0 r0 (keepM m r.block 1) { r with phase := 8 } [])) :
    cA.K [.ptr 6 []] (hpR z m0 r0 m r []) K := by
  unfold cA.K cA.H
  simp only [aA, aA, gq, Int.reduceEq, Int.reduceLT, Int.reduceLE, implies_true, reduceCtorEq, if_true, if_false, go_sem, Nat.reduceEqDiff, Nat.reduceLT, Nat.reduceAdd, Nat.reduceSub, Nat.reduceLeDiff, List.reduceReplicate, Int.reduceToNat]
  refine keep_K z m0 m r0 r 1 (by decide) (by decide) hsm hpe _ ?_
  generalize keepM m r.block 1 = m' at *
  obtain ⟨vol', per', pend'⟩ := m'
  obtain ⟨key, phase, block, to_, ⟨sb, st, sa, sr, so⟩, val, found⟩ := r
  simp only [hpR, Mm.V, memV, Rd.V, Sk.V, aA, aA, gq, Int.reduceEq, Int.reduceLT, Int.reduceLE, implies_true, reduceCtorEq, if_true, if_false, go_sem, Nat.reduceEqDiff, Nat.reduceLT, Nat.reduceAdd, Nat.reduceSub, Nat.reduceLeDiff, List.reduceReplicate, Int.reduceToNat] at hK ⊢
  exact hK
theorem to_K (z : Bool) (m0 m : Mm) (r0 r : Rd) (b : Int) (Y : List AObj) (K : AOut → List AObj → Prop) (hK : K (.ret (.tup [])) (hpR z m0 r0 m { r with block := b, phase := 2 } Y)) :
    cK.K [.ptr 6 [], .int .i64 b] (hpR z m0 r0 m r Y) K := by
  obtain ⟨vol', per', pend'⟩ := m
  obtain ⟨key, phase, block, to_, ⟨sb, st, sa, sr, so⟩, val, found⟩ := r
  unfold cK.K cK.H
  simp only [hpR, Mm.V, memV, Rd.V, Sk.V, aA, aA, gq, Int.reduceEq, Int.reduceLT, Int.reduceLE, implies_true, reduceCtorEq, if_true, if_false, go_sem, Nat.reduceEqDiff, Nat.reduceLT, Nat.reduceAdd, Nat.reduceSub, Nat.reduceLeDiff, List.reduceReplicate, Int.reduceToNat] at hK ⊢
  exact hK
theorem move_K (z : Bool) (m0 m : Mm) (r0 r : Rd) (hsm : smallM m.vol m.per m.pend) (hpe : m.pend.length + 1 ≤ 1000000) (K : AOut → List AObj → Prop) (hK : K (.ret (.tup [])) (hpR z m0 r0 (keepM m r.block 0) { r with block := r.to_, phase := 2 } [])) :
    cR.K [.ptr 6 []] (hpR z m0 r0 m r []) K := by
  unfold cR.K cR.H
  simp only [aA, aA, gq, Int.reduceEq, Int.reduceLT, Int.reduceLE, implies_true, reduceCtorEq, if_true, if_false, go_sem, Nat.reduceEqDiff, Nat.reduceLT, Nat.reduceAdd, Nat.reduceSub, Nat.reduceLeDiff, List.reduceReplicate, Int.reduceToNat]
  refine keep_K z m0 m r0 r 0 (by decide) (by decide) hsm hpe _ ?_
  generalize keepM m r.block 0 = m' at *
  obtain ⟨vol', per', pend'⟩ := m'
  obtain ⟨key, phase, block, to_, ⟨sb, st, sa, sr, so⟩, val, found⟩ := r
  simp only [hpR, Mm.V, memV, Rd.V, Sk.V, aA, aA, gq, Int.reduceEq, Int.reduceLT, Int.reduceLE, implies_true, reduceCtorEq, if_true, if_false, go_sem, Nat.reduceEqDiff, Nat.reduceLT, Nat.reduceAdd, Nat.reduceSub, Nat.reduceLeDiff, List.reduceReplicate, Int.reduceToNat]
  refine to_K z m0 ⟨vol', per', pend'⟩ r0 ⟨key, phase, block, to_, ⟨sb, st, sa, sr, so⟩, val, found⟩ to_ [] _ ?_
  simp only [hpR, Mm.V, memV, Rd.V, Sk.V, aA, aA, gq, Int.reduceEq, Int.reduceLT, Int.reduceLE, implies_true, reduceCtorEq, if_true, if_false, go_sem, Nat.reduceEqDiff, Nat.reduceLT, Nat.reduceAdd, Nat.reduceSub, Nat.reduceLeDiff, List.reduceReplicate, Int.reduceToNat] at hK ⊢
  exact hK
theorem down_K (z : Bool) (m0 m : Mm) (r0 r : Rd) (hsw : smallW m.vol) (K : AOut → List AObj → Prop) (hK : ∀ Y, K (.ret (.tup [])) (hpR z m0 r0 m (rDown m.vol r) Y)) :
    cP.K [.ptr 6 []] (hpR z m0 r0 m r []) K := by
  obtain ⟨vol, per, pend⟩ := m
  obtain ⟨key, phase, block, to_, ⟨sb, st, sa, sr, so⟩, val, found⟩ := r
  have hr := smallW.roomy hsw
  simp only at hr hK hsw
  unfold rDown at hK
  unfold cP.K cP.H
  simp only at hK
  have hgo : ∀ (b : Int) (Y : List AObj) (K2 : AOut → List AObj → Prop), K2 (.ret (.tup [])) (hpR z m0 r0 ⟨vol, per, pend⟩ ⟨key, 2, b, to_, ⟨sb, st, sa, sr, so⟩, val, found⟩ Y) → cK.K [.ptr 6 [], .int .i64 b] (hpR z m0 r0 ⟨vol, per, pend⟩ ⟨key, phase, block, to_, ⟨sb, st, sa, sr, so⟩, val, found⟩ Y) K2 := fun b Y K2 h => to_K z m0 _ r0 _ b Y K2 h
  cases hn : nodeO vol block with
  | none =>
    obtain ⟨e, he, hv⟩ := jY hn
    have hd : downV vol block key 0 = .tup [.int .i64 0, .int .i64 90] := by unfold downV downO; rw [hn]
    rw [hn] at hK
    simp only [hpR, Mm.V, memV, Rd.V, Sk.V, zeroNd, hv, he, hd, bY.C, dR.C, aA, decide_false, decide_true, aA, gq, Int.reduceEq, Int.reduceLT, Int.reduceLE, implies_true, reduceCtorEq, if_true, if_false, go_sem, Nat.reduceEqDiff, Nat.reduceLT, Nat.reduceAdd, Nat.reduceSub, Nat.reduceLeDiff, List.reduceReplicate, Int.reduceToNat] at hK ⊢
    refine ⟨hr, hsw, hgo _ _ _ ?_⟩
    simp only [hpR, Mm.V, memV, Rd.V, Sk.V, aA, gq, Int.reduceEq, Int.reduceLT, Int.reduceLE, implies_true, reduceCtorEq, if_true, if_false, go_sem, Nat.reduceEqDiff, Nat.reduceLT, Nat.reduceAdd, Nat.reduceSub, Nat.reduceLeDiff, List.reduceReplicate, Int.reduceToNat]
    exact hK _
  | some n =>
    obtain ⟨n1, n2, n3, n4, n5⟩ := n
    rw [hn] at hK
    simp only at hK
    by_cases h0 : n1 = 0
    · rw [if_pos h0] at hK
      simp only [hpR, Mm.V, memV, Rd.V, Sk.V, gZ hn, h0, bY.C, dR.C, aA, decide_false, decide_true, aA, gq, Int.reduceEq, Int.reduceLT, Int.reduceLE, implies_true, reduceCtorEq, if_true, if_false, go_sem, Nat.reduceEqDiff, Nat.reduceLT, Nat.reduceAdd, Nat.reduceSub, Nat.reduceLeDiff, List.reduceReplicate, Int.reduceToNat] at hK ⊢
      refine ⟨hr, hgo _ _ _ ?_⟩
      simp only [hpR, Mm.V, memV, Rd.V, Sk.V, aA, gq, Int.reduceEq, Int.reduceLT, Int.reduceLE, implies_true, reduceCtorEq, if_true, if_false, go_sem, Nat.reduceEqDiff, Nat.reduceLT, Nat.reduceAdd, Nat.reduceSub, Nat.reduceLeDiff, List.reduceReplicate, Int.reduceToNat]
      exact hK _
    · rw [if_neg h0] at hK
      cases hd : downO vol block key 0 with
      | none =>
        have hdv : downV vol block key 0 = .tup [.int .i64 0, .int .i64 90] := by unfold downV; rw [hd]
        rw [hd] at hK
        simp only [hpR, Mm.V, memV, Rd.V, Sk.V, gZ hn, h0, hdv, bY.C, dR.C, aA, decide_false, decide_true, aA, gq, Int.reduceEq, Int.reduceLT, Int.reduceLE, implies_true, reduceCtorEq, if_true, if_false, go_sem, Nat.reduceEqDiff, Nat.reduceLT, Nat.reduceAdd, Nat.reduceSub, Nat.reduceLeDiff, List.reduceReplicate, Int.reduceToNat] at hK ⊢
        refine ⟨hr, hsw, hgo _ _ _ ?_⟩
        simp only [hpR, Mm.V, memV, Rd.V, Sk.V, aA, gq, Int.reduceEq, Int.reduceLT, Int.reduceLE, implies_true, reduceCtorEq, if_true, if_false, go_sem, Nat.reduceEqDiff, Nat.reduceLT, Nat.reduceAdd, Nat.reduceSub, Nat.reduceLeDiff, List.reduceReplicate, Int.reduceToNat]
        exact hK _
      | some t =>
        have hdv : downV vol block key 0 = .tup [.int .i64 t, .int .i64 0] := by unfold downV; rw [hd]
        rw [hd] at hK
        simp only [hpR, Mm.V, memV, Rd.V, Sk.V, gZ hn, h0, hdv, bY.C, dR.C, aA, decide_false, decide_true, aA, gq, Int.reduceEq, Int.reduceLT, Int.reduceLE, implies_true, reduceCtorEq, if_true, if_false, go_sem, Nat.reduceEqDiff, Nat.reduceLT, Nat.reduceAdd, Nat.reduceSub, Nat.reduceLeDiff, List.reduceReplicate, Int.reduceToNat] at hK ⊢
        exact ⟨hr, hsw, hK _⟩
theorem aBr (w : List Int) (b : Int) : ∃ (n1 n2 n3 n4 : Int) (n5 : List Int) (e : Int) (lo : Bytes) (e2 : Int), readV w b = .tup [.agg [.int .i64 n1, .int .i64 n2, .int .i64 n3, .int .i64 n4, .sl false (.ints .i64 n5)], .int .i64 e] ∧ lowV w n3 = .tup [.str lo, .int .i64 e2] ∧ rightO w b = if n3 ≠ 0 ∧ e2 = 0 then some (n3, lo) else none := by
  have hlow : ∀ x : Int, ∃ lo e2, lowV w x = .tup [.str lo, .int .i64 e2] ∧ (nodeO w x).bind (lowO w) = if e2 = 0 then some lo else none := fun x => by
    unfold lowV
    cases h : (nodeO w x).bind (lowO w) with
    | none => exact ⟨_, _, rfl, (if_neg (by decide)).symm⟩
    | some l => exact ⟨_, _, rfl, (if_pos rfl).symm⟩
  unfold rightO
  cases hn : nodeO w b with
  | none =>
    obtain ⟨e, _, hv⟩ := jY hn
    obtain ⟨lo, e2, hl, _⟩ := hlow 0
    exact ⟨0, 0, 0, 0, [], e, lo, e2, hv, hl, (if_neg (fun h => h.1 rfl)).symm⟩
  | some n =>
    obtain ⟨n1, n2, n3, n4, n5⟩ := n
    obtain ⟨lo, e2, hl, hb⟩ := hlow n3
    refine ⟨n1, n2, n3, n4, n5, 0, lo, e2, gZ hn, hl, ?_⟩
    simp only
    by_cases h0 : n3 = 0
    · rw [if_pos h0, if_neg (fun h => h.1 h0)]
    · rw [if_neg h0, hb]
      by_cases h2 : e2 = 0
      · rw [if_pos h2, if_pos ⟨h0, h2⟩]
      · rw [if_neg h2, if_neg (fun h => h2 h.2)]
theorem aCl (z : Bool) (m0 m : Mm) (r0 r : Rd) (n1 n2 n3 n4 : Int) (n5 : List Int) (l : List RecT) (hl : roomy l.length) (K : AOut → List AObj → Prop)
    (hK1 : ∀ (k : Nat) (Y : List AObj), k < l.length → kyL l k = r.key → (∀ j, j < k → kyL l j ≠ r.key) → K (.ret (.int .i64 k)) (hpR false m0 r0 m r (.box (.ptr 6 []) :: .box (.agg [.int .i64 n1, .int .i64 n2, .int .i64 n3, .int .i64 n4, .sl false (.ints .i64 n5)]) :: Y)))
    (hK2 : (∀ j, j < l.length → kyL l j ≠ r.key) → K (.ret (.int .i64 (-1))) (hpR false m0 r0 m r [.box (.ptr 6 []), .box (.agg [.int .i64 n1, .int .i64 n2, .int .i64 n3, .int .i64 n4, .sl false (.ints .i64 n5)])])) :
    aN.K [.sl false (.recs l), .fn (.func 91) [] [.ptr 7 []]] (hpR z m0 r0 m r [.box (.ptr 6 []), .box (.agg [.int .i64 n1, .int .i64 n2, .int .i64 n3, .int .i64 n4, .sl false (.ints .i64 n5)])]) K := by
  obtain ⟨vol, per, pend⟩ := m
  obtain ⟨key, phase, block, to_, ⟨sb, st, sa, sr, so⟩, val, found⟩ := r
  have hl' := hl
  unfold roomy at hl'
  unfold aN.K aN.H
  simp only [hpR, Mm.V, memV, Rd.V, Sk.V, aA, aA, gq, Int.reduceEq, Int.reduceLT, Int.reduceLE, implies_true, reduceCtorEq, if_true, if_false, go_sem, Nat.reduceEqDiff, Nat.reduceLT, Nat.reduceAdd, Nat.reduceSub, Nat.reduceLeDiff, List.reduceReplicate, Int.reduceToNat] at hK1 hK2 ⊢
  unfold aN.L1
  refine loop1 (σ := Nat) (fun k => .int .i64 k) (fun k => [.box (.agg [.sl false (.ints .i64 m0.vol), .sl false (.ints .i64 m0.per), .sl false (.pends m0.pend)]), .box (.agg [.str r0.key, .int .i64 r0.phase, .int .i64 r0.block, .int .i64 r0.to_, .agg [.int .i64 r0.seek.block, .int .i64 r0.seek.turn, .int .i64 r0.seek.at_, .sl false (.ints .i64 r0.seek.refs), .bool r0.seek.over], .str r0.val, .bool r0.found]), .box (.agg [.sl false (.ints .i64 []), .sl false (.ints .i64 []), .sl false (.pends [])]), .box (.agg [.str [], .int .i64 0, .int .i64 0, .int .i64 0, .agg [.int .i64 0, .int .i64 0, .int .i64 0, .sl false (.ints .i64 []), .bool false], .str [], .bool false]), fnsR, fnsR, .box (.agg [.agg [.sl false (.ints .i64 vol), .sl false (.ints .i64 per), .sl false (.pends pend)], .agg [.str key, .int .i64 phase, .int .i64 block, .int .i64 to_, .agg [.int .i64 sb, .int .i64 st, .int .i64 sa, .sl false (.ints .i64 sr), .bool so], .str val, .bool found]]), .box (.ptr 6 []), .box (.agg [.int .i64 n1, .int .i64 n2, .int .i64 n3, .int .i64 n4, .sl false (.ints .i64 n5)])]) (fun k => l.length - k) (fun k => k ≤ l.length ∧ ∀ j, j < k → kyL l j ≠ key) 0 rfl rfl ⟨Nat.zero_le _, fun j h => by omega⟩ ?_
  rintro I back k ⟨hk, hall⟩
  by_cases hkl : k < l.length
  · have hb := back (k + 1) (n := l.length - k) (by omega) rfl rfl
    have d1 : decide ((k : Int) < (l.length : Int)) = true := decide_eq_true (by omega)
    simp only [bW.K, bW.H, d1, d0_def, kyL_def, Int.toNat_natCast, aA, wnext (show k < 4611686018427387904 by omega), aA, gq, Int.reduceEq, Int.reduceLT, Int.reduceLE, implies_true, reduceCtorEq, if_true, if_false, go_sem, Nat.reduceEqDiff, Nat.reduceLT, Nat.reduceAdd, Nat.reduceSub, Nat.reduceLeDiff, List.reduceReplicate, Int.reduceToNat] at hb ⊢
    refine ⟨⟨by omega, by omega⟩, fun h => hK1 k _ hkl h hall, fun h => hb ⟨by omega, fun j hj => ?_⟩⟩
    by_cases e : j = k
    · subst e; exact h
    · exact hall j (by omega)
  · obtain rfl : k = l.length := by omega
    have d1 : decide ((l.length : Int) < (l.length : Int)) = false := decide_eq_false (by omega)
    simp only [d1, aA, aA, gq, Int.reduceEq, Int.reduceLT, Int.reduceLE, implies_true, reduceCtorEq, if_true, if_false, go_sem, Nat.reduceEqDiff, Nat.reduceLT, Nat.reduceAdd, Nat.reduceSub, Nat.reduceLeDiff, List.reduceReplicate, Int.reduceToNat]
    exact hK2 hall
theorem fence_K (z : Bool) (m0 m : Mm) (r0 r : Rd) (hsw : smallW m.vol) (hsr : r.seek.refs.length ≤ 200) (K : AOut → List AObj → Prop) (hK : ∀ z Y, K (.ret (.tup [])) (hpR z m0 r0 m (rFence m.vol r) Y)) :
    cF.K [.ptr 6 []] (hpR z m0 r0 m r []) K := by
  obtain ⟨vol, per, pend⟩ := m
  obtain ⟨key, phase, block, to_, ⟨sb, st, sa, sr, so⟩, val, found⟩ := r
  have hr := smallW.roomy hsw
  simp only at hr hK hsw hsr
  unfold rFence at hK
  unfold cF.K cF.H
  simp only at hK
  cases hh : holdsB vol sb st with
  | false =>
    rw [hh] at hK
    simp only [hpR, Mm.V, memV, Rd.V, Sk.V, hh, eL.C, aA, decide_false, decide_true, aA, gq, Int.reduceEq, Int.reduceLT, Int.reduceLE, implies_true, reduceCtorEq, if_true, if_false, go_sem, Nat.reduceEqDiff, Nat.reduceLT, Nat.reduceAdd, Nat.reduceSub, Nat.reduceLeDiff, List.reduceReplicate, Int.reduceToNat] at hK ⊢
    exact ⟨hr, hK _ _⟩
  | true =>
    rw [hh, if_neg (by decide)] at hK
    obtain ⟨n1, n2, n3, n4, n5, e, lo, e2, hrv, hlv, hright⟩ := aBr vol block
    rw [hright] at hK
    simp only [hpR, Mm.V, memV, Rd.V, Sk.V, hh, hrv, hlv, eL.C, bY.C, eM.C, decide_false, decide_true, gq, Int.reduceEq, Int.reduceLT, Int.reduceLE, implies_true, reduceCtorEq, if_true, if_false, go_sem, Nat.reduceEqDiff, Nat.reduceLT, Nat.reduceAdd, Nat.reduceSub, Nat.reduceLeDiff, List.reduceReplicate, Int.reduceToNat]
    refine ⟨hr, hr, hsw, ?_⟩
    refine ⟨fun hc => ⟨rfl, ?_⟩, fun hc => ?_⟩
    · simp only [Bool.and_eq_true, Bool.not_eq_true', decide_eq_false_iff_not, decide_eq_true_eq] at hc
      rw [if_pos ⟨hc.1.1, hc.1.2⟩] at hK
      simp only [hc.2, if_true] at hK
      simp only [hpR, Mm.V, memV, Rd.V, Sk.V, aA, gq, Int.reduceEq, Int.reduceLT, Int.reduceLE, implies_true, reduceCtorEq, if_true, if_false, go_sem, Nat.reduceEqDiff, Nat.reduceLT, Nat.reduceAdd, Nat.reduceSub, Nat.reduceLeDiff, List.reduceReplicate, Int.reduceToNat] at hK
      exact hK _ _
    · have hK2 : ∀ z Y, K (.ret (.tup [])) (hpR z m0 r0 ⟨vol, per, pend⟩ (rFound vol ⟨key, phase, block, to_, ⟨sb, st, sa, sr, so⟩, val, found⟩) Y) := by
        by_cases h1 : n3 ≠ 0 ∧ e2 = 0
        · rw [if_pos h1] at hK
          have h2 : ltB key lo = true := by
            cases h : ltB key lo with
            | true => rfl
            | false => rw [h, decide_eq_false h1.1, decide_eq_true h1.2] at hc; cases hc
          simp only [h2] at hK
          exact hK
        · rw [if_neg h1] at hK
          exact hK
      clear hK hc
      unfold rFound at hK2
      simp only at hK2
      have hso : (sortR (hitsOf vol sr)).length ≤ 200 := by
        have h1 := (pL (w := vol) (refs := sr) (out := []) (by simp)).2
        have h2 := (lR (hitsOf vol sr)).length_eq
        simp only [List.length_nil] at h1
        unfold hitsOf at h2 ⊢
        omega
      simp only [eN.C, gq, Int.reduceEq, Int.reduceLT, Int.reduceLE, implies_true, reduceCtorEq, if_true, if_false, go_sem, Nat.reduceEqDiff, Nat.reduceLT, Nat.reduceAdd, Nat.reduceSub, Nat.reduceLeDiff, List.reduceReplicate, Int.reduceToNat]
      refine ⟨⟨hr, hsr⟩, ?_⟩
      generalize sortR (hitsOf vol sr) = l at hK2 hso ⊢
      refine aCl z m0 ⟨vol, per, pend⟩ r0 ⟨key, phase, block, to_, ⟨sb, st, sa, sr, so⟩, val, found⟩ n1 n2 n3 n4 n5 l (by unfold roomy; omega) _ (fun k Y hk hky hall => ?_) fun hall => ?_
      · have hf : idxR key l = some (l.getD k d0) := by
          unfold idxR
          rw [List.find?_eq_some_iff_getElem]
          have e : l.getD k d0 = l[k] := by rw [List.getD_eq_getElem?_getD, List.getElem?_eq_getElem hk]; rfl
          refine ⟨decide_eq_true hky, k, hk, e.symm, fun j hj => ?_⟩
          have h1 := hall j hj
          unfold kyL at h1
          rw [List.getD_eq_getElem?_getD, List.getElem?_eq_getElem (show j < l.length by omega)] at h1
          simpa using h1
        rw [hf] at hK2
        have d1 : decide ((0 : Int) ≤ (k : Int)) = true := decide_eq_true (by omega)
        simp only [hpR, Mm.V, memV, Rd.V, Sk.V, d1, d0_def, kyL_def, Int.toNat_natCast, aA, aA, gq, Int.reduceEq, Int.reduceLT, Int.reduceLE, implies_true, reduceCtorEq, if_true, if_false, go_sem, Nat.reduceEqDiff, Nat.reduceLT, Nat.reduceAdd, Nat.reduceSub, Nat.reduceLeDiff, List.reduceReplicate, Int.reduceToNat] at hK2 ⊢
        exact ⟨rfl, rfl, rfl, ⟨by omega, by omega⟩, hK2 _ _⟩
      · have hf : idxR key l = none := by
          unfold idxR
          rw [List.find?_eq_none]
          intro x hx h
          obtain ⟨j, hj, rfl⟩ := List.getElem_of_mem hx
          refine hall j hj ?_
          unfold kyL
          rw [List.getD_eq_getElem?_getD, List.getElem?_eq_getElem hj]
          exact of_decide_eq_true h
        rw [hf] at hK2
        simp only [hpR, Mm.V, memV, Rd.V, Sk.V, aA, aA, gq, Int.reduceEq, Int.reduceLT, Int.reduceLE, implies_true, reduceCtorEq, if_true, if_false, go_sem, Nat.reduceEqDiff, Nat.reduceLT, Nat.reduceAdd, Nat.reduceSub, Nat.reduceLeDiff, List.reduceReplicate, Int.reduceToNat] at hK2 ⊢
        exact ⟨rfl, rfl, rfl, hK2 _ _⟩
def dE.C : aD
  | [.agg [.sl false (.ints .i64 vol), .sl false (.ints .i64 per), .sl false (.pends pend)], .agg [.str key, .int .i64 phase, .int .i64 block, .int .i64 to_, .agg [.int .i64 sb, .int .i64 st, .int .i64 sa, .sl false (.ints .i64 sr), .bool so], .str val, .bool found]] => some (false, pD (smallM vol per pend ∧ pend.length + 1 ≤ 1000000 ∧ smallW vol ∧ sr.length ≤ 200) (.tup [(stepR ⟨vol, per, pend⟩ ⟨key, phase, block, to_, ⟨sb, st, sa, sr, so⟩, val, found⟩).1.V, (stepR ⟨vol, per, pend⟩ ⟨key, phase, block, to_, ⟨sb, st, sa, sr, so⟩, val, found⟩).2.V]))
  | _ => none
set_option maxRecDepth 20000 in
theorem dE.spec : FSpec Tryz.prog 14 dE.C := by
  refine FSpec.of (ctx_ok (F := []) (S := [(36, dN.K), (58, cP.K), (59, cQ.K), (60, cE.K), (61, cF.K), (62, cR.K), (63, cG.K), (64, cA.K)]) (by simp) (by simpa using ⟨dN.spec, cP.spec, cQ.spec, cE.spec, cF.spec, cR.spec, cG.spec, cA.spec⟩) dE.loops) dE.at dE.nm dE.bd ?_
  intro vs b S v news e hS
  unfold dE.C at e
  split at e
  rotate_left
  · cases e
  cases e
  rw [dE.eq]
  unfold dE.H
  simp (maxSteps := 4000000) only [go_sem, Nat.reduceEqDiff, Nat.reduceLT, Nat.reduceAdd, Nat.reduceSub, Nat.reduceLeDiff, List.reduceReplicate, Int.reduceToNat]
  rename_i vol per pend key phase block to_ sb st sa sr so val found
  obtain ⟨hsm, hpe, hsw, hsr⟩ := hS
  simp only [dN.K, dN.H, aA, aA, gq, Int.reduceEq, Int.reduceLT, Int.reduceLE, implies_true, reduceCtorEq, if_true, if_false, go_sem, Nat.reduceEqDiff, Nat.reduceLT, Nat.reduceAdd, Nat.reduceSub, Nat.reduceLeDiff, List.reduceReplicate, Int.reduceToNat]
  have hout : (phase < 1 ∨ 8 ≤ phase) → stepR ⟨vol, per, pend⟩ ⟨key, phase, block, to_, ⟨sb, st, sa, sr, so⟩, val, found⟩ = (⟨vol, per, pend⟩, ⟨key, phase, block, to_, ⟨sb, st, sa, sr, so⟩, val, found⟩) := fun h => by
    unfold stepR
    simp only
    rw [if_neg (by omega), if_neg (by omega), if_neg (by omega), if_neg (by omega), if_neg (by omega), if_neg (by omega), if_neg (by omega)]
  by_cases hlo : phase < 1
  · rw [hout (.inl hlo)]
    simp only [hlo, decide_true, Mm.V, memV, Rd.V, Sk.V, aA, aA, gq, Int.reduceEq, Int.reduceLT, Int.reduceLE, implies_true, reduceCtorEq, if_true, if_false, go_sem, Nat.reduceEqDiff, Nat.reduceLT, Nat.reduceAdd, Nat.reduceSub, Nat.reduceLeDiff, List.reduceReplicate, Int.reduceToNat]
    exact ⟨rfl, aH rfl rfl⟩
  by_cases hhi : 8 ≤ phase
  · rw [hout (.inr hhi)]
    simp only [hlo, hhi, decide_false, decide_true, Mm.V, memV, Rd.V, Sk.V, aA, aA, gq, Int.reduceEq, Int.reduceLT, Int.reduceLE, implies_true, reduceCtorEq, if_true, if_false, go_sem, Nat.reduceEqDiff, Nat.reduceLT, Nat.reduceAdd, Nat.reduceSub, Nat.reduceLeDiff, List.reduceReplicate, Int.reduceToNat]
    exact ⟨rfl, aH rfl rfl⟩
  have hph : phase = 1 ∨ phase = 2 ∨ phase = 3 ∨ phase = 4 ∨ phase = 5 ∨ phase = 6 ∨ phase = 7 := by omega
  clear hout hlo hhi
  rcases hph with rfl | rfl | rfl | rfl | rfl | rfl | rfl
  · have hst : stepR ⟨vol, per, pend⟩ ⟨key, 1, block, to_, ⟨sb, st, sa, sr, so⟩, val, found⟩ = (⟨vol, per, pend⟩, rDown vol ⟨key, 1, block, to_, ⟨sb, st, sa, sr, so⟩, val, found⟩) := rfl
    rw [hst]
    have hg : ([none, some 58, some 59, some 60, some 61, some 62, some 63, some 64] : List (Option FuncId)).getD ((1 : Int)).toNat none = some 58 := rfl
    simp only [hg, aA, aA, gq, Int.reduceEq, Int.reduceLT, Int.reduceLE, implies_true, reduceCtorEq, if_true, if_false, go_sem, Nat.reduceEqDiff, Nat.reduceLT, Nat.reduceAdd, Nat.reduceSub, Nat.reduceLeDiff, List.reduceReplicate, Int.reduceToNat]
    refine down_K true ⟨vol, per, pend⟩ ⟨vol, per, pend⟩ ⟨key, 1, block, to_, ⟨sb, st, sa, sr, so⟩, val, found⟩ ⟨key, 1, block, to_, ⟨sb, st, sa, sr, so⟩, val, found⟩ hsw _ fun Y => ?_
    generalize rDown vol ⟨key, 1, block, to_, ⟨sb, st, sa, sr, so⟩, val, found⟩ = r'
    obtain ⟨key', phase', block', to', ⟨sb', st', sa', sr', so'⟩, val', found'⟩ := r'
    simp only [hpR, Mm.V, memV, Rd.V, Sk.V, aA, aA, gq, Int.reduceEq, Int.reduceLT, Int.reduceLE, implies_true, reduceCtorEq, if_true, if_false, go_sem, Nat.reduceEqDiff, Nat.reduceLT, Nat.reduceAdd, Nat.reduceSub, Nat.reduceLeDiff, List.reduceReplicate, Int.reduceToNat]
    exact ⟨rfl, aH rfl rfl⟩
  · have hst : stepR ⟨vol, per, pend⟩ ⟨key, 2, block, to_, ⟨sb, st, sa, sr, so⟩, val, found⟩ = (⟨vol, per, pend⟩, rLook vol ⟨key, 2, block, to_, ⟨sb, st, sa, sr, so⟩, val, found⟩) := rfl
    rw [hst]
    have hg : ([none, some 58, some 59, some 60, some 61, some 62, some 63, some 64] : List (Option FuncId)).getD ((2 : Int)).toNat none = some 59 := rfl
    simp only [hg, aA, aA, gq, Int.reduceEq, Int.reduceLT, Int.reduceLE, implies_true, reduceCtorEq, if_true, if_false, go_sem, Nat.reduceEqDiff, Nat.reduceLT, Nat.reduceAdd, Nat.reduceSub, Nat.reduceLeDiff, List.reduceReplicate, Int.reduceToNat]
    refine look_K true ⟨vol, per, pend⟩ ⟨vol, per, pend⟩ ⟨key, 2, block, to_, ⟨sb, st, sa, sr, so⟩, val, found⟩ ⟨key, 2, block, to_, ⟨sb, st, sa, sr, so⟩, val, found⟩ hsw _ fun Y => ?_
    generalize rLook vol ⟨key, 2, block, to_, ⟨sb, st, sa, sr, so⟩, val, found⟩ = r'
    obtain ⟨key', phase', block', to', ⟨sb', st', sa', sr', so'⟩, val', found'⟩ := r'
    simp only [hpR, Mm.V, memV, Rd.V, Sk.V, aA, aA, gq, Int.reduceEq, Int.reduceLT, Int.reduceLE, implies_true, reduceCtorEq, if_true, if_false, go_sem, Nat.reduceEqDiff, Nat.reduceLT, Nat.reduceAdd, Nat.reduceSub, Nat.reduceLeDiff, List.reduceReplicate, Int.reduceToNat]
    exact ⟨rfl, aH rfl rfl⟩
  · have hst : stepR ⟨vol, per, pend⟩ ⟨key, 3, block, to_, ⟨sb, st, sa, sr, so⟩, val, found⟩ = (⟨vol, per, pend⟩, rSlots vol ⟨key, 3, block, to_, ⟨sb, st, sa, sr, so⟩, val, found⟩) := rfl
    rw [hst]
    have hg : ([none, some 58, some 59, some 60, some 61, some 62, some 63, some 64] : List (Option FuncId)).getD ((3 : Int)).toNat none = some 60 := rfl
    simp only [hg, aA, aA, gq, Int.reduceEq, Int.reduceLT, Int.reduceLE, implies_true, reduceCtorEq, if_true, if_false, go_sem, Nat.reduceEqDiff, Nat.reduceLT, Nat.reduceAdd, Nat.reduceSub, Nat.reduceLeDiff, List.reduceReplicate, Int.reduceToNat]
    refine slots_K true ⟨vol, per, pend⟩ ⟨vol, per, pend⟩ ⟨key, 3, block, to_, ⟨sb, st, sa, sr, so⟩, val, found⟩ ⟨key, 3, block, to_, ⟨sb, st, sa, sr, so⟩, val, found⟩ hsw hsr _ fun Y => ?_
    generalize rSlots vol ⟨key, 3, block, to_, ⟨sb, st, sa, sr, so⟩, val, found⟩ = r'
    obtain ⟨key', phase', block', to', ⟨sb', st', sa', sr', so'⟩, val', found'⟩ := r'
    simp only [hpR, Mm.V, memV, Rd.V, Sk.V, aA, aA, gq, Int.reduceEq, Int.reduceLT, Int.reduceLE, implies_true, reduceCtorEq, if_true, if_false, go_sem, Nat.reduceEqDiff, Nat.reduceLT, Nat.reduceAdd, Nat.reduceSub, Nat.reduceLeDiff, List.reduceReplicate, Int.reduceToNat]
    exact ⟨rfl, aH rfl rfl⟩
  · have hst : stepR ⟨vol, per, pend⟩ ⟨key, 4, block, to_, ⟨sb, st, sa, sr, so⟩, val, found⟩ = (⟨vol, per, pend⟩, rFence vol ⟨key, 4, block, to_, ⟨sb, st, sa, sr, so⟩, val, found⟩) := rfl
    rw [hst]
    have hg : ([none, some 58, some 59, some 60, some 61, some 62, some 63, some 64] : List (Option FuncId)).getD ((4 : Int)).toNat none = some 61 := rfl
    simp only [hg, aA, aA, gq, Int.reduceEq, Int.reduceLT, Int.reduceLE, implies_true, reduceCtorEq, if_true, if_false, go_sem, Nat.reduceEqDiff, Nat.reduceLT, Nat.reduceAdd, Nat.reduceSub, Nat.reduceLeDiff, List.reduceReplicate, Int.reduceToNat]
    refine fence_K true ⟨vol, per, pend⟩ ⟨vol, per, pend⟩ ⟨key, 4, block, to_, ⟨sb, st, sa, sr, so⟩, val, found⟩ ⟨key, 4, block, to_, ⟨sb, st, sa, sr, so⟩, val, found⟩ hsw hsr _ fun z Y => ?_
    generalize rFence vol ⟨key, 4, block, to_, ⟨sb, st, sa, sr, so⟩, val, found⟩ = r'
    obtain ⟨key', phase', block', to', ⟨sb', st', sa', sr', so'⟩, val', found'⟩ := r'
    simp only [hpR, Mm.V, memV, Rd.V, Sk.V, aA, aA, gq, Int.reduceEq, Int.reduceLT, Int.reduceLE, implies_true, reduceCtorEq, if_true, if_false, go_sem, Nat.reduceEqDiff, Nat.reduceLT, Nat.reduceAdd, Nat.reduceSub, Nat.reduceLeDiff, List.reduceReplicate, Int.reduceToNat]
    exact ⟨rfl, aH rfl rfl⟩
  · have hst : stepR ⟨vol, per, pend⟩ ⟨key, 5, block, to_, ⟨sb, st, sa, sr, so⟩, val, found⟩ = (keepM ⟨vol, per, pend⟩ block 0, ⟨key, 2, to_, to_, ⟨sb, st, sa, sr, so⟩, val, found⟩) := rfl
    rw [hst]
    have hg : ([none, some 58, some 59, some 60, some 61, some 62, some 63, some 64] : List (Option FuncId)).getD ((5 : Int)).toNat none = some 62 := rfl
    simp only [hg, aA, aA, gq, Int.reduceEq, Int.reduceLT, Int.reduceLE, implies_true, reduceCtorEq, if_true, if_false, go_sem, Nat.reduceEqDiff, Nat.reduceLT, Nat.reduceAdd, Nat.reduceSub, Nat.reduceLeDiff, List.reduceReplicate, Int.reduceToNat]
    refine move_K true ⟨vol, per, pend⟩ ⟨vol, per, pend⟩ ⟨key, 5, block, to_, ⟨sb, st, sa, sr, so⟩, val, found⟩ ⟨key, 5, block, to_, ⟨sb, st, sa, sr, so⟩, val, found⟩ hsm (by simp only; omega) _ ?_
    generalize keepM ⟨vol, per, pend⟩ block 0 = m'
    obtain ⟨vol', per', pend'⟩ := m'
    simp only [hpR, Mm.V, memV, Rd.V, Sk.V, aA, aA, gq, Int.reduceEq, Int.reduceLT, Int.reduceLE, implies_true, reduceCtorEq, if_true, if_false, go_sem, Nat.reduceEqDiff, Nat.reduceLT, Nat.reduceAdd, Nat.reduceSub, Nat.reduceLeDiff, List.reduceReplicate, Int.reduceToNat]
    exact ⟨rfl, aH rfl rfl⟩
  · have hst : stepR ⟨vol, per, pend⟩ ⟨key, 6, block, to_, ⟨sb, st, sa, sr, so⟩, val, found⟩ = (keepM ⟨vol, per, pend⟩ block 0, ⟨key, 7, block, to_, ⟨sb, st, sa, sr, so⟩, val, found⟩) := rfl
    rw [hst]
    have hg : ([none, some 58, some 59, some 60, some 61, some 62, some 63, some 64] : List (Option FuncId)).getD ((6 : Int)).toNat none = some 63 := rfl
    simp only [hg, aA, aA, gq, Int.reduceEq, Int.reduceLT, Int.reduceLE, implies_true, reduceCtorEq, if_true, if_false, go_sem, Nat.reduceEqDiff, Nat.reduceLT, Nat.reduceAdd, Nat.reduceSub, Nat.reduceLeDiff, List.reduceReplicate, Int.reduceToNat]
    refine first_K true ⟨vol, per, pend⟩ ⟨vol, per, pend⟩ ⟨key, 6, block, to_, ⟨sb, st, sa, sr, so⟩, val, found⟩ ⟨key, 6, block, to_, ⟨sb, st, sa, sr, so⟩, val, found⟩ hsm (by simp only; omega) _ ?_
    generalize keepM ⟨vol, per, pend⟩ block 0 = m'
    obtain ⟨vol', per', pend'⟩ := m'
    simp only [hpR, Mm.V, memV, Rd.V, Sk.V, aA, aA, gq, Int.reduceEq, Int.reduceLT, Int.reduceLE, implies_true, reduceCtorEq, if_true, if_false, go_sem, Nat.reduceEqDiff, Nat.reduceLT, Nat.reduceAdd, Nat.reduceSub, Nat.reduceLeDiff, List.reduceReplicate, Int.reduceToNat]
    exact ⟨rfl, aH rfl rfl⟩
  · have hst : stepR ⟨vol, per, pend⟩ ⟨key, 7, block, to_, ⟨sb, st, sa, sr, so⟩, val, found⟩ = (keepM ⟨vol, per, pend⟩ block 1, ⟨key, 8, block, to_, ⟨sb, st, sa, sr, so⟩, val, found⟩) := rfl
    rw [hst]
    have hg : ([none, some 58, some 59, some 60, some 61, some 62, some 63, some 64] : List (Option FuncId)).getD ((7 : Int)).toNat none = some 64 := rfl
    simp only [hg, aA, aA, gq, Int.reduceEq, Int.reduceLT, Int.reduceLE, implies_true, reduceCtorEq, if_true, if_false, go_sem, Nat.reduceEqDiff, Nat.reduceLT, Nat.reduceAdd, Nat.reduceSub, Nat.reduceLeDiff, List.reduceReplicate, Int.reduceToNat]
    refine aCk true ⟨vol, per, pend⟩ ⟨vol, per, pend⟩ ⟨key, 7, block, to_, ⟨sb, st, sa, sr, so⟩, val, found⟩ ⟨key, 7, block, to_, ⟨sb, st, sa, sr, so⟩, val, found⟩ hsm (by simp only; omega) _ ?_
    generalize keepM ⟨vol, per, pend⟩ block 1 = m'
    obtain ⟨vol', per', pend'⟩ := m'
    simp only [hpR, Mm.V, memV, Rd.V, Sk.V, aA, aA, gq, Int.reduceEq, Int.reduceLT, Int.reduceLE, implies_true, reduceCtorEq, if_true, if_false, go_sem, Nat.reduceEqDiff, Nat.reduceLT, Nat.reduceAdd, Nat.reduceSub, Nat.reduceLeDiff, List.reduceReplicate, Int.reduceToNat]
    exact ⟨rfl, aH rfl rfl⟩
end Lam
namespace Lam
open Go Go.Proofs
set_option linter.unusedVariables false
def bA.loops : Nat → LInfo
  | 4 => ⟨[5], [false], [0, 1], [], [], []⟩
  | _ => ⟨[], [], [], [], [], []⟩
def bA.L1 (c : Ctx) (J1 : List AObj → Prop) (K : AOut → List AObj → Prop) (lv : List AV) (h0 : List AObj) (n0 : Nat) (c0 : AV) (c1 : AV) : Prop :=
  ∃ I : Nat → List AV → List AObj → Prop, (∃ n, I n lv h0) ∧ ∀ n h, ∀ t5, I n [t5] h →
    runD (lenD aI h c0) h fun t13 h =>
    runD (binD T_int .lss t5 t13) h fun t14 h =>
    condW t14
    (runD (aF aI h c0 t5) h fun t19 h =>
    runD (fitD T_int (loadD h t19)) h fun t20 h =>
    runD (aF aI h c1 t5) h fun t23 h =>
    runD (fitD T_int (loadD h t23)) h fun t24 h =>
    runD (binD T_int .neq t20 t24) h fun t25 h =>
    condW t25
    (K (.ret (.bool false)) h)
    (runD (binD T_int .add t5 (.int .i64 1)) h fun t16 h =>
    (∃ m, m < n ∧ I m (AV.norms n0 h [t16]) (normH n0 h)) ∧ AV.norms n0 h [c0, c1] = [c0, c1]))
    (J1 h)
def bA.H (c : Ctx) (t0 : AV) (t1 : AV) (h : List AObj) (K : AOut → List AObj → Prop) : Prop :=
  runD (lenD aI h t0) h fun t7 h =>
  runD (lenD aI h t1) h fun t9 h =>
  runD (binD T_int .neq t7 t9) h fun t10 h =>
  condW t10
  (K (.ret (.bool false)) h)
  (joinW (fun (J1 : List AObj → Prop) =>
  promV [false] [(.int .i64 0)] h fun lv h => bA.L1 c J1 K (AV.norms h.length h lv) (normH h.length h) h.length (AV.norm h.length h t0) (AV.norm h.length h t1))
  (fun h => K (.ret (.bool true)) h))
theorem bA.eq (F : List (FuncId × aD)) (S : List (FuncId × Con)) (t0 t1 : AV) (h : List AObj) (K : AOut → List AObj → Prop) : funW (ctx F S bA.loops) Tryz.f15 [t0, t1] h K = bA.H (ctx F S bA.loops) t0 t1 h K := by kernel_rfl
theorem bA.at : Tryz.prog.funcs[15]? = some Tryz.f15 := by kernel_rfl
theorem bA.nm : (Tryz.f15.name == "runtime.NumGoroutine") = false := by kernel_rfl
theorem bA.bd : Tryz.f15.body.isNone = false := by kernel_rfl
end Lam
namespace Lam
open Go Go.Proofs
set_option linter.unusedVariables false
set_option linter.unnecessarySimpa false
set_option linter.unusedSimpArgs false
def bA.C : aD
  | [.sl _ (.ints .i64 a), .sl _ (.ints .i64 b)] => some (false, pD (roomy a.length) (.bool (decide (a = b))))
  | _ => none
set_option maxRecDepth 20000 in
theorem bA.spec : FSpec Tryz.prog 15 bA.C := by
  refine FSpec.of (ctx_ok (F := []) (S := []) (by simp) (by simp) bA.loops) bA.at bA.nm bA.bd ?_
  intro vs b S v news e hS
  unfold bA.C at e
  split at e
  rotate_left
  · cases e
  cases e
  rw [bA.eq]
  unfold bA.H
  simp (maxSteps := 4000000) only [go_sem, Nat.reduceEqDiff, Nat.reduceLT, Nat.reduceAdd, Nat.reduceSub, Nat.reduceLeDiff, List.reduceReplicate, Int.reduceToNat]
  rename_i a _ b
  unfold roomy at hS
  refine ⟨fun hne => ?_, fun heq => ?_⟩
  · have : decide (a = b) = false := by rw [decide_eq_false_iff_not]; rintro rfl; exact hne rfl
    rw [this]; exact aH rfl rfl
  rw [aA]
  unfold bA.L1
  have hlen : a.length = b.length := by omega
  refine loop1 (fun k : Nat => .int .i64 k) (fun _ => []) (fun k => a.length - k) (fun k => k ≤ a.length ∧ ∀ i, i < k → a.getD i 0 = b.getD i 0) 0 rfl rfl ⟨Nat.zero_le _, fun i hi => absurd hi (Nat.not_lt_zero i)⟩ ?_
  rintro I back k ⟨hk, hall⟩
  simp only [go_sem, Nat.reduceEqDiff, Nat.reduceLT, Nat.reduceAdd, Nat.reduceSub, Nat.reduceLeDiff, List.reduceReplicate, Int.reduceToNat]
  refine ⟨fun hlt => ⟨by omega, by omega, fun h0 => ?_, fun h0 => ?_⟩, fun hge => ?_⟩
  · have : decide (a = b) = false := by rw [decide_eq_false_iff_not]; rintro rfl; exact h0 rfl
    rw [this]; exact aH rfl rfl
  · refine back (k + 1) (by omega) (by rw [wnext (by omega)]) rfl ⟨by omega, fun i hi => ?_⟩
    by_cases e : i = k
    · subst e; exact h0
    · exact hall i (by omega)
  · rw [decide_eq_true (ext_d 0 hlen fun i hi => hall i (by omega))]; exact aH rfl rfl
end Lam
namespace Lam
open Go Go.Proofs
set_option linter.unusedVariables false
def bT.loops : Nat → LInfo
  | 1 => ⟨[], [], [], [(6, none), (5, some [10, 15]), (2, none), (5, some [17, 22]), (2, none), (5, some [24, 29]), (2, none), (5, some [31, 36])], [], []⟩
  | _ => ⟨[], [], [], [], [], []⟩
def bT.H (c : Ctx) (t0 : AV) (t1 : AV) (h : List AObj) (K : AOut → List AObj → Prop) : Prop :=
  boxW bC t0 h fun t2 h =>
  boxW bC t1 h fun t3 h =>
  runD (aB bC t2 0) h fun t5 h =>
  runD (fitD T_int (loadD h t5)) h fun t6 h =>
  runD (aB bC t3 0) h fun t7 h =>
  runD (fitD T_int (loadD h t7)) h fun t8 h =>
  runD (binD T_int .eql t6 t8) h fun t9 h =>
  joinW (fun (J1 : AV → AV → List AObj → Prop) =>
  guardW t9 true
  (runD (aB bC t2 1) h fun t11 h =>
    runD (fitD T_int (loadD h t11)) h fun t12 h =>
    runD (aB bC t3 1) h fun t13 h =>
    runD (fitD T_int (loadD h t13)) h fun t14 h =>
    runD (binD T_int .eql t12 t14) h fun t15 h =>
    J1 (.bool true) t15 h)
  (J1 (.bool false) .und h))
  (fun t10 t15 h => runD (pickD t10 t15 (.bool false)) h fun t16 h =>
  joinW (fun (J2 : AV → AV → List AObj → Prop) =>
  guardW t16 true
  (runD (aB bC t2 2) h fun t18 h =>
    runD (fitD T_int (loadD h t18)) h fun t19 h =>
    runD (aB bC t3 2) h fun t20 h =>
    runD (fitD T_int (loadD h t20)) h fun t21 h =>
    runD (binD T_int .eql t19 t21) h fun t22 h =>
    J2 (.bool true) t22 h)
  (J2 (.bool false) .und h))
  (fun t17 t22 h => runD (pickD t17 t22 (.bool false)) h fun t23 h =>
  joinW (fun (J3 : AV → AV → List AObj → Prop) =>
  guardW t23 true
  (runD (aB bC t2 4) h fun t25 h =>
    runD (fitD T_bool (loadD h t25)) h fun t26 h =>
    runD (aB bC t3 4) h fun t27 h =>
    runD (fitD T_bool (loadD h t27)) h fun t28 h =>
    runD (binD T_bool .eql t26 t28) h fun t29 h =>
    J3 (.bool true) t29 h)
  (J3 (.bool false) .und h))
  (fun t24 t29 h => runD (pickD t24 t29 (.bool false)) h fun t30 h =>
  joinW (fun (J4 : AV → AV → List AObj → Prop) =>
  guardW t30 true
  (runD (aB bC t2 3) h fun t32 h =>
    runD (fitD aI (loadD h t32)) h fun t33 h =>
    runD (aB bC t3 3) h fun t34 h =>
    runD (fitD aI (loadD h t34)) h fun t35 h =>
    callW false c (.fn (.func 15) [] []) [t33, t35] h (fun t36 h =>
    J4 (.bool true) t36 h)
    (fun v h => K (.pan v) h))
  (J4 (.bool false) .und h))
  (fun t31 t36 h => runD (pickD t31 t36 (.bool false)) h fun t37 h =>
  K (.ret t37) h))))
theorem bT.eq (F : List (FuncId × aD)) (S : List (FuncId × Con)) (t0 t1 : AV) (h : List AObj) (K : AOut → List AObj → Prop) : funW (ctx F S bT.loops) Tryz.f37 [t0, t1] h K = bT.H (ctx F S bT.loops) t0 t1 h K := by kernel_rfl
theorem bT.at : Tryz.prog.funcs[37]? = some Tryz.f37 := by kernel_rfl
theorem bT.nm : (Tryz.f37.name == "runtime.NumGoroutine") = false := by kernel_rfl
theorem bT.bd : Tryz.f37.body.isNone = false := by kernel_rfl
end Lam
namespace Lam
open Go Go.Proofs
set_option linter.unusedVariables false
set_option linter.unnecessarySimpa false
set_option linter.unusedSimpArgs false
def sameS (x y : Sk) : Bool := decide (x.block = y.block) && decide (x.turn = y.turn) && decide (x.at_ = y.at_) && (x.over == y.over) && decide (x.refs = y.refs)
theorem aAx (x : Sk) : sameS x x = true := by simp [sameS]
def bT.C : aD
  | [.agg [.int .i64 a, .int .i64 b, .int .i64 c, .sl _ (.ints .i64 d), .bool e], .agg [.int .i64 f, .int .i64 g, .int .i64 i, .sl _ (.ints .i64 j), .bool k]] => some (false, pD (roomy d.length) (.bool (sameS ⟨a, b, c, d, e⟩ ⟨f, g, i, j, k⟩)))
  | _ => none
set_option maxRecDepth 20000 in
theorem bT.spec : FSpec Tryz.prog 37 bT.C := by
  refine FSpec.of (ctx_ok (F := [(15, bA.C)]) (S := []) (by simpa using bA.spec) (by simp) bT.loops) bT.at bT.nm bT.bd ?_
  intro vs b S v news e hS
  unfold bT.C at e
  split at e
  rotate_left
  · cases e
  cases e
  rw [bT.eq]
  unfold bT.H
  simp (maxSteps := 4000000) only [go_sem, Nat.reduceEqDiff, Nat.reduceLT, Nat.reduceAdd, Nat.reduceSub, Nat.reduceLeDiff, List.reduceReplicate, Int.reduceToNat, bA.C]
  exact ⟨fun _ => hS, aH rfl rfl⟩
end Lam
namespace Lam
open Go Go.Proofs
set_option linter.unusedVariables false
def bS.loops : Nat → LInfo
  | 1 => ⟨[], [], [], [(6, none), (5, some [11, 16]), (2, none), (5, some [18, 23]), (2, none), (5, some [25, 30]), (2, none), (5, some [32, 37]), (2, none), (5, some [39, 44])], [], []⟩
  | 2 => ⟨[], [], [], [(2, none), (5, some [47, 52])], [], []⟩
  | _ => ⟨[], [], [], [], [], []⟩
def bS.H (c : Ctx) (t0 : AV) (t1 : AV) (h : List AObj) (K : AOut → List AObj → Prop) : Prop :=
  boxW T_api_Reader t0 h fun t2 h =>
  boxW T_api_Reader t1 h fun t3 h =>
  runD (aB T_api_Reader t2 0) h fun t6 h =>
  runD (fitD bN (loadD h t6)) h fun t7 h =>
  runD (aB T_api_Reader t3 0) h fun t8 h =>
  runD (fitD bN (loadD h t8)) h fun t9 h =>
  runD (binD bN .eql t7 t9) h fun t10 h =>
  joinW (fun (J1 : AV → AV → List AObj → Prop) =>
  guardW t10 true
  (runD (aB T_api_Reader t2 1) h fun t12 h =>
    runD (fitD T_int (loadD h t12)) h fun t13 h =>
    runD (aB T_api_Reader t3 1) h fun t14 h =>
    runD (fitD T_int (loadD h t14)) h fun t15 h =>
    runD (binD T_int .eql t13 t15) h fun t16 h =>
    J1 (.bool true) t16 h)
  (J1 (.bool false) .und h))
  (fun t11 t16 h => runD (pickD t11 t16 (.bool false)) h fun t17 h =>
  joinW (fun (J2 : AV → AV → List AObj → Prop) =>
  guardW t17 true
  (runD (aB T_api_Reader t2 2) h fun t19 h =>
    runD (fitD T_int (loadD h t19)) h fun t20 h =>
    runD (aB T_api_Reader t3 2) h fun t21 h =>
    runD (fitD T_int (loadD h t21)) h fun t22 h =>
    runD (binD T_int .eql t20 t22) h fun t23 h =>
    J2 (.bool true) t23 h)
  (J2 (.bool false) .und h))
  (fun t18 t23 h => runD (pickD t18 t23 (.bool false)) h fun t24 h =>
  joinW (fun (J3 : AV → AV → List AObj → Prop) =>
  guardW t24 true
  (runD (aB T_api_Reader t2 3) h fun t26 h =>
    runD (fitD T_int (loadD h t26)) h fun t27 h =>
    runD (aB T_api_Reader t3 3) h fun t28 h =>
    runD (fitD T_int (loadD h t28)) h fun t29 h =>
    runD (binD T_int .eql t27 t29) h fun t30 h =>
    J3 (.bool true) t30 h)
  (J3 (.bool false) .und h))
  (fun t25 t30 h => runD (pickD t25 t30 (.bool false)) h fun t31 h =>
  joinW (fun (J4 : AV → AV → List AObj → Prop) =>
  guardW t31 true
  (runD (aB T_api_Reader t2 5) h fun t33 h =>
    runD (fitD bN (loadD h t33)) h fun t34 h =>
    runD (aB T_api_Reader t3 5) h fun t35 h =>
    runD (fitD bN (loadD h t35)) h fun t36 h =>
    runD (binD bN .eql t34 t36) h fun t37 h =>
    J4 (.bool true) t37 h)
  (J4 (.bool false) .und h))
  (fun t32 t37 h => runD (pickD t32 t37 (.bool false)) h fun t38 h =>
  joinW (fun (J5 : AV → AV → List AObj → Prop) =>
  guardW t38 true
  (runD (aB T_api_Reader t2 6) h fun t40 h =>
    runD (fitD T_bool (loadD h t40)) h fun t41 h =>
    runD (aB T_api_Reader t3 6) h fun t42 h =>
    runD (fitD T_bool (loadD h t42)) h fun t43 h =>
    runD (binD T_bool .eql t41 t43) h fun t44 h =>
    J5 (.bool true) t44 h)
  (J5 (.bool false) .und h))
  (fun t39 t44 h => runD (pickD t39 t44 (.bool false)) h fun t45 h =>
  joinW (fun (J6 : AV → AV → List AObj → Prop) =>
  guardW t45 true
  (runD (aB T_api_Reader t2 4) h fun t48 h =>
    runD (fitD bC (loadD h t48)) h fun t49 h =>
    runD (aB T_api_Reader t3 4) h fun t50 h =>
    runD (fitD bC (loadD h t50)) h fun t51 h =>
    callW false c (.fn (.func 37) [] []) [t49, t51] h (fun t52 h =>
    J6 (.bool true) t52 h)
    (fun v h => K (.pan v) h))
  (J6 (.bool false) .und h))
  (fun t47 t52 h => runD (pickD t47 t52 (.bool false)) h fun t53 h =>
  K (.ret t53) h))))))
theorem bS.eq (F : List (FuncId × aD)) (S : List (FuncId × Con)) (t0 t1 : AV) (h : List AObj) (K : AOut → List AObj → Prop) : funW (ctx F S bS.loops) Tryz.f16 [t0, t1] h K = bS.H (ctx F S bS.loops) t0 t1 h K := by kernel_rfl
theorem bS.at : Tryz.prog.funcs[16]? = some Tryz.f16 := by kernel_rfl
theorem bS.nm : (Tryz.f16.name == "runtime.NumGoroutine") = false := by kernel_rfl
theorem bS.bd : Tryz.f16.body.isNone = false := by kernel_rfl
end Lam
namespace Lam
set_option maxRecDepth 20000
open Go Go.Proofs
set_option linter.unusedVariables false
set_option linter.unnecessarySimpa false
set_option linter.unusedSimpArgs false
def eR.C : aD
  | [.sl _ (.ints .i64 w), .str k] => some (false, pD (roomy w.length) (iW w k))
  | _ => none
set_option maxRecDepth 20000 in
theorem eR.spec : FSpec Tryz.prog 27 eR.C := by
  refine FSpec.of (ctx_ok (F := [(53, eT.C), (38, eB.C)]) (S := []) (by simpa using ⟨eT.spec, eB.spec⟩) (by simp) eR.loops) eR.at eR.nm eR.bd ?_
  intro vs b S v news e hS
  unfold eR.C at e
  split at e
  rotate_left
  · cases e
  cases e
  rw [eR.eq]
  unfold eR.H
  simp (maxSteps := 4000000) only [go_sem, Nat.reduceEqDiff, Nat.reduceLT, Nat.reduceAdd, Nat.reduceSub, Nat.reduceLeDiff, List.reduceReplicate, Int.reduceToNat, eT.C, eB.C]
  rename_i w k
  unfold iW rootI
  by_cases hk : k ≠ [] ∧ k.length ≤ 21
  · have h1 : (decide (k ≠ []) && decide ((k.length : Int) ≤ 21)) = true := by
      simp only [Bool.and_eq_true, decide_eq_true_eq]; exact ⟨hk.1, by omega⟩
    rw [if_pos hk]
    cases hb : readB w with
    | true =>
      have hv : sreadV w = .tup [.int .i64 (w.getD 1 0), .int .i64 (w.getD 3 0), .int .i64 0] := by unfold sreadV; rw [hb]; rfl
      simp only [h1, hv, Rd.V, Sk.V, skZ, if_true, decide_true, decide_false, aA, aA, gq, Int.reduceEq, Int.reduceLT, Int.reduceLE, implies_true, reduceCtorEq, if_true, if_false, go_sem, Nat.reduceEqDiff, Nat.reduceLT, Nat.reduceAdd, Nat.reduceSub, Nat.reduceLeDiff, List.reduceReplicate, Int.reduceToNat]
      exact ⟨hS, aH rfl rfl⟩
    | false =>
      have hv : sreadV w = .tup [.int .i64 0, .int .i64 0, .int .i64 80] := by unfold sreadV; rw [hb]; rfl
      simp only [h1, hv, Rd.V, Sk.V, skZ, if_false, decide_true, decide_false, aA, aA, gq, Int.reduceEq, Int.reduceLT, Int.reduceLE, implies_true, reduceCtorEq, if_true, if_false, go_sem, Nat.reduceEqDiff, Nat.reduceLT, Nat.reduceAdd, Nat.reduceSub, Nat.reduceLeDiff, List.reduceReplicate, Int.reduceToNat]
      exact ⟨hS, aH rfl rfl⟩
  · have h1 : (decide (k ≠ []) && decide ((k.length : Int) ≤ 21)) = false := by
      rw [Bool.eq_false_iff]
      simp only [ne_eq, Bool.and_eq_true, decide_eq_true_eq]
      exact fun h => hk ⟨h.1, by omega⟩
    rw [if_neg hk]
    simp only [h1, rdZ, Rd.V, Sk.V, skZ, aA, aA, gq, Int.reduceEq, Int.reduceLT, Int.reduceLE, implies_true, reduceCtorEq, if_true, if_false, go_sem, Nat.reduceEqDiff, Nat.reduceLT, Nat.reduceAdd, Nat.reduceSub, Nat.reduceLeDiff, List.reduceReplicate, Int.reduceToNat]
    exact aH rfl rfl
def sameRd (x y : Rd) : Bool := decide (x.key = y.key) && decide (x.phase = y.phase) && decide (x.block = y.block) && decide (x.to_ = y.to_) && decide (x.val = y.val) && (x.found == y.found) && sameS x.seek y.seek
theorem zD (x : Rd) : sameRd x x = true := by simp [sameRd, aAx]
def bS.C : aD
  | [.agg [.str a, .int .i64 b, .int .i64 c, .int .i64 d, .agg [.int .i64 e1, .int .i64 e2, .int .i64 e3, .sl _ (.ints .i64 e4), .bool e5], .str f, .bool g], .agg [.str a', .int .i64 b', .int .i64 c', .int .i64 d', .agg [.int .i64 f1, .int .i64 f2, .int .i64 f3, .sl _ (.ints .i64 f4), .bool f5], .str f', .bool g']] => some (false, pD (roomy e4.length) (.bool (sameRd ⟨a, b, c, d, ⟨e1, e2, e3, e4, e5⟩, f, g⟩ ⟨a', b', c', d', ⟨f1, f2, f3, f4, f5⟩, f', g'⟩)))
  | _ => none
set_option maxRecDepth 20000 in
theorem bS.spec : FSpec Tryz.prog 16 bS.C := by
  refine FSpec.of (ctx_ok (F := [(37, bT.C)]) (S := []) (by simpa using bT.spec) (by simp) bS.loops) bS.at bS.nm bS.bd ?_
  intro vs b S v news e hS
  unfold bS.C at e
  split at e
  rotate_left
  · cases e
  cases e
  rw [bS.eq]
  unfold bS.H
  simp (maxSteps := 4000000) only [go_sem, Nat.reduceEqDiff, Nat.reduceLT, Nat.reduceAdd, Nat.reduceSub, Nat.reduceLeDiff, List.reduceReplicate, Int.reduceToNat, bT.C]
  exact ⟨fun _ => hS, aH rfl rfl⟩
theorem aBs {m : Mm} (h : m.ok) (line : Int) : (doM m ⟨2, line, 0⟩).ok ∧ (doM m ⟨2, line, 0⟩).vol = m.vol ∧ (doM m ⟨2, line, 0⟩).per.length = m.per.length ∧ (doM m ⟨2, line, 0⟩).pend.Sublist m.pend ∧ ∀ p ∈ (doM m ⟨2, line, 0⟩).pend, lineOf p.at_ ≠ line := by
  unfold doM
  by_cases hs : soundB m [⟨2, line, 0⟩] = true
  · rw [if_pos hs]
    have e : runS m [⟨2, line, 0⟩] = persist m line := rfl
    rw [e]
    exact ⟨sU h line, rfl, by rw [← jN m ⟨2, line, 0⟩]; rfl, qE m line, wZ⟩
  · rw [if_neg hs]
    refine ⟨h, rfl, rfl, List.Sublist.refl _, fun p hp he => hs ?_⟩
    obtain ⟨h1, h2, h3, h4, h5, h6⟩ := h
    have hr := h4 p hp
    refine uZ.2 ⟨⟨h1, h2, h3, h4, h5, h6⟩, fun x hx => ?_⟩
    rw [List.mem_singleton] at hx
    subst hx
    have hl : line = p.at_ / 8 := by
      rw [← he]; unfold lineOf
      rw [Int.tdiv_eq_ediv_of_nonneg hr.1, w64 (by omega) (by omega)]
    refine .inr ⟨rfl, ?_, ?_, rfl⟩
    · show 0 ≤ line
      omega
    · show line < ((m.vol.length / 8 : Nat) : Int)
      omega
theorem qK {m : Mm} (h : m.ok) (b line : Int) : (keepM m b line).ok ∧ (keepM m b line).vol = m.vol ∧ (keepM m b line).per.length = m.per.length ∧ (keepM m b line).pend.Sublist m.pend ∧ (0 ≤ b → b < 256 → ∀ p ∈ (keepM m b line).pend, lineOf p.at_ ≠ 2 * b + line) := by
  unfold keepM
  by_cases hb : 0 ≤ b ∧ b < 256
  · rw [if_pos hb]
    obtain ⟨h1, h2, h3, h4, h5⟩ := aBs h (2 * b + line)
    exact ⟨h1, h2, h3, h4, fun _ _ => h5⟩
  · rw [if_neg hb]
    exact ⟨h, rfl, rfl, List.Sublist.refl _, fun h0 h1 => absurd ⟨h0, h1⟩ hb⟩
theorem vB {w : List Int} (b line : Int) : keepM ⟨w, w, []⟩ b line = ⟨w, w, []⟩ := by
  unfold keepM
  split
  · unfold doM
    split
    · rfl
    · rfl
  · rfl
end Lam
namespace Lam
set_option maxRecDepth 20000
open Go Go.Proofs
set_option linter.unusedVariables false
set_option linter.unnecessarySimpa false
set_option linter.unusedSimpArgs false
def newAr (n : Nat) : List Int := superW n 1 ++ (wordsNd zeroNd ++ List.replicate (16 * n - 32) 0)
def newArV (n : Int) : AV := if (decide (n < 2) || decide (256 < n)) = true then .tup [.sl false (.ints .i64 []), .int .i64 1] else .tup [.sl false (.ints .i64 (newAr n.toNat)), .int .i64 0]
def fF.C : aD
  | [.int .i64 n] => some (false, pD True (newArV n))
  | _ => none
set_option maxRecDepth 20000 in
theorem fF.spec : FSpec Tryz.prog 32 fF.C := by
  refine FSpec.of (ctx_ok (F := [(56, eI.C), (57, dY.C)]) (S := []) (by simpa using ⟨eI.spec, dY.spec⟩) (by simp) fF.loops) fF.at fF.nm fF.bd ?_
  intro vs b S v news e hS
  unfold fF.C at e
  split at e
  rotate_left
  · cases e
  cases e
  rw [fF.eq]
  unfold fF.H
  simp (maxSteps := 4000000) only [go_sem, Nat.reduceEqDiff, Nat.reduceLT, Nat.reduceAdd, Nat.reduceSub, Nat.reduceLeDiff, List.reduceReplicate, Int.reduceToNat, eI.C, dY.C]
  rename_i n
  refine ⟨fun h => ?_, fun h => ?_⟩
  · have : newArV n = .tup [.sl false (.ints .i64 []), .int .i64 1] := by unfold newArV; rw [if_pos h]
    rw [this]; refine aH ?_ rfl; simp only [go_sem, Nat.reduceEqDiff, Nat.reduceLT, Nat.reduceAdd, Nat.reduceSub, Nat.reduceLeDiff, List.reduceReplicate, Int.reduceToNat]
  · have hv : newArV n = .tup [.sl false (.ints .i64 (newAr n.toNat)), .int .i64 0] := by unfold newArV; rw [if_neg (by rw [h]; decide)]
    rw [hv]
    clear hv
    simp only [Bool.or_eq_false_iff, decide_eq_false_iff_not] at h
    obtain ⟨k, rfl⟩ := Int.eq_ofNat_of_zero_le (show 0 ≤ n by omega)
    have hmay : mayB (k : Int) 1 = true := by unfold mayB; simp only [Bool.and_eq_true, decide_eq_true_eq]; omega
    have e1 : IntKind.i64.wrap (16 * (k : Int)) = ((16 * k : Nat) : Int) := by rw [w64 (by omega) (by omega)]; omega
    have hz : wordsV ⟨0, 0, 0, 0, []⟩ = .tup [.sl false (.ints .i64 (wordsNd zeroNd)), .int .i64 0] := by
      unfold wordsV; rw [if_pos (by decide)]; rfl
    have hsl : (superW (k : Int) 1).length = 16 := rfl
    have hzl : (wordsNd zeroNd).length = 16 := rfl
    have hrl : (List.replicate (16 * k) (0 : Int)).length = 16 * k := List.length_replicate
    simp only [hmay, if_true, e1, hz, Int.toNat_natCast, hsl, hzl, aA, gq, Int.reduceEq, Int.reduceLT, Int.reduceLE, implies_true, reduceCtorEq, if_true, if_false, go_sem, Nat.reduceEqDiff, Nat.reduceLT, Nat.reduceAdd, Nat.reduceSub, Nat.reduceLeDiff, List.reduceReplicate, Int.reduceToNat]
    refine ⟨⟨by omega, by omega, by unfold roomy; omega⟩, by omega, ?_⟩
    have m1 : min (16 * k) 16 = 16 := by omega
    have m2 : min (16 * k - 16) 16 = 16 := by omega
    have t1 : (superW (k : Int) 1).take (16 * k) = superW (k : Int) 1 := List.take_of_length_le (by rw [hsl]; omega)
    have t2 : (wordsNd zeroNd).take (16 * k - 16) = wordsNd zeroNd := List.take_of_length_le (by rw [hzl]; omega)
    refine aH ?_ rfl
    simp only [m1, m2, t1, t2, go_sem, Nat.reduceEqDiff, Nat.reduceLT, Nat.reduceAdd, Nat.reduceSub, Nat.reduceLeDiff, List.reduceReplicate, Int.reduceToNat]
    have hR : List.take (16 * k - 16) (List.drop 16 (List.replicate (16 * k) (0 : Int))) = List.replicate (16 * k - 16) 0 := by simp
    rw [hR]
    have l1 : (superW (k : Int) 1 ++ List.replicate (16 * k - 16) (0 : Int)).length = 16 * k := by rw [List.length_append, hsl, List.length_replicate]; omega
    have l2 : (superW (k : Int) 1 ++ List.replicate (16 * k - 16) (0 : Int)).take 16 = superW (k : Int) 1 := List.take_left' hsl
    have l3 : (superW (k : Int) 1 ++ List.replicate (16 * k - 16) (0 : Int)).drop 32 = List.replicate (16 * k - 32) 0 := by
      rw [List.drop_append, hsl, List.drop_of_length_le (by rw [hsl]; omega), List.drop_replicate, List.nil_append]
      rw [show 16 * k - 16 - (32 - 16) = 16 * k - 32 by omega]
    rw [l1, l2, l3]
    have l4 : (List.replicate (16 * k - 32) (0 : Int)).take (16 * k - 32) = List.replicate (16 * k - 32) 0 := by simp
    rw [l4]
    have l5 : (superW (k : Int) 1 ++ (wordsNd zeroNd ++ List.replicate (16 * k - 32) (0 : Int))).take (16 * k) = newAr k := by
      rw [List.take_of_length_le]
      · rfl
      · simp only [List.length_append, hsl, hzl, List.length_replicate]; omega
    rw [l5]
def A4 : List Int := newAr 4
theorem xO : smallW A4 := by
  refine ⟨by decide +kernel, ?_⟩
  have : A4.all (fun x => decide (x < 9223372036854775808)) = true := by decide +kernel
  intro x hx
  exact of_decide_eq_true (List.all_eq_true.1 this x hx)
end Lam
namespace Lam
open Go Go.Proofs
set_option linter.unusedVariables false
def bM.loops : Nat → LInfo
  | 7 => ⟨[9, 10], [false, false], [3, 5, 6, 8], [(3, none), (3, some [32, 35])], [], []⟩
  | 11 => ⟨[], [], [], [(3, none), (2, some [49, 51]), (2, none), (3, some [53, 56]), (2, none), (3, some [58, 61]), (2, none), (3, some [63, 66]), (2, none), (2, some [68, 70])], [], []⟩
  | _ => ⟨[], [], [], [], [], []⟩
def bM.L1 (c : Ctx) (J1 : AV → AV → AV → AV → List AObj → Prop) (K : AOut → List AObj → Prop) (lv : List AV) (h0 : List AObj) (n0 : Nat) (c3 : AV) (c5 : AV) (c6 : AV) (c8 : AV) : Prop :=
  ∃ I : Nat → List AV → List AObj → Prop, (∃ n, I n lv h0) ∧ ∀ n h, ∀ t9, ∀ t10, I n [t9, t10] h →
    runD (binD T_int .lss t10 (.int .i64 40)) h fun t31 h =>
    joinW (fun (J2 : AV → AV → List AObj → Prop) =>
    guardW t31 true
    (runD (aB T_api_Reader c5 1) h fun t33 h =>
      runD (fitD T_int (loadD h t33)) h fun t34 h =>
      runD (binD T_int .neq t34 (.int .i64 8)) h fun t35 h =>
      J2 (.bool true) t35 h)
    (J2 (.bool false) .und h))
    (fun t32 t35 h => runD (pickD t32 t35 (.bool false)) h fun t36 h =>
    condW t36
    (runD (fitD T_api_Mem (loadD h c3)) h fun t40 h =>
    runD (fitD T_api_Reader (loadD h c5)) h fun t41 h =>
    callW false c (.fn (.func 14) [] []) [t40, t41] h (fun t42 h =>
    runD (bH t42 0) h fun t43 h =>
    runD (bH t42 1) h fun t44 h =>
    runH (storeH T_api_Mem h c3 t43) h fun _ h =>
    runH (storeH T_api_Reader h c5 t44) h fun _ h =>
    runD (binD T_int .add t9 (.int .i64 1)) h fun t46 h =>
    runD (binD T_int .add t10 (.int .i64 1)) h fun t38 h =>
    (∃ m, m < n ∧ I m (AV.norms n0 h [t46, t38]) (normH n0 h)) ∧ AV.norms n0 h [c3, c5, c6, c8] = [c3, c5, c6, c8])
    (fun v h => K (.pan v) h))
    (J1 c5 c6 c8 t9 h))
def bM.H (c : Ctx) (h : List AObj) (K : AOut → List AObj → Prop) : Prop :=
  callW false c (.fn (.func 32) [] []) [(.int .i64 4)] h (fun t12 h =>
  runD (bH t12 0) h fun t13 h =>
  runD (bH t12 1) h fun t14 h =>
  callW false c (.fn (.func 28) [] []) [t13] h (fun t17 h =>
  runD (bH t17 0) h fun t18 h =>
  runD (bH t17 1) h fun t19 h =>
  allocW T_api_Mem h fun t3 h =>
  runH (storeH T_api_Mem h t3 t18) h fun _ h =>
  callW false c (.fn (.func 27) [] []) [t13, (.str [97])] h (fun t22 h =>
  runD (bH t22 0) h fun t23 h =>
  runD (bH t22 1) h fun t24 h =>
  allocW T_api_Reader h fun t5 h =>
  runH (storeH T_api_Reader h t5 t23) h fun _ h =>
  callW false c (.fn (.func 27) [] []) [t13, (.str [])] h (fun t27 h =>
  runD (bH t27 0) h fun t28 h =>
  runD (bH t27 1) h fun t29 h =>
  allocW T_api_Reader h fun t7 h =>
  runH (storeH T_api_Reader h t7 t28) h fun _ h =>
  joinW (fun (J1 : AV → AV → AV → AV → List AObj → Prop) =>
  promV [false, false] [(.int .i64 0), (.int .i64 0)] h fun lv h => bM.L1 c J1 K (AV.norms h.length h lv) (normH h.length h) h.length (AV.norm h.length h t3) (AV.norm h.length h t5) (AV.norm h.length h t24) (AV.norm h.length h t29))
  (fun t5 t6 t8 t9 h => runD (binD dA .eql t6 (.int .i64 0)) h fun t48 h =>
  joinW (fun (J3 : AV → AV → List AObj → Prop) =>
  guardW t48 true
  (runD (binD dA .eql t8 (.int .i64 20)) h fun t51 h =>
    J3 (.bool true) t51 h)
  (J3 (.bool false) .und h))
  (fun t49 t51 h => runD (pickD t49 t51 (.bool false)) h fun t52 h =>
  joinW (fun (J4 : AV → AV → List AObj → Prop) =>
  guardW t52 true
  (runD (aB T_api_Reader t5 1) h fun t54 h =>
    runD (fitD T_int (loadD h t54)) h fun t55 h =>
    runD (binD T_int .eql t55 (.int .i64 8)) h fun t56 h =>
    J4 (.bool true) t56 h)
  (J4 (.bool false) .und h))
  (fun t53 t56 h => runD (pickD t53 t56 (.bool false)) h fun t57 h =>
  joinW (fun (J5 : AV → AV → List AObj → Prop) =>
  guardW t57 true
  (runD (aB T_api_Reader t5 6) h fun t59 h =>
    runD (fitD T_bool (loadD h t59)) h fun t60 h =>
    runD (unD .not t60) h fun t61 h =>
    J5 (.bool true) t61 h)
  (J5 (.bool false) .und h))
  (fun t58 t61 h => runD (pickD t58 t61 (.bool false)) h fun t62 h =>
  joinW (fun (J6 : AV → AV → List AObj → Prop) =>
  guardW t62 true
  (runD (aB T_api_Reader t5 2) h fun t64 h =>
    runD (fitD T_int (loadD h t64)) h fun t65 h =>
    runD (binD T_int .eql t65 (.int .i64 1)) h fun t66 h =>
    J6 (.bool true) t66 h)
  (J6 (.bool false) .und h))
  (fun t63 t66 h => runD (pickD t63 t66 (.bool false)) h fun t67 h =>
  joinW (fun (J7 : AV → AV → List AObj → Prop) =>
  guardW t67 true
  (runD (binD T_int .eql t9 (.int .i64 6)) h fun t70 h =>
    J7 (.bool true) t70 h)
  (J7 (.bool false) .und h))
  (fun t68 t70 h => runD (pickD t68 t70 (.bool false)) h fun t71 h =>
  runD (pickD t71 (.bool true) (.bool false)) h fun t73 h =>
  K (.ret t73) h)))))))
  (fun v h => K (.pan v) h))
  (fun v h => K (.pan v) h))
  (fun v h => K (.pan v) h))
  (fun v h => K (.pan v) h)
theorem bM.eq (F : List (FuncId × aD)) (S : List (FuncId × Con)) (h : List AObj) (K : AOut → List AObj → Prop) : funW (ctx F S bM.loops) Tryz.f11 [] h K = bM.H (ctx F S bM.loops)  h K := by kernel_rfl
theorem bM.at : Tryz.prog.funcs[11]? = some Tryz.f11 := by kernel_rfl
theorem bM.nm : (Tryz.f11.name == "runtime.NumGoroutine") = false := by kernel_rfl
theorem bM.bd : Tryz.f11.body.isNone = false := by kernel_rfl
end Lam
namespace Lam
open Go Go.Proofs
set_option linter.unusedVariables false
def bQ.loops : Nat → LInfo
  | 1 => ⟨[], [], [], [(5, none), (4, some [7, 11]), (2, none), (4, some [13, 17])], [], []⟩
  | _ => ⟨[], [], [], [], [], []⟩
def bQ.H (c : Ctx) (t0 : AV) (h : List AObj) (K : AOut → List AObj → Prop) : Prop :=
  boxW T_api_Mem t0 h fun t1 h =>
  runD (aB T_api_Mem t1 0) h fun t3 h =>
  runD (fitD aI (loadD h t3)) h fun t4 h =>
  runD (lenD aI h t4) h fun t5 h =>
  runD (binD T_int .leq t5 (.int .i64 1000)) h fun t6 h =>
  joinW (fun (J1 : AV → AV → List AObj → Prop) =>
  guardW t6 true
  (runD (aB T_api_Mem t1 1) h fun t8 h =>
    runD (fitD aI (loadD h t8)) h fun t9 h =>
    runD (lenD aI h t9) h fun t10 h =>
    runD (binD T_int .leq t10 (.int .i64 1000)) h fun t11 h =>
    J1 (.bool true) t11 h)
  (J1 (.bool false) .und h))
  (fun t7 t11 h => runD (pickD t7 t11 (.bool false)) h fun t12 h =>
  joinW (fun (J2 : AV → AV → List AObj → Prop) =>
  guardW t12 true
  (runD (aB T_api_Mem t1 2) h fun t14 h =>
    runD (fitD bG (loadD h t14)) h fun t15 h =>
    runD (lenD bG h t15) h fun t16 h =>
    runD (binD T_int .leq t16 (.int .i64 100)) h fun t17 h =>
    J2 (.bool true) t17 h)
  (J2 (.bool false) .und h))
  (fun t13 t17 h => runD (pickD t13 t17 (.bool false)) h fun t18 h =>
  K (.ret t18) h))
theorem bQ.eq (F : List (FuncId × aD)) (S : List (FuncId × Con)) (t0 : AV) (h : List AObj) (K : AOut → List AObj → Prop) : funW (ctx F S bQ.loops) Tryz.f12 [t0] h K = bQ.H (ctx F S bQ.loops) t0 h K := by kernel_rfl
theorem bQ.at : Tryz.prog.funcs[12]? = some Tryz.f12 := by kernel_rfl
theorem bQ.nm : (Tryz.f12.name == "runtime.NumGoroutine") = false := by kernel_rfl
theorem bQ.bd : Tryz.f12.body.isNone = false := by kernel_rfl
end Lam
namespace Lam
set_option maxRecDepth 20000
open Go Go.Proofs
set_option linter.unusedVariables false
set_option linter.unnecessarySimpa false
set_option linter.unusedSimpArgs false
theorem aAy (w : List Int) (s : Sk) : (stepS w s).refs.length ≤ s.refs.length + 1 := by
  unfold stepS
  split
  · omega
  · unfold goOn
    simp only
    split
    · simp
    · omega
theorem zE {w : List Int} {b : Int} {s : Sk} (h : beginO w b = some s) : s.refs = [] := by
  unfold beginO at h
  split at h
  · split at h
    · cases h
    · cases h; rfl
  · cases h
theorem zF (w : List Int) (r : Rd) : (rFence w r).seek = r.seek := by
  have hf : (rFound w r).seek = r.seek := by unfold rFound; split <;> rfl
  unfold rFence
  split
  · rfl
  · split
    · exact hf
    · split
      · rfl
      · exact hf
theorem aAz (m : Mm) (r : Rd) : (stepR m r).2.seek.refs.length ≤ r.seek.refs.length + 1 := by
  unfold stepR
  split
  · simp only; unfold rDown
    split
    · simp only; omega
    · split
      · simp only; omega
      · split <;> (simp only; omega)
  split
  · simp only; unfold rLook
    split
    · simp only; omega
    · rename_i x hx
      simp only [zE hx, List.length_nil]; omega
  split
  · exact aAy m.vol r.seek
  split
  · simp only; rw [zF]; omega
  split
  · simp only; omega
  split
  · simp only; omega
  split
  · simp only; omega
  · simp only; omega
theorem zG {m : Mm} (r : Rd) (h : m.ok) : (stepR m r).1.ok ∧ (stepR m r).1.vol = m.vol ∧ (stepR m r).1.per.length = m.per.length ∧ (stepR m r).1.pend.Sublist m.pend ∧ (r.phase = 8 → stepR m r = (m, r)) ∧
    (0 ≤ r.block → r.block < 256 → ((r.phase = 6 ∨ r.phase = 5) → ∀ p ∈ (stepR m r).1.pend, lineOf p.at_ ≠ 2 * r.block) ∧ (r.phase = 7 → ∀ p ∈ (stepR m r).1.pend, lineOf p.at_ ≠ 2 * r.block + 1)) := by
  have same : ∀ r', m.ok ∧ ((m, r') : Mm × Rd).1.vol = m.vol ∧ ((m, r') : Mm × Rd).1.per.length = m.per.length ∧ ((m, r') : Mm × Rd).1.pend.Sublist m.pend := fun r' => ⟨h, rfl, rfl, List.Sublist.refl _⟩
  obtain ⟨k1, k2, k3, k4, k5⟩ := qK h r.block 0
  obtain ⟨l1, l2, l3, l4, l5⟩ := qK h r.block 1
  unfold stepR
  split
  · exact ⟨h, rfl, rfl, List.Sublist.refl _, fun h => by omega, fun _ _ => ⟨fun h => by omega, fun h => by omega⟩⟩
  split
  · exact ⟨h, rfl, rfl, List.Sublist.refl _, fun h => by omega, fun _ _ => ⟨fun h => by omega, fun h => by omega⟩⟩
  split
  · exact ⟨h, rfl, rfl, List.Sublist.refl _, fun h => by omega, fun _ _ => ⟨fun h => by omega, fun h => by omega⟩⟩
  split
  · exact ⟨h, rfl, rfl, List.Sublist.refl _, fun h => by omega, fun _ _ => ⟨fun h => by omega, fun h => by omega⟩⟩
  split
  · exact ⟨k1, k2, k3, k4, fun h => by omega, fun h0 h1 => ⟨fun _ p hp => by have := k5 h0 h1 p hp; omega, fun h => by omega⟩⟩
  split
  · exact ⟨k1, k2, k3, k4, fun h => by omega, fun h0 h1 => ⟨fun _ p hp => by have := k5 h0 h1 p hp; omega, fun h => by omega⟩⟩
  split
  · exact ⟨l1, l2, l3, l4, fun h => by omega, fun h0 h1 => ⟨fun h => by omega, fun _ p hp => l5 h0 h1 p hp⟩⟩
  · exact ⟨h, rfl, rfl, List.Sublist.refl _, fun _ => rfl, fun _ _ => ⟨fun h => by omega, fun h => by omega⟩⟩
/-- a new arena's reader, step by step -/
def M16 : Mm := ⟨A4, A4, []⟩
def R16 : Nat → Rd
  | 0 => ⟨[97], 1, 1, 0, skZ, [], false⟩
  | 1 => ⟨[97], 2, 1, 0, skZ, [], false⟩
  | 2 => ⟨[97], 3, 1, 0, ⟨1, 0, 0, [], false⟩, [], false⟩
  | 3 => ⟨[97], 4, 1, 0, ⟨1, 0, 0, [], true⟩, [], false⟩
  | 4 => ⟨[97], 6, 1, 0, ⟨1, 0, 0, [], true⟩, [], false⟩
  | 5 => ⟨[97], 7, 1, 0, ⟨1, 0, 0, [], true⟩, [], false⟩
  | _ => ⟨[97], 8, 1, 0, ⟨1, 0, 0, [], true⟩, [], false⟩
theorem A4_node : nodeO A4 1 = some zeroNd := by decide +kernel
theorem aCm : beginO A4 1 = some ⟨1, 0, 0, [], false⟩ := by
  unfold beginO
  rw [A4_node]; rfl
theorem aCn : ∀ k, k < 6 → stepR M16 (R16 k) = (M16, R16 (k + 1)) ∧ (R16 k).phase ≠ 8
  | 0, _ => ⟨by
      show ((M16, rDown A4 (R16 0)) : Mm × Rd) = _
      unfold rDown; rw [show (R16 0).block = 1 from rfl, A4_node]; rfl, by decide⟩
  | 1, _ => ⟨by
      show ((M16, rLook A4 (R16 1)) : Mm × Rd) = _
      unfold rLook; rw [show (R16 1).block = 1 from rfl, aCm]; rfl, by decide⟩
  | 2, _ => ⟨by
      show ((M16, rSlots A4 (R16 2)) : Mm × Rd) = _
      rfl, by decide⟩
  | 3, _ => ⟨by
      show ((M16, rFence A4 (R16 3)) : Mm × Rd) = _
      unfold rFence
      rw [show holdsB A4 (R16 3).seek.block (R16 3).seek.turn = true by
        unfold holdsB
        rw [show (R16 3).seek.block = 1 from rfl, A4_node]; rfl]
      rw [if_neg (by decide), show rightO A4 (R16 3).block = none by
        unfold rightO
        rw [show (R16 3).block = 1 from rfl, A4_node]; rfl]
      rfl, by decide⟩
  | 4, _ => ⟨by
      show ((keepM M16 1 0, (⟨[97], 7, 1, 0, ⟨1, 0, 0, [], true⟩, [], false⟩ : Rd)) : Mm × Rd) = _
      unfold M16
      rw [vB]; rfl, by decide⟩
  | 5, _ => ⟨by
      show ((keepM M16 1 1, (⟨[97], 8, 1, 0, ⟨1, 0, 0, [], true⟩, [], false⟩ : Rd)) : Mm × Rd) = _
      unfold M16
      rw [vB]; rfl, by decide⟩
  | k + 6, h => by omega
theorem aCo : ∀ k, k ≤ 6 → (R16 k).seek.refs = []
  | 0, _ => rfl
  | 1, _ => rfl
  | 2, _ => rfl
  | 3, _ => rfl
  | 4, _ => rfl
  | 5, _ => rfl
  | 6, _ => rfl
  | k + 7, h => by omega
theorem A4_root : rootI A4 = 1 := by
  unfold rootI
  rw [show readB A4 = true from by decide +kernel]; rfl
theorem aw16_0 : newArV 4 = .tup [.sl false (.ints .i64 A4), .int .i64 0] := by
  unfold newArV; rw [if_neg (by decide)]; rfl
theorem aw16_1 : newM A4 = .tup [memV A4 A4 [], .int .i64 0] := by
  unfold newM; rw [show szB A4.length = true from by decide +kernel]; rfl
theorem aw16_2 : iW A4 [97] = .tup [(R16 0).V, .int .i64 0] := by
  unfold iW; rw [if_pos (by decide), A4_root]; rfl
theorem aw16_3 : iW A4 [] = .tup [rdZ.V, .int .i64 20] := by
  unfold iW; rw [if_neg (by decide)]
def bM.C : aD
  | [] => some (false, pD True (.bool true))
  | _ => none
set_option maxRecDepth 20000 in
theorem bM.spec : FSpec Tryz.prog 11 bM.C := by
  refine FSpec.of (ctx_ok (F := [(32, fF.C), (28, fH.C), (27, eR.C), (14, dE.C)]) (S := []) (by simpa using ⟨fF.spec, fH.spec, eR.spec, dE.spec⟩) (by simp) bM.loops) bM.at bM.nm bM.bd ?_
  intro vs b S v news e hS
  unfold bM.C at e
  split at e
  rotate_left
  · cases e
  cases e
  rw [bM.eq]
  unfold bM.H
  simp (maxSteps := 4000000) only [go_sem, Nat.reduceEqDiff, Nat.reduceLT, Nat.reduceAdd, Nat.reduceSub, Nat.reduceLeDiff, List.reduceReplicate, Int.reduceToNat, fF.C, fH.C, eR.C, dE.C, aw16_0, aw16_1, aw16_2, aw16_3]
  have rA : roomy A4.length := xO.roomy
  have hsm : smallM A4 A4 [] := ⟨rA, rA, by unfold roomy; decide⟩
  simp only [fH.C, eR.C, aw16_1, aw16_2, aw16_3, memV, R16, rdZ, Rd.V, Sk.V, skZ, aA, gq, Int.reduceEq, Int.reduceLT, Int.reduceLE, implies_true, reduceCtorEq, if_true, if_false, go_sem, Nat.reduceEqDiff, Nat.reduceLT, Nat.reduceAdd, Nat.reduceSub, Nat.reduceLeDiff, List.reduceReplicate, Int.reduceToNat]
  refine ⟨rA, rA, rA, ?_⟩
  unfold bM.L1
  refine loop2 (σ := Nat) (fun k => .int .i64 k) (fun k => .int .i64 k) (fun k => [.box M16.V, .box (R16 k).V, .box rdZ.V]) (fun k => 6 - k) (fun k => k ≤ 6) 0 rfl rfl (by decide) ?_
  intro I back k hk
  by_cases hk6 : k < 6
  · obtain ⟨h1, h2⟩ := aCn k hk6
    have h3 := aCo k hk
    have hb := back (k + 1) (n := 6 - k) (by omega) rfl rfl (by omega)
    clear back
    generalize R16 (k + 1) = y at *
    generalize R16 k = x at *
    obtain ⟨y1, y2, y3, y4, ⟨z1, z2, z3, z4, z5⟩, y5, y6⟩ := y
    obtain ⟨x1, x2, x3, x4, ⟨s1, s2, s3, s4, s5⟩, x5, x6⟩ := x
    simp only at h2 h3
    have d1 : decide ((k : Int) < 40) = true := decide_eq_true (by omega)
    unfold M16 at h1 hb ⊢
    simp only [dE.C, h1, h2, d1, rdZ, Mm.V, memV, Rd.V, Sk.V, skZ, wnext (show k < 4611686018427387904 by omega), decide_false, aA, aA, gq, Int.reduceEq, Int.reduceLT, Int.reduceLE, implies_true, reduceCtorEq, if_true, if_false, go_sem, Nat.reduceEqDiff, Nat.reduceLT, Nat.reduceAdd, Nat.reduceSub, Nat.reduceLeDiff, List.reduceReplicate, Int.reduceToNat] at hb ⊢
    exact ⟨⟨hsm, xO, by rw [h3]; decide⟩, hb⟩
  · obtain rfl : k = 6 := by omega
    clear back
    simp only [R16, M16, rdZ, Mm.V, memV, Rd.V, Sk.V, skZ, aA, aA, gq, Int.reduceEq, Int.reduceLT, Int.reduceLE, implies_true, reduceCtorEq, if_true, if_false, go_sem, Nat.reduceEqDiff, Nat.reduceLT, Nat.reduceAdd, Nat.reduceSub, Nat.reduceLeDiff, List.reduceReplicate, Int.reduceToNat]
    exact aH rfl rfl
def bQ.C : aD
  | [.agg [.sl false (.ints .i64 vol), .sl false (.ints .i64 per), .sl false (.pends pend)]] => some (false, pD True (.bool (decide (vol.length ≤ 1000) && decide (per.length ≤ 1000) && decide (pend.length ≤ 100))))
  | _ => none
set_option maxRecDepth 20000 in
theorem bQ.spec : FSpec Tryz.prog 12 bQ.C := by
  refine FSpec.of (ctx_ok (F := []) (S := []) (by simp) (by simp) bQ.loops) bQ.at bQ.nm bQ.bd ?_
  intro vs b S v news e hS
  unfold bQ.C at e
  split at e
  rotate_left
  · cases e
  cases e
  rw [bQ.eq]
  unfold bQ.H
  simp (maxSteps := 4000000) only [go_sem, Nat.reduceEqDiff, Nat.reduceLT, Nat.reduceAdd, Nat.reduceSub, Nat.reduceLeDiff, List.reduceReplicate, Int.reduceToNat]
  rename_i vol per pend
  have e1 : decide ((vol.length : Int) ≤ 1000) = decide (vol.length ≤ 1000) := decide_eq_decide.2 (by omega)
  have e2 : decide ((per.length : Int) ≤ 1000) = decide (per.length ≤ 1000) := decide_eq_decide.2 (by omega)
  have e3 : decide ((pend.length : Int) ≤ 100) = decide (pend.length ≤ 100) := decide_eq_decide.2 (by omega)
  rw [e1, e2, e3]
  exact aH rfl rfl
end Lam
namespace Lam
open Go Go.Proofs
set_option linter.unusedVariables false
def bP.loops : Nat → LInfo
  | 2 => ⟨[], [], [], [(4, none), (4, some [18, 22]), (2, none), (4, some [24, 28]), (2, none), (5, some [30, 35]), (2, none), (3, some [37, 40])], [], []⟩
  | 6 => ⟨[9], [false], [2, 3, 4, 7, 8], [], [], []⟩
  | 9 => ⟨[], [], [], [(7, none), (7, some [63, 70]), (2, none), (9, some [72, 81])], [], []⟩
  | 12 => ⟨[], [], [], [(4, none), (3, some [86, 89])], [], []⟩
  | 17 => ⟨[13], [false], [2, 3, 4, 7, 8, 9, 10, 11, 12], [(6, none), (3, some [106, 109]), (2, none), (3, some [111, 114])], [], []⟩
  | 23 => ⟨[], [], [], [(2, none), (2, some [130, 132])], [], []⟩
  | _ => ⟨[], [], [], [], [], []⟩
def bP.L2 (c : Ctx) (J13 : AV → AV → AV → AV → AV → AV → AV → AV → List AObj → Prop) (K : AOut → List AObj → Prop) (lv : List AV) (h0 : List AObj) (n0 : Nat) (c2 : AV) (c3 : AV) (c4 : AV) (c7 : AV) (c8 : AV) (c9 : AV) (c10 : AV) (c11 : AV) (c12 : AV) : Prop :=
  ∃ I : Nat → List AV → List AObj → Prop, (∃ n, I n lv h0) ∧ ∀ n h, ∀ t13, I n [t13] h →
    runD (aB T_api_Mem c10 2) h fun t102 h =>
    runD (fitD bG (loadD h t102)) h fun t103 h =>
    runD (lenD bG h t103) h fun t104 h =>
    runD (binD T_int .lss t13 t104) h fun t105 h =>
    joinW (fun (J14 : AV → AV → List AObj → Prop) =>
    guardW t105 true
    (runD (aB T_api_Reader c4 2) h fun t107 h =>
      runD (fitD T_int (loadD h t107)) h fun t108 h =>
      runD (binD T_int .geq t108 (.int .i64 0)) h fun t109 h =>
      J14 (.bool true) t109 h)
    (J14 (.bool false) .und h))
    (fun t106 t109 h => runD (pickD t106 t109 (.bool false)) h fun t110 h =>
    joinW (fun (J15 : AV → AV → List AObj → Prop) =>
    guardW t110 true
    (runD (aB T_api_Reader c4 2) h fun t112 h =>
      runD (fitD T_int (loadD h t112)) h fun t113 h =>
      runD (binD T_int .lss t113 (.int .i64 256)) h fun t114 h =>
      J15 (.bool true) t114 h)
    (J15 (.bool false) .und h))
    (fun t111 t114 h => runD (pickD t111 t114 (.bool false)) h fun t115 h =>
    condW t115
    (runD (aB T_api_Mem c10 2) h fun t118 h =>
    runD (fitD bG (loadD h t118)) h fun t119 h =>
    runD (aF bG h t119 t13) h fun t121 h =>
    runD (aB bZ t121 0) h fun t122 h =>
    runD (fitD T_int (loadD h t122)) h fun t123 h =>
    runD (binD T_int .quo t123 (.int .i64 8)) h fun t124 h =>
    runD (binD T_int .eql t124 c12) h fun t126 h =>
    condW t126
    (K (.ret (.bool false)) h)
    (runD (binD T_int .add t13 (.int .i64 1)) h fun t117 h =>
    (∃ m, m < n ∧ I m (AV.norms n0 h [t117]) (normH n0 h)) ∧ AV.norms n0 h [c2, c3, c4, c7, c8, c9, c10, c11, c12] = [c2, c3, c4, c7, c8, c9, c10, c11, c12]))
    (J13 c2 c3 c4 c7 c8 c9 c10 c11 h)))
def bP.L1 (c : Ctx) (J5 : AV → AV → List AObj → Prop) (K : AOut → List AObj → Prop) (lv : List AV) (h0 : List AObj) (n0 : Nat) (c2 : AV) (c3 : AV) (c4 : AV) (c7 : AV) (c8 : AV) : Prop :=
  ∃ I : Nat → List AV → List AObj → Prop, (∃ n, I n lv h0) ∧ ∀ n h, ∀ t9, I n [t9] h →
    runD (binD T_uint8 .rem c2 (.int .u8 50)) h fun t46 h =>
    runD (convD h T_uint8 T_int t46) h fun t47 h =>
    runD (binD T_int .lss t9 t47) h fun t48 h =>
    condW t48
    (joinW (fun (J6 : AV → AV → AV → AV → AV → AV → List AObj → Prop) =>
    runD (fitD T_api_Mem (loadD h c3)) h fun t52 h =>
    runD (fitD T_api_Reader (loadD h c4)) h fun t53 h =>
    callW false c (.fn (.func 14) [] []) [t52, t53] h (fun t54 h =>
    runD (bH t54 0) h fun t55 h =>
    runD (bH t54 1) h fun t56 h =>
    allocW T_api_Mem h fun t10 h =>
    allocW T_api_Reader h fun t11 h =>
    runH (storeH T_api_Mem h t10 t55) h fun _ h =>
    runH (storeH T_api_Reader h t11 t56) h fun _ h =>
    runD (aB T_api_Mem t10 0) h fun t57 h =>
    runD (fitD aI (loadD h t57)) h fun t58 h =>
    runD (aB T_api_Mem c8 0) h fun t59 h =>
    runD (fitD aI (loadD h t59)) h fun t60 h =>
    callW false c (.fn (.func 15) [] []) [t58, t60] h (fun t61 h =>
    runD (unD .not t61) h fun t62 h =>
    joinW (fun (J7 : AV → AV → List AObj → Prop) =>
    guardW t62 false
    (runD (aB T_api_Mem t10 2) h fun t64 h =>
      runD (fitD bG (loadD h t64)) h fun t65 h =>
      runD (lenD bG h t65) h fun t66 h =>
      runD (aB T_api_Mem c3 2) h fun t67 h =>
      runD (fitD bG (loadD h t67)) h fun t68 h =>
      runD (lenD bG h t68) h fun t69 h =>
      runD (binD T_int .gtr t66 t69) h fun t70 h =>
      J7 (.bool false) t70 h)
    (J7 (.bool true) .und h))
    (fun t63 t70 h => runD (pickD t63 (.bool true) t70) h fun t71 h =>
    joinW (fun (J8 : AV → AV → List AObj → Prop) =>
    guardW t71 false
    (runD (aB T_api_Reader c4 1) h fun t73 h =>
      runD (fitD T_int (loadD h t73)) h fun t74 h =>
      runD (binD T_int .eql t74 (.int .i64 8)) h fun t75 h =>
      joinW (fun (J9 : AV → AV → List AObj → Prop) =>
      guardW t75 true
      (runD (fitD T_api_Reader (loadD h t11)) h fun t77 h =>
        runD (fitD T_api_Reader (loadD h c4)) h fun t78 h =>
        callW false c (.fn (.func 16) [] []) [t77, t78] h (fun t79 h =>
        runD (unD .not t79) h fun t80 h =>
        J9 (.bool true) t80 h)
        (fun v h => K (.pan v) h))
      (J9 (.bool false) .und h))
      (fun t76 t80 h => runD (pickD t76 t80 (.bool false)) h fun t81 h =>
      J8 (.bool false) t81 h))
    (J8 (.bool true) .und h))
    (fun t72 t81 h => runD (pickD t72 (.bool true) t81) h fun t82 h =>
    condW t82
    (K (.ret (.bool false)) h)
    (runD (aB T_api_Reader c4 1) h fun t83 h =>
    runD (fitD T_int (loadD h t83)) h fun t84 h =>
    runD (binD T_int .eql t84 (.int .i64 6)) h fun t85 h =>
    joinW (fun (J10 : AV → AV → List AObj → Prop) =>
    guardW t85 false
    (runD (aB T_api_Reader c4 1) h fun t87 h =>
      runD (fitD T_int (loadD h t87)) h fun t88 h =>
      runD (binD T_int .eql t88 (.int .i64 5)) h fun t89 h =>
      J10 (.bool false) t89 h)
    (J10 (.bool true) .und h))
    (fun t86 t89 h => runD (pickD t86 (.bool true) t89) h fun t90 h =>
    joinW (fun (J11 : AV → List AObj → Prop) =>
    condW t90
    (runD (aB T_api_Reader c4 2) h fun t91 h =>
      runD (fitD T_int (loadD h t91)) h fun t92 h =>
      runD (binD T_int .mul (.int .i64 2) t92) h fun t93 h =>
      J11 t93 h)
    (J11 (.int .i64 (-1)) h))
    (fun t12 h => runD (aB T_api_Reader c4 1) h fun t94 h =>
    runD (fitD T_int (loadD h t94)) h fun t95 h =>
    runD (binD T_int .eql t95 (.int .i64 7)) h fun t96 h =>
    joinW (fun (J12 : AV → List AObj → Prop) =>
    condW t96
    (runD (aB T_api_Reader c4 2) h fun t97 h =>
      runD (fitD T_int (loadD h t97)) h fun t98 h =>
      runD (binD T_int .mul (.int .i64 2) t98) h fun t99 h =>
      runD (binD T_int .add t99 (.int .i64 1)) h fun t100 h =>
      J12 t100 h)
    (J12 t12 h))
    (fun t12 h => joinW (fun (J13 : AV → AV → AV → AV → AV → AV → AV → AV → List AObj → Prop) =>
    promV [false] [(.int .i64 0)] h fun lv h => bP.L2 c J13 K (AV.norms h.length h lv) (normH h.length h) h.length (AV.norm h.length h c2) (AV.norm h.length h c3) (AV.norm h.length h c4) (AV.norm h.length h c7) (AV.norm h.length h c8) (AV.norm h.length h t9) (AV.norm h.length h t10) (AV.norm h.length h t11) (AV.norm h.length h t12))
    (fun t2 t3 t4 t7 t8 t9 t10 t11 h => runD (fitD T_api_Mem (loadD h t10)) h fun t127 h =>
    runH (storeH T_api_Mem h t3 t127) h fun _ h =>
    runD (fitD T_api_Reader (loadD h t11)) h fun t128 h =>
    runH (storeH T_api_Reader h t4 t128) h fun _ h =>
    J6 t2 t3 t4 t7 t8 t9 h))))))))
    (fun v h => K (.pan v) h))
    (fun v h => K (.pan v) h))
    (fun t2 t3 t4 t7 t8 t9 h => runD (binD T_int .add t9 (.int .i64 1)) h fun t50 h =>
    (∃ m, m < n ∧ I m (AV.norms n0 h [t50]) (normH n0 h)) ∧ AV.norms n0 h [t2, t3, t4, t7, t8] = [c2, c3, c4, c7, c8]))
    (J5 c3 c7 h)
def bP.H (c : Ctx) (t0 : AV) (t1 : AV) (t2 : AV) (h : List AObj) (K : AOut → List AObj → Prop) : Prop :=
  boxW T_api_Mem t0 h fun t3 h =>
  boxW T_api_Reader t1 h fun t4 h =>
  callW false c (.fn (.func 11) [] []) [] h (fun t14 h =>
  runD (fitD T_api_Mem (loadD h t3)) h fun t15 h =>
  callW false c (.fn (.func 12) [] []) [t15] h (fun t16 h =>
  runD (unD .not t16) h fun t17 h =>
  joinW (fun (J1 : AV → AV → List AObj → Prop) =>
  guardW t17 false
  (runD (aB T_api_Reader t4 0) h fun t19 h =>
    runD (fitD bN (loadD h t19)) h fun t20 h =>
    runD (lenD bN h t20) h fun t21 h =>
    runD (binD T_int .gtr t21 (.int .i64 100)) h fun t22 h =>
    J1 (.bool false) t22 h)
  (J1 (.bool true) .und h))
  (fun t18 t22 h => runD (pickD t18 (.bool true) t22) h fun t23 h =>
  joinW (fun (J2 : AV → AV → List AObj → Prop) =>
  guardW t23 false
  (runD (aB T_api_Reader t4 5) h fun t25 h =>
    runD (fitD bN (loadD h t25)) h fun t26 h =>
    runD (lenD bN h t26) h fun t27 h =>
    runD (binD T_int .gtr t27 (.int .i64 100)) h fun t28 h =>
    J2 (.bool false) t28 h)
  (J2 (.bool true) .und h))
  (fun t24 t28 h => runD (pickD t24 (.bool true) t28) h fun t29 h =>
  joinW (fun (J3 : AV → AV → List AObj → Prop) =>
  guardW t29 false
  (runD (aB T_api_Reader t4 4) h fun t31 h =>
    runD (aB bC t31 3) h fun t32 h =>
    runD (fitD aI (loadD h t32)) h fun t33 h =>
    runD (lenD aI h t33) h fun t34 h =>
    runD (binD T_int .gtr t34 (.int .i64 100)) h fun t35 h =>
    J3 (.bool false) t35 h)
  (J3 (.bool true) .und h))
  (fun t30 t35 h => runD (pickD t30 (.bool true) t35) h fun t36 h =>
  joinW (fun (J4 : AV → AV → List AObj → Prop) =>
  guardW t36 false
  (runD (fitD T_api_Mem (loadD h t3)) h fun t38 h =>
    callW false c (.fn (.func 13) [] []) [t38] h (fun t39 h =>
    runD (unD .not t39) h fun t40 h =>
    J4 (.bool false) t40 h)
    (fun v h => K (.pan v) h))
  (J4 (.bool true) .und h))
  (fun t37 t40 h => runD (pickD t37 (.bool true) t40) h fun t41 h =>
  condW t41
  (K (.ret t14) h)
  (runD (fitD T_api_Mem (loadD h t3)) h fun t43 h =>
  allocW T_api_Mem h fun t8 h =>
  runH (storeH T_api_Mem h t8 t43) h fun _ h =>
  joinW (fun (J5 : AV → AV → List AObj → Prop) =>
  promV [false] [(.int .i64 0)] h fun lv h => bP.L1 c J5 K (AV.norms h.length h lv) (normH h.length h) h.length (AV.norm h.length h t2) (AV.norm h.length h t3) (AV.norm h.length h t4) (AV.norm h.length h t14) (AV.norm h.length h t8))
  (fun t3 t7 h => joinW (fun (J16 : AV → AV → List AObj → Prop) =>
  guardW t7 true
  (runD (fitD T_api_Mem (loadD h t3)) h fun t131 h =>
    callW false c (.fn (.func 13) [] []) [t131] h (fun t132 h =>
    J16 (.bool true) t132 h)
    (fun v h => K (.pan v) h))
  (J16 (.bool false) .und h))
  (fun t130 t132 h => runD (pickD t130 t132 (.bool false)) h fun t133 h =>
  K (.ret t133) h))))))))
  (fun v h => K (.pan v) h))
  (fun v h => K (.pan v) h)
theorem bP.eq (F : List (FuncId × aD)) (S : List (FuncId × Con)) (t0 t1 t2 : AV) (h : List AObj) (K : AOut → List AObj → Prop) : funW (ctx F S bP.loops) Tryz.f3 [t0, t1, t2] h K = bP.H (ctx F S bP.loops) t0 t1 t2 h K := by kernel_rfl
end Lam
namespace Lam
open Go Go.Proofs
set_option linter.unusedVariables false
set_option linter.unnecessarySimpa false
set_option linter.unusedSimpArgs false
abbrev jE : Ctx := ctx [(11, bM.C), (12, bQ.C), (13, cN.C), (14, dE.C), (15, bA.C), (16, bS.C)] [] bP.loops
set_option maxRecDepth 20000 in
set_option maxHeartbeats 1000000 in
theorem xP (m_vol : List Int) (m_per : List Int) (m_pend : List Pend) (r_key : Bytes) (r_phase : Int) (r_block : Int) (r_to : Int) (r_seek_block : Int) (r_seek_turn : Int) (r_seek_at : Int) (r_seek_refs : List Int) (r_seek_over : Bool) (r_val : Bytes) (r_found : Bool) (n : Int) (w_m_vol : wfL (.ints .i64 m_vol)) (n_m_vol : m_vol.length ≤ maxLen) (w_m_per : wfL (.ints .i64 m_per)) (n_m_per : m_per.length ≤ maxLen) (w_m_pend : wfL (.pends m_pend)) (n_m_pend : m_pend.length ≤ maxLen) (w_r_key : r_key.length ≤ maxLen) (w_r_phase : (Lit.int .i64 r_phase).wf = true) (w_r_block : (Lit.int .i64 r_block).wf = true) (w_r_to : (Lit.int .i64 r_to).wf = true) (w_r_seek_block : (Lit.int .i64 r_seek_block).wf = true) (w_r_seek_turn : (Lit.int .i64 r_seek_turn).wf = true) (w_r_seek_at : (Lit.int .i64 r_seek_at).wf = true) (w_r_seek_refs : wfL (.ints .i64 r_seek_refs)) (n_r_seek_refs : r_seek_refs.length ≤ maxLen) (w_r_val : r_val.length ≤ maxLen) (w_n : (Lit.int .u8 n).wf = true) : bP.H jE (.agg [(.sl false (.ints .i64 m_vol)), (.sl false (.ints .i64 m_per)), (.sl false (.pends m_pend))]) (.agg [(.str r_key), (.int .i64 r_phase), (.int .i64 r_block), (.int .i64 r_to), (.agg [(.int .i64 r_seek_block), (.int .i64 r_seek_turn), (.int .i64 r_seek_at), (.sl false (.ints .i64 r_seek_refs)), (.bool r_seek_over)]), (.str r_val), (.bool r_found)]) (.int .u8 n) [] Told := by
  unfold bP.H
  simp (maxSteps := 4000000) only [go_sem, Nat.reduceEqDiff, Nat.reduceLT, Nat.reduceAdd, Nat.reduceSub, Nat.reduceLeDiff, List.reduceReplicate, Int.reduceToNat, bM.C, bQ.C, cN.C, dE.C, bA.C, bS.C]
  have hn := wf_u8 w_n
  have hguard : ∀ a b : Bool, (!(decide (m_vol.length ≤ 1000) && decide (m_per.length ≤ 1000) && decide (m_pend.length ≤ 100)) || decide (100 < (r_key.length : Int)) || decide (100 < (r_val.length : Int)) || decide (100 < (r_seek_refs.length : Int))) = false → m_vol.length ≤ 1000 ∧ m_per.length ≤ 1000 ∧ m_pend.length ≤ 100 ∧ r_seek_refs.length ≤ 100 := fun _ _ h => by
    simp only [Bool.or_eq_false_iff, Bool.not_eq_false', Bool.and_eq_true, decide_eq_true_eq, decide_eq_false_iff_not] at h
    omega
  refine ⟨fun h => ?_, fun _ => rfl, fun hg => ?_⟩
  · obtain ⟨h1, h2, h3, h4⟩ := hguard true true h
    exact ⟨by unfold roomy; omega, by unfold roomy; omega, by unfold roomy; omega⟩
  rw [Bool.or_eq_false_iff] at hg
  obtain ⟨hg, hck⟩ := hg
  obtain ⟨g1, g2, g3, g4⟩ := hguard true true hg
  clear hguard hg
  rw [Bool.not_eq_false'] at hck
  have hok0 : OkM m_vol m_per m_pend := kT.1 hck
  have hi64 := wf_i64s w_m_vol
  have hsw : smallW m_vol := ⟨by omega, hi64⟩
  obtain ⟨N, hN⟩ : ∃ N : Nat, n.tmod 50 = N := ⟨(n.tmod 50).toNat, by rw [Int.tmod_eq_emod_of_nonneg hn.1]; omega⟩
  have hN50 : N < 50 := by rw [Int.tmod_eq_emod_of_nonneg hn.1] at hN; omega
  have hNw : IntKind.i64.wrap (N : Int) = N := w64 (by omega) (by omega)
  rw [aA]
  unfold bP.L1
  refine loop1 (σ := Nat × Mm × Rd) (fun s => .int .i64 s.1) (fun s => [.box s.2.1.V, .box s.2.2.V, .box (memV m_vol m_per m_pend)]) (fun s => N - s.1)
    (fun s => s.1 ≤ N ∧ s.2.1.ok ∧ s.2.1.vol = m_vol ∧ s.2.1.per.length = m_per.length ∧ s.2.1.pend.length ≤ m_pend.length ∧ s.2.2.seek.refs.length ≤ 100 + s.1)
    (0, ⟨m_vol, m_per, m_pend⟩, ⟨r_key, r_phase, r_block, r_to, ⟨r_seek_block, r_seek_turn, r_seek_at, r_seek_refs, r_seek_over⟩, r_val, r_found⟩) rfl rfl ⟨Nat.zero_le _, hok0, rfl, rfl, Nat.le_refl _, by simp only; omega⟩ ?_
  rintro I back ⟨k, m, r⟩ ⟨hk, hok, hv, hp, hpe, hrf⟩
  simp only at hk hok hv hp hpe hrf ⊢
  by_cases hkN : k < N
  rotate_left
  · obtain rfl : k = N := by omega
    have d1 : decide ((k : Int) < (k : Int)) = false := decide_eq_false (by omega)
    obtain ⟨vol, per, pend⟩ := m
    obtain ⟨key, phase, block, to_, ⟨sb, st, sa, sr, so⟩, val, found⟩ := r
    simp only at hv hp hpe hrf
    subst hv
    have hck2 : checkB vol per pend = true := kT.2 hok
    have hsm : smallM vol per pend := ⟨by unfold roomy; omega, by unfold roomy; omega, by unfold roomy; omega⟩
    simp only [Mm.V, memV, Rd.V, Sk.V, hN, hNw, d1, hck2, cN.C, aA, aA, gq, Int.reduceEq, Int.reduceLT, Int.reduceLE, implies_true, reduceCtorEq, if_true, if_false, go_sem, Nat.reduceEqDiff, Nat.reduceLT, Nat.reduceAdd, Nat.reduceSub, Nat.reduceLeDiff, List.reduceReplicate, Int.reduceToNat]
    exact ⟨hsm, rfl⟩
  obtain ⟨f1, f2, f3, f4, f5, f6⟩ := zG r hok
  have hrf2 := aAz m r
  have hb := back (k + 1, (stepR m r).1, (stepR m r).2) (n := N - k) (by simp only; omega) rfl rfl ⟨by simp only; omega, f1, by simp only; rw [f2, hv], by simp only; omega, by have := f4.length_le; simp only; omega, by simp only; omega⟩
  clear back
  have hpl := f4.length_le
  have hrg := f1.rng
  generalize hst : stepR m r = S at *
  obtain ⟨m', r'⟩ := S
  obtain ⟨vol, per, pend⟩ := m
  obtain ⟨vol', per', pend'⟩ := m'
  obtain ⟨key, phase, block, to_, ⟨sb, st, sa, sr, so⟩, val, found⟩ := r
  obtain ⟨key', phase', block', to', ⟨sb', st', sa', sr', so'⟩, val', found'⟩ := r'
  simp only at hv hp hpe hrf f1 f2 f3 f4 f5 f6 hrf2 hb hpl hrg
  subst hv
  subst f2
  have hsm : smallM vol' per pend := ⟨by unfold roomy; omega, by unfold roomy; omega, by unfold roomy; omega⟩
  have d1 : decide ((k : Int) < (N : Int)) = true := decide_eq_true (by omega)
  have hpp : pend.length ≤ 999999 := by omega
  have d2 : decide ((pend.length : Int) < (pend'.length : Int)) = false := decide_eq_false (by omega)
  have hrv : roomy vol'.length := by unfold roomy; omega
  have hneg : ∀ p : Pend, 0 ≤ p.at_ → p.at_ < 9223372036854775808 → lineOf p.at_ ≠ -1 := fun p h0 h1 => by
    unfold lineOf
    rw [Int.tdiv_eq_ediv_of_nonneg h0, w64 (by omega) (by omega)]; omega
  have hph : phase = 8 ∨ phase = 6 ∨ phase = 5 ∨ phase = 7 ∨ (phase ≠ 8 ∧ phase ≠ 6 ∧ phase ≠ 5 ∧ phase ≠ 7) := by omega
  rcases hph with rfl | rfl | rfl | rfl | ⟨p8, p6, p5, p7⟩
  · have h8 := f5 rfl
    simp only [Prod.mk.injEq, Mm.mk.injEq, Rd.mk.injEq, Sk.mk.injEq] at h8
    obtain ⟨⟨_, rfl, rfl⟩, rfl, rfl, rfl, rfl, ⟨rfl, rfl, rfl, rfl, rfl⟩, rfl, rfl⟩ := h8
    have hrs : roomy sr'.length := by unfold roomy; omega
    simp only [Mm.V, memV, Rd.V, Sk.V, hN, hNw, d1, dE.C, hst, bA.C, d2, bS.C, zD, decide_true, decide_false, aA, aA, gq, Int.reduceEq, Int.reduceLT, Int.reduceLE, implies_true, reduceCtorEq, if_true, if_false, go_sem, Nat.reduceEqDiff, Nat.reduceLT, Nat.reduceAdd, Nat.reduceSub, Nat.reduceLeDiff, List.reduceReplicate, Int.reduceToNat] at hb ⊢
    refine ⟨⟨hsm, hpp, hsw, by omega⟩, hrv, hrs, ?_⟩
    unfold bP.L2
    refine loop1 (σ := Nat) (fun j => .int .i64 j) (fun j => [.box (.agg [.sl false (.ints .i64 vol'), .sl false (.ints .i64 per'), .sl false (.pends pend')]), .box (.agg [.str key', .int .i64 8, .int .i64 block', .int .i64 to', .agg [.int .i64 sb', .int .i64 st', .int .i64 sa', .sl false (.ints .i64 sr'), .bool so'], .str val', .bool found']), .box (.agg [.sl false (.ints .i64 vol'), .sl false (.ints .i64 m_per), .sl false (.pends m_pend)]), .box (.agg [.sl false (.ints .i64 vol'), .sl false (.ints .i64 per'), .sl false (.pends pend')]), .box (.agg [.str key', .int .i64 8, .int .i64 block', .int .i64 to', .agg [.int .i64 sb', .int .i64 st', .int .i64 sa', .sl false (.ints .i64 sr'), .bool so'], .str val', .bool found'])]) (fun j => (pend').length - j) (fun j => j ≤ (pend').length) 0 rfl rfl (Nat.zero_le _) ?_
    intro I2 back2 j hj
    by_cases hjl : j < (pend').length
    · have hb2 := back2 (j + 1) (n := (pend').length - j) (by omega) rfl rfl (by omega)
      have hmem := gH (pend') j ⟨0, 0, false⟩ hjl
      have hg := hrg _ hmem
      have hline : 0 ≤ block' → block' < 256 → lineOf ((pend').getD j ⟨0, 0, false⟩).at_ ≠ -1 := fun h0 h1 => by
        exact hneg _ hg.1 (by omega)
      unfold lineOf at hline
      have e1 : decide ((j : Int) < ((pend').length : Int)) = true := decide_eq_true (by omega)
      by_cases h0 : 0 ≤ block'
      · by_cases h1 : block' < 256
        · have hl := hline h0 h1
          simp only [e1, h0, h1, hl, decide_false, decide_true, aA, wnext (show j < 4611686018427387904 by omega), aA, gq, Int.reduceEq, Int.reduceLT, Int.reduceLE, implies_true, reduceCtorEq, if_true, if_false, go_sem, Nat.reduceEqDiff, Nat.reduceLT, Nat.reduceAdd, Nat.reduceSub, Nat.reduceLeDiff, List.reduceReplicate, Int.reduceToNat] at hb2 ⊢
          exact ⟨⟨by omega, by omega⟩, hb2⟩
        · simp only [e1, h0, h1, decide_false, decide_true, aA, wnext (show k < 4611686018427387904 by omega), aA, gq, Int.reduceEq, Int.reduceLT, Int.reduceLE, implies_true, reduceCtorEq, if_true, if_false, go_sem, Nat.reduceEqDiff, Nat.reduceLT, Nat.reduceAdd, Nat.reduceSub, Nat.reduceLeDiff, List.reduceReplicate, Int.reduceToNat] at hb ⊢
          exact hb
      · simp only [e1, h0, decide_false, decide_true, aA, wnext (show k < 4611686018427387904 by omega), aA, gq, Int.reduceEq, Int.reduceLT, Int.reduceLE, implies_true, reduceCtorEq, if_true, if_false, go_sem, Nat.reduceEqDiff, Nat.reduceLT, Nat.reduceAdd, Nat.reduceSub, Nat.reduceLeDiff, List.reduceReplicate, Int.reduceToNat] at hb ⊢
        exact hb
    · have e1 : decide ((j : Int) < ((pend').length : Int)) = false := decide_eq_false (by omega)
      simp only [e1, decide_false, decide_true, aA, wnext (show k < 4611686018427387904 by omega), aA, gq, Int.reduceEq, Int.reduceLT, Int.reduceLE, implies_true, reduceCtorEq, if_true, if_false, go_sem, Nat.reduceEqDiff, Nat.reduceLT, Nat.reduceAdd, Nat.reduceSub, Nat.reduceLeDiff, List.reduceReplicate, Int.reduceToNat] at hb ⊢
      exact hb
  · simp only [Mm.V, memV, Rd.V, Sk.V, hN, hNw, d1, dE.C, hst, bA.C, d2, Int.reduceEq, decide_true, decide_false, aA, aA, gq, Int.reduceEq, Int.reduceLT, Int.reduceLE, implies_true, reduceCtorEq, if_true, if_false, go_sem, Nat.reduceEqDiff, Nat.reduceLT, Nat.reduceAdd, Nat.reduceSub, Nat.reduceLeDiff, List.reduceReplicate, Int.reduceToNat] at hb ⊢
    refine ⟨⟨hsm, hpp, hsw, by omega⟩, hrv, ?_⟩
    unfold bP.L2
    refine loop1 (σ := Nat) (fun j => .int .i64 j) (fun j => [.box (.agg [.sl false (.ints .i64 vol'), .sl false (.ints .i64 per), .sl false (.pends pend)]), .box (.agg [.str key, .int .i64 6, .int .i64 block, .int .i64 to_, .agg [.int .i64 sb, .int .i64 st, .int .i64 sa, .sl false (.ints .i64 sr), .bool so], .str val, .bool found]), .box (.agg [.sl false (.ints .i64 vol'), .sl false (.ints .i64 m_per), .sl false (.pends m_pend)]), .box (.agg [.sl false (.ints .i64 vol'), .sl false (.ints .i64 per'), .sl false (.pends pend')]), .box (.agg [.str key', .int .i64 phase', .int .i64 block', .int .i64 to', .agg [.int .i64 sb', .int .i64 st', .int .i64 sa', .sl false (.ints .i64 sr'), .bool so'], .str val', .bool found'])]) (fun j => (pend').length - j) (fun j => j ≤ (pend').length) 0 rfl rfl (Nat.zero_le _) ?_
    intro I2 back2 j hj
    by_cases hjl : j < (pend').length
    · have hb2 := back2 (j + 1) (n := (pend').length - j) (by omega) rfl rfl (by omega)
      have hmem := gH (pend') j ⟨0, 0, false⟩ hjl
      have hg := hrg _ hmem
      have hline : 0 ≤ block → block < 256 → lineOf ((pend').getD j ⟨0, 0, false⟩).at_ ≠ IntKind.i64.wrap (2 * block) := fun h0 h1 => by
        rw [w64 (by omega) (by omega)]; exact (f6 h0 h1).1 (.inl rfl) _ hmem
      unfold lineOf at hline
      have e1 : decide ((j : Int) < ((pend').length : Int)) = true := decide_eq_true (by omega)
      by_cases h0 : 0 ≤ block
      · by_cases h1 : block < 256
        · have hl := hline h0 h1
          simp only [e1, h0, h1, hl, decide_false, decide_true, aA, wnext (show j < 4611686018427387904 by omega), aA, gq, Int.reduceEq, Int.reduceLT, Int.reduceLE, implies_true, reduceCtorEq, if_true, if_false, go_sem, Nat.reduceEqDiff, Nat.reduceLT, Nat.reduceAdd, Nat.reduceSub, Nat.reduceLeDiff, List.reduceReplicate, Int.reduceToNat] at hb2 ⊢
          exact ⟨⟨by omega, by omega⟩, hb2⟩
        · simp only [e1, h0, h1, decide_false, decide_true, aA, wnext (show k < 4611686018427387904 by omega), aA, gq, Int.reduceEq, Int.reduceLT, Int.reduceLE, implies_true, reduceCtorEq, if_true, if_false, go_sem, Nat.reduceEqDiff, Nat.reduceLT, Nat.reduceAdd, Nat.reduceSub, Nat.reduceLeDiff, List.reduceReplicate, Int.reduceToNat] at hb ⊢
          exact hb
      · simp only [e1, h0, decide_false, decide_true, aA, wnext (show k < 4611686018427387904 by omega), aA, gq, Int.reduceEq, Int.reduceLT, Int.reduceLE, implies_true, reduceCtorEq, if_true, if_false, go_sem, Nat.reduceEqDiff, Nat.reduceLT, Nat.reduceAdd, Nat.reduceSub, Nat.reduceLeDiff, List.reduceReplicate, Int.reduceToNat] at hb ⊢
        exact hb
    · have e1 : decide ((j : Int) < ((pend').length : Int)) = false := decide_eq_false (by omega)
      simp only [e1, decide_false, decide_true, aA, wnext (show k < 4611686018427387904 by omega), aA, gq, Int.reduceEq, Int.reduceLT, Int.reduceLE, implies_true, reduceCtorEq, if_true, if_false, go_sem, Nat.reduceEqDiff, Nat.reduceLT, Nat.reduceAdd, Nat.reduceSub, Nat.reduceLeDiff, List.reduceReplicate, Int.reduceToNat] at hb ⊢
      exact hb
  · simp only [Mm.V, memV, Rd.V, Sk.V, hN, hNw, d1, dE.C, hst, bA.C, d2, Int.reduceEq, decide_true, decide_false, aA, aA, gq, Int.reduceEq, Int.reduceLT, Int.reduceLE, implies_true, reduceCtorEq, if_true, if_false, go_sem, Nat.reduceEqDiff, Nat.reduceLT, Nat.reduceAdd, Nat.reduceSub, Nat.reduceLeDiff, List.reduceReplicate, Int.reduceToNat] at hb ⊢
    refine ⟨⟨hsm, hpp, hsw, by omega⟩, hrv, ?_⟩
    unfold bP.L2
    refine loop1 (σ := Nat) (fun j => .int .i64 j) (fun j => [.box (.agg [.sl false (.ints .i64 vol'), .sl false (.ints .i64 per), .sl false (.pends pend)]), .box (.agg [.str key, .int .i64 5, .int .i64 block, .int .i64 to_, .agg [.int .i64 sb, .int .i64 st, .int .i64 sa, .sl false (.ints .i64 sr), .bool so], .str val, .bool found]), .box (.agg [.sl false (.ints .i64 vol'), .sl false (.ints .i64 m_per), .sl false (.pends m_pend)]), .box (.agg [.sl false (.ints .i64 vol'), .sl false (.ints .i64 per'), .sl false (.pends pend')]), .box (.agg [.str key', .int .i64 phase', .int .i64 block', .int .i64 to', .agg [.int .i64 sb', .int .i64 st', .int .i64 sa', .sl false (.ints .i64 sr'), .bool so'], .str val', .bool found'])]) (fun j => (pend').length - j) (fun j => j ≤ (pend').length) 0 rfl rfl (Nat.zero_le _) ?_
    intro I2 back2 j hj
    by_cases hjl : j < (pend').length
    · have hb2 := back2 (j + 1) (n := (pend').length - j) (by omega) rfl rfl (by omega)
      have hmem := gH (pend') j ⟨0, 0, false⟩ hjl
      have hg := hrg _ hmem
      have hline : 0 ≤ block → block < 256 → lineOf ((pend').getD j ⟨0, 0, false⟩).at_ ≠ IntKind.i64.wrap (2 * block) := fun h0 h1 => by
        rw [w64 (by omega) (by omega)]; exact (f6 h0 h1).1 (.inr rfl) _ hmem
      unfold lineOf at hline
      have e1 : decide ((j : Int) < ((pend').length : Int)) = true := decide_eq_true (by omega)
      by_cases h0 : 0 ≤ block
      · by_cases h1 : block < 256
        · have hl := hline h0 h1
          simp only [e1, h0, h1, hl, decide_false, decide_true, aA, wnext (show j < 4611686018427387904 by omega), aA, gq, Int.reduceEq, Int.reduceLT, Int.reduceLE, implies_true, reduceCtorEq, if_true, if_false, go_sem, Nat.reduceEqDiff, Nat.reduceLT, Nat.reduceAdd, Nat.reduceSub, Nat.reduceLeDiff, List.reduceReplicate, Int.reduceToNat] at hb2 ⊢
          exact ⟨⟨by omega, by omega⟩, hb2⟩
        · simp only [e1, h0, h1, decide_false, decide_true, aA, wnext (show k < 4611686018427387904 by omega), aA, gq, Int.reduceEq, Int.reduceLT, Int.reduceLE, implies_true, reduceCtorEq, if_true, if_false, go_sem, Nat.reduceEqDiff, Nat.reduceLT, Nat.reduceAdd, Nat.reduceSub, Nat.reduceLeDiff, List.reduceReplicate, Int.reduceToNat] at hb ⊢
          exact hb
      · simp only [e1, h0, decide_false, decide_true, aA, wnext (show k < 4611686018427387904 by omega), aA, gq, Int.reduceEq, Int.reduceLT, Int.reduceLE, implies_true, reduceCtorEq, if_true, if_false, go_sem, Nat.reduceEqDiff, Nat.reduceLT, Nat.reduceAdd, Nat.reduceSub, Nat.reduceLeDiff, List.reduceReplicate, Int.reduceToNat] at hb ⊢
        exact hb
    · have e1 : decide ((j : Int) < ((pend').length : Int)) = false := decide_eq_false (by omega)
      simp only [e1, decide_false, decide_true, aA, wnext (show k < 4611686018427387904 by omega), aA, gq, Int.reduceEq, Int.reduceLT, Int.reduceLE, implies_true, reduceCtorEq, if_true, if_false, go_sem, Nat.reduceEqDiff, Nat.reduceLT, Nat.reduceAdd, Nat.reduceSub, Nat.reduceLeDiff, List.reduceReplicate, Int.reduceToNat] at hb ⊢
      exact hb
  · simp only [Mm.V, memV, Rd.V, Sk.V, hN, hNw, d1, dE.C, hst, bA.C, d2, Int.reduceEq, decide_true, decide_false, aA, aA, gq, Int.reduceEq, Int.reduceLT, Int.reduceLE, implies_true, reduceCtorEq, if_true, if_false, go_sem, Nat.reduceEqDiff, Nat.reduceLT, Nat.reduceAdd, Nat.reduceSub, Nat.reduceLeDiff, List.reduceReplicate, Int.reduceToNat] at hb ⊢
    refine ⟨⟨hsm, hpp, hsw, by omega⟩, hrv, ?_⟩
    unfold bP.L2
    refine loop1 (σ := Nat) (fun j => .int .i64 j) (fun j => [.box (.agg [.sl false (.ints .i64 vol'), .sl false (.ints .i64 per), .sl false (.pends pend)]), .box (.agg [.str key, .int .i64 7, .int .i64 block, .int .i64 to_, .agg [.int .i64 sb, .int .i64 st, .int .i64 sa, .sl false (.ints .i64 sr), .bool so], .str val, .bool found]), .box (.agg [.sl false (.ints .i64 vol'), .sl false (.ints .i64 m_per), .sl false (.pends m_pend)]), .box (.agg [.sl false (.ints .i64 vol'), .sl false (.ints .i64 per'), .sl false (.pends pend')]), .box (.agg [.str key', .int .i64 phase', .int .i64 block', .int .i64 to', .agg [.int .i64 sb', .int .i64 st', .int .i64 sa', .sl false (.ints .i64 sr'), .bool so'], .str val', .bool found'])]) (fun j => (pend').length - j) (fun j => j ≤ (pend').length) 0 rfl rfl (Nat.zero_le _) ?_
    intro I2 back2 j hj
    by_cases hjl : j < (pend').length
    · have hb2 := back2 (j + 1) (n := (pend').length - j) (by omega) rfl rfl (by omega)
      have hmem := gH (pend') j ⟨0, 0, false⟩ hjl
      have hg := hrg _ hmem
      have hline : 0 ≤ block → block < 256 → lineOf ((pend').getD j ⟨0, 0, false⟩).at_ ≠ IntKind.i64.wrap (IntKind.i64.wrap (2 * block) + 1) := fun h0 h1 => by
        rw [w64 (n := 2 * block) (by omega) (by omega), w64 (by omega) (by omega)]; exact (f6 h0 h1).2 rfl _ hmem
      unfold lineOf at hline
      have e1 : decide ((j : Int) < ((pend').length : Int)) = true := decide_eq_true (by omega)
      by_cases h0 : 0 ≤ block
      · by_cases h1 : block < 256
        · have hl := hline h0 h1
          simp only [e1, h0, h1, hl, decide_false, decide_true, aA, wnext (show j < 4611686018427387904 by omega), aA, gq, Int.reduceEq, Int.reduceLT, Int.reduceLE, implies_true, reduceCtorEq, if_true, if_false, go_sem, Nat.reduceEqDiff, Nat.reduceLT, Nat.reduceAdd, Nat.reduceSub, Nat.reduceLeDiff, List.reduceReplicate, Int.reduceToNat] at hb2 ⊢
          exact ⟨⟨by omega, by omega⟩, hb2⟩
        · simp only [e1, h0, h1, decide_false, decide_true, aA, wnext (show k < 4611686018427387904 by omega), aA, gq, Int.reduceEq, Int.reduceLT, Int.reduceLE, implies_true, reduceCtorEq, if_true, if_false, go_sem, Nat.reduceEqDiff, Nat.reduceLT, Nat.reduceAdd, Nat.reduceSub, Nat.reduceLeDiff, List.reduceReplicate, Int.reduceToNat] at hb ⊢
          exact hb
      · simp only [e1, h0, decide_false, decide_true, aA, wnext (show k < 4611686018427387904 by omega), aA, gq, Int.reduceEq, Int.reduceLT, Int.reduceLE, implies_true, reduceCtorEq, if_true, if_false, go_sem, Nat.reduceEqDiff, Nat.reduceLT, Nat.reduceAdd, Nat.reduceSub, Nat.reduceLeDiff, List.reduceReplicate, Int.reduceToNat] at hb ⊢
        exact hb
    · have e1 : decide ((j : Int) < ((pend').length : Int)) = false := decide_eq_false (by omega)
      simp only [e1, decide_false, decide_true, aA, wnext (show k < 4611686018427387904 by omega), aA, gq, Int.reduceEq, Int.reduceLT, Int.reduceLE, implies_true, reduceCtorEq, if_true, if_false, go_sem, Nat.reduceEqDiff, Nat.reduceLT, Nat.reduceAdd, Nat.reduceSub, Nat.reduceLeDiff, List.reduceReplicate, Int.reduceToNat] at hb ⊢
      exact hb
  · simp only [Mm.V, memV, Rd.V, Sk.V, hN, hNw, d1, dE.C, hst, bA.C, d2, p8, p6, p5, p7, decide_true, decide_false, aA, aA, gq, Int.reduceEq, Int.reduceLT, Int.reduceLE, implies_true, reduceCtorEq, if_true, if_false, go_sem, Nat.reduceEqDiff, Nat.reduceLT, Nat.reduceAdd, Nat.reduceSub, Nat.reduceLeDiff, List.reduceReplicate, Int.reduceToNat] at hb ⊢
    refine ⟨⟨hsm, hpp, hsw, by omega⟩, hrv, ?_⟩
    unfold bP.L2
    refine loop1 (σ := Nat) (fun j => .int .i64 j) (fun j => [.box (.agg [.sl false (.ints .i64 vol'), .sl false (.ints .i64 per), .sl false (.pends pend)]), .box (.agg [.str key, .int .i64 phase, .int .i64 block, .int .i64 to_, .agg [.int .i64 sb, .int .i64 st, .int .i64 sa, .sl false (.ints .i64 sr), .bool so], .str val, .bool found]), .box (.agg [.sl false (.ints .i64 vol'), .sl false (.ints .i64 m_per), .sl false (.pends m_pend)]), .box (.agg [.sl false (.ints .i64 vol'), .sl false (.ints .i64 per'), .sl false (.pends pend')]), .box (.agg [.str key', .int .i64 phase', .int .i64 block', .int .i64 to', .agg [.int .i64 sb', .int .i64 st', .int .i64 sa', .sl false (.ints .i64 sr'), .bool so'], .str val', .bool found'])]) (fun j => (pend').length - j) (fun j => j ≤ (pend').length) 0 rfl rfl (Nat.zero_le _) ?_
    intro I2 back2 j hj
    by_cases hjl : j < (pend').length
    · have hb2 := back2 (j + 1) (n := (pend').length - j) (by omega) rfl rfl (by omega)
      have hmem := gH (pend') j ⟨0, 0, false⟩ hjl
      have hg := hrg _ hmem
      have hline : 0 ≤ block → block < 256 → lineOf ((pend').getD j ⟨0, 0, false⟩).at_ ≠ -1 := fun h0 h1 => by
        exact hneg _ hg.1 (by omega)
      unfold lineOf at hline
      have e1 : decide ((j : Int) < ((pend').length : Int)) = true := decide_eq_true (by omega)
      by_cases h0 : 0 ≤ block
      · by_cases h1 : block < 256
        · have hl := hline h0 h1
          simp only [e1, h0, h1, hl, decide_false, decide_true, aA, wnext (show j < 4611686018427387904 by omega), aA, gq, Int.reduceEq, Int.reduceLT, Int.reduceLE, implies_true, reduceCtorEq, if_true, if_false, go_sem, Nat.reduceEqDiff, Nat.reduceLT, Nat.reduceAdd, Nat.reduceSub, Nat.reduceLeDiff, List.reduceReplicate, Int.reduceToNat] at hb2 ⊢
          exact ⟨⟨by omega, by omega⟩, hb2⟩
        · simp only [e1, h0, h1, decide_false, decide_true, aA, wnext (show k < 4611686018427387904 by omega), aA, gq, Int.reduceEq, Int.reduceLT, Int.reduceLE, implies_true, reduceCtorEq, if_true, if_false, go_sem, Nat.reduceEqDiff, Nat.reduceLT, Nat.reduceAdd, Nat.reduceSub, Nat.reduceLeDiff, List.reduceReplicate, Int.reduceToNat] at hb ⊢
          exact hb
      · simp only [e1, h0, decide_false, decide_true, aA, wnext (show k < 4611686018427387904 by omega), aA, gq, Int.reduceEq, Int.reduceLT, Int.reduceLE, implies_true, reduceCtorEq, if_true, if_false, go_sem, Nat.reduceEqDiff, Nat.reduceLT, Nat.reduceAdd, Nat.reduceSub, Nat.reduceLeDiff, List.reduceReplicate, Int.reduceToNat] at hb ⊢
        exact hb
    · have e1 : decide ((j : Int) < ((pend').length : Int)) = false := decide_eq_false (by omega)
      simp only [e1, decide_false, decide_true, aA, wnext (show k < 4611686018427387904 by omega), aA, gq, Int.reduceEq, Int.reduceLT, Int.reduceLE, implies_true, reduceCtorEq, if_true, if_false, go_sem, Nat.reduceEqDiff, Nat.reduceLT, Nat.reduceAdd, Nat.reduceSub, Nat.reduceLeDiff, List.reduceReplicate, Int.reduceToNat] at hb ⊢
      exact hb
theorem ReadKeeps_ok : Ok Tryz.prog jE := ctx_ok (by simpa using ⟨bM.spec, bQ.spec, cN.spec, dE.spec, bA.spec, bS.spec⟩) (by simp) _
theorem ReadKeeps_law (m : AV) (r : AV) (n : Int) (g_m : GoodV T_api_Mem m) (g_r : GoodV T_api_Reader r) (w_n : (Lit.int .u8 n).wf = true) : funW jE Tryz.f3 [m, r, (.int .u8 n)] [] Told := by
  obtain ⟨_, rfl, _, _, rfl, ⟨m_vol, rfl, k_m_vol, w_m_vol, n_m_vol⟩, _, _, rfl, ⟨m_per, rfl, k_m_per, w_m_per, n_m_per⟩, _, _, rfl, ⟨m_pend, rfl, k_m_pend, w_m_pend, n_m_pend⟩, rfl⟩ := g_m
  obtain ⟨_, rfl, _, _, rfl, ⟨r_key, rfl, w_r_key⟩, _, _, rfl, ⟨r_phase, rfl, w_r_phase⟩, _, _, rfl, ⟨r_block, rfl, w_r_block⟩, _, _, rfl, ⟨r_to, rfl, w_r_to⟩, _, _, rfl, ⟨_, rfl, _, _, rfl, ⟨r_seek_block, rfl, w_r_seek_block⟩, _, _, rfl, ⟨r_seek_turn, rfl, w_r_seek_turn⟩, _, _, rfl, ⟨r_seek_at, rfl, w_r_seek_at⟩, _, _, rfl, ⟨r_seek_refs, rfl, k_r_seek_refs, w_r_seek_refs, n_r_seek_refs⟩, _, _, rfl, ⟨r_seek_over, rfl⟩, rfl⟩, _, _, rfl, ⟨r_val, rfl, w_r_val⟩, _, _, rfl, ⟨r_found, rfl⟩, rfl⟩ := g_r
  obtain ⟨m_vol, rfl⟩ := nN k_m_vol
  obtain ⟨m_per, rfl⟩ := nN k_m_per
  obtain ⟨m_pend, rfl⟩ := yR k_m_pend
  obtain ⟨r_seek_refs, rfl⟩ := nN k_r_seek_refs
  rw [jE, bP.eq]
  exact xP m_vol m_per m_pend r_key r_phase r_block r_to r_seek_block r_seek_turn r_seek_at r_seek_refs r_seek_over r_val r_found n w_m_vol n_m_vol w_m_per n_m_per w_m_pend n_m_pend w_r_key w_r_phase w_r_block w_r_to w_r_seek_block w_r_seek_turn w_r_seek_at w_r_seek_refs n_r_seek_refs w_r_val w_n
end Lam
